/-
  Part of the abstract machine for this program.
-/
import Derived.Test.YtombnpednnngoaaDoorDnF
import Derived.LoopN
import Derived.Scope

section
namespace Go.Dn

/-! ## code -/
inductive Ex where
  | normal
  | exit (id : Nat)
  | ret

def Ex.to : Ex → Exit
  | .normal => .normal
  | .exit id => .exit id
  | .ret => .ret

abbrev Inf := Nat → Option (List Nat × List Nat)

/-- what is kept from round to round -/
def keepSl (ks : Option (List Nat)) (σ : Sl) : Sl := match ks with
  | none => σ
  | some l => σ.filter fun x => l.elem x.1

def firstReg : Code → Nat
  | .region id _ _ => id
  | .seq a _ => firstReg a
  | .cond _ a _ => firstReg a
  | .block _ c => firstReg c
  | .loop c => firstReg c
  | .scope c => firstReg c
  | _ => 0

def keepOf (inf : Inf) (c : Code) : Option (List Nat) := (inf (1000000 + firstReg c)).map (·.1)

def keepC (inf : Inf) (c : Code) : Option (List Nat) := (inf (3000000 + firstReg c)).map (·.1)

def loopD (ks : Option (List Nat)) (f : Sl → Hp → Option (Ex × Sl × Hp)) : Nat → Sl → Hp → Option (Ex × Sl × Hp)
  | 0, _, _ => none
  | n + 1, σ, A => (f σ A).bind fun r => match r.1 with
    | .normal => loopD ks f n (keepSl ks r.2.1) r.2.2
    | e => some (e, keepSl ks r.2.1, r.2.2)

def exec (E : Env) (call : CallT) (N : Nat) (inf : Inf) (lf : Nat) : Code → Sl → Hp → Option (Ex × Sl × Hp)
  | .skip, σ, A => some (.normal, σ, A)
  | .region id ops draw, σ, A => bif draw then (inf id).bind fun x => drawRun E call N ops ops.toList x.1 x.2 σ [] (fun σ A => some (.normal, σ, A)) A
      else runIx E call N ops.toList (List.range ops.size) σ (fun σ A => some (.normal, σ, A)) A
  | .seq a b, σ, A => (exec E call N inf lf a σ A).bind fun r => match r.1 with
    | .normal => exec E call N inf lf b r.2.1 r.2.2
    | _ => some r
  | .cond c a b, σ, A => (evO E σ c).bind fun v => match v with
    | .bool t => (bif t then exec E call N inf lf a σ A else exec E call N inf lf b σ A).bind fun r => some (r.1, keepSl (keepC inf a) r.2.1, r.2.2)
    | _ => none
  | .block id c, σ, A => (exec E call N inf lf c σ A).bind fun r => match r.1 with
    | .exit j => bif Nat.beq j id then some (.normal, r.2) else some r
    | _ => some r
  | .loop c, σ, A => loopD (keepOf inf c) (exec E call N inf lf c) lf (keepSl (keepOf inf c) σ) A
  | .exit id, σ, A => some (.exit id, σ, A)
  | .scope c, σ, A => exec E call N inf lf c σ A
  | .label _, σ, A => some (.normal, σ, A)
  | .ret, σ, A => some (.ret, σ, A)
  | _, _, _ => none

def okCode (E : Env) (inf : Inf) : Code → Bool
  | .region id ops draw => !draw || match inf id with
    | some x => statOk ops x.1 x.2 && bar E ops x.2
    | none => true
  | .seq a b => okCode E inf a && okCode E inf b
  | .cond _ a b => okCode E inf a && okCode E inf b
  | .block _ c => okCode E inf c
  | .loop c => okCode E inf c
  | .scope c => okCode E inf c
  | _ => true

section
variable [Reps] {P : Program} {E : Env} {call : CallT} {N : Nat} {inf : Inf} {lf : Nat}

/-- what a run of code makes sure of -/
def Goes [Reps] (P : Program) (E : Env) (N : Nat) (c : Code) (f : Sl → Hp → Option (Ex × Sl × Hp)) : Prop :=
  ∀ (ρ : Gh) (σ : Sl) (A : Hp) (a : Act) (w : World) (e : Ex) (σ' : Sl) (A' : Hp) (Q : Exit → Act → World → Prop), SS P E N ρ σ A a w → f σ A = some (e, σ', A') →
    (∀ ρ' a' w', SS P E N ρ' σ' A' a' w' → ExtX A ρ w A' ρ' w' → Q e.to a' w') → c.wp P Q a w

theorem SS.keep {ρ : Gh} {σ : Sl} {A : Hp} {a : Act} {w : World} (h : SS P E N ρ σ A a w) (ks : Option (List Nat)) : SS P E N ρ (keepSl ks σ) A a w := by
  cases ks with
  | none => exact h
  | some l =>
    refine ⟨⟨h.sr.size, fun t v hv => h.sr.get t v ?_, h.sr.defers, h.sr.glob⟩, h.rel⟩
    have key : ∀ (σ : Sl), Sl.get (σ.filter fun x => l.elem x.1) t = some v → Sl.get σ t = some v := by
      intro σ
      induction σ with
      | nil => intro h; exact h
      | cons x σ ih =>
        obtain ⟨u, y⟩ := x
        intro hh
        simp only [List.filter_cons] at hh
        split at hh
        · simp only [Sl.get] at hh ⊢
          cases hb : Nat.beq u t with
          | true => rw [hb] at hh; exact hh
          | false => rw [hb] at hh; exact ih hh
        · rename_i hne
          simp only [Sl.get]
          cases hb : Nat.beq u t with
          | true =>
            exfalso
            have hut : u = t := by simpa using hb
            subst hut
            have hno : ∀ (τ : Sl), Sl.get (τ.filter fun x => l.elem x.1) u = none := by
              intro τ
              induction τ with
              | nil => rfl
              | cons z τ ih2 =>
                obtain ⟨z1, z2⟩ := z
                simp only [List.filter_cons]
                split
                · rename_i hz
                  simp only [Sl.get]
                  have : z1 ≠ u := fun e => by subst e; exact hne hz
                  rw [Tr.beq_ff this]
                  exact ih2
                · exact ih2
            rw [hno] at hh; cases hh
          | false => exact ih hh
    exact key σ hv

theorem goes_loop {c : Code} {f : Sl → Hp → Option (Ex × Sl × Hp)} (h : Goes P E N c f) (ks : Option (List Nat)) (n : Nat) : Goes P E N (.loop c) (loopD ks f n) := by
  intro ρ σ A a w e σ' A' Q hs hf hk
  refine wp_loop_rounds n ?_
  induction n generalizing ρ σ A a w with
  | zero => cases hf
  | succ n ih =>
    simp only [loopD] at hf
    replace hf := bind_some hf
    obtain ⟨⟨e1, σ1, A1⟩, h1, hf⟩ := hf
    rw [rounds_succ]
    refine h ρ σ A a w e1 σ1 A1 _ hs h1 fun ρ1 a1 w1 hs1 hx1 => ?_
    cases e1 with
    | normal =>
      simp only at hf
      exact ih ρ1 _ A1 a1 w1 (hs1.keep ks) hf fun ρ' a' w' hs' hx' => hk ρ' a' w' hs' (hx1.trans hx')
    | exit id =>
      cases hf
      exact hk ρ1 a1 w1 (hs1.keep ks) hx1
    | ret =>
      cases hf
      exact hk ρ1 a1 w1 (hs1.keep ks) hx1

theorem exec_sound (hT : E.T.ok P) (hm : P.follows .mixedOrders = true) (hC : CallOK P call) : ∀ (c : Code), okCode E inf c = true → Goes P E N c (exec E call N inf lf c) := by
  intro c
  induction c with
  | skip =>
    intro _ ρ σ A a w e σ' A' Q hs hf hk
    cases hf
    exact wp_skip (hk _ _ _ hs (ExtX.refl _ _ _))
  | region id ops draw =>
    intro hok ρ σ A a w e σ' A' Q hs hf hk
    cases draw with
    | false =>
      simp only [exec, cond_false] at hf
      refine wp_region (runIx_sound hT hC _ ρ σ A a w hs hf fun ρ1 σ1 A1 a1 w1 hs1 hx1 hk1 => ?_)
      cases hk1
      exact hk _ _ _ hs1 hx1
    | true =>
      simp only [exec, cond_true] at hf
      replace hf := bind_some hf
      obtain ⟨⟨ms, ord⟩, h1, hf⟩ := hf
      simp only [okCode, Bool.not_true, Bool.false_or, h1, Bool.and_eq_true] at hok
      refine drawRun_region hT hm hC hok.1 hok.2 hs.sr hs.rel hf fun ρ1 σ1 A1 a1 w1 hs1 hr1 hx1 hk1 => ?_
      cases hk1
      exact hk _ _ _ ⟨hs1, hr1⟩ hx1
  | seq x y hx hy =>
    intro hok ρ σ A a w e σ' A' Q hs hf hk
    simp only [okCode, Bool.and_eq_true] at hok
    simp only [exec] at hf
    replace hf := bind_some hf
    obtain ⟨⟨e1, σ1, A1⟩, h1, hf⟩ := hf
    refine wp_seq (hx hok.1 ρ σ A a w e1 σ1 A1 _ hs h1 fun ρ1 a1 w1 hs1 hx1 => ?_)
    cases e1 with
    | normal =>
      simp only at hf
      exact hy hok.2 ρ1 σ1 A1 a1 w1 e σ' A' Q hs1 hf fun ρ' a' w' hs' hx' => hk ρ' a' w' hs' (hx1.trans hx')
    | exit id => cases hf; exact hk ρ1 a1 w1 hs1 hx1
    | ret => cases hf; exact hk ρ1 a1 w1 hs1 hx1
  | cond c x y hx hy =>
    intro hok ρ σ A a w e σ' A' Q hs hf hk
    simp only [okCode, Bool.and_eq_true] at hok
    simp only [exec] at hf
    replace hf := bind_some hf
    obtain ⟨v, h1, hf⟩ := hf
    split at hf
    · rename_i t
      have hv := evO_sound hs.sr h1
      have hb : a.eval c = .bool t := by generalize a.eval c = u at hv; cases hv; rfl
      replace hf := bind_some hf
      obtain ⟨⟨e1, σ1, A1⟩, h2, hf⟩ := hf
      cases hf
      cases t with
      | true => exact wp_cond_true hb (hx hok.1 ρ σ A a w _ _ _ Q hs h2 fun ρ1 a1 w1 hs1 hx1 => hk ρ1 a1 w1 (hs1.keep _) hx1)
      | false => exact wp_cond_false hb (hy hok.2 ρ σ A a w _ _ _ Q hs h2 fun ρ1 a1 w1 hs1 hx1 => hk ρ1 a1 w1 (hs1.keep _) hx1)
    · cases hf
  | block id c hc =>
    intro hok ρ σ A a w e σ' A' Q hs hf hk
    simp only [okCode] at hok
    simp only [exec] at hf
    replace hf := bind_some hf
    obtain ⟨⟨e1, σ1, A1⟩, h1, hf⟩ := hf
    refine wp_block (hc hok ρ σ A a w e1 σ1 A1 _ hs h1 fun ρ1 a1 w1 hs1 hx1 => ?_)
    cases e1 with
    | normal => cases hf; exact hk ρ1 a1 w1 hs1 hx1
    | exit j =>
      simp only at hf
      simp only [Ex.to, Exit.inBlock]
      cases hb : Nat.beq j id with
      | true =>
        rw [hb] at hf; cases hf
        rw [if_pos (by simpa using hb)]
        exact hk ρ1 a1 w1 hs1 hx1
      | false =>
        rw [hb] at hf; cases hf
        rw [if_neg (by intro e; subst e; simp at hb)]
        exact hk ρ1 a1 w1 hs1 hx1
    | ret => cases hf; exact hk ρ1 a1 w1 hs1 hx1
  | loop c hc => exact fun hok ρ σ A a w e σ' A' Q hs hf hk => goes_loop (hc hok) _ lf ρ _ A a w e σ' A' Q (hs.keep _) hf hk
  | exit id =>
    intro _ ρ σ A a w e σ' A' Q hs hf hk
    cases hf
    exact wp_exit (hk _ _ _ hs (ExtX.refl _ _ _))
  | scope c hc =>
    intro hok ρ σ A a w e σ' A' Q hs hf hk
    refine wp_scope_straight (hc hok ρ σ A a w e σ' A' _ hs hf fun ρ1 a1 w1 hs1 hx1 => ?_)
    have := hk ρ1 a1 w1 hs1 hx1
    cases e <;> exact this
  | label l =>
    intro _ ρ σ A a w e σ' A' Q hs hf hk
    cases hf
    exact wp_label (hk _ _ _ hs (ExtX.refl _ _ _))
  | ret =>
    intro _ ρ σ A a w e σ' A' Q hs hf hk
    cases hf
    exact wp_ret (hk _ _ _ hs (ExtX.refl _ _ _))
  | _ =>
    intro _ ρ σ A a w e σ' A' Q hs hf hk
    simp [exec] at hf

/-! ## functions -/
def slotsOf : Nat → List Value → Sl
  | _, [] => []
  | i, v :: l => (i, v) :: slotsOf (Nat.succ i) l

def resD (E : Env) (A : Hp) (σ : Sl) : List ResultVar → Option (List Value)
  | [] => some []
  | .tmp t :: l => (σ.get t).bind fun v => (resD E A σ l).bind fun vs => some (v :: vs)
  | .cell ad t :: l => (σ.get ad).bind fun p => (dload E t A p).bind fun x => (resD E A σ l).bind fun vs => some (x.1 :: vs)

def resV : List Value → Value
  | [v] => v
  | vs => .tuple vs.toArray

def execFn (E : Env) (call : CallT) (inf : Inf) (lf : Nat) (fn : Func) (args : List Value) (A : Hp) : Option (Value × Hp) :=
  fn.body.bind fun c => bif Nat.ble args.length fn.ntmps then (exec E call fn.ntmps inf lf c (slotsOf 0 args) A).bind fun r => match r.1 with
    | .exit _ => none
    | _ => (resD E r.2.2 r.2.1 fn.results.toList).bind fun vs => some (resV vs, r.2.2)
    else none

end

theorem slotsOf_get : ∀ (l : List Value) (i t : Nat) (v : Value), (slotsOf i l).get t = some v → ∃ j, t = i + j ∧ l[j]? = some v
  | [], _, _, _, h => by cases h
  | x :: l, i, t, v, h => by
    simp only [slotsOf, Sl.get] at h
    by_cases e : i = t
    · subst e
      rw [Tr.beq_tt] at h
      cases h
      exact ⟨0, rfl, rfl⟩
    · rw [Tr.beq_ff e] at h
      obtain ⟨j, rfl, h2⟩ := slotsOf_get l _ t v h
      exact ⟨j + 1, by omega, by simpa using h2⟩

theorem resD_sound {P : Program} {E : Env} (hT : E.T.ok P) {N : Nat} {ρ : Gh} {σ : Sl} {a : Act} {A : Hp} {w : World} (h : SR P E ρ.ρ N σ a) (hA : Rel P ρ.ρ A w) : ∀ (l : List ResultVar) (vs : List Value), resD E A σ l = some vs →
    ∃ us : List Value, us.length = vs.length ∧ (∀ (j : Nat) u v, vs[j]? = some u → us[j]? = some v → VR ρ.ρ u v) ∧
      (l.mapM (m := Sem) fun
        | .tmp t => pure (a.tmps.getD t undef)
        | .cell ad t => do loadVar t (← asAddr (a.tmps.getD ad undef))).run P w = .ok us w
  | [], vs, hd => by cases hd; exact ⟨[], rfl, by simp, rfl⟩
  | .cell ad t :: l, vs, hd => by
    simp only [resD] at hd
    replace hd := bind_some hd
    obtain ⟨p, h1, hd⟩ := hd
    replace hd := bind_some hd
    obtain ⟨⟨v, ls⟩, h0, hd⟩ := hd
    replace hd := bind_some hd
    obtain ⟨vs', h2, hd⟩ := hd
    cases hd
    obtain ⟨us, k1, k2, k3⟩ := resD_sound hT h hA l vs' h2
    obtain ⟨p', h3, h4⟩ := h.get ad p h1
    obtain ⟨v', q1, q2⟩ := dload_sound hT hA h4 h0
    refine ⟨v' :: us, by simp [k1], fun j u x hu hx => ?_, ?_⟩
    · cases j with
      | zero => simp at hu hx; subst hu; subst hx; exact q1
      | succ j => exact k2 j u x (by simpa using hu) (by simpa using hx)
    · have e : a.tmps.getD ad undef = p' := by rw [Array.getD_eq_getD_getElem?, h3]; rfl
      have hp : ∃ ad', p' = .pointer (some ad') := by
        unfold dload at h0
        replace h0 := bind_some h0
        obtain ⟨i, _, h0⟩ := h0
        split at h0
        · cases h4; exact ⟨_, rfl⟩
        · cases h0
      obtain ⟨ad', rfl⟩ := hp
      have q3 : (loadVar t ad').run P w = .ok v' w := by
        simpa [Instr.loadAt, Instr.sureAddr] using q2
      have ha : (asAddr (.pointer (some ad'))).run P w = .ok ad' w := rfl
      simp only [List.mapM_cons, Sem.run_bind, Sem.run_pure, Result.andThen_ok, k3, e, ha, q3]
  | .tmp t :: l, vs, hd => by
    simp only [resD] at hd
    replace hd := bind_some hd
    obtain ⟨v, h1, hd⟩ := hd
    replace hd := bind_some hd
    obtain ⟨vs', h2, hd⟩ := hd
    cases hd
    obtain ⟨us, k1, k2, k3⟩ := resD_sound hT (w := w) h hA l vs' h2
    obtain ⟨v', h3, h4⟩ := h.get t v h1
    refine ⟨v' :: us, by simp [k1], fun j u x hu hx => ?_, ?_⟩
    · cases j with
      | zero => simp at hu hx; subst hu; subst hx; exact h4
      | succ j => exact k2 j u x (by simpa using hu) (by simpa using hx)
    · have e : a.tmps.getD t undef = v' := by rw [Array.getD_eq_getD_getElem?, h3]; rfl
      simp only [List.mapM_cons, Sem.run_bind, Sem.run_pure, Result.andThen_ok, k3, e]

section
variable [Reps] {P : Program} {E : Env} {call : CallT} {N : Nat} {inf : Inf} {lf : Nat}

theorem execFn_sound (hT : E.T.ok P) (hm : P.follows .mixedOrders = true) (hC : CallOK P call) {f : FuncId} {fn : Func} (hf : P.funcs[f]? = some fn)
    (hok : (fn.body.map (okCode E inf)).getD true = true) {args : List Value} {A A' : Hp} {v : Value} (hd : execFn E call inf lf fn args A = some (v, A'))
    {ρ : Gh} {w : World} {args' : Array Value} (hrel : RelX P ρ A w) (har : AR ρ.ρ args.toArray args') (hG : ∀ g, g < E.G → g < P.globals.size) :
    Calls P f args' w fun e w' => ∃ v', e = .returned v' ∧ After P ρ A w v A' v' w' := by
  unfold execFn at hd
  replace hd := bind_some hd
  obtain ⟨c, h1, hd⟩ := hd
  cases hb : Nat.ble args.length fn.ntmps with
  | false => rw [hb] at hd; cases hd
  | true =>
    rw [hb] at hd
    simp only [cond_true] at hd
    replace hd := bind_some hd
    obtain ⟨⟨e, σ', A1⟩, h2, hd⟩ := hd
    rw [h1] at hok
    have hle : args.length ≤ fn.ntmps := by simpa using hb
    have hsz : args'.size = args.length := by have := har.1; simpa using this.symm
    have hsr : SR P E ρ.ρ fn.ntmps (slotsOf 0 args) { tmps := args' ++ Array.replicate (fn.ntmps - args'.size) undef, defers := [] } := by
      refine ⟨by simp; omega, fun t u hu => ?_, rfl, fun g hg => hrel.rel.glob g (hG g hg)⟩
      obtain ⟨j, rfl, hj⟩ := slotsOf_get _ _ _ _ hu
      have hjl : j < args.length := (List.getElem?_eq_some_iff.1 hj).1
      refine ⟨args'[j]'(by omega), ?_, har.2 j u _ (by simpa using hj) (by simp)⟩
      simp only [Nat.zero_add]
      rw [Array.getElem?_append_left (by omega)]
      simp
    refine calls_of_wp hf h1 (exec_sound hT hm hC c hok ρ _ A _ w e σ' A1 _ ⟨hsr, hrel⟩ h2 fun ρ' a' w' hs' hx' => ?_)
    have key : ∀ hh : (resD E A1 σ' fn.results.toList).bind (fun vs => some (resV vs, A1)) = some (v, A'), a'.defers = [] ∧ ∃ v', (results fn a'.tmps).run P w' = .ok v' w' ∧ ∃ v'', Ending.returned v' = .returned v'' ∧ After P ρ A w v A' v'' w' := by
      intro hh
      replace hh := bind_some hh
      obtain ⟨vs, h3, hh⟩ := hh
      cases hh
      obtain ⟨us, k1, k2, k3⟩ := resD_sound hT (w := w') hs'.sr hs'.rel.rel _ _ h3
      refine ⟨hs'.sr.defers, (if h : us.toArray.size = 1 then us.toArray[0] else .tuple us.toArray), ?_, _, rfl, ρ', ?_, hs'.rel, hx'⟩
      · unfold results
        rw [Array.mapM_eq_mapM_toList]
        have k4 := k3
        simp only [Sem.run_bind, Sem.run_pure, Sem.run_map]
        erw [k4]
        rfl
      · match vs, us, k1, k2 with
        | [], [], _, _ => exact .tuple _ _ rfl (by simp)
        | [x], [y], _, k2 => exact k2 0 x y rfl rfl
        | x :: y :: vs, z :: t :: us, k1, k2 =>
          simp only [List.size_toArray, List.length_cons]
          rw [dif_neg (by omega)]
          exact .tuple _ _ (by simpa using k1.symm) (fun j u v hu hv => k2 j u v (by simpa using hu) (by simpa using hv))
    cases e with
    | normal => exact key hd
    | exit id => cases hd
    | ret => exact key hd

end
end Go.Dn
end

section
namespace Go.Dn

def flatOf (P : Program) (t : Nat) (d : TypeDesc) : Bool :=
  !P.stoodInHeld t && !P.eqGuardType P.depth t && match d with
    | .struct fs => fs.toList.all fun f => !(f.name == "_")
    | _ => true

/-- the table's row of a type, read off the program -/
def tiOf (P : Program) (t : Nat) : Option TI :=
  (P.underlying t).bind fun d => (P.info? t).map fun x => ⟨d, x.size, x.bytes, x.zero, flatOf P t d⟩

theorem tiOf_ok (P : Program) : TT.ok (tiOf P) P := by
  have key : ∀ t i, tiOf P t = some i → ∃ d x, P.underlying t = some d ∧ P.info? t = some x ∧ i = ⟨d, x.size, x.bytes, x.zero, flatOf P t d⟩ := by
    intro t i h
    unfold tiOf at h
    replace h := bind_some h
    obtain ⟨d, h1, h⟩ := h
    cases hx : P.info? t with
    | none => rw [hx] at h; cases h
    | some x => rw [hx] at h; cases h; exact ⟨d, x, h1, rfl, rfl⟩
  refine ⟨fun t i h => ?_, fun t i h => ?_, fun t i h hf => ?_⟩
  · obtain ⟨d, x, h1, h2, rfl⟩ := key t i h; exact h1
  · obtain ⟨d, x, h1, h2, rfl⟩ := key t i h; exact ⟨x, h2, rfl, rfl, rfl⟩
  · obtain ⟨d, x, h1, h2, rfl⟩ := key t i h
    simp only [flatOf, Bool.and_eq_true, Bool.not_eq_true'] at hf
    refine ⟨hf.1.1, hf.1.2, fun fs e f hfm => ?_⟩
    simp only at e
    subst e
    have := hf.2
    simp only [List.all_eq_true, Bool.not_eq_true', beq_eq_false_iff_ne] at this
    exact this f hfm

/-- a table whose rows are written out -/
def tabT (l : List (Nat × TI)) : Tr TI := l.foldl (fun t x => t.upd (some x.2) (x.1 + 1) x.1) .nil

theorem TT.ok.mono {T T' : TT} {P : Program} (h : T.ok P) (hs : ∀ t i, T' t = some i → T t = some i) : T'.ok P :=
  ⟨fun t i ht => h.und t i (hs t i ht), fun t i ht => h.info t i (hs t i ht), fun t i ht => h.flat t i (hs t i ht)⟩

theorem tabT_get : ∀ (l : List (Nat × TI)) (T0 : Tr TI) (t : Nat) (i : TI), (l.foldl (fun t x => t.upd (some x.2) (x.1 + 1) x.1) T0).get t = some i → (t, i) ∈ l ∨ T0.get t = some i
  | [], T0, t, i, h => .inr h
  | x :: l, T0, t, i, h => by
    simp only [List.foldl_cons] at h
    rcases tabT_get l _ t i h with k | k
    · exact .inl (List.mem_cons_of_mem _ k)
    · rw [Tr.get_upd _ _ _ _ _ (by omega)] at k
      by_cases e : t = x.1
      · rw [if_pos e] at k; cases k; subst e; exact .inl (by simp)
      · rw [if_neg e] at k; exact .inr k

end Go.Dn
end

section
namespace Go.Dn

/-! ## tables that are written out as tries -/
def Tr.items {α : Type} : Tr α → Nat → Nat → List (Nat × α)
  | .nil, _, _ => []
  | .node l v r, a, b => (match v with
    | some x => [(b, x)]
    | none => []) ++ (l.items (2 * a) (a + b) ++ r.items (2 * a) (2 * a + b))

theorem Tr.items_get {α : Type} : ∀ (t : Tr α) (n a b : Nat) (x : α), t.get n = some x → (a * n + b, x) ∈ t.items a b
  | .nil, n, a, b, x, h => by simp at h
  | .node l v r, n, a, b, x, h => by
    simp only [Tr.get] at h
    simp only [Tr.items, List.mem_append]
    by_cases h0 : n = 0
    · subst h0
      rw [beq_tt] at h
      simp only [cond_true] at h
      subst h
      simp
    · rw [beq_ff h0] at h
      simp only [cond_false] at h
      by_cases h1 : n % 2 = 1
      · rw [h1, beq_tt] at h
        simp only [cond_true] at h
        have := Tr.items_get l _ (2 * a) (a + b) x h
        refine .inr (.inl ?_)
        have e : 2 * a * ((n - 1) / 2) + (a + b) = a * n + b := by
          have : n = 2 * ((n - 1) / 2) + 1 := by omega
          generalize (n - 1) / 2 = m at this
          subst this
          rw [Nat.mul_add, Nat.mul_comm 2 a, Nat.mul_assoc]; omega
        rwa [e] at this
      · rw [beq_ff h1] at h
        simp only [cond_false] at h
        have := Tr.items_get r _ (2 * a) (2 * a + b) x h
        refine .inr (.inr ?_)
        have e : 2 * a * ((n - 1) / 2) + (2 * a + b) = a * n + b := by
          have : n = 2 * ((n - 1) / 2) + 2 := by omega
          generalize (n - 1) / 2 = m at this
          subst this
          rw [Nat.mul_add, Nat.mul_comm 2 a, Nat.mul_assoc]; omega
        rwa [e] at this

theorem Tr.get_mem {α : Type} {t : Tr α} {n : Nat} {x : α} (h : t.get n = some x) : (n, x) ∈ t.items 1 0 := by
  have := Tr.items_get t n 1 0 x h
  simpa using this

theorem of_map_eq {α β : Type} {f g : α → β} : ∀ {l : List α}, l.map f = l.map g → ∀ x ∈ l, f x = g x
  | [], _, _, hx => by cases hx
  | y :: l, h, x, hx => by
    simp only [List.map_cons, List.cons.injEq] at h
    rcases List.mem_cons.1 hx with rfl | hx
    · exact h.1
    · exact of_map_eq h.2 x hx

theorem table_ok {P : Program} {t : Tr TI} (h : (t.items 1 0).map (fun x => tiOf P x.1) = (t.items 1 0).map fun x => some x.2) : TT.ok t.get P :=
  (tiOf_ok P).mono fun i x hx => of_map_eq h (i, x) (Tr.get_mem hx)

/-! ## many functions at once -/
structure Bk where
  E : Env
  fs : Tr Func
  infs : Tr (Tr (List Nat × List Nat))

def Bk.inf (B : Bk) (f : Nat) : Inf := fun id => (B.infs.get f).bind fun t => t.get id

structure Bk.Good (B : Bk) (P : Program) : Prop where
  tab : B.E.T.ok P
  mix : P.follows .mixedOrders = true
  fn : ∀ f fn, B.fs.get f = some fn → P.funcs[f]? = some fn ∧ fn.body.isSome = true ∧ (fn.name == "runtime.NumGoroutine") = false
  ok : ∀ f fn, B.fs.get f = some fn → (fn.body.map (okCode B.E (B.inf f))).getD true = true
  glob : B.E.G = P.globals.size

theorem Bk.good {B : Bk} {P : Program} {t : Tr TI} (e : B.E.T = t.get) (h1 : (t.items 1 0).map (fun x => tiOf P x.1) = (t.items 1 0).map fun x => some x.2) (h2 : P.follows .mixedOrders = true)
    (h3 : (B.fs.items 1 0).map (fun x => P.funcs[x.1]?) = (B.fs.items 1 0).map fun x => some x.2)
    (h4 : (B.fs.items 1 0).all (fun x => x.2.body.isSome && !(x.2.name == "runtime.NumGoroutine") && (x.2.body.map (okCode B.E (B.inf x.1))).getD true) = true)
    (h5 : B.E.G = P.globals.size) : B.Good P := by
  refine ⟨by rw [e]; exact table_ok h1, h2, fun f fn h => ?_, fun f fn h => ?_, h5⟩
  · have hm := Tr.get_mem h
    have k := of_map_eq h3 _ hm
    have k4 := List.all_eq_true.1 h4 _ hm
    simp only [Bool.and_eq_true, Bool.not_eq_true'] at k4
    exact ⟨k, k4.1.1, k4.1.2⟩
  · have k4 := List.all_eq_true.1 h4 _ (Tr.get_mem h)
    simp only [Bool.and_eq_true] at k4
    exact k4.2

/-- calls: first what the base knows, then the text -/
def callD (B : Bk) (base : CallT) : Nat → CallT
  | 0 => base
  | n + 1 => fun f args A => match base f args A with
    | some r => some r
    | none => (B.fs.get f).bind fun fn => execFn B.E (callD B base n) (B.inf f) n fn args A

theorem callD_ok [Reps] {B : Bk} {P : Program} (hB : B.Good P) {base : CallT} (hb : CallOK P base) : ∀ n, CallOK P (callD B base n)
  | 0 => hb
  | n + 1 => by
    have ih := callD_ok hB hb n
    refine ⟨fun f args A r h => ?_, fun f args A v A' h ρ w args' hr ha => ?_⟩
    · simp only [callD] at h
      split at h
      · rename_i r' h1
        exact hb.fn f args A _ h1
      · replace h := bind_some h
        obtain ⟨fn, h1, h⟩ := h
        obtain ⟨k1, k2, k3⟩ := hB.fn f fn h1
        exact ⟨fn, k1, k2, k3⟩
    · simp only [callD] at h
      split at h
      · rename_i r' h1
        cases h
        exact hb.calls f args A v A' h1 ρ w args' hr ha
      · replace h := bind_some h
        obtain ⟨fn, h1, h⟩ := h
        exact execFn_sound hB.tab hB.mix ih (hB.fn f fn h1).1 (hB.ok f fn h1) h hr ha (fun g hg => by rw [← hB.glob]; exact hg)

def noCalls : CallT := fun _ _ _ => none
theorem noCalls_ok [Reps] (P : Program) : CallOK P noCalls := ⟨fun _ _ _ _ h => (by cases h), fun _ _ _ _ _ h => (by cases h)⟩

end Go.Dn
end
