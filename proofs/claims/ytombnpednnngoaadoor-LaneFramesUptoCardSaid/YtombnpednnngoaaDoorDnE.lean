/-
  Part of the abstract machine for this program.
-/
import Derived.Test.YtombnpednnngoaaDoorDnD
import Derived.Test.YtombnpednnngoaaDoorDnA

section
namespace Go.Dn

/-! ## one operation -/
def drd (E : Env) (σ : Sl) (o : Oper) (A : Hp) : Option (Value × List Nat) :=
  match o.op with
  | .load t x => (evO E σ x).bind fun v => dload E t A v
  | .lookup t x k ok => (evO E σ x).bind fun v => (evO E σ k).bind fun u => dlookup E t A v u ok
  | .convert s d x => (evO E σ x).bind fun v => dstring E s d A v
  | .binOp op t x y _ => (evO E σ x).bind fun u => (evO E σ y).bind fun v => match u, v with
    | .pointer (some _), .pointer (some _) => dptrEq E op t A u v
    | _, _ => (dbin E op t (isC x || isC y) u v).map fun r => (r, [])
  | .call { callee := .builtin .len, args, argTypes } => (evs E σ args.toList).bind fun vs => match argTypes.toList, vs with
    | t :: _, [x] => (E.T t).bind fun i => match i.d with
      | .map _ _ => (mapOf A x).map fun (es, l) => (.int .i64 es.length, l)
      | _ => none
    | _, _ => none
  | _ => none

def deff (E : Env) (σ : Sl) (o : Oper) (A : Hp) : Option (Value × Hp) :=
  match o.op with
  | .store t x v => (evO E σ x).bind fun u => (evO E σ v).bind fun r => (dstore E t A u r).map fun A' => (undef, A')
  | .convert s d x => (evO E σ x).bind fun v => dmark E s d A v
  | .mapUpdate t m k v => (evO E σ m).bind fun u => (evO E σ k).bind fun r => (evO E σ v).bind fun s => (dmapUpdate E t A u r s).map fun A' => (undef, A')
  | .insert t m k v => (evO E σ m).bind fun u => (evO E σ k).bind fun r => (evO E σ v).bind fun s => (dmapUpdate E t A u r s).map fun A' => (undef, A')
  | .call { callee := .builtin .append, args, argTypes } => (evs E σ args.toList).bind fun vs => match argTypes.toList, vs with
    | [t, t2], [s, x] => dappend E t t2 A s x
    | _, _ => none
  | .call { callee := .builtin .copy, args, argTypes } => (evs E σ args.toList).bind fun vs => match argTypes.toList, vs with
    | [t, t2], [d, s] => dcopy E t t2 A d s
    | _, _ => none
  | .call { callee := .builtin .delete, args, argTypes } => (evs E σ args.toList).bind fun vs => match argTypes.toList, vs with
    | t :: _, [m, k] => (ddelete E t A m k).map fun A' => (undef, A')
    | _, _ => none
  | .call { callee := .builtin .clear, args, argTypes } => (evs E σ args.toList).bind fun vs => match argTypes.toList, vs with
    | [t], [x] => (dclear E t A x).map fun A' => (undef, A')
    | _, _ => none
  | _ => none

abbrev CallT := FuncId → List Value → Hp → Option (Value × Hp)

def dcall (E : Env) (call : CallT) (σ : Sl) (o : Oper) (A : Hp) : Option (Value × Hp) :=
  match o.op with
  | .call { callee := .value f, args, .. } => (evO E σ f).bind fun u => (evs E σ args.toList).bind fun vs => match u with
    | .func (.func g) first captured => call g (first.toList ++ vs ++ captured.toList) A
    | _ => none
  | _ => none

def isPtrT (E : Env) (t : TypeId) : Bool := match E.T t with
  | some i => match i.d with
    | .pointer _ => true
    | _ => false
  | none => false

/-- 0: looks at no memory, 1: reads, 2: makes, 3: writes, 4: calls -/
def cls (E : Env) (o : Oper) : Nat :=
  match o.op with
  | .load _ _ => 1
  | .lookup _ _ _ _ => 1
  | .alloc _ => 2
  | .box _ _ => 2
  | .buildSlice _ _ _ => 2
  | .makeSlice _ _ _ => 2
  | .makeMap _ _ => 2
  | .store _ _ _ => 3
  | .mapUpdate _ _ _ _ => 3
  | .insert _ _ _ _ => 3
  | .convert s d _ => match E.T s, E.T d with
    | some i, some j => match i.d, j.d with
      | .slice _, .string => 1
      | .string, .slice _ => 2
      | .slice _, .slice _ => 3
      | _, _ => 0
    | _, _ => 0
  | .binOp _ t x y _ => bif isPtrT E t && !(isC x || isC y) then 1 else 0
  | .call { callee := .builtin b, argTypes, .. } => match b with
    | .append => 3
    | .copy => 3
    | .delete => 3
    | .clear => 3
    | .len => match argTypes[0]? with
      | some t => match E.T t with
        | some i => match i.d with
          | .map _ _ => 1
          | _ => 0
        | none => 0
      | none => 0
    | _ => 0
  | .call _ => 4
  | _ => 0

def dstep (E : Env) (call : CallT) (σ : Sl) (o : Oper) (A : Hp) : Option (Value × Hp) :=
  match cls E o with
  | 0 => (dval E σ o).map fun v => (v, A)
  | 1 => (drd E σ o A).map fun x => (x.1, A)
  | 2 => (dnew E σ o).map fun x => (x.2 A.next, A.push x.1)
  | 3 => deff E σ o A
  | _ => dcall E call σ o A

def After0 (P : Program) (ρ : Rn) (A : Hp) (w : World) (v : Value) (A' : Hp) (v' : Value) (w' : World) : Prop :=
  ∃ ρ', VR ρ' v v' ∧ Rel P ρ' A' w' ∧ Ext A ρ w A' ρ' w'

/-- what a call says -/
def After [Reps] (P : Program) (ρ : Gh) (A : Hp) (w : World) (v : Value) (A' : Hp) (v' : Value) (w' : World) : Prop :=
  ∃ ρ' : Gh, VR ρ'.ρ v v' ∧ RelX P ρ' A' w' ∧ ExtX A ρ w A' ρ' w'

structure CallOK [Reps] (P : Program) (call : CallT) : Prop where
  fn : ∀ f args A r, call f args A = some r → ∃ x, P.funcs[f]? = some x ∧ x.body.isSome = true ∧ (x.name == "runtime.NumGoroutine") = false
  calls : ∀ f args A v A', call f args A = some (v, A') → ∀ (ρ : Gh) w (args' : Array Value), RelX P ρ A w → AR ρ.ρ args.toArray args' →
    Calls P f args' w fun e w' => ∃ v', e = .returned v' ∧ After P ρ A w v A' v' w'

theorem vr_undef {ρ : Rn} : VR ρ undef undef := .tuple #[] #[] rfl (by simp)

theorem drd_sound {P : Program} {E : Env} (hT : E.T.ok P) {ρ : Rn} {N : Nat} {ds : List Deferred} {σ : Sl} {a : Act} (h : SR P E ρ N ds σ a) {A : Hp} {w : World} (hA : Rel P ρ A w) {o : Oper} {v : Value} {l : List Nat}
    (hd : drd E σ o A = some (v, l)) : ∃ v', VR ρ v v' ∧ (execOp a.eval o).run P w = .ok (.value v') w := by
  unfold drd at hd
  unfold execOp
  split at hd
  · rename_i t x ho
    replace hd := bind_some hd
    obtain ⟨u, h1, hd⟩ := hd
    obtain ⟨v', k1, k2⟩ := dload_sound hT hA (evO_sound h h1) hd
    exact ⟨v', k1, by rw [ho]; exact run_v k2⟩
  · rename_i t x k ok ho
    replace hd := bind_some hd
    obtain ⟨u, h1, hd⟩ := hd
    replace hd := bind_some hd
    obtain ⟨u2, h2, hd⟩ := hd
    obtain ⟨v', k1, k2⟩ := dlookup_sound hT hA (evO_sound h h1) (evO_sound h h2) hd
    exact ⟨v', k1, by rw [ho]; exact run_v k2⟩
  · rename_i s d x ho
    replace hd := bind_some hd
    obtain ⟨u, h1, hd⟩ := hd
    obtain ⟨v', k1, k2⟩ := dstring_sound hT hA (evO_sound h h1) hd
    exact ⟨v', k1, by rw [ho]; exact run_v k2⟩
  · rename_i op t x y yt ho
    replace hd := bind_some hd
    obtain ⟨u, h1, hd⟩ := hd
    replace hd := bind_some hd
    obtain ⟨u2, h2, hd⟩ := hd
    split at hd
    · obtain ⟨k1, k2⟩ := dptrEq_sound hT hA (x := x) (y := y) (evO_sound h h1) (evO_sound h h2) hd
      exact ⟨v, k1, by rw [ho]; exact run_v k2⟩
    · cases hb : dbin E op t (isC x || isC y) u u2 with
      | none => rw [hb] at hd; cases hd
      | some r =>
        rw [hb] at hd; cases hd
        obtain ⟨k1, k2⟩ := dbin_sound hT (x := x) (y := y) (evO_sound h h1) (evO_sound h h2) hb
        exact ⟨v, plain0_vr k1, by rw [ho]; exact run_v (k2 w)⟩
  · rename_i args ts ho
    replace hd := bind_some hd
    obtain ⟨vs, h1, hd⟩ := hd
    obtain ⟨a1, a2⟩ := evs_args h h1
    split at hd
    · rename_i t r x hts
      replace hd := bind_some hd
      obtain ⟨i, h2, hd⟩ := hd
      split at hd
      · rename_i kt et hi
        cases hm : mapOf A x with
        | none => rw [hm] at hd; cases hd
        | some q =>
          obtain ⟨es, l'⟩ := q
          rw [hm] at hd
          cases hd
          obtain ⟨x', hx'⟩ : ∃ x', args.map a.eval = #[x'] := by
            generalize args.map a.eval = q at a1
            obtain ⟨q⟩ := q
            match q, a1 with
            | [y], _ => exact ⟨y, rfl⟩
          have hx : VR ρ x x' := a2 0 x x' (by simp) (by rw [hx']; rfl)
          obtain ⟨F, f1, f2⟩ := mapOf_sound hA hx hm
          refine ⟨_, .int _ _, ?_⟩
          rw [ho]
          simp only [resolve, Sem.run_bind, Sem.run_pure, Result.andThen_ok, invoke, builtin]
          have hts0 : ts[0]? = some t := by
            have : ts.toList[0]? = some t := by rw [hts]; rfl
            simpa using this
          have hl := f1.len
          rw [hx']
          rcases f2 with ⟨rfl, rfl⟩ | ⟨r, ck, rfl, hr⟩
          · have : es.length = 0 := by simpa using hl.symm
            simp [Builtin.len_, hts0, run_und hT h2, hi, goInt, this]
          · have : es.length = F.size := by simpa using hl.symm
            simp [Builtin.len_, hts0, run_und hT h2, hi, goInt, run_getObj_map hr, this]
      · cases hd
    · cases hd
  · cases hd

theorem args2 {ρ : Rn} {args' : Array Value} {s x : Value} (h1 : args'.size = [s, x].length) (h2 : ∀ (j : Nat) u u', [s, x][j]? = some u → args'[j]? = some u' → VR ρ u u') :
    ∃ s' x', args' = #[s', x'] ∧ VR ρ s s' ∧ VR ρ x x' := by
  obtain ⟨q⟩ := args'
  match q, h1 with
  | [a, b], _ => exact ⟨a, b, rfl, h2 0 _ _ (by simp) (by simp), h2 1 _ _ (by simp) (by simp)⟩
theorem args1 {ρ : Rn} {args' : Array Value} {s : Value} (h1 : args'.size = [s].length) (h2 : ∀ (j : Nat) u u', [s][j]? = some u → args'[j]? = some u' → VR ρ u u') :
    ∃ s', args' = #[s'] ∧ VR ρ s s' := by
  obtain ⟨q⟩ := args'
  match q, h1 with
  | [a], _ => exact ⟨a, rfl, h2 0 _ _ (by simp) (by simp)⟩

theorem deff_sound {P : Program} {E : Env} (hT : E.T.ok P) {ρ : Rn} {N : Nat} {ds : List Deferred} {σ : Sl} {a : Act} (h : SR P E ρ N ds σ a) {A A' : Hp} {w : World} (hA : Rel P ρ A w) {o : Oper} {v : Value}
    (hd : deff E σ o A = some (v, A')) : ∃ v' w', ((execOp a.eval o).run P w = .ok (.value v') w' ∨ (v' = undef ∧ (execOp a.eval o).run P w = .ok .skip w')) ∧ After0 P ρ A w v A' v' w' := by
  unfold deff at hd
  unfold execOp
  split at hd
  · -- store
    rename_i t x y ho
    replace hd := bind_some hd
    obtain ⟨u, h1, hd⟩ := hd
    replace hd := bind_some hd
    obtain ⟨u2, h2, hd⟩ := hd
    cases hs : dstore E t A u u2 with
    | none => rw [hs] at hd; cases hd
    | some A2 =>
      rw [hs] at hd; cases hd
      obtain ⟨w', r1, r2, r3⟩ := dstore_sound hT hA (evO_sound h h1) (evO_sound h h2) hs
      exact ⟨undef, w', .inr ⟨rfl, by rw [ho]; simp [r1]⟩, ρ, vr_undef, r2, r3⟩
  · -- convert
    rename_i s d x ho
    replace hd := bind_some hd
    obtain ⟨u, h1, hd⟩ := hd
    obtain ⟨w', r1, r2, r3, r4⟩ := dmark_sound hT hA (evO_sound h h1) hd
    exact ⟨_, w', .inl (by rw [ho]; simp [r1]), ρ, r2, r3, r4⟩
  · rename_i t m k y ho
    replace hd := bind_some hd
    obtain ⟨u, h1, hd⟩ := hd
    replace hd := bind_some hd
    obtain ⟨u2, h2, hd⟩ := hd
    replace hd := bind_some hd
    obtain ⟨u3, h3, hd⟩ := hd
    cases hs : dmapUpdate E t A u u2 u3 with
    | none => rw [hs] at hd; cases hd
    | some A2 =>
      rw [hs] at hd; cases hd
      obtain ⟨w', r1, r2, r3⟩ := dmapUpdate_sound hT hA (evO_sound h h1) (evO_sound h h2) (evO_sound h h3) hs
      exact ⟨undef, w', .inr ⟨rfl, by rw [ho]; simp [r1]⟩, ρ, vr_undef, r2, r3⟩
  · rename_i t m k y ho
    replace hd := bind_some hd
    obtain ⟨u, h1, hd⟩ := hd
    replace hd := bind_some hd
    obtain ⟨u2, h2, hd⟩ := hd
    replace hd := bind_some hd
    obtain ⟨u3, h3, hd⟩ := hd
    cases hs : dmapUpdate E t A u u2 u3 with
    | none => rw [hs] at hd; cases hd
    | some A2 =>
      rw [hs] at hd; cases hd
      obtain ⟨w', r1, r2, r3⟩ := dmapUpdate_sound hT hA (evO_sound h h1) (evO_sound h h2) (evO_sound h h3) hs
      exact ⟨undef, w', .inr ⟨rfl, by rw [ho]; simp [r1]⟩, ρ, vr_undef, r2, r3⟩
  · -- append
    rename_i args ts ho
    replace hd := bind_some hd
    obtain ⟨vs, h1, hd⟩ := hd
    obtain ⟨a1, a2⟩ := evs_args h h1
    split at hd
    · rename_i t t2 s x hts
      obtain ⟨s', x', e, e1, e2⟩ := args2 a1 a2
      obtain ⟨v', ρ', w', r1, r2, r3, r4⟩ := dappend_sound (ty := o.type) hT hA e1 e2 hd
      refine ⟨v', w', .inl ?_, ρ', r2, r3, r4⟩
      rw [ho]
      simp only [resolve, Sem.run_bind, Sem.run_pure, Result.andThen_ok, invoke, builtin]
      have : ts = #[t, t2] := by rw [← Array.toArray_toList (xs := ts), hts]
      rw [e, this]
      rw [r1]; rfl
    · cases hd
  · -- copy
    rename_i args ts ho
    replace hd := bind_some hd
    obtain ⟨vs, h1, hd⟩ := hd
    obtain ⟨a1, a2⟩ := evs_args h h1
    split at hd
    · rename_i t t2 s x hts
      obtain ⟨s', x', e, e1, e2⟩ := args2 a1 a2
      obtain ⟨w', r1, r2, r3, r4⟩ := dcopy_sound (ty := o.type) hT hA e1 e2 hd
      refine ⟨v, w', .inl ?_, ρ, r2, r3, r4⟩
      rw [ho]
      simp only [resolve, Sem.run_bind, Sem.run_pure, Result.andThen_ok, invoke, builtin]
      have : ts = #[t, t2] := by rw [← Array.toArray_toList (xs := ts), hts]
      rw [e, this]
      rw [r1]; rfl
    · cases hd
  · -- delete
    rename_i args ts ho
    replace hd := bind_some hd
    obtain ⟨vs, h1, hd⟩ := hd
    obtain ⟨a1, a2⟩ := evs_args h h1
    split at hd
    · rename_i t r m k hts
      obtain ⟨s', x', e, e1, e2⟩ := args2 a1 a2
      cases hs : ddelete E t A m k with
      | none => rw [hs] at hd; cases hd
      | some A2 =>
        rw [hs] at hd; cases hd
        have hts0 : ts[0]? = some t := by
          have : ts.toList[0]? = some t := by rw [hts]; rfl
          simpa using this
        obtain ⟨w', r1, r2, r3⟩ := ddelete_sound (ty := o.type) hT hA hts0 e1 e2 hs
        refine ⟨undef, w', .inl ?_, ρ, vr_undef, r2, r3⟩
        rw [ho]
        simp only [resolve, Sem.run_bind, Sem.run_pure, Result.andThen_ok, invoke, builtin]
        rw [e]
        rw [r1]; rfl
    · cases hd
  · -- clear
    rename_i args ts ho
    replace hd := bind_some hd
    obtain ⟨vs, h1, hd⟩ := hd
    obtain ⟨a1, a2⟩ := evs_args h h1
    split at hd
    · rename_i t x hts
      obtain ⟨s', e, e1⟩ := args1 a1 a2
      cases hs : dclear E t A x with
      | none => rw [hs] at hd; cases hd
      | some A2 =>
        rw [hs] at hd; cases hd
        obtain ⟨w', r1, r2, r3⟩ := dclear_sound (ty := o.type) hT hA e1 hs
        refine ⟨undef, w', .inl ?_, ρ, vr_undef, r2, r3⟩
        rw [ho]
        simp only [resolve, Sem.run_bind, Sem.run_pure, Result.andThen_ok, invoke, builtin]
        have : ts = #[t] := by rw [← Array.toArray_toList (xs := ts), hts]
        rw [e, this]
        rw [r1]; rfl
    · cases hd
  · cases hd

end Go.Dn
end

section
namespace Go.Dn
section
variable [Reps]

theorem dcall_sound {P : Program} {E : Env} {call : CallT} (hC : CallOK P call) {ρ : Gh} {N : Nat} {ds : List Deferred} {σ : Sl} {a : Act} (h : SR P E ρ.ρ N ds σ a) {A A' : Hp} {w : World} (hA : RelX P ρ A w) {o : Oper} {v : Value}
    (hd : dcall E call σ o A = some (v, A')) : ∃ f args', (execOp a.eval o).run P w = .ok (.enter f args') w ∧
      Calls P f args' w fun e w' => ∃ v', e = .returned v' ∧ After P ρ A w v A' v' w' := by
  unfold dcall at hd
  unfold execOp
  split at hd
  · rename_i f args ts ho
    replace hd := bind_some hd
    obtain ⟨u, h1, hd⟩ := hd
    replace hd := bind_some hd
    obtain ⟨vs, h2, hd⟩ := hd
    split at hd
    · rename_i g first captured
      have hu := evO_sound h h1
      generalize hg : a.eval f = f' at hu
      cases hu with
      | func _ _ bs _ ds k1 k2 k3 k4 =>
      obtain ⟨a1, a2⟩ := evs_args h h2
      obtain ⟨x, x1, x2, x3⟩ := hC.fn g _ A _ hd
      have hargs : AR ρ.ρ (first.toList ++ vs ++ captured.toList).toArray (bs ++ args.map a.eval ++ ds) := by
        have e1 : AR ρ.ρ first.toList.toArray bs.toList.toArray := by
          rw [Array.toArray_toList, Array.toArray_toList]; exact ⟨k1, k2⟩
        have e2 : AR ρ.ρ vs.toArray (args.map a.eval).toList.toArray := by
          rw [Array.toArray_toList]; exact ⟨by simpa using a1.symm, fun j u v hu hv => a2 j u v (by simpa using hu) hv⟩
        have e3 : AR ρ.ρ captured.toList.toArray ds.toList.toArray := by
          rw [Array.toArray_toList, Array.toArray_toList]; exact ⟨k3, k4⟩
        have := (e1.append e2).append e3
        have e4 : (bs.toList ++ (args.map a.eval).toList ++ ds.toList).toArray = bs ++ args.map a.eval ++ ds := by
          apply Array.ext'
          simp
        rw [e4] at this
        exact this
      refine ⟨g, bs ++ args.map a.eval ++ ds, ?_, hC.calls g _ A v A' hd ρ w _ hA hargs⟩
      rw [ho]
      have hbody : x.body.isNone = false := by
        cases hb : x.body with
        | none => rw [hb] at x2; cases x2
        | some c => rfl
      simp only [resolve, Deferred.ofValue, hg, Sem.run_bind, Sem.run_pure, Result.andThen_ok, invoke, callFunc, run_program, x1, x3, Bool.false_eq_true, if_false, hbody]
    · cases hd
  · cases hd

theorem dstep_sound {P : Program} {E : Env} (hT : E.T.ok P) {call : CallT} (hC : CallOK P call) {ρ : Gh} {N : Nat} {ds : List Deferred} {σ : Sl} {a : Act} (h : SR P E ρ.ρ N ds σ a) {A A' : Hp} {w : World} (hA : RelX P ρ A w) {o : Oper} {v : Value}
    (hd : dstep E call σ o A = some (v, A')) {K : Act → World → Prop} {Q : Exit → Act → World → Prop}
    (hK : ∀ v' w', After P ρ A w v A' v' w' → K (a.put o.dst v') w') : o.wp P a w K Q := by
  unfold dstep at hd
  unfold Oper.wp
  split at hd
  · cases hv : dval E σ o with
    | none => rw [hv] at hd; cases hd
    | some u =>
      rw [hv] at hd; cases hd
      obtain ⟨v', k1, k2⟩ := dval_sound hT h hv
      rw [k2 w]
      exact hK _ _ ⟨ρ, k1, hA, ExtX.refl _ _ _⟩
  · cases hv : drd E σ o A with
    | none => rw [hv] at hd; cases hd
    | some u =>
      obtain ⟨u, l⟩ := u
      rw [hv] at hd; cases hd
      obtain ⟨v', k1, k2⟩ := drd_sound hT h hA.rel hv
      rw [k2]
      exact hK _ _ ⟨ρ, k1, hA, ExtX.refl _ _ _⟩
  · cases hv : dnew E σ o with
    | none => rw [hv] at hd; cases hd
    | some u =>
      obtain ⟨ob, mk⟩ := u
      rw [hv] at hd; cases hd
      obtain ⟨p, O, w1, v', hw1, hp, hr, hall⟩ := dnew_sound hT h w hv
      rw [hr]
      have hfresh := (hA.rel.fresh A.next (Nat.le_refl _)).2
      obtain ⟨q1, q2, q3⟩ := hall A.next hfresh
      refine hK _ _ ⟨⟨ρ.ρ.add A.next p, ρ.S, ρ.F⟩, q1, ?_⟩
      rcases hw1 with rfl | rfl
      · have := hA.rel.push ob O p hp q2 q3
        exact hA.frame this.1 this.2
      · have := hA.drew.rel.push ob O p hp q2 q3
        have k := hA.drew.frame this.1 this.2
        exact ⟨k.1, hA.drewx.trans k.2⟩
  · obtain ⟨v', w', hr, ρ', ha1, ha2, ha3⟩ := deff_sound hT h hA.rel hd
    have ha : After P ρ A w v A' v' w' := ⟨⟨ρ', ρ.S, ρ.F⟩, ha1, hA.frame ha2 ha3⟩
    rcases hr with hr | ⟨rfl, hr⟩
    · rw [hr]; exact hK _ _ ha
    · rw [hr]; exact hK _ _ ha
  · obtain ⟨f, args', hr, hc⟩ := dcall_sound hC h hA hd
    rw [hr]
    refine hc.mono fun e w' ⟨v', he, ha⟩ => ?_
    subst he
    exact hK _ _ ha

/-! ## regions in the order of their text -/
/-- is the operation wanted? none: what it hangs on isn't known -/
def dwant (ops : List Oper) (σ : Sl) (o : Oper) : Option Bool :=
  match o.guard with
  | none => some true
  | some (j, want) => (ops[j]?).bind fun p => p.dst.bind fun d => (σ.get d).bind fun v => match v with
    | .bool b => some (b == want)
    | _ => some false

def dput (N : Nat) (σ : Sl) (d : Option Nat) (v : Value) : Option Sl :=
  match d with
  | none => some σ
  | some d => bif Nat.blt d N then some (σ.put d v) else none

end

theorem dput_sound {P : Program} {E : Env} {ρ : Rn} {N : Nat} {ds : List Deferred} {σ σ' : Sl} {a : Act} (h : SR P E ρ N ds σ a) {d : Option Nat} {v v' : Value} (hv : VR ρ v v') (hd : dput N σ d v = some σ') : SR P E ρ N ds σ' (a.put d v') := by
  cases d with
  | none => cases hd; exact h
  | some d =>
    simp only [dput] at hd
    cases hb : Nat.blt d N with
    | false => rw [hb] at hd; cases hd
    | true =>
      rw [hb] at hd; cases hd
      exact h.put (by simpa [Nat.blt_eq] using hb) hv

theorem dwant_sound {P : Program} {E : Env} {ρ : Rn} {N : Nat} {ds : List Deferred} {σ : Sl} {a : Act} (h : SR P E ρ N ds σ a) {ops : Array Oper} {o : Oper} {b : Bool} (hw : dwant ops.toList σ o = some b) :
    Region.wanted o (yielded ops a.tmps) = b := by
  unfold dwant at hw
  unfold Region.wanted
  split at hw
  · rename_i hg; cases hw; rw [hg]
  · rename_i j want hg
    rw [hg]
    replace hw := bind_some hw
    obtain ⟨p, h1, hw⟩ := hw
    replace hw := bind_some hw
    obtain ⟨d, h2, hw⟩ := hw
    replace hw := bind_some hw
    obtain ⟨v, h3, hw⟩ := hw
    obtain ⟨v', h4, h5⟩ := h.get d v h3
    have h1' : ops[j]? = some p := by simpa using h1
    simp only [yielded, h1', Option.bind_some, h2, h4]
    split at hw
    · cases hw; cases h5
      rename_i b; cases b <;> cases want <;> rfl
    · rename_i hne
      cases hw
      cases h5 <;> first | rfl | exact absurd rfl (hne _)

def runIx {R : Type} (E : Env) (call : CallT) (N : Nat) (ops : List Oper) : List Nat → Sl → (Sl → Hp → Option R) → Hp → Option R
  | [], σ, k, A => k σ A
  | i :: l, σ, k, A => (ops[i]?).bind fun o => (dwant ops σ o).bind fun g =>
    (bif g then dstep E call σ o A else some (undef, A)).bind fun x => (dput N σ o.dst x.1).bind fun σ' => runIx E call N ops l σ' k x.2

section
variable [Reps]

/-- a state of the abstract machine, and one of the model's -/
structure SS (P : Program) (E : Env) (N : Nat) (ds : List Deferred) (ρ : Gh) (σ : Sl) (A : Hp) (a : Act) (w : World) : Prop where
  sr : SR P E ρ.ρ N ds σ a
  rel : RelX P ρ A w

theorem runIx_sound {P : Program} {E : Env} (hT : E.T.ok P) {call : CallT} (hC : CallOK P call) {N : Nat} {ds : List Deferred} {ops : Array Oper} {Q : Exit → Act → World → Prop} {R : Type} {k : Sl → Hp → Option R} {r : R} :
    ∀ (l : List Nat) (ρ : Gh) (σ : Sl) (A : Hp) (a : Act) (w : World), SS P E N ds ρ σ A a w → runIx E call N ops.toList l σ k A = some r →
    (∀ ρ' σ' A' a' w', SS P E N ds ρ' σ' A' a' w' → ExtX A ρ w A' ρ' w' → k σ' A' = some r → Q .normal a' w') → wpOps P ops Q l a w
  | [], ρ, σ, A, a, w, h, hr, hk => hk ρ σ A a w h (ExtX.refl _ _ _) hr
  | i :: l, ρ, σ, A, a, w, h, hr, hk => by
    simp only [runIx] at hr
    replace hr := bind_some hr
    obtain ⟨o, h1, hr⟩ := hr
    replace hr := bind_some hr
    obtain ⟨g, h2, hr⟩ := hr
    replace hr := bind_some hr
    obtain ⟨⟨v, A1⟩, h3, hr⟩ := hr
    replace hr := bind_some hr
    obtain ⟨σ1, h4, hr⟩ := hr
    have h1' : ops[i]? = some o := by simpa using h1
    have hg := dwant_sound h.sr h2
    simp only [wpOps, h1', hg]
    cases g with
    | true =>
      simp only [cond_true] at h3
      simp only [if_true]
      refine .inl (dstep_sound hT hC h.sr h.rel h3 fun v' w' hafter => ?_)
      obtain ⟨ρ1, k1, k2, k3⟩ := hafter
      refine runIx_sound hT hC l ρ1 σ1 A1 _ w' ⟨dput_sound (h.sr.le k3.le) k1 h4, k2⟩ hr fun ρ' σ' A' a' w'' hs hx hkk => hk ρ' σ' A' a' w'' hs (k3.trans hx) hkk
    | false =>
      simp only [cond_false, Option.some.injEq, Prod.mk.injEq] at h3
      obtain ⟨rfl, rfl⟩ := h3
      simp only [Bool.false_eq_true, if_false]
      exact runIx_sound hT hC l ρ σ1 A _ w ⟨dput_sound h.sr vr_undef h4, h.rel⟩ hr hk

end
end Go.Dn
end

section
namespace Go.Dn

/-! ## hiding, guarding, giving back -/
def hideL (A : Hp) : List Nat → Hp
  | [] => A
  | i :: l => hideL (A.set i none) l

def toRo : Ob → Ob
  | .arr T cs .own => .arr T cs .ro
  | .map es .own => .map es .ro
  | o => o

/-- guarded: only to be read -/
def toRoO : Ob → Option Ob
  | .abs _ _ => none
  | o => some (toRo o)

def guardL (A : Hp) : List Nat → Hp
  | [] => A
  | i :: l => guardL (A.set i ((A.get i).bind toRoO)) l

def backL (A0 A : Hp) : List Nat → Hp
  | [] => A
  | i :: l => backL A0 (A.set i (A0.get i)) l

@[simp] theorem hideL_next (l : List Nat) (A : Hp) : (hideL A l).next = A.next := by
  induction l generalizing A with
  | nil => rfl
  | cons i l ih => simp [hideL, ih]
@[simp] theorem guardL_next (l : List Nat) (A : Hp) : (guardL A l).next = A.next := by
  induction l generalizing A with
  | nil => rfl
  | cons i l ih => simp [guardL, ih]
@[simp] theorem backL_next (A0 : Hp) (l : List Nat) (A : Hp) : (backL A0 A l).next = A.next := by
  induction l generalizing A with
  | nil => rfl
  | cons i l ih => simp [backL, ih]

theorem hideL_get (l : List Nat) (A : Hp) (j : Nat) : (hideL A l).get j = if j ∈ l then none else A.get j := by
  induction l generalizing A with
  | nil => simp [hideL]
  | cons i l ih =>
    simp only [hideL, ih, Hp.get_set, List.mem_cons]
    by_cases h : j ∈ l
    · simp [h]
    · by_cases e : j = i <;> simp [h, e]

theorem toRo_toRo (o : Ob) : toRo (toRo o) = toRo o := by
  cases o with
  | arr T cs m => cases m <;> rfl
  | map es m => cases m <;> rfl
  | abs k x => rfl
theorem toRoO_toRoO (o : Ob) : (toRoO o).bind toRoO = toRoO o := by
  cases o with
  | arr T cs m => cases m <;> rfl
  | map es m => cases m <;> rfl
  | abs k x => rfl
theorem toRoO_some {o o' : Ob} (h : toRoO o = some o') : o.isAbs = false ∧ o' = toRo o := by
  cases o with
  | arr T cs m => cases h; exact ⟨rfl, rfl⟩
  | map es m => cases h; exact ⟨rfl, rfl⟩
  | abs k x => cases h
theorem toRo_isAbs (o : Ob) : (toRo o).isAbs = o.isAbs := by
  cases o with
  | arr T cs m => cases m <;> rfl
  | map es m => cases m <;> rfl
  | abs k x => rfl
theorem toRo_sh (o : Ob) (h : (toRo o).md = .sh) : toRo o = o := by
  cases o with
  | arr T cs m => cases m <;> first | rfl | cases h
  | map es m => cases m <;> first | rfl | cases h
  | abs k x => rfl
theorem toRo_md (o : Ob) : (toRo o).md ≠ .own := by
  cases o with
  | arr T cs m => cases m <;> simp [toRo, Ob.md]
  | map es m => cases m <;> simp [toRo, Ob.md]
  | abs k x => simp [toRo, Ob.md]
theorem toRo_of (o : Ob) (h : o.md ≠ .own) : toRo o = o := by
  cases o with
  | arr T cs m => cases m <;> first | rfl | exact absurd rfl h
  | map es m => cases m <;> first | rfl | exact absurd rfl h
  | abs k x => rfl
theorem toRo_ro (o : Ob) (h : (toRo o).md = .ro) : o.md = .own ∨ o.md = .ro := by
  cases o with
  | arr T cs m => cases m <;> simp_all [toRo, Ob.md]
  | map es m => cases m <;> simp_all [toRo, Ob.md]
  | abs k x => simp_all [toRo, Ob.md]

theorem guardL_get (l : List Nat) (A : Hp) (j : Nat) : (guardL A l).get j = if j ∈ l then (A.get j).bind toRoO else A.get j := by
  induction l generalizing A with
  | nil => simp [guardL]
  | cons i l ih =>
    simp only [guardL, ih, Hp.get_set, List.mem_cons]
    by_cases h : j ∈ l
    · by_cases e : j = i
      · subst e
        simp only [h, if_true, true_or]
        cases A.get j with
        | none => rfl
        | some o => simpa using toRoO_toRoO o
      · simp [h, e]
    · by_cases e : j = i
      · subst e; simp [h]
      · simp [h, e]

theorem backL_get (A0 : Hp) (l : List Nat) (A : Hp) (j : Nat) : (backL A0 A l).get j = if j ∈ l then A0.get j else A.get j := by
  induction l generalizing A with
  | nil => simp [backL]
  | cons i l ih =>
    simp only [backL, ih, Hp.get_set, List.mem_cons]
    by_cases h : j ∈ l
    · simp [h]
    · by_cases e : j = i
      · subst e; simp [h]
      · simp [h, e]

theorem ObR.toRo {P : Program} {ρ : Rn} {w : World} {p : Pl} {o : Ob} (h : ObR P ρ w p o) : ObR P ρ w p (Dn.toRo o) := by
  cases h with
  | arr T cs m C T' fz h1 h2 h3 h4 =>
    cases m with
    | own => exact .arr T cs .ro C T' fz h1 (fun _ => h2 (by simp)) h3 h4
    | ro => exact .arr T cs .ro C T' fz h1 h2 h3 h4
    | sh => exact .arr T cs .sh C T' fz h1 h2 h3 h4
  | map es m E ck h1 h2 h3 =>
    cases m with
    | own => exact .map es .ro E ck h1 h2 h3
    | ro => exact .map es .ro E ck h1 h2 h3
    | sh => exact .map es .sh E ck h1 h2 h3
  | abs k x h => exact .abs k x h

section
variable [Reps] {P : Program}

/-- less is known -/
theorem RelX.less {g : Gh} {A A' : Hp} {w : World} (h : RelX P g A w) (hn : A'.next = A.next)
    (hg : ∀ i o', A'.get i = some o' → ∃ o, A.get i = some o ∧ (o' = o ∨ (o.isAbs = false ∧ o' = Dn.toRo o))) : RelX P g A' w := by
  have habs : ∀ i k x, A'.get i = some (.abs k x) → A.get i = some (.abs k x) := by
    intro i k x hi
    obtain ⟨o, h1, h2⟩ := hg i _ hi
    rcases h2 with rfl | ⟨ha, he⟩
    · exact h1
    · have : (Dn.toRo o).isAbs = true := by rw [← he]; rfl
      rw [toRo_isAbs, ha] at this; cases this
  have ho : ∀ i b, OwnAt A' g i b → OwnAt A g i b := by
    intro i b hi
    cases hi with
    | vis o' p k1 k2 k3 k4 =>
      obtain ⟨o, h1, h2⟩ := hg i o' k1
      rcases h2 with rfl | ⟨_, rfl⟩
      · exact .vis _ p h1 k2 k3 k4
      · exact absurd k2 (toRo_md _)
    | abs k x k1 k2 => exact .abs k x (habs _ _ _ k1) k2
  have hc : ∀ i b, ConAt A' g i b → ConAt A g i b := by
    intro i b hi
    cases hi with
    | vis o' p k1 k2 k5 k3 k4 =>
      obtain ⟨o, h1, _⟩ := hg i o' k1
      exact .vis _ p h1 (h.con.ro i o k5 h1) k5 k3 k4
  refine .of (fun i o' hi _ => ?_) (fun i k x hi => h.abs i k x (habs i k x hi)) (h.sep.mono ho (fun i b hi => ?_) (fun i b hi => ?_) hc)
    ⟨h.con.loc, by rw [hn]; exact h.con.next, fun i o' hi ho' => ?_, fun i p hi hp => let ⟨c1, c2⟩ := h.con.own i p hi hp; ⟨c1, fun ⟨j, k⟩ => c2 ⟨j, ho j _ k⟩⟩, h.con.cw⟩ (fun i hi => ?_) h.rel.glob
  · obtain ⟨o, h1, h2⟩ := hg i o' hi
    obtain ⟨p, hp, ho⟩ := h.rel.obj i o h1
    refine ⟨p, hp, ?_⟩
    rcases h2 with rfl | ⟨_, rfl⟩
    · exact ho
    · exact ho.toRo
  · cases hi with
    | con h => exact .con (hc _ _ h)
    | vis o' p k1 k2 k5 k3 k4 =>
      obtain ⟨o, h1, h2⟩ := hg i o' k1
      rcases h2 with rfl | ⟨_, rfl⟩
      · exact .vis _ p h1 k2 k5 k3 k4
      · have e := toRo_sh o k2
        rw [e] at k2 k5
        exact .vis _ p h1 k2 k5 k3 k4
    | abs k x k1 k2 => exact .abs k x (habs _ _ _ k1) k2
  · cases hi with
    | vis o' p k1 k2 k5 k3 k4 =>
      obtain ⟨o, h1, h2⟩ := hg i o' k1
      rcases h2 with rfl | ⟨_, rfl⟩
      · exact .inl (.vis _ p h1 k2 k5 k3 k4)
      · rcases toRo_ro o k2 with k | k
        · exact .inr (.vis _ p h1 k k3 k4)
        · exact .inl (.vis _ p h1 k k5 k3 k4)
  · obtain ⟨o, h1, h2⟩ := hg i o' ho'
    rcases h2 with rfl | ⟨_, rfl⟩
    · exact h.con.ro i _ hi h1
    · have := h.con.ro i o hi h1
      rw [toRo_of o (by rw [this]; simp)]; exact this
  · rw [hn] at hi
    have := h.rel.fresh i hi
    refine ⟨?_, this.2⟩
    cases hx : A'.get i with
    | none => rfl
    | some o' => obtain ⟨o, h1, _⟩ := hg i o' hx; rw [this.1] at h1; cases h1

/-- A step was taken where some objects were hidden and some guarded; they are given back. B: all that stood before, A: what the step saw; X: all that was hidden or guarded. -/
theorem RelX.back {g g' : Gh} {B A A2 B2 : Hp} {w w' : World} (X : List Nat) (hB : RelX P g B w) (hn : A.next = B.next)
    (hX : ∀ x ∈ X, ∀ o, A.get x = some o → o.md ≠ .own ∧ o.isAbs = false ∧ (o.md = .sh → B.get x = some o) ∧ ∃ o', B.get x = some o') (hY : ∀ x, x ∉ X → A.get x = B.get x)
    (h2 : RelX P g' A2 w') (hx : ExtX A g w A2 g' w') (hn2 : B2.next = A2.next)
    (hB2 : ∀ x, (x ∈ X ∧ (B2.get x = B.get x ∨ B2.get x = none)) ∨ (x ∉ X ∧ (B2.get x = A2.get x ∨ B2.get x = none))) (hXn : ∀ x ∈ X, x < B.next) :
    ∃ g2 : Gh, g2.ρ = g'.ρ ∧ RelX P g2 B2 w' ∧ (∀ {A0 g0 w0}, ExtX A0 g0 w0 B g w → ExtX A0 g0 w0 B2 g2 w') := by
  classical
  let g2 : Gh := ⟨g'.ρ, fun i b => if i ∈ X then g.S i b else g'.S i b, fun i b => if i ∈ X then g.F i b else g'.F i b⟩
  -- who owns what the step saw
  have own1 : ∀ b, OwnX A g b → ∃ i, i ∉ X ∧ OwnAt B g i b := by
    rintro b ⟨i, hi⟩
    cases hi with
    | vis o p h1 h2 h3 h4 =>
      have : i ∉ X := fun hi => (hX i hi o h1).1 h2
      exact ⟨i, this, .vis o p (by rw [← hY i this]; exact h1) h2 h3 h4⟩
    | abs k x h1 h2 =>
      have : i ∉ X := fun hi => by have := (hX i hi _ h1).2.1; cases this
      exact ⟨i, this, .abs k x (by rw [← hY i this]; exact h1) h2⟩
  have seen1 : ∀ b, SeenX A g b → SeenX B g b := by
    rintro b ⟨i, hi⟩
    cases hi with
    | con hc =>
      cases hc with
      | vis o p h1 h2 h5 h3 h4 =>
        have : ∃ o', B.get i = some o' := by
          by_cases hiX : i ∈ X
          · exact (hX i hiX o h1).2.2.2
          · exact ⟨o, by rw [← hY i hiX]; exact h1⟩
        obtain ⟨o', ho'⟩ := this
        exact ⟨i, .con (.vis o' p ho' (hB.con.ro i o' h5 ho') h5 h3 h4)⟩
    | vis o p h1 h2 h5 h3 h4 =>
      by_cases hiX : i ∈ X
      · exact ⟨i, .vis o p ((hX i hiX o h1).2.2.1 h2) h2 h5 h3 h4⟩
      · exact ⟨i, .vis o p (by rw [← hY i hiX]; exact h1) h2 h5 h3 h4⟩
    | abs k x h1 h2 =>
      have : i ∉ X := fun hi => by have := (hX i hi _ h1).2.1; cases this
      exact ⟨i, .abs k x (by rw [← hY i this]; exact h1) h2⟩
  have get2 : ∀ x o, B2.get x = some o → (x ∈ X ∧ B.get x = some o) ∨ (x ∉ X ∧ A2.get x = some o) := by
    intro x o hxo
    rcases hB2 x with ⟨h1, h3 | h3⟩ | ⟨h1, h3 | h3⟩
    · exact .inl ⟨h1, by rw [← h3]; exact hxo⟩
    · rw [h3] at hxo; cases hxo
    · exact .inr ⟨h1, by rw [← h3]; exact hxo⟩
    · rw [h3] at hxo; cases hxo
  have pold : ∀ x o p, B.get x = some o → g'.ρ x = some p → g.ρ x = some p := by
    intro x o p ho hp
    obtain ⟨q, hq, _⟩ := hB.rel.obj x o ho
    have := hx.le _ _ hq
    rw [hp] at this; cases this
    exact hq
  -- what each object of the new heap has
  have ownB : ∀ i b, OwnAt B2 g2 i b → (i ∈ X ∧ OwnAt B g i b) ∨ (i ∉ X ∧ OwnAt A2 g' i b) := by
    intro i b hi
    cases hi with
    | vis o p h1 h3 h4 h5 =>
      rcases get2 i o h1 with ⟨k1, k2⟩ | ⟨k1, k2⟩
      · exact .inl ⟨k1, .vis o p k2 h3 (pold i o p k2 h4) h5⟩
      · exact .inr ⟨k1, .vis o p k2 h3 h4 h5⟩
    | abs k x h1 h3 =>
      rcases get2 i _ h1 with ⟨k1, k2⟩ | ⟨k1, k2⟩
      · exact .inl ⟨k1, .abs k x k2 (by simpa [g2, k1] using h3)⟩
      · exact .inr ⟨k1, .abs k x k2 (by simpa [g2, k1] using h3)⟩
  have seenB : ∀ i b, SeenAt B2 g2 i b → (i ∈ X ∧ SeenAt B g i b) ∨ (i ∉ X ∧ SeenAt A2 g' i b) := by
    intro i b hi
    cases hi with
    | con hc =>
      cases hc with
      | vis o p h1 h3 h6 h4 h5 =>
        rcases get2 i o h1 with ⟨k1, k2⟩ | ⟨k1, k2⟩
        · exact .inl ⟨k1, .con (.vis o p k2 h3 h6 (pold i o p k2 h4) h5)⟩
        · exact .inr ⟨k1, .con (.vis o p k2 h3 h6 h4 h5)⟩
    | vis o p h1 h3 h6 h4 h5 =>
      rcases get2 i o h1 with ⟨k1, k2⟩ | ⟨k1, k2⟩
      · exact .inl ⟨k1, .vis o p k2 h3 h6 (pold i o p k2 h4) h5⟩
      · exact .inr ⟨k1, .vis o p k2 h3 h6 h4 h5⟩
    | abs k x h1 h3 =>
      rcases get2 i _ h1 with ⟨k1, k2⟩ | ⟨k1, k2⟩
      · exact .inl ⟨k1, .abs k x k2 (by simpa [g2, k1] using h3)⟩
      · exact .inr ⟨k1, .abs k x k2 (by simpa [g2, k1] using h3)⟩
  have roB : ∀ i b, RoAt B2 g2 i b → RoAt B g i b := by
    intro i b hi
    cases hi with
    | vis o p h1 h3 h6 h4 h5 =>
      rcases get2 i o h1 with ⟨k1, k2⟩ | ⟨k1, k2⟩
      · exact .vis o p k2 h3 h6 (pold i o p k2 h4) h5
      · have := hx.ro i o k2 h3
        rw [hY i k1] at this
        exact .vis o p this h3 h6 (pold i o p this h4) h5
  have conB : ∀ i b, ConAt B2 g2 i b → ConAt B g i b := by
    intro i b hi
    cases hi with
    | vis o p h1 h3 h6 h4 h5 =>
      rcases get2 i o h1 with ⟨k1, k2⟩ | ⟨k1, k2⟩
      · exact .vis o p k2 h3 h6 (pold i o p k2 h4) h5
      · have := hx.ro i o k2 h3
        rw [hY i k1] at this
        exact .vis o p this h3 h6 (pold i o p this h4) h5
  have ownA : ∀ b, OwnX A2 g' b → (∃ i, i ∉ X ∧ OwnAt B g i b) ∨ w.heap.size ≤ b := by
    intro b hb
    rcases hx.own b hb with k | k
    · exact .inl (own1 b k)
    · exact .inr k
  have seenA : ∀ b, SeenX A2 g' b → SeenX B g b ∨ (∃ i, i ∉ X ∧ OwnAt B g i b) ∨ w.heap.size ≤ b ∨ ConB b := by
    intro b hb
    rcases hx.seen b hb with k | k | k | k
    · exact .inl (seen1 b k)
    · exact .inr (.inl (own1 b k))
    · exact .inr (.inr (.inl k))
    · exact .inr (.inr (.inr k))
  have keepX : ∀ x ∈ X, ∀ b, (OwnAt B g x b ∨ SeenAt B g x b ∨ RoAt B g x b) → w'.heap[b]? = w.heap[b]? := by
    intro x hxX b hb
    refine hx.keep b ?_ fun hown => ?_
    · rcases hb with hb | hb | hb
      · exact hb.lt hB
      · exact hb.lt hB
      · exact hb.lt hB
    · obtain ⟨i, k1, k2⟩ := own1 b hown
      rcases hb with hb | hb | hb
      · have := hB.sep.oo i x b k2 hb
        exact k1 (this ▸ hxX)
      · exact hB.sep.os i x b k2 hb
      · exact hB.sep.ow i x b k2 hb
  have crossO : ∀ i (_ : Nat) b, i ∈ X → OwnAt B g i b → OwnX A2 g' b → False := by
    intro i _ b hi h1 h3
    rcases ownA b h3 with ⟨l, k1, k2⟩ | k
    · have := hB.sep.oo l i b k2 h1
      exact k1 (this ▸ hi)
    · have := h1.lt hB; omega
  have sep2 : Sep B2 g2 := by
    refine ⟨fun i j b h1 h3 => ?_, fun i j b h1 h3 => ?_, fun i j b h1 h3 => ?_, fun i j b h1 h3 => hB.sep.rr i j b (roB i b h1) (roB j b h3), fun i j b h1 h3 => hB.sep.rc i j b (roB i b h1) (conB j b h3),
      fun i j b h1 h3 => hB.sep.cc i j b (conB i b h1) (conB j b h3)⟩
    · rcases ownB i b h1 with ⟨k1, k2⟩ | ⟨k1, k2⟩
      · rcases ownB j b h3 with ⟨q1, q2⟩ | ⟨q1, q2⟩
        · exact hB.sep.oo i j b k2 q2
        · exact (crossO i j b k1 k2 ⟨j, q2⟩).elim
      · rcases ownB j b h3 with ⟨q1, q2⟩ | ⟨q1, q2⟩
        · exact (crossO j i b q1 q2 ⟨i, k2⟩).elim
        · exact h2.sep.oo i j b k2 q2
    · rcases ownB i b h1 with ⟨k1, k2⟩ | ⟨k1, k2⟩
      · rcases seenB j b h3 with ⟨q1, q2⟩ | ⟨q1, q2⟩
        · exact hB.sep.os i j b k2 q2
        · rcases seenA b ⟨j, q2⟩ with ⟨l, r⟩ | ⟨l, r1, r2⟩ | r | ⟨c, q, r1, r2, r3⟩
          · exact hB.sep.os i l b k2 r
          · have := hB.sep.oo l i b r2 k2
            exact r1 (this ▸ k1)
          · have := k2.lt hB; omega
          · exact (hB.con.own c q r1 r2).2 (by rw [r3]; exact ⟨i, k2⟩)
      · rcases seenB j b h3 with ⟨q1, q2⟩ | ⟨q1, q2⟩
        · rcases ownA b ⟨i, k2⟩ with ⟨l, r1, r2⟩ | r
          · exact hB.sep.os l j b r2 q2
          · have := q2.lt hB; omega
        · exact h2.sep.os i j b k2 q2
    · have q := roB j b h3
      rcases ownB i b h1 with ⟨k1, k2⟩ | ⟨k1, k2⟩
      · exact hB.sep.ow i j b k2 q
      · rcases ownA b ⟨i, k2⟩ with ⟨l, r1, r2⟩ | r
        · exact hB.sep.ow l j b r2 q
        · have := q.lt hB; omega
  have con2 : Con P g2 B2 w' := by
    refine ⟨fun i hi => h2.con.loc i hi, by rw [hn2]; exact h2.con.next, fun i o hi ho => ?_, fun i p hi hp => ?_, h2.con.cw⟩
    · rcases get2 i o ho with ⟨k1, k2⟩ | ⟨k1, k2⟩
      · exact hB.con.ro i o hi k2
      · exact h2.con.ro i o hi k2
    · obtain ⟨c1, c2⟩ := hB.con.own i p hi hp
      refine ⟨Nat.lt_of_lt_of_le c1 hx.size, fun ⟨j, k⟩ => ?_⟩
      rcases ownB j _ k with ⟨_, k2⟩ | ⟨_, k2⟩
      · exact c2 ⟨j, k2⟩
      · rcases ownA _ ⟨j, k2⟩ with ⟨l, _, r2⟩ | r
        · exact c2 ⟨l, r2⟩
        · omega
  refine ⟨g2, rfl, .of (fun i o hi ha => ?_) (fun i k x hi => ?_) sep2 con2 (fun i hi => ?_) h2.rel.glob, ?_⟩
  · rcases get2 i o hi with ⟨k1, k2⟩ | ⟨k1, k2⟩
    · obtain ⟨p, hp, ho⟩ := hB.rel.obj i o k2
      refine ⟨p, hx.le _ _ hp, ho.keep hx.le (keepX i k1 _ ?_)⟩
      cases hm : o.md with
      | own => exact .inl (.vis o p k2 hm hp rfl)
      | sh => exact .inr (.inl (.vis o p k2 hm ha hp rfl))
      | ro =>
        rcases Nat.lt_or_ge i Reps.C.next with hk | hk
        · exact .inr (.inl (.con (.vis o p k2 hm hk hp rfl)))
        · exact .inr (.inr (.vis o p k2 hm hk hp rfl))
    · exact h2.rel.obj i o k2
  · rcases get2 i _ hi with ⟨k1, k2⟩ | ⟨k1, k2⟩
    · obtain ⟨p, hp, ho⟩ := hB.abs i k x k2
      refine ⟨p, hx.le _ _ hp, ?_⟩
      have e1 : g2.S i = g.S i := by funext b; simp [g2, k1]
      have e2 : g2.F i = g.F i := by funext b; simp [g2, k1]
      rw [e1, e2]
      refine ho.keep hx.size fun b hb => keepX i k1 b ?_
      rcases hb with hb | hb
      · exact .inl (.abs k x k2 hb)
      · exact .inr (.inl (.abs k x k2 hb))
    · obtain ⟨p, hp, ho⟩ := h2.abs i k x k2
      have e1 : g2.S i = g'.S i := by funext b; simp [g2, k1]
      have e2 : g2.F i = g'.F i := by funext b; simp [g2, k1]
      rw [e1, e2]
      exact ⟨p, hp, ho⟩
  · rw [hn2] at hi
    have hf := h2.rel.fresh i hi
    refine ⟨?_, hf.2⟩
    cases hc : B2.get i with
    | none => rfl
    | some o =>
      rcases get2 i o hc with ⟨h1, h3⟩ | ⟨h1, h3⟩
      · have := hXn i h1; have := hx.next; omega
      · rw [hf.1] at h3; cases h3
  · intro A0 g0 w0 h0
    have back : ∀ b, (∃ i, i ∉ X ∧ OwnAt B g i b) → OwnX B g b := fun b ⟨i, _, h⟩ => ⟨i, h⟩
    refine ⟨Rn.le_trans h0.le hx.le, Nat.le_trans h0.size hx.size, fun b hb hno => ?_, fun b hb => ?_, ?_, fun i hi => ?_, fun b hb => ?_, fun i o hi hm => ?_, hx.os.trans h0.os, hx.output.trans h0.output, hx.tape.trans h0.tape⟩
    · have hb2 := Nat.lt_of_lt_of_le hb h0.size
      rw [hx.keep b hb2 (fun hown => ?_), h0.keep b hb hno]
      rcases h0.own b (back b (own1 b hown)) with h3 | h3
      · exact hno h3
      · omega
    · obtain ⟨i, hi⟩ := hb
      rcases ownB i b hi with ⟨_, h3⟩ | ⟨_, h3⟩
      · exact h0.own b ⟨i, h3⟩
      · rcases ownA b ⟨i, h3⟩ with h4 | h4
        · exact h0.own b (back b h4)
        · exact .inr (Nat.le_trans h0.size h4)
    · rw [hn2]; have := hx.next; have := h0.next; omega
    · have := h0.next
      show g'.ρ i = _
      rw [hx.old i (by omega), h0.old i hi]
    · obtain ⟨i, hi⟩ := hb
      have fin : SeenX B g b ∨ (∃ i, i ∉ X ∧ OwnAt B g i b) ∨ w.heap.size ≤ b ∨ ConB b → SeenX A0 g0 b ∨ OwnX A0 g0 b ∨ w0.heap.size ≤ b ∨ ConB b := by
        rintro (k | k | k | k)
        · exact h0.seen b k
        · rcases h0.own b (back b k) with k | k
          · exact .inr (.inl k)
          · exact .inr (.inr (.inl k))
        · exact .inr (.inr (.inl (Nat.le_trans h0.size k)))
        · exact .inr (.inr (.inr k))
      rcases seenB i b hi with ⟨_, h3⟩ | ⟨_, h3⟩
      · exact fin (.inl ⟨i, h3⟩)
      · exact fin (seenA b ⟨i, h3⟩)
    · rcases get2 i o hi with ⟨h1, h3⟩ | ⟨h1, h3⟩
      · exact h0.ro i o h3 hm
      · have h4 := hx.ro i o h3 hm
        rw [hY i h1] at h4
        exact h0.ro i o h4 hm

/-- A new block for an object whose number is kept ready. -/
theorem RelX.insert {g : Gh} {A : Hp} {w : World} (h : RelX P g A w) {i : Nat} (hi : i < A.next) (hik : Reps.C.next ≤ i) (hno : A.get i = none) (hρ : g.ρ i = none) (o : Ob) (O : Obj) (p : Pl) (hp : p.blk = w.heap.size)
    (ho : ObR P (g.ρ.add i p) (w.alloc O) p o) (hmd : o.md = .own) :
    RelX P ⟨g.ρ.add i p, g.S, g.F⟩ (A.set i (some o)) (w.alloc O) ∧ (∀ {A0 g0 w0}, A0.next ≤ i → ExtX A0 g0 w0 A g w → ExtX A0 g0 w0 (A.set i (some o)) ⟨g.ρ.add i p, g.S, g.F⟩ (w.alloc O)) := by
  have hle : g.ρ.le (g.ρ.add i p) := Rn.le_add p hρ
  have hget : ∀ j x, (A.set i (some o)).get j = some x → (j = i ∧ x = o) ∨ (j ≠ i ∧ A.get j = some x) := by
    intro j x hj
    by_cases e : j = i
    · left; subst e; rw [Hp.get_set_same] at hj; cases hj; exact ⟨rfl, rfl⟩
    · right; rw [Hp.get_set_ne _ _ e] at hj; exact ⟨e, hj⟩
  have hpl : ∀ j q, j ≠ i → (g.ρ.add i p) j = some q → g.ρ j = some q := by
    intro j q hj hq
    simpa only [Rn.add, if_neg hj] using hq
  have habs : ∀ j k x, (A.set i (some o)).get j = some (.abs k x) → j ≠ i ∧ A.get j = some (.abs k x) := by
    intro j k x hj
    rcases hget j _ hj with ⟨_, e⟩ | k
    · rw [← e] at hmd; cases hmd
    · exact k
  let g2 : Gh := ⟨g.ρ.add i p, g.S, g.F⟩
  have own2 : ∀ j b, OwnAt (A.set i (some o)) g2 j b → (j = i ∧ b = w.heap.size) ∨ OwnAt A g j b := by
    intro j b hj
    cases hj with
    | vis o' q h1 h2 h3 h4 =>
      rcases hget j o' h1 with ⟨rfl, rfl⟩ | ⟨e, k⟩
      · have : (g.ρ.add j p) j = some q := h3
        rw [Rn.add_same] at this; cases this
        exact .inl ⟨rfl, by rw [← h4, hp]⟩
      · exact .inr (.vis o' q k h2 (hpl j q e h3) h4)
    | abs k x h1 h2 => exact .inr (.abs k x (habs j k x h1).2 h2)
  have con2 : ∀ j b, ConAt (A.set i (some o)) g2 j b → ConAt A g j b := by
    intro j b hj
    cases hj with
    | vis o' q h1 h2 h5 h3 h4 =>
      rcases hget j o' h1 with ⟨rfl, rfl⟩ | ⟨e, k⟩
      · rw [hmd] at h2; cases h2
      · exact .vis o' q k h2 h5 (hpl j q e h3) h4
  have seen2 : ∀ j b, SeenAt (A.set i (some o)) g2 j b → SeenAt A g j b := by
    intro j b hj
    cases hj with
    | con hc => exact .con (con2 j b hc)
    | vis o' q h1 h2 h5 h3 h4 =>
      rcases hget j o' h1 with ⟨rfl, rfl⟩ | ⟨e, k⟩
      · rw [hmd] at h2; cases h2
      · exact .vis o' q k h2 h5 (hpl j q e h3) h4
    | abs k x h1 h2 => exact .abs k x (habs j k x h1).2 h2
  have ro2 : ∀ j b, RoAt (A.set i (some o)) g2 j b → RoAt A g j b := by
    intro j b hj
    cases hj with
    | vis o' q h1 h2 h5 h3 h4 =>
      rcases hget j o' h1 with ⟨rfl, rfl⟩ | ⟨e, k⟩
      · rw [hmd] at h2; cases h2
      · exact .vis o' q k h2 h5 (hpl j q e h3) h4
  have sz : w.heap.size ≤ (w.alloc O).heap.size := by simp
  constructor
  · refine .of (fun j x hj ha => ?_) (fun j k x hj => ?_) ⟨fun a b c h1 h2 => ?_, fun a b c h1 h2 => ?_, fun a b c h1 h2 => ?_, fun a b c h1 h2 => h.sep.rr a b c (ro2 a c h1) (ro2 b c h2), fun a b c h1 h2 => h.sep.rc a b c (ro2 a c h1) (con2 b c h2), fun a b c h1 h2 => h.sep.cc a b c (con2 a c h1) (con2 b c h2)⟩
      ⟨fun j hj => ?_, h.con.next, fun j x hj hx => ?_, fun j q hj hq => ?_, h.con.cw.keep fun b ⟨c, q, k1, k2, k3⟩ => World.heap_old w O (by rw [← k3]; exact (h.con.own c q k1 k2).1)⟩ (fun j hj => ?_) (fun g' hg => ?_)
    · rcases hget j x hj with ⟨rfl, rfl⟩ | ⟨e, hj'⟩
      · exact ⟨p, Rn.add_same _ _ _, ho⟩
      · obtain ⟨q, hq, hob⟩ := h.rel.obj j x hj'
        exact ⟨q, hle _ _ hq, hob.keep hle (World.heap_old w O hob.lt)⟩
    · obtain ⟨_, hj'⟩ := habs j k x hj
      obtain ⟨q, hq, hob⟩ := h.abs j k x hj'
      exact ⟨q, hle _ _ hq, hob.keep sz fun b hb => World.heap_old w O (hob.lt b hb)⟩
    · rcases own2 a c h1 with ⟨rfl, rfl⟩ | k1
      · rcases own2 b _ h2 with ⟨rfl, _⟩ | k2
        · rfl
        · have := k2.lt h; omega
      · rcases own2 b c h2 with ⟨rfl, rfl⟩ | k2
        · have := k1.lt h; omega
        · exact h.sep.oo a b c k1 k2
    · have k2 := seen2 b c h2
      rcases own2 a c h1 with ⟨rfl, rfl⟩ | k1
      · have := k2.lt h; omega
      · exact h.sep.os a b c k1 k2
    · have k2 := ro2 b c h2
      rcases own2 a c h1 with ⟨rfl, rfl⟩ | k1
      · have := k2.lt h; omega
      · exact h.sep.ow a b c k1 k2
    · show (g.ρ.add i p) j = _
      simp only [Rn.add]; rw [if_neg (by omega)]; exact h.con.loc j hj
    · rcases hget j x hx with ⟨rfl, _⟩ | ⟨e, hx'⟩
      · omega
      · exact h.con.ro j x hj hx'
    · obtain ⟨c1, c2⟩ := h.con.own j q hj hq
      refine ⟨Nat.lt_of_lt_of_le c1 sz, fun ⟨l, k⟩ => ?_⟩
      rcases own2 l _ k with ⟨_, e⟩ | k
      · omega
      · exact c2 ⟨l, k⟩
    · have hj' : A.next ≤ j := hj
      have := h.rel.fresh j hj'
      have e : j ≠ i := by omega
      rw [Hp.get_set_ne _ _ e]
      exact ⟨this.1, by simp only [Rn.add, if_neg e, this.2]⟩
    · obtain ⟨q, h1, h2, h3⟩ := h.rel.glob g' hg
      exact ⟨q, hle _ _ h1, h2, h3⟩
  · intro A0 g0 w0 hA0 h0
    refine ⟨Rn.le_trans h0.le hle, Nat.le_trans h0.size sz, fun b hb hn => ?_, fun b ⟨j, hb⟩ => ?_, h0.next, fun j hj => ?_, fun b ⟨j, hb⟩ => h0.seen b ⟨j, seen2 j b hb⟩, fun j x hj hm => ?_, h0.os, h0.output, h0.tape⟩
    · have := h0.size
      rw [World.heap_old w O (by omega)]; exact h0.keep b hb hn
    · rcases own2 j b hb with ⟨_, rfl⟩ | k
      · exact .inr h0.size
      · exact h0.own b ⟨j, k⟩
    · simp only [Rn.add]; rw [if_neg (by omega)]; exact h0.old j hj
    · rcases hget j x hj with ⟨rfl, rfl⟩ | ⟨e, hj'⟩
      · rw [hmd] at hm; cases hm
      · exact h0.ro j x hj' hm

end
end Go.Dn
end
