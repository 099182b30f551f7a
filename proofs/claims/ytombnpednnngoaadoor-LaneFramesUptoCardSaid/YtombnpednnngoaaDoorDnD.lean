/-
  Part of the abstract machine for this program.
-/
import Derived.Test.YtombnpednnngoaaDoorDnC

section
namespace Go.Dn

/-! ## keys -/
/-- a key all of whose parts can be looked at -/
def keyOk (E : Env) : Nat → TypeId → Value → Bool
  | 0, _, _ => false
  | n + 1, t, v => match E.T t with
    | none => false
    | some i => match i.d, v with
      | .bool, .bool _ => true
      | .int _, .int _ _ => true
      | .string, .string _ => true
      | .struct fs, .agg cs => fs.toList.all fun f => match dpart E f.type cs f.offset with
        | none => false
        | some x => keyOk E n f.type x
      | _, _ => false

theorem checkKey_fields {P : Program} {E : Env} (hT : E.T.ok P) {ρ : Rn} {n d : Nat} {em : Bool} {cs cs' : Array Value} (hc : AR ρ cs cs')
    (ih : ∀ t v v', VR ρ v v' → keyOk E n t v = true → ∀ w, (Instr.checkKey em d t v').run P w = .ok () w) : ∀ (fs : List Field),
    (fs.all fun f => match dpart E f.type cs f.offset with | none => false | some x => keyOk E n f.type x) = true →
    ∀ w, (forIn fs PUnit.unit (fun f (_ : PUnit) => do
        if f.name ≠ "_" then do Instr.checkKey em d f.type (← part f.type cs' f.offset); pure (ForInStep.yield PUnit.unit)
        else pure (ForInStep.yield PUnit.unit)) : Sem PUnit).run P w = .ok PUnit.unit w
  | [], _, w => by simp
  | f :: fs, h, w => by
    simp only [List.all_cons, Bool.and_eq_true] at h
    obtain ⟨h1, h2⟩ := h
    have rest := checkKey_fields hT hc ih fs h2
    simp only [List.forIn_cons, Sem.run_bind]
    split
    · cases hp : dpart E f.type cs f.offset with
      | none => rw [hp] at h1; cases h1
      | some x =>
        rw [hp] at h1
        obtain ⟨x', a1, a2⟩ := dpart_sound hT hc hp
        simp only [Sem.run_bind, a2 w, Result.andThen_ok, ih _ _ _ a1 h1 w, Sem.run_pure]
        exact rest w
    · simp only [Sem.run_pure, Result.andThen_ok]
      exact rest w

theorem keyOk_sound {P : Program} {E : Env} (hT : E.T.ok P) {ρ : Rn} {em : Bool} : ∀ (n d : Nat), n ≤ d → ∀ t v v', VR ρ v v' → keyOk E n t v = true → ∀ w, (Instr.checkKey em d t v').run P w = .ok () w
  | 0, _, _, _, _, _, _, h, _ => by cases h
  | n + 1, 0, hd, _, _, _, _, _, _ => by omega
  | n + 1, d + 1, hd, t, v, v', hv, h, w => by
    simp only [keyOk] at h
    cases hi : E.T t with
    | none => rw [hi] at h; cases h
    | some i =>
      rw [hi] at h
      simp only at h
      split at h
      · rename_i hk; cases hv; simp only [Instr.checkKey, Sem.run_bind, run_und hT hi, hk, Result.andThen_ok]; rfl
      · rename_i hk; cases hv; simp only [Instr.checkKey, Sem.run_bind, run_und hT hi, hk, Result.andThen_ok]; rfl
      · rename_i hk; cases hv; simp only [Instr.checkKey, Sem.run_bind, run_und hT hi, hk, Result.andThen_ok]; rfl
      · rename_i fs cs hk
        cases hv with
        | agg _ bs k1 k2 =>
        have key := checkKey_fields hT (n := n) (d := d) (em := em) ⟨k1, k2⟩ (fun t v v' a b => keyOk_sound hT n d (by omega) t v v' a b) fs.toList h w
        simp only [Instr.checkKey, Sem.run_bind, run_und hT hi, hk, Result.andThen_ok]
        rw [← Array.forIn_toList, key]
        rfl
      · cases h

/-- the place of a key among the entries: none: the search did not end -/
def dfind (E : Env) (kt : TypeId) (k : Value) : List (Value × Value) → Nat → Option (Option (Nat × Value))
  | [], _ => some none
  | (a, v) :: es, i => (deqF E 20 kt k a).bind fun r => bif r then some (some (i, v)) else dfind E kt k es (i + 1)

def FR (ρ : Rn) : Option (Nat × Value) → Option (Nat × Value) → Prop
  | none, none => True
  | some (a, u), some (b, v) => a = b ∧ VR ρ u v
  | _, _ => False

/-- entries, one by one -/
structure ER (ρ : Rn) (es : List (Value × Value)) (E : List MapEntry) : Prop where
  len : E.length = es.length
  get : ∀ (j : Nat) (x : Value × Value), es[j]? = some x → ∃ e : MapEntry, E[j]? = some e ∧ VR ρ x.1 e.key ∧ VR ρ x.2 e.val

theorem ER.tail {ρ : Rn} {x : Value × Value} {es : List (Value × Value)} {e : MapEntry} {E : List MapEntry} (h : ER ρ (x :: es) (e :: E)) : ER ρ es E :=
  ⟨by simpa using h.len, fun j y hy => by simpa using h.get (j + 1) y (by simpa using hy)⟩
theorem ER.head {ρ : Rn} {x : Value × Value} {es : List (Value × Value)} {e : MapEntry} {E : List MapEntry} (h : ER ρ (x :: es) (e :: E)) : VR ρ x.1 e.key ∧ VR ρ x.2 e.val := by
  obtain ⟨e', h1, h2, h3⟩ := h.get 0 x (by simp)
  simp at h1; subst h1; exact ⟨h2, h3⟩

theorem findAsking_sound {P : Program} {E : Env} (hT : E.T.ok P) {ρ : Rn} {kt : TypeId} {k k' : Value} (hk : VR ρ k k') : ∀ (es : List (Value × Value)) (F : List MapEntry) (i : Nat) (r : Option (Nat × Value)),
    ER ρ es F → dfind E kt k es i = some r →
    ∃ r', (∀ w, (Instr.findAsking kt k' F i).run P w = .ok r' w) ∧ FR ρ r r'
  | [], F, i, r, hr, h => by
    have : F = [] := by have := hr.len; simpa using this
    subst this
    cases h
    exact ⟨none, fun w => by simp [Instr.findAsking], trivial⟩
  | (a, v) :: es, [], i, r, hr, h => by have := hr.len; simp at this
  | (a, v) :: es, e :: F, i, r, hr, h => by
    simp only [dfind] at h
    replace h := bind_some h
    obtain ⟨q, h1, h⟩ := h
    have heq : ∀ w, (Go.Op.equal kt k' e.key).run P w = .ok q w := fun w => deqF_sound hT 20 10000 (by omega) _ _ _ _ _ _ hk hr.head.1 h1 w
    cases q with
    | true =>
      cases h
      exact ⟨some (i, e.val), fun w => by simp [Instr.findAsking, heq], rfl, hr.head.2⟩
    | false =>
      obtain ⟨r', k1, k2⟩ := findAsking_sound hT hk es F (i + 1) r hr.tail h
      exact ⟨r', fun w => by simp [Instr.findAsking, heq, k1], k2⟩

theorem findNow_asking {P : Program} {E : Env} (hT : E.T.ok P) {ρ : Rn} {kt : TypeId} {i0 : TI} (hi : E.T kt = some i0) {k k' : Value} (hk : VR ρ k k') : ∀ (es : List (Value × Value)) (F : List MapEntry) (i : Nat) (r : Option (Nat × Value)),
    ER ρ es F → dfind E kt k es i = some r → ∀ x, Instr.findNow i0.d k' F i = some x → ∀ w, (Instr.findAsking kt k' F i).run P w = .ok x w
  | [], F, i, r, hr, h, x, hx, w => by
    have : F = [] := by have := hr.len; simpa using this
    subst this
    simp only [Instr.findNow] at hx; cases hx
    simp [Instr.findAsking]
  | (a, v) :: es, [], i, r, hr, h, _, _, _ => by have := hr.len; simp at this
  | (a, v) :: es, e :: F, i, r, hr, h, x, hx, w => by
    simp only [dfind] at h
    replace h := bind_some h
    obtain ⟨q, h1, h⟩ := h
    have heq : ∀ w, (Go.Op.equal kt k' e.key).run P w = .ok q w := fun w => deqF_sound hT 20 10000 (by omega) _ _ _ _ _ _ hk hr.head.1 h1 w
    have hs : Instr.sameNow i0.d k' e.key = some q ∨ Instr.sameNow i0.d k' e.key = none := by
      have hkey := hr.head.1
      generalize e.key = ek at hkey ⊢
      simp only [deqF, hi, Option.bind_some] at h1
      split at h1
      · rename_i hd; cases hk; cases hkey; cases h1; left; rw [hd]; rfl
      · rename_i hd; cases hk; cases hkey
        split at h1
        · rename_i e2; cases h1; left; rw [hd]; simp [Instr.sameNow, e2]
        · cases h1
      · rename_i hd; cases hk; cases hkey; cases h1; left; rw [hd]; rfl
      · rename_i hd; right; rw [hd]; rfl
      · cases h1
    simp only [Instr.findNow] at hx
    rcases hs with hs | hs
    · rw [hs] at hx
      cases q with
      | true => simp only at hx; cases hx; simp [Instr.findAsking, heq]
      | false =>
        simp only at hx
        cases h' : dfind E kt k es (i + 1) with
        | none => rw [h'] at h; cases h
        | some r2 =>
          have := findNow_asking hT hi hk es F (i + 1) r2 hr.tail h' x hx w
          simp [Instr.findAsking, heq, this]
    · rw [hs] at hx; cases hx

theorem findKey_sound {P : Program} {E : Env} (hT : E.T.ok P) {ρ : Rn} {kt : TypeId} {i0 : TI} (hi : E.T kt = some i0) {k k' : Value} (hk : VR ρ k k') {es : List (Value × Value)} {F : List MapEntry} {r : Option (Nat × Value)}
    (hr : ER ρ es F) (h : dfind E kt k es 0 = some r) :
    ∃ r', (∀ w, (Instr.findKey kt k' F).run P w = .ok r' w) ∧ FR ρ r r' := by
  obtain ⟨r', k1, k2⟩ := findAsking_sound hT hk es F 0 r hr h
  refine ⟨r', fun w => ?_, k2⟩
  simp only [Instr.findKey, Sem.run_bind, run_und hT hi, Result.andThen_ok]
  cases hn : Instr.findNow i0.d k' F 0 with
  | none => exact k1 w
  | some x =>
    have e1 := findNow_asking hT hi hk es F 0 r hr h x hn w
    rw [k1 w] at e1
    cases e1
    rfl

end Go.Dn
end

section
namespace Go.Dn

theorem map_inv {P : Program} {ρ : Rn} {w : World} {p : Pl} {es : List (Value × Value)} {m : Md} (h : ObR P ρ w p (.map es m)) :
    ∃ (F : Array MapEntry) (ck : Nat), w.heap[p.blk]? = some (.map F ck) ∧ ER ρ es F.toList := by
  cases h with
  | map _ _ F ck hb hl hc => exact ⟨F, ck, hb, by simpa using hl, fun j x hx => by obtain ⟨e, a, b⟩ := hc j x hx; exact ⟨e, by simpa using a, b⟩⟩

theorem run_getObj_map {P : Program} {w : World} {r : Nat} {F : Array MapEntry} {ck : Nat} (h : w.heap[r]? = some (.map F ck)) : (getObj r).run P w = .ok (.map F ck) w := by
  simp [getObj, Sem.run, h]

theorem run_setObj_map {P : Program} {w : World} {r : Nat} {F : Array MapEntry} {ck : Nat} (h : w.heap[r]? = some (.map F ck)) (o : Obj) :
    (setObj r o).run P w = .ok () { w with heap := w.heap.setIfInBounds r o } := by
  simp [setObj, Sem.run, h]

theorem map_change {P : Program} {ρ : Rn} {A : Hp} {w : World} (h : Rel P ρ A w) {i : Nat} {es : List (Value × Value)} {p : Pl} (hi : A.get i = some (.map es .own)) (hp : ρ i = some p)
    (es' : List (Value × Value)) (F' : Array MapEntry) (ck' : Nat) (hr : ER ρ es' F'.toList) :
    Rel P ρ (A.set i (some (.map es' .own))) { w with heap := w.heap.setIfInBounds p.blk (.map F' ck') } ∧ Ext A ρ w (A.set i (some (.map es' .own))) ρ { w with heap := w.heap.setIfInBounds p.blk (.map F' ck') } := by
  obtain ⟨q, hq, hob⟩ := h.obj i _ hi
  rw [hp] at hq; cases hq
  refine h.change (.map es' .own) hi hp rfl rfl _ (by simp) (fun b hb => ?_) ?_ rfl rfl rfl
  · simp only [Array.getElem?_setIfInBounds]
    rw [if_neg (fun e => hb e.symm)]
  · refine .map es' .own F' ck' ?_ (by simpa using hr.len) (fun j x hx => by obtain ⟨e, a, b⟩ := hr.get j x hx; exact ⟨e, by simpa using a, b⟩)
    simp only [Array.getElem?_setIfInBounds, if_true]
    rw [if_pos hob.lt]

/-! ## looking up -/
def pzero (E : Env) (t : TypeId) : Option Value := (E.T t).bind fun i => i.zero.bind fun z => bif plain1 z then some z else none

theorem pzero_sound {P : Program} {E : Env} (hT : E.T.ok P) {ρ : Rn} {t : TypeId} {z : Value} (h : pzero E t = some z) : VR ρ z z ∧ ∀ w, (zeroValue t).run P w = .ok z w := by
  unfold pzero at h
  replace h := bind_some h
  obtain ⟨i, h1, h⟩ := h
  replace h := bind_some h
  obtain ⟨z', h2, h⟩ := h
  cases hp : plain1 z' with
  | false => rw [hp] at h; cases h
  | true =>
    rw [hp] at h; cases h
    obtain ⟨x, a1, _, _, a4⟩ := zero_of hT h1 h2
    exact ⟨plain1_vr hp, fun w => by simp [zeroValue, typeInfo, a1, a4]⟩

def mapOf (A : Hp) (x : Value) : Option (List (Value × Value) × List Nat) :=
  match x with
  | .map none => some ([], [])
  | .map (some i) => match A.get i with
    | some (.map es _) => some (es, [i])
    | _ => none
  | _ => none

def dlookup (E : Env) (t : TypeId) (A : Hp) (x k : Value) (ok : Bool) : Option (Value × List Nat) :=
  (E.T t).bind fun i => match i.d with
    | .map kt et => (E.T kt).bind fun _ => (mapOf A x).bind fun (es, l) =>
      bif keyOk E 20 kt k then (dfind E kt k es 0).bind fun r => match r with
        | some (_, v) => some (bif ok then .tuple #[v, .bool true] else v, l)
        | none => (pzero E et).map fun z => (bif ok then .tuple #[z, .bool false] else z, l)
      else none
    | _ => none

theorem tuple2 {ρ : Rn} {u u' v v' : Value} (h1 : VR ρ u u') (h2 : VR ρ v v') : VR ρ (.tuple #[u, v]) (.tuple #[u', v']) := by
  refine .tuple _ _ rfl fun j a b ha hb => ?_
  match j with
  | 0 => simp at ha hb; subst ha; subst hb; exact h1
  | 1 => simp at ha hb; subst ha; subst hb; exact h2
  | j + 2 => simp at ha

theorem mapOf_sound {P : Program} {ρ : Rn} {A : Hp} {w : World} (h : Rel P ρ A w) {x x' : Value} {es : List (Value × Value)} {l : List Nat} (hx : VR ρ x x') (hm : mapOf A x = some (es, l)) :
    ∃ F : Array MapEntry, ER ρ es F.toList ∧ (x' = .map none ∧ F = #[] ∨ ∃ r ck, x' = .map (some r) ∧ w.heap[r]? = some (.map F ck)) := by
  unfold mapOf at hm
  split at hm
  · cases hm; cases hx
    exact ⟨#[], ⟨rfl, by simp⟩, .inl ⟨rfl, rfl⟩⟩
  · rename_i i
    split at hm
    · rename_i es' m hg
      cases hm
      cases hx with
      | map hp =>
      obtain ⟨q, hq, hob⟩ := h.obj i _ hg
      rw [hp] at hq; cases hq
      obtain ⟨F, ck, h1, h2⟩ := map_inv hob
      exact ⟨F, h2, .inr ⟨_, ck, rfl, h1⟩⟩
    · cases hm
  · cases hm

theorem dlookup_sound {P : Program} {E : Env} (hT : E.T.ok P) {ρ : Rn} {A : Hp} {w : World} (h : Rel P ρ A w) {t : TypeId} {x x' k k' v : Value} {ok : Bool} {l : List Nat} (hx : VR ρ x x') (hk : VR ρ k k')
    (hd : dlookup E t A x k ok = some (v, l)) : ∃ v', VR ρ v v' ∧ (Instr.lookup t x' k' ok).run P w = .ok v' w := by
  unfold dlookup at hd
  replace hd := bind_some hd
  obtain ⟨i, h1, hd⟩ := hd
  split at hd
  · rename_i kt et hi
    replace hd := bind_some hd
    obtain ⟨ki, h2, hd⟩ := hd
    replace hd := bind_some hd
    obtain ⟨⟨es, l'⟩, h3, hd⟩ := hd
    simp only at hd
    cases hko : keyOk E 20 kt k with
    | false => rw [hko] at hd; cases hd
    | true =>
      rw [hko] at hd
      simp only [cond_true] at hd
      replace hd := bind_some hd
      obtain ⟨r, h4, hd⟩ := hd
      obtain ⟨F, f1, f2⟩ := mapOf_sound h hx h3
      obtain ⟨r', f3, f4⟩ := findKey_sound hT h2 hk f1 h4
      have fck := fun em => keyOk_sound hT (em := em) 20 10000 (by omega) kt k k' hk hko w
      cases r with
      | some av =>
        obtain ⟨a, u⟩ := av
        cases r' with
        | none => exact f4.elim
        | some bv =>
          obtain ⟨b, u'⟩ := bv
          obtain ⟨rfl, f5⟩ := f4
          cases hd
          refine ⟨bif ok then .tuple #[u', .bool true] else u', ?_, ?_⟩
          · cases ok
            · exact f5
            · exact tuple2 f5 (.bool _)
          · simp only [Instr.lookup, Sem.run_bind, run_und hT h1, hi, Result.andThen_ok]
            rcases f2 with ⟨rfl, rfl⟩ | ⟨r, ck, rfl, hr⟩
            · simp only [Sem.run_bind, Sem.run_pure, Result.andThen_ok, fck, f3 w]
              cases ok <;> rfl
            · simp only [Sem.run_bind, run_getObj_map hr, Result.andThen_ok, Sem.run_pure, fck, f3 w]
              cases ok <;> rfl
      | none =>
        cases r' with
        | some bv => exact f4.elim
        | none =>
          simp only at hd
          cases hz : pzero E et with
          | none => rw [hz] at hd; cases hd
          | some z =>
            rw [hz] at hd
            cases hd
            obtain ⟨z1, z2⟩ := pzero_sound (ρ := ρ) hT hz
            refine ⟨bif ok then .tuple #[z, .bool false] else z, ?_, ?_⟩
            · cases ok
              · exact z1
              · exact tuple2 z1 (.bool _)
            · simp only [Instr.lookup, Sem.run_bind, run_und hT h1, hi, Result.andThen_ok]
              rcases f2 with ⟨rfl, rfl⟩ | ⟨r, ck, rfl, hr⟩
              · simp only [Sem.run_bind, Sem.run_pure, Result.andThen_ok, fck, f3 w, z2 w]
                cases ok <;> rfl
              · simp only [Sem.run_bind, run_getObj_map hr, Result.andThen_ok, Sem.run_pure, fck, f3 w, z2 w]
                cases ok <;> rfl
  · cases hd

end Go.Dn
end

section
namespace Go.Dn

/-! ## writing maps -/
/-- two plain values are the same -/
def peq0 : Value → Value → Bool
  | .int k a, .int l b => decide (k = l) && a == b
  | .bool a, .bool b => a == b
  | .string a, .string b => a == b
  | _, _ => false
def peqs : List Value → List Value → Bool
  | [], [] => true
  | a :: l, b :: m => peq0 a b && peqs l m
  | _, _ => false
def peq : Value → Value → Bool
  | .agg a, .agg b => peqs a.toList b.toList
  | a, b => peq0 a b

theorem peq0_bits {ρ : Rn} {a b a' b' : Value} (ha : VR ρ a a') (hb : VR ρ b b') (h : peq0 a b = true) (n : Nat) : Instr.sameBits n b' a' = true := by
  unfold peq0 at h
  split at h
  · cases ha; cases hb; simp at h; obtain ⟨rfl, rfl⟩ := h; cases n <;> simp [Instr.sameBits]
  · cases ha; cases hb; simp at h; subst h; cases n <;> simp [Instr.sameBits]
  · cases ha; cases hb
    rename_i a b
    rw [beq_toListBytes] at h
    have h2 := eq_of_beq h
    cases n <;> (show (b == a) = true; rw [beq_toListBytes, h2]; exact beq_self_eq_true _)
  · cases h

theorem peqs_bits {ρ : Rn} (n : Nat) : ∀ {l m l' m' : List Value}, l.length = l'.length → m.length = m'.length → (∀ (j : Nat) u v, l[j]? = some u → l'[j]? = some v → VR ρ u v) →
    (∀ (j : Nat) u v, m[j]? = some u → m'[j]? = some v → VR ρ u v) → peqs l m = true → (m'.zip l').all (fun (x, y) => Instr.sameBits n x y) = true ∧ l.length = m.length
  | [], [], [], [], _, _, _, _, _ => ⟨rfl, rfl⟩
  | a :: l, b :: m, a' :: l', b' :: m', h1, h2, h3, h4, h => by
    have h : (peq0 a b && peqs l m) = true := h
    rw [Bool.and_eq_true] at h
    obtain ⟨r1, r2⟩ := peqs_bits n (l := l) (m := m) (l' := l') (m' := m') (by simpa using h1) (by simpa using h2) (fun j u v a b => h3 (j + 1) u v (by simpa using a) (by simpa using b))
      (fun j u v a b => h4 (j + 1) u v (by simpa using a) (by simpa using b)) h.2
    refine ⟨?_, by simp [r2]⟩
    simp only [List.zip_cons_cons, List.all_cons, Bool.and_eq_true]
    exact ⟨peq0_bits (h3 0 _ _ (by simp) (by simp)) (h4 0 _ _ (by simp) (by simp)) h.1 n, r1⟩
  | [], _ :: _, _, _, _, _, _, _, h => by cases h
  | _ :: _, [], _, _, _, _, _, _, h => by cases h
  | [], [], _ :: _, _, h, _, _, _, _ => by simp at h
  | [], [], _, _ :: _, _, h, _, _, _ => by simp at h
  | _ :: _, _ :: _, [], _, h, _, _, _, _ => by simp at h
  | _ :: _, _ :: _, _, [], _, h, _, _, _ => by simp at h

theorem peq_bits {ρ : Rn} {a b a' b' : Value} (ha : VR ρ a a') (hb : VR ρ b b') (h : peq a b = true) : Instr.sameBits 10000 b' a' = true := by
  unfold peq at h
  split at h
  · cases ha with
    | agg _ as h1 h2 =>
    cases hb with
    | agg _ bs h3 h4 =>
    obtain ⟨r1, r2⟩ := peqs_bits (ρ := ρ) 9999 (l' := as.toList) (m' := bs.toList) (by simpa using h1) (by simpa using h3) (fun j u v a b => h2 j u v (by simpa using a) (by simpa using b))
      (fun j u v a b => h4 j u v (by simpa using a) (by simpa using b)) h
    show (bs.size == as.size && (bs.toList.zip as.toList).all fun (x, y) => Instr.sameBits 9999 x y) = true
    rw [r1]
    have : bs.size = as.size := by
      rw [← h1, ← h3]; simpa using r2.symm
    simp [this]
  · exact peq0_bits ha hb h 10000

def dmapUpdate (E : Env) (t : TypeId) (A : Hp) (x k v : Value) : Option Hp :=
  (E.T t).bind fun i => match i.d, x with
    | .map kt _, .map (some b) => (E.T kt).bind fun _ => match A.get b with
      | some (.map es .own) => bif keyOk E 20 kt k then (dfind E kt k es 0).bind fun r => match r with
        | some (j, _) => (es[j]?).bind fun old => bif peq k old.1 then some (A.set b (some (.map (es.set j (k, v)) .own))) else none
        | none => some (A.set b (some (.map (es ++ [(k, v)]) .own)))
        else none
      | _ => none
    | _, _ => none

theorem ER.set {ρ : Rn} {es : List (Value × Value)} {F : Array MapEntry} (h : ER ρ es F.toList) (j : Nat) {k v k' v' : Value} (hk : VR ρ k k') (hv : VR ρ v v') :
    ER ρ (es.set j (k, v)) (F.modify j fun e => { e with key := k', val := v' }).toList := by
  refine ⟨by have := h.len; simpa using this, fun q x hx => ?_⟩
  rw [List.getElem?_set] at hx
  by_cases e : j = q
  · subst e
    rw [if_pos rfl] at hx
    split at hx
    · rename_i hlt
      cases hx
      have hl := h.len
      have hF : j < F.size := by simp at hl; omega
      refine ⟨{ F[j] with key := k', val := v' }, ?_, hk, hv⟩
      rw [Array.getElem?_toList, Array.getElem?_modify, if_pos rfl, Array.getElem?_eq_getElem hF]
      rfl
    · cases hx
  · rw [if_neg e] at hx
    obtain ⟨en, h1, h2⟩ := h.get q x hx
    refine ⟨en, ?_, h2⟩
    rw [Array.getElem?_toList, Array.getElem?_modify, if_neg e]
    simpa using h1

theorem ER.push {ρ : Rn} {es : List (Value × Value)} {F : Array MapEntry} (h : ER ρ es F.toList) {k v k' v' : Value} (hk : VR ρ k k') (hv : VR ρ v v') (b : Nat) :
    ER ρ (es ++ [(k, v)]) (F.push { key := k', val := v', born := b }).toList := by
  have hl := h.len
  refine ⟨by simpa using hl, fun q x hx => ?_⟩
  rw [List.getElem?_append] at hx
  simp only [Array.toList_push]
  by_cases e : q < es.length
  · rw [if_pos e] at hx
    obtain ⟨en, h1, h2⟩ := h.get q x hx
    refine ⟨en, ?_, h2⟩
    rw [List.getElem?_append, if_pos (by omega)]
    exact h1
  · rw [if_neg e] at hx
    have hq : q - es.length = 0 := by
      have := (List.getElem?_eq_some_iff.1 hx).1
      simp at this; omega
    rw [hq] at hx
    simp at hx; subst hx
    refine ⟨{ key := k', val := v', born := b }, ?_, hk, hv⟩
    rw [List.getElem?_append, if_neg (by omega)]
    have : q - F.toList.length = 0 := by omega
    rw [this]; rfl

theorem dmapUpdate_sound {P : Program} {E : Env} (hT : E.T.ok P) {ρ : Rn} {A A' : Hp} {w : World} (h : Rel P ρ A w) {t : TypeId} {x x' k k' v v' : Value} (hx : VR ρ x x') (hk : VR ρ k k') (hv : VR ρ v v')
    (hd : dmapUpdate E t A x k v = some A') : ∃ w', (Instr.mapUpdate t x' k' v').run P w = .ok () w' ∧ Rel P ρ A' w' ∧ Ext A ρ w A' ρ w' := by
  unfold dmapUpdate at hd
  replace hd := bind_some hd
  obtain ⟨i, h1, hd⟩ := hd
  split at hd
  · rename_i kt et b hi
    replace hd := bind_some hd
    obtain ⟨ki, h2, hd⟩ := hd
    cases hx with
    | map hp =>
    rename_i p
    split at hd
    · rename_i es hg
      cases hko : keyOk E 20 kt k with
      | false => rw [hko] at hd; cases hd
      | true =>
        rw [hko] at hd
        simp only [cond_true] at hd
        replace hd := bind_some hd
        obtain ⟨r, h4, hd⟩ := hd
        obtain ⟨q, hq, hob⟩ := h.obj b _ hg
        rw [hp] at hq; cases hq
        obtain ⟨F, ck, hb, f1⟩ := map_inv hob
        obtain ⟨r', f3, f4⟩ := findKey_sound hT h2 hk f1 h4
        have fck := keyOk_sound hT (em := false) 20 10000 (by omega) kt k k' hk hko w
        cases r with
        | some av =>
          obtain ⟨j, u⟩ := av
          cases r' with
          | none => exact f4.elim
          | some bv =>
            obtain ⟨j', u'⟩ := bv
            obtain ⟨rfl, f5⟩ := f4
            simp only at hd
            replace hd := bind_some hd
            obtain ⟨old, h5, hd⟩ := hd
            cases hpe : peq k old.1 with
            | false => rw [hpe] at hd; cases hd
            | true =>
              rw [hpe] at hd
              cases hd
              obtain ⟨en, e1, e2, e3⟩ := f1.get j old h5
              have hbits := peq_bits hk e2 hpe
              obtain ⟨c1, c2⟩ := map_change h hg hp (es.set j (k, v)) (F.modify j fun e => { e with key := k', val := v' }) ck (f1.set j hk hv)
              refine ⟨_, ?_, c1, c2⟩
              have e1' : F[j]? = some en := by simpa using e1
              simp only [Instr.mapUpdate, Sem.run_bind, run_und hT h1, hi, Result.andThen_ok, run_getObj_map hb, fck, f3 w, e1', Option.map_some, Option.getD_some, Instr.keyThatStays, hbits, if_true, Sem.run_pure]
              exact run_setObj_map hb _
        | none =>
          cases r' with
          | some bv => exact f4.elim
          | none =>
            simp only at hd
            cases hd
            obtain ⟨c1, c2⟩ := map_change h hg hp (es ++ [(k, v)]) (F.push { key := k', val := v', born := ck }) (ck + 1) (f1.push hk hv ck)
            refine ⟨_, ?_, c1, c2⟩
            simp only [Instr.mapUpdate, Sem.run_bind, run_und hT h1, hi, Result.andThen_ok, run_getObj_map hb, fck, f3 w]
            exact run_setObj_map hb _
    · cases hd
  · cases hd

def ddelete (E : Env) (t : TypeId) (A : Hp) (x k : Value) : Option Hp :=
  (E.T t).bind fun i => match i.d with
    | .map kt _ => (E.T kt).bind fun _ => bif keyOk E 20 kt k then (match x with
      | .map none => some A
      | .map (some b) => match A.get b with
        | some (.map es .own) => (dfind E kt k es 0).bind fun r => match r with
          | some (j, _) => some (A.set b (some (.map (es.eraseIdx j) .own)))
          | none => some (A.set b (some (.map es .own)))
        | _ => none
      | _ => none) else none
    | _ => none

theorem ER.erase {ρ : Rn} {es : List (Value × Value)} {F : Array MapEntry} (h : ER ρ es F.toList) (j : Nat) : ER ρ (es.eraseIdx j) (F.eraseIdxIfInBounds j).toList := by
  have hl := h.len
  rw [Array.toList_eraseIdxIfInBounds]
  refine ⟨by rw [List.length_eraseIdx, List.length_eraseIdx, hl], fun q x hx => ?_⟩
  rw [List.getElem?_eraseIdx] at hx ⊢
  split at hx
  · rename_i hq
    rw [if_pos hq]; exact h.get q x hx
  · rename_i hq
    rw [if_neg hq]; exact h.get (q + 1) x hx

theorem ddelete_sound {P : Program} {E : Env} (hT : E.T.ok P) {ρ : Rn} {A A' : Hp} {w : World} (h : Rel P ρ A w) {t ty : TypeId} {ts : Array TypeId} {x x' k k' : Value} (ht : ts[0]? = some t) (hx : VR ρ x x') (hk : VR ρ k k')
    (hd : ddelete E t A x k = some A') : ∃ w', (Builtin.delete_ ts ty #[x', k']).run P w = .ok (.tuple #[]) w' ∧ Rel P ρ A' w' ∧ Ext A ρ w A' ρ w' := by
  unfold ddelete at hd
  replace hd := bind_some hd
  obtain ⟨i, h1, hd⟩ := hd
  split at hd
  · rename_i kt et hi
    replace hd := bind_some hd
    obtain ⟨ki, h2, hd⟩ := hd
    cases hko : keyOk E 20 kt k with
    | false => rw [hko] at hd; cases hd
    | true =>
      rw [hko] at hd
      simp only [cond_true] at hd
      have fck := fun em => keyOk_sound hT (em := em) 20 10000 (by omega) kt k k' hk hko w
      split at hd
      · cases hd; cases hx
        refine ⟨w, ?_, h, Ext.refl _ _ _⟩
        simp [Builtin.delete_, ht, run_und hT h1, hi, fck]
      · rename_i b
        cases hx with
        | map hp =>
        rename_i p
        split at hd
        · rename_i es hg
          replace hd := bind_some hd
          obtain ⟨r, h4, hd⟩ := hd
          obtain ⟨q, hq, hob⟩ := h.obj b _ hg
          rw [hp] at hq; cases hq
          obtain ⟨F, ck, hb, f1⟩ := map_inv hob
          obtain ⟨r', f3, f4⟩ := findKey_sound hT h2 hk f1 h4
          cases r with
          | some av =>
            obtain ⟨j, u⟩ := av
            cases r' with
            | none => exact f4.elim
            | some bv =>
              obtain ⟨j', u'⟩ := bv
              obtain ⟨rfl, f5⟩ := f4
              cases hd
              obtain ⟨c1, c2⟩ := map_change h hg hp (es.eraseIdx j) (F.eraseIdxIfInBounds j) ck (f1.erase j)
              refine ⟨_, ?_, c1, c2⟩
              simp [Builtin.delete_, ht, run_und hT h1, hi, run_getObj_map hb, fck, f3 w, run_setObj_map hb]
          | none =>
            cases r' with
            | some bv => exact f4.elim
            | none =>
              cases hd
              obtain ⟨c1, c2⟩ := map_change h hg hp es F ck f1
              refine ⟨_, ?_, c1, c2⟩
              simp [Builtin.delete_, ht, run_und hT h1, hi, run_getObj_map hb, fck, f3 w, run_setObj_map hb]
        · cases hd
      · cases hd
  · cases hd

end Go.Dn
end

section
namespace Go.Dn

/-! ## copy, clear, the length of a map, pointers held against each other -/
def lenSl : Value → Option Nat
  | .slice none 0 0 => some 0
  | .slice (some ⟨_, _, some _⟩) n _ => some n
  | _ => none

def dcopy (E : Env) (t t2 : TypeId) (A : Hp) (d s : Value) : Option (Value × Hp) :=
  (E.T t).bind fun i => (E.T t2).bind fun i2 => match i.d, i2.d with
    | .slice e, .slice _ => (E.T e).bind fun j => (lenSl d).bind fun m => (lenSl s).bind fun n =>
      bif Nat.beq (min n m) 0 then some (.int .i64 0, A) else
      match d, s with
      | .slice (some ⟨b, o, some sz⟩) _ _, .slice (some ⟨b2, o2, some sz2⟩) _ _ =>
        if sz = j.size ∧ sz2 = j.size then (cellsAt A b2 o2 (min n m * j.size)).bind fun us => (setCellsAt A b o us).map fun A' => (.int .i64 (min n m : Nat), A') else none
      | _, _ => none
    | _, _ => none

theorem lenSl_sound {ρ : Rn} {x x' : Value} {n : Nat} (hx : VR ρ x x') (h : lenSl x = some n) : (∀ (P : Program) (W : World), (Builtin.lenOf x').run P W = .ok n W) ∧ ∃ a k, x' = .slice a n k := by
  unfold lenSl at h
  split at h
  · cases h; cases hx; exact ⟨fun _ _ => rfl, _, _, rfl⟩
  · cases h
    obtain ⟨p, o', k', hp, rfl, _⟩ := slice_addr hx
    exact ⟨fun _ _ => rfl, _, _, rfl⟩
  · cases h

theorem dcopy_sound {P : Program} {E : Env} (hT : E.T.ok P) {ρ : Rn} {A A' : Hp} {w : World} (h : Rel P ρ A w) {t t2 ty : TypeId} {d d' s s' v : Value} (hd : VR ρ d d') (hs : VR ρ s s')
    (hc : dcopy E t t2 A d s = some (v, A')) : ∃ w', (Builtin.copy_ #[t, t2] ty #[d', s']).run P w = .ok v w' ∧ VR ρ v v ∧ Rel P ρ A' w' ∧ Ext A ρ w A' ρ w' := by
  unfold dcopy at hc
  replace hc := bind_some hc
  obtain ⟨i, h1, hc⟩ := hc
  replace hc := bind_some hc
  obtain ⟨i2, h2, hc⟩ := hc
  split at hc
  · rename_i e e2 hi hi2
    replace hc := bind_some hc
    obtain ⟨j, h3, hc⟩ := hc
    replace hc := bind_some hc
    obtain ⟨m, h4, hc⟩ := hc
    replace hc := bind_some hc
    obtain ⟨n, h5, hc⟩ := hc
    obtain ⟨l1, a1, k1, e1⟩ := lenSl_sound hd h4
    obtain ⟨l2, a2, k2, e2'⟩ := lenSl_sound hs h5
    cases hz : Nat.beq (min n m) 0 with
    | true =>
      rw [hz] at hc
      cases hc
      have hz0 : min n m = 0 := Nat.eq_of_beq_eq_true hz
      have hz1 : Nat.min n m = 0 := hz0
      refine ⟨w, ?_, .int _ _, h, Ext.refl _ _ _⟩
      subst e1; subst e2'
      have hf : (Builtin.firstCells j.size 0 (.slice a2 n k2)).run P w = .ok #[] w := by
        cases a2 with
        | none => rfl
        | some a => simp only [Builtin.firstCells, Nat.zero_mul]; rfl
      simp only [Builtin.copy_, List.getElem?_toArray, List.getElem?_cons_zero, List.getElem?_cons_succ, Sem.run_bind, run_und hT h1, hi, Result.andThen_ok, l2 P w, hz1, run_size hT h3, hf]
      cases a1 with
      | none => rfl
      | some a => rfl
    | false =>
      rw [hz] at hc
      simp only [cond_false] at hc
      have hz0 : min n m ≠ 0 := fun e => by rw [e] at hz; simp at hz
      split at hc
      · rename_i b o sz q1 q2 b2 o2 sz2 q3 q4
        split at hc
        · rename_i hsz
          obtain ⟨rfl, rfl⟩ := hsz
          replace hc := bind_some hc
          obtain ⟨us, h6, hc⟩ := hc
          cases h7 : setCellsAt A b o us with
          | none => rw [h7] at hc; cases hc
          | some A2 =>
            rw [h7] at hc
            cases hc
            cases h4; cases h5
            obtain ⟨p, o', k', hp, rfl, g1, g2, g3⟩ := slice_addr hd
            obtain ⟨p2, o2', k2', hp2, rfl, f1, f2, f3⟩ := slice_addr hs
            have ho1 : o' = p.off + o := g3 (by omega)
            have ho2 : o2' = p2.off + o2 := f3 (by omega)
            subst ho1; subst ho2
            obtain ⟨c1, c2, vs, c3, c4, c5, c6⟩ := cellsAt_sound h hp2 h6
            obtain ⟨w', r1, r2, r3⟩ := setCellsAt_sound h hp h7 c2 c4
            refine ⟨w', ?_, .int _ _, r2, r3⟩
            have hf := run_firstCells_some (P := P) w j.size (min n m) ⟨p2.blk, p2.off + o2, none⟩ n k2' vs c3 c6
            have hmm : Nat.min n m = min n m := rfl
            simp only [Builtin.copy_, List.getElem?_toArray, List.getElem?_cons_zero, List.getElem?_cons_succ, Sem.run_bind, run_und hT h1, hi, Result.andThen_ok, l2 P w, hmm, run_size hT h3, hf]
            rw [r1]
            rfl
        · cases hc
      · cases hc
  · cases hc

def dclear (E : Env) (t : TypeId) (A : Hp) (x : Value) : Option Hp :=
  (E.T t).bind fun i => match i.d, x with
    | .map _ _, .map none => some A
    | .map _ _, .map (some b) => match A.get b with
      | some (.map _ .own) => some (A.set b (some (.map [] .own)))
      | _ => none
    | .slice _, .slice none 0 0 => some A
    | .slice e, .slice (some ⟨b, o, some sz⟩) n _ => bif Nat.beq n 0 then some A else (E.T e).bind fun j => (E.zcells e).bind fun z =>
      if sz = j.size ∧ z.size = j.size then setCellsAt A b o (Builtin.zeroCells z n).toList else none
    | _, _ => none

theorem dclear_sound {P : Program} {E : Env} (hT : E.T.ok P) {ρ : Rn} {A A' : Hp} {w : World} (h : Rel P ρ A w) {t ty : TypeId} {x x' : Value} (hx : VR ρ x x')
    (hd : dclear E t A x = some A') : ∃ w', (Builtin.clear_ #[t] ty #[x']).run P w = .ok (.tuple #[]) w' ∧ Rel P ρ A' w' ∧ Ext A ρ w A' ρ w' := by
  unfold dclear at hd
  replace hd := bind_some hd
  obtain ⟨i, h1, hd⟩ := hd
  split at hd
  · rename_i hi
    cases hd; cases hx
    exact ⟨w, by simp [Builtin.clear_, run_und hT h1, hi], h, Ext.refl _ _ _⟩
  · rename_i b hi
    cases hx with
    | map hp =>
    rename_i p
    split at hd
    · rename_i es hg
      cases hd
      obtain ⟨q, hq, hob⟩ := h.obj b _ hg
      rw [hp] at hq; cases hq
      obtain ⟨F, ck, hb, f1⟩ := map_inv hob
      obtain ⟨c1, c2⟩ := map_change h hg hp [] #[] ck ⟨rfl, by simp⟩
      exact ⟨_, by simp [Builtin.clear_, run_und hT h1, hi, run_getObj_map hb, run_setObj_map hb], c1, c2⟩
    · cases hd
  · rename_i hi
    cases hd; cases hx
    exact ⟨w, by simp [Builtin.clear_, run_und hT h1, hi], h, Ext.refl _ _ _⟩
  · rename_i e b o sz n c hi
    obtain ⟨p, o', k', hp, rfl, q1, q2, q3⟩ := slice_addr hx
    cases hn : Nat.beq n 0 with
    | true =>
      rw [hn] at hd
      cases hd
      have n0 : n = 0 := Nat.eq_of_beq_eq_true hn
      subst n0
      exact ⟨w, by simp [Builtin.clear_, run_und hT h1, hi], h, Ext.refl _ _ _⟩
    | false =>
      rw [hn] at hd
      simp only [cond_false] at hd
      have n0 : n ≠ 0 := fun e => by rw [e] at hn; simp at hn
      replace hd := bind_some hd
      obtain ⟨j, h2, hd⟩ := hd
      replace hd := bind_some hd
      obtain ⟨z, h3, hd⟩ := hd
      split at hd
      · rename_i hsz
        obtain ⟨info, v, z1, z2, z3, z4⟩ := zcells_sound hT h3
        have hz4 : ∀ u ∈ (Builtin.zeroCells z n).toList, plain0 u = true := by
          intro u hu
          simp only [Builtin.zeroCells, Array.toList_map, List.mem_map] at hu
          obtain ⟨q, hq, rfl⟩ := hu
          rw [List.all_eq_true] at z4
          have hzs : 0 < z.size := by
            rcases Nat.eq_zero_or_pos z.size with h0 | h0
            · rw [h0, Nat.mul_zero] at hq; simp at hq
            · exact h0
          have hlt : q % z.size < z.size := Nat.mod_lt _ hzs
          rw [getElem!_pos z _ hlt]
          exact z4 _ (Array.getElem_mem_toList hlt)
        obtain ⟨w', r1, r2, r3⟩ := setCellsAt_sound h hp hd (vs := (Builtin.zeroCells z n).toList) (fun u hu => plain0_one (hz4 u hu))
          (by rw [Array.toArray_toList]; exact AR.refl_plain (by rw [List.all_eq_true]; exact hz4))
        refine ⟨w', ?_, r2, r3⟩
        rw [q3 n0]
        match n, n0 with
        | n + 1, _ =>
          simp [Builtin.clear_, run_und hT h1, hi, zeroValue, typeInfo, z1, z2, z3, r1]
      · cases hd
  · cases hd

/-- is the object there, is it own or read-only but apart, does it lie there that far, and is it no row of bytes? -/
def standsAt (E : Env) (A : Hp) (i o : Nat) : Option Md :=
  match A.get i with
  | some (.arr T cs m) => (E.T T).bind fun k => match k.d, m with
    | .int .u8, _ => none
    | _, .sh => none
    | _, m => if o < cs.length then some m else none
  | _ => none

def dptrEq (E : Env) (op : BinOp) (t : TypeId) (A : Hp) (x y : Value) : Option (Value × List Nat) :=
  (E.T t).bind fun i => match i.d, x, y with
    | .pointer e, .pointer (some ⟨a, o, none⟩), .pointer (some ⟨b, q, none⟩) => (E.T e).bind fun j => if j.size = 0 then none else
      (bif Nat.beq a b then some (Nat.beq o q) else (standsAt E A a o).bind fun m => (standsAt E A b q).bind fun n => if m = n ∨ m = .own ∨ n = .own then some false else none).bind fun r =>
        match op with
        | .eql => some (.bool r, [a, b])
        | .neq => some (.bool !r, [a, b])
        | _ => none
    | _, _, _ => none

theorem standsAt_sound {P : Program} {E : Env} (hT : E.T.ok P) {ρ : Rn} {A : Hp} {w : World} (h : Rel P ρ A w) {i o : Nat} {m : Md} {p : Pl} (hp : ρ i = some p) (hs : standsAt E A i o = some m) :
    ∃ ob, A.get i = some ob ∧ ob.md = m ∧ (m = .own ∨ m = .ro) ∧ ∃ C T, w.heap[p.blk]? = some (.cells C T (0, 0)) ∧ p.off + o < C.size := by
  unfold standsAt at hs
  split at hs
  · rename_i T cs m' hg
    replace hs := bind_some hs
    obtain ⟨k, h1, hs⟩ := hs
    obtain ⟨q, hq, hob⟩ := h.obj i _ hg
    rw [hp] at hq; cases hq
    have hu := hT.und _ _ h1
    split at hs
    · cases hs
    · cases hs
    · rename_i hm hk
      split at hs
      · rename_i ho
        cases hs
        cases hob with
        | arr _ _ _ C T' fz hb hTT hl hc =>
          obtain ⟨e1, e2, e3, e4⟩ := hTT (fun e => by subst e; exact hm rfl)
          subst e1
          have hfz : fz = (0, 0) := e4.resolve_right (fun e5 => by have e5 := e5.1; rw [hu] at e5; exact hk (Option.some.inj e5))
          subst hfz
          refine ⟨_, hg, rfl, ?_, C, T', hb, by omega⟩
          cases m with
          | own => exact .inl rfl
          | ro => exact .inr rfl
          | sh => exact absurd rfl hm
      · cases hs
  · cases hs

theorem dptrEq_sound {P : Program} {E : Env} (hT : E.T.ok P) {ρ : Rn} {A : Hp} {w : World} (h : Rel P ρ A w) {op : BinOp} {t : TypeId} {x y : Operand} {u v u' v' r : Value} {l : List Nat} (hu : VR ρ u u') (hv : VR ρ v v')
    (hd : dptrEq E op t A u v = some (r, l)) : VR ρ r r ∧ (sbin op t x y u' v').run P w = .ok r w := by
  unfold dptrEq at hd
  replace hd := bind_some hd
  obtain ⟨i, h1, hd⟩ := hd
  split at hd
  · rename_i e a o b q hi
    replace hd := bind_some hd
    obtain ⟨j, h2, hd⟩ := hd
    split at hd
    · cases hd
    · rename_i hj
      replace hd := bind_some hd
      obtain ⟨s, h3, hd⟩ := hd
      cases hu with
      | ptr _ hp1 =>
      rename_i p1
      cases hv with
      | ptr _ hp2 =>
      rename_i p2
      have main : (Go.Op.equal t (.pointer (some ⟨p1.blk, p1.off + o, none⟩)) (.pointer (some ⟨p2.blk, p2.off + q, none⟩))).run P w = .ok s w := by
        obtain ⟨n, e0⟩ := equal_unfold t (.pointer (some ⟨p1.blk, p1.off + o, none⟩)) (.pointer (some ⟨p2.blk, p2.off + q, none⟩))
        rw [e0]
        simp only [Go.Op.equalIn, Sem.run_bind, run_und hT h1, hi, Result.andThen_ok, run_size hT h2, ne_eq, hj, not_false_eq_true, if_true]
        cases hab : Nat.beq a b with
        | true =>
          rw [hab] at h3
          simp only [cond_true, Option.some.injEq] at h3
          have : a = b := Nat.eq_of_beq_eq_true hab
          subst this
          rw [hp1] at hp2; cases hp2
          have hb : ((⟨p1.blk, p1.off + o, none⟩ : Addr) == ⟨p1.blk, p1.off + q, none⟩) = s := by
            rw [← h3]
            by_cases hoq : o = q
            · subst hoq; simp
            · rw [Tr.beq_ff hoq]
              simp <;> omega
          simp [sameAddr, hb]
        | false =>
          rw [hab] at h3
          simp only [cond_false] at h3
          replace h3 := bind_some h3
          obtain ⟨m, k1, h3⟩ := h3
          replace h3 := bind_some h3
          obtain ⟨m', k2, h3⟩ := h3
          split at h3
          · rename_i hmm
            cases h3
            obtain ⟨ob1, g1, g2, g3, C1, T1, g4, g5⟩ := standsAt_sound hT h hp1 k1
            obtain ⟨ob2, f1, f2, f3, C2, T2, f4, f5⟩ := standsAt_sound hT h hp2 k2
            have hne : a ≠ b := fun e => by rw [e] at hab; simp at hab
            have hblk : p1.blk ≠ p2.blk := h.apart a b ob1 ob2 p1 p2 g1 f1 hne hp1 hp2 (by
              rw [g2, f2]
              rcases hmm with hmm | hmm | hmm
              · subst hmm
                rcases g3 with g3 | g3
                · exact .inl (.inl g3)
                · exact .inr ⟨g3, g3⟩
              · exact .inl (.inl hmm)
              · exact .inl (.inr hmm))
            have hbf : (p1.blk == p2.blk) = false := by simpa using hblk
            simp [sameAddr, hbf, World.frozen?, g4, f4, noView, viewAt, World.shape?, mayBeOne, stringish]
          · cases h3
      have hg : (eqGuard op t x y (.pointer (some ⟨p1.blk, p1.off + o, none⟩)) (.pointer (some ⟨p2.blk, p2.off + q, none⟩))).run P w = .ok () w := eqGuard_un t x y rfl w
      unfold sbin
      rw [Sem.run_bind, hg, Result.andThen_ok]
      split at hd
      · cases hd
        exact ⟨.bool _, by simp [binOp, main]⟩
      · cases hd
        exact ⟨.bool _, by simp [binOp, main]⟩
      · cases hd
  · cases hd

/-- bytes turned to the same bytes: the model marks their row as perhaps a string's -/
def dmark (E : Env) (s d : TypeId) (A : Hp) (x : Value) : Option (Value × Hp) :=
  bif Nat.beq s d then (E.T s).bind fun i => match i.d, x with
    | .slice e, .slice (some ⟨b, o, some sz⟩) n c => (E.T e).bind fun j => match j.d, A.get b with
      | .int .u8, some (.arr T cs .own) => (E.T T).bind fun k => match k.d with
        | .int .u8 => some (.slice (some ⟨b, o, some sz⟩) n c, A.set b (some (.arr T cs .own)))
        | _ => none
      | _, _ => none
    | _, _ => none
  else none

theorem dmark_sound {P : Program} {E : Env} (hT : E.T.ok P) {ρ : Rn} {A A' : Hp} {w : World} (h : Rel P ρ A w) {s d : TypeId} {x x' v : Value} (hx : VR ρ x x') (hd : dmark E s d A x = some (v, A')) :
    ∃ w', (convert s d x').run P w = .ok x' w' ∧ VR ρ v x' ∧ Rel P ρ A' w' ∧ Ext A ρ w A' ρ w' := by
  unfold dmark at hd
  cases hb : Nat.beq s d with
  | false => rw [hb] at hd; cases hd
  | true =>
    rw [hb] at hd
    have hsd : s = d := by simpa using hb
    subst hsd
    simp only [cond_true] at hd
    replace hd := bind_some hd
    obtain ⟨i, h1, hd⟩ := hd
    split at hd
    · rename_i e b o sz n c hi
      replace hd := bind_some hd
      obtain ⟨j, h2, hd⟩ := hd
      split at hd
      · rename_i T cs hj hg
        replace hd := bind_some hd
        obtain ⟨k, h3, hd⟩ := hd
        split at hd
        · rename_i hk
          cases hd
          obtain ⟨p, o', k', hp, rfl, _⟩ := slice_addr hx
          obtain ⟨q, hq, hob⟩ := h.obj b _ hg
          rw [hp] at hq; cases hq
          cases hob with
          | arr _ _ _ C T' fz hbk hTT hl hc =>
            obtain ⟨rfl, e2, e3, e4⟩ := hTT (by simp)
            have hu : P.underlying T' = some (.int .u8) := by rw [hT.und _ _ h3, hk]
            have hcz : fz = (0, 0) ∨ (C.size ≤ fz.1 ∧ fz.1 < fz.2) := by
              rcases e4 with e4 | ⟨_, e4⟩
              · exact .inl e4
              · refine .inr ⟨?_, e4⟩
                rcases Nat.lt_or_ge fz.1 C.size with h5 | h5
                · have := e2 fz.1 h5
                  simp [e4] at this
                · exact h5
            let w' : World := w.freeze ⟨p.blk, C.size, none⟩ 1
            have hlt : p.blk < w.heap.size := (Array.getElem?_eq_some_iff.1 hbk).1
            have hw' : w'.heap[p.blk]? = some (.cells C T' (if fz.1 == fz.2 then (C.size, C.size + 1) else (min fz.1 C.size, max fz.2 (C.size + 1)))) := by
              show (w.freeze ⟨p.blk, C.size, none⟩ 1).heap[p.blk]? = _
              unfold World.freeze
              rw [if_neg (by omega)]
              simp only [Array.getElem?_modify, if_true, hbk, Option.map_some]
            have hrun : (convert s s (.slice (some ⟨p.blk, o', none⟩) n k')).run P w = .ok (.slice (some ⟨p.blk, o', none⟩) n k') w' := by
              have hsh : w.shape? p.blk = some (T', C.size) := by unfold World.shape?; rw [hbk]
              simp only [convert, Sem.run_bind, run_und hT h1, run_und hT h2, hi, hj, Result.andThen_ok, beq_self_eq_true]
              have hm : (markStringish ⟨p.blk, o', none⟩).run P w = .ok () w' := by
                unfold markStringish
                simp only [Sem.run_bind]
                have : (shape p.blk).run P w = .ok (some (T', C.size)) w := by show Result.ok (w.shape? p.blk) w = _; rw [hsh]
                rw [this]
                rfl
              rw [hm]
              rfl
            have hch := h.change (.arr T' cs .own) hg hp rfl rfl w' (by show (w.freeze _ 1).heap.size = _; unfold World.freeze; rw [if_neg (by omega)]; simp) (fun b' hb' => by
              show (w.freeze ⟨p.blk, C.size, none⟩ 1).heap[b']? = _
              unfold World.freeze
              rw [if_neg (by omega)]
              simp only [Array.getElem?_modify]
              rw [if_neg (fun e => hb' e.symm)]) (.arr T' cs .own C T' _ hw' (fun _ => ⟨rfl, fun j' hj' => ?_, e3, .inr ⟨hu, ?_⟩⟩) hl hc) (by show (w.freeze _ 1).os = _; unfold World.freeze; rw [if_neg (by omega)]) (by show (w.freeze _ 1).output = _; unfold World.freeze; rw [if_neg (by omega)]) (by show (w.freeze _ 1).tape = _; unfold World.freeze; rw [if_neg (by omega)])
            · exact ⟨w', hrun, hx, hch.1, hch.2⟩
            · rcases hcz with rfl | ⟨c1, c2⟩
              · simp; omega
              · have hne : (fz.1 == fz.2) = false := by simp; omega
                rw [hne]
                simp only [Bool.false_eq_true, if_false, Bool.and_eq_false_iff, decide_eq_false_iff_not]
                left; omega
            · rcases hcz with rfl | ⟨c1, c2⟩
              · simp
              · have hne : (fz.1 == fz.2) = false := by simp; omega
                rw [hne]
                simp only [Bool.false_eq_true, if_false]
                omega
        · cases hd
      · cases hd
    · cases hd

end Go.Dn
end
