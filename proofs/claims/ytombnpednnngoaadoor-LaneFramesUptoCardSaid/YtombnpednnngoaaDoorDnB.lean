/-
  Part of the abstract machine for this program.
-/
import Derived.Test.YtombnpednnngoaaDoorDnA

section
namespace Go.Dn

/-! ## operations that look at no memory -/
def intIx : Value → Option Int
  | .int _ n => some n
  | _ => none

def bound (v : Value) (y : Nat) : Option Nat :=
  (intIx v).bind fun i => if 0 ≤ i ∧ i ≤ (y : Int) then some i.toNat else none

/-- low and high of a slice expression; y: the greatest high -/
def bounds2 (len y : Nat) (lo hi : Option Value) : Option (Nat × Nat) :=
  (match hi with | none => some len | some v => bound v y).bind fun h => (match lo with | none => some 0 | some v => bound v h).bind fun l => some (l, h)

def isAggD : TypeDesc → Bool
  | .struct _ | .array _ _ => true
  | _ => false

def dpart (E : Env) (t : TypeId) (cs : Array Value) (off : Nat) : Option Value :=
  (E.T t).bind fun i => bif isAggD i.d then (if off + i.size ≤ cs.size then some (.agg (cs.extract off (off + i.size))) else none) else cs[off]?

def dfield (E : Env) (t : TypeId) (x : Value) (f : Nat) : Option Value :=
  (E.T t).bind fun i => match i.d, x with
    | .struct fs, .agg cs => (fs[f]?).bind fun g => dpart E g.type cs g.offset
    | _, _ => none

def dfieldAddr (E : Env) (t : TypeId) (x : Value) (f : Nat) : Option Value :=
  (E.T t).bind fun i => match i.d, x with
    | .struct fs, .pointer (some ⟨b, o, none⟩) => (fs[f]?).bind fun g => (E.T g.type).bind fun j => bif Nat.beq j.size 0 then none else some (.pointer (some ⟨b, o + g.offset, none⟩))
    | _, _ => none

def dindexAddr (E : Env) (t : TypeId) (x ix : Value) : Option Value :=
  (E.T t).bind fun i => (intIx ix).bind fun n => match i.d, x with
    | .slice e, .slice (some ⟨b, o, some s⟩) len _ => (E.T e).bind fun j => if 0 ≤ n ∧ n < (len : Int) ∧ s = j.size then some (.pointer (some ⟨b, o + n.toNat * s, none⟩)) else none
    | .array len e, .pointer (some ⟨b, o, none⟩) => (E.T e).bind fun j => if 0 ≤ n ∧ n < (len : Int) then some (.pointer (some ⟨b, o + n.toNat * j.size, none⟩)) else none
    | _, _ => none

def dindex (E : Env) (t : TypeId) (x ix : Value) : Option Value :=
  (E.T t).bind fun i => (intIx ix).bind fun n => match i.d, x with
    | .array len e, .agg cs => (E.T e).bind fun j => if 0 ≤ n ∧ n < (len : Int) then dpart E e cs (n.toNat * j.size) else none
    | .string, .string s => if 0 ≤ n then (s.data[n.toNat]?).map fun b => .int .u8 b.toNat else none
    | _, _ => none

def dslice (E : Env) (t : TypeId) (x : Value) (lo hi mx : Option Value) : Option Value :=
  (E.T t).bind fun i => match i.d, x with
    | .string, .string s => match mx with
      | none => (bounds2 s.size s.size lo hi).bind fun (l, h) => some (.string (s.extract l h))
      | some _ => none
    | .slice e, .slice (some ⟨b, o, some s⟩) len c => (E.T e).bind fun j =>
      if s = j.size then
        match mx with
        | none => (bounds2 len (c / 2) lo hi).bind fun (l, h) => some (.slice (some ⟨b, o + l * s, some s⟩) (h - l) (2 * (c / 2 - l) + c % 2))
        | some v => (bound v (c / 2)).bind fun m => match hi with
          | none => none
          | some _ => (bounds2 len m lo hi).bind fun (l, h) => some (.slice (some ⟨b, o + l * s, some s⟩) (h - l) (2 * (m - l) + 1))
      else none
    | .slice e, .slice none 0 0 => (E.T e).bind fun _ => match mx with
      | none => (bounds2 0 0 lo hi).bind fun _ => some (.slice none 0 0)
      | some v => (bound v 0).bind fun _ => match hi with
        | none => none
        | some _ => (bounds2 0 0 lo hi).bind fun _ => some (.slice none 0 0)
    | .slice e, .slice none 0 1 => (E.T e).bind fun _ => match mx with
      | none => (bounds2 0 0 lo hi).bind fun _ => some (.slice none 0 1)
      | some _ => none
    | .array n e, .pointer (some ⟨b, o, none⟩) => (E.T e).bind fun j => match mx with
      | none => if n ≤ maxLen then (bounds2 n n lo hi).bind fun (l, h) => some (.slice (some ⟨b, o + l * j.size, some j.size⟩) (h - l) (2 * (n - l) + 1)) else none
      | some _ => none
    | _, _ => none

def dconv (E : Env) (s d : TypeId) (x : Value) : Option Value :=
  (E.T s).bind fun i => (E.T d).bind fun j => match i.d, j.d, x with
    | _, .int k, .int _ n => some (.int k (k.wrap n))
    | _, .string, .string b => some (.string b)
    | _, _, _ => none

def dun (op : UnOp) (x : Value) : Option Value :=
  match op, x with
  | .neg, .int k n => some (.int k (k.wrap (0 - n)))
  | .xor, .int k n => some (.int k (k.wrap ((BitVec.ofInt k.bits (if k.signed then -1 else k.max) ^^^ BitVec.ofInt k.bits n).toNat)))
  | .not, .bool b => some (.bool !b)
  | _, _ => none

def dnil (x : Value) : Option Value :=
  match x with
  | .pointer (some a) => some (.pointer (some a))
  | .iface t v => some (.iface t v)
  | .func (.func f) a b => some (.func (.func f) a b)
  | _ => none

def evOo (E : Env) (σ : Sl) : Option Operand → Option (Option Value)
  | none => some none
  | some l => (evO E σ l).map some

def dparts (E : Env) (σ : Sl) : List (Nat × Operand) → Option (List (Nat × Value))
  | [] => some []
  | (i, x) :: r => (evO E σ x).bind fun v => (dparts E σ r).bind fun l => some ((i, v) :: l)

/-- the built-in functions that look at no memory -/
def dbuiltin (E : Env) (b : Builtin) (ts : List TypeId) (vs : List Value) : Option Value :=
  match b, ts, vs with
  | .len, t :: _, [x] => (E.T t).bind fun i => match i.d, x with
    | .slice _, .slice _ n _ => some (.int .i64 n)
    | .string, .string s => some (.int .i64 s.size)
    | .array n _, _ => some (.int .i64 n)
    | .map _ _, .map none => some (.int .i64 0)
    | _, _ => none
  | .min, _, [.int k x, .int _ y] => some (.int k (if y < x then y else x))
  | .max, _, [.int k x, .int _ y] => some (.int k (if y > x then y else x))
  | _, _, _ => none

/-- fields that are held against each other, till two differ -/
def allEq (E : Env) (eq : TypeId → Value → Value → Option Bool) (xs ys : Array Value) : List Field → Option Bool
  | [] => some true
  | f :: fs => (dpart E f.type xs f.offset).bind fun a => (dpart E f.type ys f.offset).bind fun b => (eq f.type a b).bind fun r => bif r then allEq E eq xs ys fs else some false

/-- '==' of plain values and of flat structs -/
def deqF (E : Env) : Nat → TypeId → Value → Value → Option Bool
  | 0, _, _, _ => none
  | n + 1, t, x, y => (E.T t).bind fun i => match i.d, x, y with
    | .bool, .bool a, .bool b => some (a == b)
    | .int _, .int k a, .int l b => if k = l then some (a == b) else none
    | .string, .string a, .string b => some (a == b)
    | .struct fs, .agg xs, .agg ys => bif i.flat then allEq E (deqF E n) xs ys fs.toList else none
    | _, _, _ => none

def dagg (E : Env) (op : BinOp) (t : TypeId) (x y : Value) : Option Value :=
  (E.T t).bind fun i => bif i.flat then
    match op with
    | .eql => (deqF E 20 t x y).map Value.bool
    | .neq => (deqF E 20 t x y).map fun b => Value.bool !b
    | _ => none
  else none

def dval (E : Env) (σ : Sl) (o : Oper) : Option Value :=
  match o.op with
  | .move x => evO E σ x
  | .assign x => evO E σ x
  | .pick c x y => (evO E σ c).bind fun v => match v with
    | .bool t => bif t then evO E σ x else evO E σ y
    | _ => none
  | .nilCheck x => (evO E σ x).bind dnil
  | .binOp op t x y _ => (evO E σ x).bind fun u => (evO E σ y).bind fun v => match u, v with
    | .agg _, .agg _ => dagg E op t u v
    | _, _ => dbin E op t (isC x || isC y) u v
  | .unOp op _ x => (evO E σ x).bind (dun op)
  | .convert s d x => (evO E σ x).bind (dconv E s d)
  | .makeInterface t x => (evO E σ x).bind fun v => (E.T t).bind fun i => match i.d with
    | .interface _ => none
    | _ => some (.iface t v)
  | .makeFunc (.func f) as cs => (evs E σ as.toList).bind fun us => (evs E σ cs.toList).bind fun vs => some (.func (.func f) us.toArray vs.toArray)
  | .fieldAddr t x f => (evO E σ x).bind fun v => dfieldAddr E t v f
  | .field t x f => (evO E σ x).bind fun v => dfield E t v f
  | .indexAddr t x ix => (evO E σ x).bind fun v => (evO E σ ix).bind fun n => dindexAddr E t v n
  | .index t x ix => (evO E σ x).bind fun v => (evO E σ ix).bind fun n => dindex E t v n
  | .slice t x lo hi mx => (evO E σ x).bind fun v =>
    (evOo E σ lo).bind fun l => (evOo E σ hi).bind fun h => (evOo E σ mx).bind fun m => dslice E t v l h m
  | .extract x i => (evO E σ x).bind fun v => match v with
    | .tuple vs => vs[i]?
    | _ => none
  | .build t parts => (dparts E σ parts.toList).bind fun l => (E.built t l).map Value.agg
  | .call { callee := .builtin b, args, argTypes } => (evs E σ args.toList).bind fun vs => dbuiltin E b argTypes.toList vs
  | _ => none

end Go.Dn
end

section
namespace Go.Dn

theorem intIx_vr {ρ : Rn} {v v' : Value} {n : Int} (h : VR ρ v v') (hn : intIx v = some n) : ∃ k, v = .int k n ∧ v' = .int k n := by
  cases h <;> simp [intIx] at hn
  subst hn; exact ⟨_, rfl, rfl⟩

theorem bound_sound {P : Program} {ρ : Rn} {v v' : Value} {y y' n : Nat} (h : VR ρ v v') (hb : bound v y = some n) (hy : y ≤ y') (code : BoundsCode) (w : World) :
    n ≤ y ∧ (Instr.sliceBound v' y' code).run P w = .ok n w := by
  unfold bound at hb
  cases hi : intIx v with
  | none => rw [hi] at hb; cases hb
  | some i =>
    rw [hi] at hb
    simp only [Option.bind_some] at hb
    obtain ⟨k, rfl, rfl⟩ := intIx_vr h hi
    split at hb
    · rename_i hc
      cases hb
      refine ⟨by omega, ?_⟩
      have hc' : 0 ≤ i ∧ i ≤ (y' : Int) := ⟨hc.1, by omega⟩
      simp [Instr.sliceBound, asIntOf, hc']
    · cases hb

/-- an operand that may be missing -/
def VRo (ρ : Rn) : Option Value → Option Value → Prop
  | none, none => True
  | some u, some v => VR ρ u v
  | _, _ => False

theorem bounds2_sound {P : Program} {ρ : Rn} {len y y' l h : Nat} {lo hi lo' hi' : Option Value} (h1 : VRo ρ lo lo') (h2 : VRo ρ hi hi') (hl : len ≤ y) (hy : y ≤ y')
    (hb : bounds2 len y lo hi = some (l, h)) (s : Bool) (w : World) :
    l ≤ h ∧ h ≤ y ∧ (Instr.sliceBounds s len y' lo' hi' none).run P w = .ok (l, h, y') w := by
  unfold bounds2 at hb
  cases hi with
  | none =>
    cases hi' with
    | some x => exact h2.elim
    | none =>
      simp only [Option.bind_some] at hb
      cases lo with
      | none =>
        cases lo' with
        | some x => exact h1.elim
        | none =>
          simp only [Option.bind_some] at hb
          cases hb
          exact ⟨by omega, hl, by simp [Instr.sliceBounds]⟩
      | some u =>
        cases lo' with
        | none => exact h1.elim
        | some u' =>
          simp only at hb
          cases hbo : bound u len with
          | none => rw [hbo] at hb; cases hb
          | some q =>
            rw [hbo] at hb; cases hb
            have k := fun c => bound_sound (P := P) (y' := len) h1 hbo (Nat.le_refl _) c w
            exact ⟨(k .index).1, hl, by simp [Instr.sliceBounds, (k _).2]⟩
  | some g =>
    cases hi' with
    | none => exact h2.elim
    | some g' =>
      simp only at hb
      cases hbg : bound g y with
      | none => rw [hbg] at hb; cases hb
      | some m =>
        rw [hbg] at hb
        simp only [Option.bind_some] at hb
        have kg := fun c => bound_sound (P := P) (y' := y') h2 hbg hy c w
        cases lo with
        | none =>
          cases lo' with
          | some x => exact h1.elim
          | none =>
            simp only [Option.bind_some] at hb
            cases hb
            exact ⟨by omega, (kg .index).1, by simp [Instr.sliceBounds, (kg _).2]⟩
        | some u =>
          cases lo' with
          | none => exact h1.elim
          | some u' =>
            simp only at hb
            cases hbo : bound u m with
            | none => rw [hbo] at hb; cases hb
            | some q =>
              rw [hbo] at hb; cases hb
              have k := fun c => bound_sound (P := P) h1 hbo (Nat.le_refl _) c w
              exact ⟨(k .index).1, (kg .index).1, by simp [Instr.sliceBounds, (k _).2, (kg _).2]⟩

theorem bounds3_sound {P : Program} {ρ : Rn} {len y y' l h m : Nat} {lo hi lo' hi' : Option Value} {mx mx' : Value} (h1 : VRo ρ lo lo') (h2 : VRo ρ hi hi') (h3 : VR ρ mx mx')
    (hhi : hi ≠ none) (hy : y ≤ y') (hm : bound mx y = some m) (hb : bounds2 len m lo hi = some (l, h)) (s : Bool) (w : World) :
    l ≤ h ∧ h ≤ m ∧ m ≤ y ∧ (Instr.sliceBounds s len y' lo' hi' (some mx')).run P w = .ok (l, h, m) w := by
  have km := fun c => bound_sound (P := P) (y' := y') h3 hm hy c w
  unfold bounds2 at hb
  cases hi with
  | none => exact absurd rfl hhi
  | some g =>
    cases hi' with
    | none => exact h2.elim
    | some g' =>
      simp only at hb
      cases hbg : bound g m with
      | none => rw [hbg] at hb; cases hb
      | some q =>
        rw [hbg] at hb
        simp only [Option.bind_some] at hb
        have kg := fun c => bound_sound (P := P) (y' := m) h2 hbg (Nat.le_refl _) c w
        cases lo with
        | none =>
          cases lo' with
          | some x => exact h1.elim
          | none =>
            simp only [Option.bind_some] at hb
            cases hb
            exact ⟨by omega, (kg .index).1, (km .index).1, by simp [Instr.sliceBounds, (kg _).2, (km _).2]⟩
        | some u =>
          cases lo' with
          | none => exact h1.elim
          | some u' =>
            simp only at hb
            cases hbo : bound u q with
            | none => rw [hbo] at hb; cases hb
            | some z =>
              rw [hbo] at hb; cases hb
              have k := fun c => bound_sound (P := P) h1 hbo (Nat.le_refl _) c w
              exact ⟨(k .index).1, (kg .index).1, (km .index).1, by simp [Instr.sliceBounds, (k _).2, (kg _).2, (km _).2]⟩

theorem run_und {P : Program} {E : Env} (hT : E.T.ok P) {t : TypeId} {i : TI} (h : E.T t = some i) (w : World) : (underlying t).run P w = .ok i.d w := run_underlying (hT.und _ _ h) w
theorem run_size {P : Program} {E : Env} (hT : E.T.ok P) {t : TypeId} {i : TI} (h : E.T t = some i) (w : World) : (sizeOf t).run P w = .ok i.size w := by
  obtain ⟨x, h1, h2, _, _⟩ := hT.info _ _ h
  simp [sizeOf, typeInfo, h1, h2]
theorem run_isAgg {P : Program} {E : Env} (hT : E.T.ok P) {t : TypeId} {i : TI} (h : E.T t = some i) (w : World) : (isAgg t).run P w = .ok (isAggD i.d) w := by
  simp only [isAgg, Sem.run_bind, run_und hT h, Result.andThen_ok]
  cases i.d <;> rfl

theorem dpart_sound {P : Program} {E : Env} (hT : E.T.ok P) {ρ : Rn} {t : TypeId} {cs cs' : Array Value} {off : Nat} {v : Value} (hc : AR ρ cs cs') (h : dpart E t cs off = some v) :
    ∃ v', VR ρ v v' ∧ ∀ w, (part t cs' off).run P w = .ok v' w := by
  unfold dpart at h
  cases hi : E.T t with
  | none => rw [hi] at h; cases h
  | some i =>
    rw [hi] at h
    simp only [Option.bind_some] at h
    cases ha : isAggD i.d with
    | true =>
      rw [ha] at h
      simp only [cond_true] at h
      split at h
      · cases h
        refine ⟨.agg (cs'.extract off (off + i.size)), .agg _ _ (by simp [hc.size]) (fun j u v hu hv => ?_), fun w => ?_⟩
        · rw [Array.getElem?_extract] at hu hv
          split at hu
          · split at hv
            · exact hc.get _ u v hu hv
            · cases hv
          · cases hu
        · simp only [part, Sem.run_bind, run_isAgg hT hi, ha, Result.andThen_ok, if_true, run_size hT hi, Sem.run_pure]
      · cases h
    | false =>
      rw [ha] at h
      simp only [cond_false] at h
      obtain ⟨v', hv, hr⟩ := hc.some h
      refine ⟨v', hr, fun w => ?_⟩
      simp [part, run_isAgg hT hi, ha, hv]

theorem dfield_sound {P : Program} {E : Env} (hT : E.T.ok P) {ρ : Rn} {t : TypeId} {x x' : Value} {f : Nat} {v : Value} (hx : VR ρ x x') (h : dfield E t x f = some v) :
    ∃ v', VR ρ v v' ∧ ∀ w, (Instr.field t x' f).run P w = .ok v' w := by
  unfold dfield at h
  cases hi : E.T t with
  | none => rw [hi] at h; cases h
  | some i =>
    rw [hi] at h
    simp only [Option.bind_some] at h
    split at h
    · rename_i fs cs hd
      cases hx with
      | agg _ bs h1 h2 =>
      cases hg : fs[f]? with
      | none => rw [hg] at h; cases h
      | some g =>
        rw [hg] at h
        simp only [Option.bind_some] at h
        obtain ⟨v', h3, h4⟩ := dpart_sound hT ⟨h1, h2⟩ h
        refine ⟨v', h3, fun w => ?_⟩
        simp only [Instr.field, Sem.run_bind, run_und hT hi, hd, Result.andThen_ok, hg, asAgg, Sem.run_pure, h4]
    · cases h

theorem addr_add (b o n : Nat) : (⟨b, o, none⟩ : Addr).add n = ⟨b, o + n, none⟩ := by
  unfold Addr.add
  split
  · rename_i h; subst h; rfl
  · rfl

theorem dfieldAddr_sound {P : Program} {E : Env} (hT : E.T.ok P) {ρ : Rn} {t : TypeId} {x x' : Value} {f : Nat} {v : Value} (hx : VR ρ x x') (h : dfieldAddr E t x f = some v) :
    ∃ v', VR ρ v v' ∧ ∀ w, (Instr.fieldAt t x' f).run P w = .ok v' w := by
  unfold dfieldAddr at h
  cases hi : E.T t with
  | none => rw [hi] at h; cases h
  | some i =>
    rw [hi] at h
    simp only [Option.bind_some] at h
    split at h
    · rename_i fs b o hd
      cases hx with
      | ptr _ hp =>
      rename_i p
      cases hg : fs[f]? with
      | none => rw [hg] at h; cases h
      | some g =>
        rw [hg] at h
        simp only [Option.bind_some] at h
        cases hj : E.T g.type with
        | none => rw [hj] at h; cases h
        | some j =>
          rw [hj] at h
          simp only [Option.bind_some] at h
          cases hz : Nat.beq j.size 0 with
          | true => rw [hz] at h; cases h
          | false =>
            rw [hz] at h; cases h
            have hne : j.size ≠ 0 := fun e => by rw [e] at hz; simp at hz
            refine ⟨_, .ptr (o + g.offset) hp, fun w => ?_⟩
            simp only [Instr.fieldAt, Sem.run_bind, run_und hT hi, hd, Result.andThen_ok, hg, Instr.sureAddr, Sem.run_pure, fieldPlace, run_size hT hj, if_neg hne, addr_add, Nat.add_assoc]
    · cases h

theorem dindexAddr_sound {P : Program} {E : Env} (hT : E.T.ok P) {ρ : Rn} {t : TypeId} {x x' n n' : Value} {v : Value} (hx : VR ρ x x') (hn : VR ρ n n') (h : dindexAddr E t x n = some v) :
    ∃ v', VR ρ v v' ∧ ∀ w, (Instr.indexAt t x' n').run P w = .ok v' w := by
  unfold dindexAddr at h
  cases hi : E.T t with
  | none => rw [hi] at h; cases h
  | some i =>
    rw [hi] at h
    simp only [Option.bind_some] at h
    cases hk : intIx n with
    | none => rw [hk] at h; cases h
    | some m =>
      rw [hk] at h
      simp only [Option.bind_some] at h
      obtain ⟨k, rfl, rfl⟩ := intIx_vr hn hk
      split at h
      · rename_i e b o s len c hd
        cases hj : E.T e with
        | none => rw [hj] at h; cases h
        | some j =>
          rw [hj] at h
          simp only [Option.bind_some] at h
          split at h
          · rename_i hc
            cases h
            obtain ⟨c1, c2, c3⟩ := hc
            have fin : ∀ (p : Pl) (o' k' : Nat), ρ b = some p → o' = p.off + o → ∃ v', VR ρ (.pointer (some ⟨b, o + m.toNat * s, none⟩)) v' ∧
                ∀ w, (Instr.indexAt t (.slice (some ⟨p.blk, o', none⟩) len k') (.int k m)).run P w = .ok v' w := by
              intro p o' k' hp ho
              refine ⟨_, .ptr (o + m.toNat * s) hp, fun w => ?_⟩
              simp [Instr.indexAt, asIntOf, run_und hT hi, hd, run_size hT hj, c1, c2, addr_add, ho, c3, Nat.add_assoc]
            cases hx with
            | sliceL _ o' _ _ k2 k' hp h1 h2 h3 h4 h5 => exact fin _ o' k' hp (h5.resolve_right (by omega))
            | sliceE _ o' _ _ k2 hp h1 h2 h5 => exact fin _ o' k2 hp (h5.resolve_right (by omega))
          · cases h
      · rename_i len e b o hd
        cases hx with
        | ptr _ hp =>
        rename_i p
        cases hj : E.T e with
        | none => rw [hj] at h; cases h
        | some j =>
          rw [hj] at h
          simp only [Option.bind_some] at h
          split at h
          · rename_i hc
            cases h
            obtain ⟨c1, c2⟩ := hc
            refine ⟨_, .ptr (o + m.toNat * j.size) hp, fun w => ?_⟩
            simp [Instr.indexAt, asIntOf, run_und hT hi, hd, run_size hT hj, c1, c2, Instr.sureAddr, addr_add, Nat.add_assoc]
          · cases h
      · cases h

theorem dindex_sound {P : Program} {E : Env} (hT : E.T.ok P) {ρ : Rn} {t : TypeId} {x x' n n' : Value} {v : Value} (hx : VR ρ x x') (hn : VR ρ n n') (h : dindex E t x n = some v) :
    ∃ v', VR ρ v v' ∧ ∀ w, (Instr.index t x' n').run P w = .ok v' w := by
  unfold dindex at h
  cases hi : E.T t with
  | none => rw [hi] at h; cases h
  | some i =>
    rw [hi] at h
    simp only [Option.bind_some] at h
    cases hk : intIx n with
    | none => rw [hk] at h; cases h
    | some m =>
      rw [hk] at h
      simp only [Option.bind_some] at h
      obtain ⟨k, rfl, rfl⟩ := intIx_vr hn hk
      split at h
      · rename_i len e cs hd
        cases hx with
        | agg _ bs h1 h2 =>
        cases hj : E.T e with
        | none => rw [hj] at h; cases h
        | some j =>
          rw [hj] at h
          simp only [Option.bind_some] at h
          split at h
          · rename_i hc
            obtain ⟨v', h3, h4⟩ := dpart_sound hT ⟨h1, h2⟩ h
            refine ⟨v', h3, fun w => ?_⟩
            simp [Instr.index, asIntOf, run_und hT hi, hd, run_size hT hj, hc, h4]
          · cases h
      · rename_i s hd
        cases hx
        split at h
        · rename_i hc
          cases hb : s.data[m.toNat]? with
          | none => rw [hb] at h; cases h
          | some b =>
            rw [hb] at h; cases h
            refine ⟨_, .int _ _, fun w => ?_⟩
            have hb' : s[m.toNat]? = some b := by
              rw [← hb]
              rfl
            simp [Instr.index, asIntOf, run_und hT hi, hd, hc, hb']
        · cases h
      · cases h

end Go.Dn
end

section
namespace Go.Dn

theorem dslice_sound {P : Program} {E : Env} (hT : E.T.ok P) {ρ : Rn} {t : TypeId} {x x' : Value} {lo lo' hi hi' mx mx' : Option Value} {v : Value} (hx : VR ρ x x')
    (h1 : VRo ρ lo lo') (h2 : VRo ρ hi hi') (h3 : VRo ρ mx mx') (h : dslice E t x lo hi mx = some v) :
    ∃ v', VR ρ v v' ∧ ∀ w, (Instr.sliceAt t x' lo' hi' mx').run P w = .ok v' w := by
  unfold dslice at h
  cases hi0 : E.T t with
  | none => rw [hi0] at h; cases h
  | some i =>
    rw [hi0] at h
    simp only [Option.bind_some] at h
    split at h
    · -- a string
      rename_i s hd
      cases hx
      cases mx with
      | some m => cases h
      | none =>
        cases mx' with
        | some m => exact h3.elim
        | none =>
          simp only at h
          cases hb : bounds2 s.size s.size lo hi with
          | none => rw [hb] at h; cases h
          | some q =>
            obtain ⟨l, g⟩ := q
            rw [hb] at h
            cases h
            refine ⟨_, .string _, fun w => ?_⟩
            have := (bounds2_sound (P := P) h1 h2 (Nat.le_refl _) (Nat.le_refl _) hb false w).2.2
            simp [Instr.sliceAt, Instr.slice, run_und hT hi0, hd, this]
    · -- a slice
      rename_i e b o s len c hd
      cases hj : E.T e with
      | none => rw [hj] at h; cases h
      | some j =>
        rw [hj] at h
        simp only [Option.bind_some] at h
        split at h
        · rename_i hs
          have run2 : ∀ (a : Option Addr) (cap l g m : Nat) (w : World), (Instr.sliceBounds true len cap lo' hi' mx').run P w = .ok (l, g, m) w →
              (Instr.sliceAt t (.slice a len cap) lo' hi' mx').run P w = .ok (.slice (if m = l then a else a.map (·.add (l * s))) (g - l) (m - l)) w := by
            intro a cap l g m w hr
            simp [Instr.sliceAt, Instr.slice, run_und hT hi0, hd, hr, run_size hT hj, hs]
          cases mx with
          | none =>
            cases mx' with
            | some m => exact h3.elim
            | none =>
              simp only at h
              cases hb : bounds2 len (c / 2) lo hi with
              | none => rw [hb] at h; cases h
              | some q =>
                obtain ⟨l, g⟩ := q
                rw [hb] at h
                cases h
                cases hx with
                | sliceL _ o' _ _ k k' hp a1 a2 a3 a4 a5 =>
                  rename_i p
                  have e1 : 2 * k / 2 = k := by omega
                  have e2 : 2 * k % 2 = 0 := by omega
                  rw [e1] at hb
                  rw [e1, e2, Nat.add_zero]
                  have hq := bounds2_sound (P := P) h1 h2 a1 a2 hb true default
                  obtain ⟨q1, q2, _⟩ := hq
                  by_cases hm : k' = l
                  · refine ⟨.slice (some ⟨p.blk, o', none⟩) (g - l) (k' - l), ?_, fun w => ?_⟩
                    · exact .sliceL _ _ _ _ _ _ hp (by omega) (by omega) (by
                        have : k' - l = 0 := by omega
                        rw [this, Nat.zero_mul, Nat.add_zero, ← hm]; exact a3) (by omega) (.inr (by omega))
                    · rw [run2 _ _ _ _ _ w (bounds2_sound (P := P) h1 h2 a1 a2 hb true w).2.2, if_pos hm]
                  · refine ⟨.slice (some ⟨p.blk, o' + l * s, none⟩) (g - l) (k' - l), ?_, fun w => ?_⟩
                    · refine .sliceL _ _ _ _ _ _ hp (by omega) (by omega) ?_ (by omega) (.inl (by rw [a5.resolve_right (by omega), Nat.add_assoc]))
                      have : o + l * s + (k' - l) * s = o + k' * s := by
                        rw [Nat.add_assoc, ← Nat.add_mul]; congr 2; omega
                      rw [this]; exact a3
                    · rw [run2 _ _ _ _ _ w (bounds2_sound (P := P) h1 h2 a1 a2 hb true w).2.2, if_neg hm]; simp [addr_add]
                | sliceE _ o' _ _ k hp a1 a2 a5 =>
                  rename_i p
                  have e1 : (2 * k + 1) / 2 = k := by omega
                  have e2 : (2 * k + 1) % 2 = 1 := by omega
                  rw [e1] at hb
                  rw [e1, e2]
                  obtain ⟨q1, q2, _⟩ := bounds2_sound (P := P) h1 h2 a1 (Nat.le_refl _) hb true default
                  by_cases hm : k = l
                  · refine ⟨.slice (some ⟨p.blk, o', none⟩) (g - l) (k - l), ?_, fun w => ?_⟩
                    · exact .sliceE _ _ _ _ _ hp (by omega) (by omega) (.inr (by omega))
                    · rw [run2 _ _ _ _ _ w (bounds2_sound (P := P) h1 h2 a1 (Nat.le_refl _) hb true w).2.2, if_pos hm]
                  · refine ⟨.slice (some ⟨p.blk, o' + l * s, none⟩) (g - l) (k - l), ?_, fun w => ?_⟩
                    · exact .sliceE _ _ _ _ _ hp (by omega) (by omega) (.inl (by rw [a5.resolve_right (by omega), Nat.add_assoc]))
                    · rw [run2 _ _ _ _ _ w (bounds2_sound (P := P) h1 h2 a1 (Nat.le_refl _) hb true w).2.2, if_neg hm]; simp [addr_add]
          | some mv =>
            cases mx' with
            | none => exact h3.elim
            | some mv' =>
              simp only at h
              cases hbm : bound mv (c / 2) with
              | none => rw [hbm] at h; cases h
              | some m =>
                rw [hbm] at h
                simp only [Option.bind_some] at h
                cases hhi : hi with
                | none => rw [hhi] at h; cases h
                | some hv =>
                  have hne : hi ≠ none := by rw [hhi]; simp
                  rw [hhi] at h
                  simp only at h
                  rw [← hhi] at h
                  cases hb : bounds2 len m lo hi with
                  | none => rw [hb] at h; cases h
                  | some q =>
                    obtain ⟨l, g⟩ := q
                    rw [hb] at h
                    cases h
                    have fin : ∀ (p : Pl) (o' k k' : Nat), ρ b = some p → k ≤ k' → k' ≤ maxLen → c / 2 = k → (o' = p.off + o ∨ k' = 0) →
                        ∃ v', VR ρ (.slice (some ⟨b, o + l * s, some s⟩) (g - l) (2 * (m - l) + 1)) v' ∧
                          ∀ w, (Instr.sliceAt t (.slice (some ⟨p.blk, o', none⟩) len k') lo' hi' (some mv')).run P w = .ok v' w := by
                      intro p o' k k' hp hk hkm hc ho
                      rw [hc] at hbm
                      have q0 := fun w => bounds3_sound (P := P) h1 h2 h3 hne hk hbm hb true w
                      obtain ⟨q1, q2, q3, _⟩ := q0 default
                      by_cases hm : m = l
                      · refine ⟨.slice (some ⟨p.blk, o', none⟩) (g - l) (m - l), .sliceE _ _ _ _ _ hp (by omega) (by omega) (.inr (by omega)), fun w => ?_⟩
                        rw [run2 _ _ _ _ _ w (q0 w).2.2.2, if_pos hm]
                      · refine ⟨.slice (some ⟨p.blk, o' + l * s, none⟩) (g - l) (m - l), .sliceE _ _ _ _ _ hp (by omega) (by omega) (.inl (by rw [ho.resolve_right (by omega), Nat.add_assoc])), fun w => ?_⟩
                        rw [run2 _ _ _ _ _ w (q0 w).2.2.2, if_neg hm]; simp [addr_add]
                    cases hx with
                    | sliceL _ o' _ _ k k' hp a1 a2 a3 a4 a5 => exact fin _ o' k k' hp a2 a4 (by omega) a5
                    | sliceE _ o' _ _ k hp a1 a2 a5 => exact fin _ o' k k hp (Nat.le_refl _) a2 (by omega) a5
        · cases h
    · -- a nil slice
      rename_i e hd
      cases hx
      cases hj : E.T e with
      | none => rw [hj] at h; cases h
      | some j =>
        rw [hj] at h
        simp only [Option.bind_some] at h
        have run2 : ∀ (l g m : Nat) (w : World), (Instr.sliceBounds true 0 0 lo' hi' mx').run P w = .ok (l, g, m) w → l ≤ g → g ≤ m → m ≤ 0 →
            (Instr.sliceAt t (.slice none 0 0) lo' hi' mx').run P w = .ok (.slice none 0 0) w := by
          intro l g m w hr z1 z2 z3
          obtain rfl : m = 0 := by omega
          obtain rfl : g = 0 := by omega
          obtain rfl : l = 0 := by omega
          simp [Instr.sliceAt, Instr.slice, run_und hT hi0, hd, hr, run_size hT hj]
        cases mx with
        | none =>
          cases mx' with
          | some m => exact h3.elim
          | none =>
            simp only at h
            cases hb : bounds2 0 0 lo hi with
            | none => rw [hb] at h; cases h
            | some q =>
              obtain ⟨l, g⟩ := q
              rw [hb] at h
              cases h
              refine ⟨_, .sliceNil, fun w => ?_⟩
              obtain ⟨q1, q2, q3⟩ := bounds2_sound (P := P) h1 h2 (Nat.le_refl _) (Nat.le_refl _) hb true w
              exact run2 _ _ _ w q3 q1 q2 (Nat.le_refl _)
        | some mv =>
          cases mx' with
          | none => exact h3.elim
          | some mv' =>
            simp only at h
            cases hbm : bound mv 0 with
            | none => rw [hbm] at h; cases h
            | some m =>
              rw [hbm] at h
              simp only [Option.bind_some] at h
              cases hhi : hi with
              | none => rw [hhi] at h; cases h
              | some hv =>
                have hne : hi ≠ none := by rw [hhi]; simp
                rw [hhi] at h
                simp only at h
                rw [← hhi] at h
                cases hb : bounds2 0 0 lo hi with
                | none => rw [hb] at h; cases h
                | some q =>
                  obtain ⟨l, g⟩ := q
                  rw [hb] at h
                  cases h
                  refine ⟨_, .sliceNil, fun w => ?_⟩
                  have hm0 : m = 0 := by have := (bound_sound (P := P) (y' := 0) h3 hbm (Nat.le_refl _) .index w).1; omega
                  subst hm0
                  obtain ⟨q1, q2, q3, q4⟩ := bounds3_sound (P := P) h1 h2 h3 hne (Nat.le_refl _) hbm hb true w
                  exact run2 _ _ _ w q4 q1 q2 (Nat.le_refl _)
    · -- an empty slice
      rename_i e hd
      cases hx with
      | sliceZ a =>
      cases hj : E.T e with
      | none => rw [hj] at h; cases h
      | some j =>
        rw [hj] at h
        simp only [Option.bind_some] at h
        have run2 : ∀ (l g m : Nat) (w : World), (Instr.sliceBounds true 0 0 lo' hi' mx').run P w = .ok (l, g, m) w → l ≤ g → g ≤ m → m ≤ 0 →
            (Instr.sliceAt t (.slice (some a) 0 0) lo' hi' mx').run P w = .ok (.slice (some a) 0 0) w := by
          intro l g m w hr z1 z2 z3
          obtain rfl : m = 0 := by omega
          obtain rfl : g = 0 := by omega
          obtain rfl : l = 0 := by omega
          simp [Instr.sliceAt, Instr.slice, run_und hT hi0, hd, hr, run_size hT hj]
        cases mx with
        | none =>
          cases mx' with
          | some m => exact h3.elim
          | none =>
            simp only at h
            cases hb : bounds2 0 0 lo hi with
            | none => rw [hb] at h; cases h
            | some q =>
              obtain ⟨l, g⟩ := q
              rw [hb] at h
              cases h
              refine ⟨_, .sliceZ a, fun w => ?_⟩
              obtain ⟨q1, q2, q3⟩ := bounds2_sound (P := P) h1 h2 (Nat.le_refl _) (Nat.le_refl _) hb true w
              exact run2 _ _ _ w q3 q1 q2 (Nat.le_refl _)
        | some mv => cases h
    · -- an array
      rename_i n e b o hd
      cases hx with
      | ptr _ hp =>
      rename_i p
      cases hj : E.T e with
      | none => rw [hj] at h; cases h
      | some j =>
        rw [hj] at h
        simp only [Option.bind_some] at h
        cases mx with
        | some m => cases h
        | none =>
          cases mx' with
          | some m => exact h3.elim
          | none =>
            simp only at h
            split at h
            · rename_i hn
              cases hb : bounds2 n n lo hi with
              | none => rw [hb] at h; cases h
              | some q =>
                obtain ⟨l, g⟩ := q
                rw [hb] at h
                cases h
                obtain ⟨q1, q2, _⟩ := bounds2_sound (P := P) h1 h2 (Nat.le_refl _) (Nat.le_refl _) hb false default
                have hr := fun w => (bounds2_sound (P := P) h1 h2 (Nat.le_refl _) (Nat.le_refl _) hb false w).2.2
                by_cases hm : n = l
                · refine ⟨.slice (some ⟨p.blk, p.off + o, none⟩) (g - l) (n - l), .sliceE _ _ _ _ _ hp (by omega) (by omega) (.inr (by omega)), fun w => ?_⟩
                  rw [Instr.sliceAt, Sem.run_bind, run_und hT hi0, Result.andThen_ok, hd]
                  simp only [Instr.sureAddr, Sem.run_bind, Sem.run_pure, Result.andThen_ok, hr w, run_size hT hj, if_pos hm]
                · refine ⟨.slice (some ⟨p.blk, p.off + o + l * j.size, none⟩) (g - l) (n - l), .sliceE _ _ _ _ _ hp (by omega) (by omega) (.inl (by rw [Nat.add_assoc])), fun w => ?_⟩
                  rw [Instr.sliceAt, Sem.run_bind, run_und hT hi0, Result.andThen_ok, hd]
                  simp only [Instr.sureAddr, Sem.run_bind, Sem.run_pure, Result.andThen_ok, hr w, run_size hT hj, if_neg hm, addr_add]
            · cases h
    · cases h

theorem dconv_sound {P : Program} {E : Env} (hT : E.T.ok P) {ρ : Rn} {s d : TypeId} {x x' v : Value} (hx : VR ρ x x') (h : dconv E s d x = some v) :
    ∃ v', VR ρ v v' ∧ ∀ w, (convert s d x').run P w = .ok v' w := by
  unfold dconv at h
  cases hi : E.T s with
  | none => rw [hi] at h; cases h
  | some i =>
    rw [hi] at h
    simp only [Option.bind_some] at h
    cases hj : E.T d with
    | none => rw [hj] at h; cases h
    | some j =>
      rw [hj] at h
      simp only [Option.bind_some] at h
      split at h
      · rename_i k k' n hd
        cases hx; cases h
        refine ⟨_, .int _ _, fun w => ?_⟩
        simp only [convert, Sem.run_bind, run_und hT hi, run_und hT hj, hd, Result.andThen_ok]
        cases i.d <;> rfl
      · rename_i b hd
        cases hx; cases h
        refine ⟨_, .string _, fun w => ?_⟩
        simp only [convert, Sem.run_bind, run_und hT hi, run_und hT hj, hd, Result.andThen_ok]
        cases i.d <;> rfl
      · cases h

theorem dun_sound {P : Program} {ρ : Rn} {op : UnOp} {x x' v : Value} (hx : VR ρ x x') (h : dun op x = some v) :
    ∃ v', VR ρ v v' ∧ ∀ w, (Op.unary op x').run P w = .ok v' w := by
  unfold dun at h
  split at h
  · cases hx; cases h; exact ⟨_, .int _ _, fun w => rfl⟩
  · cases hx; cases h; exact ⟨_, .int _ _, fun w => rfl⟩
  · cases hx; cases h; exact ⟨_, .bool _, fun w => rfl⟩
  · cases h

theorem dbuiltin_sound {P : Program} {E : Env} (hT : E.T.ok P) {ρ : Rn} {b : Builtin} {ts : List TypeId} {ty : TypeId} {cs : Array Bool} {vs : List Value} {vs' : Array Value} {v : Value}
    (hl : vs'.size = vs.length) (hv : ∀ (j : Nat) u u', vs[j]? = some u → vs'[j]? = some u' → VR ρ u u') (h : dbuiltin E b ts vs = some v) :
    ∃ v', VR ρ v v' ∧ ∀ w, (builtin b ts.toArray ty cs vs').run P w = .ok (.value v') w := by
  unfold dbuiltin at h
  split at h
  · rename_i t r x
    obtain ⟨x', rfl⟩ : ∃ x', vs' = #[x'] := by
      obtain ⟨l⟩ := vs'
      match l, hl with
      | [y], _ => exact ⟨y, rfl⟩
    have hx : VR ρ x x' := hv 0 x x' (by simp) (by simp)
    cases hi : E.T t with
    | none => rw [hi] at h; cases h
    | some i =>
      rw [hi] at h
      simp only [Option.bind_some] at h
      split at h
      · rename_i hd
        cases hx <;> cases h <;> exact ⟨_, .int _ _, fun w => by simp [builtin, Builtin.len_, run_und hT hi, hd, goInt]⟩
      · rename_i hd
        cases hx; cases h
        exact ⟨_, .int _ _, fun w => by simp [builtin, Builtin.len_, run_und hT hi, hd, goInt]⟩
      · rename_i n hd
        cases h
        exact ⟨_, .int _ _, fun w => by simp [builtin, Builtin.len_, run_und hT hi, hd, goInt]⟩
      · rename_i hd
        cases hx; cases h
        exact ⟨_, .int _ _, fun w => by simp [builtin, Builtin.len_, run_und hT hi, hd, goInt]⟩
      · cases h
  · rename_i k x l y
    obtain ⟨x', y', rfl⟩ : ∃ x' y', vs' = #[x', y'] := by
      obtain ⟨q⟩ := vs'
      match q, hl with
      | [a, b], _ => exact ⟨a, b, rfl⟩
    have hx := hv 0 (.int k x) x' (by simp) (by simp)
    have hy := hv 1 (.int l y) y' (by simp) (by simp)
    cases hx; cases hy; cases h
    exact ⟨_, .int _ _, fun w => by simp [builtin, Builtin.min_, Builtin.min2]⟩
  · rename_i k x l y
    obtain ⟨x', y', rfl⟩ : ∃ x' y', vs' = #[x', y'] := by
      obtain ⟨q⟩ := vs'
      match q, hl with
      | [a, b], _ => exact ⟨a, b, rfl⟩
    have hx := hv 0 (.int k x) x' (by simp) (by simp)
    have hy := hv 1 (.int l y) y' (by simp) (by simp)
    cases hx; cases hy; cases h
    exact ⟨_, .int _ _, fun w => by simp [builtin, Builtin.max_, Builtin.max2]⟩
  · cases h

end Go.Dn
end

section
namespace Go.Dn

theorem dparts_sound {P : Program} {E : Env} {ρ : Rn} {N : Nat} {ds : List Deferred} {σ : Sl} {a : Act} (h : SR P E ρ N ds σ a) : ∀ {ps : List (Nat × Operand)} {l : List (Nat × Value)}, dparts E σ ps = some l →
    PR ρ l (ps.map fun (i, x) => (i, a.eval x))
  | [], l, hl => by cases hl; exact .nil
  | (i, x) :: r, l, hl => by
    simp only [dparts] at hl
    cases h1 : evO E σ x with
    | none => rw [h1] at hl; cases hl
    | some v =>
      rw [h1] at hl
      simp only [Option.bind_some] at hl
      cases h2 : dparts E σ r with
      | none => rw [h2] at hl; cases hl
      | some q =>
        rw [h2] at hl; cases hl
        exact .cons (evO_sound h h1) (dparts_sound h h2)

theorem evo_opt {P : Program} {E : Env} {ρ : Rn} {N : Nat} {ds : List Deferred} {σ : Sl} {a : Act} (h : SR P E ρ N ds σ a) {x : Option Operand} {r : Option Value}
    (hr : evOo E σ x = some r) : VRo ρ r (x.map a.eval) := by
  cases x with
  | none => cases hr; trivial
  | some l =>
    simp only [evOo] at hr
    cases h1 : evO E σ l with
    | none => rw [h1] at hr; cases hr
    | some v => rw [h1] at hr; cases hr; exact evO_sound h h1

theorem run_v {P : Program} {s : Sem Value} {v : Value} {w : World} (h : s.run P w = .ok v w) : (do pure (Next.value (← s)) : Sem Next).run P w = .ok (.value v) w := by
  simp [h]

theorem evs_args {P : Program} {E : Env} {ρ : Rn} {N : Nat} {ds : List Deferred} {σ : Sl} {a : Act} (h : SR P E ρ N ds σ a) {xs : Array Operand} {vs : List Value} (hv : evs E σ xs.toList = some vs) :
    (xs.map a.eval).size = vs.length ∧ ∀ (j : Nat) u u', vs[j]? = some u → (xs.map a.eval)[j]? = some u' → VR ρ u u' := by
  obtain ⟨h1, h2⟩ := evs_sound h hv
  refine ⟨by simp [h1], fun j u u' hu hu' => ?_⟩
  obtain ⟨x, hx, hr⟩ := h2 j u hu
  rw [Array.getElem?_map] at hu'
  rw [Array.getElem?_toList] at hx
  rw [hx] at hu'
  cases hu'
  exact hr

theorem bind_some {α β : Type} {x : Option α} {f : α → Option β} {r : β} (h : x.bind f = some r) : ∃ y, x = some y ∧ f y = some r := by
  cases x with
  | none => cases h
  | some y => exact ⟨y, rfl, h⟩

theorem allEq_sound {P : Program} {E : Env} (hT : E.T.ok P) {ρ : Rn} {eq : TypeId → Value → Value → Option Bool} {d : Nat}
    (heq : ∀ t x y x' y' r, VR ρ x x' → VR ρ y y' → eq t x y = some r → ∀ w, (Op.equalIn d t x' y').run P w = .ok r w)
    {xs ys xs' ys' : Array Value} (hx : AR ρ xs xs') (hy : AR ρ ys ys') : ∀ {fs : List Field} {r : Bool}, (∀ f ∈ fs, f.name ≠ "_") → allEq E eq xs ys fs = some r →
    ∀ w, (Op.eqFields d xs' ys' fs).run P w = .ok r w
  | [], r, _, h => by cases h; intro w; rfl
  | f :: fs, r, hn, h => by
    intro w
    simp only [allEq] at h
    replace h := bind_some h
    obtain ⟨a, h1, h⟩ := h
    replace h := bind_some h
    obtain ⟨b, h2, h⟩ := h
    replace h := bind_some h
    obtain ⟨q, h3, h⟩ := h
    obtain ⟨a', a1, a2⟩ := dpart_sound hT hx h1
    obtain ⟨b', b1, b2⟩ := dpart_sound hT hy h2
    have e := heq _ _ _ _ _ _ a1 b1 h3 w
    simp only [Op.eqFields, if_pos (hn f (by simp)), Sem.run_bind, a2 w, b2 w, Result.andThen_ok, e]
    cases q with
    | true =>
      simp only [cond_true] at h
      simp only [Bool.not_true, Bool.false_eq_true, if_false]
      exact allEq_sound hT heq hx hy (fun g hg => hn g (by simp [hg])) h w
    | false =>
      simp only [cond_false] at h
      cases h
      rfl

theorem deqF_sound {P : Program} {E : Env} (hT : E.T.ok P) {ρ : Rn} : ∀ (n : Nat) (d : Nat), n ≤ d → ∀ t x y x' y' r, VR ρ x x' → VR ρ y y' → deqF E n t x y = some r →
    ∀ w, (Op.equalIn d t x' y').run P w = .ok r w
  | 0, _, _, _, _, _, _, _, _, _, _, h => by cases h
  | n + 1, 0, hnd, _, _, _, _, _, _, _, _, _ => by omega
  | n + 1, d + 1, hnd, t, x, y, x', y', r, hx, hy, h => by
    intro w
    simp only [deqF] at h
    replace h := bind_some h
    obtain ⟨i, h1, h⟩ := h
    split at h
    · rename_i hd
      cases hx; cases hy; cases h
      simp only [Op.equalIn, Sem.run_bind, run_und hT h1, hd, Result.andThen_ok, Sem.run_pure]
    · rename_i hd
      cases hx; cases hy
      split at h
      · rename_i e
        cases h
        simp only [Op.equalIn, Sem.run_bind, run_und hT h1, hd, Result.andThen_ok, if_pos e, Sem.run_pure]
      · cases h
    · rename_i hd
      cases hx; cases hy; cases h
      simp only [Op.equalIn, Sem.run_bind, run_und hT h1, hd, Result.andThen_ok, Sem.run_pure]
    · rename_i fs xs ys hd
      cases hx with
      | agg _ xs' k1 k2 =>
      cases hy with
      | agg _ ys' k3 k4 =>
      cases hf : i.flat with
      | false => rw [hf] at h; cases h
      | true =>
        rw [hf] at h
        simp only [cond_true] at h
        obtain ⟨p1, p2, p3⟩ := hT.flat t i h1 hf
        have hfo : P.fieldsOf t = fs := by simp [Program.fieldsOf, hT.und _ _ h1, hd]
        rw [run_equalIn_struct w d t xs' ys' (by rw [hfo, hT.und _ _ h1, hd]) p1, hfo]
        exact allEq_sound hT (fun t x y x' y' r a b c => deqF_sound hT n d (by omega) t x y x' y' r a b c) ⟨k1, k2⟩ ⟨k3, k4⟩ (p3 fs hd) h w
    · cases h

theorem dagg_sound {P : Program} {E : Env} (hT : E.T.ok P) {ρ : Rn} {op : BinOp} {t : TypeId} {x y : Operand} {xs ys xs' ys' : Array Value} {v : Value}
    (hx : VR ρ (.agg xs) (.agg xs')) (hy : VR ρ (.agg ys) (.agg ys')) (h : dagg E op t (.agg xs) (.agg ys) = some v) :
    plain0 v = true ∧ ∀ w, (sbin op t x y (.agg xs') (.agg ys')).run P w = .ok v w := by
  unfold dagg at h
  replace h := bind_some h
  obtain ⟨i, h1, h⟩ := h
  cases hf : i.flat with
  | false => rw [hf] at h; cases h
  | true =>
    rw [hf] at h
    simp only [cond_true] at h
    obtain ⟨p1, p2, p3⟩ := hT.flat t i h1 hf
    split at h
    · cases hq : deqF E 20 t (.agg xs) (.agg ys) with
      | none => rw [hq] at h; cases h
      | some r =>
        rw [hq] at h; cases h
        refine ⟨rfl, fun w => ?_⟩
        unfold sbin
        rw [Sem.run_bind, run_eqGuard_agg w .eql t x y xs' ys' p2, Result.andThen_ok, run_eql_struct, deqF_sound hT 20 10000 (by omega) _ _ _ _ _ _ hx hy hq w]
        rfl
    · cases hq : deqF E 20 t (.agg xs) (.agg ys) with
      | none => rw [hq] at h; cases h
      | some r =>
        rw [hq] at h; cases h
        refine ⟨rfl, fun w => ?_⟩
        unfold sbin
        rw [Sem.run_bind, run_eqGuard_agg w .neq t x y xs' ys' p2, Result.andThen_ok, run_neq_struct, deqF_sound hT 20 10000 (by omega) _ _ _ _ _ _ hx hy hq w]
        rfl
    · cases h

theorem dval_sound {P : Program} {E : Env} (hT : E.T.ok P) {ρ : Rn} {N : Nat} {ds : List Deferred} {σ : Sl} {a : Act} (h : SR P E ρ N ds σ a) {o : Oper} {v : Value} (hv : dval E σ o = some v) :
    ∃ v', VR ρ v v' ∧ ∀ w, (execOp a.eval o).run P w = .ok (.value v') w := by
  unfold dval at hv
  unfold execOp
  split at hv
  · rename_i x ho
    exact ⟨_, evO_sound h hv, fun w => by rw [ho]; rfl⟩
  · rename_i x ho
    exact ⟨_, evO_sound h hv, fun w => by rw [ho]; rfl⟩
  · -- pick
    rename_i c x y ho
    obtain ⟨cv, h1, hv⟩ := bind_some hv
    have hc := evO_sound h h1
    split at hv
    · rename_i t
      generalize hg : a.eval c = c' at hc
      cases hc
      refine ⟨a.eval (if t then x else y), ?_, fun w => ?_⟩
      · cases t with
        | true => exact evO_sound h hv
        | false => exact evO_sound h hv
      · rw [ho]
        simp only []
        rw [hg]
        cases t <;> rfl
    · cases hv
  · -- nilCheck
    rename_i x ho
    obtain ⟨u, h1, hv⟩ := bind_some hv
    have hu := evO_sound h h1
    unfold dnil at hv
    split at hv
    · cases hv
      generalize hg : a.eval x = x' at hu
      cases hu with
      | ptr o2 hp => exact ⟨_, .ptr o2 hp, fun w => by rw [ho]; simp only []; rw [hg]; rfl⟩
    · cases hv
      generalize hg : a.eval x = x' at hu
      cases hu with
      | iface t u v hh => exact ⟨_, .iface _ _ _ hh, fun w => by rw [ho]; simp only []; rw [hg]; rfl⟩
    · cases hv
      generalize hg : a.eval x = x' at hu
      cases hu with
      | func f as bs cs ds k1 k2 k3 k4 => exact ⟨_, .func _ _ _ _ _ k1 k2 k3 k4, fun w => by rw [ho]; simp only []; rw [hg]; rfl⟩
    · cases hv
  · -- binOp
    rename_i op t x y yt ho
    obtain ⟨u, h1, hv⟩ := bind_some hv
    obtain ⟨u2, h2, hv⟩ := bind_some hv
    have q1 := evO_sound h h1
    have q2 := evO_sound h h2
    split at hv
    · generalize hg1 : a.eval x = x' at q1
      generalize hg2 : a.eval y = y' at q2
      cases q1 with
      | agg _ bs k1 k2 =>
      cases q2 with
      | agg _ cs k3 k4 =>
      obtain ⟨k5, k6⟩ := dagg_sound hT (x := x) (y := y) (.agg _ bs k1 k2) (.agg _ cs k3 k4) hv
      exact ⟨v, plain0_vr k5, fun w => by rw [ho]; simp only []; rw [hg1, hg2]; exact run_v (k6 w)⟩
    · obtain ⟨k1, k2⟩ := dbin_sound hT (x := x) (y := y) q1 q2 hv
      exact ⟨v, plain0_vr k1, fun w => by rw [ho]; exact run_v (k2 w)⟩
  · -- unOp
    rename_i op t x ho
    obtain ⟨u, h1, hv⟩ := bind_some hv
    obtain ⟨v', k1, k2⟩ := dun_sound (P := P) (evO_sound h h1) hv
    exact ⟨v', k1, fun w => by rw [ho]; exact run_v (k2 w)⟩
  · -- convert
    rename_i s d x ho
    obtain ⟨u, h1, hv⟩ := bind_some hv
    obtain ⟨v', k1, k2⟩ := dconv_sound hT (evO_sound h h1) hv
    exact ⟨v', k1, fun w => by rw [ho]; exact run_v (k2 w)⟩
  · -- makeInterface
    rename_i t x ho
    obtain ⟨u, h1, hv⟩ := bind_some hv
    obtain ⟨i, h2, hv⟩ := bind_some hv
    split at hv
    · cases hv
    · rename_i hne
      cases hv
      refine ⟨_, .iface t _ _ (evO_sound h h1), fun w => ?_⟩
      rw [ho]
      refine run_v ?_
      simp only [Instr.makeInterface, Sem.run_bind, run_und hT h2, Result.andThen_ok]
      rfl
  · -- makeFunc
    rename_i f as cs ho
    obtain ⟨us, h1, hv⟩ := bind_some hv
    obtain ⟨vs, h2, hv⟩ := bind_some hv
    cases hv
    obtain ⟨a1, a2⟩ := evs_args h h1
    obtain ⟨b1, b2⟩ := evs_args h h2
    refine ⟨.func (.func f) (as.map a.eval) (cs.map a.eval), ?_, fun w => ?_⟩
    · refine .func f _ _ _ _ (by simpa using a1.symm) (fun j u u' hu hu' => a2 j u u' (by simpa using hu) hu') (by simpa using b1.symm) (fun j u u' hu hu' => b2 j u u' (by simpa using hu) hu')
    · rw [ho]; exact run_v rfl
  · -- fieldAddr
    rename_i t x f ho
    obtain ⟨u, h1, hv⟩ := bind_some hv
    obtain ⟨v', k1, k2⟩ := dfieldAddr_sound hT (evO_sound h h1) hv
    exact ⟨v', k1, fun w => by rw [ho]; exact run_v (k2 w)⟩
  · -- field
    rename_i t x f ho
    obtain ⟨u, h1, hv⟩ := bind_some hv
    obtain ⟨v', k1, k2⟩ := dfield_sound hT (evO_sound h h1) hv
    exact ⟨v', k1, fun w => by rw [ho]; exact run_v (k2 w)⟩
  · -- indexAddr
    rename_i t x ix ho
    obtain ⟨u, h1, hv⟩ := bind_some hv
    obtain ⟨n, h2, hv⟩ := bind_some hv
    obtain ⟨v', k1, k2⟩ := dindexAddr_sound hT (evO_sound h h1) (evO_sound h h2) hv
    exact ⟨v', k1, fun w => by rw [ho]; exact run_v (k2 w)⟩
  · -- index
    rename_i t x ix ho
    obtain ⟨u, h1, hv⟩ := bind_some hv
    obtain ⟨n, h2, hv⟩ := bind_some hv
    obtain ⟨v', k1, k2⟩ := dindex_sound hT (evO_sound h h1) (evO_sound h h2) hv
    exact ⟨v', k1, fun w => by rw [ho]; exact run_v (k2 w)⟩
  · -- slice
    rename_i t x lo hi mx ho
    obtain ⟨u, h1, hv⟩ := bind_some hv
    obtain ⟨l, h2, hv⟩ := bind_some hv
    obtain ⟨g, h3, hv⟩ := bind_some hv
    obtain ⟨m, h4, hv⟩ := bind_some hv
    obtain ⟨v', k1, k2⟩ := dslice_sound hT (evO_sound h h1) (evo_opt h h2) (evo_opt h h3) (evo_opt h h4) hv
    exact ⟨v', k1, fun w => by rw [ho]; exact run_v (k2 w)⟩
  · -- extract
    rename_i x i ho
    obtain ⟨u, h1, hv⟩ := bind_some hv
    have hu := evO_sound h h1
    split at hv
    · rename_i vs
      generalize hg : a.eval x = x' at hu
      cases hu with
      | tuple _ bs k1 k2 =>
        obtain ⟨v', q1, q2⟩ := (AR.mk k1 k2).some hv
        refine ⟨v', q2, fun w => ?_⟩
        rw [ho]
        simp only []
        rw [hg]
        exact run_v (by simp [Instr.extract, q1])
    · cases hv
  · -- build
    rename_i t parts ho
    obtain ⟨l, h1, hv⟩ := bind_some hv
    cases h2 : E.built t l with
    | none => rw [h2] at hv; cases hv
    | some out =>
      rw [h2] at hv; cases hv
      obtain ⟨out', k1, k2⟩ := built_sound hT (dparts_sound h h1) h2
      refine ⟨.agg out', .agg _ _ k1.size k1.get, fun w => ?_⟩
      rw [ho]
      refine run_v (run_build w t _ out' ?_)
      rw [← k2]
      congr 1
      simp
  · -- a built-in function
    rename_i b args ts ho
    obtain ⟨vs, h1, hv⟩ := bind_some hv
    obtain ⟨a1, a2⟩ := evs_args h h1
    obtain ⟨v', k1, k2⟩ := dbuiltin_sound (P := P) (ty := o.type) (cs := args.map fun | .const _ => true | _ => false) hT a1 a2 hv
    refine ⟨v', k1, fun w => ?_⟩
    rw [ho]
    have := k2 w
    simp only [Array.toArray_toList] at this
    simp only [resolve, Sem.run_bind, Sem.run_pure, Result.andThen_ok, invoke]
    exact this
  · cases hv

end Go.Dn
end
