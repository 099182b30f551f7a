/-
  Part of the abstract machine for this program.
-/
import Derived.Test.YtombnpednnngoaaDoorDnB

section
namespace Go.Dn

/-! ## reading memory -/
/-- the cells of an abstract row from o on -/
def cellsAt (A : Hp) (i o n : Nat) : Option (List Value) :=
  match A.get i with
  | some (.arr _ cs _) => if o + n ≤ cs.length then some ((cs.drop o).take n) else none
  | _ => none

theorem cellsAt_sound {P : Program} {ρ : Rn} {A : Hp} {w : World} (h : Rel P ρ A w) {i o n : Nat} {p : Pl} {us : List Value} (hp : ρ i = some p) (hc : cellsAt A i o n = some us) :
    us.length = n ∧ (∀ u ∈ us, u.oneCell' = true) ∧ ∃ vs : List Value, vs.length = n ∧ AR ρ us.toArray vs.toArray ∧ (∀ v ∈ vs, v.oneCell' = true) ∧
      ∀ (j : Nat) v, vs[j]? = some v → w.cell? ((⟨p.blk, p.off + o, none⟩ : Addr).add j) = some v := by
  unfold cellsAt at hc
  split at hc
  · rename_i T cs m hg
    split at hc
    · rename_i hl
      cases hc
      obtain ⟨q, hq, hob⟩ := h.obj i _ hg
      rw [hp] at hq; cases hq
      cases hob with
      | arr _ _ _ C T' fz hb hT hll hcc =>
        have hlen : ((cs.drop o).take n).length = n := by simp; omega
        have hcell : ∀ j, j < n → ∃ u v, ((cs.drop o).take n)[j]? = some u ∧ u.oneCell' = true ∧ C[p.off + o + j]? = some v ∧ VR ρ u v := by
          intro j hj
          have h1 : cs[o + j]? = some (cs[o + j]'(by omega)) := List.getElem?_eq_getElem _
          obtain ⟨k1, v, k2, k3⟩ := hcc (o + j) _ h1
          refine ⟨_, v, ?_, k1, by rw [Nat.add_assoc]; exact k2, k3⟩
          rw [List.getElem?_take, if_pos hj, List.getElem?_drop, h1]
        refine ⟨hlen, ?_, (List.range n).map (fun j => C.getD (p.off + o + j) undef), by simp, ⟨by simp; omega, ?_⟩, ?_, ?_⟩
        · intro u hu
          obtain ⟨j, hj⟩ := List.getElem?_of_mem hu
          have hjn : j < n := by
            have := (List.getElem?_eq_some_iff.1 hj).1
            omega
          obtain ⟨u', v, k1, k2, _, _⟩ := hcell j hjn
          rw [k1] at hj; cases hj; exact k2
        · intro j u v hu hv
          have hjn : j < n := by
            have := (Array.getElem?_eq_some_iff.1 hu).1
            simp at this; omega
          obtain ⟨u', v', k1, _, k3, k4⟩ := hcell j hjn
          have e1 : u = u' := by
            have : ((cs.drop o).take n)[j]? = some u := by simpa using hu
            rw [k1] at this; cases this; rfl
          have e2 : v = v' := by
            have hv' : ((List.range n).map (fun j => C.getD (p.off + o + j) undef))[j]? = some v := by simpa using hv
            rw [List.getElem?_map, List.getElem?_range hjn] at hv'
            simp only [Option.map_some, Option.some.injEq] at hv'
            rw [← hv', Array.getD_eq_getD_getElem?, k3]; rfl
          subst e1; subst e2; exact k4
        · intro v hv
          obtain ⟨j, hj, rfl⟩ := List.mem_map.1 hv
          have hjn : j < n := by simpa using hj
          obtain ⟨u', v', k1, k2, k3, k4⟩ := hcell j hjn
          rw [Array.getD_eq_getD_getElem?, k3]
          simp only [Option.getD_some]
          rw [k4.oneCell]; exact k2
        · intro j v hv
          have hjn : j < n := by
            have := (List.getElem?_eq_some_iff.1 hv).1
            simpa using this
          obtain ⟨u', v', k1, k2, k3, k4⟩ := hcell j hjn
          rw [List.getElem?_map, List.getElem?_range hjn] at hv
          simp only [Option.map_some, Option.some.injEq] at hv
          rw [Array.getD_eq_getD_getElem?, k3] at hv
          simp only [Option.getD_some] at hv
          subst hv
          rw [addr_add]
          simp only [World.cell?, hb, Option.isSome_none, Bool.false_eq_true, if_false]
          exact k3
    · cases hc
  · cases hc

def byteOf : Value → Option UInt8
  | .int .u8 n => some (UInt8.ofNat n.toNat)
  | _ => none

def bytesOf : List Value → Option (List Int)
  | [] => some []
  | .int .u8 n :: r => (bytesOf r).map (n :: ·)
  | _ => none

theorem bytesOf_eq {us : List Value} {ns : List Int} (h : bytesOf us = some ns) : us = ns.map (Value.int .u8) := by
  induction us generalizing ns with
  | nil => cases h; rfl
  | cons u r ih =>
    cases u with
    | int k n =>
      cases k <;> simp only [bytesOf] at h
      case u8 =>
        cases hb : bytesOf r with
        | none => rw [hb] at h; cases h
        | some q => rw [hb] at h; cases h; simp [ih hb]
      all_goals cases h
    | _ => simp only [bytesOf] at h; cases h

def pushBytes (ns : List Int) : ByteArray := ns.foldl (fun r n => r.push (UInt8.ofNat n.toNat)) ByteArray.empty

/-- a value out of the cells of a variable of type t -/
def dload (E : Env) (t : TypeId) (A : Hp) (x : Value) : Option (Value × List Nat) :=
  (E.T t).bind fun i => match x with
    | .pointer (some ⟨b, o, none⟩) =>
      bif isAggD i.d then (cellsAt A b o i.size).bind fun us => some (.agg us.toArray, [b])
      else (cellsAt A b o 1).bind fun us => match us with
        | [u] => some (u, [b])
        | _ => none
    | _ => none

theorem run_load_ok {P : Program} {w : World} {a : Addr} {v : Value} (h : w.cell? a = some v) : (load a).run P w = .ok v w := by simp [h]

theorem dload_sound {P : Program} {E : Env} (hT : E.T.ok P) {ρ : Rn} {A : Hp} {w : World} (h : Rel P ρ A w) {t : TypeId} {x x' v : Value} {l : List Nat} (hx : VR ρ x x')
    (hd : dload E t A x = some (v, l)) : ∃ v', VR ρ v v' ∧ (Instr.loadAt t x').run P w = .ok v' w := by
  unfold dload at hd
  obtain ⟨i, h1, hd⟩ := bind_some hd
  split at hd
  · rename_i b o
    cases hx with
    | ptr _ hp =>
    rename_i p
    cases ha : isAggD i.d with
    | true =>
      rw [ha] at hd
      simp only [cond_true] at hd
      obtain ⟨us, h2, hd⟩ := bind_some hd
      cases hd
      obtain ⟨k1, k2, vs, k3, k4, k5, k6⟩ := cellsAt_sound h hp h2
      refine ⟨.agg vs.toArray, .agg _ _ k4.size k4.get, ?_⟩
      simp only [Instr.loadAt, Instr.sureAddr, Sem.run_bind, Sem.run_pure, Result.andThen_ok, loadVar, run_isAgg hT h1, ha, if_true, run_size hT h1]
      rw [← k3, run_loadCells_list w _ vs k6]
      rfl
    | false =>
      rw [ha] at hd
      simp only [cond_false] at hd
      obtain ⟨us, h2, hd⟩ := bind_some hd
      split at hd
      · rename_i u
        cases hd
        obtain ⟨k1, k2, vs, k3, k4, k5, k6⟩ := cellsAt_sound h hp h2
        match vs, k3 with
        | [v'], _ =>
          refine ⟨v', k4.get 0 _ _ (by simp) (by simp), ?_⟩
          have hc := k6 0 v' (by simp)
          rw [addr_add, Nat.add_zero] at hc
          simp only [Instr.loadAt, Instr.sureAddr, Sem.run_bind, Sem.run_pure, Result.andThen_ok, loadVar, run_isAgg hT h1, ha, Bool.false_eq_true, if_false]
          exact run_load_ok hc
      · cases hd
  · cases hd

/-- bytes as a string -/
def dstring (E : Env) (s d : TypeId) (A : Hp) (x : Value) : Option (Value × List Nat) :=
  (E.T s).bind fun i => (E.T d).bind fun j => match i.d, j.d, x with
    | .slice e, .string, .slice none 0 0 => (E.T e).bind fun k => match k.d with
      | .int .u8 => some (.string .empty, [])
      | _ => none
    | .slice e, .string, .slice none 0 1 => (E.T e).bind fun k => match k.d with
      | .int .u8 => some (.string .empty, [])
      | _ => none
    | .slice e, .string, .slice (some ⟨b, o, some _⟩) n _ => (E.T e).bind fun k => match k.d with
      | .int .u8 => (bif Nat.beq n 0 then some [] else cellsAt A b o n).bind fun us => (bytesOf us).bind fun ns => some (.string (pushBytes ns), [b])
      | _ => none
    | _, _, _ => none

theorem slice_addr {ρ : Rn} {b o s n c : Nat} {x' : Value} (h : VR ρ (.slice (some ⟨b, o, some s⟩) n c) x') :
    ∃ p o' k', ρ b = some p ∧ x' = .slice (some ⟨p.blk, o', none⟩) n k' ∧ n ≤ k' ∧ k' ≤ maxLen ∧ (n ≠ 0 → o' = p.off + o) := by
  cases h with
  | sliceL _ o' _ _ k k' hp a1 a2 a3 a4 a5 => exact ⟨_, o', k', hp, rfl, by omega, a4, fun hn => a5.resolve_right (by omega)⟩
  | sliceE _ o' _ _ k hp a1 a2 a5 => exact ⟨_, o', k, hp, rfl, a1, a2, fun hn => a5.resolve_right (by omega)⟩

theorem vr_bytes {ρ : Rn} {ns : List Int} {vs : List Value} (h : AR ρ (ns.map (Value.int .u8)).toArray vs.toArray) : vs = ns.map (Value.int .u8) := by
  apply List.ext_getElem?
  intro j
  have hs := h.size
  simp at hs
  by_cases hj : j < vs.length
  · have h1 : vs[j]? = some vs[j] := List.getElem?_eq_getElem hj
    have h2 : (ns.map (Value.int .u8))[j]? = some (.int .u8 (ns[j]'(by omega))) := by
      rw [List.getElem?_map, List.getElem?_eq_getElem (by omega)]; rfl
    have := h.get j (.int .u8 (ns[j]'(by omega))) vs[j] (by rw [List.getElem?_toArray]; exact h2) (by rw [List.getElem?_toArray]; exact h1)
    rw [h1, h2]
    generalize vs[j] = q at this
    cases this
    rfl
  · rw [List.getElem?_eq_none (by omega), List.getElem?_eq_none (by simp; omega)]

theorem dstring_sound {P : Program} {E : Env} (hT : E.T.ok P) {ρ : Rn} {A : Hp} {w : World} (h : Rel P ρ A w) {s d : TypeId} {x x' v : Value} {l : List Nat} (hx : VR ρ x x')
    (hd : dstring E s d A x = some (v, l)) : ∃ v', VR ρ v v' ∧ (convert s d x').run P w = .ok v' w := by
  unfold dstring at hd
  obtain ⟨i, h1, hd⟩ := bind_some hd
  obtain ⟨j, h2, hd⟩ := bind_some hd
  split at hd
  · rename_i e hi hj _ _
    obtain ⟨k, h3, hd⟩ := bind_some hd
    split at hd
    · rename_i hk
      cases hd
      cases hx
      refine ⟨_, .string _, ?_⟩
      rw [run_convert_bytes_string w s d e none 0 0 (by rw [hT.und _ _ h1, hi]) (by rw [hT.und _ _ h3, hk]) (by rw [hT.und _ _ h2, hj])]
      simp [Conv.bytesToString]
    · cases hd
  · rename_i e hi hj _ _
    obtain ⟨k, h3, hd⟩ := bind_some hd
    split at hd
    · rename_i hk
      cases hd
      cases hx with
      | sliceZ a =>
      refine ⟨_, .string _, ?_⟩
      rw [run_convert_bytes_string w s d e (some a) 0 0 (by rw [hT.und _ _ h1, hi]) (by rw [hT.und _ _ h3, hk]) (by rw [hT.und _ _ h2, hj])]
      exact run_bytesToString w a 0 0 [] rfl
    · cases hd
  · rename_i e b o sz n c hi hj _ _
    obtain ⟨k, h3, hd⟩ := bind_some hd
    split at hd
    · rename_i hk
      obtain ⟨us, h4, hd⟩ := bind_some hd
      obtain ⟨ns, h5, hd⟩ := bind_some hd
      cases hd
      obtain ⟨p, o', k', hp, rfl, q1, q2, q3⟩ := slice_addr hx
      refine ⟨_, .string _, ?_⟩
      rw [run_convert_bytes_string w s d e _ n k' (by rw [hT.und _ _ h1, hi]) (by rw [hT.und _ _ h3, hk]) (by rw [hT.und _ _ h2, hj])]
      have e1 := bytesOf_eq h5
      subst e1
      refine run_bytesToString w _ n k' ns ?_
      cases hn : Nat.beq n 0 with
      | true =>
        rw [hn] at h4
        simp only [cond_true, Option.some.injEq] at h4
        have n0 : n = 0 := Nat.eq_of_beq_eq_true hn
        have : ns = [] := by
          cases ns with
          | nil => rfl
          | cons a r => simp at h4
        subst this; subst n0
        rfl
      | false =>
        rw [hn] at h4
        simp only [cond_false] at h4
        have n0 : n ≠ 0 := fun e => by rw [e] at hn; simp at hn
        obtain ⟨k1, k2, vs, k3, k4, k5, k6⟩ := cellsAt_sound h hp h4
        rw [q3 n0, ← vr_bytes k4, ← k3]
        exact run_loadCells_list w _ vs k6
    · cases hd
  · cases hd

end Go.Dn
end

section
namespace Go.Dn

/-! ## making memory -/
def oneCells (cs : List Value) : Bool := cs.all Value.oneCell'

theorem plain0_one {v : Value} (h : plain0 v = true) : v.oneCell' = true := by cases v <;> simp_all [plain0, Value.oneCell']

/-- the zero cells of n elements of a type -/
def Env.zeros (E : Env) (e : TypeId) (n : Nat) : Option (List Value) :=
  bif Nat.beq n 0 then some [] else (E.zcells e).map fun z => (List.replicate n z.toList).flatten

def dnew (E : Env) (σ : Sl) (o : Oper) : Option (Ob × (Nat → Value)) :=
  match o.op with
  | .alloc e => (E.zcells e).bind fun z => some (.arr e z.toList .own, fun i => .pointer (some ⟨i, 0, none⟩))
  | .box e x => (evO E σ x).bind fun v => bif oneCells v.cells.toList then some (.arr e v.cells.toList .own, fun i => .pointer (some ⟨i, 0, none⟩)) else none
  | .buildSlice t len parts => (E.T t).bind fun i => match i.d with
    | .slice e => (E.T e).bind fun j => if len * j.size ≤ 2 ^ 24 ∧ len ≤ maxLen then
        (E.zeros e len).bind fun z => if z.length = len * j.size then
        (dparts E σ parts.toList).bind fun l => (Instr.fill (fun k => some (k * j.size, j.size)) z.toArray l).bind fun cs =>
          bif oneCells cs.toList then some (.arr e cs.toList .own, fun i => .slice (some ⟨i, 0, some j.size⟩) len (2 * len + 1)) else none else none else none
    | _ => none
  | .makeSlice t l c => (E.T t).bind fun i => (evO E σ l).bind fun lv => (evO E σ c).bind fun cv => match i.d, lv, cv with
    | .slice e, .int _ m, .int _ n => (E.T e).bind fun j => if 0 ≤ m ∧ m ≤ n ∧ (j.bytes : Int) * n ≤ 281474976710656 ∧ n.toNat ≤ maxLen then
        (E.zeros e n.toNat).bind fun z => if z.length = n.toNat * j.size then some (.arr e z .own, fun i => .slice (some ⟨i, 0, some j.size⟩) m.toNat (2 * n.toNat + 1)) else none else none
    | _, _, _ => none
  | .makeMap t none => (E.T t).bind fun i => match i.d with
    | .map _ _ => some (.map [] .own, fun i => .map (some i))
    | _ => none
  | .convert s d x => (E.T s).bind fun i => (E.T d).bind fun j => (evO E σ x).bind fun v => match i.d, j.d, v with
    | .string, .slice e, .string b => (E.T e).bind fun k => match k.d with
      | .int .u8 => if b.size ≤ maxLen then some (.arr e (b.data.toList.map fun c => .int .u8 c.toNat) .own, fun i => .slice (some ⟨i, 0, some 1⟩) b.size (2 * b.size)) else none
      | _ => none
    | _, _, _ => none
  | _ => none

theorem newArr {P : Program} {ρ : Rn} {w1 : World} {n : Nat} (hn : w1.heap.size = n) (e : TypeId) (cs : List Value) (C : Array Value) (fz : Nat × Nat)
    (hl : cs.length ≤ C.size) (hf : ∀ j, j < C.size → (fz.1 ≤ j && j < fz.2) = false) (hfb : fz = (0, 0) ∨ (P.underlying e = some (.int .u8) ∧ fz.1 < fz.2)) (ho : ∀ u ∈ cs, u.oneCell' = true)
    (hc : ∀ (j : Nat) u, cs[j]? = some u → ∃ v, C[j]? = some v ∧ VR ρ u v) : ObR P ρ (w1.alloc (.cells C e fz)) ⟨n, 0, C.size⟩ (.arr e cs .own) := by
  refine .arr e cs .own C e fz ?_ (fun _ => ⟨rfl, hf, by simp, hfb⟩) hl fun j u hu => ⟨ho u (List.mem_of_getElem? hu), ?_⟩
  · subst hn; exact heap_alloc_new w1 _
  · obtain ⟨v, h1, h2⟩ := hc j u hu
    exact ⟨v, by simpa using h1, h2⟩

theorem nofz (n : Nat) : ∀ j, j < n → (((0, 0) : Nat × Nat).1 ≤ j && j < ((0, 0) : Nat × Nat).2) = false := by
  intro j _; simp

theorem run_v' {P : Program} {s : Sem Value} {v : Value} {w w' : World} (h : s.run P w = .ok v w') : (do pure (Next.value (← s)) : Sem Next).run P w = .ok (.value v) w' := by
  simp [h]

theorem flatten_rep {α : Type} [Inhabited α] (z : List α) (n j : Nat) (_hz : 0 < z.length) (hj : j < n * z.length) : (List.replicate n z).flatten[j]? = some z[j % z.length]! := by
  induction n generalizing j with
  | zero => omega
  | succ n ih =>
    rw [List.replicate_succ, List.flatten_cons, List.getElem?_append]
    by_cases h : j < z.length
    · rw [if_pos h, Nat.mod_eq_of_lt h, List.getElem?_eq_getElem h, getElem!_pos z j h]
    · rw [if_neg h, ih (j - z.length) (by rw [Nat.add_mul] at hj; omega)]
      congr 2
      rw [← Nat.mod_eq_sub_mod (by omega)]

theorem zeros_made {P : Program} {E : Env} (hT : E.T.ok P) {e : TypeId} {n : Nat} {z : List Value} (h : E.zeros e n = some z) {j : TI} (_hj : E.T e = some j) (hl : z.length = n * j.size) :
    z.all plain0 = true ∧ ∃ zc : Array Value, (n * j.size ≠ 0 → ∃ x v, P.info? e = some x ∧ x.zero = some v ∧ v.cells = zc) ∧
      (Array.range (n * j.size)).map (zc[· % zc.size]!) = z.toArray := by
  unfold Env.zeros at h
  cases hn : Nat.beq n 0 with
  | true =>
    rw [hn] at h; cases h
    have n0 : n = 0 := Nat.eq_of_beq_eq_true hn
    subst n0
    exact ⟨rfl, #[], fun hh => absurd (Nat.zero_mul _) hh, by simp⟩
  | false =>
    rw [hn] at h
    simp only [cond_false] at h
    cases hz : E.zcells e with
    | none => rw [hz] at h; cases h
    | some zc =>
      rw [hz] at h; cases h
      obtain ⟨x, v, h1, h2, h3, h4⟩ := zcells_sound hT hz
      refine ⟨?_, zc, fun _ => ⟨x, v, h1, h2, h3⟩, ?_⟩
      · rw [List.all_eq_true] at h4 ⊢
        intro u hu
        obtain ⟨l, hl1, hl2⟩ := List.mem_flatten.1 hu
        rw [List.mem_replicate] at hl1
        rw [hl1.2] at hl2
        exact h4 u hl2
      · have hlen : (List.replicate n zc.toList).flatten.length = n * zc.size := by
          clear hl; induction n with
          | zero => simp
          | succ n ih => simp
        have hsz : n * zc.size = n * j.size := by rw [← hlen]; exact hl
        apply Array.ext_getElem?
        intro q
        by_cases hq : q < n * j.size
        · have hpos : 0 < zc.toList.length := by
            rcases Nat.eq_zero_or_pos zc.size with h0 | h0
            · rw [h0, Nat.mul_zero] at hsz; omega
            · simpa using h0
          rw [Array.getElem?_map, Array.getElem?_range]
          simp only [hq, if_true, Option.map_some, List.getElem?_toArray]
          rw [flatten_rep zc.toList n q hpos (by simpa [hsz] using hq)]
          simp [getElem!_def, Array.getElem?_toList]
        · rw [Array.getElem?_eq_none (by simpa using hq), Array.getElem?_eq_none (by simp only [List.size_toArray, hlen]; omega)]

theorem dnew_sound {P : Program} {E : Env} (hT : E.T.ok P) {ρ : Rn} {N : Nat} {ds : List Deferred} {σ : Sl} {a : Act} (h : SR P E ρ N ds σ a) {o : Oper} {ob : Ob} {mk : Nat → Value} (w : World)
    (hd : dnew E σ o = some (ob, mk)) :
    ∃ p O w1 v', (w1 = w ∨ w1 = w.drew) ∧ p.blk = w.heap.size ∧ (execOp a.eval o).run P w = .ok (.value v') (w1.alloc O) ∧
      ∀ i, ρ i = none → VR (ρ.add i p) (mk i) v' ∧ ObR P (ρ.add i p) (w1.alloc O) p ob ∧ ob.md = .own := by
  unfold dnew at hd
  unfold execOp
  split at hd
  · -- alloc
    rename_i e ho
    obtain ⟨z, h1, hd⟩ := bind_some hd
    cases hd
    obtain ⟨x, v, k1, k2, k3, k4⟩ := zcells_sound hT h1
    refine ⟨⟨w.heap.size, 0, z.size⟩, .cells z e, w, .pointer (some ⟨w.heap.size, 0, none⟩), .inl rfl, rfl, ?_, fun i hi => ⟨?_, ?_, rfl⟩⟩
    · rw [ho]
      simp only [Instr.alloc, zeroValue, typeInfo, k1, k2, Sem.run_bind, Sem.run_pure, Result.andThen_ok, run_program, newVar, newRow, k3, run_newObj]
      rfl
    · exact .ptr 0 (Rn.add_same _ _ _)
    · refine newArr rfl e _ z (0, 0) (by simp) (nofz _) (.inl rfl) (fun u hu => ?_) (fun j u hu => ⟨u, by simpa using hu, ?_⟩)
      · rw [List.all_eq_true] at k4; exact plain0_one (k4 u hu)
      · rw [List.all_eq_true] at k4; exact plain0_vr (k4 u (List.mem_of_getElem? hu))
  · -- box
    rename_i e x ho
    obtain ⟨v, h1, hd⟩ := bind_some hd
    cases hb : oneCells v.cells.toList with
    | false => rw [hb] at hd; cases hd
    | true =>
      rw [hb] at hd; cases hd
      have hv := evO_sound h h1
      have hc := hv.cells
      refine ⟨⟨w.heap.size, 0, (a.eval x).cells.size⟩, .cells (a.eval x).cells e, w, .pointer (some ⟨w.heap.size, 0, none⟩), .inl rfl, rfl, ?_, fun i hi => ⟨?_, ?_, rfl⟩⟩
      · rw [ho]
        simp only [Instr.box, Sem.run_bind, Sem.run_pure, Result.andThen_ok, newVar, newRow, run_newObj]
        rfl
      · exact .ptr 0 (Rn.add_same _ _ _)
      · refine newArr rfl e _ _ (0, 0) (by simp [hc.size]) (nofz _) (.inl rfl) (fun u hu => ?_) (fun j u hu => ?_)
        · simp only [oneCells, List.all_eq_true] at hb; exact hb u hu
        · obtain ⟨v', q1, q2⟩ := hc.some (j := j) (u := u) (by simpa using hu)
          exact ⟨v', q1, q2.le (Rn.le_add _ hi)⟩
  · -- buildSlice
    rename_i t len parts ho
    obtain ⟨i0, h1, hd⟩ := bind_some hd
    split at hd
    · rename_i e hi0
      obtain ⟨j, h2, hd⟩ := bind_some hd
      split at hd
      · rename_i hlim
        obtain ⟨z, h3, hd⟩ := bind_some hd
        split at hd
        · rename_i hzl
          obtain ⟨l, h4, hd⟩ := bind_some hd
          obtain ⟨cs, h5, hd⟩ := bind_some hd
          cases hb : oneCells cs.toList with
          | false => rw [hb] at hd; cases hd
          | true =>
            rw [hb] at hd; cases hd
            obtain ⟨zp, zc, z1, z2⟩ := zeros_made hT h3 h2 hzl
            obtain ⟨cs', f1, f2⟩ := fill_sound (ρ := ρ) (dparts_sound h h4) (AR.refl_plain (as := z.toArray) (by simpa using zp)) h5
            refine ⟨⟨w.heap.size, 0, cs'.size⟩, .cells cs' e, w, .slice (some ⟨w.heap.size, 0, none⟩) len len, .inl rfl, rfl, ?_, fun i hi => ⟨?_, ?_, rfl⟩⟩
            · rw [ho]
              refine run_v' ?_
              have e0 : ((parts.map fun (i, x) => (i, a.eval x)).toList) = parts.toList.map fun (i, x) => (i, a.eval x) := by simp
              have hnl : ¬ (len * j.size > 2 ^ 24) := by omega
              by_cases hq : len * j.size = 0
              · have hz2 : (Array.range (len * j.size)).map ((#[] : Array Value)[· % (#[] : Array Value).size]!) = z.toArray := by
                  rw [← z2, hq]; simp
                simp only [Instr.buildSlice, Sem.run_bind, run_und hT h1, hi0, Result.andThen_ok, run_size hT h2, if_neg hnl, Sem.run_pure, if_pos hq, hz2, e0, f1, newRow, run_newObj]
                rfl
              · obtain ⟨y, v, y1, y2, y3⟩ := z1 hq
                have hz2 : (zeroValue e).run P w = .ok v w := by simp [zeroValue, typeInfo, y1, y2]
                simp only [Instr.buildSlice, Sem.run_bind, run_und hT h1, hi0, Result.andThen_ok, run_size hT h2, if_neg hnl, Sem.run_pure, if_neg hq, hz2, y3, z2, e0, f1, newRow, run_newObj]
                rfl
            · exact .sliceE 0 0 j.size len len (Rn.add_same _ _ _) (Nat.le_refl _) hlim.2 (.inl rfl)
            · refine newArr rfl e _ _ (0, 0) (by simp [f2.size]) (nofz _) (.inl rfl) (fun u hu => ?_) (fun k u hu => ?_)
              · simp only [oneCells, List.all_eq_true] at hb; exact hb u hu
              · obtain ⟨v', q1, q2⟩ := f2.some (j := k) (u := u) (by simpa using hu)
                exact ⟨v', q1, q2.le (Rn.le_add _ hi)⟩
        · cases hd
      · cases hd
    · cases hd
  · -- makeSlice
    rename_i t l c ho
    obtain ⟨i0, h1, hd⟩ := bind_some hd
    obtain ⟨lv, h2, hd⟩ := bind_some hd
    obtain ⟨cv, h3, hd⟩ := bind_some hd
    split at hd
    · rename_i e k1 m k2 n hi0 _
      obtain ⟨j, h4, hd⟩ := bind_some hd
      split at hd
      · rename_i hlim
        obtain ⟨l1, l2, l3, l4⟩ := hlim
        obtain ⟨z, h5, hd⟩ := bind_some hd
        split at hd
        · rename_i hzl
          cases hd
          obtain ⟨zp, zc, z1, z2⟩ := zeros_made hT h5 h4 hzl
          have hl := evO_sound h h2
          have hc := evO_sound h h3
          generalize hg1 : a.eval l = l' at hl
          generalize hg2 : a.eval c = c' at hc
          cases hl; cases hc
          obtain ⟨x, x1, x2, x3, x4⟩ := hT.info _ _ h4
          refine ⟨⟨w.heap.size, 0, z.toArray.size⟩, .cells z.toArray e, w, .slice (some ⟨w.heap.size, 0, none⟩) m.toNat n.toNat, .inl rfl, rfl, ?_, fun i hi => ⟨?_, ?_, rfl⟩⟩
          · rw [ho]
            refine run_v' ?_
            rw [hg1, hg2]
            have wl : IntKind.i64.wrap m = m := by rw [IntKind.wrap_i64]; unfold maxLen at l4; omega
            have wc : IntKind.i64.wrap n = n := by rw [IntKind.wrap_i64]; unfold maxLen at l4; omega
            have hb : ((n < 0 || (x.bytes : Int) * n > 2 ^ 48) || m < 0 || m > n) = false := by
              rw [x3]
              simp only [Bool.or_eq_false_iff, decide_eq_false_iff_not]
              refine ⟨⟨⟨by omega, ?_⟩, by omega⟩, by omega⟩
              have : (2 : Int) ^ 48 = 281474976710656 := by decide
              omega
            by_cases hq : n.toNat * j.size = 0
            · have hz2 : (Array.range (n.toNat * j.size)).map ((#[] : Array Value)[· % (#[] : Array Value).size]!) = z.toArray := by
                rw [← z2, hq]; simp
              simp only [Instr.makeSlice, Sem.run_bind, run_und hT h1, hi0, Result.andThen_ok, asInt, asIntOf, Sem.run_pure, typeInfo, run_program, x1, wl, wc, hb, Bool.false_eq_true, if_false, run_askRoom, run_size hT h4, if_pos hq, hz2, newRow, run_newObj]
              rfl
            · obtain ⟨y, v, y1, y2, y3⟩ := z1 hq
              have hz2 : (zeroValue e).run P w = .ok v w := by simp [zeroValue, typeInfo, y1, y2]
              simp only [Instr.makeSlice, Sem.run_bind, run_und hT h1, hi0, Result.andThen_ok, asInt, asIntOf, Sem.run_pure, typeInfo, run_program, x1, wl, wc, hb, Bool.false_eq_true, if_false, run_askRoom, run_size hT h4, if_neg hq, hz2, y3, z2, newRow, run_newObj]
              rfl
          · exact .sliceE 0 0 j.size m.toNat n.toNat (Rn.add_same _ _ _) (by omega) l4 (.inl rfl)
          · refine newArr rfl e _ _ (0, 0) (by simp) (nofz _) (.inl rfl) (fun u hu => ?_) (fun q u hu => ⟨u, by simpa using hu, ?_⟩)
            · rw [List.all_eq_true] at zp; exact plain0_one (zp u hu)
            · rw [List.all_eq_true] at zp; exact plain0_vr (zp u (List.mem_of_getElem? hu))
        · cases hd
      · cases hd
    · cases hd
  · -- makeMap
    rename_i t ho
    obtain ⟨i0, h1, hd⟩ := bind_some hd
    split at hd
    · rename_i kt et hi0
      cases hd
      refine ⟨⟨w.heap.size, 0, 0⟩, .map #[] 0, w, .map (some w.heap.size), .inl rfl, rfl, ?_, fun i hi => ⟨?_, ?_, rfl⟩⟩
      · rw [ho]
        refine run_v' ?_
        simp only [Instr.makeMap, Sem.run_bind, Option.map_none, Sem.run_pure, Result.andThen_ok, run_newObj]
        rfl
      · exact .map (p := ⟨w.heap.size, 0, 0⟩) (Rn.add_same _ _ _)
      · exact .map [] .own #[] 0 (heap_alloc_new w _) rfl (fun j x hx => by simp at hx)
    · cases hd
  · -- a string's bytes
    rename_i s d x ho
    obtain ⟨i, h1, hd⟩ := bind_some hd
    obtain ⟨j, h2, hd⟩ := bind_some hd
    obtain ⟨v, h3, hd⟩ := bind_some hd
    split at hd
    · rename_i e b hi hj
      obtain ⟨k, h4, hd⟩ := bind_some hd
      split at hd
      · rename_i hk
        split at hd
        · rename_i hlen
          cases hd
          have hx := evO_sound h h3
          generalize hg : a.eval x = x' at hx
          cases hx
          have hcut : b.size ≤ (Question.appendCap b.size 0 e).cut (w.tape w.drawn (.appendCap b.size 0 e)) := by simp [Question.cut]
          have hcm : (Question.appendCap b.size 0 e).cut (w.tape w.drawn (.appendCap b.size 0 e)) ≤ maxLen := grownCap_le_maxLen w b.size 0 e hlen
          generalize hcap : (Question.appendCap b.size 0 e).cut (w.tape w.drawn (.appendCap b.size 0 e)) = cap at hcut hcm
          have hsz : ((b.data.map fun (c : UInt8) => Value.int .u8 (c.toNat : Int)) ++ Array.replicate (cap - b.size) (Value.int .u8 0)).size = cap := by
            simp only [Array.size_append, Array.size_map, Array.size_replicate]
            have : b.data.size = b.size := rfl
            omega
          generalize hC : (b.data.map fun (c : UInt8) => Value.int .u8 (c.toNat : Int)) ++ Array.replicate (cap - b.size) (Value.int .u8 0) = C at hsz
          refine ⟨⟨w.heap.size, 0, C.size⟩, .cells C e (cap, cap + 1), w.drew, .slice (some ⟨w.heap.size, 0, none⟩) b.size cap, .inr rfl, rfl, ?_, fun i hi => ⟨?_, ?_, rfl⟩⟩
          · rw [ho]
            refine run_v' ?_
            rw [hg]
            simp only [convert, Sem.run_bind, run_und hT h1, run_und hT h2, run_und hT h4, ‹_ = TypeDesc.string›, hj, hk, Result.andThen_ok, Conv.stringToBytes, run_choose, Question.forced, Bool.false_eq_true, if_false, hcap, hC, newRow, run_newObj, Sem.run_pure, markStringish, run_shape]
            have hsh : ({ w.drew with heap := w.drew.heap.push (Obj.cells C e) } : World).shape? w.heap.size = some (e, cap) := by
              have hh : ({ w.drew with heap := w.drew.heap.push (Obj.cells C e) } : World).heap[w.heap.size]? = some (.cells C e (0, 0)) := heap_alloc_new w.drew _
              simp only [World.shape?, hh, hsz]
            have hfr : ({ w.drew with heap := w.drew.heap.push (Obj.cells C e) } : World).freeze ⟨w.heap.size, cap, none⟩ 1 = w.drew.alloc (.cells C e (cap, cap + 1)) := by
              unfold World.freeze World.alloc World.drew
              rw [if_neg (by omega)]
              congr 1
              apply Array.ext_getElem?
              intro q
              rw [Array.getElem?_modify, Array.getElem?_push, Array.getElem?_push]
              by_cases hq : q = w.heap.size
              · subst hq; simp
              · rw [if_neg hq, if_neg (fun e => hq e.symm), if_neg hq]
            have hsh' : (w.drew.alloc (.cells C e)).shape? w.heap.size = some (e, cap) := hsh
            have hfr' : (w.drew.alloc (.cells C e)).freeze ⟨w.heap.size, cap, none⟩ 1 = w.drew.alloc (.cells C e (cap, cap + 1)) := hfr
            rw [← hfr']
            change Result.andThen (Sem.run P (match (w.drew.alloc (Obj.cells C e)).shape? w.heap.size with | some (_, n) => freeze ⟨w.heap.size, n, none⟩ 1 | _ => pure ()) (w.drew.alloc (Obj.cells C e))) _ = _
            rw [hsh']
            rfl
          · exact .sliceL 0 0 1 b.size b.size cap (Rn.add_same _ _ _) (Nat.le_refl _) hcut (by simp [hsz]) hcm (.inl rfl)
          · refine newArr (w1 := w.drew) rfl e _ C (cap, cap + 1) (by simp [hsz]; exact hcut) (fun j hj => by simp; omega) (.inr ⟨by rw [hT.und _ _ h4, hk], by simp⟩) (fun u hu => ?_) (fun q u hu => ⟨u, ?_, ?_⟩)
            · obtain ⟨c, _, rfl⟩ := List.mem_map.1 hu; rfl
            · rw [← hC, Array.getElem?_append, if_pos (by have := (List.getElem?_eq_some_iff.1 hu).1; simpa using this)]
              simpa using hu
            · obtain ⟨c, _, rfl⟩ := List.mem_map.1 (List.mem_of_getElem? hu); exact .int _ _
        · cases hd
      · cases hd
    · cases hd
  · cases hd

end Go.Dn
end

section
namespace Go.Dn

/-! ## writing memory -/
def setCellsAt (A : Hp) (i o : Nat) (us : List Value) : Option Hp :=
  match A.get i with
  | some (.arr T cs .own) => if o + us.length ≤ cs.length then some (A.set i (some (.arr T (cs.take o ++ us ++ cs.drop (o + us.length)) .own))) else none
  | _ => none

theorem run_storeCells_own (P : Program) (g o : Nat) (t : TypeId) (fz : Nat × Nat) (n : Nat) (hfz : ∀ j, j < n → (fz.1 ≤ j && j < fz.2) = false) : ∀ (vs : List Value) (i : Nat) (cur : Array Value) (w : World),
    cur.size = n → w.heap[g]? = some (.cells cur t fz) → o + i + vs.length ≤ cur.size → (∀ v ∈ vs, v.oneCell' = true) →
    (storeCells ⟨g, o, none⟩ vs i).run P w = .ok () (w.setRow g (cur.toList.take (o + i) ++ vs ++ cur.toList.drop (o + i + vs.length)).toArray)
  | [], i, cur, w, _, hg, _, _ => by
    simp only [storeCells, List.append_nil, List.length_nil, Nat.add_zero, List.take_append_drop, Array.toArray_toList]
    rw [setRow_self w g cur t fz hg]
    rfl
  | v :: rest, i, cur, w, hn, hg, hl, h1 => by
    have hi : o + i < cur.size := by simp at hl; omega
    have hcell : w.cell? ⟨g, o + i, none⟩ = some cur[o + i] := by simp [World.cell?, hg, hi]
    have hfro : w.frozen? ⟨g, o + i, none⟩ = false := by
      obtain ⟨lo, hi'⟩ := fz
      simp only [World.frozen?, hg]
      exact hfz (o + i) (by omega)
    have hst : (store ((⟨g, o, none⟩ : Addr).add i) v).run P w = .ok () (w.setRow g (cur.setIfInBounds (o + i) v)) := by
      rw [addr_add, run_store P w _ v _ (h1 v (by simp)), hcell]
      simp [hfro, setCell_eq_setRow w g (o + i) cur t fz v hg]
    have ih := run_storeCells_own P g o t fz n hfz rest (i + 1) (cur.setIfInBounds (o + i) v) (w.setRow g (cur.setIfInBounds (o + i) v)) (by simpa using hn) (setRow_heap w g cur _ t _ hg) (by simp at hl ⊢; omega) (fun x hx => h1 x (by simp [hx]))
    simp only [storeCells, Sem.run_bind, hst, Result.andThen_ok, ih, setRow_setRow]
    congr 3
    have e := list_seg_step cur.toList (o + i) v rest (by simp at hl ⊢; omega)
    simpa [Array.toList_setIfInBounds, Nat.add_assoc] using e

theorem setCellsAt_sound {P : Program} {ρ : Rn} {A A' : Hp} {w : World} (h : Rel P ρ A w) {i o : Nat} {p : Pl} {us vs : List Value} (hp : ρ i = some p)
    (hs : setCellsAt A i o us = some A') (h1 : ∀ u ∈ us, u.oneCell' = true) (hv : AR ρ us.toArray vs.toArray) :
    ∃ w', (storeCells ⟨p.blk, p.off + o, none⟩ vs).run P w = .ok () w' ∧ Rel P ρ A' w' ∧ Ext A ρ w A' ρ w' := by
  unfold setCellsAt at hs
  split at hs
  · rename_i T cs hg
    split at hs
    · rename_i hl
      cases hs
      obtain ⟨q, hq, hob⟩ := h.obj i _ hg
      rw [hp] at hq; cases hq
      cases hob with
      | arr _ _ _ C T' fz hb hT hll hcc =>
        obtain ⟨e1, e2, e3, e9⟩ := hT (by simp)
        have hlen : vs.length = us.length := by simpa using hv.size.symm
        have hrun := run_storeCells_own P p.blk (p.off + o) T' fz C.size e2 vs 0 C w rfl hb (by omega) (fun v hvm => by
          obtain ⟨j, hj⟩ := List.getElem?_of_mem hvm
          have hjl : j < us.length := by have := (List.getElem?_eq_some_iff.1 hj).1; omega
          have := hv.get j us[j] v (by simp [hjl]) (by simpa using hj)
          rw [this.oneCell]; exact h1 _ (List.getElem_mem hjl))
        refine ⟨_, hrun, ?_⟩
        have hch := h.change (i := i) (o := .arr T cs .own) (.arr T (cs.take o ++ us ++ cs.drop (o + us.length)) .own) hg hp rfl rfl
          (w.setRow p.blk (C.toList.take (p.off + o + 0) ++ vs ++ C.toList.drop (p.off + o + 0 + vs.length)).toArray) (by simp) (fun b hbn => setRow_other w p.blk b _ hbn) ?_ rfl rfl rfl
        · exact hch
        · have hcsl : (cs.take o ++ us ++ cs.drop (o + us.length)).length = cs.length := by simp; omega
          have hCl : (C.toList.take (p.off + o + 0) ++ vs ++ C.toList.drop (p.off + o + 0 + vs.length)).length = C.size := by simp; omega
          refine .arr T _ .own _ T' fz (setRow_heap w p.blk C _ T' fz hb) (fun _ => ⟨e1, fun j hj => e2 j (by rw [List.size_toArray, hCl] at hj; exact hj), by simp only [List.size_toArray, hCl]; exact e3, e9⟩) (by rw [hcsl]; exact hll) ?_
          intro j u hu
          have hjl : j < cs.length := by
            have := (List.getElem?_eq_some_iff.1 hu).1
            omega
          rw [List.getElem?_append, List.getElem?_append] at hu
          simp only [List.length_append, List.length_take] at hu
          rw [List.getElem?_toArray, List.getElem?_append, List.getElem?_append]
          simp only [List.length_append, List.length_take, Array.length_toList]
          by_cases c1 : j < o
          · rw [if_pos (by omega), if_pos (by omega), List.getElem?_take, if_pos c1] at hu
            rw [if_pos (by omega), if_pos (by omega), List.getElem?_take, if_pos (by omega)]
            obtain ⟨k1, v, k2, k3⟩ := hcc j u hu
            exact ⟨k1, v, by simpa using k2, k3⟩
          · by_cases c2 : j < o + us.length
            · rw [if_pos (by omega), if_neg (by omega)] at hu
              rw [if_pos (by omega), if_neg (by omega)]
              have e4 : p.off + j - min (p.off + o + 0) C.size = j - min o cs.length := by omega
              rw [e4]
              have hjv : j - min o cs.length < vs.length := by omega
              refine ⟨h1 u (List.mem_of_getElem? hu), vs[j - min o cs.length], List.getElem?_eq_getElem hjv, hv.get _ u _ (by rw [List.getElem?_toArray]; exact hu) (by rw [List.getElem?_toArray]; exact List.getElem?_eq_getElem hjv)⟩
            · rw [if_neg (by omega), List.getElem?_drop] at hu
              rw [if_neg (by omega), List.getElem?_drop]
              have e4 : o + us.length + (j - (min o cs.length + us.length)) = j := by omega
              rw [e4] at hu
              have e5 : p.off + o + 0 + vs.length + (p.off + j - (min (p.off + o + 0) C.size + vs.length)) = p.off + j := by omega
              rw [e5]
              obtain ⟨k1, v, k2, k3⟩ := hcc j u hu
              exact ⟨k1, v, by simpa using k2, k3⟩
    · cases hs
  · cases hs

def dstore (E : Env) (t : TypeId) (A : Hp) (x v : Value) : Option Hp :=
  (E.T t).bind fun i => match x with
    | .pointer (some ⟨b, o, none⟩) => if v.cells.size = i.size ∧ oneCells v.cells.toList = true then setCellsAt A b o v.cells.toList else none
    | _ => none

theorem dstore_sound {P : Program} {E : Env} (hT : E.T.ok P) {ρ : Rn} {A A' : Hp} {w : World} (h : Rel P ρ A w) {t : TypeId} {x x' v v' : Value} (hx : VR ρ x x') (hv : VR ρ v v')
    (hd : dstore E t A x v = some A') : ∃ w', (Instr.storeAt t x' v').run P w = .ok () w' ∧ Rel P ρ A' w' ∧ Ext A ρ w A' ρ w' := by
  unfold dstore at hd
  obtain ⟨i, h1, hd⟩ := bind_some hd
  split at hd
  · rename_i b o
    cases hx with
    | ptr _ hp =>
    split at hd
    · rename_i hc
      have hcells := hv.cells
      obtain ⟨w', r1, r2, r3⟩ := setCellsAt_sound h hp hd (us := v.cells.toList) (vs := v'.cells.toList) (fun u hu => by
        have := hc.2; simp only [oneCells, List.all_eq_true] at this; exact this u hu) ⟨by simpa using hcells.size, fun j a b ha hb => hcells.get j a b (by simpa using ha) (by simpa using hb)⟩
      refine ⟨w', ?_, r2, r3⟩
      have hne : ¬ (v'.cells.size ≠ i.size) := by rw [← hcells.size]; simp [hc.1]
      simp only [Instr.storeAt, Instr.sureAddr, Sem.run_bind, Sem.run_pure, Result.andThen_ok, storeVar, run_size hT h1, if_neg hne]
      exact r1
    · cases hd
  · cases hd

/-! ## append -/
/-- the cells of a slice's elements (or of a string's bytes), size cells each -/
def elemsOf (A : Hp) (size : Nat) (x : Value) : Option (Nat × List Value) :=
  match x with
  | .slice none 0 0 => some (0, [])
  | .slice none 0 1 => some (0, [])
  | .slice (some ⟨b, o, some s⟩) m _ => if s = size then (bif Nat.beq m 0 then some (0, []) else (cellsAt A b o (m * size)).map fun us => (m, us)) else none
  | _ => none

theorem elemsOf_sound {P : Program} {ρ : Rn} {A : Hp} {w : World} (h : Rel P ρ A w) {size m : Nat} {x x' : Value} {us : List Value} (hx : VR ρ x x') (he : elemsOf A size x = some (m, us)) :
    us.length = m * size ∧ (∀ u ∈ us, u.oneCell' = true) ∧ ∃ vs : List Value, vs.length = m * size ∧ AR ρ us.toArray vs.toArray ∧ (∀ v ∈ vs, v.oneCell' = true) ∧
      (∀ W : World, (Builtin.lenOf x').run P W = .ok m W) ∧ (∀ W : World, W.heap = w.heap → (Builtin.firstCells size m x').run P W = .ok vs.toArray W) ∧
      ∀ ad n k, x' = .slice (some ad) n k → ∀ (j : Nat) v, vs[j]? = some v → w.cell? (ad.add j) = some v := by
  unfold elemsOf at he
  split at he
  · cases he
    cases hx
    exact ⟨by simp, by simp, [], by simp, ⟨rfl, by simp⟩, by simp, fun W => rfl, fun W _ => rfl, by simp⟩
  · cases he
    cases hx with
    | sliceZ a =>
    refine ⟨by simp, by simp, [], by simp, ⟨rfl, by simp⟩, by simp, fun W => rfl, fun W _ => ?_, by simp⟩
    simp only [Builtin.firstCells, Nat.zero_mul]
    rfl
  · rename_i b o s n c
    split at he
    · rename_i hs
      obtain ⟨p, o', k', hp, rfl, q1, q2, q3⟩ := slice_addr hx
      cases hn : Nat.beq n 0 with
      | true =>
        rw [hn] at he; cases he
        have n0 : n = 0 := Nat.eq_of_beq_eq_true hn
        subst n0
        refine ⟨by simp, by simp, [], by simp, ⟨rfl, by simp⟩, by simp, fun W => rfl, fun W _ => ?_, by simp⟩
        simp only [Builtin.firstCells, Nat.zero_mul]
        rfl
      | false =>
        rw [hn] at he
        simp only [cond_false] at he
        have n0 : n ≠ 0 := fun e => by rw [e] at hn; simp at hn
        cases hc : cellsAt A b o (n * size) with
        | none => rw [hc] at he; cases he
        | some us' =>
          rw [hc] at he; cases he
          obtain ⟨k1, k2, vs, k3, k4, k5, k6⟩ := cellsAt_sound h hp hc
          refine ⟨k1, k2, vs, k3, k4, k5, fun W => rfl, fun W hW => ?_, fun ad n k e => by cases e; rw [q3 n0]; exact k6⟩
          rw [q3 n0]
          exact run_firstCells_some W size _ _ _ k' vs k3 (fun j v hv => by
            have := k6 j v hv
            rw [← this]
            exact World.cell?_of_block (by rw [hW]))
    · cases he
  · cases he

def dappend (E : Env) (t t2 : TypeId) (A : Hp) (s x : Value) : Option (Value × Hp) :=
  (E.T t).bind fun i => (E.T t2).bind fun i2 => match i.d, i2.d with
    | .slice e, .slice _ => (E.T e).bind fun j => (j.zero).bind fun z => (elemsOf A j.size x).bind fun (m, ys) =>
      bif Nat.beq m 0 then (match s with
        | .slice none 0 0 => some (s, A)
        | .slice (some ⟨_, _, some _⟩) _ _ => some (s, A)
        | _ => none)
      else if z.cells.size = j.size ∧ 0 < j.size then
        match s with
        | .slice none 0 0 => if m ≤ maxLen ∧ m * j.bytes ≤ 140737488355328 then some (.slice (some ⟨A.next, 0, some j.size⟩) m (2 * m), A.push (.arr e ys .own)) else none
        | .slice (some ⟨b, o, some sz⟩) n c =>
          if sz = j.size ∧ n + m ≤ maxLen ∧ (n + m) * j.bytes ≤ 140737488355328 then
            if n + m ≤ c / 2 then (setCellsAt A b (o + n * sz) ys).map fun A' => (.slice (some ⟨b, o, some sz⟩) (n + m) c, A')
            else (elemsOf A j.size s).bind fun (_, olds) =>
              if c % 2 = 1 then some (.slice (some ⟨A.next, 0, some sz⟩) (n + m) (2 * (n + m)), A.push (.arr e (olds ++ ys) .own))
              else match A.get b with
                | some (.arr T _ .own) => if T = e then some (.slice (some ⟨A.next, 0, some sz⟩) (n + m) (2 * (n + m)), (A.set b none).push (.arr e (olds ++ ys) .own)) else none
                | _ => none
          else none
        | _ => none
      else none
    | _, _ => none

theorem run_append_in {P : Program} (w w' : World) (t t2 ty e e2 : TypeId) (i : TypeInfo) (ht : P.underlying t = some (.slice e)) (ht2 : P.underlying t2 = some (.slice e2)) (hi : P.info? e = some i)
    (b : Addr) (n k m : Nat) (x : Value) (vs : List Value) (hx : ∀ W : World, (Builtin.lenOf x).run P W = .ok m W) (hf : (Builtin.firstCells i.size m x).run P w = .ok vs.toArray w)
    (hroom : n + m ≤ k) (hst : (storeCells (b.add (n * i.size)) vs).run P w = .ok () w') :
    (Builtin.append_ #[t, t2] ty #[.slice (some b) n k, x]).run P w = .ok (.slice (some b) (n + m) k) w' := by
  simp [Builtin.append_, run_underlying ht, run_underlying ht2, sizeOf, typeInfo, hi, hx, hroom, hf, hst]

theorem run_append_in0 {P : Program} (w : World) (t t2 ty e e2 : TypeId) (i : TypeInfo) (ht : P.underlying t = some (.slice e)) (ht2 : P.underlying t2 = some (.slice e2)) (hi : P.info? e = some i)
    (b : Option Addr) (n k : Nat) (x : Value) (hx : ∀ W : World, (Builtin.lenOf x).run P W = .ok 0 W) (hf : (Builtin.firstCells i.size 0 x).run P w = .ok #[] w)
    (hroom : n ≤ k) :
    (Builtin.append_ #[t, t2] ty #[.slice b n k, x]).run P w = .ok (.slice b n k) w := by
  cases b with
  | none => simp [Builtin.append_, run_underlying ht, run_underlying ht2, sizeOf, typeInfo, hi, hx, hroom, hf]
  | some b => simp [Builtin.append_, run_underlying ht, run_underlying ht2, sizeOf, typeInfo, hi, hx, hroom, hf, storeCells]

theorem run_append_out {P : Program} (w : World) (t t2 ty e e2 : TypeId) (i : TypeInfo) (z : Value) (ht : P.underlying t = some (.slice e)) (ht2 : P.underlying t2 = some (.slice e2)) (hi : P.info? e = some i) (hz : i.zero = some z)
    (b : Option Addr) (n k m : Nat) (x : Value) (olds vs : List Value) (hx : ∀ W : World, (Builtin.lenOf x).run P W = .ok m W) (hf : (Builtin.firstCells i.size m x).run P w.drew = .ok vs.toArray w.drew)
    (ho : (Builtin.firstCells i.size n (.slice b n k)).run P w.drew = .ok olds.toArray w.drew)
    (hg : k < n + m) (h63 : n + m ≤ maxLen) (hfit : (n + m) * i.bytes ≤ 140737488355328) :
    (Builtin.append_ #[t, t2] ty #[.slice b n k, x]).run P w = .ok (.slice (some ⟨w.heap.size, 0, none⟩) (n + m) (grownCap w (n + m) k e))
        (w.drew.alloc (.cells (olds.toArray ++ vs.toArray ++ Builtin.zeroCells z.cells (grownCap w (n + m) k e - (n + m))) e)) := by
  have hn : ¬ (n + m ≤ k) := by omega
  have h63' : ¬ (9223372036854775807 < ((n : Int) + (m : Int))) := by unfold maxLen at h63; omega
  have h48' : ¬ (281474976710656 < Builtin.nextslicecap (n + m) k * i.bytes) := by have := growslice_fits hg hfit; omega
  simp [Builtin.append_, run_underlying ht, run_underlying ht2, sizeOf, typeInfo, zeroValue, hi, hz, hx, hn, h63', h48', Question.forced, hf, ho, newRow, grownCap]
  congr 2
  apply Array.ext'
  simp [List.append_assoc]

theorem AR.append {ρ : Rn} {a b c d : List Value} (h : AR ρ a.toArray b.toArray) (g : AR ρ c.toArray d.toArray) : AR ρ (a ++ c).toArray (b ++ d).toArray := by
  have h1 : a.length = b.length := by simpa using h.size
  have h2 : c.length = d.length := by simpa using g.size
  refine ⟨by simp [h1, h2], fun j u v hu hv => ?_⟩
  rw [List.getElem?_toArray, List.getElem?_append] at hu hv
  by_cases hj : j < a.length
  · rw [if_pos hj] at hu
    rw [if_pos (by omega)] at hv
    exact h.get j u v (by rw [List.getElem?_toArray]; exact hu) (by rw [List.getElem?_toArray]; exact hv)
  · rw [if_neg hj] at hu
    rw [if_neg (by omega), ← h1] at hv
    exact g.get _ u v (by rw [List.getElem?_toArray]; exact hu) (by rw [List.getElem?_toArray]; exact hv)

/-- the row that a growing append makes -/
theorem grown_row {P : Program} {ρ : Rn} {A : Hp} {w : World} (h : Rel P ρ A w) (e : TypeId) (n m k size : Nat) (z : Value) (hz : z.cells.size = size) (olds ys olds' vs : List Value)
    (ho : AR ρ olds.toArray olds'.toArray) (hy : AR ρ ys.toArray vs.toArray) (hlo : olds.length = n * size) (hly : ys.length = m * size)
    (h1 : ∀ u ∈ olds, u.oneCell' = true) (h2 : ∀ u ∈ ys, u.oneCell' = true) (h63 : n + m ≤ maxLen) :
    ∃ ρ', VR ρ' (.slice (some ⟨A.next, 0, some size⟩) (n + m) (2 * (n + m))) (.slice (some ⟨w.heap.size, 0, none⟩) (n + m) (grownCap w (n + m) k e)) ∧
      Rel P ρ' (A.push (.arr e (olds ++ ys) .own)) (w.drew.alloc (.cells (olds'.toArray ++ vs.toArray ++ Builtin.zeroCells z.cells (grownCap w (n + m) k e - (n + m))) e)) ∧
      Ext A ρ w (A.push (.arr e (olds ++ ys) .own)) ρ' (w.drew.alloc (.cells (olds'.toArray ++ vs.toArray ++ Builtin.zeroCells z.cells (grownCap w (n + m) k e - (n + m))) e)) := by
  generalize hg : grownCap w (n + m) k e = cap
  have hge : n + m ≤ cap := by rw [← hg]; exact grownCap_ge w _ _ e
  have hle : cap ≤ maxLen := by rw [← hg]; exact grownCap_le_maxLen w _ _ e h63
  generalize hC : olds'.toArray ++ vs.toArray ++ Builtin.zeroCells z.cells (cap - (n + m)) = C
  have e1 : olds'.length = olds.length := by simpa using ho.size.symm
  have e2 : vs.length = ys.length := by simpa using hy.size.symm
  have hsz : C.size = cap * size := by
    rw [← hC]
    simp only [Array.size_append, List.size_toArray, size_zeroCells, hz, e1, e2, hlo, hly]
    rw [← Nat.add_mul, ← Nat.add_mul]; congr 1; omega
  have hn := (h.fresh A.next (Nat.le_refl _)).2
  have hall := AR.append ho hy
  refine ⟨ρ.add A.next ⟨w.heap.size, 0, C.size⟩, ?_, ?_⟩
  · refine .sliceL 0 0 size (n + m) (n + m) cap (Rn.add_same _ _ _) (Nat.le_refl _) hge (by simp [hsz]) hle (.inl rfl)
  · have hp := (h.drew).push (.arr e (olds ++ ys) .own) (.cells C e) ⟨w.heap.size, 0, C.size⟩ rfl ?_ rfl
    · exact ⟨hp.1, Ext.trans Ext.drew hp.2⟩
    · refine newArr (w1 := w.drew) rfl e _ C (0, 0) ?_ (nofz _) (.inl rfl) (fun u hu => ?_) (fun j u hu => ?_)
      · rw [hsz, List.length_append, hlo, hly, ← Nat.add_mul]; exact Nat.mul_le_mul_right _ hge
      · rcases List.mem_append.1 hu with hu | hu
        · exact h1 u hu
        · exact h2 u hu
      · obtain ⟨v, k1, k2⟩ := hall.some (j := j) (u := u) (by rw [List.getElem?_toArray]; exact hu)
        refine ⟨v, ?_, k2.le (Rn.le_add _ hn)⟩
        have hjl := (Array.getElem?_eq_some_iff.1 k1).1
        rw [← hC, Array.getElem?_append, if_pos (by simpa using hjl)]
        rw [← k1]; simp

end Go.Dn
end

section
namespace Go.Dn

/-- An own object goes; a new one takes its block. -/
theorem Rel.move {P ρ A w} (h : Rel P ρ A w) {b : Nat} {o : Ob} {p : Pl} (hb : A.get b = some o) (hp : ρ b = some p) (hm : o.md = .own) (o' : Ob) (hm' : o'.md = .own) (q : Pl) (hq : q.blk = p.blk)
    (w' : World) (hs : w'.heap.size = w.heap.size) (hk : ∀ c, c ≠ p.blk → w'.heap[c]? = w.heap[c]?) (ho : ObR P (ρ.add A.next q) w' q o')
    (h1 : w'.os = w.os) (h2 : w'.output = w.output) (h3 : w'.tape = w.tape) :
    Rel P (ρ.add A.next q) ((A.set b none).push o') w' ∧ Ext A ρ w ((A.set b none).push o') (ρ.add A.next q) w' := by
  have hn := h.fresh A.next (Nat.le_refl _)
  have hle : ρ.le (ρ.add A.next q) := Rn.le_add q hn.2
  have hbn : b ≠ A.next := by rintro rfl; rw [hn.1] at hb; cases hb
  have hnext : (A.set b none).next = A.next := rfl
  have hget : ∀ i x, ((A.set b none).push o').get i = some x → (i = A.next ∧ x = o') ∨ (i ≠ A.next ∧ i ≠ b ∧ A.get i = some x) := by
    intro i x hi
    by_cases e : i = A.next
    · left; subst e
      have : ((A.set b none).push o').get A.next = some o' := Hp.get_push_same (A.set b none) o'
      rw [this] at hi; cases hi; exact ⟨rfl, rfl⟩
    · right
      rw [Hp.get_push_ne _ _ (by rw [hnext]; exact e)] at hi
      by_cases e2 : i = b
      · subst e2; rw [Hp.get_set_same] at hi; cases hi
      · rw [Hp.get_set_ne _ _ e2] at hi; exact ⟨e, e2, hi⟩
  constructor
  · constructor
    · intro i x hi
      rcases hget i x hi with ⟨rfl, rfl⟩ | ⟨e1, e2, hi'⟩
      · exact ⟨q, Rn.add_same _ _ _, ho⟩
      · obtain ⟨r, hr, hob⟩ := h.obj i x hi'
        exact ⟨r, hle _ _ hr, hob.keep hle (hk _ (h.apart i b x o r p hi' hb e2 hr hp (.inl (.inr hm))))⟩
    · intro i j x y p1 p2 hi hj hij hp1 hp2 hmm
      rcases hget i x hi with ⟨rfl, rfl⟩ | ⟨e1, e2, hi'⟩
      · rw [Rn.add_same] at hp1; cases hp1
        rcases hget j y hj with ⟨rfl, rfl⟩ | ⟨f1, f2, hj'⟩
        · exact absurd rfl hij
        · obtain ⟨r, hr, hob⟩ := h.obj j y hj'
          rw [hle _ _ hr] at hp2; cases hp2
          have := h.apart j b y o _ p hj' hb f2 hr hp (.inl (.inr hm))
          rw [hq]; exact fun e => this e.symm
      · obtain ⟨r, hr, hob⟩ := h.obj i x hi'
        rw [hle _ _ hr] at hp1; cases hp1
        rcases hget j y hj with ⟨rfl, rfl⟩ | ⟨f1, f2, hj'⟩
        · rw [Rn.add_same] at hp2; cases hp2
          have := h.apart i b x o _ p hi' hb e2 hr hp (.inl (.inr hm))
          rw [hq]; exact this
        · obtain ⟨r2, hr2, hob2⟩ := h.obj j y hj'
          rw [hle _ _ hr2] at hp2; cases hp2
          exact h.apart i j x y _ _ hi' hj' hij hr hr2 hmm
    · intro i hi
      simp only [Hp.next_push, hnext] at hi
      have e : i ≠ A.next := by omega
      have := h.fresh i (by omega)
      refine ⟨?_, by simp only [Rn.add, if_neg e, this.2]⟩
      cases hg : ((A.set b none).push o').get i with
      | none => rfl
      | some x =>
        rcases hget i x hg with ⟨rfl, _⟩ | ⟨_, _, h'⟩
        · exact absurd rfl e
        · rw [this.1] at h'; cases h'
    · intro g hg
      obtain ⟨r, a1, a2, a3⟩ := h.glob g hg
      exact ⟨r, hle _ _ a1, a2, a3⟩
  · refine ⟨hle, by omega, ?_, ?_, by simp, fun i hi => by simp only [Rn.add]; rw [if_neg (by omega)], fun i x hi hx => by
      rcases hget i x hi with ⟨_, e⟩ | ⟨_, _, hi'⟩
      · subst e; exact absurd hm' hx
      · exact hi', h1, h2, h3⟩
    · intro c _ hno
      exact hk c (fun e => hno ⟨b, o, p, hb, hm, hp, e.symm⟩)
    · rintro c ⟨i, x, r, hi, hmx, hr, rfl⟩
      rcases hget i x hi with ⟨rfl, rfl⟩ | ⟨e1, e2, hi'⟩
      · rw [Rn.add_same] at hr; cases hr
        exact .inl ⟨b, o, p, hb, hm, hp, hq.symm⟩
      · obtain ⟨r2, hr2, hob⟩ := h.obj i x hi'
        rw [hle _ _ hr2] at hr; cases hr
        exact .inl ⟨i, x, _, hi', hmx, hr2, rfl⟩

theorem zero_of {P : Program} {E : Env} (hT : E.T.ok P) {e : TypeId} {j : TI} {z : Value} (hj : E.T e = some j) (hz : j.zero = some z) :
    ∃ x, P.info? e = some x ∧ x.size = j.size ∧ x.bytes = j.bytes ∧ x.zero = some z := by
  obtain ⟨x, h1, h2, h3, h4⟩ := hT.info _ _ hj
  exact ⟨x, h1, h2, h3, h4.trans hz⟩

theorem slice_inv {ρ : Rn} {b o s n c : Nat} {x' : Value} (h : VR ρ (.slice (some ⟨b, o, some s⟩) n c) x') :
    ∃ p o' k', ρ b = some p ∧ x' = .slice (some ⟨p.blk, o', none⟩) n k' ∧ n ≤ c / 2 ∧ c / 2 ≤ k' ∧ k' ≤ maxLen ∧ (o' = p.off + o ∨ k' = 0) ∧ (c % 2 = 1 → k' = c / 2) ∧ (c % 2 = 0 → o + k' * s ≤ p.cap) ∧
      ∀ n2, n2 ≤ c / 2 → VR ρ (.slice (some ⟨b, o, some s⟩) n2 c) (.slice (some ⟨p.blk, o', none⟩) n2 k') := by
  cases h with
  | sliceL _ o' _ _ k k' hp a1 a2 a3 a4 a5 =>
    refine ⟨_, o', k', hp, rfl, by omega, by omega, a4, a5, fun hh => by omega, fun _ => a3, fun n2 h2 => .sliceL _ _ _ _ _ _ hp (by omega) a2 a3 a4 a5⟩
  | sliceE _ o' _ _ k hp a1 a2 a5 =>
    refine ⟨_, o', k, hp, rfl, by omega, by omega, a2, a5, fun hh => by omega, fun hh => by omega, fun n2 h2 => .sliceE _ _ _ _ _ hp (by omega) a2 a5⟩

theorem dappend_sound {P : Program} {E : Env} (hT : E.T.ok P) {ρ : Rn} {A A' : Hp} {w : World} (h : Rel P ρ A w) {t t2 ty : TypeId} {s s' x x' v : Value} (hs : VR ρ s s') (hx : VR ρ x x')
    (hd : dappend E t t2 A s x = some (v, A')) :
    ∃ v' ρ' w', (Builtin.append_ #[t, t2] ty #[s', x']).run P w = .ok v' w' ∧ VR ρ' v v' ∧ Rel P ρ' A' w' ∧ Ext A ρ w A' ρ' w' := by
  unfold dappend at hd
  replace hd := bind_some hd
  obtain ⟨i, h1, hd⟩ := hd
  replace hd := bind_some hd
  obtain ⟨i2, h2, hd⟩ := hd
  split at hd
  · rename_i e e2 hi hi2
    have ht : P.underlying t = some (.slice e) := by rw [hT.und _ _ h1, hi]
    have ht2 : P.underlying t2 = some (.slice e2) := by rw [hT.und _ _ h2, hi2]
    replace hd := bind_some hd
    obtain ⟨j, h3, hd⟩ := hd
    replace hd := bind_some hd
    obtain ⟨z, h4, hd⟩ := hd
    replace hd := bind_some hd
    obtain ⟨⟨m, ys⟩, h5, hd⟩ := hd
    obtain ⟨inf, f1, f2, f3, f4⟩ := zero_of hT h3 h4
    obtain ⟨y1, y2, vs, y3, y4, y5, y6, y7, _⟩ := elemsOf_sound h hx h5
    rw [← f2] at y1 y3 y7
    simp only at hd
    cases hm : Nat.beq m 0 with
    | true =>
      rw [hm] at hd
      simp only [cond_true] at hd
      have m0 : m = 0 := Nat.eq_of_beq_eq_true hm
      subst m0
      have hvs : vs = [] := by simpa using y3
      subst hvs
      split at hd
      · cases hd
        cases hs
        exact ⟨.slice none 0 0, ρ, w, run_append_in0 w t t2 ty e e2 inf ht ht2 f1 none 0 0 x' y6 (y7 w rfl) (Nat.le_refl _), .sliceNil, h, Ext.refl _ _ _⟩
      · cases hd
        have hs0 := hs
        obtain ⟨p, o', k', hp, rfl, q1, q2, q3⟩ := slice_addr hs
        exact ⟨_, ρ, w, run_append_in0 w t t2 ty e e2 inf ht ht2 f1 _ _ _ x' y6 (y7 w rfl) q1, hs0, h, Ext.refl _ _ _⟩
      · cases hd
    | false =>
      rw [hm] at hd
      simp only [cond_false] at hd
      have m0 : m ≠ 0 := fun e => by rw [e] at hm; simp at hm
      split at hd
      · rename_i hzz
        obtain ⟨hz1, hz2⟩ := hzz
        split at hd
        · -- a nil slice
          split at hd
          · rename_i hlim
            cases hd
            cases hs
            obtain ⟨ρ', r1, r2, r3⟩ := grown_row h e 0 m 0 j.size z hz1 [] ys [] vs ⟨rfl, by simp⟩ y4 (by simp) (by rw [← f2]; exact y1) (by simp) y2 (by simpa using hlim.1)
            simp only [Nat.zero_add] at r1 r2 r3
            refine ⟨_, ρ', _, ?_, r1, r2, r3⟩
            have := run_append_out (P := P) w t t2 ty e e2 inf z ht ht2 f1 f4 none 0 0 m x' [] vs y6 (y7 w.drew rfl) (by simp [Builtin.firstCells]) (by omega) (by simpa using hlim.1) (by simpa [f3] using hlim.2)
            simp only [Nat.zero_add] at this
            exact this
          · cases hd
        · rename_i b o sz n c
          split at hd
          · rename_i hlim
            obtain ⟨l1, l2, l3⟩ := hlim
            subst l1
            split at hd
            · -- there is room for sure
              rename_i hroom
              cases hc : setCellsAt A b (o + n * j.size) ys with
              | none => rw [hc] at hd; cases hd
              | some A2 =>
                rw [hc] at hd
                cases hd
                obtain ⟨p, o', k', hp, rfl, q1, q2, q3, q4, q5, q6, q7⟩ := slice_inv hs
                have hoo : o' = p.off + o := q4.resolve_right (by omega)
                obtain ⟨w', r1, r2, r3⟩ := setCellsAt_sound h hp hc y2 y4
                refine ⟨.slice (some ⟨p.blk, o', none⟩) (n + m) k', ρ, w', run_append_in w w' t t2 ty e e2 inf ht ht2 f1 _ n k' m x' vs y6 (y7 w rfl) (by omega) ?_, q7 _ hroom, r2, r3⟩
                rw [addr_add, hoo, f2, Nat.add_assoc]; exact r1
            · rename_i hroom
              replace hd := bind_some hd
              obtain ⟨⟨n', olds⟩, h6, hd⟩ := hd
              obtain ⟨o1, o2, olds', o3, o4, o5, o6, o7, o8⟩ := elemsOf_sound h hs h6
              obtain ⟨p, oo, k', hp, rfl, q1, q2, q3, q4, q5, q6, q7⟩ := slice_inv hs
              have hnn : n' = n := by
                have := o6 w
                simp [Builtin.lenOf] at this
                exact this.symm
              subst hnn
              simp only at hd
              have grow : k' < n' + m → ∀ (A0 : Hp), Rel P ρ A0 w → A0.next = A.next → Ext A ρ w A0 ρ w → ∃ v' ρ' w', (Builtin.append_ #[t, t2] ty #[.slice (some ⟨p.blk, oo, none⟩) n' k', x']).run P w = .ok v' w' ∧
                  VR ρ' (.slice (some ⟨A.next, 0, some j.size⟩) (n' + m) (2 * (n' + m))) v' ∧ Rel P ρ' (A0.push (.arr e (olds ++ ys) .own)) w' ∧ Ext A ρ w (A0.push (.arr e (olds ++ ys) .own)) ρ' w' := by
                intro hg A0 hA0 hnx hx0
                obtain ⟨ρ', r1, r2, r3⟩ := grown_row hA0 e n' m k' j.size z hz1 olds ys olds' vs o4 y4 o1 (by rw [← f2]; exact y1) o2 y2 l2
                rw [hnx] at r1
                refine ⟨_, ρ', _, ?_, r1, r2, hx0.trans r3⟩
                exact run_append_out w t t2 ty e e2 inf z ht ht2 f1 f4 _ n' k' m x' olds' vs y6 (y7 w.drew rfl) (by rw [f2]; exact o7 w.drew rfl) hg l2 (by rw [f3]; exact l3)
              split at hd
              · -- the capacity is known, and it is too small
                rename_i hodd
                cases hd
                have hk : k' = c / 2 := q5 hodd
                exact grow (by omega) A h rfl (Ext.refl _ _ _)
              · rename_i hodd
                split at hd
                · rename_i T cs hget
                  split at hd
                  · rename_i hTe
                    subst hTe
                    cases hd
                    by_cases hg : k' < n' + m
                    · obtain ⟨d1, d2⟩ := h.drop b
                      exact grow hg (A.set b none) d1 rfl d2
                    · -- it lies where the old one lay
                      have hcap : o + k' * j.size ≤ p.cap := q6 (by omega)
                      have hoo : oo = p.off + o := q4.resolve_right (by omega)
                      obtain ⟨q, hq, hob⟩ := h.obj b _ hget
                      rw [hp] at hq; cases hq
                      cases hob with
                      | arr _ _ _ C T' fz hb hTT hll hcc =>
                        obtain ⟨e1, e22, e3, e9⟩ := hTT (by simp)
                        subst e1
                        have hnm : (n' + m) * j.size ≤ k' * j.size := Nat.mul_le_mul_right _ (by omega)
                        have hnm2 : (n' + m) * j.size = n' * j.size + m * j.size := Nat.add_mul _ _ _
                        have ylen : vs.length = m * j.size := by rw [y3, f2]
                        have hrun := run_storeCells_own P p.blk (oo + n' * j.size) T' fz C.size e22 vs 0 C w rfl hb (by rw [hoo]; omega) y5
                        generalize hD : (C.toList.take (oo + n' * j.size + 0) ++ vs ++ C.toList.drop (oo + n' * j.size + 0 + vs.length)) = D at hrun
                        have hDl : D.length = C.size := by rw [← hD]; simp; omega
                        have hn := (h.fresh A.next (Nat.le_refl _)).2
                        have hle := Rn.le_add ⟨p.blk, oo, p.cap - o⟩ hn
                        obtain ⟨r1, r2⟩ := h.move hget hp rfl (.arr T' (olds ++ ys) .own) rfl ⟨p.blk, oo, p.cap - o⟩ rfl (w.setRow p.blk D.toArray) (by simp) (fun c hc => setRow_other w p.blk c _ hc) (by
                          refine .arr T' _ .own D.toArray T' fz (setRow_heap w p.blk C _ T' fz hb) (fun _ => ⟨rfl, fun j hj => e22 j (by rw [List.size_toArray, hDl] at hj; exact hj), by simp only [List.size_toArray, hDl]; omega, e9⟩) (by
                            rw [List.length_append, o1, y1, f2]; simp only; omega) ?_
                          intro q u hu
                          have hall := AR.append o4 y4
                          obtain ⟨u', k1, k2⟩ := hall.some (j := q) (u := u) (by rw [List.getElem?_toArray]; exact hu)
                          refine ⟨?_, u', ?_, k2.le hle⟩
                          · rcases List.mem_append.1 (List.mem_of_getElem? hu) with hm | hm
                            · exact o2 u hm
                            · exact y2 u hm
                          · rw [List.getElem?_toArray] at k1 ⊢
                            rw [← hD, List.getElem?_append, List.getElem?_append]
                            simp only [List.length_append, List.length_take, Array.length_toList]
                            have hql : q < olds'.length + vs.length := by
                              have := (List.getElem?_eq_some_iff.1 k1).1
                              simpa using this
                            rw [List.getElem?_append] at k1
                            by_cases c1 : q < olds'.length
                            · rw [if_pos c1] at k1
                              rw [if_pos (by omega), if_pos (by omega), List.getElem?_take, if_pos (by omega)]
                              have hcell := o8 _ _ _ rfl q u' k1
                              rw [addr_add] at hcell
                              simp only [World.cell?, hb, Option.isSome_none, Bool.false_eq_true, if_false] at hcell
                              simpa using hcell
                            · rw [if_neg c1] at k1
                              rw [if_pos (by omega), if_neg (by omega)]
                              have : oo + q - min (oo + n' * j.size + 0) C.size = q - olds'.length := by omega
                              rw [this]; exact k1) rfl rfl rfl
                        refine ⟨.slice (some ⟨p.blk, oo, none⟩) (n' + m) k', _, w.setRow p.blk D.toArray, run_append_in w _ t t2 ty T' e2 inf ht ht2 f1 _ n' k' m x' vs y6 (y7 w rfl) (by omega) ?_, ?_, r1, r2⟩
                        · rw [addr_add, f2]; exact hrun
                        · exact .sliceL (p := ⟨p.blk, oo, p.cap - o⟩) 0 oo j.size (n' + m) (n' + m) k' (Rn.add_same _ _ _) (Nat.le_refl _) (by omega) (by simp only; omega) q3 (.inl rfl)
                  · cases hd
                · cases hd
          · cases hd
        · cases hd
      · cases hd
  · cases hd

end Go.Dn
end
