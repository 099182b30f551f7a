/-
  Part of the abstract machine for this program.
-/
import Derived.Test.YtombnpednnngoaaDoorPC
import Derived.Test.YtombnpednnngoaaDoorDnJ
import Derived.Test.YtombnpednnngoaaDoorPJ
import Derived.Test.YtombnpednnngoaaDoorCards
import Derived.Test.YtombnpednnngoaaDoorTie
import Derived.WalkKit
import Derived.ProofKit
import Derived.OpenShut
import Derived.LaidLaws
import Derived.Deep.DeepHandedRow
import Derived.Test.YtombnpednnngoaaDoorPF
import Derived.Test.YtombnpednnngoaaDoorPE

section
namespace Go.Dn.Ln
open Go.Proofs Go.ChangeShapes
set_option maxRecDepth 100000

/-! ## what the rows' lists give -/
theorem star : "*" ++ "errors.errorString" = "*errors.errorString" := by decide
theorem errT : ErrT Tryd.prog 31 206 230 :=
  ⟨⟨_, Tryd.underlying31⟩, fun u h => typeName_ptr_named (nm := "errors.errorString") (by rw [star]; kernel_rfl) (by kernel_rfl) (by decide) u (by rw [star]; exact h), Tryd.underlying206,
    ⟨_, _, Tryd.underlying230, rfl, rfl, Tryd.underlying9, by kernel_rfl, by kernel_rfl⟩⟩

/-- the rows of the globals, as the program begins -/
theorem rows : (List.range 44).map (fun g => (((begin Tryd.prog (fun _ _ => 0) default).world.heap[g]?).bind Obj.row?).map (fun x => x.2)) = (List.range 44).map (fun g => (Tryd.prog.globals[g]?).map (·.type)) := by kernel_rfl
theorem types : (List.range 44).all (fun g => ((Tryd.prog.globals[g]?).map (·.type)).isSome) = true := by kernel_rfl
theorem gsize : Tryd.prog.globals.size = 44 := Tryd.good.glob.symm

theorem hrow_of {W : World} (hS : W.ShapedOpen Tryd.prog) : ∀ g, g < 44 → ∃ c t, W.heap[g]? = some (.cells c t (0, 0)) ∧ (Tryd.prog.globals[g]?).map (·.type) = some t := by
  intro g hg
  have h1 := congrArg (fun l => l[g]?) rows
  simp only [List.getElem?_map, List.getElem?_range hg, Option.map_some, Option.some.injEq] at h1
  have h2 := List.all_eq_true.1 types g (List.mem_range.2 hg)
  cases ht : (Tryd.prog.globals[g]?).map (·.type) with
  | none => rw [ht] at h2; cases h2
  | some t =>
    rw [ht] at h1
    cases hb : ((begin Tryd.prog (fun _ _ => 0) default).world.heap[g]?).bind Obj.row? with
    | none => rw [hb] at h1; cases h1
    | some x =>
      obtain ⟨zero, t'⟩ := x
      rw [hb] at h1
      simp only [Option.map_some, Option.some.injEq] at h1
      subst h1
      obtain ⟨cs, k1, _⟩ := hS.1 g zero t' (by rw [gsize]; exact hg) hb
      exact ⟨cs, t', k1, rfl⟩

noncomputable def mixOk (L : List (String × DataW Unit)) : Bool := L.all fun x => match Tryd.prog.globalNamed x.1 with
  | some g => Nat.blt g 44 && bif isErr x.2 then decide ((Tryd.prog.globals[g]?).map (·.type) = some 31) else match (Tryd.prog.globals[g]?).map (·.type) with
    | some t => (rdw Tryd.prog 20 t x.2).isSome
    | none => false
  | none => false
noncomputable def coversE (L : List (String × DataW Unit)) (gs : List Nat) : Bool := gs.all fun g => L.any fun x => isErr x.2 && Tryd.prog.globalNamed x.1 == some g

/-- the beginning, for the laws that list sentinels and tables -/
theorem begin_repP (rep : Nat → Dat → Hp → Nat → Prop) {W : World} (hS : W.ShapedOpen Tryd.prog) {L : List (String × DataW Unit)} (hL : laidMet Tryd.prog L W) (h1 : mixOk L = true) {C : Hp} (hCn : C.next = 88)
    (hC : ∀ i o, C.get i = some o → (∃ x ∈ L, isErr x.2 = true ∧ Tryd.prog.globalNamed x.1 = some i ∧ o = er i) ∨
      (∃ x ∈ L, isErr x.2 = false ∧ Tryd.prog.globalNamed x.1 = some i ∧ ∃ t c, (Tryd.prog.globals[i]?).map (·.type) = some t ∧ rdw Tryd.prog 20 t x.2 = some c ∧ o = .arr t c .ro ∧ ∀ u ∈ c, plain0 u = true)) :
    ∃ R : Reps, R.C = C ∧ R.rep = rep ∧ Rel Tryd.prog R.ρC C W ∧ (∀ i p, i < C.next → R.ρC i = some p → p.blk < W.heap.size) ∧ ConW Tryd.prog W ∧ ∀ g, g < 44 → R.ρC g = some ⟨g, 0, capC C g⟩ := by
  obtain ⟨ps, hl, hn, hp⟩ := hL
  have hchk : ∀ x ∈ L, ∃ g, Tryd.prog.globalNamed x.1 = some g ∧ g < 44 ∧ ((isErr x.2 = true ∧ (Tryd.prog.globals[g]?).map (·.type) = some 31) ∨ (isErr x.2 = false ∧ ∃ t c, (Tryd.prog.globals[g]?).map (·.type) = some t ∧ rdw Tryd.prog 20 t x.2 = some c)) := by
    intro x hx
    have := List.all_eq_true.1 h1 x hx
    cases hg : Tryd.prog.globalNamed x.1 with
    | none => rw [hg] at this; cases this
    | some g =>
      rw [hg] at this
      simp only [Bool.and_eq_true, Nat.blt_eq] at this
      obtain ⟨k1, k2⟩ := this
      refine ⟨g, rfl, k1, ?_⟩
      cases he : isErr x.2 with
      | true => rw [he] at k2; exact .inl ⟨rfl, by simpa using k2⟩
      | false =>
        rw [he] at k2
        simp only [cond_false] at k2
        cases ht : (Tryd.prog.globals[g]?).map (·.type) with
        | none => rw [ht] at k2; cases k2
        | some t =>
          rw [ht] at k2
          simp only at k2
          obtain ⟨c, hc⟩ := Option.isSome_iff_exists.1 k2
          exact .inr ⟨rfl, t, c, rfl, hc⟩
  obtain ⟨ads, e1, e2, e3, e4⟩ := laid_mix errT L ps (fun x hx => by
    obtain ⟨g, b1, b2, b3⟩ := hchk x hx
    rcases b3 with ⟨c1, c2⟩ | ⟨c1, t, c, c2, c3⟩
    · exact .inl ⟨c1, g, b1, c2⟩
    · exact .inr ⟨c1, g, t, c, b1, c2, c3⟩) hl (fun b off hb => (hp b off hb).2)
  have hn' : (errPlaces ads).Nodup := hn.sublist e2
  have hE : ∀ x ∈ ads, ∃ y ∈ L.filter (fun x => isErr x.2), ErrVar Tryd.prog W 206 y.1 x.1 x.2 := by
    intro x hx
    obtain ⟨k, hk⟩ := List.getElem?_of_mem hx
    have hkl : k < (L.filter fun x => isErr x.2).length := by rw [← e1]; exact (List.getElem?_eq_some_iff.1 hk).1
    exact ⟨_, List.getElem_mem hkl, e3 k _ x (List.getElem?_eq_getElem hkl) hk⟩
  have key := consts_start (P := Tryd.prog) (W := W) (te := 31) (tp := 206) gsize ads hn' (hrow_of hS) (fun x hx => by
    obtain ⟨y, hy, q1, q2, q3, _⟩ := hE x hx
    obtain ⟨hyL, hye⟩ := List.mem_filter.1 hy
    obtain ⟨g, r1, r2, r3⟩ := hchk y hyL
    rw [q1] at r1; cases r1
    rcases r3 with ⟨_, r4⟩ | ⟨r4, _⟩
    · exact ⟨r2, r4, q2, q3, (hp _ _ (e2.subset (errPlaces_mem hx).2)).1⟩
    · rw [r4] at hye; cases hye) C hCn (fun i o hi => by
    rcases hC i o hi with ⟨y, hy, q0, q1, rfl⟩ | ⟨y, hy, q0, q1, t, c, q2, q3, rfl, q4⟩
    · left
      have hyf : y ∈ L.filter fun x => isErr x.2 := List.mem_filter.2 ⟨hy, q0⟩
      obtain ⟨k, hk⟩ := List.getElem?_of_mem hyf
      have hkl : k < ads.length := by rw [e1]; exact (List.getElem?_eq_some_iff.1 hk).1
      have := e3 k y ads[k] hk (List.getElem?_eq_getElem hkl)
      have h0 := this.1
      rw [q1] at h0
      refine ⟨ads[k].2, ?_, rfl⟩
      have : ads[k] = (i, ads[k].2) := by rw [Option.some.inj h0]
      rw [← this]; exact List.getElem_mem hkl
    · right
      obtain ⟨g, t', c', r1, r2, r3, T, fz, r4⟩ := e4 y hy q0
      rw [q1] at r3; cases r3
      rw [q2] at r1; cases r1
      rw [q3] at r2; cases r2
      obtain ⟨g', b1, b2, _⟩ := hchk y hy
      rw [q1] at b1; cases b1
      obtain ⟨c0, t0, s1, s2⟩ := hrow_of hS i b2
      rw [q2] at s2; cases s2
      rw [s1] at r4; cases r4
      exact ⟨t, c, b2, rfl, q2, q4, (0, 0), s1⟩)
  obtain ⟨c1, c2, c3, c4, c5⟩ := key
  let R : Reps := { rep := rep, C := C, ρC := fun i => if i < 44 + 44 then placeC 44 C ads i else none, Cro := c1, Cpl := c2 }
  exact ⟨R, rfl, rfl, c3, c4, c5 (R := R) rfl rfl, fun g hg => by show (if g < 44 + 44 then placeC 44 C ads g else none) = _; rw [if_pos (by omega)]; unfold placeC; rw [if_pos hg]⟩

theorem begin_rep (rep : Nat → Dat → Hp → Nat → Prop) {W : World} (hS : W.ShapedOpen Tryd.prog) {L : List (String × DataW Unit)} (hL : laidMet Tryd.prog L W) (h1 : mixOk L = true) {C : Hp} (hCn : C.next = 88)
    (hC : ∀ i o, C.get i = some o → (∃ x ∈ L, isErr x.2 = true ∧ Tryd.prog.globalNamed x.1 = some i ∧ o = er i) ∨
      (∃ x ∈ L, isErr x.2 = false ∧ Tryd.prog.globalNamed x.1 = some i ∧ ∃ t c, (Tryd.prog.globals[i]?).map (·.type) = some t ∧ rdw Tryd.prog 20 t x.2 = some c ∧ o = .arr t c .ro ∧ ∀ u ∈ c, plain0 u = true)) :
    ∃ R : Reps, R.C = C ∧ R.rep = rep ∧ Rel Tryd.prog R.ρC C W ∧ (∀ i p, i < C.next → R.ρC i = some p → p.blk < W.heap.size) ∧ ConW Tryd.prog W := by
  obtain ⟨R, a, b, c, d, e, _⟩ := begin_repP rep hS hL h1 hCn hC
  exact ⟨R, a, b, c, d, e⟩

/-! ## a world for the witness -/
noncomputable def lowT : Nat := (World.holding Tryd.prog default ⟨#[], #[], []⟩).heap.size
def textOf : DataW Unit → ByteArray
  | .iface _ (.ptr (.agg [.lit (.string s)])) => ⟨s.toArray⟩
  | _ => .empty
noncomputable def setErr (h : Array Obj) (g k : Nat) : Array Obj := h.modify g fun
  | .cells _ t fr => .cells #[.iface 206 (.pointer (some ⟨lowT + k, 0, none⟩))] t fr
  | o => o
noncomputable def setTab (h : Array Obj) (g : Nat) (c : List Value) : Array Obj := h.modify g fun
  | .cells _ t fr => .cells c.toArray t fr
  | o => o
noncomputable def tabOf (g : Nat) (d : DataW Unit) : List Value := (((Tryd.prog.globals[g]?).map (·.type)).bind fun t => rdw Tryd.prog 20 t d).getD []
noncomputable def setErrs (L : List (String × DataW Unit)) (k : Nat) (h : Array Obj) : Array Obj := match L with
  | [] => h
  | x :: l => setErrs l (k + 1) (match Tryd.prog.globalNamed x.1 with
    | some g => bif isErr x.2 then setErr h g k else setTab h g (tabOf g x.2)
    | none => h)
noncomputable def laidWorld (L : List (String × DataW Unit)) (os : Os) : World :=
  { World.holding Tryd.prog os ⟨(L.map fun x => Obj.cells #[.string (textOf x.2)] 230).toArray, #[], []⟩ with
    heap := setErrs L 0 (World.holding Tryd.prog os ⟨(L.map fun x => Obj.cells #[.string (textOf x.2)] 230).toArray, #[], []⟩).heap }

end Go.Dn.Ln

namespace Go.Proofs.YtombnpednnngoaaDoor.bulks
theorem one_le {H : Type} (d : DataW H) : 1 ≤ Rows.uptoBulk d := by
  cases d with
  | lit l => cases l <;> simp [Rows.uptoBulk]
  | nil => simp [Rows.uptoBulk]
  | ptr d => simp [Rows.uptoBulk]
  | slice elems spare => simp [Rows.uptoBulk]
  | agg parts => simp [Rows.uptoBulk]
  | iface t d => simp [Rows.uptoBulk]
  | map entries => simp [Rows.uptoBulk]
  | held h => simp [Rows.uptoBulk]

/-- a part's bulk is at most the whole's -/
theorem part_le {H : Type} {d : DataW H} {l : List (DataW H)} (h : d ∈ l) : Rows.uptoBulk d ≤ Rows.uptoBulkAll l := by
  induction l with
  | nil => cases h
  | cons x r ih =>
    simp only [Rows.uptoBulkAll]
    cases List.mem_cons.1 h with
    | inl e => subst e; omega
    | inr e => have := ih e; omega

theorem append {H : Type} (l r : List (DataW H)) : Rows.uptoBulkAll (l ++ r) = Rows.uptoBulkAll l + Rows.uptoBulkAll r := by
  induction l with
  | nil => simp [Rows.uptoBulkAll]
  | cons x l ih => simp only [List.cons_append, Rows.uptoBulkAll, ih]; omega

/-- so many values at the most -/
theorem length_le {H : Type} (l : List (DataW H)) : l.length ≤ Rows.uptoBulkAll l := by
  induction l with
  | nil => simp [Rows.uptoBulkAll]
  | cons x r ih => have := one_le x; simp only [Rows.uptoBulkAll, List.length_cons]; omega

/-- a slice's places, and what they hold -/
theorem slice_le {H : Type} (elems spare : List (DataW H)) : elems.length + spare.length + 1 ≤ Rows.uptoBulk (.slice elems spare) := by
  have h1 := length_le elems
  have h2 := length_le spare
  simp only [Rows.uptoBulk]
  omega
theorem slice_elems {H : Type} (elems spare : List (DataW H)) : Rows.uptoBulkAll elems + 1 ≤ Rows.uptoBulk (.slice elems spare) := by
  simp only [Rows.uptoBulk]
  omega

/-- a string's letters -/
theorem string_eq {H : Type} (bytes : List UInt8) : Rows.uptoBulk (DataW.lit (H := H) (.string bytes)) = bytes.length + 1 := by
  simp [Rows.uptoBulk]

/-- THE BOUND, as the builder hands it over ('hk') -/
theorem bound {H : Type} {l : List (DataW H)} (hk : Rows.uptoSmall H l = true) : Rows.uptoBulkAll l ≤ 1048576 := of_decide_eq_true hk


end Go.Proofs.YtombnpednnngoaaDoor.bulks
end

section
/-
  'LaneDrains', run: the sum of a stream's grants
-/
namespace Go.Dn.Ln
open Go.Proofs
set_option maxHeartbeats 4000000
set_option maxRecDepth 100000
attribute [local irreducible] Hp.get Hp.set Hp.push dappend dcopy dstore cellsAt callD loopD

theorem gsum_le : ∀ (T : List Tk) (s : Int), (∀ t ∈ T, 0 ≤ t.2.2 ∧ t.2.2 ≤ 4294967295) → 0 ≤ gsum T s ∧ gsum T s ≤ (T.length : Int) * 4294967295
  | [], s, _ => by simp [gsum]
  | t :: T, s, h => by
    have ih := gsum_le T s fun x hx => h x (List.mem_cons_of_mem _ hx)
    have ht := h t List.mem_cons_self
    have e : gsum (t :: T) s = (if isG s t then t.2.2 else 0) + gsum T s := by
      unfold gsum
      rw [List.filter_cons]
      split <;> simp
    rw [e, List.length_cons]
    split <;> constructor <;> push_cast <;> omega

/-- the sum as far as it is read -/
def gs (T : List Tk) (u : Tk) (j : Nat) : Int := if u.1 = 3 then gsum (T.take j) u.2.1 else 0
/-- was one of them before? -/
def lt (T : List Tk) (u : Tk) (i j : Nat) : Bool := u.1 == 3 && (T.take (min j i)).any (isG u.2.1)
def hit (u x : Tk) : Bool := u.1 == 3 && isG u.2.1 x

theorem gs_step {T : List Tk} {u x : Tk} {j : Nat} (h : T[j]? = some x) : gs T u (j + 1) = if hit u x then gs T u j + x.2.2 else gs T u j := by
  unfold gs hit
  rw [take_succ h, gsum_snoc]
  by_cases h3 : u.1 = 3
  · rw [if_pos h3, if_pos h3]
    simp only [h3, beq_self_eq_true, Bool.true_and]
    split <;> simp
  · rw [if_neg h3, if_neg h3]
    simp [h3]
theorem lt_step {T : List Tk} {u x : Tk} {i j : Nat} (h : T[j]? = some x) : lt T u i (j + 1) = if hit u x then (lt T u i j || decide (j < i)) else lt T u i j := by
  unfold lt hit
  by_cases h3 : u.1 = 3
  · simp only [h3, beq_self_eq_true, Bool.true_and]
    by_cases hj : j < i
    · rw [show min (j + 1) i = j + 1 by omega, show min j i = j by omega, take_succ h, List.any_append]
      simp only [List.any_cons, List.any_nil, Bool.or_false, hj, decide_true, Bool.or_true]
      split
      · rename_i hx; rw [hx, Bool.or_true]
      · rename_i hx; rw [Bool.not_eq_true] at hx; rw [hx, Bool.or_false]
    · rw [show min (j + 1) i = min j i by omega]
      simp [hj]
  · rw [show (u.1 == 3) = false from beq_eq_false_iff_ne.2 h3]; rfl
theorem gs_le {T : List Tk} {u : Tk} {j : Nat} (hT : ∀ t ∈ T, 0 ≤ t.2.2 ∧ t.2.2 ≤ 4294967295) : 0 ≤ gs T u j ∧ gs T u j ≤ (j : Int) * 4294967295 := by
  unfold gs
  split
  · have := gsum_le (T.take j) u.2.1 fun t ht => hT t (List.mem_of_mem_take ht)
    have hl : ((T.take j).length : Int) ≤ j := by rw [List.length_take]; omega
    omega
  · omega

section
variable {call : CallT} {T : List Tk} (hTl : T.length ≤ 2000) (hT : ∀ t ∈ T, 0 ≤ t.2.2 ∧ t.2.2 ≤ 4294967295) {it U : Nat} {u : Tk} (V3 V4 V44 V45 V46 : Value)
include hTl hT

theorem drain_in (lf : Nat) {A : Hp} (hw : A.wf) (hit0 : A.get it = some (.arr 29 (T.map tkc).flatten .own)) (hU : A.get U = some (.arr 29 (tkc u) .own)) {c i j : Nat} {s : Int} {b : Bool} (hs : 0 ≤ s ∧ s ≤ (j : Int) * 4294967295) {x : Tk} (hx : T[j]? = some x) :
    ∃ σ1 A1, exec Tryd.bk.E call Tryd.f3.ntmps (Tryd.bk.inf 3) lf (loopOf Tryd.f3 2) [(2, .bool false), (3, V3), (4, V4), (44, V44), (45, V45), (46, V46), (8, ptr U), (7, .int .i64 (i : Nat)), (9, .int .i64 s), (10, .bool b), (51, .slice (some ⟨it, 0, some 3⟩) T.length c), (52, .int .i64 (T.length : Nat)), (53, .int .i64 (j : Nat))] A = some (.normal, σ1, A1) ∧
      keepSl (some [2, 3, 4, 7, 8, 9, 10, 44, 45, 46, 51, 52, 53]) σ1 = [(2, .bool false), (3, V3), (4, V4), (44, V44), (45, V45), (46, V46), (8, ptr U), (7, .int .i64 (i : Nat)), (9, .int .i64 (if hit u x then s + x.2.2 else s)), (10, .bool (if hit u x then (b || decide (j < i)) else b)), (51, .slice (some ⟨it, 0, some 3⟩) T.length c), (52, .int .i64 (T.length : Nat)), (53, .int .i64 (j + 1 : Nat))] ∧ Kp A A1 := by
  have hj : j < T.length := (List.getElem?_eq_some_iff.1 hx).1
  have hcell := tick_row hx
  have hok := hT x (List.mem_of_getElem? hx)
  obtain ⟨uk, us, uv⟩ := u
  obtain ⟨xk, xs, xv⟩ := x
  simp only at hok
  have e1 : ((j : Nat) : Int) < ((T.length : Nat) : Int) := by omega
  have hw2 : IntKind.i64.wrap ((j : Int) + 1) = ((j + 1 : Nat) : Int) := by rw [w64 (by omega) (by omega)]; omega
  have hwv : IntKind.i64.wrap xv = xv := by rw [w64 (by omega) (by omega)]
  have hws : IntKind.i64.wrap (s + xv) = s + xv := by rw [w64 (by omega) (by omega)]
  let Z : List Value := [.int .i64 0, .int .u32 0, .int .u32 0]
  let C : List Value := [.int .i64 (xk : Nat), .int .u32 xs, .int .u32 xv]
  let A1 : Hp := (A.push (.arr 29 Z .own)).set A.next (some (.arr 29 C .own))
  have k1 : Kp A A1 := (Kp.push hw (.arr 29 Z .own)).set (Hp.get_push_same _ _) (Nat.le_refl _) _
  have n1 : A1.next = A.next + 1 := by simp [A1]
  have q1 : A1.get A.next = some (.arr 29 C .own) := Hp.get_set_same _ _ _
  have hU1 : A1.get U = some (.arr 29 [.int .i64 (uk : Nat), .int .u32 us, .int .u32 uv] .own) := by rw [k1.old _ (hw.lt hU)]; exact hU
  have hcell2 : cellsIn (T.map tkc).flatten (0 + j * 3) 3 = some C := hcell
  by_cases h3 : uk = 3
  · have e3 : ((uk : Nat) : Int) = 3 := by omega
    by_cases h4 : xk = 3
    · have e4 : ((xk : Nat) : Int) = ((uk : Nat) : Int) := by omega
      by_cases h5 : xs = us
      · have hh : hit (uk, us, uv) (xk, xs, xv) = true := by simp [hit, isG, h3, h4, h5]
        rw [hh]
        simp only [if_true]
        cases b with
        | true =>
          refine ⟨?sa, A1, kexec_run ?ra, ?ka, k1⟩
          case ra =>
            conv => lhs; whnf
            rw [kdec e1]
            conv => lhs; whnf
            rw [kdec e1]
            conv => lhs; whnf
            refine bind_of ((cellsAt_of hit0 _ _).trans hcell2) ?_
            conv => lhs; whnf
            refine bind_of (dstore_of (Hp.get_push_same _ _) (t := 29) (o := 0) (cs' := C) rfl) ?_
            conv => lhs; whnf
            refine bind_of (cellsAt_of hU1 _ _) ?_
            conv => lhs; whnf
            rw [show (((uk : Nat) : Int) == 3) = true from beq_iff_eq.2 e3]
            conv => lhs; whnf
            refine bind_of (cellsAt_of q1 _ _) ?_
            conv => lhs; whnf
            refine bind_of (cellsAt_of hU1 _ _) ?_
            conv => lhs; whnf
            rw [show (((xk : Nat) : Int) == ((uk : Nat) : Int)) = true from beq_iff_eq.2 e4]
            conv => lhs; whnf
            refine bind_of (cellsAt_of q1 _ _) ?_
            conv => lhs; whnf
            refine bind_of (cellsAt_of hU1 _ _) ?_
            conv => lhs; whnf
            rw [show (xs == us) = true from beq_iff_eq.2 h5]
            conv => lhs; whnf
            refine bind_of (cellsAt_of q1 _ _) ?_
            conv => lhs; whnf
            try rfl
          case ka =>
            show [_, _, _, _, _, _, _, _, (9, Value.int .i64 (IntKind.i64.wrap (s + IntKind.i64.wrap xv))), _, _, _, (53, Value.int .i64 (IntKind.i64.wrap ((j : Int) + 1)))] = _
            rw [hw2, hwv, hws, Bool.true_or]
        | false =>
          refine ⟨?sb, A1, kexec_run ?rb, ?kb, k1⟩
          case rb =>
            conv => lhs; whnf
            rw [kdec e1]
            conv => lhs; whnf
            rw [kdec e1]
            conv => lhs; whnf
            refine bind_of ((cellsAt_of hit0 _ _).trans hcell2) ?_
            conv => lhs; whnf
            refine bind_of (dstore_of (Hp.get_push_same _ _) (t := 29) (o := 0) (cs' := C) rfl) ?_
            conv => lhs; whnf
            refine bind_of (cellsAt_of hU1 _ _) ?_
            conv => lhs; whnf
            rw [show (((uk : Nat) : Int) == 3) = true from beq_iff_eq.2 e3]
            conv => lhs; whnf
            refine bind_of (cellsAt_of q1 _ _) ?_
            conv => lhs; whnf
            refine bind_of (cellsAt_of hU1 _ _) ?_
            conv => lhs; whnf
            rw [show (((xk : Nat) : Int) == ((uk : Nat) : Int)) = true from beq_iff_eq.2 e4]
            conv => lhs; whnf
            refine bind_of (cellsAt_of q1 _ _) ?_
            conv => lhs; whnf
            refine bind_of (cellsAt_of hU1 _ _) ?_
            conv => lhs; whnf
            rw [show (xs == us) = true from beq_iff_eq.2 h5]
            conv => lhs; whnf
            refine bind_of (cellsAt_of q1 _ _) ?_
            conv => lhs; whnf
            try rfl
          case kb =>
            show [_, _, _, _, _, _, _, _, (9, Value.int .i64 (IntKind.i64.wrap (s + IntKind.i64.wrap xv))), _, _, _, (53, Value.int .i64 (IntKind.i64.wrap ((j : Int) + 1)))] = _
            rw [hw2, hwv, hws, Bool.false_or, show decide (j < i) = decide (((j : Nat) : Int) < ((i : Nat) : Int)) from decide_eq_decide.2 (by omega)]
      · have hh : hit (uk, us, uv) (xk, xs, xv) = false := by simp [hit, isG, h5]
        rw [hh]
        simp only [Bool.false_eq_true, if_false]
        refine ⟨?sc, A1, kexec_run ?rc, ?kc, k1⟩
        case rc =>
          conv => lhs; whnf
          rw [kdec e1]
          conv => lhs; whnf
          rw [kdec e1]
          conv => lhs; whnf
          refine bind_of ((cellsAt_of hit0 _ _).trans hcell2) ?_
          conv => lhs; whnf
          refine bind_of (dstore_of (Hp.get_push_same _ _) (t := 29) (o := 0) (cs' := C) rfl) ?_
          conv => lhs; whnf
          refine bind_of (cellsAt_of hU1 _ _) ?_
          conv => lhs; whnf
          rw [show (((uk : Nat) : Int) == 3) = true from beq_iff_eq.2 e3]
          conv => lhs; whnf
          refine bind_of (cellsAt_of q1 _ _) ?_
          conv => lhs; whnf
          refine bind_of (cellsAt_of hU1 _ _) ?_
          conv => lhs; whnf
          rw [show (((xk : Nat) : Int) == ((uk : Nat) : Int)) = true from beq_iff_eq.2 e4]
          conv => lhs; whnf
          refine bind_of (cellsAt_of q1 _ _) ?_
          conv => lhs; whnf
          refine bind_of (cellsAt_of hU1 _ _) ?_
          conv => lhs; whnf
          rw [show (xs == us) = false from beq_eq_false_iff_ne.2 h5]
          conv => lhs; whnf
          try rfl
        case kc =>
          show [_, _, _, _, _, _, _, _, _, _, _, _, (53, Value.int .i64 (IntKind.i64.wrap ((j : Int) + 1)))] = _
          rw [hw2]
    · have e4 : ¬ ((xk : Nat) : Int) = ((uk : Nat) : Int) := by omega
      have hh : hit (uk, us, uv) (xk, xs, xv) = false := by simp [hit, isG, h4]
      rw [hh]
      simp only [Bool.false_eq_true, if_false]
      refine ⟨?sd, A1, kexec_run ?rd, ?kd, k1⟩
      case rd =>
        conv => lhs; whnf
        rw [kdec e1]
        conv => lhs; whnf
        rw [kdec e1]
        conv => lhs; whnf
        refine bind_of ((cellsAt_of hit0 _ _).trans hcell2) ?_
        conv => lhs; whnf
        refine bind_of (dstore_of (Hp.get_push_same _ _) (t := 29) (o := 0) (cs' := C) rfl) ?_
        conv => lhs; whnf
        refine bind_of (cellsAt_of hU1 _ _) ?_
        conv => lhs; whnf
        rw [show (((uk : Nat) : Int) == 3) = true from beq_iff_eq.2 e3]
        conv => lhs; whnf
        refine bind_of (cellsAt_of q1 _ _) ?_
        conv => lhs; whnf
        refine bind_of (cellsAt_of hU1 _ _) ?_
        conv => lhs; whnf
        rw [show (((xk : Nat) : Int) == ((uk : Nat) : Int)) = false from beq_eq_false_iff_ne.2 e4]
        conv => lhs; whnf
        try rfl
      case kd =>
        show [_, _, _, _, _, _, _, _, _, _, _, _, (53, Value.int .i64 (IntKind.i64.wrap ((j : Int) + 1)))] = _
        rw [hw2]
  · have e3 : ¬ ((uk : Nat) : Int) = 3 := by omega
    have hh : hit (uk, us, uv) (xk, xs, xv) = false := by simp [hit, h3]
    rw [hh]
    simp only [Bool.false_eq_true, if_false]
    refine ⟨?se, A1, kexec_run ?re, ?ke, k1⟩
    case re =>
      conv => lhs; whnf
      rw [kdec e1]
      conv => lhs; whnf
      rw [kdec e1]
      conv => lhs; whnf
      refine bind_of ((cellsAt_of hit0 _ _).trans hcell2) ?_
      conv => lhs; whnf
      refine bind_of (dstore_of (Hp.get_push_same _ _) (t := 29) (o := 0) (cs' := C) rfl) ?_
      conv => lhs; whnf
      refine bind_of (cellsAt_of hU1 _ _) ?_
      conv => lhs; whnf
      rw [show (((uk : Nat) : Int) == 3) = false from beq_eq_false_iff_ne.2 e3]
      conv => lhs; whnf
      try rfl
    case ke =>
      show [_, _, _, _, _, _, _, _, _, _, _, _, (53, Value.int .i64 (IntKind.i64.wrap ((j : Int) + 1)))] = _
      rw [hw2]

theorem drain_in_loop (lf : Nat) {A0 : Hp} (hw : A0.wf) (hit0 : A0.get it = some (.arr 29 (T.map tkc).flatten .own)) (hU : A0.get U = some (.arr 29 (tkc u) .own)) {c i : Nat} (hlf : T.length < lf) :
    ∃ A1 J, loopD (some [2, 3, 4, 7, 8, 9, 10, 44, 45, 46, 51, 52, 53]) (exec Tryd.bk.E call Tryd.f3.ntmps (Tryd.bk.inf 3) lf (loopOf Tryd.f3 2)) lf [(2, .bool false), (3, V3), (4, V4), (44, V44), (45, V45), (46, V46), (8, ptr U), (7, .int .i64 (i : Nat)), (9, .int .i64 0), (10, .bool false), (51, .slice (some ⟨it, 0, some 3⟩) T.length c), (52, .int .i64 (T.length : Nat)), (53, .int .i64 ((0 : Nat) : Int))] A0 =
      some (.exit 4, [(2, .bool false), (3, V3), (4, V4), (44, V44), (45, V45), (46, V46), (8, ptr U), (7, .int .i64 (i : Nat)), (9, .int .i64 (gs T u T.length)), (10, .bool (lt T u i T.length)), (51, .slice (some ⟨it, 0, some 3⟩) T.length c), (52, .int .i64 (T.length : Nat)), (53, J)], A1) ∧ Kp A0 A1 := by
  have key := loop_rule (ks := some [2, 3, 4, 7, 8, 9, 10, 44, 45, 46, 51, 52, 53]) (f := exec Tryd.bk.E call Tryd.f3.ntmps (Tryd.bk.inf 3) lf (loopOf Tryd.f3 2)) (S := Nat)
    (fun j => [(2, .bool false), (3, V3), (4, V4), (44, V44), (45, V45), (46, V46), (8, ptr U), (7, .int .i64 (i : Nat)), (9, .int .i64 (gs T u j)), (10, .bool (lt T u i j)), (51, .slice (some ⟨it, 0, some 3⟩) T.length c), (52, .int .i64 (T.length : Nat)), (53, .int .i64 (j : Nat))])
    (fun j A => j ≤ T.length ∧ Kp A0 A) (fun j => T.length - j)
    (fun e σ A1 => e = .exit 4 ∧ ∃ J, σ = [(2, .bool false), (3, V3), (4, V4), (44, V44), (45, V45), (46, V46), (8, ptr U), (7, .int .i64 (i : Nat)), (9, .int .i64 (gs T u T.length)), (10, .bool (lt T u i T.length)), (51, .slice (some ⟨it, 0, some 3⟩) T.length c), (52, .int .i64 (T.length : Nat)), (53, J)] ∧ Kp A0 A1) (fun j A hs => ?_)
    lf 0 A0 ⟨Nat.zero_le _, Kp.refl hw⟩ (by omega)
  · obtain ⟨e, σ1, A1, r1, rfl, J, rfl, r2⟩ := key
    have g0 : gs T u 0 = 0 := by unfold gs; split <;> simp [gsum]
    have l0 : lt T u i 0 = false := by unfold lt; simp
    rw [g0, l0] at r1
    exact ⟨A1, J, r1, r2⟩
  · obtain ⟨z1, z2⟩ := hs
    by_cases hj : j < T.length
    · obtain ⟨x, hx⟩ : ∃ x, T[j]? = some x := ⟨_, List.getElem?_eq_getElem hj⟩
      obtain ⟨σ1, A1, r1, r2, r3⟩ := drain_in (call := call) hTl hT V3 V4 V44 V45 V46 lf (A := A) z2.wf (by rw [z2.old _ (hw.lt hit0)]; exact hit0) (by rw [z2.old _ (hw.lt hU)]; exact hU) (c := c) (i := i) (b := lt T u i j) (gs_le (u := u) (j := j) hT) hx
      rw [← gs_step hx, ← lt_step hx] at r2
      exact ⟨.normal, σ1, A1, r1, .inl ⟨rfl, j + 1, r2, ⟨hj, z2.trans r3⟩, by omega⟩⟩
    · obtain rfl : j = T.length := by omega
      have e1 : ¬ ((T.length : Nat) : Int) < ((T.length : Nat) : Int) := by omega
      refine ⟨.exit 4, ?sz, A, kexec_run ?rz, .inr ⟨by simp, rfl, ?Jz, ?kz, z2⟩⟩
      case rz =>
        conv => lhs; whnf
        rw [kdecn e1]
      case kz => rfl
end
end Go.Dn.Ln
end

section
/-
  'LaneDrains', run: what comes out
-/
namespace Go.Dn.Ln
open Go.Proofs
set_option maxHeartbeats 4000000
set_option maxRecDepth 100000
attribute [local irreducible] Hp.get Hp.set Hp.push dappend dcopy dstore cellsAt callD loopD

def remT (T : List Tk) (i : Nat) : List Tk := (firsts (T.take i) (T.drop i)).map (asOne T)
theorem remT_step {T : List Tk} {i : Nat} {u : Tk} (h : T[i]? = some u) : remT T i = if laterB (T.take i) u then remT T (i + 1) else asOne T u :: remT T (i + 1) := by
  obtain ⟨h1, h2⟩ := List.getElem?_eq_some_iff.1 h
  unfold remT
  rw [take_succ h, List.drop_eq_getElem_cons h1, h2]
  simp only [firsts]
  split <;> simp
theorem lt_all {T : List Tk} {u : Tk} {i : Nat} (h : i ≤ T.length) : lt T u i T.length = laterB (T.take i) u := by
  unfold lt laterB
  rw [show min T.length i = i by omega]

section
variable {call : CallT} (h : LaneFns call) {A0 : Hp} {P : Nat} (hPl : P < A0.next) {T : List Tk} (hTl : T.length ≤ 2000) (hT : ∀ t ∈ T, 0 ≤ t.2.2 ∧ t.2.2 ≤ 4294967295) {it : Nat} (hitl : it < A0.next) (hitP : it ≠ P)
include h hPl hTl hT hitl hitP

theorem drain_out (lf : Nat) {A : Hp} (hk : KP P A0 A) (hit0 : A.get it = some (.arr 29 (T.map tkc).flatten .own)) {n c i : Nat} (hP : A.get P = some (.abs 3 (LX.dat ⟨remT T i, n⟩))) (hn : n ≤ 100000) {u : Tk} (hu : T[i]? = some u) (hlf : T.length < lf) :
    ∃ σ1 A1, exec Tryd.bk.E call Tryd.f3.ntmps (Tryd.bk.inf 3) lf (loopOf Tryd.f3 1) [(2, .bool false), (3, ptr P), (4, .slice (some ⟨it, 0, some 3⟩) T.length c), (44, .slice (some ⟨it, 0, some 3⟩) T.length c), (45, .int .i64 (T.length : Nat)), (46, .int .i64 (i : Nat))] A = some (.normal, σ1, A1) ∧
      keepSl (some [2, 3, 4, 44, 45, 46]) σ1 = [(2, .bool false), (3, ptr P), (4, .slice (some ⟨it, 0, some 3⟩) T.length c), (44, .slice (some ⟨it, 0, some 3⟩) T.length c), (45, .int .i64 (T.length : Nat)), (46, .int .i64 (i + 1 : Nat))] ∧ KP P A0 A1 ∧ A1.get it = some (.arr 29 (T.map tkc).flatten .own) ∧ A1.get P = some (.abs 3 (LX.dat ⟨remT T (i + 1), n⟩)) := by
  have hi : i < T.length := (List.getElem?_eq_some_iff.1 hu).1
  have hcell := tick_row hu
  have hok := hT u (List.mem_of_getElem? hu)
  obtain ⟨uk, us, uv⟩ := u
  simp only at hok
  have e1 : ((i : Nat) : Int) < ((T.length : Nat) : Int) := by omega
  have hw2 : IntKind.i64.wrap ((i : Int) + 1) = ((i + 1 : Nat) : Int) := by rw [w64 (by omega) (by omega)]; omega
  have hw := hk.wf
  have hnx := hk.nx
  let Z : List Value := [.int .i64 0, .int .u32 0, .int .u32 0]
  let C : List Value := [.int .i64 (uk : Nat), .int .u32 us, .int .u32 uv]
  have hcell2 : cellsIn (T.map tkc).flatten (0 + i * 3) 3 = some C := hcell
  let A1 : Hp := (A.push (.arr 29 Z .own)).set A.next (some (.arr 29 C .own))
  have k1 : Kp A A1 := (Kp.push hw (.arr 29 Z .own)).set (Hp.get_push_same _ _) (Nat.le_refl _) _
  have n1 : A1.next = A.next + 1 := by simp [A1]
  have q1 : A1.get A.next = some (.arr 29 C .own) := Hp.get_set_same _ _ _
  have i1 : A1.get it = some (.arr 29 (T.map tkc).flatten .own) := by rw [k1.old _ (by omega)]; exact hit0
  obtain ⟨A2, J, l1, k2⟩ := drain_in_loop (call := call) hTl hT (u := (uk, us, uv)) (ptr P) (.slice (some ⟨it, 0, some 3⟩) T.length c) (.slice (some ⟨it, 0, some 3⟩) T.length c) (.int .i64 (T.length : Nat)) (.int .i64 (i : Nat)) lf k1.wf i1 q1 (c := c) (i := i) hlf
  have q2 : A2.get A.next = some (.arr 29 C .own) := by rw [k2.old _ (by omega)]; exact q1
  have k12 : Kp A A2 := k1.trans k2
  have i2 : A2.get it = some (.arr 29 (T.map tkc).flatten .own) := by rw [k12.old _ (by omega)]; exact hit0
  have hP2 : A2.get P = some (.abs 3 (LX.dat ⟨remT T i, n⟩)) := by rw [k12.old _ (by omega)]; exact hP
  rw [lt_all (by omega)] at l1
  have hrem := remT_step hu
  have hS : gs T (uk, us, uv) T.length = if uk = 3 then gsum T us else 0 := by unfold gs; rw [List.take_length]
  generalize gs T (uk, us, uv) T.length = S at l1 hS
  cases hb : laterB (T.take i) (uk, us, uv) with
  | true =>
    rw [hb] at l1 hrem
    simp only [if_true] at hrem
    rw [hrem] at hP2
    refine ⟨?sa, A2, kexec_run ?ra, ?ka, hk.trans (k12.toP P), i2, hP2⟩
    case ra =>
      conv => lhs; whnf
      rw [kdec e1]
      conv => lhs; whnf
      rw [kdec e1]
      conv => lhs; whnf
      refine bind_of ((cellsAt_of hit0 _ _).trans hcell2) ?_
      conv => lhs; whnf
      refine bind_of (dstore_of (Hp.get_push_same _ _) (t := 29) (o := 0) (cs' := C) rfl) ?_
      conv => lhs; whnf
      refine bind_of l1 ?_
      conv => lhs; whnf
      try rfl
    case ka =>
      show [_, _, _, _, _, (46, Value.int .i64 (IntKind.i64.wrap ((i : Int) + 1)))] = _
      rw [hw2]
  | false =>
    rw [hb] at l1 hrem
    simp only [Bool.false_eq_true, if_false] at hrem
    rw [hrem] at hP2
    have hnext := h.next (NextR.mk A2 P _ hP2 (show n ≤ _ by omega))
    let gv : Int := if uk = 3 then gsum T us else uv
    have hnv : nextV (asOne T (uk, us, uv) :: remT T (i + 1)) = .tuple #[.agg #[.int .i64 (uk : Nat), .int .u32 us, .int .u32 gv], .bool true] := by
      unfold nextV asOne
      simp only [gv]
      by_cases h3 : uk = 3
      · rw [if_pos h3, if_pos h3, h3]
      · rw [if_neg h3, if_neg h3]
    simp only [hnv, List.tail_cons] at hnext
    let A3 : Hp := A2.set P (some (.abs 3 (LX.dat ⟨remT T (i + 1), n⟩)))
    let D : List Value := [.int .i64 (uk : Nat), .int .u32 us, .int .u32 gv]
    let A4 : Hp := (A3.push (.arr 29 Z .own)).set A3.next (some (.arr 29 D .own))
    have n3 : A3.next = A2.next := Hp.next_set _ _ _
    have w3 : A3.wf := k2.wf.put hP2 _
    have k4 : Kp A3 A4 := (Kp.push w3 (.arr 29 Z .own)).set (Hp.get_push_same _ _) (Nat.le_refl _) _
    have q4 : A4.get A3.next = some (.arr 29 D .own) := Hp.get_set_same _ _ _
    have o4 : ∀ j, j < A2.next → j ≠ P → A4.get j = A2.get j := fun j hj hp => by rw [k4.old _ (by omega)]; exact Hp.get_set_ne _ _ hp
    have u4 : A4.get A.next = some (.arr 29 C .own) := by rw [o4 _ (by have := k2.nx; omega) (by omega)]; exact q2
    have i4 : A4.get it = some (.arr 29 (T.map tkc).flatten .own) := by rw [o4 _ (by have := k2.nx; omega) hitP]; exact i2
    have hP4 : A4.get P = some (.abs 3 (LX.dat ⟨remT T (i + 1), n⟩)) := by rw [k4.old _ (by have := k2.nx; omega)]; exact Hp.get_set_same _ _ _
    have kA : KP P A0 A4 := ((hk.trans (k12.toP P)).setO hP2 _).trans (k4.toP P)
    by_cases h3 : uk = 3
    · have e3 : ((uk : Nat) : Int) = 3 := by omega
      have hgS : IntKind.i64.wrap gv = S := by
        have hgl := gsum_le T us hT
        rw [hS, if_pos h3, show gv = gsum T us from if_pos h3, w64 (by omega) (by omega)]
      refine ⟨?sb, A4, kexec_run ?rb, ?kb, kA, i4, hP4⟩
      case rb =>
        conv => lhs; whnf
        rw [kdec e1]
        conv => lhs; whnf
        rw [kdec e1]
        conv => lhs; whnf
        refine bind_of ((cellsAt_of hit0 _ _).trans hcell2) ?_
        conv => lhs; whnf
        refine bind_of (dstore_of (Hp.get_push_same _ _) (t := 29) (o := 0) (cs' := C) rfl) ?_
        conv => lhs; whnf
        refine bind_of l1 ?_
        conv => lhs; whnf
        refine bind_of hnext ?_
        conv => lhs; whnf
        refine bind_of (dstore_of (Hp.get_push_same _ _) (t := 29) (o := 0) (cs' := D) rfl) ?_
        conv => lhs; whnf
        refine bind_of (cellsAt_of q4 _ _) ?_
        conv => lhs; whnf
        refine bind_of (cellsAt_of u4 _ _) ?_
        conv => lhs; whnf
        rw [show (((uk : Nat) : Int) != ((uk : Nat) : Int)) = false from bne_self_eq_false _]
        conv => lhs; whnf
        refine bind_of (cellsAt_of q4 _ _) ?_
        conv => lhs; whnf
        refine bind_of (cellsAt_of u4 _ _) ?_
        conv => lhs; whnf
        rw [show (us != us) = false from bne_self_eq_false _]
        conv => lhs; whnf
        refine bind_of (cellsAt_of u4 _ _) ?_
        conv => lhs; whnf
        rw [show (((uk : Nat) : Int) == 3) = true from beq_iff_eq.2 e3]
        conv => lhs; whnf
        refine bind_of (cellsAt_of q4 _ _) ?_
        conv => lhs; whnf
        rw [show (IntKind.i64.wrap gv != S) = false from bne_eq_false_iff_eq.2 hgS]
        conv => lhs; whnf
        refine bind_of (cellsAt_of u4 _ _) ?_
        conv => lhs; whnf
        rw [show (((uk : Nat) : Int) != 3) = false from bne_eq_false_iff_eq.2 e3]
        conv => lhs; whnf
        try rfl
      case kb =>
        show [_, _, _, _, _, (46, Value.int .i64 (IntKind.i64.wrap ((i : Int) + 1)))] = _
        rw [hw2]
    · have e3 : ¬ ((uk : Nat) : Int) = 3 := by omega
      have hgv : gv = uv := if_neg h3
      refine ⟨?sc, A4, kexec_run ?rc, ?kc, kA, i4, hP4⟩
      case rc =>
        conv => lhs; whnf
        rw [kdec e1]
        conv => lhs; whnf
        rw [kdec e1]
        conv => lhs; whnf
        refine bind_of ((cellsAt_of hit0 _ _).trans hcell2) ?_
        conv => lhs; whnf
        refine bind_of (dstore_of (Hp.get_push_same _ _) (t := 29) (o := 0) (cs' := C) rfl) ?_
        conv => lhs; whnf
        refine bind_of l1 ?_
        conv => lhs; whnf
        refine bind_of hnext ?_
        conv => lhs; whnf
        refine bind_of (dstore_of (Hp.get_push_same _ _) (t := 29) (o := 0) (cs' := D) rfl) ?_
        conv => lhs; whnf
        refine bind_of (cellsAt_of q4 _ _) ?_
        conv => lhs; whnf
        refine bind_of (cellsAt_of u4 _ _) ?_
        conv => lhs; whnf
        rw [show (((uk : Nat) : Int) != ((uk : Nat) : Int)) = false from bne_self_eq_false _]
        conv => lhs; whnf
        refine bind_of (cellsAt_of q4 _ _) ?_
        conv => lhs; whnf
        refine bind_of (cellsAt_of u4 _ _) ?_
        conv => lhs; whnf
        rw [show (us != us) = false from bne_self_eq_false _]
        conv => lhs; whnf
        refine bind_of (cellsAt_of u4 _ _) ?_
        conv => lhs; whnf
        rw [show (((uk : Nat) : Int) == 3) = false from beq_eq_false_iff_ne.2 e3]
        conv => lhs; whnf
        refine bind_of (cellsAt_of u4 _ _) ?_
        conv => lhs; whnf
        rw [show (((uk : Nat) : Int) != 3) = true from bne_iff_ne.2 e3]
        conv => lhs; whnf
        refine bind_of (cellsAt_of q4 _ _) ?_
        conv => lhs; whnf
        refine bind_of (cellsAt_of u4 _ _) ?_
        conv => lhs; whnf
        rw [show (gv != uv) = false from bne_eq_false_iff_eq.2 hgv]
        conv => lhs; whnf
        try rfl
      case kc =>
        show [_, _, _, _, _, (46, Value.int .i64 (IntKind.i64.wrap ((i : Int) + 1)))] = _
        rw [hw2]
end
end Go.Dn.Ln
end

section
/-
  'LaneDrains', run: the whole
-/
namespace Go.Dn.Ln
open Go.Proofs
set_option maxHeartbeats 4000000
set_option maxRecDepth 100000
attribute [local irreducible] Hp.get Hp.set Hp.push dappend dcopy dstore cellsAt callD loopD

theorem remT_end (T : List Tk) : remT T T.length = [] := by
  unfold remT
  rw [List.drop_length]
  rfl
theorem remT_zero (T : List Tk) : remT T 0 = mg T := rfl

structure D1 where
  i : Nat
  T : List Tk
  n : Nat
  v : Value

theorem loop_out {ks : Option (List Nat)} {f : Sl → Hp → Option (Ex × Sl × Hp)} {σ σ1 : Sl} {A A1 : Hp} {e : Ex} (h : f σ A = some (e, σ1, A1)) (he : e ≠ .normal) {n : Nat} (hn : 0 < n) : loopD ks f n σ A = some (e, keepSl ks σ1, A1) := by
  obtain ⟨k, rfl⟩ : ∃ k, n = k + 1 := ⟨n - 1, by omega⟩
  exact loopD_end h he

theorem drain_put_end {call : CallT} (lf : Nat) {A : Hp} (a : Option Addr) (m c i : Nat) (V3 V4 : Value) (hi : ¬ i < m) :
    ∃ σ1, exec Tryd.bk.E call Tryd.f3.ntmps (Tryd.bk.inf 3) lf (loopOf Tryd.f3 0) [(2, .bool false), (3, V3), (4, V4), (24, .slice a m c), (25, .int .i64 (m : Nat)), (26, .int .i64 (i : Nat))] A = some (.exit 0, σ1, A) ∧
      keepSl (some [2, 3, 4, 24, 25, 26]) σ1 = [(2, .bool false), (3, V3), (4, V4), (24, .slice a m c), (25, .int .i64 (m : Nat)), (26, .int .i64 (i : Nat))] := by
  have e1 : ¬ ((i : Nat) : Int) < ((m : Nat) : Int) := by omega
  refine ⟨?s, kexec_run ?run, ?kp⟩
  case run =>
    conv => lhs; whnf
    rw [kdecn e1]
  case kp => rfl

theorem drain_out_end {call : CallT} (lf : Nat) {A : Hp} (V3 V4 V44 : Value) (m i : Nat) (hi : ¬ i < m) :
    ∃ σ1, exec Tryd.bk.E call Tryd.f3.ntmps (Tryd.bk.inf 3) lf (loopOf Tryd.f3 1) [(2, .bool false), (3, V3), (4, V4), (44, V44), (45, .int .i64 (m : Nat)), (46, .int .i64 (i : Nat))] A = some (.exit 2, σ1, A) ∧
      keepSl (some [2, 3, 4, 44, 45, 46]) σ1 = [(2, .bool false), (3, V3), (4, V4), (44, V44), (45, .int .i64 (m : Nat)), (46, .int .i64 (i : Nat))] := by
  have e1 : ¬ ((i : Nat) : Int) < ((m : Nat) : Int) := by omega
  refine ⟨?s, kexec_run ?run, ?kp⟩
  case run =>
    conv => lhs; whnf
    rw [kdecn e1]
  case kp => rfl

section
variable {call : CallT} (h : LaneFns call) {A0 : Hp} {P : Nat} (hPl : P < A0.next)
include h hPl

theorem drain_loop1 (hw0 : A0.wf) {ta : List TkA} (hta : ∀ t ∈ ta, 0 ≤ t.v ∧ t.v ≤ 4294967295) {ib : Nat} (hib : A0.get ib = some (.arr 29 (ta.map TkA.cells).flatten .sh)) (hibP : ib ≠ P) (lf : Nat) {m c : Nat} (hm : m ≤ ta.length) (hm2 : m ≤ 2000) (hlf : m < lf) (hP : A0.get P = some (.abs 3 (LX.dat ⟨[], 0⟩))) :
    ∃ A1 T n V4 L, loopD (some [2, 3, 4, 24, 25, 26]) (exec Tryd.bk.E call Tryd.f3.ntmps (Tryd.bk.inf 3) lf (loopOf Tryd.f3 0)) lf [(2, .bool false), (3, ptr P), (4, .slice none 0 0), (24, .slice (some ⟨ib, 0, some 3⟩) m c), (25, .int .i64 (m : Nat)), (26, .int .i64 ((0 : Nat) : Int))] A0 =
      some (.exit 0, [(2, .bool false), (3, ptr P), (4, V4), (24, .slice (some ⟨ib, 0, some 3⟩) m c), (25, .int .i64 (m : Nat)), (26, L)], A1) ∧ DI A0 P T n V4 A1 ∧ T.length ≤ m ∧ n ≤ m := by
  have key := loop_rule (ks := some [2, 3, 4, 24, 25, 26]) (f := exec Tryd.bk.E call Tryd.f3.ntmps (Tryd.bk.inf 3) lf (loopOf Tryd.f3 0)) (S := D1)
    (fun s => [(2, .bool false), (3, ptr P), (4, s.v), (24, .slice (some ⟨ib, 0, some 3⟩) m c), (25, .int .i64 (m : Nat)), (26, .int .i64 (s.i : Nat))])
    (fun s A => s.i ≤ m ∧ DI A0 P s.T s.n s.v A ∧ s.T.length ≤ s.i ∧ s.n ≤ s.i) (fun s => m - s.i)
    (fun e σ A1 => e = .exit 0 ∧ ∃ T n V4 L, σ = [(2, .bool false), (3, ptr P), (4, V4), (24, .slice (some ⟨ib, 0, some 3⟩) m c), (25, .int .i64 (m : Nat)), (26, L)] ∧ DI A0 P T n V4 A1 ∧ T.length ≤ m ∧ n ≤ m) (fun s A hs => ?_)
    lf ⟨0, [], 0, .slice none 0 0⟩ A0 ⟨Nat.zero_le _, ⟨KP.refl hw0, hP, ⟨none, .nil, by simp⟩, by simp⟩, Nat.le_refl _, Nat.le_refl _⟩ (by simp only; omega)
  · obtain ⟨e, σ1, A1, k1, rfl, T, n, V4, L, rfl, k2⟩ := key
    exact ⟨A1, T, n, V4, L, k1, k2⟩
  · obtain ⟨i, T, n, v⟩ := s
    obtain ⟨z1, z2, z3, z4⟩ := hs
    simp only at z1 z2 z3 z4 ⊢
    by_cases him : i < m
    · obtain ⟨σ1, A1, T', V4', r1, r2, r3, r4⟩ := drain_put h hPl hw0 hta hib hibP lf (c := c) z2 him hm hm2 (by omega) (by omega)
      exact ⟨.normal, σ1, A1, r1, .inl ⟨rfl, ⟨i + 1, T', n + 1, V4'⟩, r2, ⟨him, r3, by simp only; omega, by simp only; omega⟩, by simp only; omega⟩⟩
    · obtain ⟨σ1, r1, r2⟩ := drain_put_end (call := call) lf (A := A) (some ⟨ib, 0, some 3⟩) m c i (ptr P) v him
      exact ⟨.exit 0, σ1, A, r1, .inr ⟨by simp, rfl, T, n, v, _, r2, z2, by omega, by omega⟩⟩

theorem drain_loop2 {T : List Tk} (hTl : T.length ≤ 2000) {n : Nat} {a : Option Addr} {c : Nat} {A : Hp} (lf : Nat) (hD : DI A0 P T n (.slice a T.length c) A) (hn : n ≤ 100000) (hlf : T.length < lf) :
    ∃ A1 J, loopD (some [2, 3, 4, 44, 45, 46]) (exec Tryd.bk.E call Tryd.f3.ntmps (Tryd.bk.inf 3) lf (loopOf Tryd.f3 1)) lf [(2, .bool false), (3, ptr P), (4, .slice a T.length c), (44, .slice a T.length c), (45, .int .i64 (T.length : Nat)), (46, .int .i64 ((0 : Nat) : Int))] A =
      some (.exit 2, [(2, .bool false), (3, ptr P), (4, .slice a T.length c), (44, .slice a T.length c), (45, .int .i64 (T.length : Nat)), (46, J)], A1) ∧ A1.wf ∧ A1.get P = some (.abs 3 (LX.dat ⟨[], n⟩)) := by
  obtain ⟨io, hc, hio⟩ := hD.o4
  generalize hv : (Value.slice a T.length c) = v at hc
  generalize hfl : (T.map tkc).flatten = fl at hc
  generalize hol : T.length = ol at hc
  have hnil : T = [] → ∃ A1 J, loopD (some [2, 3, 4, 44, 45, 46]) (exec Tryd.bk.E call Tryd.f3.ntmps (Tryd.bk.inf 3) lf (loopOf Tryd.f3 1)) lf [(2, .bool false), (3, ptr P), (4, v), (44, v), (45, .int .i64 (ol : Nat)), (46, .int .i64 ((0 : Nat) : Int))] A =
      some (.exit 2, [(2, .bool false), (3, ptr P), (4, v), (44, v), (45, .int .i64 (ol : Nat)), (46, J)], A1) ∧ A1.wf ∧ A1.get P = some (.abs 3 (LX.dat ⟨[], n⟩)) := fun e => by
    subst e
    obtain ⟨σ1, r1, r2⟩ := drain_out_end (call := call) lf (A := A) (ptr P) v v ol 0 (by rw [← hol]; simp)
    have := loop_out (ks := some [2, 3, 4, 44, 45, 46]) r1 (by simp) (n := lf) (by omega)
    rw [r2] at this
    exact ⟨A, _, this, hD.kp.wf, hD.obj⟩
  cases hc with
  | nil =>
    exact hnil (List.length_eq_zero_iff.1 hol)
  | «at» it _ _ hg hl hp =>
    subst hol hfl
    have hitl : it < A.next := hD.kp.wf.lt hg
    have hitP : it ≠ P := by
      rintro rfl
      rw [hD.obj] at hg
      cases hg
    have key := loop_rule (ks := some [2, 3, 4, 44, 45, 46]) (f := exec Tryd.bk.E call Tryd.f3.ntmps (Tryd.bk.inf 3) lf (loopOf Tryd.f3 1)) (S := Nat)
      (fun i => [(2, .bool false), (3, ptr P), (4, .slice (some ⟨it, 0, some 3⟩) T.length (2 * T.length)), (44, .slice (some ⟨it, 0, some 3⟩) T.length (2 * T.length)), (45, .int .i64 (T.length : Nat)), (46, .int .i64 (i : Nat))])
      (fun i B => i ≤ T.length ∧ KP P A B ∧ B.get it = some (.arr 29 (T.map tkc).flatten .own) ∧ B.get P = some (.abs 3 (LX.dat ⟨remT T i, n⟩))) (fun i => T.length - i)
      (fun e σ B => e = .exit 2 ∧ ∃ J, σ = [(2, .bool false), (3, ptr P), (4, .slice (some ⟨it, 0, some 3⟩) T.length (2 * T.length)), (44, .slice (some ⟨it, 0, some 3⟩) T.length (2 * T.length)), (45, .int .i64 (T.length : Nat)), (46, J)] ∧ B.wf ∧ B.get P = some (.abs 3 (LX.dat ⟨[], n⟩))) (fun i B hs => ?_)
      lf 0 A ⟨Nat.zero_le _, KP.refl hD.kp.wf, hg, by rw [remT_zero]; exact hD.obj⟩ (by omega)
    · obtain ⟨e, σ1, A1, k1, rfl, J, rfl, k2⟩ := key
      exact ⟨A1, J, k1, k2⟩
    · obtain ⟨z1, z2, z3, z4⟩ := hs
      by_cases him : i < T.length
      · obtain ⟨u, hu⟩ : ∃ u, T[i]? = some u := ⟨_, List.getElem?_eq_getElem him⟩
        obtain ⟨σ1, A1, r1, r2, r3, r4, r5⟩ := drain_out h (by have := hD.kp.nx; omega) hTl hD.ok hitl hitP lf z2 z3 (c := 2 * T.length) z4 hn hu hlf
        exact ⟨.normal, σ1, A1, r1, .inl ⟨rfl, i + 1, r2, ⟨him, r3, r4, r5⟩, by omega⟩⟩
      · obtain rfl : i = T.length := by omega
        obtain ⟨σ1, r1, r2⟩ := drain_out_end (call := call) lf (A := B) (ptr P) (.slice (some ⟨it, 0, some 3⟩) T.length (2 * T.length)) (.slice (some ⟨it, 0, some 3⟩) T.length (2 * T.length)) T.length T.length him
        rw [remT_end] at z4
        exact ⟨.exit 2, σ1, B, r1, .inr ⟨by simp, rfl, _, r2, z2.wf, z4⟩⟩
end

theorem drain_mid {call : CallT} (h : LaneFns call) {A0 : Hp} {P : Nat} (hPl : P < A0.next) {T : List Tk} {n : Nat} {V : Value} {A : Hp} (hD : DI A0 P T n V A) :
    ∃ A', A' = A.set P (some (.abs 3 (LX.dat ⟨mg T, n⟩))) ∧ call 18 [ptr P] A = some (.int .i64 ((mg T).length : Nat), A') ∧ DI A0 P T n V A' ∧ ¬ ((T.length : Nat) : Int) < (((mg T).length : Nat) : Int) := by
  refine ⟨_, rfl, h.len (LenR.mk A P _ hD.obj), ⟨hD.kp.setO hD.obj _, Hp.get_set_same _ _ _, ?_, hD.ok⟩, ?_⟩
  · obtain ⟨io, hc, hio⟩ := hD.o4
    exact ⟨io, hc.keep fun j hj => Hp.get_set_ne _ _ (by have := hio j hj; omega), hio⟩
  · have := firsts_len T []
    unfold mg
    rw [List.length_map]
    omega

/-- the whole -/
theorem drains_walk {call : CallT} (h : LaneFns call) {A : Hp} (hw : A.wf) {ta : List TkA} (hta : ∀ t ∈ ta, 0 ≤ t.v ∧ t.v ≤ 4294967295) {a : Option Addr} {c : Nat} (hv : ArgSl 29 3 A (.slice a ta.length c) (ta.map TkA.cells).flatten ta.length) (hm : ta.length ≤ 1048576) (lf : Nat) (hlf : 2001 < lf) :
    ∃ A', kfn Tryd.bk.E call (Tryd.bk.inf 3) lf Tryd.f3 [.slice a ta.length c] A = some (.bool true, A') := by
  have hnew := h.new (NewR.mk A)
  let A1 : Hp := A.push (.abs 3 (LX.dat ⟨[], 0⟩))
  have hw1 : A1.wf := hw.push _
  have hn1 : A1.next = A.next + 1 := by simp [A1]
  have hP1 : A1.get A.next = some (.abs 3 (LX.dat ⟨[], 0⟩)) := Hp.get_push_same _ _
  have hPl : A.next < A1.next := by omega
  generalize hv0 : (Value.slice a ta.length c) = v0 at hv
  generalize hfl : (ta.map TkA.cells).flatten = fl at hv
  generalize hol : ta.length = ol at hv
  cases hv with
  | nil cc hcc =>
    rcases (by omega : cc = 0 ∨ cc = 1) with rfl | rfl
    · obtain ⟨σ1, r1, r2⟩ := drain_put_end (call := call) lf (A := A1) none 0 0 0 (ptr A.next) (.slice none 0 0) (by omega)
      have l1 := loop_out (ks := some [2, 3, 4, 24, 25, 26]) r1 (by simp) (n := lf) (by omega)
      rw [r2] at l1
      have p2 : DI A1 A.next [] 0 (.slice none ([] : List Tk).length 0) A1 := ⟨KP.refl hw1, hP1, ⟨none, .nil, by simp⟩, by simp⟩
      obtain ⟨A2', w2, hlen, hD2, e4⟩ := drain_mid h hPl p2
      obtain ⟨A3, J, l2, w3, hP3⟩ := drain_loop2 h hPl (by simp) lf hD2 (by omega) (by simp; omega)
      have hnext := h.next (NextR.mk A3 A.next _ hP3 (show 0 ≤ _ by omega))
      let Z : List Value := [.int .i64 0, .int .u32 0, .int .u32 0]
      let A4 : Hp := A3.set A.next (some (.abs 3 (LX.dat ⟨[], 0⟩)))
      let A5 : Hp := (A4.push (.arr 29 Z .own)).set A4.next (some (.arr 29 Z .own))
      have hPl3 := w3.lt hP3
      have n4 : A4.next = A3.next := Hp.next_set _ _ _
      have hP5 : A5.get A.next = some (.abs 3 (LX.dat ⟨[], 0⟩)) := by
        rw [Hp.get_set_ne _ _ (by omega), Hp.get_push_ne _ _ (by omega)]
        exact Hp.get_set_same _ _ _
      have hlen2 := h.len (LenR.mk A5 A.next _ hP5)
      refine ⟨?A1, ?run1⟩
      rotate_left 1
      case run1 =>
        conv => lhs; whnf
        refine bind_of (h.fixed _) ?_
        conv => lhs; whnf
        refine bind_of hnew ?_
        conv => lhs; whnf
        refine bind_of l1 ?_
        conv => lhs; whnf
        refine bind_of hlen ?_
        conv => lhs; whnf
        refine bind_of l2 ?_
        conv => lhs; whnf
        refine bind_of hnext ?_
        conv => lhs; whnf
        refine bind_of (dstore_of (Hp.get_push_same _ _) (t := 29) (o := 0) (cs' := Z) rfl) ?_
        conv => lhs; whnf
        refine bind_of hlen2 ?_
        conv => lhs; whnf
        try rfl
    · obtain ⟨σ1, r1, r2⟩ := drain_put_end (call := call) lf (A := A1) none 0 1 0 (ptr A.next) (.slice none 0 0) (by omega)
      have l1 := loop_out (ks := some [2, 3, 4, 24, 25, 26]) r1 (by simp) (n := lf) (by omega)
      rw [r2] at l1
      have p2 : DI A1 A.next [] 0 (.slice none ([] : List Tk).length 0) A1 := ⟨KP.refl hw1, hP1, ⟨none, .nil, by simp⟩, by simp⟩
      obtain ⟨A2', w2, hlen, hD2, e4⟩ := drain_mid h hPl p2
      obtain ⟨A3, J, l2, w3, hP3⟩ := drain_loop2 h hPl (by simp) lf hD2 (by omega) (by simp; omega)
      have hnext := h.next (NextR.mk A3 A.next _ hP3 (show 0 ≤ _ by omega))
      let Z : List Value := [.int .i64 0, .int .u32 0, .int .u32 0]
      let A4 : Hp := A3.set A.next (some (.abs 3 (LX.dat ⟨[], 0⟩)))
      let A5 : Hp := (A4.push (.arr 29 Z .own)).set A4.next (some (.arr 29 Z .own))
      have hPl3 := w3.lt hP3
      have n4 : A4.next = A3.next := Hp.next_set _ _ _
      have hP5 : A5.get A.next = some (.abs 3 (LX.dat ⟨[], 0⟩)) := by
        rw [Hp.get_set_ne _ _ (by omega), Hp.get_push_ne _ _ (by omega)]
        exact Hp.get_set_same _ _ _
      have hlen2 := h.len (LenR.mk A5 A.next _ hP5)
      refine ⟨?A3, ?run3⟩
      rotate_left 1
      case run3 =>
        conv => lhs; whnf
        refine bind_of (h.fixed _) ?_
        conv => lhs; whnf
        refine bind_of hnew ?_
        conv => lhs; whnf
        refine bind_of l1 ?_
        conv => lhs; whnf
        refine bind_of hlen ?_
        conv => lhs; whnf
        refine bind_of l2 ?_
        conv => lhs; whnf
        refine bind_of hnext ?_
        conv => lhs; whnf
        refine bind_of (dstore_of (Hp.get_push_same _ _) (t := 29) (o := 0) (cs' := Z) rfl) ?_
        conv => lhs; whnf
        refine bind_of hlen2 ?_
        conv => lhs; whnf
        try rfl
  | «at» id _ _ hg hl =>
    subst hol hfl
    obtain ⟨m, hm1, hm2, hmin⟩ : ∃ m : Nat, m ≤ ta.length ∧ m ≤ 2000 ∧ (if (2000 : Int) < ((ta.length : Nat) : Int) then (2000 : Int) else ((ta.length : Nat) : Int)) = ((m : Nat) : Int) := by
      by_cases h2 : 2000 < ta.length
      · exact ⟨2000, by omega, by omega, by rw [if_pos (by omega)]; rfl⟩
      · exact ⟨ta.length, by omega, by omega, by rw [if_neg (by omega)]⟩
    have e2 : (0 : Int) ≤ ((m : Nat) : Int) := by omega
    have e3 : ((m : Nat) : Int) ≤ ((2 * ta.length / 2 : Nat) : Int) := by omega
    have hidl := hw.lt hg
    obtain ⟨A2, T, n, V4, L, l1, p2, hTl, hn⟩ := drain_loop1 h hPl hw1 hta (ib := id) (by rw [Hp.get_push_ne _ _ (by omega)]; exact hg) (by omega) lf (c := 2 * (2 * ta.length / 2 - 0) + 2 * ta.length % 2) hm1 hm2 (by omega) hP1
    obtain ⟨a4, c4, rfl⟩ := p2.o4.choose_spec.1.sl3
    obtain ⟨A2', w2, hlen, hD2, e4⟩ := drain_mid h hPl p2
    obtain ⟨A3, J, l2, w3, hP3⟩ := drain_loop2 h hPl (by omega) lf hD2 (by omega) (by omega)
    have hnext := h.next (NextR.mk A3 A.next _ hP3 (show n ≤ _ by omega))
    let Z : List Value := [.int .i64 0, .int .u32 0, .int .u32 0]
    let A4 : Hp := A3.set A.next (some (.abs 3 (LX.dat ⟨[], n⟩)))
    let A5 : Hp := (A4.push (.arr 29 Z .own)).set A4.next (some (.arr 29 Z .own))
    have hPl3 := w3.lt hP3
    have n4 : A4.next = A3.next := Hp.next_set _ _ _
    have hP5 : A5.get A.next = some (.abs 3 (LX.dat ⟨[], n⟩)) := by
      rw [Hp.get_set_ne _ _ (by omega), Hp.get_push_ne _ _ (by omega)]
      exact Hp.get_set_same _ _ _
    have hlen2 := h.len (LenR.mk A5 A.next _ hP5)
    refine ⟨?A2, ?run2⟩
    rotate_left 1
    case run2 =>
      conv => lhs; whnf
      refine bind_of (h.fixed _) ?_
      conv => lhs; whnf
      refine bind_of hnew ?_
      conv => lhs; whnf
      rw [hmin, kdec e2]
      conv => lhs; whnf
      rw [kdec e3]
      conv => lhs; whnf
      refine bind_of l1 ?_
      conv => lhs; whnf
      refine bind_of hlen ?_
      conv => lhs; whnf
      rw [kdecn e4]
      conv => lhs; whnf
      refine bind_of l2 ?_
      conv => lhs; whnf
      refine bind_of hnext ?_
      conv => lhs; whnf
      refine bind_of (dstore_of (Hp.get_push_same _ _) (t := 29) (o := 0) (cs' := Z) rfl) ?_
      conv => lhs; whnf
      refine bind_of hlen2 ?_
      conv => lhs; whnf
      try rfl
end Go.Dn.Ln
end

section
/-
  a list of tickets, read; 'LaneDrains' run over the base
-/
namespace Go.Dn.Ln
open Go.Proofs Go.ChangeShapes
open Go.Proofs.YtombnpednnngoaaDoor
set_option maxRecDepth 100000

theorem CE_wf : CE.wf := by
  intro i hi
  have hn : CE.next = 88 := rfl
  rw [hn] at hi
  cases h : CE.get i with
  | none => rfl
  | some o =>
    rcases CE_get h with ⟨h1, _⟩ | ⟨h1, _⟩
    · have := (show ∀ g ∈ errs, g < 88 by decide) i h1
      omega
    · omega

theorem lit_u32 {n : Int} (h : (Lit.int .u32 n).wf = true) : 0 ≤ n ∧ n ≤ 4294967295 := by
  simp only [Lit.wf, Bool.and_eq_true, decide_eq_true_eq] at h
  exact ⟨h.1, h.2⟩

theorem tk_of {H : Type} {A : Hp} {d : DataW H} {c : List Value} (h : ArgR Tryd.bk.E.T A 29 d c) : ∃ o : TkA, c = o.cells ∧ 0 ≤ o.v ∧ o.v ≤ 4294967295 := by
  obtain ⟨dd, css, rfl, rfl, l1, l2, l3⟩ := h.struct_inv (i := Go.Dn.Tryd.ti29) rfl rfl
  obtain ⟨c0, c1, c2, rfl⟩ : ∃ c0 c1 c2, css = [c0, c1, c2] := by
    match css, l2 with
    | [a, b, c], _ => exact ⟨a, b, c, rfl⟩
  obtain ⟨d0, d1, d2, rfl⟩ : ∃ d0 d1 d2, dd = [d0, d1, d2] := by
    match dd, l1 with
    | [a, b, c], _ => exact ⟨a, b, c, rfl⟩
  obtain ⟨k, _, rfl, _⟩ := (l3 0 _ d0 c0 rfl rfl rfl).int_inv (i := Go.Dn.Tryd.ti26) rfl rfl
  obtain ⟨s, _, rfl, _⟩ := (l3 1 _ d1 c1 rfl rfl rfl).int_inv (i := Go.Dn.Tryd.ti27) rfl rfl
  obtain ⟨v, _, rfl, hv⟩ := (l3 2 _ d2 c2 rfl rfl rfl).int_inv (i := Go.Dn.Tryd.ti27) rfl rfl
  exact ⟨⟨k, s, v⟩, rfl, lit_u32 hv⟩

theorem tks_list {H : Type} {A : Hp} : ∀ (css : List (List Value)) (els : List (DataW H)), els.length = css.length → (∀ (k : Nat) d c, els[k]? = some d → css[k]? = some c → ArgR Tryd.bk.E.T A 29 d c) →
    ∃ ops : List TkA, css = ops.map TkA.cells ∧ ∀ o ∈ ops, 0 ≤ o.v ∧ o.v ≤ 4294967295
  | [], els, _, _ => ⟨[], rfl, by simp⟩
  | c :: css, [], hl, _ => by simp at hl
  | c :: css, d :: els, hl, h => by
    obtain ⟨o, o1, o2⟩ := tk_of (h 0 d c rfl rfl)
    obtain ⟨ops, p1, p2⟩ := tks_list css els (by simpa using hl) fun k d c hd hc => h (k + 1) d c (by simpa using hd) (by simpa using hc)
    refine ⟨o :: ops, by rw [o1, p1]; rfl, fun x hx => ?_⟩
    rcases List.mem_cons.1 hx with rfl | hx
    · exact o2
    · exact p2 x hx

theorem drains_run {A : Hp} (hA : A.wf) {ta : List TkA} (hta : ∀ o ∈ ta, 0 ≤ o.v ∧ o.v ≤ 4294967295) {v : Value} (hv : ArgSl 29 3 A v (ta.map TkA.cells).flatten ta.length) (hm : ta.length ≤ 1048576) :
    ∃ n A', callD Tryd.bk (TL TF) n 3 [v] A = some (.bool true, A') := by
  obtain ⟨a, c, rfl⟩ : ∃ a c, v = .slice a ta.length c := by
    generalize ta.length = m at hv
    generalize (ta.map TkA.cells).flatten = fl at hv
    cases hv with
    | nil c hc => exact ⟨none, c, rfl⟩
    | «at» id _ us hg hl => exact ⟨some _, _, rfl⟩
  obtain ⟨k, hk⟩ : ∃ k : Nat, 2001 < k := ⟨2002, by omega⟩
  obtain ⟨A', r⟩ := drains_walk (TL_fns (base := TF) (fun A => rfl) k) hA hta hv hm k hk
  exact ⟨k + 1, A', callD_of rfl (fn := Tryd.f3) rfl r⟩
end Go.Dn.Ln
end
