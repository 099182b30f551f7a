/-
  Part of the abstract machine for this program.
-/
import Derived.Test.YtombnpednnngoaaDoorDnJ
import Derived.Test.YtombnpednnngoaaDoorPC
import Derived.Test.YtombnpednnngoaaDoorCards
import Derived.Test.YtombnpednnngoaaDoorTie
import Derived.WalkKit
import Derived.ProofKit
import Derived.OpenShut
import Derived.LaidLaws
import Derived.Deep.DeepHandedRow
import Derived.Test.YtombnpednnngoaaDoorPJ
import Derived.Test.YtombnpednnngoaaDoorPH
import Derived.Test.YtombnpednnngoaaDoorPE
import Derived.Test.YtombnpednnngoaaDoorPI

section
/-
  listed variables: sentinels and tables of plain data, mixed
-/
namespace Go.Dn
open Go.ChangeShapes

/-- a row of parts, one behind the other -/
def rdFields (P : Program) (rd : TypeId → DataW Unit → Option (List Value)) : List Field → List (DataW Unit) → Nat → Option (List Value)
  | [], [], _ => some []
  | f :: fs, d :: ds, o => if f.offset = o then (rd f.type d).bind fun c => if c.length = P.cellsOf f.type then (rdFields P rd fs ds (o + c.length)).map fun r => c ++ r else none else none
  | _, _, _ => none
def rdElems (rd : DataW Unit → Option (List Value)) (sz : Nat) : List (DataW Unit) → Option (List Value)
  | [] => some []
  | d :: ds => (rd d).bind fun c => if c.length = sz then (rdElems rd sz ds).map fun r => c ++ r else none
/-- the cells of plain data of a type -/
def rdw (P : Program) : Nat → TypeId → DataW Unit → Option (List Value)
  | 0, _, _ => none
  | n + 1, t, d => match P.underlying t, d with
    | some .bool, .lit (.bool b) => some [.bool b]
    | some (.int k), .lit (.int k' m) => if k' = k then some [.int k m] else none
    | some (.struct fs), .agg ds => (rdFields P (rdw P n) fs.toList ds 0).bind fun c => if c.length = P.cellsOf t then some c else none
    | some (.array m e), .agg ds => (rdElems (rdw P n e) (P.cellsOf e) ds).bind fun c => if c.length = P.cellsOf t ∧ ds.length = m then some c else none
    | _, _ => none

theorem mapM_nil_of {α β : Type} {f : α → Option β} {xs : List β} (h : ([] : List α).mapM f = some xs) : xs = [] := by
  simp at h; exact h
theorem mapM_cons_of {α β : Type} {f : α → Option β} {a : α} {l : List α} {xs : List β} (h : (a :: l).mapM f = some xs) : ∃ y ys, f a = some y ∧ l.mapM f = some ys ∧ xs = y :: ys := by
  rw [List.mapM_cons] at h
  cases h1 : f a with
  | none => rw [h1] at h; cases h
  | some y =>
    rw [h1] at h
    cases h2 : l.mapM f with
    | none => rw [h2] at h; cases h
    | some ys => rw [h2] at h; cases h; exact ⟨y, ys, rfl, rfl, rfl⟩

theorem fields_of {P : Program} {rd : TypeId → DataW Unit → Option (List Value)} {tr : TypeId → List Value → Option (DataW Unit × List MemPlace)}
    (ih : ∀ t seg d p c, tr t seg = some (d, p) → rd t d = some c → seg = c ∧ p = []) (cs : List Value) :
    ∀ (fs : List Field) (xs : List (DataW Unit × List MemPlace)) (o : Nat) (c : List Value), fs.mapM (fun f => tr f.type ((cs.drop f.offset).take (P.cellsOf f.type))) = some xs → rdFields P rd fs (xs.map (·.1)) o = some c →
      (cs.drop o).take c.length = c ∧ xs.flatMap (·.2) = []
  | [], xs, o, c, h, hr => by
    obtain rfl := mapM_nil_of h
    simp [rdFields] at hr
    subst hr
    simp
  | f :: fs, xs, o, c, h, hr => by
    obtain ⟨⟨d, p⟩, ys, h1, h2, rfl⟩ := mapM_cons_of h
    simp only [List.map_cons, rdFields] at hr
    split at hr
    · rename_i ho
      subst ho
      cases h3 : rd f.type d with
      | none => rw [h3] at hr; cases hr
      | some c1 =>
        rw [h3] at hr
        simp only [Option.bind_some] at hr
        split at hr
        · rename_i hl
          cases h4 : rdFields P rd fs (ys.map (·.1)) (f.offset + c1.length) with
          | none => rw [h4] at hr; cases hr
          | some c2 =>
            rw [h4] at hr
            cases hr
            obtain ⟨e1, e2⟩ := ih _ _ _ _ _ h1 h3
            obtain ⟨e3, e4⟩ := fields_of ih cs fs ys (f.offset + c1.length) c2 h2 h4
            subst e2
            refine ⟨?_, by simpa using e4⟩
            rw [← hl] at e1
            rw [List.length_append, List.take_add, e1, List.drop_drop, e3]
        · cases hr
    · cases hr

theorem elems_of {rd : DataW Unit → Option (List Value)} {tr : List Value → Option (DataW Unit × List MemPlace)} {sz : Nat}
    (ih : ∀ seg d p c, tr seg = some (d, p) → rd d = some c → seg = c ∧ p = []) (cs : List Value) :
    ∀ (n o : Nat) (xs : List (DataW Unit × List MemPlace)) (c : List Value), (List.range' o n).mapM (fun i => tr ((cs.drop (i * sz)).take sz)) = some xs → rdElems rd sz (xs.map (·.1)) = some c →
      (cs.drop (o * sz)).take c.length = c ∧ xs.flatMap (·.2) = []
  | 0, o, xs, c, h, hr => by
    obtain rfl := mapM_nil_of h
    simp [rdElems] at hr
    subst hr
    simp
  | n + 1, o, xs, c, h, hr => by
    rw [List.range'_succ] at h
    obtain ⟨⟨d, p⟩, ys, h1, h2, rfl⟩ := mapM_cons_of h
    simp only [List.map_cons, rdElems] at hr
    cases h3 : rd d with
    | none => rw [h3] at hr; cases hr
    | some c1 =>
      rw [h3] at hr
      simp only [Option.bind_some] at hr
      split at hr
      · rename_i hl
        cases h4 : rdElems rd sz (ys.map (·.1)) with
        | none => rw [h4] at hr; cases hr
        | some c2 =>
          rw [h4] at hr
          cases hr
          obtain ⟨e1, e2⟩ := ih _ _ _ _ h1 h3
          obtain ⟨e3, e4⟩ := elems_of ih cs n (o + 1) ys c2 h2 h4
          subst e2
          refine ⟨?_, by simpa using e4⟩
          have e5 : (cs.drop (o * sz)).drop c1.length = cs.drop ((o + 1) * sz) := by
            rw [List.drop_drop, hl, Nat.add_mul, Nat.one_mul]
          have e6 : (cs.drop (o * sz)).take c1.length = c1 := by rw [hl]; exact e1
          rw [List.length_append, List.take_add, e6, e5, e3]
      · cases hr

theorem rdw_of {P : Program} {w : World} {base : Nat} {spare : Nat → Bool} : ∀ (n fuel : Nat) (t : TypeId) (cs : List Value) (d : DataW Unit) (p : List MemPlace) (c : List Value),
    DataW.trod (fun _ => ()) P w base spare false fuel t cs = some (d, p) → rdw P n t d = some c → cs = c ∧ p = []
  | 0, _, _, _, _, _, _, _, h => by cases h
  | n + 1, 0, _, _, _, _, _, h, _ => by cases h
  | n + 1, fuel + 1, t, cs, d, p, c, h, hr => by
    have ih := fun t seg d p c => rdw_of (P := P) (w := w) (base := base) (spare := spare) n fuel t seg d p c
    unfold rdw at hr
    split at hr
    · rename_i hu
      cases hr
      unfold DataW.trod at h
      rw [hu] at h
      split at h <;> simp_all
    · rename_i k k' m hu
      split at hr
      · rename_i hk
        subst hk
        cases hr
        unfold DataW.trod at h
        rw [hu] at h
        split at h <;> simp_all
      · cases hr
    · rename_i fs ds hu
      cases h1 : rdFields P (rdw P n) fs.toList ds 0 with
      | none => rw [h1] at hr; cases hr
      | some c1 =>
        rw [h1] at hr
        simp only [Option.bind_some] at hr
        split at hr
        · rename_i hl
          cases hr
          unfold DataW.trod at h
          rw [hu] at h
          simp only at h
          split at h
          · rename_i hcl
            cases h2 : fs.toList.mapM (fun f => DataW.trod (fun _ => ()) P w base spare false fuel f.type ((cs.drop f.offset).take (P.cellsOf f.type))) with
            | none => rw [h2] at h; cases h
            | some xs =>
              rw [h2] at h
              simp only [Option.map_some, Option.some.injEq, Prod.mk.injEq, DataW.agg.injEq] at h
              obtain ⟨h3, h4⟩ := h
              subst h3
              obtain ⟨e1, e2⟩ := fields_of (P := P) ih cs _ xs 0 _ h2 h1
              refine ⟨?_, by rw [← h4]; exact e2⟩
              rw [List.drop_zero, List.take_of_length_le (by omega)] at e1
              exact e1
          · cases h
        · cases hr
    · rename_i m e ds hu
      cases h1 : rdElems (rdw P n e) (P.cellsOf e) ds with
      | none => rw [h1] at hr; cases hr
      | some c1 =>
        rw [h1] at hr
        simp only [Option.bind_some] at hr
        split at hr
        · rename_i hl
          cases hr
          unfold DataW.trod at h
          rw [hu] at h
          simp only at h
          split at h
          · rename_i hcl
            rw [List.range_eq_range'] at h
            cases h2 : (List.range' 0 m).mapM (fun i => DataW.trod (fun _ => ()) P w base spare false fuel e ((cs.drop (i * P.cellsOf e)).take (P.cellsOf e))) with
            | none => rw [h2] at h; cases h
            | some xs =>
              rw [h2] at h
              simp only [Option.map_some, Option.some.injEq, Prod.mk.injEq, DataW.agg.injEq] at h
              obtain ⟨h3, h4⟩ := h
              subst h3
              obtain ⟨e1, e2⟩ := elems_of (ih e) cs m 0 xs _ h2 h1
              refine ⟨?_, by rw [← h4]; exact e2⟩
              rw [Nat.zero_mul, List.drop_zero, List.take_of_length_le (by omega)] at e1
              exact e1
          · cases h
        · cases hr
    · cases hr

/-- a table's variable -/
def TabVar (P : Program) (w : World) (n : String) (g : Nat) (cs : List Value) : Prop :=
  P.globalNamed n = some g ∧ ∃ T fz, w.heap[g]? = some (.cells cs.toArray T fz)

theorem laid_mix {P : Program} {w : World} {te tp ts : TypeId} (hE : ErrT P te tp ts) : ∀ (L : List (String × DataW Unit)) (ps : List MemPlace),
    (∀ x ∈ L, (isErr x.2 = true ∧ ∃ g, P.globalNamed x.1 = some g ∧ (P.globals[g]?).map (·.type) = some te) ∨ (isErr x.2 = false ∧ ∃ g t c, P.globalNamed x.1 = some g ∧ (P.globals[g]?).map (·.type) = some t ∧ rdw P 20 t x.2 = some c)) →
    DataW.LaidVars P w L ps → (∀ b off, MemPlace.cell b off ∈ ps → ∀ u v, w.cell? ⟨b, off, none⟩ = some (.iface u v) → Value.okWide P w .any 0 u v) →
    ∃ ads : List (Nat × Addr), ads.length = (L.filter fun x => isErr x.2).length ∧ (errPlaces ads).Sublist ps ∧ (∀ (k : Nat) x y, (L.filter fun x => isErr x.2)[k]? = some x → ads[k]? = some y → ErrVar P w tp x.1 y.1 y.2) ∧
      ∀ x ∈ L, isErr x.2 = false → ∃ g t c, (P.globals[g]?).map (·.type) = some t ∧ rdw P 20 t x.2 = some c ∧ TabVar P w x.1 g c
  | [], ps, _, h, _ => ⟨[], rfl, List.nil_sublist _, by simp, by simp⟩
  | x :: L, ps, hl, h, hok => by
    obtain ⟨n, d⟩ := x
    have hh := h
    obtain ⟨g, t, cs, fuel, p, q, h1, h2, h3, h4, h5, rfl⟩ := h
    obtain ⟨ads, r1, r2, r3, r4⟩ := laid_mix hE L q (fun y hy => hl y (by simp [hy])) h5 (fun b off hb => hok b off (by simp [hb]))
    rcases hl (n, d) (by simp) with ⟨e1, g', e2, e3⟩ | ⟨e1, g', t', c, e2, e3, e4⟩
    · simp only at e1 e2
      have hone : DataW.LaidVars P w [(n, d)] (MemPlace.row ⟨g, 0, none⟩ cs.size ++ p ++ []) := ⟨g, t, cs, fuel, p, [], h1, h2, h3, h4, rfl, rfl⟩
      obtain ⟨as1, s1, s2, s3⟩ := laid_errs hE [(n, d)] _ (fun y hy => by simp only [List.mem_singleton] at hy; subst hy; exact ⟨e1, g', e2, e3⟩) hone (fun b off hb => hok b off (by simp at hb ⊢; rcases hb with hb | hb <;> simp [hb]))
      obtain ⟨a1, rfl⟩ : ∃ a, as1 = [a] := by
        match as1, s1 with
        | [a], _ => exact ⟨a, rfl⟩
      obtain ⟨ga, aa⟩ := a1
      refine ⟨(ga, aa) :: ads, by simp [e1, r1], ?_, fun k x y hk hy => ?_, fun x hx hxe => ?_⟩
      · have : errPlaces ((ga, aa) :: ads) = errPlaces [(ga, aa)] ++ errPlaces ads := by simp [errPlaces]
        rw [this, ← s2]
        simp only [List.append_nil]
        exact List.Sublist.append (List.Sublist.refl _) r2
      · rw [List.filter_cons, if_pos (by simpa using e1)] at hk
        cases k with
        | zero =>
          simp at hk hy
          subst hk; subst hy
          exact s3 0 _ _ rfl rfl
        | succ k => exact r3 k x y (by simpa using hk) (by simpa using hy)
      · rcases List.mem_cons.1 hx with rfl | hx
        · simp only at hxe; rw [e1] at hxe; cases hxe
        · exact r4 x hx hxe
    · simp only at e1 e2 e4
      rw [h1] at e2; cases e2
      rw [h2] at e3; cases e3
      obtain ⟨k1, k2⟩ := rdw_of 20 fuel t cs.toList d p c h4 e4
      refine ⟨ads, by simp [e1, r1], List.Sublist.trans r2 (List.sublist_append_right _ _), fun k x y hk hy => ?_, fun x hx hxe => ?_⟩
      · rw [List.filter_cons, if_neg (by simp [e1])] at hk
        exact r3 k x y hk hy
      · rcases List.mem_cons.1 hx with rfl | hx
        · refine ⟨g, t, c, h2, e4, h1, ?_⟩
          unfold World.var? at h3
          rw [h1] at h3
          simp only [Option.bind_some] at h3
          split at h3
          · rename_i c' T fz hh
            cases h3
            exact ⟨T, fz, by rw [hh, ← k1, Array.toArray_toList]⟩
          · cases h3
        · exact r4 x hx hxe
end Go.Dn
end

section
namespace Go.Dn.Ln
open Go.Proofs Go.ChangeShapes
set_option maxRecDepth 100000

/-! ## what the rows' lists give -/
theorem star : "*" ++ "errors.errorString" = "*errors.errorString" := by decide
theorem errT : ErrT Tryd.prog 31 206 230 :=
  ⟨⟨_, Tryd.underlying31⟩, fun u h => typeName_ptr_named (nm := "errors.errorString") (by rw [star]; kernel_rfl) (by kernel_rfl) (by decide) u (by rw [star]; exact h), Tryd.underlying206,
    ⟨_, _, Tryd.underlying230, rfl, rfl, Tryd.underlying9, by kernel_rfl, by kernel_rfl⟩⟩

/-- the rows of the globals, as the program begins -/
theorem rows : (List.range 44).map (fun g => (((begin Tryd.prog (fun _ _ => 0) default).world.heap[g]?).bind Obj.row?).map (fun x => x.2)) = (List.range 44).map (fun g => (Tryd.prog.globals[g]?).map (·.type)) := by kernel_rfl
theorem types : (List.range 44).all (fun g => ((Tryd.prog.globals[g]?).map (·.type)).isSome) = true := by kernel_rfl
theorem gsize : Tryd.prog.globals.size = 44 := Tryd.good.glob.symm

theorem hrow_of {W : World} (hS : W.ShapedOpen Tryd.prog) : ∀ g, g < 44 → ∃ c t, W.heap[g]? = some (.cells c t (0, 0)) ∧ (Tryd.prog.globals[g]?).map (·.type) = some t := by
  intro g hg
  have h1 := congrArg (fun l => l[g]?) rows
  simp only [List.getElem?_map, List.getElem?_range hg, Option.map_some, Option.some.injEq] at h1
  have h2 := List.all_eq_true.1 types g (List.mem_range.2 hg)
  cases ht : (Tryd.prog.globals[g]?).map (·.type) with
  | none => rw [ht] at h2; cases h2
  | some t =>
    rw [ht] at h1
    cases hb : ((begin Tryd.prog (fun _ _ => 0) default).world.heap[g]?).bind Obj.row? with
    | none => rw [hb] at h1; cases h1
    | some x =>
      obtain ⟨zero, t'⟩ := x
      rw [hb] at h1
      simp only [Option.map_some, Option.some.injEq] at h1
      subst h1
      obtain ⟨cs, k1, _⟩ := hS.1 g zero t' (by rw [gsize]; exact hg) hb
      exact ⟨cs, t', k1, rfl⟩

noncomputable def mixOk (L : List (String × DataW Unit)) : Bool := L.all fun x => match Tryd.prog.globalNamed x.1 with
  | some g => Nat.blt g 44 && bif isErr x.2 then decide ((Tryd.prog.globals[g]?).map (·.type) = some 31) else match (Tryd.prog.globals[g]?).map (·.type) with
    | some t => (rdw Tryd.prog 20 t x.2).isSome
    | none => false
  | none => false
noncomputable def coversE (L : List (String × DataW Unit)) (gs : List Nat) : Bool := gs.all fun g => L.any fun x => isErr x.2 && Tryd.prog.globalNamed x.1 == some g

/-- the beginning, for the laws that list sentinels and tables -/
theorem begin_rep (rep : Nat → Dat → Hp → Nat → Prop) {W : World} (hS : W.ShapedOpen Tryd.prog) {L : List (String × DataW Unit)} (hL : laidMet Tryd.prog L W) (h1 : mixOk L = true) {C : Hp} (hCn : C.next = 88)
    (hC : ∀ i o, C.get i = some o → (∃ x ∈ L, isErr x.2 = true ∧ Tryd.prog.globalNamed x.1 = some i ∧ o = er i) ∨
      (∃ x ∈ L, isErr x.2 = false ∧ Tryd.prog.globalNamed x.1 = some i ∧ ∃ t c, (Tryd.prog.globals[i]?).map (·.type) = some t ∧ rdw Tryd.prog 20 t x.2 = some c ∧ o = .arr t c .ro ∧ ∀ u ∈ c, plain0 u = true)) :
    ∃ R : Reps, R.C = C ∧ R.rep = rep ∧ Rel Tryd.prog R.ρC C W ∧ (∀ i p, i < C.next → R.ρC i = some p → p.blk < W.heap.size) ∧ ConW Tryd.prog W := by
  obtain ⟨ps, hl, hn, hp⟩ := hL
  have hchk : ∀ x ∈ L, ∃ g, Tryd.prog.globalNamed x.1 = some g ∧ g < 44 ∧ ((isErr x.2 = true ∧ (Tryd.prog.globals[g]?).map (·.type) = some 31) ∨ (isErr x.2 = false ∧ ∃ t c, (Tryd.prog.globals[g]?).map (·.type) = some t ∧ rdw Tryd.prog 20 t x.2 = some c)) := by
    intro x hx
    have := List.all_eq_true.1 h1 x hx
    cases hg : Tryd.prog.globalNamed x.1 with
    | none => rw [hg] at this; cases this
    | some g =>
      rw [hg] at this
      simp only [Bool.and_eq_true, Nat.blt_eq] at this
      obtain ⟨k1, k2⟩ := this
      refine ⟨g, rfl, k1, ?_⟩
      cases he : isErr x.2 with
      | true => rw [he] at k2; exact .inl ⟨rfl, by simpa using k2⟩
      | false =>
        rw [he] at k2
        simp only [cond_false] at k2
        cases ht : (Tryd.prog.globals[g]?).map (·.type) with
        | none => rw [ht] at k2; cases k2
        | some t =>
          rw [ht] at k2
          simp only at k2
          obtain ⟨c, hc⟩ := Option.isSome_iff_exists.1 k2
          exact .inr ⟨rfl, t, c, rfl, hc⟩
  obtain ⟨ads, e1, e2, e3, e4⟩ := laid_mix errT L ps (fun x hx => by
    obtain ⟨g, b1, b2, b3⟩ := hchk x hx
    rcases b3 with ⟨c1, c2⟩ | ⟨c1, t, c, c2, c3⟩
    · exact .inl ⟨c1, g, b1, c2⟩
    · exact .inr ⟨c1, g, t, c, b1, c2, c3⟩) hl (fun b off hb => (hp b off hb).2)
  have hn' : (errPlaces ads).Nodup := hn.sublist e2
  have hE : ∀ x ∈ ads, ∃ y ∈ L.filter (fun x => isErr x.2), ErrVar Tryd.prog W 206 y.1 x.1 x.2 := by
    intro x hx
    obtain ⟨k, hk⟩ := List.getElem?_of_mem hx
    have hkl : k < (L.filter fun x => isErr x.2).length := by rw [← e1]; exact (List.getElem?_eq_some_iff.1 hk).1
    exact ⟨_, List.getElem_mem hkl, e3 k _ x (List.getElem?_eq_getElem hkl) hk⟩
  have key := consts_start (P := Tryd.prog) (W := W) (te := 31) (tp := 206) gsize ads hn' (hrow_of hS) (fun x hx => by
    obtain ⟨y, hy, q1, q2, q3, _⟩ := hE x hx
    obtain ⟨hyL, hye⟩ := List.mem_filter.1 hy
    obtain ⟨g, r1, r2, r3⟩ := hchk y hyL
    rw [q1] at r1; cases r1
    rcases r3 with ⟨_, r4⟩ | ⟨r4, _⟩
    · exact ⟨r2, r4, q2, q3, (hp _ _ (e2.subset (errPlaces_mem hx).2)).1⟩
    · rw [r4] at hye; cases hye) C hCn (fun i o hi => by
    rcases hC i o hi with ⟨y, hy, q0, q1, rfl⟩ | ⟨y, hy, q0, q1, t, c, q2, q3, rfl, q4⟩
    · left
      have hyf : y ∈ L.filter fun x => isErr x.2 := List.mem_filter.2 ⟨hy, q0⟩
      obtain ⟨k, hk⟩ := List.getElem?_of_mem hyf
      have hkl : k < ads.length := by rw [e1]; exact (List.getElem?_eq_some_iff.1 hk).1
      have := e3 k y ads[k] hk (List.getElem?_eq_getElem hkl)
      have h0 := this.1
      rw [q1] at h0
      refine ⟨ads[k].2, ?_, rfl⟩
      have : ads[k] = (i, ads[k].2) := by rw [Option.some.inj h0]
      rw [← this]; exact List.getElem_mem hkl
    · right
      obtain ⟨g, t', c', r1, r2, r3, T, fz, r4⟩ := e4 y hy q0
      rw [q1] at r3; cases r3
      rw [q2] at r1; cases r1
      rw [q3] at r2; cases r2
      obtain ⟨g', b1, b2, _⟩ := hchk y hy
      rw [q1] at b1; cases b1
      obtain ⟨c0, t0, s1, s2⟩ := hrow_of hS i b2
      rw [q2] at s2; cases s2
      rw [s1] at r4; cases r4
      exact ⟨t, c, b2, rfl, q2, q4, (0, 0), s1⟩)
  obtain ⟨c1, c2, c3, c4, c5⟩ := key
  let R : Reps := { rep := rep, C := C, ρC := fun i => if i < 44 + 44 then placeC 44 C ads i else none, Cro := c1, Cpl := c2 }
  exact ⟨R, rfl, rfl, c3, c4, c5 (R := R) rfl rfl⟩

/-! ## a world for the witness -/
noncomputable def lowT : Nat := (World.holding Tryd.prog default ⟨#[], #[], []⟩).heap.size
def textOf : DataW Unit → ByteArray
  | .iface _ (.ptr (.agg [.lit (.string s)])) => ⟨s.toArray⟩
  | _ => .empty
noncomputable def setErr (h : Array Obj) (g k : Nat) : Array Obj := h.modify g fun
  | .cells _ t fr => .cells #[.iface 206 (.pointer (some ⟨lowT + k, 0, none⟩))] t fr
  | o => o
noncomputable def setTab (h : Array Obj) (g : Nat) (c : List Value) : Array Obj := h.modify g fun
  | .cells _ t fr => .cells c.toArray t fr
  | o => o
noncomputable def tabOf (g : Nat) (d : DataW Unit) : List Value := (((Tryd.prog.globals[g]?).map (·.type)).bind fun t => rdw Tryd.prog 20 t d).getD []
noncomputable def setErrs (L : List (String × DataW Unit)) (k : Nat) (h : Array Obj) : Array Obj := match L with
  | [] => h
  | x :: l => setErrs l (k + 1) (match Tryd.prog.globalNamed x.1 with
    | some g => bif isErr x.2 then setErr h g k else setTab h g (tabOf g x.2)
    | none => h)
noncomputable def laidWorld (L : List (String × DataW Unit)) (os : Os) : World :=
  { World.holding Tryd.prog os ⟨(L.map fun x => Obj.cells #[.string (textOf x.2)] 230).toArray, #[], []⟩ with
    heap := setErrs L 0 (World.holding Tryd.prog os ⟨(L.map fun x => Obj.cells #[.string (textOf x.2)] 230).toArray, #[], []⟩).heap }

end Go.Dn.Ln

namespace Go.Proofs.YtombnpednnngoaaDoor.bulks
theorem one_le {H : Type} (d : DataW H) : 1 ≤ Rows.uptoBulk d := by
  cases d with
  | lit l => cases l <;> simp [Rows.uptoBulk]
  | nil => simp [Rows.uptoBulk]
  | ptr d => simp [Rows.uptoBulk]
  | slice elems spare => simp [Rows.uptoBulk]
  | agg parts => simp [Rows.uptoBulk]
  | iface t d => simp [Rows.uptoBulk]
  | map entries => simp [Rows.uptoBulk]
  | held h => simp [Rows.uptoBulk]

/-- a part's bulk is at most the whole's -/
theorem part_le {H : Type} {d : DataW H} {l : List (DataW H)} (h : d ∈ l) : Rows.uptoBulk d ≤ Rows.uptoBulkAll l := by
  induction l with
  | nil => cases h
  | cons x r ih =>
    simp only [Rows.uptoBulkAll]
    cases List.mem_cons.1 h with
    | inl e => subst e; omega
    | inr e => have := ih e; omega

theorem append {H : Type} (l r : List (DataW H)) : Rows.uptoBulkAll (l ++ r) = Rows.uptoBulkAll l + Rows.uptoBulkAll r := by
  induction l with
  | nil => simp [Rows.uptoBulkAll]
  | cons x l ih => simp only [List.cons_append, Rows.uptoBulkAll, ih]; omega

/-- so many values at the most -/
theorem length_le {H : Type} (l : List (DataW H)) : l.length ≤ Rows.uptoBulkAll l := by
  induction l with
  | nil => simp [Rows.uptoBulkAll]
  | cons x r ih => have := one_le x; simp only [Rows.uptoBulkAll, List.length_cons]; omega

/-- a slice's places, and what they hold -/
theorem slice_le {H : Type} (elems spare : List (DataW H)) : elems.length + spare.length + 1 ≤ Rows.uptoBulk (.slice elems spare) := by
  have h1 := length_le elems
  have h2 := length_le spare
  simp only [Rows.uptoBulk]
  omega
theorem slice_elems {H : Type} (elems spare : List (DataW H)) : Rows.uptoBulkAll elems + 1 ≤ Rows.uptoBulk (.slice elems spare) := by
  simp only [Rows.uptoBulk]
  omega

/-- a string's letters -/
theorem string_eq {H : Type} (bytes : List UInt8) : Rows.uptoBulk (DataW.lit (H := H) (.string bytes)) = bytes.length + 1 := by
  simp [Rows.uptoBulk]

/-- THE BOUND, as the builder hands it over ('hk') -/
theorem bound {H : Type} {l : List (DataW H)} (hk : Rows.uptoSmall H l = true) : Rows.uptoBulkAll l ≤ 1048576 := of_decide_eq_true hk


end Go.Proofs.YtombnpednnngoaaDoor.bulks
end

section
/-
  a list of tickets, read; 'LaneDrains' run over the base
-/
namespace Go.Dn.Ln
open Go.Proofs Go.ChangeShapes
open Go.Proofs.YtombnpednnngoaaDoor
set_option maxRecDepth 100000

theorem CE_wf : CE.wf := by
  intro i hi
  have hn : CE.next = 88 := rfl
  rw [hn] at hi
  cases h : CE.get i with
  | none => rfl
  | some o =>
    rcases CE_get h with ⟨h1, _⟩ | ⟨h1, _⟩
    · have := (show ∀ g ∈ errs, g < 88 by decide) i h1
      omega
    · omega

theorem lit_u32 {n : Int} (h : (Lit.int .u32 n).wf = true) : 0 ≤ n ∧ n ≤ 4294967295 := by
  simp only [Lit.wf, Bool.and_eq_true, decide_eq_true_eq] at h
  exact ⟨h.1, h.2⟩

theorem tk_of {H : Type} {A : Hp} {d : DataW H} {c : List Value} (h : ArgR Tryd.bk.E.T A 29 d c) : ∃ o : TkA, c = o.cells ∧ 0 ≤ o.v ∧ o.v ≤ 4294967295 := by
  obtain ⟨dd, css, rfl, rfl, l1, l2, l3⟩ := h.struct_inv (i := Go.Dn.Tryd.ti29) rfl rfl
  obtain ⟨c0, c1, c2, rfl⟩ : ∃ c0 c1 c2, css = [c0, c1, c2] := by
    match css, l2 with
    | [a, b, c], _ => exact ⟨a, b, c, rfl⟩
  obtain ⟨d0, d1, d2, rfl⟩ : ∃ d0 d1 d2, dd = [d0, d1, d2] := by
    match dd, l1 with
    | [a, b, c], _ => exact ⟨a, b, c, rfl⟩
  obtain ⟨k, _, rfl, _⟩ := (l3 0 _ d0 c0 rfl rfl rfl).int_inv (i := Go.Dn.Tryd.ti26) rfl rfl
  obtain ⟨s, _, rfl, _⟩ := (l3 1 _ d1 c1 rfl rfl rfl).int_inv (i := Go.Dn.Tryd.ti27) rfl rfl
  obtain ⟨v, _, rfl, hv⟩ := (l3 2 _ d2 c2 rfl rfl rfl).int_inv (i := Go.Dn.Tryd.ti27) rfl rfl
  exact ⟨⟨k, s, v⟩, rfl, lit_u32 hv⟩

theorem tks_list {H : Type} {A : Hp} : ∀ (css : List (List Value)) (els : List (DataW H)), els.length = css.length → (∀ (k : Nat) d c, els[k]? = some d → css[k]? = some c → ArgR Tryd.bk.E.T A 29 d c) →
    ∃ ops : List TkA, css = ops.map TkA.cells ∧ ∀ o ∈ ops, 0 ≤ o.v ∧ o.v ≤ 4294967295
  | [], els, _, _ => ⟨[], rfl, by simp⟩
  | c :: css, [], hl, _ => by simp at hl
  | c :: css, d :: els, hl, h => by
    obtain ⟨o, o1, o2⟩ := tk_of (h 0 d c rfl rfl)
    obtain ⟨ops, p1, p2⟩ := tks_list css els (by simpa using hl) fun k d c hd hc => h (k + 1) d c (by simpa using hd) (by simpa using hc)
    refine ⟨o :: ops, by rw [o1, p1]; rfl, fun x hx => ?_⟩
    rcases List.mem_cons.1 hx with rfl | hx
    · exact o2
    · exact p2 x hx

theorem drains_run {A : Hp} (hA : A.wf) {ta : List TkA} (hta : ∀ o ∈ ta, 0 ≤ o.v ∧ o.v ≤ 4294967295) {v : Value} (hv : ArgSl 29 3 A v (ta.map TkA.cells).flatten ta.length) (hm : ta.length ≤ 1048576) :
    ∃ n A', callD Tryd.bk (TL TF) n 3 [v] A = some (.bool true, A') := by
  obtain ⟨a, c, rfl⟩ : ∃ a c, v = .slice a ta.length c := by
    generalize ta.length = m at hv
    generalize (ta.map TkA.cells).flatten = fl at hv
    cases hv with
    | nil c hc => exact ⟨none, c, rfl⟩
    | «at» id _ us hg hl => exact ⟨some _, _, rfl⟩
  obtain ⟨k, hk⟩ : ∃ k : Nat, 2001 < k := ⟨2002, by omega⟩
  obtain ⟨A', r⟩ := drains_walk (TL_fns (base := TF) (fun A => rfl) k) hA hta hv hm k hk
  exact ⟨k + 1, A', callD_of rfl (fn := Tryd.f3) rfl r⟩
end Go.Dn.Ln
end

section
/-
  'LaneTakes', run: the whole; a list of ops, read
-/
namespace Go.Dn.Ln
open Go.Proofs Go.ChangeShapes
open Go.Proofs.YtombnpednnngoaaDoor
set_option maxHeartbeats 4000000
set_option maxRecDepth 100000

section
attribute [local irreducible] Hp.get Hp.set Hp.push dappend dcopy dstore cellsAt callD loopD

structure TO where
  i : Nat
  ts : List Tk
  n : Nat

theorem takes_end {call : CallT} (lf : Nat) {A : Hp} (V3 V15 : Value) (m i : Nat) (hi : ¬ i < m) :
    ∃ σ1, exec Tryd.bk.E call Tryd.f4.ntmps (Tryd.bk.inf 4) lf (loopOf Tryd.f4 0) [(2, .bool false), (3, V3), (15, V15), (16, .int .i64 (m : Nat)), (17, .int .i64 (i : Nat))] A = some (.exit 0, σ1, A) ∧
      keepSl (some [2, 3, 15, 16, 17]) σ1 = [(2, .bool false), (3, V3), (15, V15), (16, .int .i64 (m : Nat)), (17, .int .i64 (i : Nat))] := by
  have e1 : ¬ ((i : Nat) : Int) < ((m : Nat) : Int) := by omega
  refine ⟨?s, kexec_run ?run, ?kp⟩
  case run =>
    conv => lhs; whnf
    rw [kdecn e1]
  case kp => rfl

theorem takes_walk {call : CallT} {NS : Nat} (h : LaneFns2 call) (hsame : SameOK call NS) {A : Hp} (hw : A.wf) {ops : List OpA} (hops : ∀ o ∈ ops, 0 ≤ o.tv ∧ o.tv ≤ 4294967295) {a : Option Addr} {c : Nat} (hv : ArgSl 39 4 A (.slice a ops.length c) (ops.map OpA.cells).flatten ops.length) (hm : ops.length ≤ 1048576) (hNS : ops.length + 2 < NS) (lf : Nat) (hlf : ops.length < lf) :
    ∃ A', kfn Tryd.bk.E call (Tryd.bk.inf 4) lf Tryd.f4 [.slice a ops.length c] A = some (.bool true, A') := by
  have hnew := h.new (NewR.mk A)
  let A1 : Hp := A.push (.abs 3 (LX.dat ⟨[], 0⟩))
  have hw1 : A1.wf := hw.push _
  have hP1 : A1.get A.next = some (.abs 3 (LX.dat ⟨[], 0⟩)) := Hp.get_push_same _ _
  have key : ∃ A3 L, loopD (some [2, 3, 15, 16, 17]) (exec Tryd.bk.E call Tryd.f4.ntmps (Tryd.bk.inf 4) lf (loopOf Tryd.f4 0)) lf [(2, .bool false), (3, ptr A.next), (15, .slice a ops.length c), (16, .int .i64 (ops.length : Nat)), (17, .int .i64 ((0 : Nat) : Int))] A1 =
      some (.exit 0, [(2, .bool false), (3, ptr A.next), (15, .slice a ops.length c), (16, .int .i64 (ops.length : Nat)), (17, L)], A3) := by
    generalize hv0 : (Value.slice a ops.length c) = v0 at hv
    generalize hfl : (ops.map OpA.cells).flatten = fl at hv
    generalize hol : ops.length = ol at hv hv0
    cases hv with
    | nil cc hc =>
      obtain ⟨σ1, r1, r2⟩ := takes_end (call := call) lf (A := A1) (ptr A.next) (.slice none 0 cc) 0 0 (by omega)
      have := loop_out (ks := some [2, 3, 15, 16, 17]) r1 (by simp) (n := lf) (by omega)
      rw [r2] at this
      exact ⟨A1, _, this⟩
    | «at» id _ _ hg hl =>
      subst hol hfl
      have hidl := hw.lt hg
      have hgi : A1.get id = some (.arr 39 (ops.map OpA.cells).flatten .sh) := by rw [Hp.get_push_ne _ _ (by omega)]; exact hg
      have key := loop_rule (ks := some [2, 3, 15, 16, 17]) (f := exec Tryd.bk.E call Tryd.f4.ntmps (Tryd.bk.inf 4) lf (loopOf Tryd.f4 0)) (S := TO)
        (fun q => [(2, .bool false), (3, ptr A.next), (15, .slice (some ⟨id, 0, some 4⟩) ops.length (2 * ops.length)), (16, .int .i64 (ops.length : Nat)), (17, .int .i64 (q.i : Nat))])
        (fun q B => q.i ≤ ops.length ∧ KP A.next A1 B ∧ B.get A.next = some (.abs 3 (LX.dat ⟨q.ts, q.n⟩)) ∧ q.ts.length ≤ q.n ∧ q.n ≤ q.i) (fun q => ops.length - q.i)
        (fun e σ _ => e = .exit 0 ∧ ∃ L, σ = [(2, .bool false), (3, ptr A.next), (15, .slice (some ⟨id, 0, some 4⟩) ops.length (2 * ops.length)), (16, .int .i64 (ops.length : Nat)), (17, L)]) (fun q B hs => ?_)
        lf ⟨0, [], 0⟩ A1 ⟨Nat.zero_le _, KP.refl hw1, hP1, Nat.le_refl _, Nat.le_refl _⟩ (by simp only; omega)
      · obtain ⟨e, σ1, A3, r1, rfl, L, rfl⟩ := key
        exact ⟨A3, L, r1⟩
      · obtain ⟨i, ts, n⟩ := q
        obtain ⟨z1, z2, z3, z4, z5⟩ := hs
        simp only at z1 z2 z3 z4 z5 ⊢
        by_cases him : i < ops.length
        · obtain ⟨σ1, B1, ts', n', r1, r2, r3, r4, r5, r6⟩ := takes_op h hsame hw1 hops hgi (by omega) lf (c := 2 * ops.length) z2 z3 z4 (by omega) rfl hm him (by omega) (by omega)
          exact ⟨.normal, σ1, B1, r1, .inl ⟨rfl, ⟨i + 1, ts', n'⟩, r2, ⟨him, r3, r4, r6, by simp only; omega⟩, by simp only; omega⟩⟩
        · obtain ⟨σ1, r1, r2⟩ := takes_end (call := call) lf (A := B) (ptr A.next) (.slice (some ⟨id, 0, some 4⟩) ops.length (2 * ops.length)) ops.length i him
          exact ⟨.exit 0, σ1, B, r1, .inr ⟨by simp, rfl, _, r2⟩⟩
  obtain ⟨A3, L, l1⟩ := key
  refine ⟨A3, ?run⟩
  case run =>
    conv => lhs; whnf
    refine bind_of (h.fixed _) ?_
    conv => lhs; whnf
    refine bind_of hnew ?_
    conv => lhs; whnf
    refine bind_of l1 ?_
    conv => lhs; whnf
    try rfl
end

/-! ## the argument -/
theorem opA_of {H : Type} {A : Hp} {d : DataW H} {c : List Value} (h : ArgR Tryd.bk.E.T A 39 d c) : ∃ o : OpA, c = o.cells ∧ 0 ≤ o.tv ∧ o.tv ≤ 4294967295 := by
  obtain ⟨dd, css, rfl, rfl, l1, l2, l3⟩ := h.struct_inv (i := Go.Dn.Tryd.ti39) rfl rfl
  obtain ⟨c0, c1, rfl⟩ : ∃ c0 c1, css = [c0, c1] := by
    match css, l2 with
    | [a, b], _ => exact ⟨a, b, rfl⟩
  obtain ⟨d0, d1, rfl⟩ : ∃ d0 d1, dd = [d0, d1] := by
    match dd, l1 with
    | [a, b], _ => exact ⟨a, b, rfl⟩
  obtain ⟨k, _, rfl, _⟩ := (l3 0 _ d0 c0 rfl rfl rfl).int_inv (i := Go.Dn.Tryd.ti3) rfl rfl
  obtain ⟨t, rfl, t1, t2⟩ := tk_of (l3 1 _ d1 c1 rfl rfl rfl)
  exact ⟨⟨k, t.k, t.s, t.v⟩, rfl, t1, t2⟩

theorem opAs_list {H : Type} {A : Hp} : ∀ (css : List (List Value)) (els : List (DataW H)), els.length = css.length → (∀ (k : Nat) d c, els[k]? = some d → css[k]? = some c → ArgR Tryd.bk.E.T A 39 d c) →
    ∃ ops : List OpA, css = ops.map OpA.cells ∧ ∀ o ∈ ops, 0 ≤ o.tv ∧ o.tv ≤ 4294967295
  | [], els, _, _ => ⟨[], rfl, by simp⟩
  | c :: css, [], hl, _ => by simp at hl
  | c :: css, d :: els, hl, h => by
    obtain ⟨o, o1, o2⟩ := opA_of (h 0 d c rfl rfl)
    obtain ⟨ops, p1, p2⟩ := opAs_list css els (by simpa using hl) fun k d c hd hc => h (k + 1) d c (by simpa using hd) (by simpa using hc)
    refine ⟨o :: ops, by rw [o1, p1]; rfl, fun x hx => ?_⟩
    rcases List.mem_cons.1 hx with rfl | hx
    · exact o2
    · exact p2 x hx

theorem same_ok (k : Nat) : SameOK (callD Tryd.bk (TM TF) (k + 1)) k := fun {_ _ _ _ _ _ _} h1 h2 hm hl => callD_of rfl (fn := Tryd.f21) rfl (same_walk k h1 h2 hm hl)

theorem takes_run {A : Hp} (hA : A.wf) {ops : List OpA} (hops : ∀ o ∈ ops, 0 ≤ o.tv ∧ o.tv ≤ 4294967295) {v : Value} (hv : ArgSl 39 4 A v (ops.map OpA.cells).flatten ops.length) (hm : ops.length ≤ 1048576) :
    ∃ n A', callD Tryd.bk (TM TF) n 4 [v] A = some (.bool true, A') := by
  obtain ⟨a, c, rfl⟩ : ∃ a c, v = .slice a ops.length c := by
    generalize ops.length = m at hv
    generalize (ops.map OpA.cells).flatten = fl at hv
    cases hv with
    | nil c hc => exact ⟨none, c, rfl⟩
    | «at» id _ us hg hl => exact ⟨some _, _, rfl⟩
  obtain ⟨A', r⟩ := takes_walk (TM_fns (base := TF) (fun A => rfl) (ops.length + 3 + 1)) (same_ok (ops.length + 3)) hA hops hv hm (by omega) (ops.length + 3 + 1) (by omega)
  exact ⟨ops.length + 3 + 1 + 1, A', callD_of rfl (fn := Tryd.f4) rfl r⟩
end Go.Dn.Ln
end

section
/-
  'LaneAnswers', run: an op
-/
namespace Go.Dn.Ln
open Go.Proofs
set_option maxHeartbeats 4000000
set_option maxRecDepth 100000
attribute [local irreducible] Hp.get Hp.set Hp.push dappend dcopy dstore cellsAt callD loopD guardL hideL backL

def SameTs (call : CallT) (NS : Nat) : Prop := ∀ {A : Hp} {T1 T2 : List Tk} {V1 V2 : Value} {o1 o2 : Option Nat}, TsAt A V1 o1 T1 → TsAt A V2 o2 T2 → T1.length ≤ NS →
  call 21 [V1, V2] A = some (.bool (decide (T1 = T2)), A)
/-- a step, called -/
def StepOK (call : CallT) (NN : Nat) (z : Bool) (Lp : Nat → Value) : Prop := ∀ {A : Hp}, A.wf → A.get 0 = some (er 0) → ∀ {P : Nat} {ts : List Tk} {n : Nat}, A.get P = some (.abs 3 (LX.dat ⟨ts, n⟩)) → LInv ts → ts.length ≤ NN → n ≤ 10000000 → ts.length ≤ n → (z = true → ts = []) →
  ∀ {V : Value} {io : Option Nat}, TsAt A V io ts → io ≠ some P → ∀ {ok otk ots otv : Int}, 0 ≤ otv ∧ otv ≤ 4294967295 →
    ∃ V' io' ts' n' A', call 40 [Lp P, V, .agg #[.int .i64 ok, .int .i64 otk, .int .u32 ots, .int .u32 otv]] A = some (.tuple #[V', .bool true], A') ∧ SP z P A n io V' io' ts' n' A'

theorem step_ok {call call1 : CallT} {NN : Nat} (h : LaneFns2 call1) (hr : RefOK call1 NN) (hcd : CodeOK call1) (lf : Nat) (hc : ∀ args A r, kfn Tryd.bk.E call1 (Tryd.bk.inf 40) lf Tryd.f40 args A = some r → call 40 args A = some r) : StepOK call NN false ptr := by
  intro A hw _ P ts n hP hi hN hn htn _ V io hT hio ok otk ots otv hv
  have fin : ∀ {X : Prop}, X → X := id
  by_cases k0 : ok = 0
  · obtain ⟨V', io', ts', n', A', r1, r2⟩ := step_put h hr hcd lf hw hP hi hN hn htn hT hio hv k0
    exact ⟨V', io', ts', n', A', hc _ _ _ r1, r2⟩
  by_cases k1 : ok = 1
  · obtain ⟨V', io', ts', n', A', r1, r2⟩ := step_next (otk := otk) (ots := ots) (otv := otv) h hr lf hw hP hi hN hn htn hT hio k1
    exact ⟨V', io', ts', n', A', hc _ _ _ r1, r2⟩
  by_cases k2 : ok = 2
  · obtain ⟨V', io', ts', n', A', r1, r2⟩ := step_wd (otk := otk) (ots := ots) (otv := otv) h hr lf hw hP hi hN hn htn hT hio k2
    exact ⟨V', io', ts', n', A', hc _ _ _ r1, r2⟩
  by_cases k3 : ok = 3
  · obtain ⟨V', io', ts', n', A', r1, r2⟩ := step_fg (otk := otk) (ots := ots) (otv := otv) h hr lf hw hP hi hN hn htn hT hio k3
    exact ⟨V', io', ts', n', A', hc _ _ _ r1, r2⟩
  by_cases k4 : ok = 4
  · obtain ⟨V', io', ts', n', A', r1, r2⟩ := step_cl (otk := otk) (ots := ots) (otv := otv) h lf hw hP hT k4
    exact ⟨V', io', ts', n', A', hc _ _ _ r1, r2⟩
  obtain ⟨V', io', ts', n', A', r1, r2⟩ := step_other (otk := otk) (ots := ots) (otv := otv) h hr lf hw hP hi hN hn htn hT hio k0 k1 k2 k3 k4
  exact ⟨V', io', ts', n', A', hc _ _ _ r1, r2⟩

theorem zstep_ok {call call1 : CallT} {NN : Nat} (hz : NilOK call1) (hr : RefOK call1 NN) (hcd : CodeOK call1) (lf : Nat) (hc : ∀ args A r, kfn Tryd.bk.E call1 (Tryd.bk.inf 40) lf Tryd.f40 args A = some r → call 40 args A = some r) : StepOK call NN true (fun _ => NP) := by
  intro A hw h0 P ts n hP _ _ _ _ hnil V io hT _ ok otk ots otv hv
  obtain rfl := hnil rfl
  by_cases k0 : ok = 0
  · obtain ⟨V', io', ts', n', A', r1, r2⟩ := zstep_put hz hr hcd lf hw hP hT h0 hv k0
    exact ⟨V', io', ts', n', A', hc _ _ _ r1, r2⟩
  by_cases k1 : ok = 1
  · obtain ⟨V', io', ts', n', A', r1, r2⟩ := zstep_next (otk := otk) (ots := ots) (otv := otv) hz lf hw hP hT k1
    exact ⟨V', io', ts', n', A', hc _ _ _ r1, r2⟩
  by_cases k2 : ok = 2
  · obtain ⟨V', io', ts', n', A', r1, r2⟩ := zstep_wd (otk := otk) (ots := ots) (otv := otv) hz hr lf hw hP hT k2
    exact ⟨V', io', ts', n', A', hc _ _ _ r1, r2⟩
  by_cases k3 : ok = 3
  · obtain ⟨V', io', ts', n', A', r1, r2⟩ := zstep_fg (otk := otk) (ots := ots) (otv := otv) hz hr lf hw hP hT k3
    exact ⟨V', io', ts', n', A', hc _ _ _ r1, r2⟩
  by_cases k4 : ok = 4
  · obtain ⟨V', io', ts', n', A', r1, r2⟩ := zstep_cl (otk := otk) (ots := ots) (otv := otv) hz lf hw hP hT k4
    exact ⟨V', io', ts', n', A', hc _ _ _ r1, r2⟩
  obtain ⟨V', io', ts', n', A', r1, r2⟩ := zstep_other (otk := otk) (ots := ots) (otv := otv) hz hr lf hw hP hT k0 k1 k2 k3 k4
  exact ⟨V', io', ts', n', A', hc _ _ _ r1, r2⟩

structure AW (A0 : Hp) (P : Nat) (z : Bool) (V : Value) (io : Option Nat) (ts : List Tk) (n : Nat) (A : Hp) : Prop where
  kp : KP P A0 A
  obj : A.get P = some (.abs 3 (LX.dat ⟨ts, n⟩))
  lst : TsAt A V io ts
  inv : LInv ts
  len : ts.length ≤ n
  nil : z = true → ts = []
  io : ∀ j, io = some j → A0.next ≤ j

section
variable {call : CallT} {NN : Nat} {A0 : Hp} {P : Nat} (hPl : P < A0.next) (hw0 : A0.wf) (h00 : A0.get 0 = some (er 0)) {ops : List OpA} (hops : ∀ o ∈ ops, 0 ≤ o.tv ∧ o.tv ≤ 4294967295) {ib : Nat} (hib : A0.get ib = some (.arr 39 (ops.map OpA.cells).flatten .sh)) (hibP : ib ≠ P) (h0P : 0 ≠ P)
include hPl hw0 h00 hops hib hibP h0P

theorem ans_op (h : LaneFns2 call) {NS : Nat} (hsm : SameTs call NS) (hst : StepOK call NN false ptr) (lf : Nat) {A : Hp} {V : Value} {io : Option Nat} {ts : List Tk} {n m c i : Nat} (hI : AW A0 P false V io ts n A) (hN : ts.length + 1 ≤ NN) (hn : n ≤ 1000000000) (hn2 : n ≤ 5000000) (hm : ops.length = m) (hm2 : m ≤ 1048576) (hi : i < m) (hNS : n + 1 ≤ NS) :
    ∃ σ1 A1 V' io' ts' n', exec Tryd.bk.E call Tryd.f8.ntmps (Tryd.bk.inf 8) lf (loopOf Tryd.f8 0) [(4, .bool false), (5, ptr P), (6, V), (16, .slice (some ⟨ib, 0, some 4⟩) m c), (17, .int .i64 (m : Nat)), (18, .int .i64 (i : Nat))] A = some (.normal, σ1, A1) ∧
      keepSl (some [4, 5, 6, 16, 17, 18]) σ1 = [(4, .bool false), (5, ptr P), (6, V'), (16, .slice (some ⟨ib, 0, some 4⟩) m c), (17, .int .i64 (m : Nat)), (18, .int .i64 (i + 1 : Nat))] ∧ AW A0 P false V' io' ts' n' A1 ∧ n' ≤ n + 1 := by
  obtain ⟨o, ho⟩ : ∃ o, ops[i]? = some o := ⟨_, List.getElem?_eq_getElem (by omega)⟩
  have hok := hops o (List.mem_of_getElem? ho)
  obtain ⟨f1, f2⟩ := flat_row (css := ops.map OpA.cells) (sz := 4) (fun k c hc => by
    rw [List.getElem?_map] at hc
    cases hh : ops[k]? with
    | none => rw [hh] at hc; cases hc
    | some x => rw [hh] at hc; cases hc; rfl) i o.cells (by rw [List.getElem?_map, ho]; rfl)
  have hcell : cellsIn (ops.map OpA.cells).flatten (0 + i * 4) 4 = some o.cells := cellsIn_of (by omega) (by rw [Nat.zero_add]; exact f2)
  have e1 : ((i : Nat) : Int) < ((m : Nat) : Int) := by omega
  have hw2 : IntKind.i64.wrap ((i : Int) + 1) = ((i + 1 : Nat) : Int) := by rw [w64 (by omega) (by omega)]; omega
  have hw := hI.kp.wf
  have hnx := hI.kp.nx
  have hPA : P < A.next := hw.lt hI.obj
  have hgi : A.get ib = some (.arr 39 (ops.map OpA.cells).flatten .sh) := by rw [hI.kp.old ib (hw0.lt hib) hibP]; exact hib
  have hg0 : A.get 0 = some (er 0) := by rw [hI.kp.old _ (hw0.lt h00) h0P]; exact h00
  obtain ⟨ok, otk, ots, otv⟩ := o
  simp only at hok
  let Z : List Value := [.int .i64 0, .int .i64 0, .int .u32 0, .int .u32 0]
  let C : List Value := [.int .i64 ok, .int .i64 otk, .int .u32 ots, .int .u32 otv]
  have hcell2 : cellsIn (ops.map OpA.cells).flatten (0 + i * 4) 4 = some C := hcell
  let B1 : Hp := (A.push (.arr 39 Z .own)).set A.next (some (.arr 39 C .own))
  have k1 : Kp A B1 := (Kp.push hw (.arr 39 Z .own)).set (Hp.get_push_same _ _) (Nat.le_refl _) _
  have n1 : B1.next = A.next + 1 := by simp [B1]
  have q1 : B1.get A.next = some (.arr 39 C .own) := Hp.get_set_same _ _ _
  have P1 : B1.get P = some (.abs 3 (LX.dat ⟨ts, n⟩)) := by rw [k1.old P hPA]; exact hI.obj
  have T1 : TsAt B1 V io ts := hI.lst.keep fun j hj => k1.old j (by subst hj; exact hI.lst.lt hw)
  obtain ⟨V2, io2, ts2, m2, B2, r1, r2⟩ := hst k1.wf (by rw [k1.old _ (hw.lt hg0)]; exact hg0) P1 hI.inv (by omega) (by omega) hI.len hI.nil T1 (fun e => by have := hI.io P e; omega) (ok := ok) (otk := otk) (ots := ots) hok
  have hio2 : ∀ j, io2 = some j → A0.next ≤ j := fun j hj => by
    rcases r2.io j hj with e | e
    · omega
    · exact hI.io j e
  have kB2 : KP P A0 B2 := (hI.kp.trans (k1.toP P)).trans r2.kp
  have T2 := r2.ts
  obtain ⟨a2, c2, rfl, _⟩ := T2.form
  obtain ⟨B3, e3, l3⟩ : ∃ B3, B3 = B2.set P (some (.abs 3 (LX.dat ⟨ts2, m2⟩))) ∧ call 18 [ptr P] B2 = some (.int .i64 (ts2.length : Nat), B3) := ⟨_, rfl, h.len (LenR.mk B2 P _ r2.obj)⟩
  have w3 : B3.wf := by rw [e3]; exact r2.kp.wf.put r2.obj _
  have P3 : B3.get P = some (.abs 3 (LX.dat ⟨ts2, m2⟩)) := by rw [e3]; exact Hp.get_set_same _ _ _
  have o3 : ∀ j, j ≠ P → B3.get j = B2.get j := fun j hj => by rw [e3]; exact Hp.get_set_ne _ _ hj
  have n3 : B3.next = B2.next := by rw [e3]; exact Hp.next_set _ _ _
  have hnn := r2.nn
  obtain ⟨V4, io4, B4, l4, k4, P4, c4, g4⟩ := list_use h w3 P3 (show m2 ≤ _ by omega)
  have T4 : TsAt B4 (.slice a2 ts2.length c2) io2 ts2 := T2.keep fun j hj => by
    have hj2 := hio2 j hj
    have hjl : j < B2.next := by subst hj; exact T2.lt r2.kp.wf
    rw [k4.old j (by omega) (by omega), o3 j (by omega)]
  have hln := r2.len
  have hs4 := hsm (CanAt.ts c4) T4 (show ts2.length ≤ NS by omega)
  rw [kdec rfl] at hs4
  have kB3 : KP P A0 B3 := by rw [e3]; exact kB2.setO r2.obj _
  refine ⟨?s, B4, .slice a2 ts2.length c2, io2, ts2, m2, kexec_run ?run, ?kp, ⟨kB3.trans k4, P4, T4, r2.inv, r2.len, r2.nil, hio2⟩, hnn⟩
  case run =>
    conv => lhs; whnf
    rw [kdec e1]
    conv => lhs; whnf
    rw [kdec e1]
    conv => lhs; whnf
    refine bind_of ((cellsAt_of hgi _ _).trans hcell2) ?_
    conv => lhs; whnf
    refine bind_of (dstore_of (Hp.get_push_same _ _) (t := 39) (o := 0) (cs' := C) rfl) ?_
    conv => lhs; whnf
    refine bind_of (cellsAt_of q1 _ _) ?_
    conv => lhs; whnf
    refine bind_of r1 ?_
    conv => lhs; whnf
    refine bind_of l3 ?_
    conv => lhs; whnf
    rw [show (((ts2.length : Nat) : Int) != ((ts2.length : Nat) : Int)) = false from bne_self_eq_false _]
    conv => lhs; whnf
    refine bind_of l4 ?_
    conv => lhs; whnf
    refine bind_of hs4 ?_
    conv => lhs; whnf
    try rfl
  case kp =>
    show [_, _, _, _, _, (18, Value.int .i64 (IntKind.i64.wrap ((i : Int) + 1)))] = _
    rw [hw2]
    try rfl

theorem zans_op (hz : NilOK call) {NS : Nat} (hsm : SameTs call NS) (hst : StepOK call NN true (fun _ => NP)) (lf : Nat) {A : Hp} {V : Value} {io : Option Nat} {ts : List Tk} {n m c i : Nat} (hI : AW A0 P true V io ts n A) (hN : ts.length + 1 ≤ NN) (hn : n ≤ 1000000000) (hn2 : n ≤ 5000000) (hm : ops.length = m) (hm2 : m ≤ 1048576) (hi : i < m) :
    ∃ σ1 A1 V' io' ts' n', exec Tryd.bk.E call Tryd.f8.ntmps (Tryd.bk.inf 8) lf (loopOf Tryd.f8 0) [(4, .bool false), (5, NP), (6, V), (16, .slice (some ⟨ib, 0, some 4⟩) m c), (17, .int .i64 (m : Nat)), (18, .int .i64 (i : Nat))] A = some (.normal, σ1, A1) ∧
      keepSl (some [4, 5, 6, 16, 17, 18]) σ1 = [(4, .bool false), (5, NP), (6, V'), (16, .slice (some ⟨ib, 0, some 4⟩) m c), (17, .int .i64 (m : Nat)), (18, .int .i64 (i + 1 : Nat))] ∧ AW A0 P true V' io' ts' n' A1 ∧ n' ≤ n + 1 := by
  obtain ⟨o, ho⟩ : ∃ o, ops[i]? = some o := ⟨_, List.getElem?_eq_getElem (by omega)⟩
  have hok := hops o (List.mem_of_getElem? ho)
  obtain ⟨f1, f2⟩ := flat_row (css := ops.map OpA.cells) (sz := 4) (fun k c hc => by
    rw [List.getElem?_map] at hc
    cases hh : ops[k]? with
    | none => rw [hh] at hc; cases hc
    | some x => rw [hh] at hc; cases hc; rfl) i o.cells (by rw [List.getElem?_map, ho]; rfl)
  have hcell : cellsIn (ops.map OpA.cells).flatten (0 + i * 4) 4 = some o.cells := cellsIn_of (by omega) (by rw [Nat.zero_add]; exact f2)
  have e1 : ((i : Nat) : Int) < ((m : Nat) : Int) := by omega
  have hw2 : IntKind.i64.wrap ((i : Int) + 1) = ((i + 1 : Nat) : Int) := by rw [w64 (by omega) (by omega)]; omega
  have hw := hI.kp.wf
  have hnx := hI.kp.nx
  have hPA : P < A.next := hw.lt hI.obj
  have hgi : A.get ib = some (.arr 39 (ops.map OpA.cells).flatten .sh) := by rw [hI.kp.old ib (hw0.lt hib) hibP]; exact hib
  have hg0 : A.get 0 = some (er 0) := by rw [hI.kp.old _ (hw0.lt h00) h0P]; exact h00
  obtain ⟨ok, otk, ots, otv⟩ := o
  simp only at hok
  let Z : List Value := [.int .i64 0, .int .i64 0, .int .u32 0, .int .u32 0]
  let C : List Value := [.int .i64 ok, .int .i64 otk, .int .u32 ots, .int .u32 otv]
  have hcell2 : cellsIn (ops.map OpA.cells).flatten (0 + i * 4) 4 = some C := hcell
  let B1 : Hp := (A.push (.arr 39 Z .own)).set A.next (some (.arr 39 C .own))
  have k1 : Kp A B1 := (Kp.push hw (.arr 39 Z .own)).set (Hp.get_push_same _ _) (Nat.le_refl _) _
  have n1 : B1.next = A.next + 1 := by simp [B1]
  have q1 : B1.get A.next = some (.arr 39 C .own) := Hp.get_set_same _ _ _
  have P1 : B1.get P = some (.abs 3 (LX.dat ⟨ts, n⟩)) := by rw [k1.old P hPA]; exact hI.obj
  have T1 : TsAt B1 V io ts := hI.lst.keep fun j hj => k1.old j (by subst hj; exact hI.lst.lt hw)
  obtain ⟨V2, io2, ts2, m2, B2, r1, r2⟩ := hst k1.wf (by rw [k1.old _ (hw.lt hg0)]; exact hg0) P1 hI.inv (by omega) (by omega) hI.len hI.nil T1 (fun e => by have := hI.io P e; omega) (ok := ok) (otk := otk) (ots := ots) hok
  have hio2 : ∀ j, io2 = some j → A0.next ≤ j := fun j hj => by
    rcases r2.io j hj with e | e
    · omega
    · exact hI.io j e
  have kB2 : KP P A0 B2 := (hI.kp.trans (k1.toP P)).trans r2.kp
  have T2 := r2.ts
  obtain ⟨a2, c2, rfl, _⟩ := T2.form
  have hts2 := r2.nil rfl
  subst hts2
  have l3 := hz.len B2
  have l4 := hz.list B2
  have hs4 := hsm (CanAt.ts (ts := []) .nil : TsAt B2 (.slice none 0 0) none []) T2 (Nat.zero_le _)
  have hnn := r2.nn
  refine ⟨?s, B2, .slice a2 ([] : List Tk).length c2, io2, [], m2, kexec_run ?run, ?kp, ⟨kB2, r2.obj, T2, r2.inv, r2.len, r2.nil, hio2⟩, hnn⟩
  case run =>
    conv => lhs; whnf
    rw [kdec e1]
    conv => lhs; whnf
    rw [kdec e1]
    conv => lhs; whnf
    refine bind_of ((cellsAt_of hgi _ _).trans hcell2) ?_
    conv => lhs; whnf
    refine bind_of (dstore_of (Hp.get_push_same _ _) (t := 39) (o := 0) (cs' := C) rfl) ?_
    conv => lhs; whnf
    refine bind_of (cellsAt_of q1 _ _) ?_
    conv => lhs; whnf
    refine bind_of r1 ?_
    conv => lhs; whnf
    refine bind_of l3 ?_
    conv => lhs; whnf
    refine bind_of l4 ?_
    conv => lhs; whnf
    refine bind_of hs4 ?_
    conv => lhs; whnf
    try rfl
  case kp =>
    show [_, _, _, _, _, (18, Value.int .i64 (IntKind.i64.wrap ((i : Int) + 1)))] = _
    rw [hw2]
    try rfl
end
end Go.Dn.Ln
end

section
/-
  'LaneAnswers', run: the whole
-/
namespace Go.Dn.Ln
open Go.Proofs
set_option maxHeartbeats 4000000
set_option maxRecDepth 100000
attribute [local irreducible] Hp.get Hp.set Hp.push dappend dcopy dstore cellsAt callD loopD guardL hideL backL

theorem ans_end {call : CallT} (lf : Nat) {A : Hp} (V5 V6 V16 : Value) (m i : Nat) (hi : ¬ i < m) :
    ∃ σ1, exec Tryd.bk.E call Tryd.f8.ntmps (Tryd.bk.inf 8) lf (loopOf Tryd.f8 0) [(4, .bool false), (5, V5), (6, V6), (16, V16), (17, .int .i64 (m : Nat)), (18, .int .i64 (i : Nat))] A = some (.exit 0, σ1, A) ∧
      keepSl (some [4, 5, 6, 16, 17, 18]) σ1 = [(4, .bool false), (5, V5), (6, V6), (16, V16), (17, .int .i64 (m : Nat)), (18, .int .i64 (i : Nat))] := by
  have e1 : ¬ ((i : Nat) : Int) < ((m : Nat) : Int) := by omega
  refine ⟨?s, kexec_run ?run, ?kp⟩
  case run =>
    conv => lhs; whnf
    rw [kdecn e1]
  case kp => rfl

structure AS where
  i : Nat
  v : Value
  io : Option Nat
  ts : List Tk
  n : Nat

theorem ans_loop {call : CallT} {A0 : Hp} {P : Nat} {z : Bool} {L W : Value} (lf : Nat) {m : Nat}
    (hop : ∀ {A : Hp} {V : Value} {io : Option Nat} {ts : List Tk} {n i : Nat}, AW A0 P z V io ts n A → n ≤ i → i < m → ∃ σ1 A1 V' io' ts' n', exec Tryd.bk.E call Tryd.f8.ntmps (Tryd.bk.inf 8) lf (loopOf Tryd.f8 0) [(4, .bool false), (5, L), (6, V), (16, W), (17, .int .i64 (m : Nat)), (18, .int .i64 (i : Nat))] A = some (.normal, σ1, A1) ∧
      keepSl (some [4, 5, 6, 16, 17, 18]) σ1 = [(4, .bool false), (5, L), (6, V'), (16, W), (17, .int .i64 (m : Nat)), (18, .int .i64 (i + 1 : Nat))] ∧ AW A0 P z V' io' ts' n' A1 ∧ n' ≤ n + 1)
    {A : Hp} {V : Value} {io : Option Nat} (hI : AW A0 P z V io [] 0 A) (hlf : m < lf) :
    ∃ A1 V' io' ts' n' J, loopD (some [4, 5, 6, 16, 17, 18]) (exec Tryd.bk.E call Tryd.f8.ntmps (Tryd.bk.inf 8) lf (loopOf Tryd.f8 0)) lf [(4, .bool false), (5, L), (6, V), (16, W), (17, .int .i64 (m : Nat)), (18, .int .i64 ((0 : Nat) : Int))] A =
      some (.exit 0, [(4, .bool false), (5, L), (6, V'), (16, W), (17, .int .i64 (m : Nat)), (18, J)], A1) ∧ AW A0 P z V' io' ts' n' A1 ∧ n' ≤ m := by
  have key := loop_rule (ks := some [4, 5, 6, 16, 17, 18]) (f := exec Tryd.bk.E call Tryd.f8.ntmps (Tryd.bk.inf 8) lf (loopOf Tryd.f8 0)) (S := AS)
    (fun q => [(4, .bool false), (5, L), (6, q.v), (16, W), (17, .int .i64 (m : Nat)), (18, .int .i64 (q.i : Nat))])
    (fun q B => q.i ≤ m ∧ AW A0 P z q.v q.io q.ts q.n B ∧ q.n ≤ q.i) (fun q => m - q.i)
    (fun e σ B => e = .exit 0 ∧ ∃ V' io' ts' n' J, σ = [(4, .bool false), (5, L), (6, V'), (16, W), (17, .int .i64 (m : Nat)), (18, J)] ∧ AW A0 P z V' io' ts' n' B ∧ n' ≤ m) (fun q B hs => ?_)
    lf ⟨0, V, io, [], 0⟩ A ⟨Nat.zero_le _, hI, Nat.le_refl _⟩ (by simp only; omega)
  · obtain ⟨e, σ1, A1, r1, rfl, V', io', ts', n', J, rfl, r2⟩ := key
    exact ⟨A1, V', io', ts', n', J, r1, r2⟩
  · obtain ⟨i, v, io1, ts, n⟩ := q
    obtain ⟨z1, z2, z3⟩ := hs
    simp only at z1 z2 z3 ⊢
    by_cases him : i < m
    · obtain ⟨σ1, B1, V', io', ts', n', r1, r2, r3, r4⟩ := hop z2 z3 him
      exact ⟨.normal, σ1, B1, r1, .inl ⟨rfl, ⟨i + 1, V', io', ts', n'⟩, r2, ⟨him, r3, by simp only; omega⟩, by simp only; omega⟩⟩
    · obtain ⟨σ1, r1, r2⟩ := ans_end (call := call) lf (A := B) L v W m i him
      exact ⟨.exit 0, σ1, B, r1, .inr ⟨by simp, rfl, v, io1, ts, n, _, r2, z2, by omega⟩⟩

theorem cnt_end {call : CallT} (lf : Nat) {A : Hp} (V5 V6 : Value) :
    ∃ σ1, exec Tryd.bk.E call Tryd.f8.ntmps (Tryd.bk.inf 8) lf (loopOf Tryd.f8 1) [(4, .bool false), (5, V5), (6, V6), (11, .int .i64 (((10 : Nat) : Int) - 1))] A = some (.exit 2, σ1, A) ∧
      keepSl (some [4, 5, 6, 11]) σ1 = [(4, .bool false), (5, V5), (6, V6), (11, .int .i64 (((10 : Nat) : Int) - 1))] := by
  refine ⟨?s, kexec_run ?run, ?kp⟩
  case run =>
    conv => lhs; whnf
  case kp => rfl

theorem cnt_loop {call : CallT} {L V : Value} (lf : Nat) {I : Hp → Prop}
    (hop : ∀ {A : Hp} {j : Nat}, I A → j < 10 → ∃ σ1 A1, exec Tryd.bk.E call Tryd.f8.ntmps (Tryd.bk.inf 8) lf (loopOf Tryd.f8 1) [(4, .bool false), (5, L), (6, V), (11, .int .i64 ((j : Nat) - 1))] A = some (.normal, σ1, A1) ∧
      keepSl (some [4, 5, 6, 11]) σ1 = [(4, .bool false), (5, L), (6, V), (11, .int .i64 (((j + 1 : Nat) : Int) - 1))] ∧ I A1)
    {A : Hp} (hI : I A) (hlf : 10 < lf) :
    ∃ A1 J, loopD (some [4, 5, 6, 11]) (exec Tryd.bk.E call Tryd.f8.ntmps (Tryd.bk.inf 8) lf (loopOf Tryd.f8 1)) lf [(4, .bool false), (5, L), (6, V), (11, .int .i64 (((0 : Nat) : Int) - 1))] A =
      some (.exit 2, [(4, .bool false), (5, L), (6, V), (11, J)], A1) := by
  have key := loop_rule (ks := some [4, 5, 6, 11]) (f := exec Tryd.bk.E call Tryd.f8.ntmps (Tryd.bk.inf 8) lf (loopOf Tryd.f8 1)) (S := Nat)
    (fun j => [(4, .bool false), (5, L), (6, V), (11, .int .i64 ((j : Nat) - 1))])
    (fun j B => j ≤ 10 ∧ I B) (fun j => 10 - j)
    (fun e σ _ => e = .exit 2 ∧ ∃ J, σ = [(4, .bool false), (5, L), (6, V), (11, J)]) (fun j B hs => ?_)
    lf 0 A ⟨Nat.zero_le _, hI⟩ (by omega)
  · obtain ⟨e, σ1, A1, r1, rfl, J, rfl⟩ := key
    exact ⟨A1, J, r1⟩
  · obtain ⟨z1, z2⟩ := hs
    by_cases hj : j < 10
    · obtain ⟨σ1, A1, r1, r2, r3⟩ := hop z2 hj
      exact ⟨.normal, σ1, A1, r1, .inl ⟨rfl, j + 1, r2, ⟨hj, r3⟩, by omega⟩⟩
    · obtain rfl : j = 10 := by omega
      obtain ⟨σ1, r1, r2⟩ := cnt_end (call := call) lf (A := B) L V
      exact ⟨.exit 2, σ1, B, r1, .inr ⟨by simp, rfl, _, r2⟩⟩

theorem cnt_step {call : CallT} {NN : Nat} (h : LaneFns2 call) (hr : RefOK call NN) (lf : Nat) {A : Hp} {P : Nat} {V : Value} {io : Option Nat} {ts : List Tk} {n : Nat} (hw : A.wf) (hP : A.get P = some (.abs 3 (LX.dat ⟨ts, n⟩))) (hT : TsAt A V io ts) (hi : LInv ts) (hN : ts.length ≤ NN) (hio : io ≠ some P) {j : Nat} (hj : j < 10) :
    ∃ σ1 A1, exec Tryd.bk.E call Tryd.f8.ntmps (Tryd.bk.inf 8) lf (loopOf Tryd.f8 1) [(4, .bool false), (5, ptr P), (6, V), (11, .int .i64 ((j : Nat) - 1))] A = some (.normal, σ1, A1) ∧
      keepSl (some [4, 5, 6, 11]) σ1 = [(4, .bool false), (5, ptr P), (6, V), (11, .int .i64 (((j + 1 : Nat) : Int) - 1))] ∧ A1.wf ∧ A1.get P = some (.abs 3 (LX.dat ⟨ts, n⟩)) ∧ TsAt A1 V io ts := by
  have e1 : ((j : Nat) : Int) - 1 ≤ 8 := by omega
  have hw2 : IntKind.i64.wrap (((j : Nat) : Int) - 1 + 1) = ((j + 1 : Nat) : Int) - 1 := by rw [w64 (by omega) (by omega)]; omega
  have hc := h.cnt (CntR.mk A P ⟨ts, n⟩ hP (((j : Nat) : Int) - 1))
  have hT1 : TsAt (A.set P (some (.abs 3 (LX.dat ⟨ts, n⟩)))) V io ts := hT.keep fun i hi => Hp.get_set_ne _ _ (by rintro rfl; exact hio hi)
  have hd := hr.count hT1 (((j : Nat) : Int) - 1) hN
  rw [← cnt_eq hi] at hd
  simp only at hc
  generalize cntT ts (((j : Nat) : Int) - 1) = cn at hc hd
  refine ⟨?s, A.set P (some (.abs 3 (LX.dat ⟨ts, n⟩))), kexec_run ?run, ?kp, hw.put hP _, Hp.get_set_same _ _ _, hT1⟩
  case run =>
    conv => lhs; whnf
    rw [kdec e1]
    conv => lhs; whnf
    refine bind_of hc ?_
    conv => lhs; whnf
    refine bind_of hd ?_
    conv => lhs; whnf
    rw [show (((cn : Nat) : Int) != ((cn : Nat) : Int)) = false from bne_self_eq_false _]
    conv => lhs; whnf
    try rfl
  case kp =>
    show [_, _, _, (11, Value.int .i64 (IntKind.i64.wrap (((j : Nat) : Int) - 1 + 1)))] = _
    rw [hw2]
    try rfl

theorem zcnt_step {call : CallT} {NN : Nat} (hz : NilOK call) (hr : RefOK call NN) (lf : Nat) {A : Hp} {P : Nat} {V : Value} {io : Option Nat} {ts : List Tk} {n : Nat} (hw : A.wf) (hP : A.get P = some (.abs 3 (LX.dat ⟨ts, n⟩))) (hT : TsAt A V io ts) (hts : ts = []) {j : Nat} (hj : j < 10) :
    ∃ σ1 A1, exec Tryd.bk.E call Tryd.f8.ntmps (Tryd.bk.inf 8) lf (loopOf Tryd.f8 1) [(4, .bool false), (5, NP), (6, V), (11, .int .i64 ((j : Nat) - 1))] A = some (.normal, σ1, A1) ∧
      keepSl (some [4, 5, 6, 11]) σ1 = [(4, .bool false), (5, NP), (6, V), (11, .int .i64 (((j + 1 : Nat) : Int) - 1))] ∧ A1.wf ∧ A1.get P = some (.abs 3 (LX.dat ⟨ts, n⟩)) ∧ TsAt A1 V io ts := by
  have e1 : ((j : Nat) : Int) - 1 ≤ 8 := by omega
  have hw2 : IntKind.i64.wrap (((j : Nat) : Int) - 1 + 1) = ((j + 1 : Nat) : Int) - 1 := by rw [w64 (by omega) (by omega)]; omega
  subst hts
  have hc := hz.cnt A (((j : Nat) : Int) - 1)
  have hd := hr.count hT (((j : Nat) : Int) - 1) (Nat.zero_le _)
  refine ⟨?s, A, kexec_run ?run, ?kp, hw, hP, hT⟩
  case run =>
    conv => lhs; whnf
    rw [kdec e1]
    conv => lhs; whnf
    refine bind_of hc ?_
    conv => lhs; whnf
    refine bind_of hd ?_
    conv => lhs; whnf
    try rfl
  case kp =>
    show [_, _, _, (11, Value.int .i64 (IntKind.i64.wrap (((j : Nat) : Int) - 1 + 1)))] = _
    rw [hw2]
    try rfl

end Go.Dn.Ln
end
