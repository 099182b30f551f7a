/-
  Part of the abstract machine for this program.
-/
import Derived.Test.YtombnpednnngoaaDoorDnJ
import Derived.Test.YtombnpednnngoaaDoorPC
import Derived.Test.YtombnpednnngoaaDoorCards
import Derived.Test.YtombnpednnngoaaDoorTie
import Derived.WalkKit
import Derived.ProofKit
import Derived.OpenShut
import Derived.LaidLaws
import Derived.Deep.DeepHandedRow

section
/-
  listed variables: sentinels and tables of plain data, mixed
-/
namespace Go.Dn
open Go.ChangeShapes

/-- a row of parts, one behind the other -/
def rdFields (P : Program) (rd : TypeId → DataW Unit → Option (List Value)) : List Field → List (DataW Unit) → Nat → Option (List Value)
  | [], [], _ => some []
  | f :: fs, d :: ds, o => if f.offset = o then (rd f.type d).bind fun c => if c.length = P.cellsOf f.type then (rdFields P rd fs ds (o + c.length)).map fun r => c ++ r else none else none
  | _, _, _ => none
def rdElems (rd : DataW Unit → Option (List Value)) (sz : Nat) : List (DataW Unit) → Option (List Value)
  | [] => some []
  | d :: ds => (rd d).bind fun c => if c.length = sz then (rdElems rd sz ds).map fun r => c ++ r else none
/-- the cells of plain data of a type -/
def rdw (P : Program) : Nat → TypeId → DataW Unit → Option (List Value)
  | 0, _, _ => none
  | n + 1, t, d => match P.underlying t, d with
    | some .bool, .lit (.bool b) => some [.bool b]
    | some (.int k), .lit (.int k' m) => if k' = k then some [.int k m] else none
    | some (.struct fs), .agg ds => (rdFields P (rdw P n) fs.toList ds 0).bind fun c => if c.length = P.cellsOf t then some c else none
    | some (.array m e), .agg ds => (rdElems (rdw P n e) (P.cellsOf e) ds).bind fun c => if c.length = P.cellsOf t ∧ ds.length = m then some c else none
    | _, _ => none

theorem mapM_nil_of {α β : Type} {f : α → Option β} {xs : List β} (h : ([] : List α).mapM f = some xs) : xs = [] := by
  simp at h; exact h
theorem mapM_cons_of {α β : Type} {f : α → Option β} {a : α} {l : List α} {xs : List β} (h : (a :: l).mapM f = some xs) : ∃ y ys, f a = some y ∧ l.mapM f = some ys ∧ xs = y :: ys := by
  rw [List.mapM_cons] at h
  cases h1 : f a with
  | none => rw [h1] at h; cases h
  | some y =>
    rw [h1] at h
    cases h2 : l.mapM f with
    | none => rw [h2] at h; cases h
    | some ys => rw [h2] at h; cases h; exact ⟨y, ys, rfl, rfl, rfl⟩

theorem fields_of {P : Program} {rd : TypeId → DataW Unit → Option (List Value)} {tr : TypeId → List Value → Option (DataW Unit × List MemPlace)}
    (ih : ∀ t seg d p c, tr t seg = some (d, p) → rd t d = some c → seg = c ∧ p = []) (cs : List Value) :
    ∀ (fs : List Field) (xs : List (DataW Unit × List MemPlace)) (o : Nat) (c : List Value), fs.mapM (fun f => tr f.type ((cs.drop f.offset).take (P.cellsOf f.type))) = some xs → rdFields P rd fs (xs.map (·.1)) o = some c →
      (cs.drop o).take c.length = c ∧ xs.flatMap (·.2) = []
  | [], xs, o, c, h, hr => by
    obtain rfl := mapM_nil_of h
    simp [rdFields] at hr
    subst hr
    simp
  | f :: fs, xs, o, c, h, hr => by
    obtain ⟨⟨d, p⟩, ys, h1, h2, rfl⟩ := mapM_cons_of h
    simp only [List.map_cons, rdFields] at hr
    split at hr
    · rename_i ho
      subst ho
      cases h3 : rd f.type d with
      | none => rw [h3] at hr; cases hr
      | some c1 =>
        rw [h3] at hr
        simp only [Option.bind_some] at hr
        split at hr
        · rename_i hl
          cases h4 : rdFields P rd fs (ys.map (·.1)) (f.offset + c1.length) with
          | none => rw [h4] at hr; cases hr
          | some c2 =>
            rw [h4] at hr
            cases hr
            obtain ⟨e1, e2⟩ := ih _ _ _ _ _ h1 h3
            obtain ⟨e3, e4⟩ := fields_of ih cs fs ys (f.offset + c1.length) c2 h2 h4
            subst e2
            refine ⟨?_, by simpa using e4⟩
            rw [← hl] at e1
            rw [List.length_append, List.take_add, e1, List.drop_drop, e3]
        · cases hr
    · cases hr

theorem elems_of {rd : DataW Unit → Option (List Value)} {tr : List Value → Option (DataW Unit × List MemPlace)} {sz : Nat}
    (ih : ∀ seg d p c, tr seg = some (d, p) → rd d = some c → seg = c ∧ p = []) (cs : List Value) :
    ∀ (n o : Nat) (xs : List (DataW Unit × List MemPlace)) (c : List Value), (List.range' o n).mapM (fun i => tr ((cs.drop (i * sz)).take sz)) = some xs → rdElems rd sz (xs.map (·.1)) = some c →
      (cs.drop (o * sz)).take c.length = c ∧ xs.flatMap (·.2) = []
  | 0, o, xs, c, h, hr => by
    obtain rfl := mapM_nil_of h
    simp [rdElems] at hr
    subst hr
    simp
  | n + 1, o, xs, c, h, hr => by
    rw [List.range'_succ] at h
    obtain ⟨⟨d, p⟩, ys, h1, h2, rfl⟩ := mapM_cons_of h
    simp only [List.map_cons, rdElems] at hr
    cases h3 : rd d with
    | none => rw [h3] at hr; cases hr
    | some c1 =>
      rw [h3] at hr
      simp only [Option.bind_some] at hr
      split at hr
      · rename_i hl
        cases h4 : rdElems rd sz (ys.map (·.1)) with
        | none => rw [h4] at hr; cases hr
        | some c2 =>
          rw [h4] at hr
          cases hr
          obtain ⟨e1, e2⟩ := ih _ _ _ _ h1 h3
          obtain ⟨e3, e4⟩ := elems_of ih cs n (o + 1) ys c2 h2 h4
          subst e2
          refine ⟨?_, by simpa using e4⟩
          have e5 : (cs.drop (o * sz)).drop c1.length = cs.drop ((o + 1) * sz) := by
            rw [List.drop_drop, hl, Nat.add_mul, Nat.one_mul]
          have e6 : (cs.drop (o * sz)).take c1.length = c1 := by rw [hl]; exact e1
          rw [List.length_append, List.take_add, e6, e5, e3]
      · cases hr

theorem rdw_of {P : Program} {w : World} {base : Nat} {spare : Nat → Bool} : ∀ (n fuel : Nat) (t : TypeId) (cs : List Value) (d : DataW Unit) (p : List MemPlace) (c : List Value),
    DataW.trod (fun _ => ()) P w base spare false fuel t cs = some (d, p) → rdw P n t d = some c → cs = c ∧ p = []
  | 0, _, _, _, _, _, _, _, h => by cases h
  | n + 1, 0, _, _, _, _, _, h, _ => by cases h
  | n + 1, fuel + 1, t, cs, d, p, c, h, hr => by
    have ih := fun t seg d p c => rdw_of (P := P) (w := w) (base := base) (spare := spare) n fuel t seg d p c
    unfold rdw at hr
    split at hr
    · rename_i hu
      cases hr
      unfold DataW.trod at h
      rw [hu] at h
      split at h <;> simp_all
    · rename_i k k' m hu
      split at hr
      · rename_i hk
        subst hk
        cases hr
        unfold DataW.trod at h
        rw [hu] at h
        split at h <;> simp_all
      · cases hr
    · rename_i fs ds hu
      cases h1 : rdFields P (rdw P n) fs.toList ds 0 with
      | none => rw [h1] at hr; cases hr
      | some c1 =>
        rw [h1] at hr
        simp only [Option.bind_some] at hr
        split at hr
        · rename_i hl
          cases hr
          unfold DataW.trod at h
          rw [hu] at h
          simp only at h
          split at h
          · rename_i hcl
            cases h2 : fs.toList.mapM (fun f => DataW.trod (fun _ => ()) P w base spare false fuel f.type ((cs.drop f.offset).take (P.cellsOf f.type))) with
            | none => rw [h2] at h; cases h
            | some xs =>
              rw [h2] at h
              simp only [Option.map_some, Option.some.injEq, Prod.mk.injEq, DataW.agg.injEq] at h
              obtain ⟨h3, h4⟩ := h
              subst h3
              obtain ⟨e1, e2⟩ := fields_of (P := P) ih cs _ xs 0 _ h2 h1
              refine ⟨?_, by rw [← h4]; exact e2⟩
              rw [List.drop_zero, List.take_of_length_le (by omega)] at e1
              exact e1
          · cases h
        · cases hr
    · rename_i m e ds hu
      cases h1 : rdElems (rdw P n e) (P.cellsOf e) ds with
      | none => rw [h1] at hr; cases hr
      | some c1 =>
        rw [h1] at hr
        simp only [Option.bind_some] at hr
        split at hr
        · rename_i hl
          cases hr
          unfold DataW.trod at h
          rw [hu] at h
          simp only at h
          split at h
          · rename_i hcl
            rw [List.range_eq_range'] at h
            cases h2 : (List.range' 0 m).mapM (fun i => DataW.trod (fun _ => ()) P w base spare false fuel e ((cs.drop (i * P.cellsOf e)).take (P.cellsOf e))) with
            | none => rw [h2] at h; cases h
            | some xs =>
              rw [h2] at h
              simp only [Option.map_some, Option.some.injEq, Prod.mk.injEq, DataW.agg.injEq] at h
              obtain ⟨h3, h4⟩ := h
              subst h3
              obtain ⟨e1, e2⟩ := elems_of (ih e) cs m 0 xs _ h2 h1
              refine ⟨?_, by rw [← h4]; exact e2⟩
              rw [Nat.zero_mul, List.drop_zero, List.take_of_length_le (by omega)] at e1
              exact e1
          · cases h
        · cases hr
    · cases hr

/-- a table's variable -/
def TabVar (P : Program) (w : World) (n : String) (g : Nat) (cs : List Value) : Prop :=
  P.globalNamed n = some g ∧ ∃ T fz, w.heap[g]? = some (.cells cs.toArray T fz)

theorem laid_mix {P : Program} {w : World} {te tp ts : TypeId} (hE : ErrT P te tp ts) : ∀ (L : List (String × DataW Unit)) (ps : List MemPlace),
    (∀ x ∈ L, (isErr x.2 = true ∧ ∃ g, P.globalNamed x.1 = some g ∧ (P.globals[g]?).map (·.type) = some te) ∨ (isErr x.2 = false ∧ ∃ g t c, P.globalNamed x.1 = some g ∧ (P.globals[g]?).map (·.type) = some t ∧ rdw P 20 t x.2 = some c)) →
    DataW.LaidVars P w L ps → (∀ b off, MemPlace.cell b off ∈ ps → ∀ u v, w.cell? ⟨b, off, none⟩ = some (.iface u v) → Value.okWide P w .any 0 u v) →
    ∃ ads : List (Nat × Addr), ads.length = (L.filter fun x => isErr x.2).length ∧ (errPlaces ads).Sublist ps ∧ (∀ (k : Nat) x y, (L.filter fun x => isErr x.2)[k]? = some x → ads[k]? = some y → ErrVar P w tp x.1 y.1 y.2) ∧
      ∀ x ∈ L, isErr x.2 = false → ∃ g t c, (P.globals[g]?).map (·.type) = some t ∧ rdw P 20 t x.2 = some c ∧ TabVar P w x.1 g c
  | [], ps, _, h, _ => ⟨[], rfl, List.nil_sublist _, by simp, by simp⟩
  | x :: L, ps, hl, h, hok => by
    obtain ⟨n, d⟩ := x
    have hh := h
    obtain ⟨g, t, cs, fuel, p, q, h1, h2, h3, h4, h5, rfl⟩ := h
    obtain ⟨ads, r1, r2, r3, r4⟩ := laid_mix hE L q (fun y hy => hl y (by simp [hy])) h5 (fun b off hb => hok b off (by simp [hb]))
    rcases hl (n, d) (by simp) with ⟨e1, g', e2, e3⟩ | ⟨e1, g', t', c, e2, e3, e4⟩
    · simp only at e1 e2
      have hone : DataW.LaidVars P w [(n, d)] (MemPlace.row ⟨g, 0, none⟩ cs.size ++ p ++ []) := ⟨g, t, cs, fuel, p, [], h1, h2, h3, h4, rfl, rfl⟩
      obtain ⟨as1, s1, s2, s3⟩ := laid_errs hE [(n, d)] _ (fun y hy => by simp only [List.mem_singleton] at hy; subst hy; exact ⟨e1, g', e2, e3⟩) hone (fun b off hb => hok b off (by simp at hb ⊢; rcases hb with hb | hb <;> simp [hb]))
      obtain ⟨a1, rfl⟩ : ∃ a, as1 = [a] := by
        match as1, s1 with
        | [a], _ => exact ⟨a, rfl⟩
      obtain ⟨ga, aa⟩ := a1
      refine ⟨(ga, aa) :: ads, by simp [e1, r1], ?_, fun k x y hk hy => ?_, fun x hx hxe => ?_⟩
      · have : errPlaces ((ga, aa) :: ads) = errPlaces [(ga, aa)] ++ errPlaces ads := by simp [errPlaces]
        rw [this, ← s2]
        simp only [List.append_nil]
        exact List.Sublist.append (List.Sublist.refl _) r2
      · rw [List.filter_cons, if_pos (by simpa using e1)] at hk
        cases k with
        | zero =>
          simp at hk hy
          subst hk; subst hy
          exact s3 0 _ _ rfl rfl
        | succ k => exact r3 k x y (by simpa using hk) (by simpa using hy)
      · rcases List.mem_cons.1 hx with rfl | hx
        · simp only at hxe; rw [e1] at hxe; cases hxe
        · exact r4 x hx hxe
    · simp only at e1 e2 e4
      rw [h1] at e2; cases e2
      rw [h2] at e3; cases e3
      obtain ⟨k1, k2⟩ := rdw_of 20 fuel t cs.toList d p c h4 e4
      refine ⟨ads, by simp [e1, r1], List.Sublist.trans r2 (List.sublist_append_right _ _), fun k x y hk hy => ?_, fun x hx hxe => ?_⟩
      · rw [List.filter_cons, if_neg (by simp [e1])] at hk
        exact r3 k x y hk hy
      · rcases List.mem_cons.1 hx with rfl | hx
        · refine ⟨g, t, c, h2, e4, h1, ?_⟩
          unfold World.var? at h3
          rw [h1] at h3
          simp only [Option.bind_some] at h3
          split at h3
          · rename_i c' T fz hh
            cases h3
            exact ⟨T, fz, by rw [hh, ← k1, Array.toArray_toList]⟩
          · cases h3
        · exact r4 x hx hxe
end Go.Dn
end

section
namespace Go.Dn.Ln
open Go.Proofs Go.ChangeShapes
set_option maxRecDepth 100000

/-! ## what the rows' lists give -/
theorem star : "*" ++ "errors.errorString" = "*errors.errorString" := by decide
theorem errT : ErrT Tryd.prog 31 206 230 :=
  ⟨⟨_, Tryd.underlying31⟩, fun u h => typeName_ptr_named (nm := "errors.errorString") (by rw [star]; kernel_rfl) (by kernel_rfl) (by decide) u (by rw [star]; exact h), Tryd.underlying206,
    ⟨_, _, Tryd.underlying230, rfl, rfl, Tryd.underlying9, by kernel_rfl, by kernel_rfl⟩⟩

/-- the rows of the globals, as the program begins -/
theorem rows : (List.range 44).map (fun g => (((begin Tryd.prog (fun _ _ => 0) default).world.heap[g]?).bind Obj.row?).map (fun x => x.2)) = (List.range 44).map (fun g => (Tryd.prog.globals[g]?).map (·.type)) := by kernel_rfl
theorem types : (List.range 44).all (fun g => ((Tryd.prog.globals[g]?).map (·.type)).isSome) = true := by kernel_rfl
theorem gsize : Tryd.prog.globals.size = 44 := Tryd.good.glob.symm

theorem hrow_of {W : World} (hS : W.ShapedOpen Tryd.prog) : ∀ g, g < 44 → ∃ c t, W.heap[g]? = some (.cells c t (0, 0)) ∧ (Tryd.prog.globals[g]?).map (·.type) = some t := by
  intro g hg
  have h1 := congrArg (fun l => l[g]?) rows
  simp only [List.getElem?_map, List.getElem?_range hg, Option.map_some, Option.some.injEq] at h1
  have h2 := List.all_eq_true.1 types g (List.mem_range.2 hg)
  cases ht : (Tryd.prog.globals[g]?).map (·.type) with
  | none => rw [ht] at h2; cases h2
  | some t =>
    rw [ht] at h1
    cases hb : ((begin Tryd.prog (fun _ _ => 0) default).world.heap[g]?).bind Obj.row? with
    | none => rw [hb] at h1; cases h1
    | some x =>
      obtain ⟨zero, t'⟩ := x
      rw [hb] at h1
      simp only [Option.map_some, Option.some.injEq] at h1
      subst h1
      obtain ⟨cs, k1, _⟩ := hS.1 g zero t' (by rw [gsize]; exact hg) hb
      exact ⟨cs, t', k1, rfl⟩

noncomputable def mixOk (L : List (String × DataW Unit)) : Bool := L.all fun x => match Tryd.prog.globalNamed x.1 with
  | some g => Nat.blt g 44 && bif isErr x.2 then decide ((Tryd.prog.globals[g]?).map (·.type) = some 31) else match (Tryd.prog.globals[g]?).map (·.type) with
    | some t => (rdw Tryd.prog 20 t x.2).isSome
    | none => false
  | none => false
noncomputable def coversE (L : List (String × DataW Unit)) (gs : List Nat) : Bool := gs.all fun g => L.any fun x => isErr x.2 && Tryd.prog.globalNamed x.1 == some g

/-- the beginning, for the laws that list sentinels and tables -/
theorem begin_rep (rep : Nat → Dat → Hp → Nat → Prop) {W : World} (hS : W.ShapedOpen Tryd.prog) {L : List (String × DataW Unit)} (hL : laidMet Tryd.prog L W) (h1 : mixOk L = true) {C : Hp} (hCn : C.next = 88)
    (hC : ∀ i o, C.get i = some o → (∃ x ∈ L, isErr x.2 = true ∧ Tryd.prog.globalNamed x.1 = some i ∧ o = er i) ∨
      (∃ x ∈ L, isErr x.2 = false ∧ Tryd.prog.globalNamed x.1 = some i ∧ ∃ t c, (Tryd.prog.globals[i]?).map (·.type) = some t ∧ rdw Tryd.prog 20 t x.2 = some c ∧ o = .arr t c .ro ∧ ∀ u ∈ c, plain0 u = true)) :
    ∃ R : Reps, R.C = C ∧ R.rep = rep ∧ Rel Tryd.prog R.ρC C W ∧ (∀ i p, i < C.next → R.ρC i = some p → p.blk < W.heap.size) ∧ ConW Tryd.prog W := by
  obtain ⟨ps, hl, hn, hp⟩ := hL
  have hchk : ∀ x ∈ L, ∃ g, Tryd.prog.globalNamed x.1 = some g ∧ g < 44 ∧ ((isErr x.2 = true ∧ (Tryd.prog.globals[g]?).map (·.type) = some 31) ∨ (isErr x.2 = false ∧ ∃ t c, (Tryd.prog.globals[g]?).map (·.type) = some t ∧ rdw Tryd.prog 20 t x.2 = some c)) := by
    intro x hx
    have := List.all_eq_true.1 h1 x hx
    cases hg : Tryd.prog.globalNamed x.1 with
    | none => rw [hg] at this; cases this
    | some g =>
      rw [hg] at this
      simp only [Bool.and_eq_true, Nat.blt_eq] at this
      obtain ⟨k1, k2⟩ := this
      refine ⟨g, rfl, k1, ?_⟩
      cases he : isErr x.2 with
      | true => rw [he] at k2; exact .inl ⟨rfl, by simpa using k2⟩
      | false =>
        rw [he] at k2
        simp only [cond_false] at k2
        cases ht : (Tryd.prog.globals[g]?).map (·.type) with
        | none => rw [ht] at k2; cases k2
        | some t =>
          rw [ht] at k2
          simp only at k2
          obtain ⟨c, hc⟩ := Option.isSome_iff_exists.1 k2
          exact .inr ⟨rfl, t, c, rfl, hc⟩
  obtain ⟨ads, e1, e2, e3, e4⟩ := laid_mix errT L ps (fun x hx => by
    obtain ⟨g, b1, b2, b3⟩ := hchk x hx
    rcases b3 with ⟨c1, c2⟩ | ⟨c1, t, c, c2, c3⟩
    · exact .inl ⟨c1, g, b1, c2⟩
    · exact .inr ⟨c1, g, t, c, b1, c2, c3⟩) hl (fun b off hb => (hp b off hb).2)
  have hn' : (errPlaces ads).Nodup := hn.sublist e2
  have hE : ∀ x ∈ ads, ∃ y ∈ L.filter (fun x => isErr x.2), ErrVar Tryd.prog W 206 y.1 x.1 x.2 := by
    intro x hx
    obtain ⟨k, hk⟩ := List.getElem?_of_mem hx
    have hkl : k < (L.filter fun x => isErr x.2).length := by rw [← e1]; exact (List.getElem?_eq_some_iff.1 hk).1
    exact ⟨_, List.getElem_mem hkl, e3 k _ x (List.getElem?_eq_getElem hkl) hk⟩
  have key := consts_start (P := Tryd.prog) (W := W) (te := 31) (tp := 206) gsize ads hn' (hrow_of hS) (fun x hx => by
    obtain ⟨y, hy, q1, q2, q3, _⟩ := hE x hx
    obtain ⟨hyL, hye⟩ := List.mem_filter.1 hy
    obtain ⟨g, r1, r2, r3⟩ := hchk y hyL
    rw [q1] at r1; cases r1
    rcases r3 with ⟨_, r4⟩ | ⟨r4, _⟩
    · exact ⟨r2, r4, q2, q3, (hp _ _ (e2.subset (errPlaces_mem hx).2)).1⟩
    · rw [r4] at hye; cases hye) C hCn (fun i o hi => by
    rcases hC i o hi with ⟨y, hy, q0, q1, rfl⟩ | ⟨y, hy, q0, q1, t, c, q2, q3, rfl, q4⟩
    · left
      have hyf : y ∈ L.filter fun x => isErr x.2 := List.mem_filter.2 ⟨hy, q0⟩
      obtain ⟨k, hk⟩ := List.getElem?_of_mem hyf
      have hkl : k < ads.length := by rw [e1]; exact (List.getElem?_eq_some_iff.1 hk).1
      have := e3 k y ads[k] hk (List.getElem?_eq_getElem hkl)
      have h0 := this.1
      rw [q1] at h0
      refine ⟨ads[k].2, ?_, rfl⟩
      have : ads[k] = (i, ads[k].2) := by rw [Option.some.inj h0]
      rw [← this]; exact List.getElem_mem hkl
    · right
      obtain ⟨g, t', c', r1, r2, r3, T, fz, r4⟩ := e4 y hy q0
      rw [q1] at r3; cases r3
      rw [q2] at r1; cases r1
      rw [q3] at r2; cases r2
      obtain ⟨g', b1, b2, _⟩ := hchk y hy
      rw [q1] at b1; cases b1
      obtain ⟨c0, t0, s1, s2⟩ := hrow_of hS i b2
      rw [q2] at s2; cases s2
      rw [s1] at r4; cases r4
      exact ⟨t, c, b2, rfl, q2, q4, (0, 0), s1⟩)
  obtain ⟨c1, c2, c3, c4, c5⟩ := key
  let R : Reps := { rep := rep, C := C, ρC := fun i => if i < 44 + 44 then placeC 44 C ads i else none, Cro := c1, Cpl := c2 }
  exact ⟨R, rfl, rfl, c3, c4, c5 (R := R) rfl rfl⟩

/-! ## a world for the witness -/
noncomputable def lowT : Nat := (World.holding Tryd.prog default ⟨#[], #[], []⟩).heap.size
def textOf : DataW Unit → ByteArray
  | .iface _ (.ptr (.agg [.lit (.string s)])) => ⟨s.toArray⟩
  | _ => .empty
noncomputable def setErr (h : Array Obj) (g k : Nat) : Array Obj := h.modify g fun
  | .cells _ t fr => .cells #[.iface 206 (.pointer (some ⟨lowT + k, 0, none⟩))] t fr
  | o => o
noncomputable def setTab (h : Array Obj) (g : Nat) (c : List Value) : Array Obj := h.modify g fun
  | .cells _ t fr => .cells c.toArray t fr
  | o => o
noncomputable def tabOf (g : Nat) (d : DataW Unit) : List Value := (((Tryd.prog.globals[g]?).map (·.type)).bind fun t => rdw Tryd.prog 20 t d).getD []
noncomputable def setErrs (L : List (String × DataW Unit)) (k : Nat) (h : Array Obj) : Array Obj := match L with
  | [] => h
  | x :: l => setErrs l (k + 1) (match Tryd.prog.globalNamed x.1 with
    | some g => bif isErr x.2 then setErr h g k else setTab h g (tabOf g x.2)
    | none => h)
noncomputable def laidWorld (L : List (String × DataW Unit)) (os : Os) : World :=
  { World.holding Tryd.prog os ⟨(L.map fun x => Obj.cells #[.string (textOf x.2)] 230).toArray, #[], []⟩ with
    heap := setErrs L 0 (World.holding Tryd.prog os ⟨(L.map fun x => Obj.cells #[.string (textOf x.2)] 230).toArray, #[], []⟩).heap }

end Go.Dn.Ln

namespace Go.Proofs.YtombnpednnngoaaDoor.bulks
theorem one_le {H : Type} (d : DataW H) : 1 ≤ Rows.uptoBulk d := by
  cases d with
  | lit l => cases l <;> simp [Rows.uptoBulk]
  | nil => simp [Rows.uptoBulk]
  | ptr d => simp [Rows.uptoBulk]
  | slice elems spare => simp [Rows.uptoBulk]
  | agg parts => simp [Rows.uptoBulk]
  | iface t d => simp [Rows.uptoBulk]
  | map entries => simp [Rows.uptoBulk]
  | held h => simp [Rows.uptoBulk]

/-- a part's bulk is at most the whole's -/
theorem part_le {H : Type} {d : DataW H} {l : List (DataW H)} (h : d ∈ l) : Rows.uptoBulk d ≤ Rows.uptoBulkAll l := by
  induction l with
  | nil => cases h
  | cons x r ih =>
    simp only [Rows.uptoBulkAll]
    cases List.mem_cons.1 h with
    | inl e => subst e; omega
    | inr e => have := ih e; omega

theorem append {H : Type} (l r : List (DataW H)) : Rows.uptoBulkAll (l ++ r) = Rows.uptoBulkAll l + Rows.uptoBulkAll r := by
  induction l with
  | nil => simp [Rows.uptoBulkAll]
  | cons x l ih => simp only [List.cons_append, Rows.uptoBulkAll, ih]; omega

/-- so many values at the most -/
theorem length_le {H : Type} (l : List (DataW H)) : l.length ≤ Rows.uptoBulkAll l := by
  induction l with
  | nil => simp [Rows.uptoBulkAll]
  | cons x r ih => have := one_le x; simp only [Rows.uptoBulkAll, List.length_cons]; omega

/-- a slice's places, and what they hold -/
theorem slice_le {H : Type} (elems spare : List (DataW H)) : elems.length + spare.length + 1 ≤ Rows.uptoBulk (.slice elems spare) := by
  have h1 := length_le elems
  have h2 := length_le spare
  simp only [Rows.uptoBulk]
  omega
theorem slice_elems {H : Type} (elems spare : List (DataW H)) : Rows.uptoBulkAll elems + 1 ≤ Rows.uptoBulk (.slice elems spare) := by
  simp only [Rows.uptoBulk]
  omega

/-- a string's letters -/
theorem string_eq {H : Type} (bytes : List UInt8) : Rows.uptoBulk (DataW.lit (H := H) (.string bytes)) = bytes.length + 1 := by
  simp [Rows.uptoBulk]

/-- THE BOUND, as the builder hands it over ('hk') -/
theorem bound {H : Type} {l : List (DataW H)} (hk : Rows.uptoSmall H l = true) : Rows.uptoBulkAll l ≤ 1048576 := of_decide_eq_true hk


end Go.Proofs.YtombnpednnngoaaDoor.bulks
end

section
/-
  the closed facts of the seat's program that every row of it asks: each by itself, since together they ask for more than ten gigabytes
-/
namespace Go.Proofs.YtombnpednnngoaaDoor
open Go.ChangeShapes Go.Dn Go.Dn.Ln
set_option maxRecDepth 100000
theorem jLaid : laidOutB Tryd.pinned.checked.prog = true := by kernel_rfl
theorem jMaps : mapsRowed Tryd.pinned.checked.prog = true := by kernel_rfl
theorem jHeard : Program.stopsHeard Tryd.pinned.checked.prog = true := by kernel_rfl
theorem jEnter : Program.mayEnter Tryd.pinned.checked.prog = true := by kernel_rfl
theorem jKeys : Program.plainKeys Tryd.pinned.checked.prog = false := by kernel_rfl
theorem jLifts : Program.liftsFinal Tryd.pinned.checked.prog = false := by kernel_rfl
theorem jMake : Program.make Tryd.pinned.checked.prog = some Rows.laneDrainsUptoRow.make := by kernel_rfl
end Go.Proofs.YtombnpednnngoaaDoor
end
