/-
  Part of the abstract machine for this program.
-/
import Derived.Test.YtombnpednnngoaaDoorPJ
import Derived.Test.YtombnpednnngoaaDoorPK

section
/-
  frame.lawful as a call finds it
-/
namespace Go.Dn
open Go.ChangeShapes
/-- an array's row, part by part -/
theorem trod_array {P : Program} {w : World} {base : Nat} {spare : Nat → Bool} {t e : TypeId} {m fuel : Nat} {cs : List Value} {ds : List (DataW Unit)} {p : List MemPlace}
    (h : DataW.trod (fun _ => ()) P w base spare false fuel t cs = some (.agg ds, p)) (hu : P.underlying t = some (.array m e)) :
    cs.length = P.cellsOf t ∧ ds.length = m ∧ ∀ i, i < m → ∃ fu q d, ds[i]? = some d ∧ DataW.trod (fun _ => ()) P w base spare false fu e ((cs.drop (i * P.cellsOf e)).take (P.cellsOf e)) = some (d, q) := by
  cases fuel with
  | zero => cases h
  | succ fuel =>
    unfold DataW.trod at h
    rw [hu] at h
    simp only at h
    split at h
    · rename_i hcl
      cases h2 : (List.range m).mapM (fun i => DataW.trod (fun _ => ()) P w base spare false fuel e ((cs.drop (i * P.cellsOf e)).take (P.cellsOf e))) with
      | none => rw [h2] at h; cases h
      | some xs =>
        rw [h2] at h
        simp only [Option.map_some, Option.some.injEq, Prod.mk.injEq, DataW.agg.injEq] at h
        obtain ⟨h3, _⟩ := h
        subst h3
        obtain ⟨e1, e2⟩ := mapM_get h2
        refine ⟨hcl, by simpa using e1, fun i hi => ?_⟩
        obtain ⟨b, b1, b2⟩ := e2 i i (List.getElem?_range hi)
        exact ⟨fuel, b.2, b.1, by simp [b1], b2⟩
    · cases h
end Go.Dn

namespace Go.Dn.Lf
open Go.Proofs Go.Dn.Ln Go.ChangeShapes Go.Proofs.YtombnpednnngoaaDoor
set_option maxRecDepth 100000

theorem ints_flat {A : Hp} : ∀ (l : List Int) (els : List (DataW Unit)) (css : List (List Value)), els = l.map (fun x => .lit (.int .u16 x)) → els.length = css.length →
    (∀ (k : Nat) d c, els[k]? = some d → css[k]? = some c → ArgR Tryd.bk.E.T A 75 d c) → css.flatten = u16s l
  | [], _, css, rfl, hl, _ => by
    have : css = [] := List.eq_nil_of_length_eq_zero (by simpa using hl.symm)
    subst this; rfl
  | x :: l, _, [], rfl, hl, _ => by simp at hl
  | x :: l, _, c :: css, rfl, hl, h => by
    obtain ⟨n, e, rfl, _⟩ := (h 0 _ c rfl rfl).int_inv (i := Go.Dn.Tryd.ti75) rfl rfl
    have ih := ints_flat l _ css rfl (by simpa using hl) (fun k d c' h1 h2 => h (k + 1) d c' (by simpa using h1) (by simpa using h2))
    simp only [DataW.lit.injEq, Lit.int.injEq, true_and] at e
    subst e
    rw [List.flatten_cons, ih]
    rfl

theorem slice_u16 {A : Hp} {l : List Int} {c : List Value} (hl : l ≠ []) (h : ArgR Tryd.bk.E.T A 158 (.slice (l.map fun x => (.lit (.int .u16 x) : DataW Unit)) []) c) :
    ∃ i, c = [.slice (some ⟨i, 0, some 1⟩) l.length (2 * l.length)] ∧ A.get i = some (.arr 75 (u16s l) .sh) := by
  generalize hd : (DataW.slice (l.map fun x => (.lit (.int .u16 x) : DataW Unit)) []) = d at h
  cases h with
  | slice h hd' he hj els sp css id hA hl' hn hz hc =>
    have h158 : Tryd.bk.E.T 158 = some Go.Dn.Tryd.ti158 := rfl
    rw [h158] at h; cases h
    cases hd'
    have h75 : Tryd.bk.E.T 75 = some Go.Dn.Tryd.ti75 := rfl
    rw [h75] at he; cases he
    cases hd
    rw [ints_flat l _ css rfl hl' hc] at hA
    exact ⟨id, by simp; rfl, hA⟩
  | empty h hd' =>
    simp only [DataW.slice.injEq, List.map_eq_nil_iff] at hd
    exact absurd hd.1 hl
  | _ => cases hd

theorem under159 : Tryd.prog.underlying 159 = some (.array 4 158) := Tryd.underlying159
theorem cells159 : Tryd.prog.cellsOf 159 = 4 := by kernel_rfl
theorem cells158 : Tryd.prog.cellsOf 158 = 1 := by kernel_rfl
theorem ok158 : okT Tryd.bk.E.T 10 158 = true := by kernel_rfl

/-- the table behind what came in -/
theorem lawful_lay [Reps] {W : World} {cs : Array Value} {fuel : Nat} {p : List MemPlace} (h : DataW.trod (fun _ => ()) Tryd.prog W 0 (fun _ => true) false fuel 159 cs.toList = some (Rows.laid_culvert_frame_lawful, p))
    {A : Hp} {ρ : Rn} (hr : Rel Tryd.prog ρ A W) (hno : ∀ i o, A.get i = some o → o.md ≠ .own) :
    ∃ A' ρ' i0 i1 i2 i3, Grew Tryd.prog W A ρ A' ρ' ∧ A'.get i1 = some (.arr 75 (u16s [0, 1, 2, 4, 8, 5, 6]) .sh) ∧ A'.get i2 = some (.arr 75 (u16s [1, 2]) .sh) ∧ A'.get i3 = some (.arr 75 (u16s [0]) .sh) ∧
      CellsR ρ' (lawC i0 i1 i2 i3) cs.toList := by
  obtain ⟨h1, _, h3⟩ := trod_array (m := 4) (e := 158) h under159
  rw [cells159] at h1
  simp only [cells158, Nat.mul_one] at h3
  obtain ⟨v0, v1, v2, v3, hcs⟩ : ∃ a b c d, cs.toList = [a, b, c, d] := by
    match cs.toList, h1 with
    | [a, b, c, d], _ => exact ⟨a, b, c, d, rfl⟩
  rw [hcs] at h3
  have hlay : LayOk (fun _ => ()) Tryd.prog W 0 (fun _ => true) false Tryd.bk.E.T 158 := lay_ok Tryd.good.tab 10 158 ok158
  have pc : ∀ i, i < 4 → ∃ fu q d, _ := h3
  obtain ⟨f0, q0, d0, e0, t0⟩ := h3 0 (by decide)
  obtain ⟨f1, q1, d1, e1, t1⟩ := h3 1 (by decide)
  obtain ⟨f2, q2, d2, e2, t2⟩ := h3 2 (by decide)
  obtain ⟨f3, q3, d3, e3, t3⟩ := h3 3 (by decide)
  cases e0; cases e1; cases e2; cases e3
  obtain ⟨A', ρ', css, g, l1, l2⟩ := lays [(158, [v0], .slice ([0, 1, 2, 4, 8, 5, 6].map fun x => (.lit (.int .u16 x) : DataW Unit)) []), (158, [v1], .slice ([0, 1, 2, 4, 8, 5, 6].map fun x => (.lit (.int .u16 x) : DataW Unit)) []), (158, [v2], .slice ([1, 2].map fun x => (.lit (.int .u16 x) : DataW Unit)) []), (158, [v3], .slice ([0].map fun x => (.lit (.int .u16 x) : DataW Unit)) [])] A ρ (fun x hx => by
    simp only [List.mem_cons, List.not_mem_nil, or_false] at hx
    rcases hx with rfl | rfl | rfl | rfl
    · exact ⟨hlay, f0, q0, t0⟩
    · exact ⟨hlay, f1, q1, t1⟩
    · exact ⟨hlay, f2, q2, t2⟩
    · exact ⟨hlay, f3, q3, t3⟩) hr hno
  obtain ⟨c0, c1, c2, c3, rfl⟩ : ∃ a b c d, css = [a, b, c, d] := by
    match css, l1 with
    | [a, b, c, d], _ => exact ⟨a, b, c, d, rfl⟩
  obtain ⟨a0, r0⟩ := l2 0 _ _ rfl rfl
  obtain ⟨a1, r1⟩ := l2 1 _ _ rfl rfl
  obtain ⟨a2, r2⟩ := l2 2 _ _ rfl rfl
  obtain ⟨a3, r3⟩ := l2 3 _ _ rfl rfl
  obtain ⟨i0, rfl, g0⟩ := slice_u16 (by simp) a0
  obtain ⟨i1, rfl, g1⟩ := slice_u16 (by simp) a1
  obtain ⟨i2, rfl, g2⟩ := slice_u16 (by simp) a2
  obtain ⟨i3, rfl, g3⟩ := slice_u16 (by simp) a3
  refine ⟨A', ρ', i0, i1, i2, i3, g, g1, g2, g3, ?_⟩
  rw [hcs]
  exact ((r0.append r1).append r2).append r3
end Go.Dn.Lf
end

section
/-
  the closed facts of the seat's program that every row of it asks: each by itself, since together they ask for more than ten gigabytes
-/
namespace Go.Proofs.YtombnpednnngoaaDoor
open Go.ChangeShapes Go.Dn Go.Dn.Ln
set_option maxRecDepth 100000
theorem jLaid : laidOutB Tryd.pinned.checked.prog = true := by kernel_rfl
theorem jMaps : mapsRowed Tryd.pinned.checked.prog = true := by kernel_rfl
theorem jHeard : Program.stopsHeard Tryd.pinned.checked.prog = true := by kernel_rfl
theorem jEnter : Program.mayEnter Tryd.pinned.checked.prog = true := by kernel_rfl
theorem jKeys : Program.plainKeys Tryd.pinned.checked.prog = false := by kernel_rfl
theorem jLifts : Program.liftsFinal Tryd.pinned.checked.prog = false := by kernel_rfl
theorem jMake : Program.make Tryd.pinned.checked.prog = some Rows.laneDrainsUptoRow.make := by kernel_rfl
end Go.Proofs.YtombnpednnngoaaDoor
end
