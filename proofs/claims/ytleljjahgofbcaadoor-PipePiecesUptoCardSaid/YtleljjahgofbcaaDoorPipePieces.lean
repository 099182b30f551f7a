/-
  'PipePieces' is proved: in whatever pieces bytes are put and moved, they come out as they went in, and Passed and Len together are what was put. For all arguments whose bulk is at most 1048576.
-/
import Derived.Test.YtleljjahgofbcaaDoorDnO
import Derived.Test.YtleljjahgofbcaaDoorDnP
import Derived.Test.YtleljjahgofbcaaDoorDnJ

section
namespace Go.Proofs.YtleljjahgofbcaaDoor.PipePieces
open Go.ChangeShapes Go.Dn Go.Dn.Pipe
set_option maxRecDepth 100000

theorem own : ownKnob Tryd.prog.godebug = none := by kernel_rfl
theorem plainL : (Rows.pipePiecesRow.laid.filter fun x => x.2.handleName?.isSome) = [] := by kernel_rfl
theorem okL : errOk Rows.pipePiecesRow.laid = true := by kernel_rfl
def gs : List Nat := [0, 1, 6, 7]
theorem allL : covers Rows.pipePiecesRow.laid gs = true := by kernel_rfl
theorem wakesC : (callD Tryd.bk noCalls 20 12 [] (mkC gs)).map (·.1) = some (.bool true) := by kernel_rfl

theorem lit_i64 {n : Int} (h : (Lit.int .i64 n).wf = true) : n ≤ 9223372036854775807 := by
  simp only [Lit.wf, Bool.and_eq_true, decide_eq_true_eq] at h
  exact h.2

theorem ok22 : okT Tryd.bk.E.T 10 22 = true := by kernel_rfl
theorem ok23 : okT Tryd.bk.E.T 10 23 = true := by kernel_rfl

theorem contract (H : Type) (enc : TypeId × Value → H) (W : World) (base : Nat) (args : Array Value) (ds gs' : List (DataW H)) (before : List MemPlace)
    (hval : ∀ (j : Nat) t v, Tryd.f3.params[j]? = some t → args[j]? = some v → Value.okWide Tryd.prog W .any base t v)
    (hW : DataW.Whole enc Tryd.prog Tryd.f3.params.toList Rows.pipePiecesSpec.vars false W args.toList ds gs' before) (hL : laidMetH Tryd.prog Rows.pipePiecesRow.laid W) (hS : W.ShapedOpen Tryd.prog) (hk : Rows.uptoSmall H (ds ++ gs') = true) :
    Calls Tryd.prog 3 args W fun e W' => ∃ v, e = .returned v ∧ Rows.pipePiecesSpec.post enc Tryd.prog Tryd.f3 false true false false W args v W' := by
  have hL' : laidMet Tryd.prog Rows.pipePiecesRow.laid W := by
    unfold laidMetH at hL
    rw [plainL] at hL
    exact hL
  obtain ⟨R, rC, rrep, b1, b2, b3⟩ := begin_rep repP hS hL' okL (C := mkC gs) (mkC_next gs) (fun i o hi => by
    obtain ⟨h1, h2⟩ := mkC_get hi
    refine ⟨?_, h2⟩
    have := List.all_eq_true.1 allL i h1
    simp only [List.any_eq_true, beq_iff_eq] at this
    exact this)
  have hWt := hW
  obtain ⟨p, q, t1, t2, _⟩ := hWt
  have hgs : gs' = [] := by
    cases gs' with
    | nil => rfl
    | cons a l => simp [Rows.pipePiecesSpec, DataW.TrodVars] at t2
  subst hgs
  rw [← rC] at b1 b2
  have hnoC : ∀ i o, R.C.get i = some o → o.md ≠ .own := fun i o hi => by rw [(R.Cro i o hi).2]; simp
  obtain ⟨A, ρ, us, g1, e1, e2, e3, e4, e5⟩ := args_lay Tryd.good.tab 10 [22, 23, 23] args.toList ds p R.C R.ρC (fun t ht => by
    simp only [List.mem_cons, List.not_mem_nil, or_false] at ht
    rcases ht with rfl | rfl | rfl
    · exact ok22
    · exact ok23
    · exact ok23) t1 (fun j t v hj hv => ⟨base, hval j t v (by rw [← Array.getElem?_toList]; exact hj) (by simpa using hv)⟩) b1 hnoC
  obtain ⟨s1, s2, s3, s4, s5⟩ := start_rel b3 b2 g1
  obtain ⟨u1, u2, u3, rfl⟩ : ∃ u1 u2 u3, us = [u1, u2, u3] := by
    match us, e2 with
    | [a, b, c], _ => exact ⟨a, b, c, rfl⟩
  obtain ⟨d1, d2, d3, rfl⟩ : ∃ d1 d2 d3, ds = [d1, d2, d3] := by
    match ds, e3 with
    | [a, b, c], _ => exact ⟨a, b, c, rfl⟩
  have hT22 : Tryd.bk.E.T 22 = some Go.Dn.Tryd.ti22 := rfl
  have hT23 : Tryd.bk.E.T 23 = some Go.Dn.Tryd.ti23 := rfl
  have sl22 : ∀ {d : DataW H} {u : Value}, ArgV Tryd.bk.E.T A 22 d u → ∃ cs, ArgR Tryd.bk.E.T A 22 d cs ∧ cs = [u] := by
    intro d u h
    obtain ⟨cs, a1, i, a2, a3⟩ := h
    rw [hT22] at a2; cases a2
    rcases a3 with ⟨fs, hf, _⟩ | ⟨_, h⟩
    · cases hf
    · exact ⟨cs, a1, h⟩
  have sl23 : ∀ {d : DataW H} {u : Value}, ArgV Tryd.bk.E.T A 23 d u → ∃ cs, ArgR Tryd.bk.E.T A 23 d cs ∧ cs = [u] := by
    intro d u h
    obtain ⟨cs, a1, i, a2, a3⟩ := h
    rw [hT23] at a2; cases a2
    rcases a3 with ⟨fs, hf, _⟩ | ⟨_, h⟩
    · cases hf
    · exact ⟨cs, a1, h⟩
  obtain ⟨cs1, x1, rfl⟩ := sl22 (e4 0 22 d1 u1 rfl rfl rfl)
  obtain ⟨cs2, x2, rfl⟩ := sl23 (e4 1 23 d2 u2 rfl rfl rfl)
  obtain ⟨cs3, x3, rfl⟩ := sl23 (e4 2 23 d3 u3 rfl rfl rfl)
  obtain ⟨w1, c1, l1, z1, y1, y2, y3, y4, y5, _⟩ := x1.sl (i := Go.Dn.Tryd.ti22) (j := Go.Dn.Tryd.ti5) rfl rfl rfl
  obtain ⟨w2, c2, l2, z2, p1, p2, p3, p4, p5, _⟩ := x2.sl (i := Go.Dn.Tryd.ti23) (j := Go.Dn.Tryd.ti3) rfl rfl rfl
  obtain ⟨w3, c3, l3, z3, q1, q2, q3, q4, q5, _⟩ := x3.sl (i := Go.Dn.Tryd.ti23) (j := Go.Dn.Tryd.ti3) rfl rfl rfl
  cases z1; cases z2; cases z3
  have hbk := bulks.bound hk
  have small : ∀ {d : DataW H} {els : List (DataW H)} {css : List (List Value)}, Rows.uptoBulk d ≤ 1048576 → els.length = css.length → (d = .nil ∧ els = [] ∨ ∃ sp, d = .slice els sp) → css.length ≤ 1048576 := by
    intro d els css hd hl hh
    rcases hh with ⟨_, rfl⟩ | ⟨sp, rfl⟩
    · rw [← hl]; simp
    · have := bulks.slice_le els sp
      omega
  simp only [List.append_nil, Rows.uptoBulkAll] at hbk
  have hz1 := small (by omega) y2 y3
  have hz2 := small (by omega) p2 p3
  have hz3 := small (by omega) q2 q3
  have hfl := flat_len c1 1 y5
  rw [Nat.mul_one] at hfl
  have hup : ∀ u ∈ c1.flatten, plain0 u = true := by
    intro u hu
    obtain ⟨j, hj⟩ := List.getElem?_of_mem hu
    obtain ⟨n, rfl, _⟩ := ints_of (k := .u8) (i := Go.Dn.Tryd.ti5) rfl rfl y2 y4 y5 j u hj
    rfl
  have hby : ∀ (j : Nat) x, c1.flatten[j]? = some x → ∃ n, x = .int .u8 n := fun j x hx => by
    obtain ⟨n, e, _⟩ := ints_of (k := .u8) (i := Go.Dn.Tryd.ti5) rfl rfl y2 y4 y5 j x hx
    exact ⟨n, e⟩
  have hi2 : ∀ (j : Nat) x, c2.flatten[j]? = some x → ∃ n, x = .int .i64 n ∧ n ≤ 9223372036854775807 := fun j x hx => by
    obtain ⟨n, e, hn⟩ := ints_of (k := .i64) (i := Go.Dn.Tryd.ti3) rfl rfl p2 p4 p5 j x hx
    exact ⟨n, e, lit_i64 hn⟩
  have hi3 : ∀ (j : Nat) x, c3.flatten[j]? = some x → ∃ n, x = .int .i64 n ∧ n ≤ 9223372036854775807 := fun j x hx => by
    obtain ⟨n, e, hn⟩ := ints_of (k := .i64) (i := Go.Dn.Tryd.ti3) rfl rfl q2 q4 q5 j x hx
    exact ⟨n, e, lit_i64 hn⟩
  obtain ⟨n, A', hrun⟩ := pieces_run (base := withCall noCalls 12 wakesF) (fun A => rfl) (fun _ _ => rfl) (fun _ _ => rfl) s4 y1 hup hby (by omega) p1 hi2 hz2 q1 hi3 hz3
  have hAR : AR ρ [u1, u2, u3].toArray args := ⟨by simpa using e1, fun j u v hu hv => e5 j u v (by simpa using hu) (by simpa using hv)⟩
  have hB : CallOK Tryd.prog (withCall noCalls 12 wakesF) := wakes_known (by rw [rC]; exact wakesC)
  refine (law_run (callD_ok Tryd.good (T3_ok (fun k d B r => by rw [rrep]) hB (by rw [rC]; exact mkC_wf (by decide))) n) s1 s2 hAR hrun).mono fun e W' he => ?_
  obtain ⟨rfl, h1, h2, h3, h4⟩ := he
  exact ⟨_, rfl, law_post Tryd.good.tab (fun t ht => by
    have : t ∈ [22, 23, 23] := ht
    simp only [List.mem_cons, List.not_mem_nil, or_false] at this
    rcases this with rfl | rfl | rfl
    · exact ⟨10, ok22⟩
    · exact ⟨10, ok23⟩
    · exact ⟨10, ok23⟩) rfl (Tryd.underlying4) rfl hW rfl h1 h3 h4⟩

/-! ## the witness -/
noncomputable def w0 (os : Os) : World := laidWorld Rows.pipePiecesRow.laid os
def wargs : Array Value := #[.slice none 0 0, .slice none 0 0, .slice none 0 0]
theorem laid_met (os : Os) : laidMet Tryd.prog Rows.pipePiecesRow.laid ((w0 os).forCall (fun _ _ => 0) ⟨#[], wargs, []⟩).memory :=
  laidMet_of_run' 8 (by kernel_rfl) (by kernel_rfl)
theorem laid_metU (os : Os) : laidMet Tryd.prog Rows.pipePiecesUptoRow.laid ((w0 os).forCall (fun _ _ => 0) ⟨#[], wargs, []⟩).memory := laid_met os
theorem reads (os : Os) {H : Type} (enc : TypeId × Value → H) : ∃ places, DataW.whole enc Tryd.prog ((w0 os).forCall (fun _ _ => 0) ⟨#[], wargs, []⟩).memory Tryd.f3.params.toList Rows.pipePiecesSpec.vars false wargs.toList 8 =
    some ([.nil, .nil, .nil], [], places) := ⟨[], by kernel_rfl⟩

theorem lifted (os : Os) (started : os.Started) (H : Type) (enc : TypeId × Value → H) (F : Stop.Interp) :
    ReturnsInHanded {} Tryd.checked os 3 .any ((Rows.OpenSpec.upto Rows.pipePiecesSpec).preRow enc Tryd.prog Tryd.f3 Rows.pipePiecesUptoRow.domain false Rows.pipePiecesUptoRow.laid) (((Rows.OpenSpec.upto Rows.pipePiecesSpec).at F).post enc Tryd.prog Tryd.f3 false true false false) := by
  obtain ⟨places, hx⟩ := reads os enc
  refine returnsInHanded_of_row (C := Tryd.checked) (s := Rows.OpenSpec.upto Rows.pipePiecesSpec) own started (by kernel_rfl) Tryd.func3
    (witness_row_at (enc := enc) (C := Tryd.checked) false (w0 os) wargs rfl (by kernel_rfl) (by kernel_rfl) (by kernel_rfl)
      (OpenSpec.preRow_of_cond 8 hx (by kernel_rfl) (fun k hk => by cases hk; kernel_rfl) (by kernel_rfl) (laid_metU os))) ?_
  intro W base args ds gs before hval hW _ hcond _ hL hS _
  exact contract H enc W base args ds gs before hval hW hL hS (hcond _ rfl)

theorem saidUpto : Rows.PipePiecesUptoSaid :=
  OpenClaim.holds_of_cond 3 Tryd.f3 rfl rfl rfl rfl rfl rfl rfl ⟨rfl, rfl, rfl, rfl, rfl⟩ rfl rfl rfl rfl rfl (by kernel_rfl) Tryd.func3 (by kernel_rfl)
    (of_decide_eq_true (by kernel_rfl)) (by unfold Func.isWrapper; first | (rw [if_pos (by decide +kernel)]; kernel_rfl) | (rw [if_neg (by decide +kernel)]; exact ⟨rfl, rfl⟩))
    (fun os started H enc _ F => by rw [OpenClaim.pre_eq_preRow]; exact lifted os started H enc F)

theorem plain (f : FuncId) (fn : Func) (hf : Tryd.pinned.checked.prog.funcNamed "culvert/culvertlaw19.PipePieces" = some f) (hfn : Tryd.pinned.checked.prog.funcs[f]? = some fn) :
    true = Tryd.pinned.checked.prog.looks [] ∧ ∀ (j : Nat) t, fn.params[j]? = some t → Tryd.pinned.checked.prog.wantsStandIn t = false := by
  obtain rfl : f = 3 := Option.some.inj ((show Tryd.prog.funcNamed "culvert/culvertlaw19.PipePieces" = some 3 by kernel_rfl).symm.trans hf) |>.symm
  obtain rfl : fn = Tryd.f3 := (Option.some.inj (Tryd.func3.symm.trans hfn)).symm
  refine ⟨by kernel_rfl, fun j t ht => ?_⟩
  have h := Array.mem_of_getElem? ht
  have : t ∈ #[22, 23, 23] := h
  have : t = 22 ∨ t = 23 := by simpa using this
  rcases this with rfl | rfl
  · exact (show Tryd.prog.wantsStandIn 22 = false by kernel_rfl)
  · exact (show Tryd.prog.wantsStandIn 23 = false by kernel_rfl)

/-- ████ THE CARD ████ -/
theorem card : Rows.PipePiecesUptoCardSaid :=
  Claim7.holds_tied_plain_at .later [] _ _ _ _ saidUpto (fun _ h => by cases h) (by kernel_rfl) (fun _ h => by cases h) pipePiecesUpto_row_tie rfl ⟨rfl, rfl⟩ (by kernel_rfl) rfl plain (by kernel_rfl)

end Go.Proofs.YtleljjahgofbcaaDoor.PipePieces
end
