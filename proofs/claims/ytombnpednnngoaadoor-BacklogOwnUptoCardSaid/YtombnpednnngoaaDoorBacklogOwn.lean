/-
  'BacklogOwn' is proved: a backlog's lists are new memory each time; of a nil backlog nothing is told, and nothing goes in. For all lists whose bulk is at most 1048576.
-/
import Derived.Test.YtombnpednnngoaaDoorPJ
import Derived.Test.YtombnpednnngoaaDoorPK

section
namespace Go.Proofs.YtombnpednnngoaaDoor.BacklogOwn
open Go.ChangeShapes Go.Dn Go.Dn.Ln Go.Dn.Bl
set_option maxRecDepth 100000

theorem own : ownKnob Tryd.prog.godebug = none := by kernel_rfl
theorem plainL : (Rows.backlogOwnRow.laid.filter fun x => x.2.handleName?.isSome) = [] := by kernel_rfl
theorem okL : mixOk Rows.backlogOwnRow.laid = true := by kernel_rfl
theorem allL : coversE Rows.backlogOwnRow.laid errs = true := by kernel_rfl

theorem okA : okT Tryd.bk.E.T 10 49 = true := by kernel_rfl

theorem contract (H : Type) (enc : TypeId × Value → H) (W : World) (base : Nat) (args : Array Value) (ds gs' : List (DataW H)) (before : List MemPlace)
    (hval : ∀ (j : Nat) t v, Tryd.f7.params[j]? = some t → args[j]? = some v → Value.okWide Tryd.prog W .any base t v)
    (hW : DataW.Whole enc Tryd.prog Tryd.f7.params.toList Rows.backlogOwnSpec.vars false W args.toList ds gs' before) (hL : laidMetH Tryd.prog Rows.backlogOwnRow.laid W) (hS : W.ShapedOpen Tryd.prog) (hk : Rows.uptoSmall H (ds ++ gs') = true) :
    Calls Tryd.prog 7 args W fun e W' => ∃ v, e = .returned v ∧ Rows.backlogOwnSpec.post enc Tryd.prog Tryd.f7 false true false false W args v W' := by
  have hL' : laidMet Tryd.prog Rows.backlogOwnRow.laid W := by
    unfold laidMetH at hL
    rw [plainL] at hL
    exact hL
  obtain ⟨R, rC, rrep, b1, b2, b3⟩ := begin_rep repB hS hL' okL (C := CB) rfl (fun i o hi => by
    obtain ⟨h1, h2⟩ := CB_get hi
    have := List.all_eq_true.1 allL i h1
    simp only [List.any_eq_true, Bool.and_eq_true, beq_iff_eq] at this
    obtain ⟨x, hx, hx1, hx2⟩ := this
    exact .inl ⟨x, hx, hx1, hx2, h2⟩)
  have hWt := hW
  obtain ⟨p, q, t1, t2, _⟩ := hWt
  have hgs : gs' = [] := by
    cases gs' with
    | nil => rfl
    | cons a l => simp [Rows.backlogOwnSpec, DataW.TrodVars] at t2
  subst hgs
  rw [← rC] at b1 b2
  have hnoC : ∀ i o, R.C.get i = some o → o.md ≠ .own := fun i o hi => by rw [(R.Cro i o hi).2]; simp
  obtain ⟨A, ρ, us, g1, e1, e2, e3, e4, e5⟩ := args_lay Tryd.good.tab 10 [49] args.toList ds p R.C R.ρC (fun t ht => by
    simp only [List.mem_cons, List.not_mem_nil, or_false] at ht
    subst ht
    exact okA) t1 (fun j t v hj hv => ⟨base, hval j t v (by rw [← Array.getElem?_toList]; exact hj) (by simpa using hv)⟩) b1 hnoC
  obtain ⟨s1, s2, s3, s4, s5⟩ := start_rel b3 b2 g1
  obtain ⟨u1, rfl⟩ : ∃ u1, us = [u1] := by
    match us, e2 with
    | [a], _ => exact ⟨a, rfl⟩
  obtain ⟨d1, rfl⟩ : ∃ d1, ds = [d1] := by
    match ds, e3 with
    | [a], _ => exact ⟨a, rfl⟩
  have hTA : Tryd.bk.E.T 49 = some Go.Dn.Tryd.ti49 := rfl
  obtain ⟨cs1, x1, rfl⟩ : ∃ cs, ArgR Tryd.bk.E.T A 49 d1 cs ∧ cs = [u1] := by
    obtain ⟨cs, a1, i, a2, a3⟩ := e4 0 49 d1 u1 rfl rfl rfl
    rw [hTA] at a2; cases a2
    rcases a3 with ⟨fs, hf, _⟩ | ⟨_, h⟩
    · cases hf
    · exact ⟨cs, a1, h⟩
  have hbk := bulks.bound hk
  simp only [List.append_nil, Rows.uptoBulkAll] at hbk
  obtain ⟨ids, q1, q2⟩ := nums_arg x1
  have q5 : ids.length ≤ Rows.uptoBulk d1 := by
    rcases q2 with h | ⟨els, sp, rfl, h⟩
    · omega
    · have := bulks.slice_le els sp
      omega
  obtain ⟨n, A', hrun⟩ := own_run s4 (s3 _ _ (by rw [rC]; exact CB_EB.e0)) q1 (by omega)
  have hAR : AR ρ [u1].toArray args := ⟨by simpa using e1, fun j u v hu hv => e5 j u v (by simpa using hu) (by simpa using hv)⟩
  refine (law_run (callD_ok Tryd.good (TBk_ok (fun k d B r => by rw [rrep]) (by rw [rC]; exact CB_EB) (TA_ok (by exact rC)) (by rw [rC]; exact CB_wf) (by rw [rC]; rfl)) n) s1 s2 hAR hrun).mono fun e W' he => ?_
  obtain ⟨rfl, h1, h2, h3, h4⟩ := he
  exact ⟨_, rfl, law_post Tryd.good.tab (fun t ht => by
    have : t ∈ [49] := ht
    simp only [List.mem_cons, List.not_mem_nil, or_false] at this
    subst this
    exact ⟨10, okA⟩) rfl (Tryd.underlying4) rfl hW rfl h1 h3 h4⟩

/-! ## the witness -/
noncomputable def w0 (os : Os) : World := laidWorld Rows.backlogOwnRow.laid os
def wargs : Array Value := #[.slice none 0 0]
theorem laid_met (os : Os) : laidMet Tryd.prog Rows.backlogOwnRow.laid ((w0 os).forCall (fun _ _ => 0) ⟨#[], wargs, []⟩).memory :=
  laidMet_of_run' 8 (by kernel_rfl) (by kernel_rfl)
theorem laid_metU (os : Os) : laidMet Tryd.prog Rows.backlogOwnUptoRow.laid ((w0 os).forCall (fun _ _ => 0) ⟨#[], wargs, []⟩).memory := laid_met os
theorem reads (os : Os) {H : Type} (enc : TypeId × Value → H) : ∃ places, DataW.whole enc Tryd.prog ((w0 os).forCall (fun _ _ => 0) ⟨#[], wargs, []⟩).memory Tryd.f7.params.toList Rows.backlogOwnSpec.vars false wargs.toList 8 =
    some ([.nil], [], places) := ⟨[], by kernel_rfl⟩

theorem lifted (os : Os) (started : os.Started) (H : Type) (enc : TypeId × Value → H) (F : Stop.Interp) :
    ReturnsInHanded {} Tryd.checked os 7 .any ((Rows.OpenSpec.upto Rows.backlogOwnSpec).preRow enc Tryd.prog Tryd.f7 Rows.backlogOwnUptoRow.domain false Rows.backlogOwnUptoRow.laid) (((Rows.OpenSpec.upto Rows.backlogOwnSpec).at F).post enc Tryd.prog Tryd.f7 false true false false) := by
  obtain ⟨places, hx⟩ := reads os enc
  refine returnsInHanded_of_row (C := Tryd.checked) (s := Rows.OpenSpec.upto Rows.backlogOwnSpec) own started (by kernel_rfl) Tryd.func7
    (witness_row_at (enc := enc) (C := Tryd.checked) false (w0 os) wargs rfl (by kernel_rfl) (by kernel_rfl) (by kernel_rfl)
      (OpenSpec.preRow_of_cond 8 hx (by kernel_rfl) (fun k hk => by cases hk; kernel_rfl) (by kernel_rfl) (laid_metU os))) ?_
  intro W base args ds gs before hval hW _ hcond _ hL hS _
  exact contract H enc W base args ds gs before hval hW hL hS (hcond _ rfl)

theorem facts : joinedFacts Tryd.pinned.checked.prog 7 Tryd.f7 (Rows.OpenSpec.upto Rows.backlogOwnSpec).bare Rows.backlogOwnUptoRow = true := by
  unfold joinedFacts; rw [jLaid, jMaps, jHeard, jEnter, jKeys, jLifts, jMake]; kernel_rfl

theorem saidUpto : Rows.BacklogOwnUptoSaid :=
  OpenClaim.holds_of_cond 7 Tryd.f7 rfl rfl rfl rfl rfl rfl rfl ⟨rfl, rfl, rfl, rfl, rfl⟩ rfl rfl rfl rfl rfl (by kernel_rfl) Tryd.func7 facts
    (of_decide_eq_true (by kernel_rfl)) (by unfold Func.isWrapper; first | (rw [if_pos (by decide +kernel)]; kernel_rfl) | (rw [if_neg (by decide +kernel)]; exact ⟨rfl, rfl⟩))
    (fun os started H enc _ F => by rw [OpenClaim.pre_eq_preRow]; exact lifted os started H enc F)

theorem plain (f : FuncId) (fn : Func) (hf : Tryd.pinned.checked.prog.funcNamed "culvert/culvertlaw16.BacklogOwn" = some f) (hfn : Tryd.pinned.checked.prog.funcs[f]? = some fn) :
    true = Tryd.pinned.checked.prog.looks [] ∧ ∀ (j : Nat) t, fn.params[j]? = some t → Tryd.pinned.checked.prog.wantsStandIn t = false := by
  obtain rfl : f = 7 := Option.some.inj ((show Tryd.prog.funcNamed "culvert/culvertlaw16.BacklogOwn" = some 7 by kernel_rfl).symm.trans hf) |>.symm
  obtain rfl : fn = Tryd.f7 := (Option.some.inj (Tryd.func7.symm.trans hfn)).symm
  refine ⟨by kernel_rfl, fun j t ht => ?_⟩
  have h := Array.mem_of_getElem? ht
  have : t ∈ #[49] := h
  have : t = 49 := by simpa using this
  subst this
  exact (show Tryd.prog.wantsStandIn 49 = false by kernel_rfl)

/-- ████ THE CARD ████ -/
theorem card : Rows.BacklogOwnUptoCardSaid :=
  Claim7.holds_tied_plain_at .later [] _ _ _ _ saidUpto (fun _ h => by cases h) (by kernel_rfl) (fun _ h => by cases h) backlogOwnUpto_row_tie rfl ⟨rfl, rfl⟩ (by kernel_rfl) rfl plain (by kernel_rfl)

end Go.Proofs.YtombnpednnngoaaDoor.BacklogOwn
end
