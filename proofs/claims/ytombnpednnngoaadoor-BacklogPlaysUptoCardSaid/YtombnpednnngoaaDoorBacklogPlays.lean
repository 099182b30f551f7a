/-
  'BacklogPlays' is proved: a backlog plays as the document's does, op by op. For all lists whose bulk is at most 1048576.
-/
import Derived.Test.YtombnpednnngoaaDoorPL

section
namespace Go.Proofs.YtombnpednnngoaaDoor.BacklogPlays
open Go.ChangeShapes Go.Dn Go.Dn.Ln Go.Dn.Bl
set_option maxRecDepth 100000

theorem own : ownKnob Tryd.prog.godebug = none := by kernel_rfl
theorem plainL : (Rows.backlogPlaysRow.laid.filter fun x => x.2.handleName?.isSome) = [] := by kernel_rfl
theorem okL : mixOk Rows.backlogPlaysRow.laid = true := by kernel_rfl
theorem allL : coversE Rows.backlogPlaysRow.laid errs = true := by kernel_rfl

theorem okA : okT Tryd.bk.E.T 10 45 = true := by kernel_rfl

theorem contract (H : Type) (enc : TypeId × Value → H) (W : World) (base : Nat) (args : Array Value) (ds gs' : List (DataW H)) (before : List MemPlace)
    (hval : ∀ (j : Nat) t v, Tryd.f5.params[j]? = some t → args[j]? = some v → Value.okWide Tryd.prog W .any base t v)
    (hW : DataW.Whole enc Tryd.prog Tryd.f5.params.toList Rows.backlogPlaysSpec.vars false W args.toList ds gs' before) (hL : laidMetH Tryd.prog Rows.backlogPlaysRow.laid W) (hS : W.ShapedOpen Tryd.prog) (hk : Rows.uptoSmall H (ds ++ gs') = true) :
    Calls Tryd.prog 5 args W fun e W' => ∃ v, e = .returned v ∧ Rows.backlogPlaysSpec.post enc Tryd.prog Tryd.f5 false true false false W args v W' := by
  have hL' : laidMet Tryd.prog Rows.backlogPlaysRow.laid W := by
    unfold laidMetH at hL
    rw [plainL] at hL
    exact hL
  obtain ⟨R, rC, rrep, b1, b2, b3⟩ := begin_rep repB hS hL' okL (C := CB) rfl (fun i o hi => by
    obtain ⟨h1, h2⟩ := CB_get hi
    have := List.all_eq_true.1 allL i h1
    simp only [List.any_eq_true, Bool.and_eq_true, beq_iff_eq] at this
    obtain ⟨x, hx, hx1, hx2⟩ := this
    exact .inl ⟨x, hx, hx1, hx2, h2⟩)
  have hWt := hW
  obtain ⟨p, q, t1, t2, _⟩ := hWt
  have hgs : gs' = [] := by
    cases gs' with
    | nil => rfl
    | cons a l => simp [Rows.backlogPlaysSpec, DataW.TrodVars] at t2
  subst hgs
  rw [← rC] at b1 b2
  have hnoC : ∀ i o, R.C.get i = some o → o.md ≠ .own := fun i o hi => by rw [(R.Cro i o hi).2]; simp
  obtain ⟨A, ρ, us, g1, e1, e2, e3, e4, e5⟩ := args_lay Tryd.good.tab 10 [45] args.toList ds p R.C R.ρC (fun t ht => by simp only [List.mem_singleton] at ht; subst ht; exact okA) t1 (fun j t v hj hv => ⟨base, hval j t v (by rw [← Array.getElem?_toList]; exact hj) (by simpa using hv)⟩) b1 hnoC
  obtain ⟨s1, s2, s3, s4, s5⟩ := start_rel b3 b2 g1
  obtain ⟨u1, rfl⟩ : ∃ u, us = [u] := by
    match us, e2 with
    | [u], _ => exact ⟨u, rfl⟩
  obtain ⟨d1, rfl⟩ : ∃ d, ds = [d] := by
    match ds, e3 with
    | [d], _ => exact ⟨d, rfl⟩
  have hTA : Tryd.bk.E.T 45 = some Go.Dn.Tryd.ti45 := rfl
  obtain ⟨cs, a1, i, a2, a3⟩ := e4 0 45 d1 u1 rfl rfl rfl
  rw [hTA] at a2; cases a2
  rcases a3 with ⟨fs, hf, _⟩ | ⟨_, rfl⟩
  · cases hf
  obtain ⟨w1, c1, l1, z1, y1, y2, y3, y4, y5, _⟩ := a1.sl (i := Go.Dn.Tryd.ti45) (j := Go.Dn.Tryd.ti55) rfl rfl rfl
  cases z1
  have hbk := bulks.bound hk
  simp only [List.append_nil, Rows.uptoBulkAll] at hbk
  obtain ⟨ta, o1⟩ := opBs_list c1 l1 y2 y4
  have hz1 : l1.length ≤ Rows.uptoBulk d1 := by
    rcases y3 with ⟨_, rfl⟩ | ⟨sp, rfl⟩
    · simp
    · have := bulks.slice_le l1 sp
      omega
  subst o1
  rw [List.length_map] at y1 y2
  obtain ⟨n, A', hrun⟩ := plays_run s4 (s3 _ _ (by rw [rC]; exact CB_EB.e4)) y1 (by omega)
  have hAR : AR ρ [u1].toArray args := ⟨by simpa using e1, fun j u v hu hv => e5 j u v (by simpa using hu) (by simpa using hv)⟩
  refine (law_run (callD_ok Tryd.good (TBk_ok (fun k d B r => by rw [rrep]) (by rw [rC]; exact CB_EB) (TA_ok (by exact rC)) (by rw [rC]; exact CB_wf) (by rw [rC]; rfl)) n) s1 s2 hAR hrun).mono fun e W' he => ?_
  obtain ⟨rfl, h1, h2, h3, h4⟩ := he
  exact ⟨_, rfl, law_post Tryd.good.tab (fun t ht => by
    have : t ∈ [45] := ht
    simp only [List.mem_singleton] at this; subst this; exact ⟨10, okA⟩) rfl (Tryd.underlying4) rfl hW rfl h1 h3 h4⟩

/-! ## the witness -/
noncomputable def w0 (os : Os) : World := laidWorld Rows.backlogPlaysRow.laid os
def wargs : Array Value := #[.slice none 0 0]
theorem laid_met (os : Os) : laidMet Tryd.prog Rows.backlogPlaysRow.laid ((w0 os).forCall (fun _ _ => 0) ⟨#[], wargs, []⟩).memory :=
  laidMet_of_run' 8 (by kernel_rfl) (by kernel_rfl)
theorem laid_metU (os : Os) : laidMet Tryd.prog Rows.backlogPlaysUptoRow.laid ((w0 os).forCall (fun _ _ => 0) ⟨#[], wargs, []⟩).memory := laid_met os
theorem reads (os : Os) {H : Type} (enc : TypeId × Value → H) : ∃ places, DataW.whole enc Tryd.prog ((w0 os).forCall (fun _ _ => 0) ⟨#[], wargs, []⟩).memory Tryd.f5.params.toList Rows.backlogPlaysSpec.vars false wargs.toList 8 =
    some ([.nil], [], places) := ⟨[], by kernel_rfl⟩

theorem lifted (os : Os) (started : os.Started) (H : Type) (enc : TypeId × Value → H) (F : Stop.Interp) :
    ReturnsInHanded {} Tryd.checked os 5 .any ((Rows.OpenSpec.upto Rows.backlogPlaysSpec).preRow enc Tryd.prog Tryd.f5 Rows.backlogPlaysUptoRow.domain false Rows.backlogPlaysUptoRow.laid) (((Rows.OpenSpec.upto Rows.backlogPlaysSpec).at F).post enc Tryd.prog Tryd.f5 false true false false) := by
  obtain ⟨places, hx⟩ := reads os enc
  refine returnsInHanded_of_row (C := Tryd.checked) (s := Rows.OpenSpec.upto Rows.backlogPlaysSpec) own started (by kernel_rfl) Tryd.func5
    (witness_row_at (enc := enc) (C := Tryd.checked) false (w0 os) wargs rfl (by kernel_rfl) (by kernel_rfl) (by kernel_rfl)
      (OpenSpec.preRow_of_cond 8 hx (by kernel_rfl) (fun k hk => by cases hk; kernel_rfl) (by kernel_rfl) (laid_metU os))) ?_
  intro W base args ds gs before hval hW _ hcond _ hL hS _
  exact contract H enc W base args ds gs before hval hW hL hS (hcond _ rfl)

theorem facts : joinedFacts Tryd.pinned.checked.prog 5 Tryd.f5 (Rows.OpenSpec.upto Rows.backlogPlaysSpec).bare Rows.backlogPlaysUptoRow = true := by
  unfold joinedFacts; rw [jLaid, jMaps, jHeard, jEnter, jKeys, jLifts, jMake]; kernel_rfl

theorem saidUpto : Rows.BacklogPlaysUptoSaid :=
  OpenClaim.holds_of_cond 5 Tryd.f5 rfl rfl rfl rfl rfl rfl rfl ⟨rfl, rfl, rfl, rfl, rfl⟩ rfl rfl rfl rfl rfl (by kernel_rfl) Tryd.func5 facts
    (of_decide_eq_true (by kernel_rfl)) (by unfold Func.isWrapper; first | (rw [if_pos (by decide +kernel)]; kernel_rfl) | (rw [if_neg (by decide +kernel)]; exact ⟨rfl, rfl⟩))
    (fun os started H enc _ F => by rw [OpenClaim.pre_eq_preRow]; exact lifted os started H enc F)

theorem plain (f : FuncId) (fn : Func) (hf : Tryd.pinned.checked.prog.funcNamed "culvert/culvertlaw16.BacklogPlays" = some f) (hfn : Tryd.pinned.checked.prog.funcs[f]? = some fn) :
    true = Tryd.pinned.checked.prog.looks [] ∧ ∀ (j : Nat) t, fn.params[j]? = some t → Tryd.pinned.checked.prog.wantsStandIn t = false := by
  obtain rfl : f = 5 := Option.some.inj ((show Tryd.prog.funcNamed "culvert/culvertlaw16.BacklogPlays" = some 5 by kernel_rfl).symm.trans hf) |>.symm
  obtain rfl : fn = Tryd.f5 := (Option.some.inj (Tryd.func5.symm.trans hfn)).symm
  refine ⟨by kernel_rfl, fun j t ht => ?_⟩
  have h := Array.mem_of_getElem? ht
  have : t ∈ #[45] := h
  have : t = 45 := by simpa using this
  subst this
  exact (show Tryd.prog.wantsStandIn 45 = false by kernel_rfl)

/-- ████ THE CARD ████ -/
theorem card : Rows.BacklogPlaysUptoCardSaid :=
  Claim7.holds_tied_plain_at .later [] _ _ _ _ saidUpto (fun _ h => by cases h) (by kernel_rfl) (fun _ h => by cases h) backlogPlaysUpto_row_tie rfl ⟨rfl, rfl⟩ (by kernel_rfl) rfl plain (by kernel_rfl)

end Go.Proofs.YtombnpednnngoaaDoor.BacklogPlays
end
