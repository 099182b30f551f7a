/-
  'LaneFrames' is proved: the frame of every ticket is the document's, or the error is; frame.Check accepts it, its bytes are twelve, and unlike tickets stand for unlike frames. For all tickets and numbers (bulk at most 1048576).
-/
import Derived.Test.YtombnpednnngoaaDoorPL
import Derived.Deep.DeepWitnessRowRef

section
namespace Go.Proofs.YtombnpednnngoaaDoor.LaneFrames
open Go.ChangeShapes Go.Dn Go.Dn.Ln Go.Dn.Lf
set_option maxRecDepth 100000

theorem own : ownKnob Tryd.prog.godebug = none := by kernel_rfl
theorem plainL : (Rows.laneFramesRow.laid.filter fun x => x.2.handleName?.isSome) = [] := by kernel_rfl
/-- all but the table of slices -/
noncomputable def LL : List (String × DataW Unit) := Rows.laneFramesRow.laid.filter fun x => !(x.1 == "culvert/frame.lawful")
theorem okL : mixOk LL = true := by kernel_rfl
theorem allL : coversE LL errs = true := by kernel_rfl
theorem formL : LL[42]? = some ("culvert/lane.forms", Rows.laid_culvert_lane_forms) := by kernel_rfl
theorem formE : isErr Rows.laid_culvert_lane_forms = false := by kernel_rfl
theorem formN : Tryd.prog.globalNamed "culvert/lane.forms" = some 1 := by kernel_rfl
theorem formR : rdw Tryd.prog 20 115 Rows.laid_culvert_lane_forms = some formsC := by kernel_rfl
theorem formT : (Tryd.prog.globals[1]?).map (·.type) = some 115 := by kernel_rfl
theorem formP : formsC.all plain0 = true := by kernel_rfl
theorem lawL : Rows.laneFramesRow.laid[43]? = some ("culvert/frame.lawful", Rows.laid_culvert_frame_lawful) := by kernel_rfl
theorem lawN : Tryd.prog.globalNamed "culvert/frame.lawful" = some 8 := by kernel_rfl
theorem lawT : (Tryd.prog.globals[8]?).map (·.type) = some 159 := by kernel_rfl
theorem noC8 : CE.get 8 = none := by kernel_rfl
theorem absC : (CE.tr.items 1 0).all (fun x => !x.2.isAbs) = true := by kernel_rfl
theorem lowC : (CE.tr.items 1 0).all (fun x => Nat.blt x.1 44) = true := by kernel_rfl

theorem okA : okT Tryd.bk.E.T 10 29 = true := by kernel_rfl
theorem okB : okT Tryd.bk.E.T 10 3 = true := by kernel_rfl

theorem contract (H : Type) (enc : TypeId × Value → H) (W : World) (base : Nat) (args : Array Value) (ds gs' : List (DataW H)) (before : List MemPlace)
    (hval : ∀ (j : Nat) t v, Tryd.f11.params[j]? = some t → args[j]? = some v → Value.okWide Tryd.prog W .any base t v)
    (hW : DataW.Whole enc Tryd.prog Tryd.f11.params.toList Rows.laneFramesSpec.vars false W args.toList ds gs' before) (hL : laidMetH Tryd.prog Rows.laneFramesRow.laid W) (hS : W.ShapedOpen Tryd.prog) (hk : Rows.uptoSmall H (ds ++ gs') = true) :
    Calls Tryd.prog 11 args W fun e W' => ∃ v, e = .returned v ∧ Rows.laneFramesSpec.post enc Tryd.prog Tryd.f11 false true false false W args v W' := by
  have hL' : laidMet Tryd.prog Rows.laneFramesRow.laid W := by
    unfold laidMetH at hL
    rw [plainL] at hL
    exact hL
  obtain ⟨R, rC, rrep, b1, b2, b3, b4⟩ := begin_repP repL hS (laidMet_filter (fun x => !(x.1 == "culvert/frame.lawful")) hL') okL (C := CE) rfl (fun i o hi => by
    rcases CE_get hi with ⟨h1, h2⟩ | ⟨rfl, rfl⟩
    · have := List.all_eq_true.1 allL i h1
      simp only [List.any_eq_true, Bool.and_eq_true, beq_iff_eq] at this
      obtain ⟨x, hx, hx1, hx2⟩ := this
      exact .inl ⟨x, hx, hx1, hx2, h2⟩
    · exact .inr ⟨_, List.mem_of_getElem? formL, formE, formN, 115, formsC, formT, formR, rfl, fun u hu => List.all_eq_true.1 formP u hu⟩)
  have hWt := hW
  obtain ⟨p, q, t1, t2, _⟩ := hWt
  have hgs : gs' = [] := by
    cases gs' with
    | nil => rfl
    | cons a l => simp [Rows.laneFramesSpec, DataW.TrodVars] at t2
  subst hgs
  rw [← rC] at b1 b2
  have hnoC : ∀ i o, R.C.get i = some o → o.md ≠ .own := fun i o hi => by rw [(R.Cro i o hi).2]; simp
  obtain ⟨A1, ρ1, us, g1, e1, e2, e3, e4, e5⟩ := args_lay Tryd.good.tab 10 [29, 29, 3] args.toList ds p R.C R.ρC (fun t ht => by
    simp only [List.mem_cons, List.not_mem_nil, or_false] at ht
    rcases ht with rfl | rfl | rfl
    · exact okA
    · exact okA
    · exact okB) t1 (fun j t v hj hv => ⟨base, hval j t v (by rw [← Array.getElem?_toList]; exact hj) (by simpa using hv)⟩) b1 hnoC
  -- the table of slices
  obtain ⟨ps, hlaid, _, hps⟩ := hL'
  obtain ⟨g8, t8, cs8, fu8, p8, m1, m2, m3, m4⟩ := laid_mem hlaid (List.mem_of_getElem? lawL)
  rw [lawN] at m1; cases m1
  rw [lawT] at m2; cases m2
  obtain ⟨A2, ρ2, i0, i1, i2, i3, g2, x1, x2, x3, xc⟩ := lawful_lay m4 g1.rel (g1.noown hnoC)
  have g12 := g1.trans g2
  obtain ⟨c8, ty8, hr8, hty8⟩ := hrow_of hS 8 (by decide)
  rw [lawT] at hty8; cases hty8
  have hcs8 : c8 = cs8 := by
    unfold World.var? at m3
    rw [lawN] at m3
    simp only [Option.bind_some, hr8, Option.some.injEq] at m3
    exact m3
  subst hcs8
  have hcap : capC CE 8 = 4 := by unfold capC; rw [noC8]
  have h8 := b4 8 (by decide)
  rw [hcap] at h8
  have hnC : R.C.next = 88 := by rw [rC]; rfl
  have hC8 : R.C.get 8 = none := by rw [rC]; exact noC8
  have hsz8 : c8.toList.length = 4 := xc.1.symm
  obtain ⟨s1, s2, s3, s4, s5⟩ := start_ro b3 b2 g12 (i := 8) (by rw [hnC]; decide) hC8 (T := 159) (cs := lawC i0 i1 i2 i3) h8 (.arr 159 _ .ro c8 159 (0, 0) hr8 (fun _ => ⟨rfl, by intro j _; simp, by
      have : c8.size = 4 := by simpa using hsz8
      simp [this], .inl rfl⟩) (by simp [lawC]) (fun j u hu => by
        have hj : j < 4 := by
          have := (List.getElem?_eq_some_iff.1 hu).1
          simpa [lawC] using this
        have hv : c8.toList[j]? = some (c8.toList[j]'(by omega)) := List.getElem?_eq_getElem (by omega)
        obtain ⟨k1, k2⟩ := xc.2 j u _ hu hv
        exact ⟨k1, _, by rw [Nat.zero_add, ← Array.getElem?_toList]; exact hv, k2⟩))
    (fun j o q hj hq e => by
      rw [rC] at hj
      have hj8 : j ≠ 8 := by rintro rfl; rw [noC8] at hj; cases hj
      have hl := List.all_eq_true.1 lowC _ (Tr.get_mem hj)
      have hjl : j < 44 := by simpa [Nat.blt_eq] using hl
      rw [b4 j hjl] at hq
      cases hq
      exact hj8 e)
    (fun j o hj => by
      rw [rC] at hj
      have := List.all_eq_true.1 absC _ (Tr.get_mem hj)
      simpa using this)
  obtain ⟨u1, u2, u3, rfl⟩ : ∃ u1 u2 u3, us = [u1, u2, u3] := by
    match us, e2 with
    | [a, b, c], _ => exact ⟨a, b, c, rfl⟩
  obtain ⟨d1, d2, d3, rfl⟩ : ∃ d1 d2 d3, ds = [d1, d2, d3] := by
    match ds, e3 with
    | [a, b, c], _ => exact ⟨a, b, c, rfl⟩
  have tick : ∀ {d : DataW H} {u : Value}, ArgV Tryd.bk.E.T A1 29 d u → ∃ o : TkA, u = .agg o.cells.toArray ∧ 0 ≤ o.v := by
    rintro d u ⟨cs, a1, i, a2, a3⟩
    have hT : Tryd.bk.E.T 29 = some Go.Dn.Tryd.ti29 := rfl
    rw [hT] at a2; cases a2
    obtain ⟨o, rfl, o1, _⟩ := tk_of a1
    rcases a3 with ⟨fs, _, h⟩ | ⟨h, _⟩
    · exact ⟨o, h, o1⟩
    · exact absurd rfl (h _)
  obtain ⟨⟨k, s, v⟩, rfl, hv⟩ := tick (e4 0 29 d1 u1 rfl rfl rfl)
  obtain ⟨⟨kb, sb, vb⟩, rfl, hvb⟩ := tick (e4 1 29 d2 u2 rfl rfl rfl)
  obtain ⟨m, rfl⟩ : ∃ m : Int, u3 = .int .i64 m := by
    obtain ⟨cs, a1, i, a2, a3⟩ := e4 2 3 d3 u3 rfl rfl rfl
    have hT : Tryd.bk.E.T 3 = some Go.Dn.Tryd.ti3 := rfl
    rw [hT] at a2; cases a2
    obtain ⟨n, _, rfl, _⟩ := a1.int_inv (i := Go.Dn.Tryd.ti3) rfl rfl
    rcases a3 with ⟨fs, hf, _⟩ | ⟨_, h⟩
    · cases hf
    · cases h; exact ⟨n, rfl⟩
  have hlt : ∀ i o, A2.get i = some o → i < A2.next := fun i o hi => by
    rcases Nat.lt_or_ge i A2.next with h | h
    · exact h
    · rw [(g2.rel.fresh i h).1] at hi; cases hi
  have hnx := g12.next
  have hLW : LW A2.next i0 i1 i2 i3 (A2.set 8 (some (.arr 159 (lawC i0 i1 i2 i3) .ro))) := by
    have ne : ∀ i T us, A2.get i = some (.arr T us .sh) → i ≠ 8 := by
      rintro i T us hi rfl
      rw [(g12.old 8 (by omega)).1, hC8] at hi; cases hi
    exact ⟨Hp.get_set_same _ _ _, (Hp.get_set_ne _ _ (ne _ _ _ x1)).trans x1, (Hp.get_set_ne _ _ (ne _ _ _ x2)).trans x2, (Hp.get_set_ne _ _ (ne _ _ _ x3)).trans x3, hlt _ _ x1, hlt _ _ x2, hlt _ _ x3, by omega⟩
  have hLC : LC (A2.set 8 (some (.arr 159 (lawC i0 i1 i2 i3) .ro))) := LCc (C := R.C) (by rw [rC]; exact CE_LC) s3
  obtain ⟨n, A', hrun⟩ := frames_run s4 hLC hLW (by simp) (by omega) (k := k) (s := s) (v := v) (kb := kb) (sb := sb) (vb := vb) (m := m) hv hvb
  have hAR : AR ρ2 [Value.agg (TkA.mk k s v).cells.toArray, Value.agg (TkA.mk kb sb vb).cells.toArray, .int .i64 m].toArray args := ⟨by simpa using e1, fun j u v hu hv => (e5 j u v (by simpa using hu) (by simpa using hv)).le g2.le⟩
  refine (law_run (callD_ok Tryd.good (TC_ok (by exact rC)) n) s1 s2 hAR hrun).mono fun e W' he => ?_
  obtain ⟨rfl, h1, h2, h3, h4⟩ := he
  exact ⟨_, rfl, law_post Tryd.good.tab (fun t ht => by
    have : t ∈ [29, 29, 3] := ht
    simp only [List.mem_cons, List.not_mem_nil, or_false] at this
    rcases this with rfl | rfl | rfl
    · exact ⟨10, okA⟩
    · exact ⟨10, okA⟩
    · exact ⟨10, okB⟩) rfl (Tryd.underlying4) rfl hW rfl h1 h3 h4⟩

/-! ## the witness -/
noncomputable def w1 (os : Os) : World := laidWorld Rows.laneFramesRow.laid os
def arrO (l : List Int) : Obj := .cells (u16s l).toArray 75
noncomputable def w0 (os : Os) : World :=
  { w1 os with heap := ((((w1 os).heap.push (arrO [0, 1, 2, 4, 8, 5, 6])).push (arrO [0, 1, 2, 4, 8, 5, 6])).push (arrO [1, 2])).push (arrO [0]) |>.modify 8 fun
    | .cells _ t fr => .cells #[.slice (some ⟨lowT + 44, 0, none⟩) 7 7, .slice (some ⟨lowT + 45, 0, none⟩) 7 7, .slice (some ⟨lowT + 46, 0, none⟩) 2 2, .slice (some ⟨lowT + 47, 0, none⟩) 1 1] t fr
    | o => o }
def wargs : Array Value := #[.agg #[.int .i64 0, .int .u32 0, .int .u32 0], .agg #[.int .i64 0, .int .u32 0, .int .u32 0], .int .i64 0]
theorem laid_met (os : Os) : laidMet Tryd.prog Rows.laneFramesRow.laid ((w0 os).forCall (fun _ _ => 0) ⟨#[], wargs, []⟩).memory :=
  laidMet_of_run' 11 (by kernel_rfl) (by kernel_rfl)
theorem laid_metU (os : Os) : laidMet Tryd.prog Rows.laneFramesUptoRow.laid ((w0 os).forCall (fun _ _ => 0) ⟨#[], wargs, []⟩).memory := laid_met os
theorem reads (os : Os) {H : Type} (enc : TypeId × Value → H) : ∃ places, DataW.whole enc Tryd.prog ((w0 os).forCall (fun _ _ => 0) ⟨#[], wargs, []⟩).memory Tryd.f11.params.toList Rows.laneFramesSpec.vars false wargs.toList 8 =
    some ([.agg [.lit (.int .i64 0), .lit (.int .u32 0), .lit (.int .u32 0)], .agg [.lit (.int .i64 0), .lit (.int .u32 0), .lit (.int .u32 0)], .lit (.int .i64 0)], [], places) := ⟨[], by kernel_rfl⟩

theorem lifted (os : Os) (started : os.Started) (H : Type) (enc : TypeId × Value → H) (F : Stop.Interp) :
    ReturnsInHanded {} Tryd.checked os 11 .any ((Rows.OpenSpec.upto Rows.laneFramesSpec).preRow enc Tryd.prog Tryd.f11 Rows.laneFramesUptoRow.domain false Rows.laneFramesUptoRow.laid) (((Rows.OpenSpec.upto Rows.laneFramesSpec).at F).post enc Tryd.prog Tryd.f11 false true false false) := by
  obtain ⟨places, hx⟩ := reads os enc
  refine returnsInHanded_of_row (C := Tryd.checked) (s := Rows.OpenSpec.upto Rows.laneFramesSpec) own started (by kernel_rfl) Tryd.func11
    (witness_row_atRef (enc := enc) (C := Tryd.checked) false (w0 os) wargs rfl (by kernel_rfl) (by kernel_rfl) (by kernel_rfl)
      (OpenSpec.preRow_of_cond 8 hx (by kernel_rfl) (fun k hk => by cases hk; kernel_rfl) (by kernel_rfl) (laid_metU os))) ?_
  intro W base args ds gs before hval hW _ hcond _ hL hS _
  exact contract H enc W base args ds gs before hval hW hL hS (hcond _ rfl)

theorem facts : joinedFacts Tryd.pinned.checked.prog 11 Tryd.f11 (Rows.OpenSpec.upto Rows.laneFramesSpec).bare Rows.laneFramesUptoRow = true := by
  unfold joinedFacts; rw [jLaid, jMaps, jHeard, jEnter, jKeys, jLifts, jMake]; kernel_rfl

theorem saidUpto : Rows.LaneFramesUptoSaid :=
  OpenClaim.holds_of_cond 11 Tryd.f11 rfl rfl rfl rfl rfl rfl rfl ⟨rfl, rfl, rfl, rfl, rfl⟩ rfl rfl rfl rfl rfl (by kernel_rfl) Tryd.func11 facts
    (of_decide_eq_true (by kernel_rfl)) (by unfold Func.isWrapper; first | (rw [if_pos (by decide +kernel)]; kernel_rfl) | (rw [if_neg (by decide +kernel)]; exact ⟨rfl, rfl⟩))
    (fun os started H enc _ F => by rw [OpenClaim.pre_eq_preRow]; exact lifted os started H enc F)

theorem plain (f : FuncId) (fn : Func) (hf : Tryd.pinned.checked.prog.funcNamed "culvert/culvertlaw11.LaneFrames" = some f) (hfn : Tryd.pinned.checked.prog.funcs[f]? = some fn) :
    true = Tryd.pinned.checked.prog.looks [] ∧ ∀ (j : Nat) t, fn.params[j]? = some t → Tryd.pinned.checked.prog.wantsStandIn t = false := by
  obtain rfl : f = 11 := Option.some.inj ((show Tryd.prog.funcNamed "culvert/culvertlaw11.LaneFrames" = some 11 by kernel_rfl).symm.trans hf) |>.symm
  obtain rfl : fn = Tryd.f11 := (Option.some.inj (Tryd.func11.symm.trans hfn)).symm
  refine ⟨by kernel_rfl, fun j t ht => ?_⟩
  have h := Array.mem_of_getElem? ht
  have : t ∈ #[29, 29, 3] := h
  have : t = 29 ∨ t = 3 := by simpa using this
  rcases this with rfl | rfl
  · exact (show Tryd.prog.wantsStandIn 29 = false by kernel_rfl)
  · exact (show Tryd.prog.wantsStandIn 3 = false by kernel_rfl)

/-- ████ THE CARD ████ -/
theorem card : Rows.LaneFramesUptoCardSaid :=
  Claim7.holds_tied_plain_at .later [] _ _ _ _ saidUpto (fun _ h => by cases h) (by kernel_rfl) (fun _ h => by cases h) laneFramesUpto_row_tie rfl ⟨rfl, rfl⟩ (by kernel_rfl) rfl plain (by kernel_rfl)

end Go.Proofs.YtombnpednnngoaaDoor.LaneFrames
end
