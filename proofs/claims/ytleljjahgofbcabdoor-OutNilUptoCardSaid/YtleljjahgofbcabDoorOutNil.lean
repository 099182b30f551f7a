/-
  'OutNil' is proved: of a nil buffer, Put answers ErrNil, Take nothing, and the rest is zero. For every op.
-/
import Derived.Test.YtleljjahgofbcabDoorDnN
import Derived.Test.YtleljjahgofbcabDoorDnM

section
namespace Go.Proofs.YtleljjahgofbcabDoor.OutNil
open Go.ChangeShapes Go.Dn Go.Dn.Ob
set_option maxRecDepth 100000

theorem own : ownKnob Tryd.prog.godebug = none := by kernel_rfl
theorem plainL : (Rows.outNilRow.laid.filter fun x => x.2.handleName?.isSome) = [] := by kernel_rfl
theorem okL : errOk Rows.outNilRow.laid = true := by kernel_rfl
theorem allL : covers Rows.outNilRow.laid errs = true := by kernel_rfl

/-- the law, run -/
theorem run {A : Hp} (hw : A.wf) (h0 : A.get 0 = some (er 0)) {k n a b c d e : Int} {v : Option Addr} {m kk : Nat} {us : List Value} (hm : m = us.length) (hb : elemsOf A 1 (.slice v m kk) = some (us.length, us)) (hl : us.length ≤ 1048576) :
    ∃ A', callD Tryd.bk T2 10 3 [.agg #[.int .i64 k, .int .u8 a, .int .u8 b, .int .u16 c, .int .u32 d, .int .u32 e, .slice v m kk, .int .i64 n]] A = some (.bool true, A') := by
  subst hm
  let O : List Value := [.int .i64 k, .int .u8 a, .int .u8 b, .int .u16 c, .int .u32 d, .int .u32 e, .slice v us.length kk, .int .i64 n]
  have hx : elemsOf (A.push (.arr 30 O .own)) 1 (.slice v us.length kk) = some (us.length, us) := elemsOf_keep hb fun i o hi _ => Hp.get_push_ne _ _ (by have := hw.lt hi; omega)
  obtain ⟨i, o, n', k', A2, q1, q2, q3, q4, q5⟩ := copied_walk (call := callD Tryd.bk T2 8) (a := a) (b := b) (c := c) (d := d) (e := e) 8 (hw.push (.arr 30 O .own)) hx (by omega)
  simp only [Hp.next_push] at q4 q5
  have hlt := hw.lt h0
  have h2 : A2.get 0 = some (er 0) := by rw [q5 0 (by omega), Hp.get_push_ne _ _ (by omega)]; exact h0
  obtain ⟨A3, p1, p2, p3, p4⟩ := put_nil (call := callD Tryd.bk T2 8) (a := a) (b := b) (c := c) (d := d) (e := e) (v := some ⟨i, o, some 1⟩) (m := n') (k := k') 8 q3 h2
  have h20 : ∀ n A, callD Tryd.bk T2 (n + 1) 20 [.pointer none] A = some (.int .i64 0, A) := fun n A => callD_of rfl (fn := Tryd.f20) rfl (len_nil n A)
  refine ⟨A3, callD_of rfl (fn := Tryd.f3) rfl ?_⟩
  refine outNil_walk (fun A => callD_base rfl 9) (fun A => callD_base rfl 9) (fun A n => callD_of rfl (fn := Tryd.f19) rfl (take_nil (h20 7) 7 A n)) (h20 8) (fun A => callD_of rfl (fn := Tryd.f21) rfl (frames_nil 8 A)) (fun A => callD_of rfl (fn := Tryd.f22) rfl (clear_nil (h20 7) 8 A))
    (callD_of rfl (fn := Tryd.f18) rfl q1) (callD_of rfl (fn := Tryd.f17) rfl p1) ?_ 9
  rw [p2 _ (by omega), q5 _ (by omega), Hp.get_push_same]

theorem ok30 : okT Tryd.bk.E.T 10 30 = true := by kernel_rfl

theorem contract (H : Type) (enc : TypeId × Value → H) (W : World) (base : Nat) (args : Array Value) (ds gs : List (DataW H)) (before : List MemPlace)
    (hval : ∀ (j : Nat) t v, Tryd.f3.params[j]? = some t → args[j]? = some v → Value.okWide Tryd.prog W .any base t v)
    (hW : DataW.Whole enc Tryd.prog Tryd.f3.params.toList Rows.outNilSpec.vars false W args.toList ds gs before) (hL : laidMetH Tryd.prog Rows.outNilRow.laid W) (hS : W.ShapedOpen Tryd.prog) (hk : Rows.uptoSmall H (ds ++ gs) = true) :
    Calls Tryd.prog 3 args W fun e W' => ∃ v, e = .returned v ∧ Rows.outNilSpec.post enc Tryd.prog Tryd.f3 false true false false W args v W' := by
  have hL' : laidMet Tryd.prog Rows.outNilRow.laid W := by
    unfold laidMetH at hL
    rw [plainL] at hL
    exact hL
  obtain ⟨R, rC, rrep, b1, b2, b3⟩ := begin_of hS hL' okL (C := CE) rfl (fun i o hi => by
    obtain ⟨h1, h2⟩ := CE_get hi
    refine ⟨?_, h2⟩
    have := List.all_eq_true.1 allL i h1
    simp only [List.any_eq_true, beq_iff_eq] at this
    exact this)
  have hWt := hW
  obtain ⟨p, q, t1, t2, _⟩ := hWt
  have hgs : gs = [] := by
    cases gs with
    | nil => rfl
    | cons a l => simp [Rows.outNilSpec, DataW.TrodVars] at t2
  subst hgs
  rw [← rC] at b1 b2
  have hnoC : ∀ i o, R.C.get i = some o → o.md ≠ .own := fun i o hi => by rw [(R.Cro i o hi).2]; simp
  obtain ⟨A, ρ, us, g1, e1, e2, e3, e4, e5⟩ := args_lay Tryd.good.tab 10 [30] args.toList ds p R.C R.ρC (fun t ht => by
    simp only [List.mem_singleton] at ht; subst ht; exact ok30) t1 (fun j t v hj hv => ⟨base, hval j t v (by rw [← Array.getElem?_toList]; exact hj) (by simpa using hv)⟩) b1 hnoC
  obtain ⟨s1, s2, s3, s4, s5⟩ := start_rel b3 b2 g1
  obtain ⟨u, rfl⟩ : ∃ u, us = [u] := by
    match us, e2 with
    | [u], _ => exact ⟨u, rfl⟩
  obtain ⟨d, rfl⟩ : ∃ d, ds = [d] := by
    match ds, e3 with
    | [d], _ => exact ⟨d, rfl⟩
  obtain ⟨cs, a1, i, a2, a3⟩ := e4 0 30 d u rfl rfl rfl
  have hT30 : Tryd.bk.E.T 30 = some Go.Dn.Tryd.ti30 := rfl
  rw [hT30] at a2; cases a2
  rcases a3 with ⟨fs, _, rfl⟩ | ⟨h, _⟩
  rotate_left
  · exact absurd rfl (h _)
  obtain ⟨dd, css, rfl, rfl, l1, l2, l3⟩ := a1.struct_inv hT30 rfl
  obtain ⟨c0, c1, c2, rfl⟩ : ∃ c0 c1 c2, css = [c0, c1, c2] := by
    match css, l2 with
    | [a, b, c], _ => exact ⟨a, b, c, rfl⟩
  obtain ⟨d0, d1, d2, rfl⟩ : ∃ d0 d1 d2, dd = [d0, d1, d2] := by
    match dd, l1 with
    | [a, b, c], _ => exact ⟨a, b, c, rfl⟩
  obtain ⟨k, _, rfl, _⟩ := (l3 0 _ d0 c0 rfl rfl rfl).int_inv (i := Go.Dn.Tryd.ti3) rfl rfl
  obtain ⟨n, _, rfl, _⟩ := (l3 2 _ d2 c2 rfl rfl rfl).int_inv (i := Go.Dn.Tryd.ti3) rfl rfl
  obtain ⟨fd, fcss, rfl, rfl, f1, f2, f3⟩ := (l3 1 _ d1 c1 rfl rfl rfl).struct_inv (i := Go.Dn.Tryd.ti28) rfl rfl
  obtain ⟨hc, bc, rfl⟩ : ∃ a b, fcss = [a, b] := by
    match fcss, f2 with
    | [a, b], _ => exact ⟨a, b, rfl⟩
  obtain ⟨hd, bd, rfl⟩ : ∃ a b, fd = [a, b] := by
    match fd, f1 with
    | [a, b], _ => exact ⟨a, b, rfl⟩
  obtain ⟨gd, gcss, rfl, rfl, g1', g2', g3'⟩ := (f3 0 _ hd hc rfl rfl rfl).struct_inv (i := Go.Dn.Tryd.ti25) rfl rfl
  obtain ⟨x0, x1, x2, x3, x4, rfl⟩ : ∃ a b c d e, gcss = [a, b, c, d, e] := by
    match gcss, g2' with
    | [a, b, c, d, e], _ => exact ⟨a, b, c, d, e, rfl⟩
  obtain ⟨y0, y1, y2, y3, y4, rfl⟩ : ∃ a b c d e, gd = [a, b, c, d, e] := by
    match gd, g1' with
    | [a, b, c, d, e], _ => exact ⟨a, b, c, d, e, rfl⟩
  obtain ⟨ha, _, rfl, _⟩ := (g3' 0 _ y0 x0 rfl rfl rfl).int_inv (i := Go.Dn.Tryd.ti5) rfl rfl
  obtain ⟨hb, _, rfl, _⟩ := (g3' 1 _ y1 x1 rfl rfl rfl).int_inv (i := Go.Dn.Tryd.ti5) rfl rfl
  obtain ⟨hcc, _, rfl, _⟩ := (g3' 2 _ y2 x2 rfl rfl rfl).int_inv (i := Go.Dn.Tryd.ti22) rfl rfl
  obtain ⟨hdd, _, rfl, _⟩ := (g3' 3 _ y3 x3 rfl rfl rfl).int_inv (i := Go.Dn.Tryd.ti23) rfl rfl
  obtain ⟨he, _, rfl, _⟩ := (g3' 4 _ y4 x4 rfl rfl rfl).int_inv (i := Go.Dn.Tryd.ti23) rfl rfl
  obtain ⟨a, css, els, c, rfl, z1, z2, _, z5, z4, _⟩ := (f3 1 _ bd bc rfl rfl rfl).slice_inv (i := Go.Dn.Tryd.ti26) (j := Go.Dn.Tryd.ti5) rfl rfl rfl
  have hfl := flat_len css 1 z4
  rw [Nat.mul_one] at hfl
  have h0 : A.get 0 = some (er 0) := s3 0 _ (by rw [rC]; rfl)
  have hbk := bulks.bound hk
  have hz : css.length ≤ 1048576 := by
    rw [← z2]
    simp only [List.append_nil, Rows.uptoBulkAll, Rows.uptoBulk] at hbk
    rcases z5 with ⟨rfl, rfl⟩ | ⟨sp, rfl⟩
    · simp
    · have := bulks.slice_le els sp
      omega
  obtain ⟨A', hrun⟩ := run (k := k) (n := n) (a := ha) (b := hb) (c := hcc) (d := hdd) (e := he) s4 h0 (v := a) (m := css.length) (kk := c) (us := css.flatten) hfl.symm (by rw [hfl]; exact z1) (by omega)
  have hAR : AR ρ [Value.agg #[.int .i64 k, .int .u8 ha, .int .u8 hb, .int .u16 hcc, .int .u32 hdd, .int .u32 he, .slice a css.length c, .int .i64 n]].toArray args := ⟨by simpa using e1, fun j u v hu hv => e5 j u v (by simpa using hu) (by simpa using hv)⟩
  refine (law_run (callD_ok Tryd.good (T2_ok (by exact rC)) 10) s1 s2 hAR hrun).mono fun e W' he => ?_
  obtain ⟨rfl, h1, h2, h3, h4⟩ := he
  exact ⟨_, rfl, law_post Tryd.good.tab (fun t ht => by
    have : t ∈ [30] := ht
    simp only [List.mem_singleton] at this; subst this; exact ⟨10, ok30⟩) rfl (Tryd.underlying4) rfl hW rfl h1 h3 h4⟩

/-! ## the witness -/
noncomputable def w0 (os : Os) : World := laidWorld Rows.outNilRow.laid os
def wargs : Array Value := #[.agg #[.int .i64 0, .int .u8 0, .int .u8 0, .int .u16 0, .int .u32 0, .int .u32 0, .slice none 0 0, .int .i64 0]]
theorem laid_met (os : Os) : laidMet Tryd.prog Rows.outNilRow.laid ((w0 os).forCall (fun _ _ => 0) ⟨#[], wargs, []⟩).memory :=
  laidMet_of_run' 8 (by kernel_rfl) (by kernel_rfl)
theorem laid_metU (os : Os) : laidMet Tryd.prog Rows.outNilUptoRow.laid ((w0 os).forCall (fun _ _ => 0) ⟨#[], wargs, []⟩).memory := laid_met os
theorem reads (os : Os) {H : Type} (enc : TypeId × Value → H) : ∃ places, DataW.whole enc Tryd.prog ((w0 os).forCall (fun _ _ => 0) ⟨#[], wargs, []⟩).memory Tryd.f3.params.toList Rows.outNilSpec.vars false wargs.toList 8 =
    some ([.agg [.lit (.int .i64 0), .agg [.agg [.lit (.int .u8 0), .lit (.int .u8 0), .lit (.int .u16 0), .lit (.int .u32 0), .lit (.int .u32 0)], .nil], .lit (.int .i64 0)]], [], places) := ⟨[], by kernel_rfl⟩

theorem lifted (os : Os) (started : os.Started) (H : Type) (enc : TypeId × Value → H) (F : Stop.Interp) :
    ReturnsInHanded {} Tryd.checked os 3 .any ((Rows.OpenSpec.upto Rows.outNilSpec).preRow enc Tryd.prog Tryd.f3 Rows.outNilUptoRow.domain false Rows.outNilUptoRow.laid) (((Rows.OpenSpec.upto Rows.outNilSpec).at F).post enc Tryd.prog Tryd.f3 false true false false) := by
  obtain ⟨places, hx⟩ := reads os enc
  refine returnsInHanded_of_row (C := Tryd.checked) (s := Rows.OpenSpec.upto Rows.outNilSpec) own started (by kernel_rfl) Tryd.func3
    (witness_row_at (enc := enc) (C := Tryd.checked) false (w0 os) wargs rfl (by kernel_rfl) (by kernel_rfl) (by kernel_rfl)
      (OpenSpec.preRow_of_cond 8 hx (by kernel_rfl) (fun k hk => by cases hk; kernel_rfl) (by kernel_rfl) (laid_metU os))) ?_
  intro W base args ds gs before hval hW _ hcond _ hL hS _
  exact contract H enc W base args ds gs before hval hW hL hS (hcond _ rfl)

theorem facts : joinedFacts Tryd.pinned.checked.prog 3 Tryd.f3 (Rows.OpenSpec.upto Rows.outNilSpec).bare Rows.outNilUptoRow = true := by
  unfold joinedFacts; rw [jLaid, jMaps, jHeard, jEnter, jKeys, jLifts, jMake]; kernel_rfl

theorem saidUpto : Rows.OutNilUptoSaid :=
  OpenClaim.holds_of_cond 3 Tryd.f3 rfl rfl rfl rfl rfl rfl rfl ⟨rfl, rfl, rfl, rfl, rfl⟩ rfl rfl rfl rfl rfl (by kernel_rfl) Tryd.func3 facts
    (of_decide_eq_true (by kernel_rfl)) (by unfold Func.isWrapper; first | (rw [if_pos (by decide +kernel)]; kernel_rfl) | (rw [if_neg (by decide +kernel)]; exact ⟨rfl, rfl⟩))
    (fun os started H enc _ F => by rw [OpenClaim.pre_eq_preRow]; exact lifted os started H enc F)

theorem plain (f : FuncId) (fn : Func) (hf : Tryd.pinned.checked.prog.funcNamed "culvert/culvertlaw06.OutNil" = some f) (hfn : Tryd.pinned.checked.prog.funcs[f]? = some fn) :
    true = Tryd.pinned.checked.prog.looks [] ∧ ∀ (j : Nat) t, fn.params[j]? = some t → Tryd.pinned.checked.prog.wantsStandIn t = false := by
  obtain rfl : f = 3 := Option.some.inj ((show Tryd.prog.funcNamed "culvert/culvertlaw06.OutNil" = some 3 by kernel_rfl).symm.trans hf) |>.symm
  obtain rfl : fn = Tryd.f3 := (Option.some.inj (Tryd.func3.symm.trans hfn)).symm
  refine ⟨by kernel_rfl, fun j t ht => ?_⟩
  have h := Array.mem_of_getElem? ht
  have : t ∈ #[30] := h
  obtain rfl : t = 30 := by simpa using this
  exact (show Tryd.prog.wantsStandIn 30 = false by kernel_rfl)

/-- ████ THE CARD ████ -/
theorem card : Rows.OutNilUptoCardSaid :=
  Claim7.holds_tied_plain_at .later [] _ _ _ _ saidUpto (fun _ h => by cases h) (by kernel_rfl) (fun _ h => by cases h) outNilUpto_row_tie rfl ⟨rfl, rfl⟩ (by kernel_rfl) rfl plain (by kernel_rfl)

end Go.Proofs.YtleljjahgofbcabDoor.OutNil
end
