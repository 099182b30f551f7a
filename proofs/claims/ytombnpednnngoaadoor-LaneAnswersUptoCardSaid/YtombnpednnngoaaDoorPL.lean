/-
  Part of the abstract machine for this program.
-/
import Derived.Test.YtombnpednnngoaaDoorPK

section
/-
  'LaneAnswers', run over the base
-/
namespace Go.Dn.Ln
open Go.Proofs
set_option maxHeartbeats 4000000
set_option maxRecDepth 100000

theorem may_ok (n : Nat) : MayOK (callD Tryd.bk (TM TC) (n + 1)) := fun A k s v => callD_of rfl (fn := Tryd.f93) rfl (may_walk n A k s v)
theorem find_ok (n : Nat) (hn : n ≤ 50000000) : FindOK (callD Tryd.bk (TM TC) (n + 2)) n := fun {_ _ _ _} h k s hl => callD_of rfl (fn := Tryd.f82) rfl (find_walk (n + 1) h k s (by omega) (by omega))
theorem ref_ok (n : Nat) (hn : n ≤ 50000000) : RefOK (callD Tryd.bk (TM TC) (n + 3)) n where
  put {_} hw {_ _ _} h k s v hv hts hl := by
    obtain ⟨V', io', A', r1, r2, r3, r4⟩ := rput_walk (may_ok (n + 1)) (find_ok n hn) (n + 2) hw h k s v hv hts hl (by omega)
    exact ⟨V', io', A', callD_of rfl (fn := Tryd.f80) rfl r1, r2, r3, r4⟩
  without {_} hw {_ _ _} h i hi hl := by
    obtain ⟨V', io', A', r1, r2, r3, r4⟩ := without_walk (call := callD Tryd.bk (TM TC) (n + 2)) (n + 2) hw h hi (by omega)
    exact ⟨V', io', A', callD_of rfl (fn := Tryd.f81) rfl r1, r2, r3, r4⟩
  find {_ _ _ _} h k s hl := callD_of rfl (fn := Tryd.f82) rfl (find_walk (n + 2) h k s (by omega) (by omega))
  forget {_} hw {_ _ _} h s hl := by
    obtain ⟨V', io', A', r1, r2, r3, r4⟩ := rforget_walk (call := callD Tryd.bk (TM TC) (n + 2)) (n + 2) hw h s (by omega) (by omega)
    exact ⟨V', io', A', callD_of rfl (fn := Tryd.f83) rfl r1, r2, r3, r4⟩
  count {_ _ _ _} h k hl := callD_of rfl (fn := Tryd.f42) rfl (rcount_walk (n + 2) h k (by omega) (by omega))
theorem samets_ok (n : Nat) (hn : n ≤ 50000000) : SameTs (callD Tryd.bk (TM TC) (n + 2)) n := fun {_ _ _ _ _ _ _} h1 h2 hl => callD_of rfl (fn := Tryd.f21) rfl (same_ts (n + 1) h1 h2 (by omega) (by omega))
theorem stepf_ok (n : Nat) (hn : n ≤ 50000000) : StepOK (callD Tryd.bk (TM TC) (n + 4)) n false ptr :=
  step_ok (TM_fns (base := TC) (fun _ => rfl) (n + 3)) (ref_ok n hn) (code_ok (n + 3)) (n + 3) fun _ _ _ h => callD_of rfl (fn := Tryd.f40) rfl h
theorem stept_ok (n : Nat) (hn : n ≤ 50000000) : StepOK (callD Tryd.bk (TM TC) (n + 4)) n true (fun _ => NP) :=
  zstep_ok (nil_ok (n + 2)) (ref_ok n hn) (code_ok (n + 3)) (n + 3) fun _ _ _ h => callD_of rfl (fn := Tryd.f40) rfl h

section
attribute [local irreducible] Hp.get Hp.set Hp.push dappend dcopy dstore cellsAt callD loopD guardL hideL backL

theorem ans_walk {A : Hp} (hw : A.wf) (h00 : A.get 0 = some (er 0)) (z : Bool) {ops : List OpA} (hops : ∀ o ∈ ops, 0 ≤ o.tv ∧ o.tv ≤ 4294967295) {a : Option Addr} {c : Nat} (hv : ArgSl 39 4 A (.slice a ops.length c) (ops.map OpA.cells).flatten ops.length) (hm : ops.length ≤ 1048576) {call : CallT} {N : Nat} (hN : ops.length + 2 ≤ N)
    (h : LaneFns2 call) (hz : NilOK call) (hr : RefOK call N) (hsm : SameTs call N) (hsf : StepOK call N false ptr) (hst : StepOK call N true (fun _ => NP)) (lf : Nat) (hlf : ops.length + 11 < lf) :
    ∃ A', kfn Tryd.bk.E call (Tryd.bk.inf 8) lf Tryd.f8 [.bool z, .slice a ops.length c] A = some (.bool true, A') := by
  have hnew := h.new (NewR.mk A)
  let A1 : Hp := A.push (.abs 3 (LX.dat ⟨[], 0⟩))
  have hw1 : A1.wf := hw.push _
  have hP1 : A1.get A.next = some (.abs 3 (LX.dat ⟨[], 0⟩)) := Hp.get_push_same _ _
  have n1 : A1.next = A.next + 1 := by simp [A1]
  have hgl := hw.lt h00
  have h01 : A1.get 0 = some (er 0) := by rw [Hp.get_push_ne _ _ (by omega)]; exact h00
  have key : ∀ (zz : Bool) (L : Value), (zz = false ∧ L = ptr A.next ∨ zz = true ∧ L = NP) → ∃ A3 V' J, loopD (some [4, 5, 6, 16, 17, 18]) (exec Tryd.bk.E call Tryd.f8.ntmps (Tryd.bk.inf 8) lf (loopOf Tryd.f8 0)) lf [(4, .bool false), (5, L), (6, .slice none 0 0), (16, .slice a ops.length c), (17, .int .i64 (ops.length : Nat)), (18, .int .i64 ((0 : Nat) : Int))] A1 =
      some (.exit 0, [(4, .bool false), (5, L), (6, V'), (16, .slice a ops.length c), (17, .int .i64 (ops.length : Nat)), (18, J)], A3) ∧
      ∃ A4 J2, loopD (some [4, 5, 6, 11]) (exec Tryd.bk.E call Tryd.f8.ntmps (Tryd.bk.inf 8) lf (loopOf Tryd.f8 1)) lf [(4, .bool false), (5, L), (6, V'), (11, .int .i64 (((0 : Nat) : Int) - 1))] A3 = some (.exit 2, [(4, .bool false), (5, L), (6, V'), (11, J2)], A4) := by
    intro zz L hL
    have hI : AW A1 A.next zz (.slice none 0 0) none [] 0 A1 := ⟨KP.refl hw1, hP1, CanAt.ts .nil, .nil, Nat.le_refl _, fun _ => rfl, by simp⟩
    have k1 : ∃ A3 V' io' ts' n' J, loopD (some [4, 5, 6, 16, 17, 18]) (exec Tryd.bk.E call Tryd.f8.ntmps (Tryd.bk.inf 8) lf (loopOf Tryd.f8 0)) lf [(4, .bool false), (5, L), (6, .slice none 0 0), (16, .slice a ops.length c), (17, .int .i64 (ops.length : Nat)), (18, .int .i64 ((0 : Nat) : Int))] A1 =
        some (.exit 0, [(4, .bool false), (5, L), (6, V'), (16, .slice a ops.length c), (17, .int .i64 (ops.length : Nat)), (18, J)], A3) ∧ AW A1 A.next zz V' io' ts' n' A3 ∧ n' ≤ ops.length := by
      generalize hv0 : (Value.slice a ops.length c) = v0 at hv
      generalize hfl : (ops.map OpA.cells).flatten = fl at hv
      generalize hol : ops.length = ol at hv hv0
      cases hv with
      | nil cc hc =>
        obtain ⟨σ1, r1, r2⟩ := ans_end (call := call) lf (A := A1) L (.slice none 0 0) (.slice none 0 cc) 0 0 (by omega)
        have := loop_out (ks := some [4, 5, 6, 16, 17, 18]) r1 (by simp) (n := lf) (by omega)
        rw [r2] at this
        exact ⟨A1, _, none, [], 0, _, this, hI, Nat.le_refl _⟩
      | «at» id _ _ hg hl =>
        subst hol hfl
        have hidl := hw.lt hg
        have hgi : A1.get id = some (.arr 39 (ops.map OpA.cells).flatten .sh) := by rw [Hp.get_push_ne _ _ (by omega)]; exact hg
        refine ans_loop lf (fun {B V io ts n i} hB hni him => ?_) hI (by omega)
        have hln := hB.len
        rcases hL with ⟨rfl, rfl⟩ | ⟨rfl, rfl⟩
        · exact ans_op (by omega) hw1 h01 hops hgi (by omega) (by omega) h hsm hsf lf hB (by omega) (by omega) (by omega) rfl hm him (by omega)
        · exact zans_op (by omega) hw1 h01 hops hgi (by omega) (by omega) hz hsm hst lf hB (by omega) (by omega) (by omega) rfl hm him
    obtain ⟨A3, V', io', ts', n', J, l1, hB, hn'⟩ := k1
    refine ⟨A3, V', J, l1, ?_⟩
    have hln := hB.len
    refine cnt_loop (I := fun B => B.wf ∧ B.get A.next = some (.abs 3 (LX.dat ⟨ts', n'⟩)) ∧ TsAt B V' io' ts') lf (fun {B j} (hI) hj => ?_) ⟨hB.kp.wf, hB.obj, hB.lst⟩ (by omega)
    have hI' : B.wf ∧ B.get A.next = some (.abs 3 (LX.dat ⟨ts', n'⟩)) ∧ TsAt B V' io' ts' := hI
    obtain ⟨i1, i2, i3⟩ := hI'
    rcases hL with ⟨rfl, rfl⟩ | ⟨rfl, rfl⟩
    · obtain ⟨σ1, B1, r1, r2, r3⟩ := cnt_step h hr lf i1 i2 i3 hB.inv (by omega) (fun e => by have := hB.io _ e; omega) hj
      exact ⟨σ1, B1, r1, r2, r3⟩
    · obtain ⟨σ1, B1, r1, r2, r3⟩ := zcnt_step hz hr lf i1 i2 i3 (hB.nil rfl) hj
      exact ⟨σ1, B1, r1, r2, r3⟩
  cases z with
  | false =>
    obtain ⟨A3, V', J, l1, A4, J2, l2⟩ := key false (ptr A.next) (.inl ⟨rfl, rfl⟩)
    refine ⟨A4, ?run⟩
    case run =>
      conv => lhs; whnf
      refine bind_of (h.fixed _) ?_
      conv => lhs; whnf
      refine bind_of hnew ?_
      conv => lhs; whnf
      refine bind_of l1 ?_
      conv => lhs; whnf
      refine bind_of l2 ?_
      conv => lhs; whnf
      try rfl
  | true =>
    obtain ⟨A3, V', J, l1, A4, J2, l2⟩ := key true NP (.inr ⟨rfl, rfl⟩)
    refine ⟨A4, ?run2⟩
    case run2 =>
      conv => lhs; whnf
      refine bind_of (h.fixed _) ?_
      conv => lhs; whnf
      refine bind_of hnew ?_
      conv => lhs; whnf
      refine bind_of l1 ?_
      conv => lhs; whnf
      refine bind_of l2 ?_
      conv => lhs; whnf
      try rfl
end

theorem ans_run {A : Hp} (hA : A.wf) (h00 : A.get 0 = some (er 0)) (z : Bool) {ops : List OpA} (hops : ∀ o ∈ ops, 0 ≤ o.tv ∧ o.tv ≤ 4294967295) {v : Value} (hv : ArgSl 39 4 A v (ops.map OpA.cells).flatten ops.length) (hm : ops.length ≤ 1048576) :
    ∃ n A', callD Tryd.bk (TM TC) n 8 [.bool z, v] A = some (.bool true, A') := by
  obtain ⟨a, c, rfl⟩ : ∃ a c, v = .slice a ops.length c := by
    generalize ops.length = m at hv
    generalize (ops.map OpA.cells).flatten = fl at hv
    cases hv with
    | nil c hc => exact ⟨none, c, rfl⟩
    | «at» id _ us hg hl => exact ⟨some _, _, rfl⟩
  let N := ops.length + 20
  have hr : RefOK (callD Tryd.bk (TM TC) (N + 4)) N := by
    have := ref_ok (N + 1) (by omega)
    exact ⟨fun {_} hw {_ _ _} h k s v hv hts hl => this.put hw h k s v hv hts (by omega), fun {_} hw {_ _ _} h i hi hl => this.without hw h i hi (by omega), fun {_ _ _ _} h k s hl => this.find h k s (by omega), fun {_} hw {_ _ _} h s hl => this.forget hw h s (by omega), fun {_ _ _ _} h k hl => this.count h k (by omega)⟩
  have hs : SameTs (callD Tryd.bk (TM TC) (N + 4)) N := by
    exact fun {_ _ _ _ _ _ _} h1 h2 hl => samets_ok (N + 2) (by omega) h1 h2 (by omega)
  obtain ⟨A', r⟩ := ans_walk hA h00 z hops hv hm (N := N) (by omega) (TM_fns (base := TC) (fun _ => rfl) (N + 4)) (nil_ok (N + 3)) hr hs (stepf_ok N (by omega)) (stept_ok N (by omega)) (N + 4) (by omega)
  exact ⟨N + 4 + 1, A', callD_of rfl (fn := Tryd.f8) rfl r⟩
end Go.Dn.Ln
end

section
/-
  the closed facts of the seat's program that every row of it asks: each by itself, since together they ask for more than ten gigabytes
-/
namespace Go.Proofs.YtombnpednnngoaaDoor
open Go.ChangeShapes Go.Dn Go.Dn.Ln
set_option maxRecDepth 100000
theorem jLaid : laidOutB Tryd.pinned.checked.prog = true := by kernel_rfl
theorem jMaps : mapsRowed Tryd.pinned.checked.prog = true := by kernel_rfl
theorem jHeard : Program.stopsHeard Tryd.pinned.checked.prog = true := by kernel_rfl
theorem jEnter : Program.mayEnter Tryd.pinned.checked.prog = true := by kernel_rfl
theorem jKeys : Program.plainKeys Tryd.pinned.checked.prog = false := by kernel_rfl
theorem jLifts : Program.liftsFinal Tryd.pinned.checked.prog = false := by kernel_rfl
theorem jMake : Program.make Tryd.pinned.checked.prog = some Rows.laneDrainsUptoRow.make := by kernel_rfl
end Go.Proofs.YtombnpednnngoaaDoor
end
