/-
  Part of the abstract machine for this program.
-/
import Derived.Test.YtombnpednnngoaaDoorPH

section
/-
  the base of LaneAnswers: the code of a sentinel; a lane that is nil
-/
namespace Go.Dn.Ln
open Go.Proofs
set_option maxHeartbeats 4000000
set_option maxRecDepth 100000

def TC : CallT := withCall TF 28 (codeL cods)
theorem TC_ok [Reps] (hK : Reps.C = CE) : CallOK Tryd.prog TC := code_known hK (by decide) cods_run (TF_ok hK)

def CodeOK (call : CallT) : Prop := ∀ (A : Hp) (o : Option Nat), (o = none ∨ o = some 0 ∨ o = some 7 ∨ o = some 10 ∨ o = some 5 ∨ o = some 2 ∨ o = some 3) → call 28 [errO o] A = some (.int .i64 (codO o), A)
theorem code_ok (n : Nat) : CodeOK (callD Tryd.bk (TM TC) n) := fun A o ho => by
  refine callD_base ?_ n
  rcases ho with rfl | rfl | rfl | rfl | rfl | rfl | rfl <;> rfl

theorem putT_six (ts : List Tk) (k s v : Int) : (putT ts k s v).1 = none ∨ (putT ts k s v).1 = some 0 ∨ (putT ts k s v).1 = some 7 ∨ (putT ts k s v).1 = some 10 ∨ (putT ts k s v).1 = some 5 ∨ (putT ts k s v).1 = some 2 ∨ (putT ts k s v).1 = some 3 := by
  unfold putT
  split
  · simp
  · split
    · rename_i g hg
      unfold badT at hg
      split at hg
      · split at hg
        · cases hg
        · cases hg; simp
      · cases hg; simp
    · split
      · split
        · simp
        · split <;> simp
      · simp

/-! ## nil -/
theorem byRel_none {R : List Value → Hp → Value × Hp → Prop} {args : List Value} {A : Hp} (h : ∀ r, ¬ R args A r) : byRel R args A = none := by
  unfold byRel
  rw [dif_neg (fun ⟨r, hr⟩ => h r hr)]

def NP : Value := .pointer none
structure NilOK (call : CallT) : Prop where
  put : ∀ {A : Hp}, A.wf → A.get 0 = some (er 0) → ∀ k s v : Int, ∃ A', call 17 [NP, .agg #[.int .i64 k, .int .u32 s, .int .u32 v]] A = some (errO (some 0), A') ∧ Kp A A'
  len : ∀ A : Hp, call 18 [NP] A = some (.int .i64 0, A)
  next : ∀ {A : Hp}, A.wf → ∃ A', call 19 [NP] A = some (nextV [], A') ∧ Kp A A'
  list : ∀ A : Hp, call 20 [NP] A = some (.slice none 0 0, A)
  wd : ∀ (A : Hp) (k s : Int), call 22 [NP, .int .i64 k, .int .u32 s] A = some (.bool false, A)
  fg : ∀ (A : Hp) (s : Int), call 23 [NP, .int .u32 s] A = some (.int .i64 0, A)
  cl : ∀ A : Hp, call 24 [NP] A = some (.int .i64 0, A)
  cnt : ∀ (A : Hp) (k : Int), call 41 [NP, .int .i64 k] A = some (.int .i64 0, A)

section
attribute [local irreducible] Hp.get Hp.set Hp.push dappend dcopy dstore cellsAt callD loopD

theorem nil_put {call : CallT} (lf : Nat) {A : Hp} (hw : A.wf) (h0 : A.get 0 = some (er 0)) (k s v : Int) : ∃ A', kfn Tryd.bk.E call (Tryd.bk.inf 17) lf Tryd.f17 [NP, .agg #[.int .i64 k, .int .u32 s, .int .u32 v]] A = some (errO (some 0), A') ∧ Kp A A' := by
  have hl := hw.lt h0
  have h1 : (A.push (.arr 29 [.int .i64 k, .int .u32 s, .int .u32 v] .own)).get 0 = some (er 0) := by rw [Hp.get_push_ne _ _ (by omega)]; exact h0
  refine ⟨A.push (.arr 29 [.int .i64 k, .int .u32 s, .int .u32 v] .own), ?run, Kp.push hw _⟩
  case run =>
    conv => lhs; whnf
    refine bind_of (cellsAt_of h1 _ _) ?_
    conv => lhs; whnf
    try rfl
theorem nil_len {call : CallT} (lf : Nat) (A : Hp) : kfn Tryd.bk.E call (Tryd.bk.inf 18) lf Tryd.f18 [NP] A = some (.int .i64 0, A) := by
  conv => lhs; whnf
  try rfl
theorem nil_next {call : CallT} (lf : Nat) {A : Hp} (hw : A.wf) : ∃ A', kfn Tryd.bk.E call (Tryd.bk.inf 19) lf Tryd.f19 [NP] A = some (nextV [], A') ∧ Kp A A' := by
  let Z : List Value := [.int .i64 0, .int .u32 0, .int .u32 0]
  refine ⟨(A.push (.arr 29 Z .own)).set A.next (some (.arr 29 Z .own)), ?run, (Kp.push hw _).set (Hp.get_push_same _ _) (Nat.le_refl _) _⟩
  case run =>
    conv => lhs; whnf
    refine bind_of (dstore_of (Hp.get_push_same _ _) (t := 29) (o := 0) (cs' := Z) rfl) ?_
    conv => lhs; whnf
    refine bind_of (cellsAt_of (Hp.get_set_same _ _ _) _ _) ?_
    conv => lhs; whnf
    try rfl
theorem nil_list {call : CallT} (lf : Nat) (A : Hp) : kfn Tryd.bk.E call (Tryd.bk.inf 20) lf Tryd.f20 [NP] A = some (.slice none 0 0, A) := by
  conv => lhs; whnf
  try rfl
theorem nil_wd {call : CallT} (lf : Nat) (A : Hp) (k s : Int) : kfn Tryd.bk.E call (Tryd.bk.inf 22) lf Tryd.f22 [NP, .int .i64 k, .int .u32 s] A = some (.bool false, A) := by
  conv => lhs; whnf
  try rfl
theorem nil_fg {call : CallT} (lf : Nat) (A : Hp) (s : Int) : kfn Tryd.bk.E call (Tryd.bk.inf 23) lf Tryd.f23 [NP, .int .u32 s] A = some (.int .i64 0, A) := by
  conv => lhs; whnf
  try rfl
theorem nil_cl {call : CallT} (lf : Nat) (A : Hp) : kfn Tryd.bk.E call (Tryd.bk.inf 24) lf Tryd.f24 [NP] A = some (.int .i64 0, A) := by
  conv => lhs; whnf
  try rfl
theorem nil_cnt {call : CallT} (lf : Nat) (A : Hp) (k : Int) : kfn Tryd.bk.E call (Tryd.bk.inf 41) lf Tryd.f41 [NP, .int .i64 k] A = some (.int .i64 0, A) := by
  conv => lhs; whnf
  try rfl
end

theorem nil_ok (n : Nat) : NilOK (callD Tryd.bk (TM TC) (n + 1)) where
  put hw h0 k s v := by
    obtain ⟨A', r1, r2⟩ := nil_put (call := callD Tryd.bk (TM TC) n) n hw h0 k s v
    exact ⟨A', callD_of (show byRel PutR _ _ = none from byRel_none fun r hr => by cases hr) (fn := Tryd.f17) rfl r1, r2⟩
  len A := callD_of (show byRel LenR _ _ = none from byRel_none fun r hr => by cases hr) (fn := Tryd.f18) rfl (nil_len n A)
  next hw := by
    obtain ⟨A', r1, r2⟩ := nil_next (call := callD Tryd.bk (TM TC) n) n hw
    exact ⟨A', callD_of (show byRel NextR _ _ = none from byRel_none fun r hr => by cases hr) (fn := Tryd.f19) rfl r1, r2⟩
  list A := callD_of (show byRel ListR _ _ = none from byRel_none fun r hr => by cases hr) (fn := Tryd.f20) rfl (nil_list n A)
  wd A k s := callD_of (show byRel WdR _ _ = none from byRel_none fun r hr => by cases hr) (fn := Tryd.f22) rfl (nil_wd n A k s)
  fg A s := callD_of (show byRel FgR _ _ = none from byRel_none fun r hr => by cases hr) (fn := Tryd.f23) rfl (nil_fg n A s)
  cl A := callD_of (show byRel ClR _ _ = none from byRel_none fun r hr => by cases hr) (fn := Tryd.f24) rfl (nil_cl n A)
  cnt A k := callD_of (show byRel CntR _ _ = none from byRel_none fun r hr => by cases hr) (fn := Tryd.f41) rfl (nil_cnt n A k)
end Go.Dn.Ln
end

section
/-
  'LaneTakes', run: an op
-/
namespace Go.Dn.Ln
open Go.Proofs
set_option maxHeartbeats 4000000
set_option maxRecDepth 100000
attribute [local irreducible] Hp.get Hp.set Hp.push dappend dcopy dstore cellsAt callD loopD

def SameOK (call : CallT) (NS : Nat) : Prop := ∀ {A : Hp} {T1 T2 : List Tk} {V1 V2 : Value} {o1 o2 : Option Nat}, CanAt 29 3 A V1 o1 (T1.map tkc).flatten T1.length → CanAt 29 3 A V2 o2 (T2.map tkc).flatten T2.length → T1.length ≤ 100000000 → T1.length < NS →
  call 21 [V1, V2] A = some (.bool (decide (T1 = T2)), A)

theorem list_use {call : CallT} (h : LaneFns2 call) {A : Hp} (hw : A.wf) {P : Nat} {x : LX} (hP : A.get P = some (.abs 3 x.dat)) (hn : x.n ≤ 100000000) :
    ∃ V io A', call 20 [ptr P] A = some (V, A') ∧ KP P A A' ∧ A'.get P = some (.abs 3 x.dat) ∧ CanAt 29 3 A' V io (x.ts.map tkc).flatten x.ts.length ∧ ∀ j, io = some j → A.next ≤ j := by
  have hl := h.list (ListR.mk A P x hP hn)
  have hPl := hw.lt hP
  have k1 : KP P A (A.set P (some (.abs 3 x.dat))) := (KP.refl hw).setO hP _
  have n1 : (A.set P (some (.abs 3 x.dat))).next = A.next := Hp.next_set _ _ _
  obtain ⟨ts, n⟩ := x
  cases ts with
  | nil => exact ⟨_, none, _, hl, k1, Hp.get_set_same _ _ _, .nil, by simp⟩
  | cons a l =>
    have k2 : KP P A ((A.set P (some (.abs 3 (LX.dat ⟨a :: l, n⟩)))).push (.arr 29 ((a :: l).map tkc).flatten .own)) := k1.trans ((Kp.push k1.wf _).toP P)
    have hlen : (((a :: l).map tkc).flatten).length = (a :: l).length * 3 := flat_len _ 3 (fun k c hc => by
      rw [List.getElem?_map] at hc
      cases hh : (a :: l)[k]? with
      | none => rw [hh] at hc; cases hc
      | some x => rw [hh] at hc; cases hc; rfl) |>.trans (by rw [List.length_map])
    refine ⟨.slice (some ⟨A.next, 0, some 3⟩) (a :: l).length (2 * (a :: l).length), some A.next, (A.set P (some (.abs 3 (LX.dat ⟨a :: l, n⟩)))).push (.arr 29 ((a :: l).map tkc).flatten .own), hl, k2, ?_, .at _ _ _ ?_ hlen (by simp), fun j hj => by cases hj; exact Nat.le_refl _⟩
    · rw [Hp.get_push_ne _ _ (by omega)]
      exact Hp.get_set_same _ _ _
    · rw [← n1]
      exact Hp.get_push_same _ _

/-- Len and List behind a step -/
theorem both_use {call : CallT} (h : LaneFns2 call) {A : Hp} (hw : A.wf) {P : Nat} {x : LX} (hP : A.get P = some (.abs 3 x.dat)) (hn : x.n ≤ 100000000) :
    ∃ a c A1 A2, call 18 [ptr P] A = some (.int .i64 (x.ts.length : Nat), A1) ∧ call 20 [ptr P] A1 = some (.slice a x.ts.length c, A2) ∧ KP P A A2 ∧ A2.get P = some (.abs 3 x.dat) := by
  have hl := h.len (LenR.mk A P x hP)
  have k1 : KP P A (A.set P (some (.abs 3 x.dat))) := (KP.refl hw).setO hP _
  obtain ⟨V, io, A2, r1, r2, r3, r4, r5⟩ := list_use h k1.wf (P := P) (x := x) (Hp.get_set_same _ _ _) hn
  obtain ⟨a, c, rfl⟩ := r4.sl3
  exact ⟨a, c, _, A2, hl, r1, k1.trans r2, r3⟩

section
variable {call : CallT} {NS : Nat} (h : LaneFns2 call) (hsame : SameOK call NS) {A0 : Hp} {P : Nat} (hw0 : A0.wf) {ops : List OpA} (hops : ∀ o ∈ ops, 0 ≤ o.tv ∧ o.tv ≤ 4294967295) {ib : Nat} (hib : A0.get ib = some (.arr 39 (ops.map OpA.cells).flatten .sh)) (hibP : ib ≠ P)
include h hsame hw0 hops hib hibP

theorem takes_op (lf : Nat) {A : Hp} {ts : List Tk} {n m c i : Nat} (hk : KP P A0 A) (hP : A.get P = some (.abs 3 (LX.dat ⟨ts, n⟩))) (htn : ts.length ≤ n) (hn : n ≤ 10000000) (hm : ops.length = m) (hm2 : m ≤ 1048576) (hi : i < m) (hNS : n + 2 < NS) (hlf : n < lf) :
    ∃ σ1 A1 ts' n', exec Tryd.bk.E call Tryd.f4.ntmps (Tryd.bk.inf 4) lf (loopOf Tryd.f4 0) [(2, .bool false), (3, ptr P), (15, .slice (some ⟨ib, 0, some 4⟩) m c), (16, .int .i64 (m : Nat)), (17, .int .i64 (i : Nat))] A = some (.normal, σ1, A1) ∧
      keepSl (some [2, 3, 15, 16, 17]) σ1 = [(2, .bool false), (3, ptr P), (15, .slice (some ⟨ib, 0, some 4⟩) m c), (16, .int .i64 (m : Nat)), (17, .int .i64 (i + 1 : Nat))] ∧ KP P A0 A1 ∧ A1.get P = some (.abs 3 (LX.dat ⟨ts', n'⟩)) ∧ n' ≤ n + 1 ∧ ts'.length ≤ n' := by
  obtain ⟨o, ho⟩ : ∃ o, ops[i]? = some o := ⟨_, List.getElem?_eq_getElem (by omega)⟩
  have hok := hops o (List.mem_of_getElem? ho)
  obtain ⟨f1, f2⟩ := flat_row (css := ops.map OpA.cells) (sz := 4) (fun k c hc => by
    rw [List.getElem?_map] at hc
    cases hh : ops[k]? with
    | none => rw [hh] at hc; cases hc
    | some x => rw [hh] at hc; cases hc; rfl) i o.cells (by rw [List.getElem?_map, ho]; rfl)
  have hcell : cellsIn (ops.map OpA.cells).flatten (0 + i * 4) 4 = some o.cells := cellsIn_of (by omega) (by rw [Nat.zero_add]; exact f2)
  have e1 : ((i : Nat) : Int) < ((m : Nat) : Int) := by omega
  have hw2 : IntKind.i64.wrap ((i : Int) + 1) = ((i + 1 : Nat) : Int) := by rw [w64 (by omega) (by omega)]; omega
  have hw := hk.wf
  have hPA : P < A.next := hw.lt hP
  have hgi : A.get ib = some (.arr 39 (ops.map OpA.cells).flatten .sh) := by rw [hk.old ib (hw0.lt hib) hibP]; exact hib
  obtain ⟨ok, otk, ots, otv⟩ := o
  simp only at hok
  let Z : List Value := [.int .i64 0, .int .i64 0, .int .u32 0, .int .u32 0]
  let C : List Value := [.int .i64 ok, .int .i64 otk, .int .u32 ots, .int .u32 otv]
  have hcell2 : cellsIn (ops.map OpA.cells).flatten (0 + i * 4) 4 = some C := hcell
  let B1 : Hp := (A.push (.arr 39 Z .own)).set A.next (some (.arr 39 C .own))
  have k1 : Kp A B1 := (Kp.push hw (.arr 39 Z .own)).set (Hp.get_push_same _ _) (Nat.le_refl _) _
  have n1 : B1.next = A.next + 1 := by simp [B1]
  have q1 : B1.get A.next = some (.arr 39 C .own) := Hp.get_set_same _ _ _
  have P1 : B1.get P = some (.abs 3 (LX.dat ⟨ts, n⟩)) := by rw [k1.old P hPA]; exact hP
  obtain ⟨V6, io6, B2, l2, k2, P2, c2, g2⟩ := list_use h k1.wf P1 (show n ≤ _ by omega)
  have q2 : B2.get A.next = some (.arr 39 (OpA.cells ⟨ok, otk, ots, otv⟩) .own) := by rw [k2.old _ (by omega) (by omega)]; exact q1
  have n2 := k2.nx
  obtain ⟨V7, io7, B3, L7, s1⟩ : ∃ V7 io7 B3, ∃ L7 : Value, loopD (some [2, 3, 5, 6, 7, 8, 15, 16, 17, 23, 24, 25]) (exec Tryd.bk.E call Tryd.f4.ntmps (Tryd.bk.inf 4) lf (loopOf Tryd.f4 1)) lf [(2, .bool false), (3, ptr P), (15, .slice (some ⟨ib, 0, some 4⟩) m c), (16, .int .i64 (m : Nat)), (17, .int .i64 (i : Nat)), (5, ptr A.next), (6, V6), (7, .slice none 0 0), (8, .int .i64 ((0 : Nat) : Int)), (23, V6), (24, .int .i64 (ts.length : Nat)), (25, .int .i64 ((0 : Nat) : Int))] B2 =
      some (.exit 2, [(2, .bool false), (3, ptr P), (15, .slice (some ⟨ib, 0, some 4⟩) m c), (16, .int .i64 (m : Nat)), (17, .int .i64 (i : Nat)), (5, ptr A.next), (6, V6), (7, V7), (8, .int .i64 ((po ⟨ok, otk, ots, otv⟩ ts).2 : Nat)), (23, V6), (24, .int .i64 (ts.length : Nat)), (25, L7)], B3) ∧ Kp B2 B3 ∧ CanAt 29 3 B3 V7 io7 ((po ⟨ok, otk, ots, otv⟩ ts).1.map tkc).flatten (po ⟨ok, otk, ots, otv⟩ ts).1.length ∧ ∀ j, io7 = some j → B2.next ≤ j := by
    obtain ⟨B3, V7, io7, L7, r⟩ := takes_in_loop (call := call) (ts := ts) (by omega) (o := ⟨ok, otk, ots, otv⟩) (U := A.next) (ptr P) (.slice (some ⟨ib, 0, some 4⟩) m c) (.int .i64 (m : Nat)) (.int .i64 (i : Nat)) lf k2.wf c2 q2 (by omega)
    exact ⟨V7, io7, B3, L7, r⟩
  obtain ⟨lp, k3, c7, g7⟩ := s1
  have n3 := k3.nx
  have P3 : B3.get P = some (.abs 3 (LX.dat ⟨ts, n⟩)) := by rw [k3.old P (by omega)]; exact P2
  have q3 : B3.get A.next = some (.arr 39 [.int .i64 ok, .int .i64 otk, .int .u32 ots, .int .u32 otv] .own) := by rw [k3.old _ (by omega)]; exact q2
  have hl2 : ∀ j, io6 = some j → j < B2.next := fun j hj => by subst hj; exact c2.lt k2.wf
  have c6 : CanAt 29 3 B3 V6 io6 (ts.map tkc).flatten ts.length := c2.keep fun j hj => k3.old j (hl2 j hj)
  have hl7 : ∀ j, io7 = some j → j < B3.next := fun j hj => by subst hj; exact c7.lt k3.wf
  have p6 : ∀ j, io6 = some j → j ≠ P := fun j hj => by have := g2 j hj; omega
  have p7 : ∀ j, io7 = some j → j ≠ P := fun j hj => by have := g7 j hj; omega
  have kA3 : KP P A0 B3 := ((hk.trans (k1.toP P)).trans k2).trans (k3.toP P)
  obtain ⟨a6, cc6, rfl⟩ := c6.sl3
  by_cases k0 : ok = 0
  · have hput := h.put (PutR.mk B3 P _ P3 otk ots otv hok.1 hok.2 (show n ≤ _ by omega))
    simp only at hput
    have hpl := putT_len ts otk ots otv
    have kD0 : KP P A0 (B3.set P (some (.abs 3 (LX.dat ⟨(putT ts otk ots otv).2, n + 1⟩)))) := kA3.setO P3 _
    have PD0 : (B3.set P (some (.abs 3 (LX.dat ⟨(putT ts otk ots otv).2, n + 1⟩)))).get P = some (.abs 3 (LX.dat ⟨(putT ts otk ots otv).2, n + 1⟩)) := Hp.get_set_same _ _ _
    cases hp1 : (putT ts otk ots otv).1 with
    | none =>
      rw [hp1] at hput
      have kD := kD0
      have PD := PD0
      obtain ⟨fa, fc, D1, D2, fl, fls, kf, Pf⟩ := both_use h kD.wf PD (show n + 1 ≤ _ by omega)
      refine ⟨?sa, D2, (putT ts otk ots otv).2, n + 1, kexec_run ?ra, ?ka, kD.trans kf, Pf, by omega, ?ta⟩
      case ta => exact Nat.le_trans hpl (by omega)
      case ra =>
        conv => lhs; whnf
        rw [kdec e1]
        conv => lhs; whnf
        rw [kdec e1]
        conv => lhs; whnf
        refine bind_of ((cellsAt_of hgi _ _).trans hcell2) ?_
        conv => lhs; whnf
        refine bind_of (dstore_of (Hp.get_push_same _ _) (t := 39) (o := 0) (cs' := C) rfl) ?_
        conv => lhs; whnf
        refine bind_of l2 ?_
        conv => lhs; whnf
        refine bind_of lp ?_
        conv => lhs; whnf
        refine bind_of (cellsAt_of q3 _ _) ?_
        conv => lhs; whnf
        rw [show (ok == 0) = true from beq_iff_eq.2 k0]
        conv => lhs; whnf
        refine bind_of (cellsAt_of q3 _ _) ?_
        conv => lhs; whnf
        refine bind_of hput ?_
        conv => lhs; whnf
        refine bind_of fl ?_
        conv => lhs; whnf
        refine bind_of fls ?_
        conv => lhs; whnf
        rw [show (((((putT ts otk ots otv).2).length : Nat) : Int) != ((((putT ts otk ots otv).2).length : Nat) : Int)) = false from bne_self_eq_false _]
        conv => lhs; whnf
        try rfl
      case ka =>
        show [_, _, _, _, (17, Value.int .i64 (IntKind.i64.wrap ((i : Int) + 1)))] = _
        rw [hw2]
    | some g =>
      have hp2 := putT_err hp1
      rw [hp1] at hput
      rw [hp2] at hput kD0 PD0
      obtain ⟨V9, io9, D, l9, k9, PD, c9, g9⟩ := list_use h kD0.wf PD0 (show n + 1 ≤ _ by omega)
      have hsm := hsame c9 (T2 := ts) (c6.keep fun j hj => by
        have := hl2 j hj
        rw [k9.old j (by rw [Hp.next_set]; omega) (p6 j hj), Hp.get_set_ne _ _ (p6 j hj)]) (show ts.length ≤ _ by omega) (show ts.length < _ by omega)
      simp only at hsm
      rw [decide_true] at hsm
      have kD := kD0.trans k9
      obtain ⟨fa, fc, D1, D2, fl, fls, kf, Pf⟩ := both_use h kD.wf PD (show n + 1 ≤ _ by omega)
      refine ⟨?sb, D2, ts, n + 1, kexec_run ?rb, ?kb, kD.trans kf, Pf, by omega, ?tb⟩
      case tb => omega
      case rb =>
        conv => lhs; whnf
        rw [kdec e1]
        conv => lhs; whnf
        rw [kdec e1]
        conv => lhs; whnf
        refine bind_of ((cellsAt_of hgi _ _).trans hcell2) ?_
        conv => lhs; whnf
        refine bind_of (dstore_of (Hp.get_push_same _ _) (t := 39) (o := 0) (cs' := C) rfl) ?_
        conv => lhs; whnf
        refine bind_of l2 ?_
        conv => lhs; whnf
        refine bind_of lp ?_
        conv => lhs; whnf
        refine bind_of (cellsAt_of q3 _ _) ?_
        conv => lhs; whnf
        rw [show (ok == 0) = true from beq_iff_eq.2 k0]
        conv => lhs; whnf
        refine bind_of (cellsAt_of q3 _ _) ?_
        conv => lhs; whnf
        refine bind_of hput ?_
        conv => lhs; whnf
        refine bind_of l9 ?_
        conv => lhs; whnf
        refine bind_of hsm ?_
        conv => lhs; whnf
        refine bind_of fl ?_
        conv => lhs; whnf
        refine bind_of fls ?_
        conv => lhs; whnf
        rw [show ((((ts).length : Nat) : Int) != (((ts).length : Nat) : Int)) = false from bne_self_eq_false _]
        conv => lhs; whnf
        try rfl
      case kb =>
        show [_, _, _, _, (17, Value.int .i64 (IntKind.i64.wrap ((i : Int) + 1)))] = _
        rw [hw2]
  · by_cases k2' : ok = 2
    · have hpo := po2 (o := ⟨ok, otk, ots, otv⟩) k2' ts []
      have hpo1 : (po ⟨ok, otk, ots, otv⟩ ts).1 = ts.eraseP (wm otk ots) := by unfold po; rw [hpo]; simp
      have hpo2 : (po ⟨ok, otk, ots, otv⟩ ts).2 = if ts.any (wm otk ots) then 1 else 0 := by unfold po; rw [hpo]
      rw [hpo1] at c7
      rw [hpo2] at lp
      have hwd := h.wd (WdR.mk B3 P _ P3 (show n ≤ _ by omega) otk ots)
      simp only at hwd
      have hle : (ts.eraseP (wm otk ots)).length ≤ ts.length := List.eraseP_sublist.length_le
      have kD0 : KP P A0 (B3.set P (some (.abs 3 (LX.dat ⟨ts.eraseP (wm otk ots), n⟩)))) := kA3.setO P3 _
      obtain ⟨V9, io9, D, l9, k9, PD, c9, g9⟩ := list_use h kD0.wf (P := P) (x := ⟨ts.eraseP (wm otk ots), n⟩) (Hp.get_set_same _ _ _) (show n ≤ _ by omega)
      have hsm := hsame c9 (c7.keep fun j hj => by
        have := hl7 j hj
        rw [k9.old j (by rw [Hp.next_set]; omega) (p7 j hj), Hp.get_set_ne _ _ (p7 j hj)]) (show (ts.eraseP (wm otk ots)).length ≤ _ by omega) (show (ts.eraseP (wm otk ots)).length < _ by omega)
      simp only at hsm
      rw [decide_true] at hsm
      have kD := kD0.trans k9
      cases hany : ts.any (wm otk ots) with
      | true =>
        rw [hany] at hwd lp
        simp only [if_true] at lp
        obtain ⟨fa, fc, D1, D2, fl, fls, kf, Pf⟩ := both_use h kD.wf PD (show n ≤ _ by omega)
        refine ⟨?sc, D2, ts.eraseP (wm otk ots), n, kexec_run ?rc, ?kc, kD.trans kf, Pf, by omega, ?tc⟩
        case tc => exact Nat.le_trans hle htn
        case rc =>
          conv => lhs; whnf
          rw [kdec e1]
          conv => lhs; whnf
          rw [kdec e1]
          conv => lhs; whnf
          refine bind_of ((cellsAt_of hgi _ _).trans hcell2) ?_
          conv => lhs; whnf
          refine bind_of (dstore_of (Hp.get_push_same _ _) (t := 39) (o := 0) (cs' := C) rfl) ?_
          conv => lhs; whnf
          refine bind_of l2 ?_
          conv => lhs; whnf
          refine bind_of lp ?_
          conv => lhs; whnf
          refine bind_of (cellsAt_of q3 _ _) ?_
          conv => lhs; whnf
          rw [show (ok == 0) = false from beq_eq_false_iff_ne.2 k0]
          conv => lhs; whnf
          rw [show (ok == 2) = true from beq_iff_eq.2 k2']
          conv => lhs; whnf
          refine bind_of (cellsAt_of q3 _ _) ?_
          conv => lhs; whnf
          refine bind_of (cellsAt_of q3 _ _) ?_
          conv => lhs; whnf
          refine bind_of hwd ?_
          conv => lhs; whnf
          refine bind_of l9 ?_
          conv => lhs; whnf
          refine bind_of hsm ?_
          conv => lhs; whnf
          refine bind_of fl ?_
          conv => lhs; whnf
          refine bind_of fls ?_
          conv => lhs; whnf
          rw [show ((((ts.eraseP (wm otk ots)).length : Nat) : Int) != (((ts.eraseP (wm otk ots)).length : Nat) : Int)) = false from bne_self_eq_false _]
          conv => lhs; whnf
          try rfl
        case kc =>
          show [_, _, _, _, (17, Value.int .i64 (IntKind.i64.wrap ((i : Int) + 1)))] = _
          rw [hw2]
      | false =>
        rw [hany] at hwd lp
        simp only [Bool.false_eq_true, if_false] at lp
        obtain ⟨fa, fc, D1, D2, fl, fls, kf, Pf⟩ := both_use h kD.wf PD (show n ≤ _ by omega)
        refine ⟨?sd, D2, ts.eraseP (wm otk ots), n, kexec_run ?rd, ?kd, kD.trans kf, Pf, by omega, ?td⟩
        case td => exact Nat.le_trans hle htn
        case rd =>
          conv => lhs; whnf
          rw [kdec e1]
          conv => lhs; whnf
          rw [kdec e1]
          conv => lhs; whnf
          refine bind_of ((cellsAt_of hgi _ _).trans hcell2) ?_
          conv => lhs; whnf
          refine bind_of (dstore_of (Hp.get_push_same _ _) (t := 39) (o := 0) (cs' := C) rfl) ?_
          conv => lhs; whnf
          refine bind_of l2 ?_
          conv => lhs; whnf
          refine bind_of lp ?_
          conv => lhs; whnf
          refine bind_of (cellsAt_of q3 _ _) ?_
          conv => lhs; whnf
          rw [show (ok == 0) = false from beq_eq_false_iff_ne.2 k0]
          conv => lhs; whnf
          rw [show (ok == 2) = true from beq_iff_eq.2 k2']
          conv => lhs; whnf
          refine bind_of (cellsAt_of q3 _ _) ?_
          conv => lhs; whnf
          refine bind_of (cellsAt_of q3 _ _) ?_
          conv => lhs; whnf
          refine bind_of hwd ?_
          conv => lhs; whnf
          refine bind_of l9 ?_
          conv => lhs; whnf
          refine bind_of hsm ?_
          conv => lhs; whnf
          refine bind_of fl ?_
          conv => lhs; whnf
          refine bind_of fls ?_
          conv => lhs; whnf
          rw [show ((((ts.eraseP (wm otk ots)).length : Nat) : Int) != (((ts.eraseP (wm otk ots)).length : Nat) : Int)) = false from bne_self_eq_false _]
          conv => lhs; whnf
          try rfl
        case kd =>
          show [_, _, _, _, (17, Value.int .i64 (IntKind.i64.wrap ((i : Int) + 1)))] = _
          rw [hw2]
    · by_cases k3' : ok = 3
      · have hpo := po3 (o := ⟨ok, otk, ots, otv⟩) k3' ts ([], 0)
        have hpo1 : (po ⟨ok, otk, ots, otv⟩ ts).1 = ts.filter (fun t => !isS ots t) := by unfold po; rw [hpo]; simp
        have hpo2 : (po ⟨ok, otk, ots, otv⟩ ts).2 = ts.countP (isS ots) := by unfold po; rw [hpo]; simp
        rw [hpo1] at c7
        rw [hpo2] at lp
        have hfg := h.fg (FgR.mk B3 P _ P3 (show n ≤ _ by omega) ots)
        simp only at hfg
        have hle : (ts.filter (fun t => !isS ots t)).length ≤ ts.length := List.filter_sublist.length_le
        have kD0 : KP P A0 (B3.set P (some (.abs 3 (LX.dat ⟨ts.filter (fun t => !isS ots t), n⟩)))) := kA3.setO P3 _
        obtain ⟨V9, io9, D, l9, k9, PD, c9, g9⟩ := list_use h kD0.wf (P := P) (x := ⟨ts.filter (fun t => !isS ots t), n⟩) (Hp.get_set_same _ _ _) (show n ≤ _ by omega)
        have hsm := hsame c9 (c7.keep fun j hj => by
          have := hl7 j hj
          rw [k9.old j (by rw [Hp.next_set]; omega) (p7 j hj), Hp.get_set_ne _ _ (p7 j hj)]) (show (ts.filter (fun t => !isS ots t)).length ≤ _ by omega) (show (ts.filter (fun t => !isS ots t)).length < _ by omega)
        simp only at hsm
        rw [decide_true] at hsm
        have kD := kD0.trans k9
        generalize ts.countP (isS ots) = cn at lp hfg
        obtain ⟨fa, fc, D1, D2, fl, fls, kf, Pf⟩ := both_use h kD.wf PD (show n ≤ _ by omega)
        refine ⟨?se, D2, ts.filter (fun t => !isS ots t), n, kexec_run ?re, ?ke, kD.trans kf, Pf, by omega, ?te⟩
        case te => exact Nat.le_trans hle htn
        case re =>
          conv => lhs; whnf
          rw [kdec e1]
          conv => lhs; whnf
          rw [kdec e1]
          conv => lhs; whnf
          refine bind_of ((cellsAt_of hgi _ _).trans hcell2) ?_
          conv => lhs; whnf
          refine bind_of (dstore_of (Hp.get_push_same _ _) (t := 39) (o := 0) (cs' := C) rfl) ?_
          conv => lhs; whnf
          refine bind_of l2 ?_
          conv => lhs; whnf
          refine bind_of lp ?_
          conv => lhs; whnf
          refine bind_of (cellsAt_of q3 _ _) ?_
          conv => lhs; whnf
          rw [show (ok == 0) = false from beq_eq_false_iff_ne.2 k0]
          conv => lhs; whnf
          rw [show (ok == 2) = false from beq_eq_false_iff_ne.2 k2']
          conv => lhs; whnf
          rw [show (ok == 3) = true from beq_iff_eq.2 k3']
          conv => lhs; whnf
          refine bind_of (cellsAt_of q3 _ _) ?_
          conv => lhs; whnf
          refine bind_of hfg ?_
          conv => lhs; whnf
          rw [show (((cn : Nat) : Int) != ((cn : Nat) : Int)) = false from bne_self_eq_false _]
          conv => lhs; whnf
          refine bind_of l9 ?_
          conv => lhs; whnf
          refine bind_of hsm ?_
          conv => lhs; whnf
          refine bind_of fl ?_
          conv => lhs; whnf
          refine bind_of fls ?_
          conv => lhs; whnf
          rw [show ((((ts.filter (fun t => !isS ots t)).length : Nat) : Int) != (((ts.filter (fun t => !isS ots t)).length : Nat) : Int)) = false from bne_self_eq_false _]
          conv => lhs; whnf
          try rfl
        case ke =>
          show [_, _, _, _, (17, Value.int .i64 (IntKind.i64.wrap ((i : Int) + 1)))] = _
          rw [hw2]
      · by_cases k4' : ok = 4
        · have hpo := po4 (o := ⟨ok, otk, ots, otv⟩) k4' ts ([], 0)
          have hpo2 : (po ⟨ok, otk, ots, otv⟩ ts).2 = ts.length := by unfold po; rw [hpo]; simp
          rw [hpo2] at lp
          have hcl := h.cl (ClR.mk B3 P _ P3)
          simp only at hcl
          have kD0 : KP P A0 (B3.set P (some (.abs 3 (LX.dat ⟨[], n⟩)))) := kA3.setO P3 _
          have hln := h.len (LenR.mk (B3.set P (some (.abs 3 (LX.dat ⟨[], n⟩)))) P ⟨[], n⟩ (Hp.get_set_same _ _ _))
          have kD : KP P A0 ((B3.set P (some (.abs 3 (LX.dat ⟨[], n⟩)))).set P (some (.abs 3 (LX.dat ⟨[], n⟩)))) := kD0.setO (Hp.get_set_same _ _ _) _
          have PD : ((B3.set P (some (.abs 3 (LX.dat ⟨[], n⟩)))).set P (some (.abs 3 (LX.dat ⟨[], n⟩)))).get P = some (.abs 3 (LX.dat ⟨[], n⟩)) := Hp.get_set_same _ _ _
          obtain ⟨fa, fc, D1, D2, fl, fls, kf, Pf⟩ := both_use h kD.wf PD (show n ≤ _ by omega)
          refine ⟨?sf, D2, [], n, kexec_run ?rf, ?kf, kD.trans kf, Pf, by omega, ?tf⟩
          case tf => exact Nat.zero_le _
          case rf =>
            conv => lhs; whnf
            rw [kdec e1]
            conv => lhs; whnf
            rw [kdec e1]
            conv => lhs; whnf
            refine bind_of ((cellsAt_of hgi _ _).trans hcell2) ?_
            conv => lhs; whnf
            refine bind_of (dstore_of (Hp.get_push_same _ _) (t := 39) (o := 0) (cs' := C) rfl) ?_
            conv => lhs; whnf
            refine bind_of l2 ?_
            conv => lhs; whnf
            refine bind_of lp ?_
            conv => lhs; whnf
            refine bind_of (cellsAt_of q3 _ _) ?_
            conv => lhs; whnf
            rw [show (ok == 0) = false from beq_eq_false_iff_ne.2 k0]
            conv => lhs; whnf
            rw [show (ok == 2) = false from beq_eq_false_iff_ne.2 k2']
            conv => lhs; whnf
            rw [show (ok == 3) = false from beq_eq_false_iff_ne.2 k3']
            conv => lhs; whnf
            rw [show (ok == 4) = true from beq_iff_eq.2 k4']
            conv => lhs; whnf
            refine bind_of hcl ?_
            conv => lhs; whnf
            rw [show (((ts.length : Nat) : Int) != ((ts.length : Nat) : Int)) = false from bne_self_eq_false _]
            conv => lhs; whnf
            refine bind_of hln ?_
            conv => lhs; whnf
            refine bind_of fl ?_
            conv => lhs; whnf
            refine bind_of fls ?_
            conv => lhs; whnf
            try rfl
          case kf =>
            show [_, _, _, _, (17, Value.int .i64 (IntKind.i64.wrap ((i : Int) + 1)))] = _
            rw [hw2]
        · have kD := kA3
          have PD := P3
          obtain ⟨fa, fc, D1, D2, fl, fls, kf, Pf⟩ := both_use h kD.wf PD (show n ≤ _ by omega)
          refine ⟨?sg, D2, ts, n, kexec_run ?rg, ?kg, kD.trans kf, Pf, by omega, ?tg⟩
          case tg => exact htn
          case rg =>
            conv => lhs; whnf
            rw [kdec e1]
            conv => lhs; whnf
            rw [kdec e1]
            conv => lhs; whnf
            refine bind_of ((cellsAt_of hgi _ _).trans hcell2) ?_
            conv => lhs; whnf
            refine bind_of (dstore_of (Hp.get_push_same _ _) (t := 39) (o := 0) (cs' := C) rfl) ?_
            conv => lhs; whnf
            refine bind_of l2 ?_
            conv => lhs; whnf
            refine bind_of lp ?_
            conv => lhs; whnf
            refine bind_of (cellsAt_of q3 _ _) ?_
            conv => lhs; whnf
            rw [show (ok == 0) = false from beq_eq_false_iff_ne.2 k0]
            conv => lhs; whnf
            rw [show (ok == 2) = false from beq_eq_false_iff_ne.2 k2']
            conv => lhs; whnf
            rw [show (ok == 3) = false from beq_eq_false_iff_ne.2 k3']
            conv => lhs; whnf
            rw [show (ok == 4) = false from beq_eq_false_iff_ne.2 k4']
            conv => lhs; whnf
            refine bind_of fl ?_
            conv => lhs; whnf
            refine bind_of fls ?_
            conv => lhs; whnf
            rw [show ((((ts).length : Nat) : Int) != (((ts).length : Nat) : Int)) = false from bne_self_eq_false _]
            conv => lhs; whnf
            try rfl
          case kg =>
            show [_, _, _, _, (17, Value.int .i64 (IntKind.i64.wrap ((i : Int) + 1)))] = _
            rw [hw2]
end
end Go.Dn.Ln
end

section
/-
  LaneAnswers: a step
-/
namespace Go.Dn.Ln
open Go.Proofs
set_option maxHeartbeats 4000000
set_option maxRecDepth 100000
attribute [local irreducible] Hp.get Hp.set Hp.push dappend dcopy dstore cellsAt callD loopD guardL hideL backL

/-- what a step leaves -/
structure SP (z : Bool) (P : Nat) (A : Hp) (n : Nat) (io : Option Nat) (V' : Value) (io' : Option Nat) (ts' : List Tk) (n' : Nat) (A' : Hp) : Prop where
  kp : KP P A A'
  obj : A'.get P = some (.abs 3 (LX.dat ⟨ts', n'⟩))
  ts : TsAt A' V' io' ts'
  inv : LInv ts'
  nn : n' ≤ n + 1
  len : ts'.length ≤ n'
  nil : z = true → ts' = []
  io : ∀ j, io' = some j → A.next ≤ j ∨ io = some j

structure RefOK (call : CallT) (NN : Nat) : Prop where
  put : ∀ {A : Hp}, A.wf → ∀ {V : Value} {io : Option Nat} {ts : List Tk}, TsAt A V io ts → ∀ k s v : Int, 0 ≤ v ∧ v ≤ 4294967295 → (∀ t ∈ ts, 0 ≤ t.2.2 ∧ t.2.2 ≤ 4294967295) → ts.length ≤ NN →
    ∃ V' io' A', call 80 [V, .agg #[.int .i64 k, .int .u32 s, .int .u32 v]] A = some (.tuple #[V', .int .i64 (rputT ts k s v).1], A') ∧ TsAt A' V' io' (rputT ts k s v).2 ∧ Kp A A' ∧ ∀ j, io' = some j → A.next ≤ j ∨ io = some j
  without : ∀ {A : Hp}, A.wf → ∀ {V : Value} {io : Option Nat} {ts : List Tk}, TsAt A V io ts → ∀ i : Nat, i < ts.length → ts.length ≤ NN →
    ∃ V' io' A', call 81 [V, .int .i64 (i : Nat)] A = some (V', A') ∧ TsAt A' V' io' (ts.eraseIdx i) ∧ Kp A A' ∧ ∀ j, io' = some j → A.next ≤ j
  find : FindOK call NN
  forget : ∀ {A : Hp}, A.wf → ∀ {V : Value} {io : Option Nat} {ts : List Tk}, TsAt A V io ts → ∀ s : Int, ts.length ≤ NN →
    ∃ V' io' A', call 83 [V, .int .u32 s] A = some (.tuple #[V', .int .i64 (ts.countP (isS s) : Nat)], A') ∧ TsAt A' V' io' (keepF s ts) ∧ Kp A A' ∧ ∀ j, io' = some j → A.next ≤ j
  count : ∀ {A : Hp} {V : Value} {io : Option Nat} {ts : List Tk}, TsAt A V io ts → ∀ k : Int, ts.length ≤ NN → call 42 [V, .int .i64 k] A = some (.int .i64 (ts.countP (isK k) : Nat), A)

theorem cnt_eq {ts : List Tk} (hi : LInv ts) {k : Int} : cntT ts k = ts.countP (isK k) := by
  unfold cntT
  split
  · rename_i hk
    symm
    rw [List.countP_eq_zero]
    intro t ht
    have := hi.kind t ht
    simp only [isK, beq_iff_eq]
    omega
  · rename_i hk
    congr 1
    funext t
    unfold isK
    by_cases h : ((t.1 : Nat) : Int) = k
    · rw [show (t.1 == k.toNat) = true from beq_iff_eq.2 (by omega), show (((t.1 : Nat) : Int) == k) = true from beq_iff_eq.2 h]
    · rw [show (t.1 == k.toNat) = false from beq_eq_false_iff_ne.2 (by omega), show (((t.1 : Nat) : Int) == k) = false from beq_eq_false_iff_ne.2 h]

theorem erase_find {α : Type} (p : α → Bool) : ∀ l : List α, l.eraseIdx (l.findIdx p) = l.eraseP p
  | [] => rfl
  | a :: l => by
    cases h : p a with
    | true => rw [List.findIdx_cons, h, List.eraseP_cons_of_pos h]; rfl
    | false =>
      rw [List.findIdx_cons, h, List.eraseP_cons_of_neg (by rw [h]; simp), ← erase_find p l]
      rfl

theorem step_other {call : CallT} {NN : Nat} (h : LaneFns2 call) (hr : RefOK call NN) (lf : Nat) {A : Hp} (hw : A.wf) {P : Nat} {ts : List Tk} {n : Nat} (hP : A.get P = some (.abs 3 (LX.dat ⟨ts, n⟩))) (hi : LInv ts) (hN : ts.length ≤ NN) (_hn : n ≤ 10000000) (htn : ts.length ≤ n) {V : Value} {io : Option Nat} (hT : TsAt A V io ts) (hio : io ≠ some P)
    {ok otk ots otv : Int} (k0 : ¬ ok = 0) (k1 : ¬ ok = 1) (k2 : ¬ ok = 2) (k3 : ¬ ok = 3) (k4 : ¬ ok = 4) :
    ∃ V' io' ts' n' A', kfn Tryd.bk.E call (Tryd.bk.inf 40) lf Tryd.f40 [ptr P, V, .agg #[.int .i64 ok, .int .i64 otk, .int .u32 ots, .int .u32 otv]] A = some (.tuple #[V', .bool true], A') ∧ SP false P A n io V' io' ts' n' A' := by
  let C : List Value := [.int .i64 ok, .int .i64 otk, .int .u32 ots, .int .u32 otv]
  let A1 : Hp := A.push (.arr 39 C .own)
  have k1' : Kp A A1 := Kp.push hw _
  have q1 : A1.get A.next = some (.arr 39 C .own) := Hp.get_push_same _ _
  have hPl := hw.lt hP
  have n1 : A1.next = A.next + 1 := by simp [A1]
  have P1 : A1.get P = some (.abs 3 (LX.dat ⟨ts, n⟩)) := by rw [k1'.old P hPl]; exact hP
  obtain ⟨g1, g2, g3, g4⟩ := guarded_same k1'.wf P1 [A.next] (fun j hj => by simp only [List.mem_singleton] at hj; subst hj; exact ⟨by omega, by omega⟩)
  have hcnt := h.cnt (CntR.mk (guardL (hideL A1 []) [A.next]) P ⟨ts, n⟩ g1 otk)
  let D : Hp := backL A1 (backL A1 ((guardL (hideL A1 []) [A.next]).set P (some (.abs 3 (LX.dat ⟨ts, n⟩)))) [A.next]) []
  have qD : D.get A.next = some (.arr 39 C .own) := (g4 _).trans q1
  have hTD : TsAt D V io ts := hT.keep fun j hj => by rw [g4, k1'.old j (by subst hj; exact hT.lt hw)]
  have hct := hr.count hTD otk hN
  rw [← cnt_eq hi] at hct
  obtain ⟨a, c, rfl, hf⟩ := hT.form
  refine ⟨.slice a ts.length c, io, ts, n, ?A', ?run, ?sp⟩
  rotate_left 1
  case run =>
    conv => lhs; whnf
    refine bind_of (cellsAt_of q1 _ _) ?_
    conv => lhs; whnf
    rw [show (ok == 0) = false from beq_eq_false_iff_ne.2 k0]
    conv => lhs; whnf
    rw [show (ok == 1) = false from beq_eq_false_iff_ne.2 k1]
    conv => lhs; whnf
    rw [show (ok == 2) = false from beq_eq_false_iff_ne.2 k2]
    conv => lhs; whnf
    rw [show (ok == 3) = false from beq_eq_false_iff_ne.2 k3]
    conv => lhs; whnf
    rw [show (ok == 4) = false from beq_eq_false_iff_ne.2 k4]
    conv => lhs; whnf
    refine bind_of (cellsAt_of q1 _ _) ?_
    conv => lhs; whnf
    refine bind_of (cellsAt_of q1 _ _) ?_
    conv => lhs; whnf
    refine bind_of hcnt ?_
    conv => lhs; whnf
    refine bind_of hct ?_
    conv => lhs; whnf
    rw [show (((cntT ts otk : Nat) : Int) == ((cntT ts otk : Nat) : Int)) = true from beq_self_eq_true _]
    try rfl
  case sp => exact ⟨⟨g2, by have : D.next = A1.next := g3; omega, fun j hj hjP => by rw [g4, k1'.old j hj]⟩, by rw [g4]; exact P1, hTD, hi, by omega, htn, by simp, fun j hj => .inr hj⟩

theorem step_put {call : CallT} {NN : Nat} (h : LaneFns2 call) (hr : RefOK call NN) (hcd : CodeOK call) (lf : Nat) {A : Hp} (hw : A.wf) {P : Nat} {ts : List Tk} {n : Nat} (hP : A.get P = some (.abs 3 (LX.dat ⟨ts, n⟩))) (hi : LInv ts) (hN : ts.length ≤ NN) (hn : n ≤ 10000000) (htn : ts.length ≤ n) {V : Value} {io : Option Nat} (hT : TsAt A V io ts) (hio : io ≠ some P)
    {ok otk ots otv : Int} (hv : 0 ≤ otv ∧ otv ≤ 4294967295) (k0 : ok = 0) :
    ∃ V' io' ts' n' A', kfn Tryd.bk.E call (Tryd.bk.inf 40) lf Tryd.f40 [ptr P, V, .agg #[.int .i64 ok, .int .i64 otk, .int .u32 ots, .int .u32 otv]] A = some (.tuple #[V', .bool true], A') ∧ SP false P A n io V' io' ts' n' A' := by
  let C : List Value := [.int .i64 ok, .int .i64 otk, .int .u32 ots, .int .u32 otv]
  let A1 : Hp := A.push (.arr 39 C .own)
  have k1' : Kp A A1 := Kp.push hw _
  have q1 : A1.get A.next = some (.arr 39 C .own) := Hp.get_push_same _ _
  have hPl := hw.lt hP
  have n1 : A1.next = A.next + 1 := by simp [A1]
  have P1 : A1.get P = some (.abs 3 (LX.dat ⟨ts, n⟩)) := by rw [k1'.old P hPl]; exact hP
  have hT1 : TsAt A1 V io ts := hT.keep fun j hj => k1'.old j (by subst hj; exact hT.lt hw)
  obtain ⟨V2, io2, A2, r1, r2, r3, r4⟩ := hr.put k1'.wf hT1 otk ots otv hv hi.val hN
  have q2 : A2.get A.next = some (.arr 39 C .own) := by rw [r3.old _ (by omega)]; exact q1
  have P2 : A2.get P = some (.abs 3 (LX.dat ⟨ts, n⟩)) := by rw [r3.old _ (by omega)]; exact P1
  have hput := h.put (PutR.mk A2 P ⟨ts, n⟩ P2 otk ots otv hv.1 hv.2 (show n ≤ _ by omega))
  simp only at hput
  have hcode := hcd (A2.set P (some (.abs 3 (LX.dat ⟨(putT ts otk ots otv).2, n + 1⟩)))) (putT ts otk ots otv).1 (putT_six ts otk ots otv)
  obtain ⟨e1, e2⟩ := rput_eq hi otk ots otv hv.1
  have hio2 : ∀ j, io2 = some j → j ≠ P := fun j hj => by
    rcases r4 j hj with e | e
    · omega
    · rintro rfl; exact hio e
  have hlen := putT_len ts otk ots otv
  refine ⟨V2, io2, (putT ts otk ots otv).2, n + 1, A2.set P (some (.abs 3 (LX.dat ⟨(putT ts otk ots otv).2, n + 1⟩))), ?run, ⟨((k1'.trans r3).toP P).setO P2 _, Hp.get_set_same _ _ _, ?tt, hi.put otk ots otv hv, Nat.le_refl _, by omega, by simp, ?ii⟩⟩
  case tt =>
    rw [e2]
    exact r2.keep fun j hj => Hp.get_set_ne _ _ (hio2 j hj)
  case ii =>
    intro j hj
    rcases r4 j hj with e | e
    · exact .inl (by omega)
    · exact .inr e
  case run =>
    conv => lhs; whnf
    refine bind_of (cellsAt_of q1 _ _) ?_
    conv => lhs; whnf
    rw [show (ok == 0) = true from beq_iff_eq.2 k0]
    conv => lhs; whnf
    refine bind_of (cellsAt_of q1 _ _) ?_
    conv => lhs; whnf
    refine bind_of r1 ?_
    conv => lhs; whnf
    refine bind_of (cellsAt_of q2 _ _) ?_
    conv => lhs; whnf
    refine bind_of hput ?_
    conv => lhs; whnf
    refine bind_of hcode ?_
    conv => lhs; whnf
    rw [show (codO (putT ts otk ots otv).1 == (rputT ts otk ots otv).1) = true from beq_iff_eq.2 e1]
    conv => lhs; whnf
    try rfl

theorem step_wd {call : CallT} {NN : Nat} (h : LaneFns2 call) (hr : RefOK call NN) (lf : Nat) {A : Hp} (hw : A.wf) {P : Nat} {ts : List Tk} {n : Nat} (hP : A.get P = some (.abs 3 (LX.dat ⟨ts, n⟩))) (hi : LInv ts) (hN : ts.length ≤ NN) (hn : n ≤ 10000000) (htn : ts.length ≤ n) {V : Value} {io : Option Nat} (hT : TsAt A V io ts) (hio : io ≠ some P)
    {ok otk ots otv : Int} (k2 : ok = 2) :
    ∃ V' io' ts' n' A', kfn Tryd.bk.E call (Tryd.bk.inf 40) lf Tryd.f40 [ptr P, V, .agg #[.int .i64 ok, .int .i64 otk, .int .u32 ots, .int .u32 otv]] A = some (.tuple #[V', .bool true], A') ∧ SP false P A n io V' io' ts' n' A' := by
  let C : List Value := [.int .i64 ok, .int .i64 otk, .int .u32 ots, .int .u32 otv]
  let A1 : Hp := A.push (.arr 39 C .own)
  have k1' : Kp A A1 := Kp.push hw _
  have q1 : A1.get A.next = some (.arr 39 C .own) := Hp.get_push_same _ _
  have hPl := hw.lt hP
  have n1 : A1.next = A.next + 1 := by simp [A1]
  have P1 : A1.get P = some (.abs 3 (LX.dat ⟨ts, n⟩)) := by rw [k1'.old P hPl]; exact hP
  have hT1 : TsAt A1 V io ts := hT.keep fun j hj => k1'.old j (by subst hj; exact hT.lt hw)
  have k0 : ¬ ok = 0 := by omega
  have k1 : ¬ ok = 1 := by omega
  have hfd := hr.find hT1 otk ots hN
  have hwd := h.wd (WdR.mk A1 P ⟨ts, n⟩ P1 (show n ≤ _ by omega) otk ots)
  simp only at hwd
  let A2 : Hp := A1.set P (some (.abs 3 (LX.dat ⟨ts.eraseP (wm otk ots), n⟩)))
  have kA2 : KP P A A2 := (k1'.toP P).setO P1 _
  have hT2 : TsAt A2 V io ts := hT1.keep fun j hj => Hp.get_set_ne _ _ (by rintro rfl; exact hio hj)
  have hle : (ts.eraseP (wm otk ots)).length ≤ ts.length := List.eraseP_sublist.length_le
  have P2 : A2.get P = some (.abs 3 (LX.dat ⟨ts.eraseP (wm otk ots), n⟩)) := Hp.get_set_same _ _ _
  cases hany : ts.any (wm otk ots) with
  | true =>
    have hfm : findT ts otk ots = (ts.findIdx (wm otk ots) : Nat) := by unfold findT; rw [hany]; rfl
    rw [hfm] at hfd
    rw [hany] at hwd
    obtain ⟨x0, hx0, hx1⟩ := List.any_eq_true.1 hany
    have hil : ts.findIdx (wm otk ots) < ts.length := List.findIdx_lt_length_of_exists ⟨x0, hx0, hx1⟩
    obtain ⟨V3, io3, A3, r1, r2, r3, r4⟩ := hr.without kA2.wf hT2 _ hil hN
    have eF : ((ts.findIdx (wm otk ots) : Nat) : Int) ≥ 0 := by omega
    have n2 : A2.next = A1.next := Hp.next_set _ _ _
    have her : ts.eraseIdx (ts.findIdx (wm otk ots)) = ts.eraseP (wm otk ots) := erase_find _ _
    rw [her] at r2
    refine ⟨V3, io3, ts.eraseP (wm otk ots), n, A3, ?run1, ⟨kA2.trans (r3.toP P), by rw [r3.old P (by omega)]; exact P2, r2, hi.sub List.eraseP_sublist, by omega, by omega, by simp, fun j hj => .inl (by have := r4 j hj; omega)⟩⟩
    case run1 =>
    conv => lhs; whnf
    refine bind_of (cellsAt_of q1 _ _) ?_
    conv => lhs; whnf
    rw [show (ok == 0) = false from beq_eq_false_iff_ne.2 k0]
    conv => lhs; whnf
    rw [show (ok == 1) = false from beq_eq_false_iff_ne.2 k1]
    conv => lhs; whnf
    rw [show (ok == 2) = true from beq_iff_eq.2 k2]
    conv => lhs; whnf
    refine bind_of (cellsAt_of q1 _ _) ?_
    conv => lhs; whnf
    refine bind_of (cellsAt_of q1 _ _) ?_
    conv => lhs; whnf
    refine bind_of hfd ?_
    conv => lhs; whnf
    refine bind_of (cellsAt_of q1 _ _) ?_
    conv => lhs; whnf
    refine bind_of (cellsAt_of q1 _ _) ?_
    conv => lhs; whnf
    refine bind_of hwd ?_
    conv => lhs; whnf
    rw [kdec eF]
    conv => lhs; whnf
    refine bind_of r1 ?_
    conv => lhs; whnf
    try rfl
  | false =>
    have hfm : findT ts otk ots = -1 := by unfold findT; rw [hany]; rfl
    rw [hfm] at hfd
    rw [hany] at hwd
    have her : ts.eraseP (wm otk ots) = ts := List.eraseP_of_forall_not fun t ht => by
      have := List.any_eq_false.1 hany t ht
      simpa using this
    rw [her] at P2 hwd
    obtain ⟨a, c, rfl, _⟩ := hT2.form
    refine ⟨.slice a ts.length c, io, ts, n, A1.set P (some (.abs 3 (LX.dat ⟨ts, n⟩))), ?run2, ⟨(k1'.toP P).setO P1 _, Hp.get_set_same _ _ _, hT1.keep fun j hj => Hp.get_set_ne _ _ (by rintro rfl; exact hio hj), hi, by omega, htn, by simp, fun j hj => .inr hj⟩⟩
    case run2 =>
    conv => lhs; whnf
    refine bind_of (cellsAt_of q1 _ _) ?_
    conv => lhs; whnf
    rw [show (ok == 0) = false from beq_eq_false_iff_ne.2 k0]
    conv => lhs; whnf
    rw [show (ok == 1) = false from beq_eq_false_iff_ne.2 k1]
    conv => lhs; whnf
    rw [show (ok == 2) = true from beq_iff_eq.2 k2]
    conv => lhs; whnf
    refine bind_of (cellsAt_of q1 _ _) ?_
    conv => lhs; whnf
    refine bind_of (cellsAt_of q1 _ _) ?_
    conv => lhs; whnf
    refine bind_of hfd ?_
    conv => lhs; whnf
    refine bind_of (cellsAt_of q1 _ _) ?_
    conv => lhs; whnf
    refine bind_of (cellsAt_of q1 _ _) ?_
    conv => lhs; whnf
    refine bind_of hwd ?_
    conv => lhs; whnf
    try rfl

theorem step_fg {call : CallT} {NN : Nat} (h : LaneFns2 call) (hr : RefOK call NN) (lf : Nat) {A : Hp} (hw : A.wf) {P : Nat} {ts : List Tk} {n : Nat} (hP : A.get P = some (.abs 3 (LX.dat ⟨ts, n⟩))) (hi : LInv ts) (hN : ts.length ≤ NN) (hn : n ≤ 10000000) (htn : ts.length ≤ n) {V : Value} {io : Option Nat} (hT : TsAt A V io ts) (hio : io ≠ some P)
    {ok otk ots otv : Int} (k3 : ok = 3) :
    ∃ V' io' ts' n' A', kfn Tryd.bk.E call (Tryd.bk.inf 40) lf Tryd.f40 [ptr P, V, .agg #[.int .i64 ok, .int .i64 otk, .int .u32 ots, .int .u32 otv]] A = some (.tuple #[V', .bool true], A') ∧ SP false P A n io V' io' ts' n' A' := by
  let C : List Value := [.int .i64 ok, .int .i64 otk, .int .u32 ots, .int .u32 otv]
  let A1 : Hp := A.push (.arr 39 C .own)
  have k1' : Kp A A1 := Kp.push hw _
  have q1 : A1.get A.next = some (.arr 39 C .own) := Hp.get_push_same _ _
  have hPl := hw.lt hP
  have n1 : A1.next = A.next + 1 := by simp [A1]
  have P1 : A1.get P = some (.abs 3 (LX.dat ⟨ts, n⟩)) := by rw [k1'.old P hPl]; exact hP
  have hT1 : TsAt A1 V io ts := hT.keep fun j hj => k1'.old j (by subst hj; exact hT.lt hw)
  have k0 : ¬ ok = 0 := by omega
  have k1 : ¬ ok = 1 := by omega
  have k2 : ¬ ok = 2 := by omega
  obtain ⟨V2, io2, A2, r1, r2, r3, r4⟩ := hr.forget k1'.wf hT1 ots hN
  have q2 : A2.get A.next = some (.arr 39 C .own) := by rw [r3.old _ (by omega)]; exact q1
  have P2 : A2.get P = some (.abs 3 (LX.dat ⟨ts, n⟩)) := by rw [r3.old _ (by omega)]; exact P1
  have hfg := h.fg (FgR.mk A2 P ⟨ts, n⟩ P2 (show n ≤ _ by omega) ots)
  simp only at hfg
  have hle : (keepF ots ts).length ≤ ts.length := List.filter_sublist.length_le
  generalize ts.countP (isS ots) = cn at r1 hfg
  refine ⟨V2, io2, keepF ots ts, n, A2.set P (some (.abs 3 (LX.dat ⟨keepF ots ts, n⟩))), ?run, ⟨((k1'.trans r3).toP P).setO P2 _, Hp.get_set_same _ _ _, r2.keep fun j hj => Hp.get_set_ne _ _ (by have := r4 j hj; omega), hi.sub List.filter_sublist, by omega, by omega, by simp, fun j hj => .inl (by have := r4 j hj; omega)⟩⟩
  case run =>
    conv => lhs; whnf
    refine bind_of (cellsAt_of q1 _ _) ?_
    conv => lhs; whnf
    rw [show (ok == 0) = false from beq_eq_false_iff_ne.2 k0]
    conv => lhs; whnf
    rw [show (ok == 1) = false from beq_eq_false_iff_ne.2 k1]
    conv => lhs; whnf
    rw [show (ok == 2) = false from beq_eq_false_iff_ne.2 k2]
    conv => lhs; whnf
    rw [show (ok == 3) = true from beq_iff_eq.2 k3]
    conv => lhs; whnf
    refine bind_of (cellsAt_of q1 _ _) ?_
    conv => lhs; whnf
    refine bind_of r1 ?_
    conv => lhs; whnf
    refine bind_of (cellsAt_of q2 _ _) ?_
    conv => lhs; whnf
    refine bind_of hfg ?_
    conv => lhs; whnf
    rw [show (((cn : Nat) : Int) == ((cn : Nat) : Int)) = true from beq_self_eq_true _]
    conv => lhs; whnf
    try rfl

theorem step_cl {call : CallT} (h : LaneFns2 call) (lf : Nat) {A : Hp} (hw : A.wf) {P : Nat} {ts : List Tk} {n : Nat} (hP : A.get P = some (.abs 3 (LX.dat ⟨ts, n⟩))) {V : Value} {io : Option Nat} (hT : TsAt A V io ts)
    {ok otk ots otv : Int} (k4 : ok = 4) :
    ∃ V' io' ts' n' A', kfn Tryd.bk.E call (Tryd.bk.inf 40) lf Tryd.f40 [ptr P, V, .agg #[.int .i64 ok, .int .i64 otk, .int .u32 ots, .int .u32 otv]] A = some (.tuple #[V', .bool true], A') ∧ SP false P A n io V' io' ts' n' A' := by
  let C : List Value := [.int .i64 ok, .int .i64 otk, .int .u32 ots, .int .u32 otv]
  let A1 : Hp := A.push (.arr 39 C .own)
  have k1' : Kp A A1 := Kp.push hw _
  have q1 : A1.get A.next = some (.arr 39 C .own) := Hp.get_push_same _ _
  have hPl := hw.lt hP
  have P1 : A1.get P = some (.abs 3 (LX.dat ⟨ts, n⟩)) := by rw [k1'.old P hPl]; exact hP
  have k0 : ¬ ok = 0 := by omega
  have k1 : ¬ ok = 1 := by omega
  have k2 : ¬ ok = 2 := by omega
  have k3 : ¬ ok = 3 := by omega
  have hcl := h.cl (ClR.mk A1 P ⟨ts, n⟩ P1)
  simp only at hcl
  obtain ⟨a, c, rfl, _⟩ := hT.form
  refine ⟨.slice none 0 0, none, [], n, A1.set P (some (.abs 3 (LX.dat ⟨[], n⟩))), ?run, ⟨(k1'.toP P).setO P1 _, Hp.get_set_same _ _ _, CanAt.ts .nil, .nil, by omega, by simp, by simp, by simp⟩⟩
  case run =>
    conv => lhs; whnf
    refine bind_of (cellsAt_of q1 _ _) ?_
    conv => lhs; whnf
    rw [show (ok == 0) = false from beq_eq_false_iff_ne.2 k0]
    conv => lhs; whnf
    rw [show (ok == 1) = false from beq_eq_false_iff_ne.2 k1]
    conv => lhs; whnf
    rw [show (ok == 2) = false from beq_eq_false_iff_ne.2 k2]
    conv => lhs; whnf
    rw [show (ok == 3) = false from beq_eq_false_iff_ne.2 k3]
    conv => lhs; whnf
    rw [show (ok == 4) = true from beq_iff_eq.2 k4]
    conv => lhs; whnf
    refine bind_of hcl ?_
    conv => lhs; whnf
    rw [show (((ts.length : Nat) : Int) == ((ts.length : Nat) : Int)) = true from beq_self_eq_true _]
    conv => lhs; whnf
    try rfl
end Go.Dn.Ln
end

section
/-
  LaneAnswers: a step, Next
-/
namespace Go.Dn.Ln
open Go.Proofs
set_option maxHeartbeats 4000000
set_option maxRecDepth 100000
attribute [local irreducible] Hp.get Hp.set Hp.push dappend dcopy dstore cellsAt callD loopD guardL hideL backL

theorem step_next {call : CallT} {NN : Nat} (h : LaneFns2 call) (hr : RefOK call NN) (lf : Nat) {A : Hp} (hw : A.wf) {P : Nat} {ts : List Tk} {n : Nat} (hP : A.get P = some (.abs 3 (LX.dat ⟨ts, n⟩))) (hi : LInv ts) (hN : ts.length ≤ NN) (hn : n ≤ 10000000) (htn : ts.length ≤ n) {V : Value} {io : Option Nat} (hT : TsAt A V io ts) (hio : io ≠ some P)
    {ok otk ots otv : Int} (k1 : ok = 1) :
    ∃ V' io' ts' n' A', kfn Tryd.bk.E call (Tryd.bk.inf 40) lf Tryd.f40 [ptr P, V, .agg #[.int .i64 ok, .int .i64 otk, .int .u32 ots, .int .u32 otv]] A = some (.tuple #[V', .bool true], A') ∧ SP false P A n io V' io' ts' n' A' := by
  let C : List Value := [.int .i64 ok, .int .i64 otk, .int .u32 ots, .int .u32 otv]
  let A1 : Hp := A.push (.arr 39 C .own)
  have k1' : Kp A A1 := Kp.push hw _
  have q1 : A1.get A.next = some (.arr 39 C .own) := Hp.get_push_same _ _
  have hPl := hw.lt hP
  have n1 : A1.next = A.next + 1 := by simp [A1]
  have P1 : A1.get P = some (.abs 3 (LX.dat ⟨ts, n⟩)) := by rw [k1'.old P hPl]; exact hP
  have hT1 : TsAt A1 V io ts := hT.keep fun j hj => k1'.old j (by subst hj; exact hT.lt hw)
  have k0 : ¬ ok = 0 := by omega
  have hnext := h.next (NextR.mk A1 P ⟨ts, n⟩ P1 (show n ≤ _ by omega))
  simp only at hnext
  let A2 : Hp := A1.set P (some (.abs 3 (LX.dat ⟨ts.tail, n⟩)))
  have n2 : A2.next = A1.next := Hp.next_set _ _ _
  have kA2 : KP P A A2 := (k1'.toP P).setO P1 _
  have P2 : A2.get P = some (.abs 3 (LX.dat ⟨ts.tail, n⟩)) := Hp.get_set_same _ _ _
  have hT2 : TsAt A2 V io ts := hT1.keep fun j hj => Hp.get_set_ne _ _ (by rintro rfl; exact hio hj)
  let Z : List Value := [.int .i64 0, .int .u32 0, .int .u32 0]
  obtain ⟨a, c, rfl, hform⟩ := hT2.form
  cases ts with
  | nil =>
    let A3 : Hp := (A2.push (.arr 29 Z .own)).set A2.next (some (.arr 29 Z .own))
    have k3 : Kp A2 A3 := (Kp.push kA2.wf _).set (Hp.get_push_same _ _) (Nat.le_refl _) _
    have q3 : A3.get A2.next = some (.arr 29 Z .own) := Hp.get_set_same _ _ _
    have hdq : deqF Tryd.bk.E 20 29 (.agg #[.int .i64 ((0 : Nat) : Int), .int .u32 0, .int .u32 0]) (.agg #[.int .i64 ((0 : Nat) : Int), .int .u32 0, .int .u32 0]) = some true := by rw [deq_tick]; rfl
    refine ⟨.slice a ([] : List Tk).length c, io, [], n, A3, ?run, ⟨kA2.trans (k3.toP P), by rw [k3.old P (by omega)]; exact P2, hT2.keep fun j hj => k3.old j (by subst hj; exact hT2.lt kA2.wf), .nil, by omega, by simp, by simp, fun j hj => .inr hj⟩⟩
    case run =>
    conv => lhs; whnf
    refine bind_of (cellsAt_of q1 _ _) ?_
    conv => lhs; whnf
    rw [show (ok == 0) = false from beq_eq_false_iff_ne.2 k0]
    conv => lhs; whnf
    rw [show (ok == 1) = true from beq_iff_eq.2 k1]
    conv => lhs; whnf
    refine bind_of hnext ?_
    conv => lhs; whnf
    refine bind_of (dstore_of (Hp.get_push_same _ _) (t := 29) (o := 0) (cs' := Z) rfl) ?_
    conv => lhs; whnf
    refine bind_of (cellsAt_of q3 _ _) ?_
    conv => lhs; whnf
    try rfl
  | cons t r =>
    obtain ⟨tk, tss, tv⟩ := t
    let D : List Value := [.int .i64 (tk : Nat), .int .u32 tss, .int .u32 tv]
    let A3 : Hp := (A2.push (.arr 29 Z .own)).set A2.next (some (.arr 29 D .own))
    have k3 : Kp A2 A3 := (Kp.push kA2.wf _).set (Hp.get_push_same _ _) (Nat.le_refl _) _
    have q3 : A3.get A2.next = some (.arr 29 D .own) := Hp.get_set_same _ _ _
    have hT3 : TsAt A3 (.slice a ((tk, tss, tv) :: r).length c) io ((tk, tss, tv) :: r) := hT2.keep fun j hj => k3.old j (by subst hj; exact hT2.lt kA2.wf)
    obtain ⟨V4, io4, A4, r1, r2, r3, r4⟩ := hr.without k3.wf hT3 0 (by simp) hN
    obtain ⟨it, rfl, rfl, hgt⟩ := hform (by simp)
    have hitl := kA2.wf.lt hgt
    have n3 : A3.next = A2.next + 1 := by simp [A3]
    have q4 : A4.get A2.next = some (.arr 29 D .own) := by rw [r3.old _ (by omega)]; exact q3
    have hg4 : A4.get it = some (.arr 29 ((((tk, tss, tv) :: r)).map tkc).flatten .own) := by rw [r3.old _ (by omega), k3.old _ hitl]; exact hgt
    have hrow : cellsIn ((((tk, tss, tv) :: r)).map tkc).flatten (0 + 0 * 3) 3 = some D := tick_row (T := (tk, tss, tv) :: r) (i := 0) rfl
    have hdq : deqF Tryd.bk.E 20 29 (.agg #[.int .i64 (tk : Nat), .int .u32 tss, .int .u32 tv]) (.agg #[.int .i64 (tk : Nat), .int .u32 tss, .int .u32 tv]) = some true := by rw [deq_tick, kdec rfl]
    have e1 : (0 : Int) < (((((tk, tss, tv) :: r)).length : Nat) : Int) := by simp only [List.length_cons]; omega
    refine ⟨V4, io4, r, n, A4, ?run2, ⟨kA2.trans ((k3.trans r3).toP P), by rw [r3.old P (by omega), k3.old P (by omega)]; exact P2, r2, hi.sub (List.sublist_cons_self _ _), by omega, by simp only [List.length_cons] at htn; omega, by simp, fun j hj => .inl (by have := r4 j hj; omega)⟩⟩
    case run2 =>
      conv => lhs; whnf
      refine bind_of (cellsAt_of q1 _ _) ?_
      conv => lhs; whnf
      rw [show (ok == 0) = false from beq_eq_false_iff_ne.2 k0]
      conv => lhs; whnf
      rw [show (ok == 1) = true from beq_iff_eq.2 k1]
      conv => lhs; whnf
      refine bind_of hnext ?_
      conv => lhs; whnf
      refine bind_of (dstore_of (Hp.get_push_same _ _) (t := 29) (o := 0) (cs' := D) rfl) ?_
      conv => lhs; whnf
      refine bind_of r1 ?_
      conv => lhs; whnf
      refine bind_of (cellsAt_of q4 _ _) ?_
      conv => lhs; whnf
      rw [kdec e1]
      conv => lhs; whnf
      refine bind_of ((cellsAt_of hg4 _ _).trans hrow) ?_
      conv => lhs; whnf
      refine bind_of (a := Value.bool true) ?hv ?hrest
      case hv =>
        conv => lhs; whnf
        rw [show deqF Tryd.bk.E 20 29 (.agg (List.take Tryd.ti29.size (List.drop 0 D)).toArray) (.agg D.toArray) = some true from hdq]
      case hrest =>
        conv => lhs; whnf
        try rfl
end Go.Dn.Ln
end
