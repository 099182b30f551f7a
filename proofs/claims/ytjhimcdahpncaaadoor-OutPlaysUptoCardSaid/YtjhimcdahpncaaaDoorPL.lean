/-
  Part of the abstract machine for this program.
-/
import Derived.Test.YtjhimcdahpncaaaDoorPK
import Derived.Test.YtjhimcdahpncaaaDoorPC
import Derived.Test.YtjhimcdahpncaaaDoorDnJ
import Derived.Test.YtjhimcdahpncaaaDoorCards
import Derived.Test.YtjhimcdahpncaaaDoorTie
import Derived.WalkKit
import Derived.ProofKit
import Derived.OpenShut
import Derived.LaidLaws
import Derived.Deep.DeepHandedRow
import Derived.Test.YtjhimcdahpncaaaDoorPH
import Derived.Test.YtjhimcdahpncaaaDoorPG

section
namespace Go.Dn.Pipe
open Go.Proofs
set_option maxHeartbeats 4000000
set_option maxRecDepth 100000
attribute [local irreducible] Hp.get Hp.set Hp.push dappend dcopy dstore cellsAt callD loopD guardL hideL backL dstring kslice

theorem op_walk {call : CallT} (h : OutFns call) {A : Hp} (hw : A.wf) {frs : List FrX} (hfrs : ∀ o ∈ frs, o.ok A) {a0 : Option Addr} {c0 : Nat} (hv : ArgSl 86 6 A (.slice a0 frs.length c0) (frs.map FrX.cells).flatten frs.length)
    (h5 : A.get 5 = some (er 5)) (hm : frs.length ≤ 1048576) (hb : sumF frs ≤ 100000000)
    {a1 : Option Addr} {n1 c1 : Nat} {ks : List Value} (hv1 : ArgSl 3 1 A (.slice a1 n1 c1) ks n1) (hks : ∀ (j : Nat) x, ks[j]? = some x → ∃ k, x = .int .i64 k ∧ k ≤ 9223372036854775807) (hn1 : n1 ≤ 1048576) (lf : Nat) (hlf : 1048576 < lf) :
    ∃ A', kfn Tryd.bk.E call (Tryd.bk.inf 11) lf Tryd.f11 [.slice a0 frs.length c0, .slice a1 n1 c1] A = some (.bool true, A') := by
  have hnew := h.new (NewOR.mk A)
  let A0 : Hp := A.push (.abs 2 OX.new.dat)
  have hw1 : A0.wf := hw.push _
  have hn0 : A0.next = A.next + 1 := by simp [A0]
  have hP0 : A0.get A.next = some (.abs 2 OX.new.dat) := Hp.get_push_same _ _
  have hk : ∀ i o, A.get i = some o → A0.get i = some o := fun i o hi => by rw [Hp.get_push_ne _ _ (by have := hw.lt hi; omega)]; exact hi
  have old : ∀ j, j < A.next → A0.get j = A.get j := fun j hj => Hp.get_push_ne _ _ (by omega)
  obtain ⟨A1, fs, n, V6, V7, L1, l1, hI, hn, hfl⟩ := op_loop1 h (P := A.next) (by omega) hw1 (fun o ho => ⟨(hfrs o ho).bs.old hw old, (hfrs o ho).bytes⟩) (hv.keep hk) hP0 (hk _ _ h5) hm hb lf (by omega) (.slice a1 n1 c1)
  obtain ⟨io6, o6, p6⟩ := hI.o6
  obtain ⟨io7, o7, p7⟩ := hI.o7
  have hnx := hI.kp.nx
  have hv1' : ArgSl 3 1 A1 (.slice a1 n1 c1) ks n1 := by
    generalize Value.slice a1 n1 c1 = v at hv1
    cases hv1 with
    | nil cc hc => exact .nil cc hc
    | «at» id _ _ hg hl =>
      have hidl := hw.lt hg
      exact .at id _ _ (by rw [hI.kp.old id (by omega) (by omega), old id hidl]; exact hg) hl
  have hJ : OJ A1 A.next fs n 0 A1 := ⟨KP.refl hI.kp.wf, by rw [dropF_zero hI.ne]; exact hI.obj, Nat.zero_le _⟩
  have h6P : io6 ≠ some A.next := fun e => by have := p6 _ e; omega
  have h7P : io7 ≠ some A.next := fun e => by have := p7 _ e; omega
  have hPl1 : A.next < A1.next := by omega
  obtain ⟨A2, a, L2, l2, hJ2⟩ := op_loop2 h hPl1 hI.kp.wf hn hI.few hI.bytes o6 h6P o7 h7P hfl hv1' hks hn1 hI.obj hJ lf (by omega) (by omega)
  have hfew := hI.few
  obtain ⟨av, cv, A3, t1, t2, t3⟩ := oj_take h hPl1 hn hI.bytes hJ2 (k := (fs.flatten.length : Nat)) (by omega)
  have hle := hJ2.le
  have hout : (fs.flatten.drop a).take ((fs.flatten.length : Nat) : Int).toNat = fs.flatten.drop a := List.take_of_length_le (by simp)
  rw [hout] at t1 t2 t3
  have hal : a + (fs.flatten.drop a).length = fs.flatten.length := by rw [List.length_drop]; omega
  rw [hal] at t3
  obtain ⟨w, hds, hbw⟩ := part_end (can_keep o6 hI.kp.wf t3.kp h6P) hle
  obtain ⟨ns, hns⟩ := bytesOf_some (us := fs.flatten.drop a) fun i x hx => by
    rw [List.getElem?_drop] at hx; exact hI.bytes _ _ hx
  have hd1 := dstring_bs stO t2 hns
  have hd2 := dstring_bs stO hbw hns
  have hobj := t3.obj
  rw [dropF_all _ fs (Nat.le_refl _)] at hobj
  have h45 : ∀ B : Hp, B.get A.next = some (.abs 2 (OX.dat ⟨[], n⟩)) → call 45 [ptr A.next] B = some (.int .i64 0, B.set A.next (some (.abs 2 (OX.dat ⟨[], n⟩)))) := fun B hB => h.len (LenOR.mk B A.next ⟨[], n⟩ hB (by simp only; omega))
  have h46 : ∀ B : Hp, B.get A.next = some (.abs 2 (OX.dat ⟨[], n⟩)) → call 46 [ptr A.next] B = some (.int .i64 0, B.set A.next (some (.abs 2 (OX.dat ⟨[], n⟩)))) := fun B hB => h.frames (FramesOR.mk B A.next ⟨[], n⟩ hB)
  have h47 : ∀ B : Hp, B.get A.next = some (.abs 2 (OX.dat ⟨[], n⟩)) → call 47 [ptr A.next] B = some (.int .i64 0, B.set A.next (some (.abs 2 (OX.dat ⟨[], n⟩)))) := fun B hB => h.clear (ClearOR.mk B A.next ⟨[], n⟩ hB (by simp only; omega))
  generalize (Ob.abs 2 (OX.dat ⟨[], n⟩)) = X at hobj h45 h46 h47
  obtain ⟨a6, c6, hV6⟩ := o6.slAt.bs.form
  subst hV6
  refine ⟨?A', ?run⟩
  case run =>
    conv => lhs; whnf
    refine bind_of (h.wakes _) ?_
    conv => lhs; whnf
    refine bind_of hnew ?_
    conv => lhs; whnf
    refine bind_of l1 ?_
    conv => lhs; whnf
    refine bind_of l2 ?_
    conv => lhs; whnf
    refine bind_of t1 ?_
    conv => lhs; whnf
    refine bind_of hd1 ?_
    refine bif_of (all_blk t2 fun i => rfl) ?_
    conv => lhs; whnf
    refine (hds _).trans ?_
    refine bind_of hd2 ?_
    refine bif_of (all_blk hbw fun i => rfl) ?_
    conv => lhs; whnf
    rw [beq_self_eq_true]
    conv => lhs; whnf
    generalize blkOf (Value.slice av (fs.flatten.drop a).length cv) = k1
    generalize blkOf w = k2
    cases k1 <;> cases k2 <;> (
      conv => lhs; whnf
      refine bind_of (h45 _ hobj) ?_
      conv => lhs; whnf
      refine bind_of (h46 _ (Hp.get_set_same _ _ _)) ?_
      conv => lhs; whnf
      refine bind_of (h47 _ (Hp.get_set_same _ _ _)) ?_
      conv => lhs; whnf
      rfl)
end Go.Dn.Pipe
end

section
namespace Go.Dn.Pipe
open Go.Proofs Go.ChangeShapes
set_option maxRecDepth 100000

/-! ## what the rows' lists give -/
theorem star : "*" ++ "errors.errorString" = "*errors.errorString" := by decide
theorem errT : ErrT Tryd.prog 28 168 192 :=
  ⟨⟨_, Tryd.underlying28⟩, fun u h => typeName_ptr_named (nm := "errors.errorString") (by rw [star]; kernel_rfl) (by kernel_rfl) (by decide) u (by rw [star]; exact h), Tryd.underlying168,
    ⟨_, _, Tryd.underlying192, rfl, rfl, Tryd.underlying9, by kernel_rfl, by kernel_rfl⟩⟩

/-- the rows of the globals, as the program begins -/
theorem rows : (List.range 43).map (fun g => (((begin Tryd.prog (fun _ _ => 0) default).world.heap[g]?).bind Obj.row?).map (fun x => x.2)) = (List.range 43).map (fun g => (Tryd.prog.globals[g]?).map (·.type)) := by kernel_rfl
theorem types : (List.range 43).all (fun g => ((Tryd.prog.globals[g]?).map (·.type)).isSome) = true := by kernel_rfl
theorem gsize : Tryd.prog.globals.size = 43 := Tryd.good.glob.symm

theorem hrow_of {W : World} (hS : W.ShapedOpen Tryd.prog) : ∀ g, g < 43 → ∃ c t, W.heap[g]? = some (.cells c t (0, 0)) ∧ (Tryd.prog.globals[g]?).map (·.type) = some t := by
  intro g hg
  have h1 := congrArg (fun l => l[g]?) rows
  simp only [List.getElem?_map, List.getElem?_range hg, Option.map_some, Option.some.injEq] at h1
  have h2 := List.all_eq_true.1 types g (List.mem_range.2 hg)
  cases ht : (Tryd.prog.globals[g]?).map (·.type) with
  | none => rw [ht] at h2; cases h2
  | some t =>
    rw [ht] at h1
    cases hb : ((begin Tryd.prog (fun _ _ => 0) default).world.heap[g]?).bind Obj.row? with
    | none => rw [hb] at h1; cases h1
    | some x =>
      obtain ⟨zero, t'⟩ := x
      rw [hb] at h1
      simp only [Option.map_some, Option.some.injEq] at h1
      subst h1
      obtain ⟨cs, k1, _⟩ := hS.1 g zero t' (by rw [gsize]; exact hg) hb
      exact ⟨cs, t', k1, rfl⟩

noncomputable def errOk (L : List (String × DataW Unit)) : Bool := L.all fun x => isErr x.2 && match Tryd.prog.globalNamed x.1 with
  | some g => decide ((Tryd.prog.globals[g]?).map (·.type) = some 28) && Nat.blt g 43
  | none => false
noncomputable def covers (L : List (String × DataW Unit)) (gs : List Nat) : Bool := gs.all fun g => L.any fun x => Tryd.prog.globalNamed x.1 == some g

/-- the beginning, for the laws that list sentinels alone -/
theorem begin_rep (rep : Nat → Dat → Hp → Nat → Prop) {W : World} (hS : W.ShapedOpen Tryd.prog) {L : List (String × DataW Unit)} (hL : laidMet Tryd.prog L W) (h1 : errOk L = true) {C : Hp} (hCn : C.next = 86)
    (hC : ∀ i o, C.get i = some o → (∃ x ∈ L, Tryd.prog.globalNamed x.1 = some i) ∧ o = er i) :
    ∃ R : Reps, R.C = C ∧ R.rep = rep ∧ Rel Tryd.prog R.ρC C W ∧ (∀ i p, i < C.next → R.ρC i = some p → p.blk < W.heap.size) ∧ ConW Tryd.prog W := by
  obtain ⟨ps, hl, hn, hp⟩ := hL
  have hchk : ∀ x ∈ L, isErr x.2 = true ∧ ∃ g, Tryd.prog.globalNamed x.1 = some g ∧ (Tryd.prog.globals[g]?).map (·.type) = some 28 ∧ g < 43 := by
    intro x hx
    have := List.all_eq_true.1 h1 x hx
    simp only [Bool.and_eq_true] at this
    obtain ⟨k1, k2⟩ := this
    cases hg : Tryd.prog.globalNamed x.1 with
    | none => rw [hg] at k2; cases k2
    | some g =>
      rw [hg] at k2
      simp only [Bool.and_eq_true, decide_eq_true_eq, Nat.blt_eq] at k2
      exact ⟨k1, g, rfl, k2.1, k2.2⟩
  obtain ⟨ads, e1, rfl, e3⟩ := laid_errs errT L ps (fun x hx => let ⟨a, g, b, c, _⟩ := hchk x hx; ⟨a, g, b, c⟩) hl (fun b off hb => (hp b off hb).2)
  have hE : ∀ x ∈ ads, ∃ y ∈ L, ErrVar Tryd.prog W 168 y.1 x.1 x.2 := by
    intro x hx
    obtain ⟨k, hk⟩ := List.getElem?_of_mem hx
    have hkl : k < L.length := by rw [← e1]; exact (List.getElem?_eq_some_iff.1 hk).1
    exact ⟨L[k], List.getElem_mem hkl, e3 k L[k] x (List.getElem?_eq_getElem hkl) hk⟩
  have key := consts_start (P := Tryd.prog) (W := W) (te := 28) (tp := 168) gsize ads hn (hrow_of hS) (fun x hx => by
    obtain ⟨y, hy, q1, q2, q3, _⟩ := hE x hx
    obtain ⟨_, g, r1, r2, r3⟩ := hchk y hy
    rw [q1] at r1; cases r1
    exact ⟨r3, r2, q2, q3, (hp _ _ (errPlaces_mem hx).2).1⟩) C hCn (fun i o hi => .inl (by
    obtain ⟨⟨y, hy, q1⟩, rfl⟩ := hC i o hi
    obtain ⟨k, hk⟩ := List.getElem?_of_mem hy
    have hkl : k < ads.length := by rw [e1]; exact (List.getElem?_eq_some_iff.1 hk).1
    have := e3 k y ads[k] hk (List.getElem?_eq_getElem hkl)
    have h0 := this.1
    rw [q1] at h0
    refine ⟨ads[k].2, ?_, rfl⟩
    have : ads[k] = (i, ads[k].2) := by rw [Option.some.inj h0]
    rw [← this]; exact List.getElem_mem hkl))
  obtain ⟨c1, c2, c3, c4, c5⟩ := key
  let R : Reps := { rep := rep, C := C, ρC := fun i => if i < 43 + 43 then placeC 43 C ads i else none, Cro := c1, Cpl := c2 }
  exact ⟨R, rfl, rfl, c3, c4, c5 (R := R) rfl rfl⟩

/-! ## a world for the witness -/
noncomputable def lowT : Nat := (World.holding Tryd.prog default ⟨#[], #[], []⟩).heap.size
def textOf : DataW Unit → ByteArray
  | .iface _ (.ptr (.agg [.lit (.string s)])) => ⟨s.toArray⟩
  | _ => .empty
noncomputable def setErr (h : Array Obj) (g k : Nat) : Array Obj := h.modify g fun
  | .cells _ t fr => .cells #[.iface 168 (.pointer (some ⟨lowT + k, 0, none⟩))] t fr
  | o => o
noncomputable def setErrs (L : List (String × DataW Unit)) (k : Nat) (h : Array Obj) : Array Obj := match L with
  | [] => h
  | x :: l => setErrs l (k + 1) (match Tryd.prog.globalNamed x.1 with
    | some g => setErr h g k
    | none => h)
noncomputable def laidWorld (L : List (String × DataW Unit)) (os : Os) : World :=
  { World.holding Tryd.prog os ⟨(L.map fun x => Obj.cells #[.string (textOf x.2)] 192).toArray, #[], []⟩ with
    heap := setErrs L 0 (World.holding Tryd.prog os ⟨(L.map fun x => Obj.cells #[.string (textOf x.2)] 192).toArray, #[], []⟩).heap }

end Go.Dn.Pipe

namespace Go.Proofs.YtjhimcdahpncaaaDoor.bulks
theorem one_le {H : Type} (d : DataW H) : 1 ≤ Rows.uptoBulk d := by
  cases d with
  | lit l => cases l <;> simp [Rows.uptoBulk]
  | nil => simp [Rows.uptoBulk]
  | ptr d => simp [Rows.uptoBulk]
  | slice elems spare => simp [Rows.uptoBulk]
  | agg parts => simp [Rows.uptoBulk]
  | iface t d => simp [Rows.uptoBulk]
  | map entries => simp [Rows.uptoBulk]
  | held h => simp [Rows.uptoBulk]

/-- a part's bulk is at most the whole's -/
theorem part_le {H : Type} {d : DataW H} {l : List (DataW H)} (h : d ∈ l) : Rows.uptoBulk d ≤ Rows.uptoBulkAll l := by
  induction l with
  | nil => cases h
  | cons x r ih =>
    simp only [Rows.uptoBulkAll]
    cases List.mem_cons.1 h with
    | inl e => subst e; omega
    | inr e => have := ih e; omega

theorem append {H : Type} (l r : List (DataW H)) : Rows.uptoBulkAll (l ++ r) = Rows.uptoBulkAll l + Rows.uptoBulkAll r := by
  induction l with
  | nil => simp [Rows.uptoBulkAll]
  | cons x l ih => simp only [List.cons_append, Rows.uptoBulkAll, ih]; omega

/-- so many values at the most -/
theorem length_le {H : Type} (l : List (DataW H)) : l.length ≤ Rows.uptoBulkAll l := by
  induction l with
  | nil => simp [Rows.uptoBulkAll]
  | cons x r ih => have := one_le x; simp only [Rows.uptoBulkAll, List.length_cons]; omega

/-- a slice's places, and what they hold -/
theorem slice_le {H : Type} (elems spare : List (DataW H)) : elems.length + spare.length + 1 ≤ Rows.uptoBulk (.slice elems spare) := by
  have h1 := length_le elems
  have h2 := length_le spare
  simp only [Rows.uptoBulk]
  omega
theorem slice_elems {H : Type} (elems spare : List (DataW H)) : Rows.uptoBulkAll elems + 1 ≤ Rows.uptoBulk (.slice elems spare) := by
  simp only [Rows.uptoBulk]
  omega

/-- a string's letters -/
theorem string_eq {H : Type} (bytes : List UInt8) : Rows.uptoBulk (DataW.lit (H := H) (.string bytes)) = bytes.length + 1 := by
  simp [Rows.uptoBulk]

/-- THE BOUND, as the builder hands it over ('hk') -/
theorem bound {H : Type} {l : List (DataW H)} (hk : Rows.uptoSmall H l = true) : Rows.uptoBulkAll l ≤ 1048576 := of_decide_eq_true hk


end Go.Proofs.YtjhimcdahpncaaaDoor.bulks
end

section
/-
  scripts of a pipe's ops, read
-/
namespace Go.Dn.Pipe
open Go.Proofs Go.ChangeShapes
open Go.Proofs.YtjhimcdahpncaaaDoor
set_option maxRecDepth 100000

theorem ArgSl.bs {A : Hp} {v : Value} {us : List Value} {n : Nat} {e : TypeId} (h : ArgSl e 1 A v us n) : BsAt A v us := by
  cases h with
  | nil c hc => exact .nil c hc
  | «at» id _ _ hg hl => exact .at id 0 n (2 * n) e us us .sh hg (by omega) (by rw [List.drop_zero, List.take_of_length_le (by omega)]) (by omega)

theorem lit_le {n : Int} (h : (Lit.int .i64 n).wf = true) : n ≤ 9223372036854775807 := by
  simp only [Lit.wf, Bool.and_eq_true, decide_eq_true_eq] at h
  exact h.2

theorem op_of {H : Type} {A : Hp} {d : DataW H} {c : List Value} (h : ArgR Tryd.bk.E.T A 54 d c) : ∃ o : OpX, c = o.cells ∧ o.ok A ∧ o.us.length ≤ Rows.uptoBulk d := by
  obtain ⟨dd, css, rfl, rfl, l1, l2, l3⟩ := h.struct_inv (i := Go.Dn.Tryd.ti54) rfl rfl
  obtain ⟨c0, c1, c2, rfl⟩ : ∃ c0 c1 c2, css = [c0, c1, c2] := by
    match css, l2 with
    | [a, b, c], _ => exact ⟨a, b, c, rfl⟩
  obtain ⟨d0, d1, d2, rfl⟩ : ∃ d0 d1 d2, dd = [d0, d1, d2] := by
    match dd, l1 with
    | [a, b, c], _ => exact ⟨a, b, c, rfl⟩
  obtain ⟨k, _, rfl, _⟩ := (l3 0 _ d0 c0 rfl rfl rfl).int_inv (i := Go.Dn.Tryd.ti3) rfl rfl
  obtain ⟨n, _, rfl, hn⟩ := (l3 2 _ d2 c2 rfl rfl rfl).int_inv (i := Go.Dn.Tryd.ti3) rfl rfl
  obtain ⟨v, css, els, rfl, z1, z2, z3, z4, z5, _⟩ := (l3 1 _ d1 c1 rfl rfl rfl).sl (i := Go.Dn.Tryd.ti22) (j := Go.Dn.Tryd.ti5) rfl rfl rfl
  have hb := ArgSl.bs z1
  obtain ⟨a, c, rfl⟩ := hb.form
  have hlen : css.flatten.length = css.length := by
    have := flat_len css 1 z5
    omega
  refine ⟨⟨k, css.flatten, a, c, n⟩, rfl, ⟨hb, fun j x hx => ?_, lit_le hn⟩, ?_⟩
  · obtain ⟨m, e, _⟩ := ints_of (k := .u8) (i := Go.Dn.Tryd.ti5) rfl rfl z2 z4 z5 j x hx
    exact ⟨m, e⟩
  · show css.flatten.length ≤ _
    rw [hlen, ← z2]
    have : Rows.uptoBulk d1 ≤ Rows.uptoBulk (.agg [d0, d1, d2]) := by
      simp only [Rows.uptoBulk, Rows.uptoBulkAll]
      omega
    rcases z3 with ⟨_, rfl⟩ | ⟨sp, rfl⟩
    · simp
    · have := bulks.slice_le els sp
      omega

theorem ops_list {H : Type} {A : Hp} : ∀ (css : List (List Value)) (els : List (DataW H)), els.length = css.length → (∀ (k : Nat) d c, els[k]? = some d → css[k]? = some c → ArgR Tryd.bk.E.T A 54 d c) →
    ∃ ops : List OpX, css = ops.map OpX.cells ∧ (∀ o ∈ ops, o.ok A) ∧ sumL ops ≤ Rows.uptoBulkAll els
  | [], els, hl, _ => ⟨[], rfl, by simp, by simp [sumL]⟩
  | c :: css, [], hl, _ => by simp at hl
  | c :: css, d :: els, hl, h => by
    obtain ⟨o, o1, o2, o3⟩ := op_of (h 0 d c rfl rfl)
    obtain ⟨ops, p1, p2, p3⟩ := ops_list css els (by simpa using hl) fun k d c hd hc => h (k + 1) d c (by simpa using hd) (by simpa using hc)
    refine ⟨o :: ops, by rw [o1, p1]; rfl, fun x hx => ?_, ?_⟩
    · rcases List.mem_cons.1 hx with rfl | hx
      · exact o2
      · exact p2 x hx
    · show o.us.length + sumL ops ≤ _
      simp only [Rows.uptoBulkAll]
      omega

theorem T2_free : ∀ f args A, f ∈ [15, 28, 30, 57, 58, 25, 5] → T2 f args A = none := by
  intro f args A h
  simp only [List.mem_cons, List.not_mem_nil, or_false] at h
  rcases h with rfl | rfl | rfl | rfl | rfl | rfl | rfl <;> rfl

theorem CE_wf : CE.wf := by
  intro i hi
  cases hg : CE.get i with
  | none => rfl
  | some o =>
    have h1 := (CE_get hg).1
    have h2 : ∀ g ∈ errs, g < 86 := by decide
    have h3 : 86 ≤ i := hi
    have := h2 i h1
    omega

theorem plays_run {base : CallT} (hw : ∀ A, base 12 [] A = some (.bool true, A)) (h0 : ∀ A, base 27 [.nilIface] A = some (.int .i64 0, A)) (h27 : ∀ A, base 27 [cutIf] A = some (.int .i64 27, A))
    (hn : ∀ f args A, f ∈ [15, 28, 30, 57, 58, 25, 5] → base f args A = none) {A : Hp} (hA : A.wf) {ops : List OpX} (hops : ∀ o ∈ ops, o.ok A) {v : Value} (hv : ArgSl 54 3 A v (ops.map OpX.cells).flatten ops.length) (hm : ops.length ≤ 1048576) (hb : sumL ops ≤ 100000000) :
    ∃ n A', callD Tryd.bk (T4 base) n 5 [v] A = some (.bool true, A') := by
  have hn2 : ∀ f args A, f ∈ [15, 28, 30, 57, 58] → base f args A = none := fun f args A hf => hn f args A (by
    simp only [List.mem_cons, List.not_mem_nil, or_false] at hf
    rcases hf with rfl | rfl | rfl | rfl | rfl <;> simp)
  obtain ⟨a, c, rfl⟩ : ∃ a c, v = .slice a ops.length c := by
    generalize ops.length = m at hv
    generalize (ops.map OpX.cells).flatten = fl at hv
    cases hv with
    | nil c hc => exact ⟨none, c, rfl⟩
    | «at» id _ us hg hl => exact ⟨some _, _, rfl⟩
  let k := ops.length + sumL ops + 1
  have f1 := T4_fns hw h0 h27 hn2 k
  have f2 := T4_fns hw h0 h27 hn2 (k + 1)
  have h25 : ∀ args A r, kfn Tryd.bk.E (callD Tryd.bk (T4 base) (k + 2)) (Tryd.bk.inf 25) (k + 2) Tryd.f25 args A = some r → callD Tryd.bk (T4 base) (k + 3) 25 args A = some r := fun args A r h =>
    callD_of (hn 25 _ _ (by simp)) (fn := Tryd.f25) rfl h
  obtain ⟨A', r⟩ := plays_walk f2.toPipeFns (step_ok f1 (k + 2) h25) (len_ok f1 (k + 2) h25) hA hops hv hm hb (by omega) (k + 3) (by omega)
  exact ⟨k + 4, A', callD_of (hn 5 _ _ (by simp)) (fn := Tryd.f5) rfl r⟩
end Go.Dn.Pipe
end

section
/-
  the base of the buffer's laws
-/
set_option maxRecDepth 100000
namespace Go.Dn.Pipe
open Go.Proofs

def codeL (cs : List (Nat × Int)) : List Value → Hp → Option (Value × Hp)
  | [.nilIface], A => some (.int .i64 0, A)
  | [.iface 168 (.pointer (some ⟨k, 0, none⟩))], A => (cs.lookup k).map fun n => (.int .i64 n, A)
  | _, _ => none

theorem code_known [Reps] (hK : Reps.C = CE) {cs : List (Nat × Int)} (hcs : cs.all (fun x => Nat.blt x.1 86) = true)
    (hrun : (cs.map fun x => codeRun (.iface 168 (.pointer (some ⟨x.1, 0, none⟩)))) = cs.map fun x => some (.int .i64 x.2)) {base : CallT} (hB : CallOK Tryd.prog base) : CallOK Tryd.prog (withCall base 27 (codeL cs)) := by
  refine withCall_ok hB fn27 fun args A v A' h ρ w args' hr ha => ?_
  have hC := callD_ok Tryd.good (T0_ok hK) 60
  have hn : Reps.C.next = 86 := by rw [hK]; rfl
  unfold codeL at h
  split at h
  · cases h
    have h2 := code_nil
    unfold codeRun at h2
    cases hc : callD Tryd.bk T0 60 27 [.nilIface] CE with
    | none => rw [hc] at h2; cases h2
    | some r =>
      obtain ⟨v, B'⟩ := r
      rw [hc] at h2
      cases h2
      rw [← hK] at hc
      exact closed_ok hC hc (.cons (.plain rfl) .nil) rfl ρ A w args' hr ha
  · rename_i k
    cases hl : cs.lookup k with
    | none => rw [hl] at h; cases h
    | some n =>
      rw [hl] at h
      cases h
      have hm := lookup_mem _ _ _ hl
      obtain ⟨i, hi⟩ := List.getElem?_of_mem hm
      have h2 := congrArg (fun l => l[i]?) hrun
      simp only [List.getElem?_map, hi, Option.map_some, Option.some.injEq] at h2
      unfold codeRun at h2
      have hk : k < 86 := by
        have := List.all_eq_true.1 hcs _ hm
        simpa [Nat.blt_eq] using this
      cases hc : callD Tryd.bk T0 60 27 [.iface 168 (.pointer (some ⟨k, 0, none⟩))] CE with
      | none => rw [hc] at h2; cases h2
      | some r =>
        obtain ⟨v, B'⟩ := r
        rw [hc] at h2
        simp only [Option.map_some, Option.some.injEq] at h2
        subst h2
        rw [← hK] at hc
        exact closed_ok hC hc (.cons (.iface _ (.ptr 0 ⟨by omega, rfl⟩)) .nil) rfl ρ A w args' hr ha
  · cases h

theorem fn38 : ∃ x, Tryd.prog.funcs[38]? = some x ∧ x.body.isSome = true ∧ (x.name == "runtime.NumGoroutine") = false := ⟨Tryd.f38, by kernel_rfl, by kernel_rfl, by kernel_rfl⟩
theorem wakes38_run : (callD Tryd.bk T0 200 38 [] CE).map (·.1) = some (.bool true) := by kernel_rfl

/-- a closed true -/
theorem true_known [Reps] (hK : Reps.C = CE) {f n : Nat} (hf : ∃ x, Tryd.prog.funcs[f]? = some x ∧ x.body.isSome = true ∧ (x.name == "runtime.NumGoroutine") = false) (hrun : (callD Tryd.bk T0 n f [] CE).map (·.1) = some (.bool true)) {base : CallT} (hB : CallOK Tryd.prog base) : CallOK Tryd.prog (withCall base f wakesF) := by
  refine withCall_ok hB hf fun args A v A' h ρ w args' hr ha => ?_
  unfold wakesF at h
  split at h
  · cases h
    cases hc : callD Tryd.bk T0 n f [] CE with
    | none => rw [hc] at hrun; cases hrun
    | some r =>
      obtain ⟨v, B'⟩ := r
      rw [hc] at hrun
      cases hrun
      rw [← hK] at hc
      exact closed_ok (callD_ok Tryd.good (T0_ok hK) n) hc .nil rfl ρ A w args' hr ha
  · cases h

def codesO : List (Nat × Int) := [(48, 15)]
theorem codeO_run : (codesO.map fun x => codeRun (.iface 168 (.pointer (some ⟨x.1, 0, none⟩)))) = codesO.map fun x => some (.int .i64 x.2) := by kernel_rfl
def TO : CallT := withCall (withCall noCalls 27 (codeL codesO)) 38 wakesF
theorem TO_ok [Reps] (hK : Reps.C = CE) : CallOK Tryd.prog TO := true_known hK fn38 wakes38_run (code_known hK rfl codeO_run (noCalls_ok _))
end Go.Dn.Pipe
end

section
/-
  a list of frames, read; 'OutPieces' run over the base
-/
namespace Go.Dn.Pipe
open Go.Proofs Go.ChangeShapes
open Go.Proofs.YtjhimcdahpncaaaDoor
set_option maxRecDepth 100000

theorem bytes_bulk {H : Type} {d : DataW H} {els : List (DataW H)} (h : d = .nil ∧ els = [] ∨ ∃ sp, d = .slice els sp) : els.length ≤ Rows.uptoBulk d := by
  rcases h with ⟨_, rfl⟩ | ⟨sp, rfl⟩
  · simp
  · have := bulks.slice_le els sp
    omega

theorem frame_of {H : Type} {A : Hp} {d : DataW H} {c : List Value} (h : ArgR Tryd.bk.E.T A 86 d c) : ∃ o : FrX, c = o.cells ∧ o.ok A ∧ o.us.length ≤ Rows.uptoBulk d := by
  obtain ⟨dd, css, rfl, rfl, l1, l2, l3⟩ := h.struct_inv (i := Go.Dn.Tryd.ti86) rfl rfl
  obtain ⟨ch, cd, rfl⟩ : ∃ c0 c1, css = [c0, c1] := by
    match css, l2 with
    | [a, b], _ => exact ⟨a, b, rfl⟩
  obtain ⟨dh, d2, rfl⟩ : ∃ d0 d1, dd = [d0, d1] := by
    match dd, l1 with
    | [a, b], _ => exact ⟨a, b, rfl⟩
  obtain ⟨hd, hs, rfl, rfl, m1, m2, m3⟩ := (l3 0 _ dh ch rfl rfl rfl).struct_inv (i := Go.Dn.Tryd.ti84) rfl rfl
  obtain ⟨c0, c1, c2, c3, c4, rfl⟩ : ∃ c0 c1 c2 c3 c4, hs = [c0, c1, c2, c3, c4] := by
    match hs, m2 with
    | [a, b, c, d, e], _ => exact ⟨a, b, c, d, e, rfl⟩
  obtain ⟨e0, e1, e2, e3, e4, rfl⟩ : ∃ c0 c1 c2 c3 c4, hd = [c0, c1, c2, c3, c4] := by
    match hd, m1 with
    | [a, b, c, d, e], _ => exact ⟨a, b, c, d, e, rfl⟩
  obtain ⟨ver, _, rfl, _⟩ := (m3 0 _ e0 c0 rfl rfl rfl).int_inv (i := Go.Dn.Tryd.ti5) rfl rfl
  obtain ⟨typ, _, rfl, _⟩ := (m3 1 _ e1 c1 rfl rfl rfl).int_inv (i := Go.Dn.Tryd.ti5) rfl rfl
  obtain ⟨fl, _, rfl, _⟩ := (m3 2 _ e2 c2 rfl rfl rfl).int_inv (i := Go.Dn.Tryd.ti82) rfl rfl
  obtain ⟨st, _, rfl, _⟩ := (m3 3 _ e3 c3 rfl rfl rfl).int_inv (i := Go.Dn.Tryd.ti41) rfl rfl
  obtain ⟨ln, _, rfl, _⟩ := (m3 4 _ e4 c4 rfl rfl rfl).int_inv (i := Go.Dn.Tryd.ti41) rfl rfl
  obtain ⟨v, css, els, rfl, z1, z2, z3, z4, z5, _⟩ := (l3 1 _ d2 cd rfl rfl rfl).sl (i := Go.Dn.Tryd.ti22) (j := Go.Dn.Tryd.ti5) rfl rfl rfl
  have hb := ArgSl.bs z1
  obtain ⟨a, c, rfl⟩ := hb.form
  have hlen : css.flatten.length = css.length := by
    have := flat_len css 1 z5
    omega
  refine ⟨⟨ver, typ, fl, st, ln, css.flatten, a, c⟩, rfl, ⟨hb, fun j x hx => ?_⟩, ?_⟩
  · obtain ⟨m, e, _⟩ := ints_of (k := .u8) (i := Go.Dn.Tryd.ti5) rfl rfl z2 z4 z5 j x hx
    exact ⟨m, e⟩
  · show css.flatten.length ≤ _
    rw [hlen, ← z2]
    have h1 := bytes_bulk z3
    simp only [Rows.uptoBulk, Rows.uptoBulkAll]
    omega

theorem frames_list {H : Type} {A : Hp} : ∀ (css : List (List Value)) (els : List (DataW H)), els.length = css.length → (∀ (k : Nat) d c, els[k]? = some d → css[k]? = some c → ArgR Tryd.bk.E.T A 86 d c) →
    ∃ frs : List FrX, css = frs.map FrX.cells ∧ (∀ o ∈ frs, o.ok A) ∧ sumF frs ≤ Rows.uptoBulkAll els + 12 * els.length
  | [], els, hl, _ => ⟨[], rfl, by simp, by simp [sumF]⟩
  | c :: css, [], hl, _ => by simp at hl
  | c :: css, d :: els, hl, h => by
    obtain ⟨o, o1, o2, o3⟩ := frame_of (h 0 d c rfl rfl)
    obtain ⟨frs, p1, p2, p3⟩ := frames_list css els (by simpa using hl) fun k d c hd hc => h (k + 1) d c (by simpa using hd) (by simpa using hc)
    refine ⟨o :: frs, by rw [o1, p1]; rfl, fun x hx => ?_, ?_⟩
    · rcases List.mem_cons.1 hx with rfl | hx
      · exact o2
      · exact p2 x hx
    · show o.us.length + 12 + sumF frs ≤ _
      simp only [Rows.uptoBulkAll, List.length_cons]
      omega

theorem TO_free : ∀ f args A, f ∈ [41, 42, 66, 67, 74, 75, 11] → TO f args A = none := by
  intro f args A h
  simp only [List.mem_cons, List.not_mem_nil, or_false] at h
  rcases h with rfl | rfl | rfl | rfl | rfl | rfl | rfl <;> rfl

theorem op_run {A : Hp} (hA : A.wf) {frs : List FrX} (hfrs : ∀ o ∈ frs, o.ok A) {v0 v1 : Value} (hv : ArgSl 86 6 A v0 (frs.map FrX.cells).flatten frs.length)
    (h5 : A.get 5 = some (er 5)) (hm : frs.length ≤ 1048576) (hb : sumF frs ≤ 100000000)
    {n1 : Nat} {ks : List Value} (hv1 : ArgSl 3 1 A v1 ks n1) (hks : ∀ (j : Nat) x, ks[j]? = some x → ∃ k, x = .int .i64 k ∧ k ≤ 9223372036854775807) (hn1 : n1 ≤ 1048576) :
    ∃ n A', callD Tryd.bk (T5 TO) n 11 [v0, v1] A = some (.bool true, A') := by
  obtain ⟨a0, c0, rfl⟩ : ∃ a c, v0 = .slice a frs.length c := by
    generalize frs.length = m at hv
    generalize (frs.map FrX.cells).flatten = fl at hv
    cases hv with
    | nil c hc => exact ⟨none, c, rfl⟩
    | «at» id _ us hg hl => exact ⟨some _, _, rfl⟩
  obtain ⟨a1, c1, rfl⟩ : ∃ a c, v1 = .slice a n1 c := by
    cases hv1 with
    | nil c hc => exact ⟨none, c, rfl⟩
    | «at» id _ us hg hl => exact ⟨some _, _, rfl⟩
  have hn : ∀ f args A, f ∈ [41, 42, 66, 67, 74, 75] → TO f args A = none := fun f args A hf => TO_free f args A (by
    simp only [List.mem_cons, List.not_mem_nil, or_false] at hf
    rcases hf with rfl | rfl | rfl | rfl | rfl | rfl <;> simp)
  let K : Nat := 1048576
  have hf := T5_fns (base := TO) (fun A => rfl) (fun A => rfl) (fun A => rfl) hn K
  obtain ⟨A', r⟩ := op_walk hf hA hfrs hv h5 hm hb hv1 hks hn1 (K + 3) (by omega)
  exact ⟨K + 4, A', callD_of (TO_free 11 [.slice a0 frs.length c0, .slice a1 n1 c1] A (by simp)) (fn := Tryd.f11) rfl r⟩
end Go.Dn.Pipe
end

section
/-
  a script of a buffer's ops, read; 'OutPlays' run over the base
-/
namespace Go.Dn.Pipe
open Go.Proofs Go.ChangeShapes
open Go.Proofs.YtjhimcdahpncaaaDoor
set_option maxRecDepth 100000

theorem lit_u16 {n : Int} (h : (Lit.int .u16 n).wf = true) : 0 ≤ n ∧ n ≤ 65535 := by
  simp only [Lit.wf, Bool.and_eq_true, decide_eq_true_eq] at h
  exact ⟨h.1, h.2⟩
theorem lit_u32 {n : Int} (h : (Lit.int .u32 n).wf = true) : 0 ≤ n ∧ n ≤ 4294967295 := by
  simp only [Lit.wf, Bool.and_eq_true, decide_eq_true_eq] at h
  exact ⟨h.1, h.2⟩

theorem frame_ofB {H : Type} {A : Hp} {d : DataW H} {c : List Value} (h : ArgR Tryd.bk.E.T A 86 d c) : ∃ o : FrX, c = o.cells ∧ o.ok A ∧ o.us.length ≤ Rows.uptoBulk d ∧ (0 ≤ o.fl ∧ o.fl ≤ 4294967295 ∧ 0 ≤ o.st ∧ o.st ≤ 4294967295 ∧ 0 ≤ o.ln ∧ o.ln ≤ 4294967295) := by
  obtain ⟨dd, css, rfl, rfl, l1, l2, l3⟩ := h.struct_inv (i := Go.Dn.Tryd.ti86) rfl rfl
  obtain ⟨ch, cd, rfl⟩ : ∃ c0 c1, css = [c0, c1] := by
    match css, l2 with
    | [a, b], _ => exact ⟨a, b, rfl⟩
  obtain ⟨dh, d2, rfl⟩ : ∃ d0 d1, dd = [d0, d1] := by
    match dd, l1 with
    | [a, b], _ => exact ⟨a, b, rfl⟩
  obtain ⟨hd, hs, rfl, rfl, m1, m2, m3⟩ := (l3 0 _ dh ch rfl rfl rfl).struct_inv (i := Go.Dn.Tryd.ti84) rfl rfl
  obtain ⟨c0, c1, c2, c3, c4, rfl⟩ : ∃ c0 c1 c2 c3 c4, hs = [c0, c1, c2, c3, c4] := by
    match hs, m2 with
    | [a, b, c, d, e], _ => exact ⟨a, b, c, d, e, rfl⟩
  obtain ⟨e0, e1, e2, e3, e4, rfl⟩ : ∃ c0 c1 c2 c3 c4, hd = [c0, c1, c2, c3, c4] := by
    match hd, m1 with
    | [a, b, c, d, e], _ => exact ⟨a, b, c, d, e, rfl⟩
  obtain ⟨ver, _, rfl, _⟩ := (m3 0 _ e0 c0 rfl rfl rfl).int_inv (i := Go.Dn.Tryd.ti5) rfl rfl
  obtain ⟨typ, _, rfl, _⟩ := (m3 1 _ e1 c1 rfl rfl rfl).int_inv (i := Go.Dn.Tryd.ti5) rfl rfl
  obtain ⟨fl, _, rfl, bfl⟩ := (m3 2 _ e2 c2 rfl rfl rfl).int_inv (i := Go.Dn.Tryd.ti82) rfl rfl
  obtain ⟨st, _, rfl, bst⟩ := (m3 3 _ e3 c3 rfl rfl rfl).int_inv (i := Go.Dn.Tryd.ti41) rfl rfl
  obtain ⟨ln, _, rfl, bln⟩ := (m3 4 _ e4 c4 rfl rfl rfl).int_inv (i := Go.Dn.Tryd.ti41) rfl rfl
  obtain ⟨v, css, els, rfl, z1, z2, z3, z4, z5, _⟩ := (l3 1 _ d2 cd rfl rfl rfl).sl (i := Go.Dn.Tryd.ti22) (j := Go.Dn.Tryd.ti5) rfl rfl rfl
  have hb := ArgSl.bs z1
  obtain ⟨a, c, rfl⟩ := hb.form
  have hlen : css.flatten.length = css.length := by
    have := flat_len css 1 z5
    omega
  refine ⟨⟨ver, typ, fl, st, ln, css.flatten, a, c⟩, rfl, ⟨hb, fun j x hx => ?_⟩, ?_, ?_⟩
  · obtain ⟨m, e, _⟩ := ints_of (k := .u8) (i := Go.Dn.Tryd.ti5) rfl rfl z2 z4 z5 j x hx
    exact ⟨m, e⟩
  · show css.flatten.length ≤ _
    rw [hlen, ← z2]
    have h1 := bytes_bulk z3
    simp only [Rows.uptoBulk, Rows.uptoBulkAll]
    omega
  · have h1 := lit_u16 bfl
    have h2 := lit_u32 bst
    have h3 := lit_u32 bln
    exact ⟨h1.1, by show fl ≤ _; omega, h2.1, h2.2, h3.1, h3.2⟩

theorem op88_of {H : Type} {A : Hp} {d : DataW H} {c : List Value} (h : ArgR Tryd.bk.E.T A 88 d c) : ∃ o : OpO, c = o.cells ∧ o.ok A ∧ o.us.length ≤ Rows.uptoBulk d := by
  obtain ⟨dd, css, rfl, rfl, l1, l2, l3⟩ := h.struct_inv (i := Go.Dn.Tryd.ti88) rfl rfl
  obtain ⟨c0, c1, c2, rfl⟩ : ∃ c0 c1 c2, css = [c0, c1, c2] := by
    match css, l2 with
    | [a, b, c], _ => exact ⟨a, b, c, rfl⟩
  obtain ⟨d0, d1, d2, rfl⟩ : ∃ d0 d1 d2, dd = [d0, d1, d2] := by
    match dd, l1 with
    | [a, b, c], _ => exact ⟨a, b, c, rfl⟩
  obtain ⟨k, _, rfl, _⟩ := (l3 0 _ d0 c0 rfl rfl rfl).int_inv (i := Go.Dn.Tryd.ti3) rfl rfl
  obtain ⟨n, _, rfl, hn⟩ := (l3 2 _ d2 c2 rfl rfl rfl).int_inv (i := Go.Dn.Tryd.ti3) rfl rfl
  obtain ⟨f, rfl, f2, f3, g1, g2, g3, g4, g5, g6⟩ := frame_ofB (l3 1 _ d1 c1 rfl rfl rfl)
  obtain ⟨ver, typ, fl, st, ln, us, a, c⟩ := f
  refine ⟨⟨k, ver, typ, fl, st, ln, us, a, c, n⟩, rfl, ⟨f2.bs, f2.bytes, lit_le hn, g1, g2, g3, g4, g5, g6⟩, ?_⟩
  have : Rows.uptoBulk d1 ≤ Rows.uptoBulk (.agg [d0, d1, d2]) := by
    simp only [Rows.uptoBulk, Rows.uptoBulkAll]
    omega
  exact Nat.le_trans f3 this

theorem ops88_list {H : Type} {A : Hp} : ∀ (css : List (List Value)) (els : List (DataW H)), els.length = css.length → (∀ (k : Nat) d c, els[k]? = some d → css[k]? = some c → ArgR Tryd.bk.E.T A 88 d c) →
    ∃ ops : List OpO, css = ops.map OpO.cells ∧ (∀ o ∈ ops, o.ok A) ∧ sumO ops ≤ Rows.uptoBulkAll els + 12 * els.length
  | [], els, hl, _ => ⟨[], rfl, by simp, by simp [sumO]⟩
  | c :: css, [], hl, _ => by simp at hl
  | c :: css, d :: els, hl, h => by
    obtain ⟨o, o1, o2, o3⟩ := op88_of (h 0 d c rfl rfl)
    obtain ⟨ops, p1, p2, p3⟩ := ops88_list css els (by simpa using hl) fun k d c hd hc => h (k + 1) d c (by simpa using hd) (by simpa using hc)
    refine ⟨o :: ops, by rw [o1, p1]; rfl, fun x hx => ?_, ?_⟩
    · rcases List.mem_cons.1 hx with rfl | hx
      · exact o2
      · exact p2 x hx
    · show o.us.length + 12 + sumO ops ≤ _
      simp only [Rows.uptoBulkAll, List.length_cons]
      omega

theorem TO_free2 : ∀ f args A, f ∈ [41, 42, 66, 67, 74, 75, 63, 64, 65, 73, 76, 77, 78, 40, 10] → TO f args A = none := by
  intro f args A h
  simp only [List.mem_cons, List.not_mem_nil, or_false] at h
  rcases h with rfl | rfl | rfl | rfl | rfl | rfl | rfl | rfl | rfl | rfl | rfl | rfl | rfl | rfl | rfl <;> rfl

theorem oplays_run {A : Hp} (hA : A.wf) {ops : List OpO} (hops : ∀ o ∈ ops, o.ok A) {v : Value} (hv : ArgSl 88 8 A v (ops.map OpO.cells).flatten ops.length) (hm : ops.length ≤ 1048576) (hb : sumO ops ≤ 100000000) :
    ∃ n A', callD Tryd.bk (T5 TO) n 10 [v] A = some (.bool true, A') := by
  obtain ⟨a, c, rfl⟩ : ∃ a c, v = .slice a ops.length c := by
    generalize ops.length = m at hv
    generalize (ops.map OpO.cells).flatten = fl at hv
    cases hv with
    | nil c hc => exact ⟨none, c, rfl⟩
    | «at» id _ us hg hl => exact ⟨some _, _, rfl⟩
  have hn2 : ∀ f args A, f ∈ [41, 42, 66, 67, 74, 75, 63, 64, 65, 73, 76, 77, 78] → TO f args A = none := fun f args A hf => TO_free2 f args A (by
    simp only [List.mem_cons, List.not_mem_nil, or_false] at hf
    rcases hf with rfl | rfl | rfl | rfl | rfl | rfl | rfl | rfl | rfl | rfl | rfl | rfl | rfl <;> simp)
  let k := ops.length + sumO ops + 1
  have f1 := T5_step (base := TO) (fun A => rfl) (fun A => rfl) (fun A => rfl) hn2 k
  have f2 := T5_step (base := TO) (fun A => rfl) (fun A => rfl) (fun A => rfl) hn2 (k + 1)
  have h40 : ∀ args A r, kfn Tryd.bk.E (callD Tryd.bk (T5 TO) (k + 9)) (Tryd.bk.inf 40) (k + 9) Tryd.f40 args A = some r → callD Tryd.bk (T5 TO) (k + 10) 40 args A = some r := fun args A r h =>
    callD_of (TO_free2 40 args A (by simp)) (fn := Tryd.f40) rfl h
  obtain ⟨A', r⟩ := oplays_walk f2.toOutFns (ostep_ok f1 (k + 9) h40) (olen_ok f1 (k + 9) h40) hA hops hv hm hb (by omega) (k + 10) (by omega)
  exact ⟨k + 11, A', callD_of (TO_free2 10 [.slice a ops.length c] A (by simp)) (fn := Tryd.f10) rfl r⟩
end Go.Dn.Pipe
end
