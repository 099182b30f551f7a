/-
  Part of the abstract machine for this program.
-/
import Derived.Test.YtombnpednnngoaaDoorPD
import Derived.Test.YtombnpednnngoaaDoorDnI
import Derived.Test.YtombnpednnngoaaDoorDnJ

section
/-
  layer 11 (lane): Next, Len, New, Clear
-/
namespace Go.Dn.Ln
open Go.Proofs
set_option maxHeartbeats 4000000
set_option maxRecDepth 100000
attribute [local irreducible] Hp.get Hp.set Hp.push dappend dcopy dstore cellsAt callD loopD dlookup dmapUpdate ddelete

theorem loopD_go {ks : Option (List Nat)} {f : Sl → Hp → Option (Ex × Sl × Hp)} {n : Nat} {σ σ1 σ2 : Sl} {A A1 : Hp} {r : Option (Ex × Sl × Hp)} (h : f σ A = some (.normal, σ1, A1)) (hk : keepSl ks σ1 = σ2) (h2 : loopD ks f n σ2 A1 = r) : loopD ks f (n + 1) σ A = r := by
  unfold loopD
  rw [h]
  simp only [Option.bind_some]
  rw [hk]
  exact h2

def tkC (e : En) : List Value := [.int .i64 (e.k : Nat), .int .u32 e.s, .int .u32 e.v]

section
variable {call call0 : CallT} {lf0 : Nat} (hd : ∀ args A r, kfn Tryd.bk.E call0 (Tryd.bk.inf 64) lf0 Tryd.f64 args A = some r → call 64 args A = some r)
include hd

/-- what Next's loop leaves -/
structure NL (A A1 : Hp) (p mi c2 : Nat) (io : Option Nat) (es : List En) (io' : Option Nat) (es' : List En) : Prop where
  wf : A1.wf
  nx : A.next ≤ A1.next
  old : ∀ j, j < A.next → j ≠ p → j ≠ mi → j ≠ c2 → (∀ e ∈ es, e.id ≠ j) → A1.get j = A.get j
  io : io' = io ∨ ∀ j, io' = some j → A.next ≤ j
  ids : ∀ x ∈ es', ∃ y ∈ es, y.id = x.id
  len : es'.length ≤ es.length

theorem next_loop (lf : Nat) {p mi c2 : Nat} : ∀ (es : List En) {A : Hp} {io : Option Nat} {lv : Value} {M : List (Nat × Int × Nat)} (fuel : Nat), A.wf → IsLane A p mi io lv es M → A.get c2 = some (.arr 29 [.int .i64 0, .int .u32 0, .int .u32 0] .own) → es.length < fuel → es.length ≤ 100000000 → es.length < lf0 →
    (live es = [] ∧ ∃ A1 lv', loopD (some [0, 2, 3]) (exec Tryd.bk.E call Tryd.f19.ntmps (Tryd.bk.inf 19) lf (loopOf Tryd.f19 0)) fuel [(0, ptr p), (2, ptr c2), (3, .bool false)] A = some (.exit 0, [(0, ptr p), (2, ptr c2), (3, .bool false)], A1) ∧
      IsLane A1 p mi io lv' [] M ∧ NL A A1 p mi c2 io es io [] ∧ A1.get c2 = A.get c2) ∨
    (∃ e L2, live es = e :: L2 ∧ ∃ A1 io' lv' es' M', loopD (some [0, 2, 3]) (exec Tryd.bk.E call Tryd.f19.ntmps (Tryd.bk.inf 19) lf (loopOf Tryd.f19 0)) fuel [(0, ptr p), (2, ptr c2), (3, .bool false)] A = some (.ret, [(0, ptr p), (2, ptr c2), (3, .bool true)], A1) ∧
      IsLane A1 p mi io' lv' es' M' ∧ NL A A1 p mi c2 io es io' es' ∧ live es' = L2 ∧ A1.get c2 = some (.arr 29 (tkC e) .own))
  | [], A, io, lv, M, 0, hw, h, hc, hf, _, _ => by omega
  | e :: es, A, io, lv, M, 0, hw, h, hc, hf, _, _ => by omega
  | [], A, io, lv, M, fuel + 1, hw, h, hc, hf, _, _ => by
    left
    obtain ⟨sa, sc, rfl⟩ := h.hl.sl3
    have hs : ∃ σ1, exec Tryd.bk.E call Tryd.f19.ntmps (Tryd.bk.inf 19) lf (loopOf Tryd.f19 0) [(0, ptr p), (2, ptr c2), (3, .bool false)] A = some (.exit 0, σ1, A) ∧ keepSl (some [0, 2, 3]) σ1 = [(0, ptr p), (2, ptr c2), (3, .bool false)] := by
      refine ⟨?sg, kexec_run ?run, ?kp⟩
      case run =>
        conv => lhs; whnf
        refine bind_of (cellsAt_of h.hp _ _) ?_
        conv => lhs; whnf
      case kp => rfl
    obtain ⟨σ1, r1, r2⟩ := hs
    have := loopD_end (ks := some [0, 2, 3]) (n := fuel) r1 (by simp)
    rw [r2] at this
    exact ⟨rfl, A, _, this, h, ⟨hw, Nat.le_refl _, fun _ _ _ _ _ _ => rfl, .inl rfl, by simp, Nat.le_refl _⟩, rfl⟩
  | e :: es, A, io, lv, M, fuel + 1, hw, h, hc, hf, hl8, hlf => by
    have hlen : (e :: es).length = es.length + 1 := rfl
    obtain ⟨pl1, pl2, pl3, pl4, pl5⟩ := h.pl hw
    have hcl := hw.lt hc
    have hcp : c2 ≠ p := by rintro rfl; rw [h.hp] at hc; cases hc
    have hcm : c2 ≠ mi := by rintro rfl; rw [h.hm] at hc; cases hc
    have hci : io ≠ some c2 := by
      rintro rfl
      obtain ⟨cs, hcs⟩ := h.hl.lt
      rw [hcs] at hc; cases hc
    have hce : ∀ x ∈ e :: es, x.id ≠ c2 := fun x hx => by
      rintro rfl
      have := h.he x hx
      rw [hc] at this; cases this
    have hsl := h.hl
    rw [List.map_cons, hlen] at hsl
    generalize hlv : lv = lv0 at hsl
    cases hsl with
    | «at» i o _ c cs _ hcc hg hl hu =>
    subst hlv
    have hcell : cellsIn cs (o + 0 * 1) 1 = some [ptr e.id] := cells_sl hl hu (j := 0) (by simp)
    let lv1 : Value := .slice (some ⟨i, o + 1, some 1⟩) es.length (2 * (c / 2 - 1) + c % 2)
    let f0 : Nat → Int := fun j => (cnt (e :: es) j : Nat)
    let n0 : Int := ((live (e :: es)).length : Nat)
    have hp0 : A.get p = some (.arr 109 (laneC (.slice (some ⟨i, o, some 1⟩) (es.length + 1) c) mi f0 n0) .own) := h.hp
    let A1 : Hp := A.set p (some (.arr 109 (laneC lv1 mi f0 n0) .own))
    have p1 : A1.get p = some (.arr 109 (laneC lv1 mi f0 n0) .own) := Hp.get_set_same _ _ _
    have w1 : A1.wf := hw.put hp0 _
    have n1 : A1.next = A.next := Hp.next_set _ _ _
    have o1 : ∀ j, j ≠ p → A1.get j = A.get j := fun j hj => Hp.get_set_ne _ _ hj
    have hip : i ≠ p := (pl4 i rfl).2.1
    have hsl1 : SlAt 112 1 A1 lv1 (some i) (es.map fun e => ptr e.id) es.length := by
      refine .at i (o + 1) es.length _ cs _ (by omega) (by rw [o1 i hip]; exact hg) (by omega) ?_
      have h2 : (cs.drop (o + 1)).take (es.length * 1) = ((cs.drop o).take ((es.length + 1) * 1)).drop 1 := by
        rw [List.drop_take, List.drop_drop]
        congr 1
      rw [h2, hu]
      rfl
    have c1 : A1.get c2 = some (.arr 29 [.int .i64 0, .int .u32 0, .int .u32 0] .own) := by rw [o1 c2 hcp]; exact hc
    have hge : A1.get e.id = some (.arr 117 e.cells .own) := by rw [o1 _ (pl5 e (by simp)).2.1]; exact h.he e (by simp)
    have hnd := h.nd
    have hnd2 : (es.map (·.id)).Nodup := (List.nodup_cons.1 (by simpa using hnd)).2
    have hne : ∀ x ∈ es, x.id ≠ e.id := fun x hx hid => (List.nodup_cons.1 (show (e.id :: es.map (·.id)).Nodup by simpa using hnd)).1 (List.mem_map.2 ⟨x, hx, hid⟩)
    have d0 : (0 : Int) < ((es.length + 1 : Nat) : Int) := by omega
    have dgt : ((es.length + 1 : Nat) : Int) > 0 := by omega
    have d1 : (1 : Int) ≤ ((es.length + 1 : Nat) : Int) := by omega
    obtain ⟨id, ek, esx, ev, eg⟩ := e
    cases eg with
    | true =>
      have hlv : live (⟨id, ek, esx, ev, true⟩ :: es) = live es := by unfold live; simp
      have hcn : ∀ j, cnt (⟨id, ek, esx, ev, true⟩ :: es) j = cnt es j := fun j => by unfold cnt; rw [hlv]
      have L1 : IsLane A1 p mi (some i) lv1 es M := by
        refine ⟨?_, hsl1, by rw [o1 mi pl3.symm]; exact h.hm, fun x hx => by rw [o1 _ (pl5 x (List.mem_cons_of_mem _ hx)).2.1]; exact h.he x (List.mem_cons_of_mem _ hx), hnd2, ?_, fun x hx => h.ok x (List.mem_cons_of_mem _ hx)⟩
        · rw [p1]
          show some (Ob.arr 109 (laneC lv1 mi (fun j => ((cnt (⟨id, ek, esx, ev, true⟩ :: es) j : Nat) : Int)) (((live (⟨id, ek, esx, ev, true⟩ :: es)).length : Nat) : Int)) .own) = _
          simp only [hcn, hlv]
        · refine ⟨fun x hx => ?_, fun x hx => h.mp.of x (List.mem_cons_of_mem _ hx), h.mp.nd⟩
          obtain ⟨y, hy, y1, y2, y3, y4, y5⟩ := h.mp.isin x hx
          rcases List.mem_cons.1 hy with rfl | hy
          · cases y4
          · exact ⟨y, hy, y1, y2, y3, y4, y5⟩
      have hs : ∃ σ1, exec Tryd.bk.E call Tryd.f19.ntmps (Tryd.bk.inf 19) lf (loopOf Tryd.f19 0) [(0, ptr p), (2, ptr c2), (3, .bool false)] A = some (.normal, σ1, A1) ∧ keepSl (some [0, 2, 3]) σ1 = [(0, ptr p), (2, ptr c2), (3, .bool false)] := by
        refine ⟨?sg1, kexec_run ?run1, ?kp1⟩
        case run1 =>
          conv => lhs; whnf
          refine bind_of (cellsAt_of hp0 _ _) ?_
          conv => lhs; whnf
          rw [kdec dgt]
          conv => lhs; whnf
          refine bind_of (cellsAt_of hp0 _ _) ?_
          conv => lhs; whnf
          rw [kdec d0]
          conv => lhs; whnf
          refine bind_of ((cellsAt_of hg _ _).trans hcell) ?_
          conv => lhs; whnf
          refine bind_of (cellsAt_of hp0 _ _) ?_
          conv => lhs; whnf
          rw [kdec d1]
          conv => lhs; whnf
          refine bind_of (dstore_of hp0 (t := 106) (o := 0) (cs' := laneC lv1 mi f0 n0) rfl) ?_
          conv => lhs; whnf
          refine bind_of (cellsAt_of hge _ _) ?_
          conv => lhs; whnf
        case kp1 => rfl
      obtain ⟨σ1, r1, r2⟩ := hs
      have io1 : ∀ j, (some i : Option Nat) = some j → j ≠ c2 := fun j hj e => hci (by rw [hj, e])
      rcases next_loop lf es fuel w1 L1 c1 (by omega) (by omega) (by omega) with ⟨q1, B, lv2, q2, q3, q4, q5⟩ | ⟨e2, L2, q1, B, io2, lv2, es2, M2, q2, q3, q4, q5, q6⟩
      · left
        refine ⟨by rw [hlv]; exact q1, B, lv2, loopD_go r1 r2 q2, q3, ⟨q4.wf, by rw [← n1]; exact q4.nx, fun j hj h1 h2 h3 h4 => ?_, .inl rfl, by simp, by simp⟩, by rw [q5, o1 c2 hcp]⟩
        rw [q4.old j (by omega) h1 h2 h3 (fun x hx => h4 x (List.mem_cons_of_mem _ hx)), o1 j h1]
      · right
        refine ⟨e2, L2, by rw [hlv]; exact q1, B, io2, lv2, es2, M2, loopD_go r1 r2 q2, q3, ⟨q4.wf, by rw [← n1]; exact q4.nx, fun j hj h1 h2 h3 h4 => ?_, by rw [← n1]; exact q4.io, fun x hx => ?_, by have := q4.len; omega⟩, q5, q6⟩
        · rw [q4.old j (by omega) h1 h2 h3 (fun x hx => h4 x (List.mem_cons_of_mem _ hx)), o1 j h1]
        · obtain ⟨y, hy, hid⟩ := q4.ids x hx
          exact ⟨y, List.mem_cons_of_mem _ hy, hid⟩
    | false =>
      right
      have hlv : live (⟨id, ek, esx, ev, false⟩ :: es) = ⟨id, ek, esx, ev, false⟩ :: live es := by unfold live; simp
      have hdie : die id es = es := by
        unfold die
        conv => rhs; rw [← List.map_id es]
        refine List.map_congr_left fun x hx => ?_
        rw [if_neg (hne x hx)]; rfl
      obtain ⟨A2, io2, lv2, es2, r, a1, a2, a3, a4, a5, a6, a7, a8, a9, a10⟩ := drop_step (call := call0) lf0 w1 (al := ⟨id, ek, esx, ev, false⟩ :: es) (es := es) p1 hsl1 (by rw [o1 mi pl3.symm]; exact h.hm)
        (fun x hx => by rw [o1 _ (pl5 x hx).2.1]; exact h.he x hx) h.nd h.mp h.ok (e := ⟨id, ek, esx, ev, false⟩) (by simp) rfl (L1 := []) (L2 := live es) (by rw [hlv]; rfl) (fun x hx => List.mem_cons_of_mem _ hx) (by rw [hdie]; rfl) hnd2 (by omega) (by omega) (by omega)
      simp only at a1 a4 a10
      have hda := hd _ _ _ a1
      have c2' : A2.get c2 = some (.arr 29 [.int .i64 0, .int .u32 0, .int .u32 0] .own) := by rw [a4 c2 (by omega) hcp hcm (hce ⟨id, ek, esx, ev, false⟩ (by simp)).symm]; exact c1
      let T : List Value := [.int .i64 (ek : Nat), .int .u32 esx, .int .u32 ev]
      let A3 : Hp := A2.set c2 (some (.arr 29 T .own))
      have L3 : IsLane A3 p mi io2 lv2 es2 (M' M ek esx) := a5.keep fun j ob hj hcs => by
        refine Hp.get_set_ne _ _ ?_
        rintro rfl
        obtain ⟨b1, b2, b3, b4, b5⟩ := a5.pl a2
        rcases hcs with e1 | e1 | e1 | ⟨x, hx, e1⟩
        · exact hcp e1
        · exact hcm e1
        · subst e1
          obtain ⟨cs', hcs'⟩ := a5.hl.lt
          rw [hcs'] at c2'; cases c2'
        · have := a5.he x hx
          rw [e1, c2'] at this; cases this
      have hs : ∃ σ1, exec Tryd.bk.E call Tryd.f19.ntmps (Tryd.bk.inf 19) lf (loopOf Tryd.f19 0) [(0, ptr p), (2, ptr c2), (3, .bool false)] A = some (.ret, σ1, A3) ∧ keepSl (some [0, 2, 3]) σ1 = [(0, ptr p), (2, ptr c2), (3, .bool true)] := by
        refine ⟨?sg2, kexec_run ?run2, ?kp2⟩
        case run2 =>
          conv => lhs; whnf
          refine bind_of (cellsAt_of hp0 _ _) ?_
          conv => lhs; whnf
          rw [kdec dgt]
          conv => lhs; whnf
          refine bind_of (cellsAt_of hp0 _ _) ?_
          conv => lhs; whnf
          rw [kdec d0]
          conv => lhs; whnf
          refine bind_of ((cellsAt_of hg _ _).trans hcell) ?_
          conv => lhs; whnf
          refine bind_of (cellsAt_of hp0 _ _) ?_
          conv => lhs; whnf
          rw [kdec d1]
          conv => lhs; whnf
          refine bind_of (dstore_of hp0 (t := 106) (o := 0) (cs' := laneC lv1 mi f0 n0) rfl) ?_
          conv => lhs; whnf
          refine bind_of (cellsAt_of hge _ _) ?_
          conv => lhs; whnf
          refine bind_of hda ?_
          conv => lhs; whnf
          refine bind_of (cellsAt_of a10 _ _) ?_
          conv => lhs; whnf
          refine bind_of (dstore_of c2' (t := 29) (o := 0) (cs' := T) rfl) ?_
          conv => lhs; whnf
        case kp2 => rfl
      obtain ⟨σ1, r1, r2⟩ := hs
      have := loopD_end (ks := some [0, 2, 3]) (n := fuel) r1 (by simp)
      rw [r2] at this
      refine ⟨_, _, hlv, A3, io2, lv2, es2, _, this, L3, ⟨a2.put c2' _, by rw [Hp.next_set]; omega, fun j hj h1 h2 h3 h4 => ?_, by rw [← n1]; exact a7, fun x hx => ?_, by omega⟩, a6, Hp.get_set_same _ _ _⟩
      · rw [Hp.get_set_ne _ _ h3, a4 j (by omega) h1 h2 (h4 ⟨id, ek, esx, ev, false⟩ (by simp)).symm, o1 j h1]
      · obtain ⟨y, hy, hid⟩ := a8 x hx
        exact ⟨y, List.mem_cons_of_mem _ hy, hid⟩

/-- Next -/
theorem lane_next (lf : Nat) {A : Hp} (hw : A.wf) {p : Nat} {S : Nat → Prop} {ts : List Tk} {N : Nat} (h : Lx A p S ts N) (hN : N ≤ 100000000) (hN2 : N < lf0) (hN3 : N < lf) :
    ∃ A' S', kfn Tryd.bk.E call (Tryd.bk.inf 19) lf Tryd.f19 [ptr p] A = some ((match ts with
      | [] => .tuple #[.agg #[.int .i64 0, .int .u32 0, .int .u32 0], .bool false]
      | t :: _ => .tuple #[.agg #[.int .i64 (t.1 : Nat), .int .u32 t.2.1, .int .u32 t.2.2], .bool true]), A') ∧ St A A' p S S' ∧ Lx A' p S' ts.tail N := by
  obtain ⟨mi, io, lv, es, M, h1, rfl, h3, h4, h5, h6⟩ := h
  let Z : List Value := [.int .i64 0, .int .u32 0, .int .u32 0]
  let A1 : Hp := A.push (.arr 29 Z .own)
  have k1 : Kp A A1 := Kp.push hw _
  have n1 : A1.next = A.next + 1 := by simp [A1]
  have c1 : A1.get A.next = some (.arr 29 Z .own) := Hp.get_push_same _ _
  obtain ⟨pl1, pl2, pl3, pl4, pl5⟩ := h1.pl hw
  rcases next_loop hd lf es lf k1.wf (h1.kp hw k1) c1 (by omega) (by omega) (by omega) with ⟨q1, B, lv2, q2, q3, q4, q5⟩ | ⟨e2, L2, q1, B, io2, lv2, es2, M2, q2, q3, q4, q5, q6⟩
  · rw [c1] at q5
    have hnx := q4.nx
    have kB := q4.wf.put q5 (.arr 29 Z .own)
    have hts : tks es = [] := by unfold tks; rw [q1]; rfl
    rw [hts]
    refine ⟨B.set A.next (some (.arr 29 Z .own)), S, ?run, ⟨kB, by rw [Hp.next_set]; omega, ?old, fun _ h => .inl h⟩, ⟨mi, io, lv2, [], M, q3.keep ?kk, rfl, h3, h4, by simp, Nat.zero_le _⟩⟩
    case old =>
      intro j hj hjp hjS
      rw [Hp.get_set_ne _ _ (by omega), q4.old j (by omega) hjp (fun e => hjS (by rw [e]; exact h3)) (by omega) (fun x hx e => hjS (by rw [← e]; exact h5 x hx)), k1.old j hj]
    case kk =>
      intro j o hj hcs
      refine Hp.get_set_ne _ _ ?_
      rcases hcs with e | e | e | ⟨x, hx, e⟩
      · omega
      · omega
      · have := (pl4 j e).1; omega
      · simp at hx
    case run =>
      conv => lhs; whnf
      refine bind_of q2 ?_
      conv => lhs; whnf
      refine bind_of (dstore_of q5 (t := 29) (o := 0) (cs' := Z) rfl) ?_
      conv => lhs; whnf
      refine bind_of (cellsAt_of (A := B.set A.next (some (.arr 29 Z .own))) (i := A.next) (Hp.get_set_same _ _ _) 0 3) ?_
      conv => lhs; whnf
      rfl
  · have hnx := q4.nx
    have hts : tks es = e2.tk :: L2.map En.tk := by unfold tks; rw [q1]; rfl
    rw [hts]
    refine ⟨B, fun j => S j ∨ A.next ≤ j, ?run2, ⟨q4.wf, by omega, ?old2, fun _ h => h⟩, ⟨mi, io2, lv2, es2, M2, q3, by unfold tks; rw [q5]; rfl, .inl h3, ?i2, ?x2, by have := q4.len; omega⟩⟩
    case old2 =>
      intro j hj hjp hjS
      rw [q4.old j (by omega) hjp (fun e => hjS (by rw [e]; exact h3)) (by omega) (fun x hx e => hjS (by rw [← e]; exact h5 x hx)), k1.old j hj]
    case i2 =>
      intro i hi
      rcases q4.io with e | e
      · exact .inl (h4 i (by rw [← e]; exact hi))
      · have := e i hi; exact .inr (by omega)
    case x2 =>
      intro x hx
      obtain ⟨y, hy, hid⟩ := q4.ids x hx
      rw [← hid]
      exact .inl (h5 y hy)
    case run2 =>
      conv => lhs; whnf
      refine bind_of q2 ?_
      conv => lhs; whnf
      refine bind_of (cellsAt_of q6 _ _) ?_
      conv => lhs; whnf
      rfl
end
end Go.Dn.Ln
end

section
/-
  layer 11 (lane): Put on what a lane holds; New, Len
-/
namespace Go.Dn.Ln
open Go.Proofs
set_option maxHeartbeats 4000000
set_option maxRecDepth 100000
attribute [local irreducible] Hp.get Hp.set Hp.push dappend dcopy dstore cellsAt callD loopD dlookup dmapUpdate ddelete

def sameT (k : Nat) (s : Int) (t : Tk) : Bool := t.1 == k && t.2.1 == s
/-- the document's Put, on the program's words: the sentinel, and the tickets behind it -/
def putT (ts : List Tk) (k : Int) (s v : Int) : Option Nat × List Tk :=
  if k < 1 ∨ 7 < k then (some 7, ts) else
  match badT k.toNat s v with
  | some g => (some g, ts)
  | none => match (if kyd k.toNat then ts.find? (sameT k.toNat s) else none) with
    | some t => if onceB k.toNat then (some 2, ts) else if v > 4294967295 - t.2.2 then (some 3, ts) else (none, ts.map fun x => if sameT k.toNat s x then (x.1, x.2.1, x.2.2 + v) else x)
    | none => (none, ts ++ [(k.toNat, s, v)])

def errO (o : Option Nat) : Value := match o with
  | some g => errV g
  | none => .nilIface

theorem tks_snoc (es : List En) (id k : Nat) (s v : Int) : tks (es ++ [⟨id, k, s, v, false⟩]) = tks es ++ [(k, s, v)] := by
  unfold tks
  rw [live_snoc _ _ rfl, List.map_append]
  rfl

theorem same_id {M : List (Nat × Int × Nat)} {es : List En} (h : MapOK M es) {x y : En} (hx : x ∈ es) (hxg : x.gone = false) (hy : y ∈ es) (hyg : y.gone = false) (hk : kyd x.k = true) (h1 : y.k = x.k) (h2 : y.s = x.s) : y.id = x.id := by
  have a := h.of x hx hxg hk
  have b := h.of y hy hyg (by rw [h1]; exact hk)
  have := key_nodup h.nd b a h1 h2
  simp only [Prod.mk.injEq] at this
  exact this.2.2

/-- the map finds just what waits -/
theorem findI_tks {M : List (Nat × Int × Nat)} {es : List En} (h : MapOK M es) (hnd : (es.map (·.id)).Nodup) (k : Nat) (s : Int) :
    (findI k s M 0 = none ∧ (if kyd k then (tks es).find? (sameT k s) else none) = none) ∨ ∃ j e, e ∈ es ∧ e.gone = false ∧ e.k = k ∧ e.s = s ∧ kyd k = true ∧ findI k s M 0 = some (j, e.id) ∧ (if kyd k then (tks es).find? (sameT k s) else none) = some e.tk := by
  cases hf : findI k s M 0 with
  | none =>
    left
    refine ⟨rfl, ?_⟩
    cases hk : kyd k with
    | false => rfl
    | true =>
      simp only [if_true]
      refine List.find?_eq_none.2 fun t ht hs => ?_
      unfold tks at ht
      obtain ⟨e, he, rfl⟩ := List.mem_map.1 ht
      obtain ⟨h1, h2⟩ := mem_live.1 he
      simp only [sameT, En.tk, Bool.and_eq_true, beq_iff_eq] at hs
      exact findI_none.1 hf _ (h.of e h1 h2 (by rw [hs.1]; exact hk)) hs
  | some r =>
    right
    obtain ⟨j, i⟩ := r
    have hm := List.mem_of_getElem? (findI_some hf)
    obtain ⟨e, e0, e1, e2, e3, e4, e5⟩ := h.isin _ hm
    simp only at e1 e2 e3
    have hk : kyd k = true := by rw [← e2]; exact e5
    refine ⟨j, e, e0, e4, e2, e3, hk, by rw [e1], ?_⟩
    rw [if_pos hk]
    have hel : e ∈ live es := mem_live.2 ⟨e0, e4⟩
    cases hfi : (tks es).find? (sameT k s) with
    | none =>
      have := List.find?_eq_none.1 hfi e.tk (List.mem_map.2 ⟨e, hel, rfl⟩)
      simp [sameT, En.tk, e2, e3] at this
    | some t =>
      have h1 := List.mem_of_find?_eq_some hfi
      have h2 := List.find?_some hfi
      unfold tks at h1
      obtain ⟨x, hx, rfl⟩ := List.mem_map.1 h1
      obtain ⟨x1, x2⟩ := mem_live.1 hx
      simp only [sameT, En.tk, Bool.and_eq_true, beq_iff_eq] at h2
      have hid := same_id h e0 e4 x1 x2 e5 (h2.1.trans e2.symm) (h2.2.trans e3.symm)
      congr 1
      unfold En.tk
      have : x = e := id_uniq hnd x1 e0 hid
      rw [this]

theorem tks_add {M : List (Nat × Int × Nat)} {es : List En} (h : MapOK M es) (hnd : (es.map (·.id)).Nodup) {e : En} (he : e ∈ es) (hg : e.gone = false) (hk : kyd e.k = true) (d : Int) :
    tks (addE e.id d es) = (tks es).map fun x => if sameT e.k e.s x then (x.1, x.2.1, x.2.2 + d) else x := by
  unfold tks
  rw [addE_live]
  unfold addE
  rw [List.map_map, List.map_map]
  refine List.map_congr_left fun x hx => ?_
  obtain ⟨x1, x2⟩ := mem_live.1 hx
  simp only [Function.comp_apply]
  by_cases hid : x.id = e.id
  · have := id_uniq hnd x1 he hid
    subst this
    rw [if_pos rfl, if_pos (by simp [sameT, En.tk])]
    rfl
  · rw [if_neg hid, if_neg]
    intro hs
    simp only [sameT, En.tk, Bool.and_eq_true, beq_iff_eq] at hs
    exact hid (same_id h he hg x1 x2 hk hs.1 hs.2)

theorem lane_put {call : CallT} (hck : CheckOK call) (lf : Nat) {A : Hp} (hw : A.wf) (hC : LC A) {p : Nat} {S : Nat → Prop} {ts : List Tk} {N : Nat} (h : Lx A p S ts N) (k s v : Int) (hv0 : 0 ≤ v) (hv1 : v ≤ 4294967295) (hN : N ≤ 100000000) :
    ∃ A' S', kfn Tryd.bk.E call (Tryd.bk.inf 17) lf Tryd.f17 [ptr p, .agg #[.int .i64 k, .int .u32 s, .int .u32 v]] A = some (errO (putT ts k s v).1, A') ∧ St A A' p S S' ∧ Lx A' p S' (putT ts k s v).2 (N + 1) := by
  obtain ⟨mi, io, lv, es, M, h1, rfl, h3, h4, h5, h6⟩ := h
  have hL : ∀ A', Kp A A' → Lx A' p S (tks es) (N + 1) := fun A' hk => ⟨mi, io, lv, es, M, h1.kp hw hk, rfl, h3, h4, h5, by omega⟩
  unfold putT
  by_cases hk : k < 1 ∨ 7 < k
  · rw [if_pos hk]
    obtain ⟨A', r1, r2⟩ := lput_kind hck hw hC lf p hk s v
    exact ⟨A', S, r1, r2.st, hL A' r2⟩
  · rw [if_neg hk]
    obtain ⟨kn, rfl⟩ : ∃ kn : Nat, k = (kn : Nat) := ⟨k.toNat, by omega⟩
    rw [Int.toNat_natCast]
    have k1 : 1 ≤ kn := by omega
    have k7 : kn ≤ 7 := by omega
    cases hb : badT kn s v with
    | some g =>
      obtain ⟨A', r1, r2⟩ := lput_bad hck hw hC lf p k1 k7 hb
      exact ⟨A', S, r1, r2.st, hL A' r2⟩
    | none =>
      simp only
      rcases findI_tks h1.mp h1.nd kn s with ⟨q1, q2⟩ | ⟨j, e, e0, e1, e2, e3, e4, q1, q2⟩
      · rw [q2]
        obtain ⟨A', i, c, id, r1, r2, r3, r4, r5⟩ := lput_new hck hw hC h1 lf k1 k7 hb q1 hv0 hv1 (by omega)
        refine ⟨A', fun j => S j ∨ A.next ≤ j, r1, ⟨r2.wf, r2.nx, fun j hj hjp hjS => r2.old j hj hjp (fun e => hjS (by rw [e]; exact h3)) (fun e => hjS (h4 j e)) fun x hx e => hjS (by rw [← e]; exact h5 x hx), fun _ h => h⟩,
          ⟨mi, some i, _, _, _, r5, tks_snoc _ _ _ _ _, .inl h3, fun j hj => by cases hj; exact .inr r4, fun x hx => ?_, by rw [List.length_append, List.length_singleton]; omega⟩⟩
        rcases List.mem_append.1 hx with hx | hx
        · exact .inl (h5 x hx)
        · simp only [List.mem_singleton] at hx
          subst hx
          exact .inr r3
      · rw [q2]
        simp only
        cases ho : onceB kn with
        | true =>
          obtain ⟨A', r1, r2⟩ := lput_twice hck hw hC h1 lf k1 k7 hb q1 ho
          exact ⟨A', S, r1, r2.st, hL A' r2⟩
        | false =>
          have hk3 : kn = 3 := by
            unfold kyd at e4
            rw [ho] at e4
            simpa using e4
          subst hk3
          obtain ⟨g1, g2⟩ := lput_grant hck hw hC h1 lf hb e0 e1 e2 e3 q1 hv0
          simp only [Bool.false_eq_true, if_false]
          by_cases hov : v > 4294967295 - e.v
          · obtain ⟨A', r1, r2⟩ := g1 hov
            rw [if_pos (show v > 4294967295 - e.tk.2.2 from hov)]
            exact ⟨A', S, r1, r2.st, hL A' r2⟩
          · obtain ⟨A', r1, r2, r3⟩ := g2 hov
            rw [if_neg (show ¬ v > 4294967295 - e.tk.2.2 from hov)]
            have hadd := tks_add h1.mp h1.nd e0 e1 (by rw [e2]; exact e4) v
            rw [e2, e3] at hadd
            refine ⟨A', S, r1, ⟨r2.wf, r2.nx, fun j hj hjp hjS => r2.old j hj hjp (fun e => hjS (by rw [e]; exact h3)) (fun e => hjS (h4 j e)) fun x hx e => hjS (by rw [← e]; exact h5 x hx), fun _ h => .inl h⟩,
              ⟨mi, io, lv, _, M, r3, hadd, h3, h4, fun x hx => ?_, by unfold addE; rw [List.length_map]; omega⟩⟩
            unfold addE at hx
            obtain ⟨y, hy, rfl⟩ := List.mem_map.1 hx
            have := h5 y hy
            split <;> exact this

theorem lane_new {call : CallT} (lf : Nat) {A : Hp} (hw : A.wf) :
    ∃ A', kfn Tryd.bk.E call (Tryd.bk.inf 16) lf Tryd.f16 [] A = some (ptr (A.next + 1), A') ∧ Kp A A' ∧ A'.next = A.next + 2 ∧ Lx A' (A.next + 1) (fun j => j = A.next) [] 0 := by
  let A1 : Hp := A.push (.map [] .own)
  let A2 : Hp := A1.push (.arr 109 (laneC (.slice none 0 0) A.next (fun _ => 0) 0) .own)
  have k1 : Kp A A1 := Kp.push hw _
  have k2 : Kp A1 A2 := Kp.push k1.wf _
  have n1 : A1.next = A.next + 1 := by simp [A1]
  have m1 : A1.get A.next = some (.map [] .own) := Hp.get_push_same _ _
  refine ⟨A2, ?run, k1.trans k2, by simp [A2, A1], A.next, none, .slice none 0 0, [], [], ⟨?hp, .nil, by rw [k2.old _ (by omega)]; exact m1, by simp, by simp, ⟨by simp, by simp, by simp⟩, by simp⟩, rfl, rfl, by simp, by simp, Nat.le_refl _⟩
  case hp => rw [← n1]; exact Hp.get_push_same _ _
  case run =>
    conv => lhs; whnf
    with_unfolding_all rfl

theorem lane_len {call : CallT} (lf : Nat) {A : Hp} {p : Nat} {S : Nat → Prop} {ts : List Tk} {N : Nat} (h : Lx A p S ts N) :
    kfn Tryd.bk.E call (Tryd.bk.inf 18) lf Tryd.f18 [ptr p] A = some (.int .i64 (ts.length : Nat), A) := by
  obtain ⟨mi, io, lv, es, M, h1, rfl, _⟩ := h
  conv => lhs; whnf
  refine bind_of (cellsAt_of h1.hp _ _) ?_
  conv => lhs; whnf
  unfold tks
  rw [List.length_map]
  rfl
end Go.Dn.Ln
end

section
namespace Go.Dn

/-! ## a part of a heap -/
def pickL (A : Hp) : List Nat → Hp
  | [] => ⟨A.next, .nil⟩
  | i :: l => (pickL A l).set i (A.get i)

theorem pickL_next (A : Hp) : ∀ l, (pickL A l).next = A.next
  | [] => rfl
  | _ :: l => by rw [pickL, Hp.next_set, pickL_next A l]

theorem pickL_in {A : Hp} {j : Nat} : ∀ {l : List Nat}, j ∈ l → (pickL A l).get j = A.get j
  | i :: l, h => by
    rw [pickL]
    by_cases e : j = i
    · subst e; rw [Hp.get_set_same]
    · rw [Hp.get_set_ne _ _ e]
      exact pickL_in ((List.mem_cons.1 h).resolve_left e)

theorem pickL_out {A : Hp} {j : Nat} : ∀ {l : List Nat}, j ∉ l → (pickL A l).get j = none
  | [], _ => rfl
  | i :: l, h => by
    rw [pickL, Hp.get_set_ne _ _ (fun e => h (by rw [e]; exact .head _))]
    exact pickL_out (fun e => h (.tail _ e))

theorem pickL_sub {A : Hp} {l : List Nat} {j : Nat} {o : Ob} (h : (pickL A l).get j = some o) : A.get j = some o ∧ j ∈ l := by
  by_cases e : j ∈ l
  · exact ⟨by rw [← pickL_in e]; exact h, e⟩
  · rw [pickL_out e] at h; cases h

theorem pickL_wf {A : Hp} (hw : A.wf) (l : List Nat) : (pickL A l).wf := by
  intro i hi
  rw [pickL_next] at hi
  by_cases e : i ∈ l
  · rw [pickL_in e]; exact hw i hi
  · exact pickL_out e
end Go.Dn
end

section
/-
  layer 11 (lane): a lane as an abstract object
-/
namespace Go.Dn.Ln
open Go.Proofs
set_option maxHeartbeats 4000000
set_option maxRecDepth 100000
attribute [local irreducible] Hp.get Hp.set Hp.push dappend dcopy dstore cellsAt callD loopD

structure LX where
  ts : List Tk
  n : Nat
def tkD (t : Tk) : Dat := .l [.v (.int .i64 (t.1 : Nat)), .v (.int .u32 t.2.1), .v (.int .u32 t.2.2)]
def LX.dat (x : LX) : Dat := .l [.l (x.ts.map tkD), .v (.int .i64 (x.n : Nat))]
theorem tkD_inj {a b : Tk} (h : tkD a = tkD b) : a = b := by
  obtain ⟨a1, a2, a3⟩ := a
  obtain ⟨b1, b2, b3⟩ := b
  simp only [tkD, Dat.l.injEq, List.cons.injEq, Dat.v.injEq, Value.int.injEq, true_and, and_true] at h
  obtain ⟨h1, h2, h3⟩ := h
  have : a1 = b1 := by omega
  subst this h2 h3
  rfl
theorem map_tkD_inj : ∀ {a b : List Tk}, a.map tkD = b.map tkD → a = b
  | [], [], _ => rfl
  | [], _ :: _, h => by simp at h
  | _ :: _, [], h => by simp at h
  | x :: a, y :: b, h => by
    simp only [List.map_cons, List.cons.injEq] at h
    rw [tkD_inj h.1, map_tkD_inj h.2]
theorem LX.dat_inj {x y : LX} (h : x.dat = y.dat) : x = y := by
  obtain ⟨a, n⟩ := x
  obtain ⟨b, m⟩ := y
  simp only [LX.dat, Dat.l.injEq, List.cons.injEq, Dat.v.injEq, Value.int.injEq, true_and, and_true] at h
  obtain ⟨h1, h2⟩ := h
  rw [map_tkD_inj h1]
  have : n = m := by omega
  subst this
  rfl

def repL (k : Nat) (d : Dat) (B : Hp) (r : Nat) : Prop := k = 3 ∧ B.wf ∧ ∃ x : LX, d = x.dat ∧ ∃ S, Lx B r S x.ts x.n

/-- the part of a heap that a lane needs -/
theorem Lx.close [Reps] {A : Hp} {p : Nat} {S : Nat → Prop} {ts : List Tk} {N : Nat} (h : Lx A p S ts N) (hw : A.wf) (hC : ∀ i o, Reps.C.get i = some o → A.get i = some o) :
    ∃ B2, (∀ i o, B2.get i = some o → A.get i = some o) ∧ B2.next = A.next ∧ (∀ i o, Reps.C.get i = some o → B2.get i = some o) ∧ (∃ S', Lx B2 p S' ts N) ∧ B2.wf ∧ (∃ o, B2.get p = some o ∧ o.md = .own) ∧ Tight B2 ∧
      ∀ j, Reps.C.next ≤ j → j ≠ p → ¬ S j → B2.get j = none := by
  obtain ⟨mi, io, lv, es, M, h1, h2, h3, h4, h5, h6⟩ := h
  let L : List Nat := p :: mi :: (io.toList ++ (es.map (·.id) ++ List.range Reps.C.next))
  have mem : ∀ j, j ∈ L ↔ (j = p ∨ j = mi ∨ io = some j ∨ (∃ x ∈ es, x.id = j) ∨ j < Reps.C.next) := by
    intro j
    simp only [L, List.mem_cons, List.mem_append, Option.mem_toList, List.mem_map, List.mem_range]
  have hP : IsLane (pickL A L) p mi io lv es M := h1.keep fun j o _ hj => pickL_in ((mem j).2 (by
    rcases hj with e | e | e | e
    · exact .inl e
    · exact .inr (.inl e)
    · exact .inr (.inr (.inl e))
    · exact .inr (.inr (.inr (.inl e)))))
  refine ⟨pickL A L, fun i o hi => (pickL_sub hi).1, pickL_next A L, fun i o hi => ?_, ⟨S, mi, io, lv, es, M, hP, h2, h3, h4, h5, h6⟩, pickL_wf hw L, ⟨_, hP.hp, rfl⟩, fun j o hj => ?_, fun j j1 j2 j3 => pickL_out fun hm => ?_⟩
  · rw [pickL_in ((mem i).2 (.inr (.inr (.inr (.inr (Reps.Cro i o hi).1)))))]; exact hC i o hi
  · obtain ⟨q1, q2⟩ := pickL_sub hj
    rcases (mem j).1 q2 with e | e | e | ⟨x, hx, e⟩ | e
    · subst e; rw [h1.hp] at q1; cases q1; exact .inr rfl
    · subst e; rw [h1.hm] at q1; cases q1; exact .inr rfl
    · subst e
      obtain ⟨cs, hcs⟩ := h1.hl.lt
      rw [hcs] at q1; cases q1; exact .inr rfl
    · subst e
      rw [h1.he x hx] at q1; cases q1; exact .inr rfl
    · exact .inl e
  · rcases (mem j).1 hm with e | e | e | ⟨x, hx, e⟩ | e
    · exact j2 e
    · subst e; exact j3 h3
    · exact j3 (h4 j e)
    · subst e; exact j3 (h5 x hx)
    · omega

/-- constants are none of a lane's parts -/
theorem Lx.apart [Reps] {B : Hp} {p : Nat} {S : Nat → Prop} {ts : List Tk} {N : Nat} (h : Lx B p S ts N) (hCB : ∀ i o, Reps.C.get i = some o → B.get i = some o) :
    ∃ S', Lx B p S' ts N ∧ (∀ j, S' j → ∃ o, B.get j = some o ∧ o.md = .own) ∧ ∀ j o, Reps.C.get j = some o → j ≠ p ∧ ¬ S' j := by
  obtain ⟨mi, io, lv, es, M, h1, h2, h3, h4, h5, h6⟩ := h
  have own : ∀ j, (j = mi ∨ io = some j ∨ ∃ x ∈ es, x.id = j) → ∃ o, B.get j = some o ∧ o.md = .own := by
    rintro j (rfl | e | ⟨x, hx, rfl⟩)
    · exact ⟨_, h1.hm, rfl⟩
    · subst e
      obtain ⟨cs, hcs⟩ := h1.hl.lt
      exact ⟨_, hcs, rfl⟩
    · exact ⟨_, h1.he x hx, rfl⟩
  refine ⟨fun j => j = mi ∨ io = some j ∨ ∃ x ∈ es, x.id = j, ⟨mi, io, lv, es, M, h1, h2, .inl rfl, fun i hi => .inr (.inl hi), fun e he => .inr (.inr ⟨e, he, rfl⟩), h6⟩, own, fun j o hj => ⟨?_, fun hS => ?_⟩⟩
  · rintro rfl
    have := hCB _ _ hj
    rw [h1.hp] at this
    cases this
    have := (Reps.Cro _ _ hj).2
    cases this
  · obtain ⟨o', q1, q2⟩ := own j hS
    have := hCB _ _ hj
    rw [q1] at this
    cases this
    rw [(Reps.Cro _ _ hj).2] at q2
    cases q2

theorem noneL : ∀ f args A, noCalls f args A = none := fun _ _ _ => rfl

/-- the lane's inner calls -/
structure In (call : CallT) (lf : Nat) : Prop where
  check : CheckOK call
  drop : ∃ call0, ∀ args A r, kfn Tryd.bk.E call0 (Tryd.bk.inf 64) lf Tryd.f64 args A = some r → call 64 args A = some r

theorem in_ok (n : Nat) : In (callD Tryd.bk noCalls (n + 2)) (n + 1) := by
  have hf : ∀ n, FitsOK (callD Tryd.bk noCalls (n + 1)) := fun n A f hf m => callD_of (noneL _ _ _) (fn := Tryd.f106) rfl (fits_walk n A hf m)
  refine ⟨⟨fun hw hC k h1 h7 s v => ?_, fun hw hC k hk s v => ?_⟩, callD Tryd.bk noCalls (n + 1), fun args A r h => callD_of (noneL _ _ _) (fn := Tryd.f64) rfl h⟩
  · obtain ⟨A', r1, r2⟩ := check_walk (hf n) (n + 1) hw hC h1 h7 s v
    exact ⟨A', callD_of (noneL _ _ _) (fn := Tryd.f63) rfl r1, r2⟩
  · obtain ⟨A', r1, r2⟩ := check_kind (call := callD Tryd.bk noCalls (n + 1)) (n + 1) hw hC hk s v
    exact ⟨A', callD_of (noneL _ _ _) (fn := Tryd.f63) rfl r1, r2⟩

theorem LCc {C A : Hp} (h : LC C) (hC : ∀ i o, C.get i = some o → A.get i = some o) : LC A :=
  ⟨hC _ _ h.forms, hC _ _ h.eType, hC _ _ h.eID, hC _ _ h.eLength, hC _ _ h.eTwice, hC _ _ h.eOver⟩

inductive NewR : List Value → Hp → Value × Hp → Prop
  | mk (A : Hp) : NewR [] A (ptr A.next, A.push (.abs 3 (LX.dat ⟨[], 0⟩)))
inductive PutR : List Value → Hp → Value × Hp → Prop
  | mk (A : Hp) (i : Nat) (x : LX) (hi : A.get i = some (.abs 3 x.dat)) (k s v : Int) (hv0 : 0 ≤ v) (hv1 : v ≤ 4294967295) (hn : x.n ≤ 100000000) :
      PutR [ptr i, .agg #[.int .i64 k, .int .u32 s, .int .u32 v]] A (errO (putT x.ts k s v).1, A.set i (some (.abs 3 (LX.dat ⟨(putT x.ts k s v).2, x.n + 1⟩))))
inductive LenR : List Value → Hp → Value × Hp → Prop
  | mk (A : Hp) (i : Nat) (x : LX) (hi : A.get i = some (.abs 3 x.dat)) : LenR [ptr i] A (.int .i64 (x.ts.length : Nat), A.set i (some (.abs 3 x.dat)))
def nextV (ts : List Tk) : Value := match ts with
  | [] => .tuple #[.agg #[.int .i64 0, .int .u32 0, .int .u32 0], .bool false]
  | t :: _ => .tuple #[.agg #[.int .i64 (t.1 : Nat), .int .u32 t.2.1, .int .u32 t.2.2], .bool true]
inductive NextR : List Value → Hp → Value × Hp → Prop
  | mk (A : Hp) (i : Nat) (x : LX) (hi : A.get i = some (.abs 3 x.dat)) (hn : x.n ≤ 100000000) : NextR [ptr i] A (nextV x.ts, A.set i (some (.abs 3 (LX.dat ⟨x.ts.tail, x.n⟩))))

theorem same_lx {A : Hp} {i : Nat} {x y : LX} (h1 : A.get i = some (.abs 3 x.dat)) (h2 : A.get i = some (.abs 3 y.dat)) : x = y := by
  rw [h1] at h2
  have := Option.some.inj h2
  simp only [Ob.abs.injEq, true_and] at this
  exact LX.dat_inj this
theorem NewR.one {A : Hp} {args : List Value} {r r' : Value × Hp} (h : NewR args A r) (h' : NewR args A r') : r' = r := by
  cases h; cases h'; rfl
theorem PutR.one {A : Hp} {args : List Value} {r r' : Value × Hp} (h : PutR args A r) (h' : PutR args A r') : r' = r := by
  cases h with | mk _ i x hi => cases h' with | mk _ _ y hj => rw [same_lx hj hi]
theorem LenR.one {A : Hp} {args : List Value} {r r' : Value × Hp} (h : LenR args A r) (h' : LenR args A r') : r' = r := by
  cases h with | mk _ i x hi => cases h' with | mk _ _ y hj => rw [same_lx hj hi]
theorem NextR.one {A : Hp} {args : List Value} {r r' : Value × Hp} (h : NextR args A r) (h' : NextR args A r') : r' = r := by
  cases h with | mk _ i x hi => cases h' with | mk _ _ y hj => rw [same_lx hj hi]

theorem fnNew : ∃ x, Tryd.prog.funcs[16]? = some x ∧ x.body.isSome = true ∧ (x.name == "runtime.NumGoroutine") = false := ⟨Tryd.f16, by kernel_rfl, by kernel_rfl, by kernel_rfl⟩
theorem fnPut : ∃ x, Tryd.prog.funcs[17]? = some x ∧ x.body.isSome = true ∧ (x.name == "runtime.NumGoroutine") = false := ⟨Tryd.f17, by kernel_rfl, by kernel_rfl, by kernel_rfl⟩
theorem fnLen : ∃ x, Tryd.prog.funcs[18]? = some x ∧ x.body.isSome = true ∧ (x.name == "runtime.NumGoroutine") = false := ⟨Tryd.f18, by kernel_rfl, by kernel_rfl, by kernel_rfl⟩
theorem fnNext : ∃ x, Tryd.prog.funcs[19]? = some x ∧ x.body.isSome = true ∧ (x.name == "runtime.NumGoroutine") = false := ⟨Tryd.f19, by kernel_rfl, by kernel_rfl, by kernel_rfl⟩

noncomputable def TL (base : CallT) : CallT := withCall (withCall (withCall (withCall base 16 (byRel NewR)) 17 (byRel PutR)) 18 (byRel LenR)) 19 (byRel NextR)

section
variable [Reps] (hR : ∀ k d B r, Reps.rep k d B r ↔ repL k d B r) (hCC : LC Reps.C)
include hR

theorem new_call {g : Gh} {A : Hp} {w : World} (hA : RelX Tryd.prog g A w) (hCw : Reps.C.wf) {args' : Array Value} (ha : AR g.ρ [].toArray args') :
    Calls Tryd.prog 16 args' w fun e w' => ∃ v', e = .returned v' ∧ After Tryd.prog g A w (ptr A.next) (A.push (.abs 3 (LX.dat ⟨[], 0⟩))) v' w' := by
  have hC := callD_ok Tryd.good (noCalls_ok _) 6
  obtain ⟨B', r1, r2, r3, r4⟩ := lane_new (call := callD Tryd.bk noCalls 5) 5 hCw
  have hC2 : ∀ i o, Reps.C.get i = some o → B'.get i = some o := fun i o hi => by rw [r2.old i (Reps.Cro i o hi).1]; exact hi
  obtain ⟨B2, c1, c2, c3, ⟨S', c4⟩, c5, c6, c7, _⟩ := r4.close r2.wf hC2
  refine call_new hC hA (k := 3) (x := LX.dat ⟨[], 0⟩) (im := []) (ims := []) rfl (by simp) ha (largs := []) .nil (v := ptr (Reps.C.next + 1)) (B' := B') (B2 := B2) (r := Reps.C.next + 1) ?_ c1 (by omega) c3
    ((hR _ _ _ _).2 ⟨rfl, c5, _, rfl, S', c4⟩) c6 c7 (.ptr 0 (.inr ⟨rfl, rfl⟩))
  exact callD_of (noneL _ _ _) (fn := Tryd.f16) rfl r1

/-- a method that gives a plain value, or a sentinel -/
theorem meth_call {g : Gh} {A : Hp} {w : World} (hA : RelX Tryd.prog g A w) {i : Nat} {x x' : LX} (hi : A.get i = some (.abs 3 x.dat)) {f : FuncId} {n : Nat} {u : Value} {us : List Value} (hus : ∀ (r : Nat), VMs (fun a b => (a = i ∧ b = r) ∨ (a < Reps.C.next ∧ b = a)) us us)
    {args' : Array Value} (ha : AR g.ρ (ptr i :: us).toArray args')
    (hu : ∀ r, VM (fun a b => (a = r ∧ b = i) ∨ (a < Reps.C.next ∧ b = a)) u u)
    (hrun : ∀ B r S, B.wf → LC B → Lx B r S x.ts x.n → ∃ B' S', callD Tryd.bk noCalls n f (ptr r :: us) B = some (u, B') ∧ St B B' r S S' ∧ Lx B' r S' x'.ts x'.n) (hCC : LC Reps.C) :
    Calls Tryd.prog f args' w fun e w' => ∃ v', e = .returned v' ∧ After Tryd.prog g A w u (A.set i (some (.abs 3 x'.dat))) v' w' := by
  have hC := callD_ok Tryd.good (noCalls_ok _) n
  refine call_method hC hA hi (k' := 3) (im := []) (ims := []) rfl (by simp) [] (by simp) ha (fun r _ => ptr r :: us) (fun r m => .cons (.ptr 0 (.inl ⟨rfl, rfl⟩)) ((hus r).mono fun a b h => by rcases h with h | h; exact .inl h; exact .inr (.inl h))) u ?_
  intro B r hCB hw hCn hrep
  obtain ⟨_, _, y, e1, S, hLx⟩ := (hR _ _ _ _).1 hrep
  obtain rfl := LX.dat_inj e1
  obtain ⟨S0, hLx0, _, hS0⟩ := hLx.apart hCB
  obtain ⟨B', S', q1, q2, q3⟩ := hrun B r S0 hw (LCc hCC hCB) hLx0
  have hCA : ∀ i o, Reps.C.get i = some o → B'.get i = some o := fun j o hj => by
    obtain ⟨a1, a2⟩ := hS0 j o hj
    have := (Reps.Cro j o hj).1
    rw [q2.old j (by omega) a1 a2]
    exact hCB j o hj
  obtain ⟨B2, c1, c2, c3, ⟨S2, c4⟩, c5, c6, c7, _⟩ := q3.close q2.wf hCA
  exact ⟨u, B', B2, [], q1, c1, by omega, c3, (hR _ _ _ _).2 ⟨rfl, c5, _, rfl, S2, c4⟩, c6, c7, rfl, .nil, by simp, (hu r).mono fun a b h => by rcases h with h | h; exact .inl h; exact .inr (.inl h)⟩

omit hR in
theorem errO_vm {o : Option Nat} (h : ∀ g, o = some g → g + 44 < Reps.C.next) {m : Nat → Nat → Prop} (hm : ∀ a, a < Reps.C.next → m a a) : VM m (errO o) (errO o) := by
  cases o with
  | none => exact .plain rfl
  | some g => exact .iface _ (.ptr 0 (hm _ (h g rfl)))
end
end Go.Dn.Ln
end

section
/-
  layer 11 (lane): the lane's functions as known calls
-/
namespace Go.Dn.Ln
open Go.Proofs
set_option maxHeartbeats 4000000
set_option maxRecDepth 100000
attribute [local irreducible] Hp.get Hp.set Hp.push dappend dcopy dstore cellsAt callD loopD

theorem badT_g {k : Nat} {s v : Int} {g : Nat} (h : badT k s v = some g) : g < 44 := by
  unfold badT at h
  split at h
  · split at h
    · cases h
    · cases h; decide
  · cases h; decide
theorem putT_g {ts : List Tk} {k s v : Int} {g : Nat} (h : (putT ts k s v).1 = some g) : g < 44 := by
  unfold putT at h
  split at h
  · cases h; decide
  · split at h
    · rename_i hb
      cases h
      exact badT_g hb
    · split at h
      · split at h
        · cases h; decide
        · split at h
          · cases h; decide
          · cases h
      · cases h

theorem TL_ok [Reps] (hR : ∀ k d B r, Reps.rep k d B r ↔ repL k d B r) (hCC : LC Reps.C) {base : CallT} (hB : CallOK Tryd.prog base) (hCw : Reps.C.wf) (hCn : Reps.C.next = 88) : CallOK Tryd.prog (TL base) := by
  refine withCall_ok (withCall_ok (withCall_ok (withCall_ok hB fnNew ?_) fnPut ?_) fnLen ?_) fnNext ?_
  · intro args A v A' h ρ w args' hr ha
    have h := byRel_some h
    cases h
    exact new_call hR hr hCw ha
  · intro args A v A' h ρ w args' hr ha
    have h := byRel_some h
    cases h with
    | mk _ i x hi k s v hv0 hv1 hn =>
      refine meth_call hR (n := 8) hr hi (x' := ⟨(putT x.ts k s v).2, x.n + 1⟩) (us := [.agg #[.int .i64 k, .int .u32 s, .int .u32 v]]) (fun r => .cons (VM.aggs (.cons (.plain rfl) (.cons (.plain rfl) (.cons (.plain rfl) .nil)))) .nil) ha
        (fun r => errO_vm (fun g hg => by have := putT_g hg; omega) fun a ha => .inr ⟨ha, rfl⟩) (fun B r S hw hC hx => ?_) hCC
      obtain ⟨B', S', r1, r2, r3⟩ := lane_put (in_ok 5).check 7 hw hC hx k s v hv0 hv1 hn
      exact ⟨B', S', callD_of (noneL _ _ _) (fn := Tryd.f17) rfl r1, r2, r3⟩
  · intro args A v A' h ρ w args' hr ha
    have h := byRel_some h
    cases h with
    | mk _ i x hi =>
      refine meth_call hR (n := 8) hr hi (x' := x) (us := []) (fun r => .nil) ha (fun r => .plain rfl) (fun B r S hw hC hx => ?_) hCC
      exact ⟨B, S, callD_of (noneL _ _ _) (fn := Tryd.f18) rfl (lane_len 7 hx), St.refl hw, hx⟩
  · intro args A v A' h ρ w args' hr ha
    have h := byRel_some h
    cases h with
    | mk _ i x hi hn =>
      refine meth_call hR (n := x.n + 4) hr hi (x' := ⟨x.ts.tail, x.n⟩) (us := []) (fun r => .nil) ha (fun r => ?_) (fun B r S hw hC hx => ?_) hCC
      · unfold nextV
        split
        · exact VM.tuples (.cons (VM.aggs (.cons (.plain rfl) (.cons (.plain rfl) (.cons (.plain rfl) .nil)))) (.cons (.plain rfl) .nil))
        · exact VM.tuples (.cons (VM.aggs (.cons (.plain rfl) (.cons (.plain rfl) (.cons (.plain rfl) .nil)))) (.cons (.plain rfl) .nil))
      · obtain ⟨call0, hd⟩ := (in_ok (x.n + 1)).drop
        obtain ⟨B', S', r1, r2, r3⟩ := lane_next hd (x.n + 3) hw hx hn (by omega) (by omega)
        refine ⟨B', S', callD_of (noneL _ _ _) (fn := Tryd.f19) rfl ?_, r2, r3⟩
        rw [r1]
        unfold nextV
        cases x.ts <;> rfl

/-- the lane's functions, called -/
structure LaneFns (call : CallT) : Prop where
  fixed : ∀ A, call 15 [] A = some (.bool true, A)
  new : ∀ {args A r}, NewR args A r → call 16 args A = some r
  put : ∀ {args A r}, PutR args A r → call 17 args A = some r
  len : ∀ {args A r}, LenR args A r → call 18 args A = some r
  next : ∀ {args A r}, NextR args A r → call 19 args A = some r
theorem TL_fns {base : CallT} (hw : ∀ A, base 15 [] A = some (.bool true, A)) (n : Nat) : LaneFns (callD Tryd.bk (TL base) n) := by
  refine ⟨fun A => callD_base (show TL base 15 _ A = _ from hw A) _, fun h => callD_base ?_ _, fun h => callD_base ?_ _, fun h => callD_base ?_ _, fun h => callD_base ?_ _⟩
  · exact byRel_of h fun r' h' => h.one h'
  · exact byRel_of h fun r' h' => h.one h'
  · exact byRel_of h fun r' h' => h.one h'
  · exact byRel_of h fun r' h' => h.one h'
end Go.Dn.Ln
end

section
/-
  LaneDrains, the plain law: tickets that go in come out, the grants of a stream as one
-/
namespace Go.Dn.Ln

/-- a grant for this stream -/
def isG (s : Int) (t : Tk) : Bool := t.1 == 3 && t.2.1 == s
def gsum (T : List Tk) (s : Int) : Int := ((T.filter (isG s)).map (·.2.2)).sum
/-- was there a grant for its stream before? -/
def laterB (pre : List Tk) (t : Tk) : Bool := t.1 == 3 && pre.any (isG t.2.1)
def firsts : List Tk → List Tk → List Tk
  | _, [] => []
  | pre, t :: r => if laterB pre t then firsts (pre ++ [t]) r else t :: firsts (pre ++ [t]) r
def asOne (T : List Tk) (t : Tk) : Tk := if t.1 = 3 then (3, t.2.1, gsum T t.2.1) else t
def mg (T : List Tk) : List Tk := (firsts [] T).map (asOne T)

theorem firsts_snoc : ∀ (r pre : List Tk) (t : Tk), firsts pre (r ++ [t]) = firsts pre r ++ if laterB (pre ++ r) t then [] else [t]
  | [], pre, t => by
    simp only [List.nil_append, firsts, List.append_nil]
  | x :: r, pre, t => by
    have e : pre ++ x :: r = pre ++ [x] ++ r := by simp
    simp only [List.cons_append, firsts, firsts_snoc r (pre ++ [x]) t, e]
    split <;> simp

theorem firsts_len : ∀ (r pre : List Tk), (firsts pre r).length ≤ r.length
  | [], _ => Nat.le_refl _
  | x :: r, pre => by
    have := firsts_len r (pre ++ [x])
    simp only [firsts]
    split <;> simp <;> omega

theorem firsts_sub : ∀ (r pre : List Tk), ∀ t ∈ firsts pre r, t ∈ r
  | [], _, t, h => by simp [firsts] at h
  | x :: r, pre, t, h => by
    simp only [firsts] at h
    split at h
    · exact List.mem_cons_of_mem _ (firsts_sub r _ t h)
    · rcases List.mem_cons.1 h with rfl | h
      · exact List.mem_cons_self
      · exact List.mem_cons_of_mem _ (firsts_sub r _ t h)

/-- each stream's grants have a first one -/
theorem firsts_has (s : Int) : ∀ (r pre : List Tk), pre.any (isG s) = false → r.any (isG s) = true → ∃ t ∈ firsts pre r, isG s t = true
  | [], pre, _, h => by simp at h
  | x :: r, pre, hp, h => by
    simp only [firsts]
    by_cases hx : isG s x = true
    · have hxe : x.1 = 3 ∧ x.2.1 = s := by simpa [isG] using hx
      have : laterB pre x = false := by
        unfold laterB
        rw [hxe.2, hp, Bool.and_false]
      rw [this]
      exact ⟨x, List.mem_cons_self, hx⟩
    · have hr : r.any (isG s) = true := by
        simp only [List.any_cons, Bool.or_eq_true] at h
        exact h.resolve_left hx
      have hp2 : (pre ++ [x]).any (isG s) = false := by
        rw [List.any_append, hp]
        simpa using hx
      obtain ⟨t, h1, h2⟩ := firsts_has s r (pre ++ [x]) hp2 hr
      refine ⟨t, ?_, h2⟩
      split
      · exact h1
      · exact List.mem_cons_of_mem _ h1

theorem gsum_snoc (T : List Tk) (t : Tk) (s : Int) : gsum (T ++ [t]) s = gsum T s + if isG s t then t.2.2 else 0 := by
  unfold gsum
  rw [List.filter_append, List.map_append, List.sum_append]
  by_cases h : isG s t = true
  · simp [h]
  · simp [h]

theorem gsum_none {T : List Tk} {s : Int} (h : T.any (isG s) = false) : gsum T s = 0 := by
  unfold gsum
  rw [List.filter_eq_nil_iff.2 fun t ht hh => by rw [List.any_eq_false] at h; exact h t ht hh]
  rfl

theorem mg_find {T : List Tk} {s : Int} : (mg T).any (sameT 3 s) = T.any (isG s) := by
  cases hT : T.any (isG s) with
  | true =>
    obtain ⟨t, h1, h2⟩ := firsts_has s T [] (by simp) hT
    have hte : t.1 = 3 ∧ t.2.1 = s := by simpa [isG] using h2
    refine List.any_eq_true.2 ⟨asOne T t, List.mem_map.2 ⟨t, h1, rfl⟩, ?_⟩
    unfold asOne
    rw [if_pos hte.1]
    simp [sameT, hte.2]
  | false =>
    refine List.any_eq_false.2 fun x hx hs => ?_
    unfold mg at hx
    obtain ⟨t, h1, rfl⟩ := List.mem_map.1 hx
    have h2 := firsts_sub T [] t h1
    have h3 := List.any_eq_false.1 hT t h2
    apply h3
    unfold asOne at hs
    split at hs
    · rename_i h4
      simp only [sameT, Bool.and_eq_true, beq_iff_eq, true_and] at hs
      simp [isG, h4, hs]
    · rename_i h4
      simp only [sameT, Bool.and_eq_true, beq_iff_eq] at hs
      exact absurd hs.1 h4

/-- a ticket that goes in -/
theorem mg_put {T : List Tk} {k s v : Int} {ts' : List Tk} (h : putT (mg T) k s v = (none, ts')) : ∃ kn : Nat, k = (kn : Nat) ∧ 1 ≤ kn ∧ kn ≤ 7 ∧ ts' = mg (T ++ [(kn, s, v)]) := by
  unfold putT at h
  split at h
  · cases h
  · rename_i hk
    obtain ⟨kn, rfl⟩ : ∃ kn : Nat, k = (kn : Nat) := ⟨k.toNat, by omega⟩
    rw [Int.toNat_natCast] at h
    refine ⟨kn, rfl, by omega, by omega, ?_⟩
    have other : (isG s (kn, s, v) = false ∨ T.any (isG s) = false) → laterB T (kn, s, v) = false → mg (T ++ [(kn, s, v)]) = mg T ++ [(kn, s, v)] := by
      intro h1 h2
      unfold mg
      rw [firsts_snoc, List.nil_append, h2, List.map_append]
      have e1 : (firsts [] T).map (asOne (T ++ [(kn, s, v)])) = (firsts [] T).map (asOne T) := by
        refine List.map_congr_left fun t ht => ?_
        have htT := firsts_sub T [] t ht
        unfold asOne
        by_cases h3 : t.1 = 3
        · rw [if_pos h3, if_pos h3, gsum_snoc, if_neg, Int.add_zero]
          intro hg
          have hge : kn = 3 ∧ s = t.2.1 := by simpa [isG] using hg
          rcases h1 with h1 | h1
          · rw [hge.1] at h1; simp [isG] at h1
          · have := List.any_eq_false.1 h1 t htT
            simp [isG, h3, hge.2] at this
        · rw [if_neg h3, if_neg h3]
      rw [e1]
      congr 1
      simp only [Bool.false_eq_true, if_false, List.map_cons, List.map_nil]
      congr 1
      unfold asOne
      by_cases h3 : kn = 3
      · subst h3
        rw [if_pos rfl, gsum_snoc]
        have h4 : T.any (isG s) = false := by
          rcases h1 with h1 | h1
          · simp [isG] at h1
          · exact h1
        rw [gsum_none h4]
        simp [isG]
      · rw [if_neg h3]
    split at h
    · cases h
    · cases hk2 : kyd kn with
      | false =>
        rw [hk2] at h
        simp only [Bool.false_eq_true, if_false, Prod.mk.injEq, true_and] at h
        subst h
        have hn3 : kn ≠ 3 := by rintro rfl; cases hk2
        exact (other (.inl (by simp [isG, hn3])) (by simp [laterB, hn3])).symm
      | true =>
        rw [hk2] at h
        simp only [if_true] at h
        cases hf : (mg T).find? (sameT kn s) with
        | none =>
          rw [hf] at h
          simp only [Prod.mk.injEq, true_and] at h
          subst h
          by_cases h3 : kn = 3
          · subst h3
            have h4 : T.any (isG s) = false := by
              rw [← mg_find]
              exact List.any_eq_false.2 fun x hx hs => by have := List.find?_eq_none.1 hf x hx; exact this hs
            exact (other (.inr h4) (by simp [laterB, h4])).symm
          · exact (other (.inl (by simp [isG, h3])) (by simp [laterB, h3])).symm
        | some t =>
          rw [hf] at h
          simp only at h
          cases ho : onceB kn with
          | true => rw [ho] at h; cases h
          | false =>
            rw [ho] at h
            simp only [Bool.false_eq_true, if_false] at h
            have h3 : kn = 3 := by
              unfold kyd at hk2
              rw [ho] at hk2
              simpa using hk2
            subst h3
            split at h
            · cases h
            · simp only [Prod.mk.injEq, true_and] at h
              subst h
              have h4 : T.any (isG s) = true := by
                rw [← mg_find]
                exact List.any_eq_true.2 ⟨t, List.mem_of_find?_eq_some hf, List.find?_some hf⟩
              unfold mg
              rw [firsts_snoc, List.nil_append, show laterB T (3, s, v) = true by simp [laterB, h4], if_pos rfl, List.append_nil, List.map_map]
              refine List.map_congr_left fun x hx => ?_
              simp only [Function.comp_apply]
              unfold asOne
              by_cases h5 : x.1 = 3
              · rw [if_pos h5, if_pos h5, gsum_snoc]
                by_cases h6 : x.2.1 = s
                · rw [if_pos (by simp [sameT, h6]), if_pos (by simp [isG, h6])]
                · rw [if_neg (by simp [sameT, h6]), if_neg (by simp [isG]; exact fun e => h6 e.symm)]
                  simp
              · rw [if_neg h5, if_neg h5, if_neg (by simp [sameT, h5])]

theorem putT_le {ts ts' : List Tk} {k s v : Int} (hv0 : 0 ≤ v) (hv1 : v ≤ 4294967295) (h : ∀ t ∈ ts, 0 ≤ t.2.2 ∧ t.2.2 ≤ 4294967295) (hp : (putT ts k s v).2 = ts') (hu : ∀ x ∈ ts, ∀ y ∈ ts, sameT 3 s x = true → sameT 3 s y = true → x = y) : ∀ t ∈ ts', 0 ≤ t.2.2 ∧ t.2.2 ≤ 4294967295 := by
  subst hp
  unfold putT
  split
  · exact h
  · split
    · exact h
    · rename_i kn
      split
      · rename_i t ht
        split
        · exact h
        · split
          · exact h
          · rename_i ho hov
            intro x hx
            simp only at hx
            obtain ⟨y, hy, rfl⟩ := List.mem_map.1 hx
            have := h y hy
            by_cases hs : sameT k.toNat s y = true
            · rw [if_pos hs]
              cases hk2 : kyd k.toNat with
              | false => rw [hk2] at ht; cases ht
              | true =>
                rw [hk2] at ht
                simp only [if_true] at ht
                have h3 : k.toNat = 3 := by
                  unfold kyd at hk2
                  have : onceB k.toNat = false := by simpa using ho
                  rw [this] at hk2
                  simpa using hk2
                rw [h3] at hs ht
                have := hu y hy t (List.mem_of_find?_eq_some ht) hs (List.find?_some ht)
                subst this
                simp only
                omega
            · rw [if_neg hs]; exact this
      · intro x hx
        simp only at hx
        rcases List.mem_append.1 hx with hx | hx
        · exact h x hx
        · simp only [List.mem_singleton] at hx
          subst hx
          exact ⟨hv0, hv1⟩
end Go.Dn.Ln
end

section
/-
  arguments that are slices, read
-/
namespace Go.Dn

/-- an argument's slice -/
inductive ArgSl (e sz : Nat) (A : Hp) : Value → List Value → Nat → Prop
  | nil (c : Nat) (hc : c ≤ 1) : ArgSl e sz A (.slice none 0 c) [] 0
  | at (id n : Nat) (us : List Value) (hg : A.get id = some (.arr e us .sh)) (hl : us.length = n * sz) : ArgSl e sz A (.slice (some ⟨id, 0, some sz⟩) n (2 * n)) us n

theorem ArgSl.len {e sz : Nat} {A : Hp} {v : Value} {us : List Value} {n : Nat} (h : ArgSl e sz A v us n) : us.length = n * sz := by
  cases h with
  | nil => simp
  | «at» _ _ _ _ hl => exact hl
theorem ArgSl.keep {e sz : Nat} {A A' : Hp} {v : Value} {us : List Value} {n : Nat} (h : ArgSl e sz A v us n) (hk : ∀ i o, A.get i = some o → A'.get i = some o) : ArgSl e sz A' v us n := by
  cases h with
  | nil c hc => exact .nil c hc
  | «at» id _ us hg hl => exact .at id n us (hk _ _ hg) hl

theorem ArgR.sl {H : Type} {T : TT} {A : Hp} {t e : TypeId} {d : DataW H} {cs : List Value} {i j : TI} (h : ArgR T A t d cs) (ht : T t = some i) (hd : i.d = .slice e) (he : T e = some j) :
    ∃ v, ∃ css : List (List Value), ∃ els, cs = [v] ∧ ArgSl e j.size A v css.flatten css.length ∧ els.length = css.length ∧ (d = .nil ∧ els = [] ∨ ∃ sp, d = .slice els sp) ∧
      (∀ (k : Nat) d c, els[k]? = some d → css[k]? = some c → ArgR T A e d c) ∧ (∀ (k : Nat) c, css[k]? = some c → c.length = j.size) ∧ css.length ≤ maxLen := by
  obtain ⟨a, css, els, c, z0, z1, z2, z3, z4, z5, z6, z7⟩ := h.slice_inv ht hd he
  subst z0
  refine ⟨_, css, els, rfl, ?_, z2, z4, z6, z5, z3⟩
  rcases z7 with ⟨rfl, rfl, hc⟩ | ⟨id, rfl, rfl, hg⟩
  · exact .nil c hc
  · exact .at id _ _ hg (flat_len css j.size z5)

theorem flat_one : ∀ {css : List (List Value)}, (∀ (k : Nat) c, css[k]? = some c → c.length = 1) → ∀ (j : Nat) (x : Value), css.flatten[j]? = some x → css[j]? = some [x]
  | [], _, j, x, h => by simp at h
  | c :: css, hl, j, x, h => by
    obtain ⟨y, rfl⟩ : ∃ y, c = [y] := by
      have := hl 0 c rfl
      match c, this with
      | [y], _ => exact ⟨y, rfl⟩
    cases j with
    | zero =>
      simp at h
      subst h
      rfl
    | succ j =>
      simp only [List.flatten_cons, List.cons_append, List.nil_append, List.getElem?_cons_succ] at h ⊢
      exact flat_one (fun k c hk => hl (k + 1) c (by simpa using hk)) j x h

/-- what a slice of numbers holds -/
theorem ints_of {H : Type} {T : TT} {A : Hp} {e : TypeId} {i : TI} {k : IntKind} (he : T e = some i) (hd : i.d = .int k) {css : List (List Value)} {els : List (DataW H)} (h1 : els.length = css.length)
    (h2 : ∀ (j : Nat) d c, els[j]? = some d → css[j]? = some c → ArgR T A e d c) (h3 : ∀ (j : Nat) c, css[j]? = some c → c.length = 1) : ∀ (j : Nat) x, css.flatten[j]? = some x → ∃ n, x = .int k n ∧ (Lit.int k n).wf = true := by
  intro j x hx
  have hc := flat_one h3 j x hx
  have hj : j < els.length := by rw [h1]; exact (List.getElem?_eq_some_iff.1 hc).1
  obtain ⟨n, _, e2, e3⟩ := (h2 j _ _ (List.getElem?_eq_getElem hj) hc).int_inv he hd
  cases e2
  exact ⟨n, rfl, e3⟩
end Go.Dn
namespace Go.Dn
/-- a row of a table -/
theorem flat_row : ∀ {css : List (List Value)} {sz : Nat}, (∀ (k : Nat) c, css[k]? = some c → c.length = sz) → ∀ (k : Nat) (c : List Value), css[k]? = some c → k * sz + sz ≤ css.flatten.length ∧ (css.flatten.drop (k * sz)).take sz = c
  | [], _, _, k, c, h => by simp at h
  | r :: css, sz, hl, k, c, h => by
    have hr := hl 0 r rfl
    cases k with
    | zero =>
      simp at h
      subst h
      simp only [Nat.zero_mul, List.drop_zero, List.flatten_cons, List.length_append, Nat.zero_add]
      refine ⟨by omega, ?_⟩
      rw [← hr, List.take_left]
    | succ k =>
      simp only [List.getElem?_cons_succ] at h
      obtain ⟨h1, h2⟩ := flat_row (sz := sz) (fun j c hj => hl (j + 1) c (by simpa using hj)) k c h
      simp only [List.flatten_cons, List.length_append, hr, Nat.add_mul, Nat.one_mul]
      refine ⟨by omega, ?_⟩
      rw [show k * sz + sz = r.length + k * sz by omega, List.drop_append, List.drop_eq_nil_of_le (by omega), List.nil_append]
      rw [show r.length + k * sz - r.length = k * sz by omega]
      exact h2
end Go.Dn
end
