/-
  Part of the abstract machine for this program.
-/
import Derived.Test.YtjhimcdahpncaaaDoorPF
import Derived.Test.YtjhimcdahpncaaaDoorPC

section
/-
  Put, by its walk
-/
namespace Go.Dn.Pipe
open Go.Proofs
set_option maxHeartbeats 4000000
set_option maxRecDepth 100000
attribute [local irreducible] Hp.get Hp.set Hp.push dappend dcopy dstore cellsAt callD loopD

theorem IsOut.plus {A A' : Hp} {p f : Nat} {io io' : Option Nat} {ps : List Pc} {g : Nat} (h : IsOut A p f io ps g) (y : Pc) (hp : A'.get p = A.get p) {rv : Value} (hf : A'.get f = some (.arr 141 [inMax, inMax, rv, .int .i64 (total ps + y.us.length : Nat)] .own))
    (hr : SlAt 143 2 A' rv io' (ps.flatMap rowOf ++ rowOf y) (ps.length + 1)) (hx : ∀ x ∈ ps, A'.get x.i = A.get x.i) (hy : SlAt 5 1 A' y.v (some y.i) y.us y.us.length) (hne : y.us ≠ []) : IsOut A' p f io' (ps ++ [y]) g := by
  refine ⟨by rw [hp]; exact h.hp, ⟨rv, by rw [total_append]; exact hf, by simpa using hr⟩, fun x hxm => ?_, ?_⟩
  · rcases List.mem_append.1 hxm with hm | hm
    · exact ⟨(h.hx x hm).1.keep fun i hi => by cases hi; exact hx x hm, (h.hx x hm).2⟩
    · simp only [List.mem_singleton] at hm
      subst hm
      exact ⟨hy, hne⟩
  · rcases h.hg with e | ⟨x, ps', e1, e2⟩
    · exact .inl e
    · exact .inr ⟨x, ps' ++ [y], by rw [e1]; rfl, e2⟩

variable {base : CallT} (hb : ∀ f args A, f ∉ [61, 12, 20, 38, 27] → base f args A = none)
include hb

theorem enc16_ok (n : Nat) : Enc16 (callD Tryd.bk base (n + 1)) := fun v hw => by
  obtain ⟨A', r1, r2, r3⟩ := b16_walk (call := callD Tryd.bk base n) n hw v
  exact ⟨A', callD_of (hb _ _ _ (by decide)) (fn := Tryd.f74) rfl r1, r2, r3⟩
theorem enc32_ok (n : Nat) : Enc32 (callD Tryd.bk base (n + 1)) := fun v hw => by
  obtain ⟨A', r1, r2, r3⟩ := b32_walk (call := callD Tryd.bk base n) n hw v
  exact ⟨A', callD_of (hb _ _ _ (by decide)) (fn := Tryd.f75) rfl r1, r2, r3⟩
theorem enc_ok (n : Nat) : EncOK (callD Tryd.bk base (n + 2)) := fun hw ver typ fl st ln => by
  obtain ⟨b, A', r1, r2⟩ := encode_walk (enc16_ok hb n) (enc32_ok hb n) (n + 1) hw ver typ fl st ln
  exact ⟨b, A', callD_of (hb _ _ _ (by decide)) (fn := Tryd.f67) rfl r1, r2⟩
theorem size_ok (n : Nat) : SizeOK (callD Tryd.bk base (n + 1)) := fun A ver typ fl st ln =>
  callD_of (hb _ _ _ (by decide)) (fn := Tryd.f66) rfl (size_walk n A ver typ fl st ln)
theorem bytes_ok (n : Nat) {A : Hp} (hw : A.wf) (ver typ fl st ln : Int) {a : Option Addr} {c : Nat} {us : List Value} (hB : BsAt A (.slice a us.length c) us) (hl : us.length ≤ 100000000) (hsz : (us.length : Int) = szOf typ ln) :
    ∃ V A' io, callD Tryd.bk base (n + 3) 41 [.agg #[.int .u8 ver, .int .u8 typ, .int .u16 fl, .int .u32 st, .int .u32 ln, .slice a us.length c]] A = some (.tuple #[V, .nilIface], A') ∧ Kp A A' ∧ SlAt 5 1 A' V (some io) (hdrOf ver typ fl st ln ++ us) (12 + us.length) ∧ A.next ≤ io := by
  obtain ⟨V, A', io, r1, r2⟩ := bytes_walk (size_ok hb (n + 1)) (enc_ok hb n) (n + 2) hw ver typ fl st ln hB hl hsz
  exact ⟨V, A', io, callD_of (hb _ _ _ (by decide)) (fn := Tryd.f41) rfl r1, r2⟩
theorem bytes_no (n : Nat) {A : Hp} (hw : A.wf) (ver typ fl st ln : Int) {a : Option Addr} {c m : Nat} (h5 : A.get 5 = some (er 5)) (hsz : (m : Int) ≠ szOf typ ln) :
    ∃ A', callD Tryd.bk base (n + 3) 41 [.agg #[.int .u8 ver, .int .u8 typ, .int .u16 fl, .int .u32 st, .int .u32 ln, .slice a m c]] A = some (.tuple #[.slice none 0 0, .iface 168 (.pointer (some ⟨48, 0, none⟩))], A') ∧ Kp A A' := by
  obtain ⟨A', r1, r2⟩ := bytes_bad (size_ok hb (n + 1)) (n + 2) hw ver typ fl st ln (a := a) (c := c) h5 hsz
  exact ⟨A', callD_of (hb _ _ _ (by decide)) (fn := Tryd.f41) rfl r1, r2⟩

/-- a frame that has bytes goes in -/
theorem out_put (n : Nat) {A : Hp} {p f : Nat} {io : Option Nat} {ps : List Pc} {g : Nat} (h : IsOut A p f io ps g) (hw : A.wf) (ver typ fl st ln : Int) {a : Option Addr} {c : Nat} {us : List Value} (hB : BsAt A (.slice a us.length c) us) (hl : us.length ≤ 100000000)
    (hsz : (us.length : Int) = szOf typ ln) (hT : total ps ≤ 1000000000) (hP : ps.length ≤ 1000000000) :
    ∃ io' A' y, callD Tryd.bk base (n + 4) 43 [ptr p, .agg #[.int .u8 ver, .int .u8 typ, .int .u16 fl, .int .u32 st, .int .u32 ln, .slice a us.length c]] A = some (.nilIface, A') ∧ A'.wf ∧ A.next ≤ A'.next ∧
      IsOut A' p f io' (ps ++ [y]) g ∧ y.us = hdrOf ver typ fl st ln ++ us ∧ A.next ≤ y.i ∧ (∀ j, j < A.next → j ≠ f → io ≠ some j → A'.get j = A.get j) ∧ (∀ i, io' = some i → A.next ≤ i) := by
  obtain ⟨rv, h1, h2⟩ := h.hf
  let F : List Value := [.int .u8 ver, .int .u8 typ, .int .u16 fl, .int .u32 st, .int .u32 ln, .slice a us.length c]
  let A1 : Hp := A.push (.arr 86 F .own)
  have k1 : Kp A A1 := Kp.push hw _
  have n1 : A1.next = A.next + 1 := by simp [A1]
  have q1 : A1.get A.next = some (.arr 86 F .own) := Hp.get_push_same _ _
  obtain ⟨V, A2, iy, b1, b2, b3, b4⟩ := bytes_ok hb n k1.wf ver typ fl st ln (hB.old hw k1.old) hl hsz
  have k2 : Kp A A2 := k1.trans b2
  have hpl := hw.lt h.hp
  have hfl := hw.lt h1
  have hp2 : A2.get p = some (.arr 131 [ptr f, .int .i64 g] .own) := by rw [k2.old p hpl]; exact h.hp
  have hf2 : A2.get f = some (.arr 141 [inMax, inMax, rv, .int .i64 (total ps)] .own) := by rw [k2.old f hfl]; exact h1
  have hiolt : ∀ i, io = some i → i < A.next := by
    rintro i rfl
    obtain ⟨cs, hcs⟩ := h2.lt
    exact hw.lt hcs
  have hr2 := h2.keep (A' := A2) fun i hi => k2.old i (hiolt i hi)
  have hyl : (hdrOf ver typ fl st ln ++ us).length = 12 + us.length := by rw [List.length_append, hdr_len]
  generalize hY : hdrOf ver typ fl st ln ++ us = ys at b3 hyl
  generalize hyn : 12 + us.length = yn at b3 hyl
  obtain ⟨xcs, hxg⟩ := b3.lt
  have hiy2 := b2.wf.lt hxg
  cases hb3 : b3 with
  | «at» _ xo _ xc cs _ hc hg hl' hu =>
  have hfp := h.ne
  obtain ⟨rv', io', A3, c1, c2, c3, c4, c5, c6, c7⟩ := fifo_put hb (n + 2) (A := A2) (f := f) (t := 9223372036854775807) (mo := 9223372036854775807) (k := (yn : Nat)) (w := (total ps : Int)) (xi := iy) (xo := xo) (xn := yn) (xc := xc) b2.wf hf2 hr2 (by omega) (by omega) (by omega) (by omega) (by omega) (by omega)
  have hn2 := k2.nx
  have keep : ∀ j, j < A.next → j ≠ f → io ≠ some j → A3.get j = A.get j := fun j hj hjf hji => by rw [c6 j (by omega) hjf hji, k2.old j hj]
  have hiop : io ≠ some p := by
    rintro rfl
    obtain ⟨cs, hcs⟩ := h2.lt
    rw [h.hp] at hcs; cases hcs
  have hyk : A3.get iy = A2.get iy := c6 iy hiy2 (by omega) (fun e => by have := hiolt iy e; omega)
  refine ⟨io', A3, ⟨iy, .slice (some ⟨iy, xo, some 1⟩) yn xc, ys⟩, ?run, c2, by omega, h.plus (rv := rv') _ (keep p hpl (fun e => hfp e.symm) hiop) ?hf ?hr ?hx ?hy ?hne, rfl, by show A.next ≤ iy; omega, keep, fun i hi => ?hi⟩
  case hf =>
    rw [c4]
    simp only [hyl]
    rfl
  case hr =>
    simp only [rowOf, hyl]
    exact c5
  case hx =>
    intro x hx
    obtain ⟨cs2, hcs2⟩ := (h.hx x hx).1.lt
    refine keep x.i (hw.lt hcs2) ?_ ?_
    · intro e; rw [e, h1] at hcs2; cases hcs2
    · rintro rfl
      obtain ⟨cs3, hcs3⟩ := h2.lt
      rw [hcs3] at hcs2; cases hcs2
  case hy =>
    simp only [hyl]
    exact b3.keep fun i hi => by cases hi; exact hyk
  case hne =>
    simp only
    intro e
    rw [e] at hyl
    simp at hyl
    omega
  case hi =>
    obtain ⟨i', e, e2, _⟩ := c7
    rw [e] at hi; cases hi
    omega
  case run =>
    refine callD_of (hb _ _ _ (by decide)) (fn := Tryd.f43) rfl ?_
    conv => lhs; whnf
    refine bind_of (cellsAt_of q1 _ _) ?_
    conv => lhs; whnf
    refine bind_of b1 ?_
    conv => lhs; whnf
    refine bind_of (cellsAt_of hp2 _ _) ?_
    conv => lhs; whnf
    refine bind_of c1 ?_
    conv => lhs; whnf
    rfl

/-- a frame that has none is refused -/
theorem out_put_no (n : Nat) {A : Hp} {p : Nat} {o : Ob} (_hp : A.get p = some o) (hw : A.wf) (ver typ fl st ln : Int) {a : Option Addr} {c m : Nat} (h5 : A.get 5 = some (er 5)) (hsz : (m : Int) ≠ szOf typ ln) :
    ∃ A', callD Tryd.bk base (n + 4) 43 [ptr p, .agg #[.int .u8 ver, .int .u8 typ, .int .u16 fl, .int .u32 st, .int .u32 ln, .slice a m c]] A = some (.iface 168 (.pointer (some ⟨48, 0, none⟩)), A') ∧ Kp A A' := by
  let F : List Value := [.int .u8 ver, .int .u8 typ, .int .u16 fl, .int .u32 st, .int .u32 ln, .slice a m c]
  let A1 : Hp := A.push (.arr 86 F .own)
  have k1 : Kp A A1 := Kp.push hw _
  have q1 : A1.get A.next = some (.arr 86 F .own) := Hp.get_push_same _ _
  obtain ⟨A2, b1, b2⟩ := bytes_no hb n k1.wf ver typ fl st ln (a := a) (c := c) (by rw [k1.old 5 (hw.lt h5)]; exact h5) hsz
  refine ⟨A2, ?run, k1.trans b2⟩
  case run =>
    refine callD_of (hb _ _ _ (by decide)) (fn := Tryd.f43) rfl ?_
    conv => lhs; whnf
    refine bind_of (cellsAt_of q1 _ _) ?_
    conv => lhs; whnf
    refine bind_of b1 ?_
    conv => lhs; whnf
    rfl
end Go.Dn.Pipe
end

section
/-
  a buffer as an abstract object, and its methods' contracts
-/
namespace Go.Dn.Pipe
open Go.Proofs
set_option maxHeartbeats 4000000
set_option maxRecDepth 100000
attribute [local irreducible] Hp.get Hp.set Hp.push dappend dcopy dstore cellsAt callD loopD

/-- what a buffer holds: what is left of each frame; a bound of all that ever went in -/
structure OX where
  fs : List (List Value)
  n : Nat

def OX.dat (x : OX) : Dat := .l [.l (x.fs.map fun u => .l (u.map .v)), .v (.int .i64 x.n)]

theorem map_l_inj : ∀ {a b : List (List Value)}, a.map (fun u => Dat.l (u.map .v)) = b.map (fun u => Dat.l (u.map .v)) → a = b
  | [], [], _ => rfl
  | [], _ :: _, h => by simp at h
  | _ :: _, [], h => by simp at h
  | x :: a, y :: b, h => by
    simp only [List.map_cons, List.cons.injEq, Dat.l.injEq] at h
    rw [map_v_inj h.1, map_l_inj h.2]

theorem OX.dat_inj {x y : OX} (h : x.dat = y.dat) : x = y := by
  obtain ⟨a, b⟩ := x
  obtain ⟨a', b'⟩ := y
  simp only [OX.dat, Dat.l.injEq, List.cons.injEq, Dat.v.injEq, Value.int.injEq, and_true, true_and] at h
  obtain ⟨h1, h2⟩ := h
  have := map_l_inj h1
  have h2 : b = b' := by omega
  subst h2 this
  rfl

def RepO (x : OX) (B : Hp) (r : Nat) : Prop := ∃ f io ps g, IsOut B r f io ps g ∧ rem ps g = x.fs ∧ total ps ≤ x.n ∧ ps.length ≤ x.n ∧ ∀ y ∈ ps, ∀ u ∈ y.us, plain0 u = true
def repO (k : Nat) (d : Dat) (B : Hp) (r : Nat) : Prop := k = 2 ∧ B.wf ∧ ∃ x, d = OX.dat x ∧ RepO x B r

/-- the part of a heap that a buffer needs -/
theorem IsOut.close [Reps] {A : Hp} {p f : Nat} {io : Option Nat} {ps : List Pc} {g : Nat} (h : IsOut A p f io ps g) (hw : A.wf) (hC : ∀ i o, Reps.C.get i = some o → A.get i = some o) :
    ∃ B2, (∀ i o, B2.get i = some o → A.get i = some o) ∧ B2.next = A.next ∧ (∀ i o, Reps.C.get i = some o → B2.get i = some o) ∧ IsOut B2 p f io ps g ∧ B2.wf ∧ (∃ o, B2.get p = some o ∧ o.md = .own) ∧ Tight B2 ∧
      ∀ j, Reps.C.next ≤ j → j ≠ p → j ≠ f → io ≠ some j → (∀ x ∈ ps, x.i ≠ j) → B2.get j = none := by
  obtain ⟨rv, h1, h2⟩ := h.hf
  let L : List Nat := p :: f :: (io.toList ++ (ps.map (·.i) ++ List.range Reps.C.next))
  have mem : ∀ j, j ∈ L ↔ (j = p ∨ j = f ∨ io = some j ∨ (∃ x ∈ ps, x.i = j) ∨ j < Reps.C.next) := by
    intro j
    simp only [L, List.mem_cons, List.mem_append, Option.mem_toList, List.mem_map, List.mem_range]
  have hP : IsOut (pickL A L) p f io ps g := h.keep fun j o _ hj => pickL_in ((mem j).2 (by
    rcases hj with e | e | e | e
    · exact .inl e
    · exact .inr (.inl e)
    · exact .inr (.inr (.inl e))
    · exact .inr (.inr (.inr (.inl e)))))
  refine ⟨pickL A L, fun i o hi => (pickL_sub hi).1, pickL_next A L, fun i o hi => ?_, hP, pickL_wf hw L, ⟨_, hP.hp, rfl⟩, fun j o hj => ?_, fun j j1 j2 j3 j4 j5 => pickL_out fun hm => ?_⟩
  · rw [pickL_in ((mem i).2 (.inr (.inr (.inr (.inr (Reps.Cro i o hi).1)))))]; exact hC i o hi
  · obtain ⟨q1, q2⟩ := pickL_sub hj
    rcases (mem j).1 q2 with e | e | e | ⟨x, hx, e⟩ | e
    · subst e; rw [h.hp] at q1; cases q1; exact .inr rfl
    · subst e; rw [h1] at q1; cases q1; exact .inr rfl
    · subst e
      obtain ⟨cs, hcs⟩ := h2.lt
      rw [hcs] at q1; cases q1; exact .inr rfl
    · subst e
      obtain ⟨cs, hcs⟩ := (h.hx x hx).1.lt
      rw [hcs] at q1; cases q1; exact .inr rfl
    · exact .inl e
  · rcases (mem j).1 hm with e | e | e | ⟨x, hx, e⟩ | e
    · exact j2 e
    · exact j3 e
    · exact j4 e
    · exact j5 x hx e
    · omega

/-- constants are none of a buffer's parts -/
theorem IsOut.apart [Reps] {B : Hp} {p f : Nat} {io : Option Nat} {ps : List Pc} {g : Nat} (h : IsOut B p f io ps g) (hCB : ∀ i o, Reps.C.get i = some o → B.get i = some o) : ∀ j o, Reps.C.get j = some o → j ≠ p ∧ j ≠ f ∧ io ≠ some j := by
  intro j o hj
  have hjB := hCB j o hj
  have hro := (Reps.Cro _ _ hj).2
  obtain ⟨rv, h1, h2⟩ := h.hf
  refine ⟨?_, ?_, ?_⟩
  · rintro rfl
    rw [h.hp] at hjB; cases hjB; cases hro
  · rintro rfl
    rw [h1] at hjB; cases hjB; cases hro
  · rintro rfl
    obtain ⟨cs, hcs⟩ := h2.lt
    rw [hcs] at hjB; cases hjB; cases hro

theorem hdr_plain (ver typ fl st ln : Int) : ∀ u ∈ hdrOf ver typ fl st ln, plain0 u = true := fun u hu =>
  List.all_eq_true.1 (show (hdrOf ver typ fl st ln).all plain0 = true from rfl) u hu

theorem rem_plus {ps : List Pc} {g : Nat} (y : Pc) (h : ps = [] → g = 0) : rem (ps ++ [y]) g = rem ps g ++ [y.us] := by
  cases ps with
  | nil =>
    rw [h rfl]
    simp [rem]
  | cons x l => simp [rem]

variable [Reps] (hR : ∀ k d B r, Reps.rep k d B r ↔ repO k d B r)
include hR

def OX.new : OX := ⟨[], 0⟩

theorem newO_call {g : Gh} {A : Hp} {w : World} (hA : RelX Tryd.prog g A w) (hCw : Reps.C.wf) {args' : Array Value} (ha : AR g.ρ [].toArray args') :
    Calls Tryd.prog 39 args' w fun e w' => ∃ v', e = .returned v' ∧ After Tryd.prog g A w (ptr A.next) (A.push (.abs 2 OX.new.dat)) v' w' := by
  have hC := callD_ok Tryd.good (noCalls_ok _) 6
  let B' : Hp := (Reps.C.push (.arr 141 [inMax, inMax, .slice none 0 0, .int .i64 0] .own)).push (.arr 131 [ptr Reps.C.next, .int .i64 0] .own)
  have hB' : B' = (Reps.C.push (.arr 141 [inMax, inMax, .slice none 0 0, .int .i64 0] .own)).push (.arr 131 [ptr Reps.C.next, .int .i64 0] .own) := rfl
  have hp : B'.get (Reps.C.next + 1) = some (.arr 131 [ptr Reps.C.next, .int .i64 0] .own) := by
    rw [hB', Hp.get_push, if_pos (by simp)]
  have hf : B'.get Reps.C.next = some (.arr 141 [inMax, inMax, .slice none 0 0, .int .i64 0] .own) := by
    rw [hB', Hp.get_push_ne _ _ (by simp)]; exact Hp.get_push_same _ _
  have hC2 : ∀ i o, Reps.C.get i = some o → B'.get i = some o := by
    intro i o hi
    have := (Reps.Cro i o hi).1
    rw [hB', Hp.get_push_ne _ _ (by simp; omega), Hp.get_push_ne _ _ (by omega)]; exact hi
  have hP : IsOut B' (Reps.C.next + 1) Reps.C.next none [] 0 := ⟨hp, ⟨_, hf, .nil⟩, by simp, .inl rfl⟩
  have hw : B'.wf := (hCw.push _).push _
  obtain ⟨B2, c1, c2, c3, c4, c5, c6, c7, _⟩ := hP.close hw hC2
  refine call_new hC hA (k := 2) (x := OX.new.dat) (im := []) (ims := []) rfl (by simp) ha (largs := []) .nil (v := ptr (Reps.C.next + 1)) (B' := B') (B2 := B2) (r := Reps.C.next + 1) ?_ c1 (by omega) c3
    ((hR _ _ _ _).2 ⟨rfl, c5, _, rfl, Reps.C.next, none, [], 0, c4, rfl, Nat.le_refl _, Nat.le_refl _, by simp⟩) c6 c7 (.ptr 0 (.inr ⟨rfl, rfl⟩))
  exact out_new nc_none 4

/-- a method that only looks -/
theorem lookO_call {g : Gh} {A : Hp} {w : World} (hA : RelX Tryd.prog g A w) {i : Nat} {x : OX} (hi : A.get i = some (.abs 2 x.dat)) {f : FuncId} {u : Value} (hu : plain0 u = true) {args' : Array Value} (ha : AR g.ρ [ptr i].toArray args')
    (hrun : ∀ B r, B.wf → RepO x B r → callD Tryd.bk noCalls 6 f [ptr r] B = some (u, B)) :
    Calls Tryd.prog f args' w fun e w' => ∃ v', e = .returned v' ∧ After Tryd.prog g A w u (A.set i (some (.abs 2 x.dat))) v' w' := by
  have hC := callD_ok Tryd.good (noCalls_ok _) 6
  refine call_method hC hA hi (k' := 2) (im := []) (ims := []) rfl (by simp) [] (by simp) ha (fun r _ => [ptr r]) (fun r n => .cons (.ptr 0 (.inl ⟨rfl, rfl⟩)) .nil) u ?_
  intro B r hCB hw hCn hrep
  obtain ⟨_, _, y, e1, f', io, ps, gg, r1, r2, r3, r4, r5⟩ := (hR _ _ _ _).1 hrep
  obtain rfl := OX.dat_inj e1
  obtain ⟨B2, c1, c2, c3, c4, c5, c6, c7, _⟩ := r1.close hw hCB
  exact ⟨u, B, B2, [], hrun B r hw ⟨f', io, ps, gg, r1, r2, r3, r4, r5⟩, c1, by omega, c3, (hR _ _ _ _).2 ⟨rfl, c5, _, rfl, f', io, ps, gg, c4, r2, r3, r4, r5⟩, c6, c7, rfl, .nil, by simp, .plain hu⟩

theorem lenO_call {g : Gh} {A : Hp} {w : World} (hA : RelX Tryd.prog g A w) {i : Nat} {x : OX} (hi : A.get i = some (.abs 2 x.dat)) (hx : x.n ≤ 1000000000) {args' : Array Value} (ha : AR g.ρ [ptr i].toArray args') :
    Calls Tryd.prog 45 args' w fun e w' => ∃ v', e = .returned v' ∧ After Tryd.prog g A w (.int .i64 x.fs.flatten.length) (A.set i (some (.abs 2 x.dat))) v' w' :=
  lookO_call hR hA hi rfl ha fun B r hw hrep => by
    obtain ⟨f, io, ps, gg, r1, r2, r3, r4, r5⟩ := hrep
    obtain ⟨rv, h1, h2⟩ := r1.hf
    have hfl := rem_flat ps gg r1.hg
    rw [r2] at hfl
    have hg : gg ≤ total ps := by
      rcases r1.hg with e | ⟨z, ps', e1, e2⟩
      · omega
      · rw [e1]; simp only [total]; omega
    have := out_len nc_none 4 r1.hp h1 r1.ne
    rw [this]
    have e : (total ps : Int) - gg = (x.fs.flatten.length : Nat) := by omega
    rw [e, wrap64 (by omega) (by omega)]

theorem framesO_call {g : Gh} {A : Hp} {w : World} (hA : RelX Tryd.prog g A w) {i : Nat} {x : OX} (hi : A.get i = some (.abs 2 x.dat)) {args' : Array Value} (ha : AR g.ρ [ptr i].toArray args') :
    Calls Tryd.prog 46 args' w fun e w' => ∃ v', e = .returned v' ∧ After Tryd.prog g A w (.int .i64 x.fs.length) (A.set i (some (.abs 2 x.dat))) v' w' :=
  lookO_call hR hA hi rfl ha fun B r hw hrep => by
    obtain ⟨f, io, ps, gg, r1, r2, _⟩ := hrep
    have hl : ps.length = x.fs.length := by
      rw [← r2]
      cases ps with
      | nil => rfl
      | cons y l => simp [rem]
    rw [← hl]
    exact out_frames nc_none 4 r1

theorem clear0_call {g : Gh} {A : Hp} {w : World} (hA : RelX Tryd.prog g A w) {i : Nat} {x : OX} (hi : A.get i = some (.abs 2 x.dat)) (hx : x.fs = []) {args' : Array Value} (ha : AR g.ρ [ptr i].toArray args') :
    Calls Tryd.prog 47 args' w fun e w' => ∃ v', e = .returned v' ∧ After Tryd.prog g A w (.int .i64 0) (A.set i (some (.abs 2 x.dat))) v' w' :=
  lookO_call hR hA hi rfl ha fun B r hw hrep => by
    obtain ⟨f, io, ps, gg, r1, r2, _⟩ := hrep
    rw [hx] at r2
    obtain rfl : ps = [] := by
      cases ps with
      | nil => rfl
      | cons y l => simp [rem] at r2
    obtain rfl : gg = 0 := by
      rcases r1.hg with e | ⟨z, ps', e1, e2⟩
      · exact e
      · cases e1
    exact out_clear0 nc_none 3 r1

theorem takeO_call {g : Gh} {A : Hp} {w : World} (hA : RelX Tryd.prog g A w) {i : Nat} {x : OX} (hi : A.get i = some (.abs 2 x.dat)) {n : Int} (hn : n ≤ 9223372036854775807) (hx : x.n ≤ 1000000000)
    (hpl : ∀ u ∈ x.fs.flatten, plain0 u = true) {args' : Array Value} (ha : AR g.ρ [ptr i, .int .i64 n].toArray args') :
    Calls Tryd.prog 44 args' w fun e w' => ∃ v', e = .returned v' ∧ After Tryd.prog g A w (outV A.next (x.fs.flatten.take n.toNat))
      (pushL .own (A.set i (some (.abs 2 (OX.dat { x with fs := dropF n.toNat x.fs })))) (outE (x.fs.flatten.take n.toNat))) v' w' := by
  have hC := callD_ok Tryd.good (noCalls_ok _) (x.n + 4)
  refine call_method hC hA hi (k' := 2) (im := []) (ims := []) rfl (by simp) (outE (x.fs.flatten.take n.toNat)) ?_ ha (fun r _ => [ptr r, .int .i64 n]) ?_ (outV A.next (x.fs.flatten.take n.toNat)) ?_
  · intro e he u hu
    cases ho : x.fs.flatten.take n.toNat with
    | nil => rw [ho] at he; simp [outE] at he
    | cons a l =>
      rw [ho] at he
      simp only [outE, List.mem_singleton] at he
      subst he
      rw [← ho] at hu
      exact hpl u (List.mem_of_mem_take hu)
  · intro r n'
    exact .cons (.ptr 0 (.inl ⟨rfl, rfl⟩)) (.cons (.plain rfl) .nil)
  · intro B r hCB hw hCn hrep
    obtain ⟨_, _, y, e1, f, io, ps, gg, r1, r2, r3, r4, r6⟩ := (hR _ _ _ _).1 hrep
    obtain rfl := OX.dat_inj e1
    obtain ⟨v, iv, A', ps', g', q1, q2, q4, q5, q6, q7, q8, q9, q10⟩ := out_take nc_none x.n r1 hw hn (by omega) (by omega)
    rw [r2] at q2 q4
    have hap := r1.apart hCB
    have hCA : ∀ i o, Reps.C.get i = some o → A'.get i = some o := fun j o hj => by
      obtain ⟨a1, a2, a3⟩ := hap j o hj
      rw [q9 j (by have := (Reps.Cro j o hj).1; omega) a1 a2 a3]
      exact hCB j o hj
    obtain ⟨B2, c1, c2, c3, c4, c5, c6, c7, c8⟩ := q5.close q6 hCA
    have hold : ∀ j, B.next ≤ j → B2.get j = none := by
      intro j hj
      refine c8 j (by omega) ?_ ?_ ?_ ?_
      · have := hw.lt r1.hp; omega
      · obtain ⟨rv, h1, _⟩ := r1.hf
        have := hw.lt h1; omega
      · rintro rfl
        obtain ⟨rv, _, h2⟩ := r1.hf
        obtain ⟨cs2, hcs⟩ := h2.lt
        have := hw.lt hcs; omega
      · intro z hz e
        subst e
        obtain ⟨cs2, hcs⟩ := (r1.hx z (q10.mem hz)).1.lt
        have := hw.lt hcs; omega
    have hlen : ps'.length ≤ ps.length := q10.length_le
    have htot := total_suffix q10
    have hrep2 : Reps.rep 2 (OX.dat { x with fs := dropF n.toNat x.fs }) B2 r := by
      refine (hR _ _ _ _).2 ⟨rfl, c5, _, rfl, f, io, ps', g', c4, q4, ?_, ?_, fun z hz => r6 z (q10.mem hz)⟩
      · show total ps' ≤ x.n; omega
      · show ps'.length ≤ x.n; omega
    cases ho : x.fs.flatten.take n.toNat with
    | nil =>
      rw [ho] at q2
      cases q2 with
      | nil => exact ⟨_, A', B2, [], q1, c1, by omega, c3, hrep2, c6, c7, rfl, .nil, by simp [outE], .plain rfl⟩
      | «at» _ _ _ _ _ hp => exact absurd rfl hp
    | cons a l =>
      rw [ho] at q2
      generalize hus : a :: l = us at q2
      generalize hk : us.length = k at q2
      cases q2 with
      | nil => simp at hus
      | «at» iv _ _ hg hl hp =>
      have hiv := q8 iv rfl
      refine ⟨_, A', B2, [iv], q1, c1, by omega, c3, hrep2, c6, c7, by subst hus; rfl, by simp, ?_, ?_⟩
      · intro t e j h1 h2
        subst hus
        match t, h1, h2 with
        | 0, h1, h2 =>
          simp only [outE, List.getElem?_cons_zero, Option.some.injEq] at h1 h2
          subst h1 h2
          exact ⟨hg, hold iv hiv⟩
      · subst hk hus
        exact .slice 0 1 _ _ (.inr (.inr ⟨0, rfl, rfl⟩))

def frm (ver typ fl st ln : Int) (v : Value) : Value := .agg #[.int .u8 ver, .int .u8 typ, .int .u16 fl, .int .u32 st, .int .u32 ln, v]

theorem putO_call {g : Gh} {A : Hp} {w : World} (hA : RelX Tryd.prog g A w) {i : Nat} {x : OX} (hi : A.get i = some (.abs 2 x.dat)) (ver typ fl st ln : Int) {bi bo bn bc : Nat} {us cs : List Value} {m : Md}
    (hb : A.get bi = some (.arr 5 cs m)) (hpl : ∀ u ∈ cs, plain0 u = true) (hpu : ∀ u ∈ us, plain0 u = true) (he : BsAt A (.slice (some ⟨bi, bo, some 1⟩) bn bc) us) (hsz : (us.length : Int) = szOf typ ln) (hn : x.n + 12 + us.length ≤ 100000000) {args' : Array Value}
    (ha : AR g.ρ [ptr i, frm ver typ fl st ln (.slice (some ⟨bi, bo, some 1⟩) bn bc)].toArray args') :
    Calls Tryd.prog 43 args' w fun e w' => ∃ v', e = .returned v' ∧ After Tryd.prog g A w .nilIface (A.set i (some (.abs 2 (OX.dat ⟨x.fs ++ [hdrOf ver typ fl st ln ++ us], x.n + 12 + us.length⟩)))) v' w' := by
  have hC := callD_ok Tryd.good (noCalls_ok _) 8
  have hbl := bs_len he
  refine call_method hC hA hi (k' := 2) (im := [(5, cs)]) (ims := [bi]) rfl ?_ [] (by simp) ha (fun r n => [ptr r, frm ver typ fl st ln (.slice (some ⟨n, bo, some 1⟩) bn bc)]) ?_ .nilIface ?_
  · intro t e j h1 h2
    match t, h1, h2 with
    | 0, h1, h2 =>
      simp only [List.getElem?_cons_zero, Option.some.injEq] at h1 h2
      subst h1 h2
      exact ⟨⟨m, hb⟩, hpl⟩
  · intro r n
    exact .cons (.ptr 0 (.inl ⟨rfl, rfl⟩)) (.cons (VM.aggs (.cons (.plain rfl) (.cons (.plain rfl) (.cons (.plain rfl) (.cons (.plain rfl) (.cons (.plain rfl) (.cons (.slice bo 1 bn bc (.inr (.inr ⟨0, rfl, rfl⟩))) .nil))))))) .nil)
  · intro B r hCB hw hCn hrep
    obtain ⟨_, _, y, e1, f, io, ps, gg, r1, r2, r3, r4, r6⟩ := (hR _ _ _ _).1 hrep
    obtain rfl := OX.dat_inj e1
    have hBw : (B.push (.arr 5 cs .sh)).wf := hw.push _
    have hP : IsOut (B.push (.arr 5 cs .sh)) r f io ps gg := r1.keep fun j o hj _ => Hp.get_push_ne _ _ (by have := hw.lt hj; omega)
    have hB2 : BsAt (B.push (.arr 5 cs .sh)) (.slice (some ⟨B.next, bo, some 1⟩) us.length bc) us := by
      rw [hbl]
      cases he with
      | «at» _ _ _ _ T cs' _ md hg hl hu hc =>
        rw [hb] at hg
        cases hg
        exact .at B.next bo bn bc 5 cs us .sh (Hp.get_push_same _ _) hl hu hc
    obtain ⟨io', A', y', q1, q2, q3, q4, q5, q6, q8, q9⟩ := out_put nc_none 4 hP hBw ver typ fl st ln hB2 (by omega) hsz (by omega) (by omega)
    rw [hbl] at q1
    simp only [Hp.next_push] at q3 q6 q8
    have hap := r1.apart hCB
    have hCA : ∀ i o, Reps.C.get i = some o → A'.get i = some o := fun j o hj => by
      obtain ⟨a1, a2, a3⟩ := hap j o hj
      have := (Reps.Cro j o hj).1
      rw [q8 j (by omega) a2 a3, Hp.get_push_ne _ _ (by omega)]
      exact hCB j o hj
    obtain ⟨B2, c1, c2, c3, c4, c5, c6, c7, _⟩ := q4.close q2 hCA
    have hyl : y'.us.length = 12 + us.length := by rw [q5, List.length_append, hdr_len]
    refine ⟨_, A', B2, [], q1, c1, by omega, c3, (hR _ _ _ _).2 ⟨rfl, c5, _, rfl, f, io', ps ++ [y'], gg, c4, ?_, ?_, ?_, ?_⟩, c6, c7, rfl, .nil, by simp, .plain rfl⟩
    · show rem (ps ++ [y']) gg = x.fs ++ [_]
      rw [rem_plus y' (fun e => by
        rcases r1.hg with h | ⟨z, ps', e1, e2⟩
        · exact h
        · rw [e] at e1; cases e1), r2, q5]
    · show total (ps ++ [y']) ≤ x.n + 12 + us.length
      rw [total_append, hyl]; omega
    · show (ps ++ [y']).length ≤ x.n + 12 + us.length
      rw [List.length_append, List.length_singleton]; omega
    · intro z hz u hu
      rcases List.mem_append.1 hz with h | h
      · exact r6 z h u hu
      · simp only [List.mem_singleton] at h
        subst h
        rw [q5] at hu
        rcases List.mem_append.1 hu with hu | hu
        · exact hdr_plain _ _ _ _ _ u hu
        · exact hpu u hu

theorem putO_bad_call (h5 : Reps.C.get 5 = some (er 5)) (h48 : 48 < Reps.C.next) {g : Gh} {A : Hp} {w : World} (hA : RelX Tryd.prog g A w) {i : Nat} {x : OX} (hi : A.get i = some (.abs 2 x.dat)) (ver typ fl st ln : Int) {bi bo bn bc : Nat} {cs : List Value} {m : Md}
    (hb : A.get bi = some (.arr 5 cs m)) (hpl : ∀ u ∈ cs, plain0 u = true) (hsz : (bn : Int) ≠ szOf typ ln) {args' : Array Value} (ha : AR g.ρ [ptr i, frm ver typ fl st ln (.slice (some ⟨bi, bo, some 1⟩) bn bc)].toArray args') :
    Calls Tryd.prog 43 args' w fun e w' => ∃ v', e = .returned v' ∧ After Tryd.prog g A w (.iface 168 (.pointer (some ⟨48, 0, none⟩))) (A.set i (some (.abs 2 x.dat))) v' w' := by
  have hC := callD_ok Tryd.good (noCalls_ok _) 8
  refine call_method hC hA hi (k' := 2) (im := [(5, cs)]) (ims := [bi]) rfl ?_ [] (by simp) ha (fun r n => [ptr r, frm ver typ fl st ln (.slice (some ⟨n, bo, some 1⟩) bn bc)]) ?_ (.iface 168 (.pointer (some ⟨48, 0, none⟩))) ?_
  · intro t e j h1 h2
    match t, h1, h2 with
    | 0, h1, h2 =>
      simp only [List.getElem?_cons_zero, Option.some.injEq] at h1 h2
      subst h1 h2
      exact ⟨⟨m, hb⟩, hpl⟩
  · intro r n
    exact .cons (.ptr 0 (.inl ⟨rfl, rfl⟩)) (.cons (VM.aggs (.cons (.plain rfl) (.cons (.plain rfl) (.cons (.plain rfl) (.cons (.plain rfl) (.cons (.plain rfl) (.cons (.slice bo 1 bn bc (.inr (.inr ⟨0, rfl, rfl⟩))) .nil))))))) .nil)
  · intro B r hCB hw hCn hrep
    obtain ⟨_, _, y, e1, f, io, ps, gg, r1, r2, r3, r4, r6⟩ := (hR _ _ _ _).1 hrep
    obtain rfl := OX.dat_inj e1
    have hBw : (B.push (.arr 5 cs .sh)).wf := hw.push _
    have hCP : ∀ i o, Reps.C.get i = some o → (B.push (.arr 5 cs .sh)).get i = some o := fun j o hj => by
      have := (Reps.Cro j o hj).1
      rw [Hp.get_push_ne _ _ (by omega)]; exact hCB j o hj
    have hP : IsOut (B.push (.arr 5 cs .sh)) r f io ps gg := r1.keep fun j o hj _ => Hp.get_push_ne _ _ (by have := hw.lt hj; omega)
    obtain ⟨A', q1, q2⟩ := out_put_no nc_none 4 hP.hp hBw ver typ fl st ln (a := some ⟨B.next, bo, some 1⟩) (c := bc) (hCP 5 _ h5) hsz
    have hP' : IsOut A' r f io ps gg := hP.keep fun j o hj _ => q2.old j (hBw.lt hj)
    obtain ⟨B2, c1, c2, c3, c4, c5, c6, c7, _⟩ := hP'.close q2.wf (fun j o hj => by rw [q2.old j (hBw.lt (hCP j o hj))]; exact hCP j o hj)
    exact ⟨_, A', B2, [], q1, c1, by omega, c3, (hR _ _ _ _).2 ⟨rfl, c5, _, rfl, f, io, ps, gg, c4, r2, r3, r4, r6⟩, c6, c7, rfl, .nil, by simp, .iface _ (.ptr 0 (.inr (.inl ⟨h48, rfl⟩)))⟩
end Go.Dn.Pipe
end

section
/-
  Clear of a buffer that holds something
-/
namespace Go.Dn.Pipe
open Go.Proofs
set_option maxHeartbeats 4000000
set_option maxRecDepth 100000
attribute [local irreducible] Hp.get Hp.set Hp.push dappend dcopy dstore cellsAt callD loopD

section
variable {base : CallT} (hb : ∀ f args A, f ∉ [61, 12, 20, 38, 27] → base f args A = none)
include hb

def clo9 : Value := .func (.func 69) #[] #[]

theorem cut_all9 (n : Nat) (x : Value) (A : Hp) : callD Tryd.bk base (n + 1) 69 [x] A = some (.bool true, A) := by
  refine callD_of (hb _ _ _ (by decide)) (fn := Tryd.f69) rfl ?_
  conv => lhs; whnf
  rfl

theorem clear_loop9 (n : Nat) {A0 : Hp} {f : Nat} {ri ro rc m : Nat} {cs us : List Value} (hw : A0.wf) (hg : A0.get ri = some (.arr 143 cs .own)) (hl : ro + m * 2 ≤ cs.length) (hu : (cs.drop ro).take (m * 2) = us) (hm : m ≤ 2000000000) (hn : m ≤ n) (hc : m ≤ rc / 2) (hrow : ∀ i, i < m → ∃ a n' c' k, us[2 * i]? = some (.slice a n' c') ∧ us[2 * i + 1]? = some (.int .i64 k)) :
    ∃ A1, loopD (some [0, 1, 4, 5, 6, 20, 21, 22]) (exec Tryd.bk.E (callD Tryd.bk base (n + 1)) Tryd.f59.ntmps (Tryd.bk.inf 59) (n + 1) (loopOf Tryd.f59 0)) (n + 1)
        [(0, ptr f), (1, clo9), (4, .int .i64 0), (5, .slice none 0 0), (6, .int .i64 0), (20, .slice (some ⟨ri, ro, some 2⟩) m rc), (21, .int .i64 (m : Nat)), (22, .int .i64 ((0 : Nat) : Int))] A0 =
      some (.exit 0, [(0, ptr f), (1, clo9), (4, .int .i64 0), (5, .slice none 0 0), (6, .int .i64 0), (20, .slice (some ⟨ri, ro, some 2⟩) m rc), (21, .int .i64 (m : Nat)), (22, .int .i64 (m : Nat))], A1) ∧ A1.wf ∧ A0.next ≤ A1.next ∧ ∀ j, j < A0.next → A1.get j = A0.get j := by
  have key := loop_rule (ks := some [0, 1, 4, 5, 6, 20, 21, 22]) (f := exec Tryd.bk.E (callD Tryd.bk base (n + 1)) Tryd.f59.ntmps (Tryd.bk.inf 59) (n + 1) (loopOf Tryd.f59 0)) (S := Nat)
    (fun i => [(0, ptr f), (1, clo9), (4, .int .i64 0), (5, .slice none 0 0), (6, .int .i64 0), (20, .slice (some ⟨ri, ro, some 2⟩) m rc), (21, .int .i64 (m : Nat)), (22, .int .i64 (i : Nat))])
    (fun i A => i ≤ m ∧ A.wf ∧ A0.next ≤ A.next ∧ ∀ j, j < A0.next → A.get j = A0.get j) (fun i => m - i)
    (fun e σ A1 => e = .exit 0 ∧ σ = [(0, ptr f), (1, clo9), (4, .int .i64 0), (5, .slice none 0 0), (6, .int .i64 0), (20, .slice (some ⟨ri, ro, some 2⟩) m rc), (21, .int .i64 (m : Nat)), (22, .int .i64 (m : Nat))] ∧ A1.wf ∧ A0.next ≤ A1.next ∧ ∀ j, j < A0.next → A1.get j = A0.get j) (fun i A hI => ?_)
    (n + 1) 0 A0 ⟨Nat.zero_le _, hw, Nat.le_refl _, fun _ _ => rfl⟩ (by omega)
  · obtain ⟨e, σ1, A1, k1, rfl, rfl, k2, k3, k4⟩ := key
    exact ⟨A1, k1, k2, k3, k4⟩
  · obtain ⟨hi, i1, i2, i3⟩ := hI
    by_cases him : i < m
    · obtain ⟨x, y, r1, r2, r3⟩ := rows_cell hl hu him
      obtain ⟨ra, rn, rk, ry, s1, s2⟩ := hrow i him
      rw [r1] at s1; rw [r2] at s2
      cases s1; cases s2
      have hgA : A.get ri = some (.arr 143 cs .own) := by rw [i3 ri (hw.lt hg)]; exact hg
      have hw2 : IntKind.i64.wrap ((i : Int) + 1) = ((i + 1 : Nat) : Int) := by rw [wrap64 (by omega) (by omega)]; omega
      have d1 : ((i : Nat) : Int) < ((m : Nat) : Int) := by omega
      refine ⟨.normal, ?s, ?A1, kexec_run ?run, .inl ⟨rfl, i + 1, ?kp, ⟨by omega, ?w, ?nx, ?fr⟩, by omega⟩⟩
      case run =>
        conv => lhs; whnf
        rw [kdec d1]
        conv => lhs; whnf
        rw [kdec d1]
        conv => lhs; whnf
        refine bind_of ((cellsAt_of hgA _ _).trans r3) ?_
        conv => lhs; whnf
        refine bind_of (dstore_of (Hp.get_push_same _ _) (t := 143) (o := 0) (cs' := [.slice ra rn rk, .int .i64 ry]) rfl) ?_
        conv => lhs; whnf
        rw [cellsAt_of (Hp.get_set_same _ _ _)]
        conv => lhs; whnf
        refine bind_of (cut_all9 hb n _ _) ?_
        conv => lhs; whnf
      case kp =>
        show [_, _, _, _, _, _, _, (22, Value.int .i64 (IntKind.i64.wrap ((i : Int) + 1)))] = _
        rw [hw2]
      case w => exact (i1.push _).put (Hp.get_push_same _ _) _
      case nx => simp; omega
      case fr =>
        intro j hj
        rw [Hp.get_set_ne _ _ (by omega), Hp.get_push_ne _ _ (by omega), i3 j hj]
    · have d1 : ¬ ((i : Nat) : Int) < ((m : Nat) : Int) := by omega
      obtain rfl : i = m := by omega
      refine ⟨.exit 0, ?s2, A, kexec_run ?run2, .inr ⟨by simp, rfl, ?kp2, i1, i2, i3⟩⟩
      case run2 =>
        conv => lhs; whnf
        rw [kdecn d1]
      case kp2 => rfl

theorem fifo_clear9 (n : Nat) {A : Hp} {f : Nat} {t mo rv w : Value} {io : Option Nat} {us : List Value} {m : Nat} (hw : A.wf) (hf : A.get f = some (.arr 141 [t, mo, rv, w] .own)) (hr : SlAt 143 2 A rv io us (m + 1)) (hm : m ≤ 1000000000) (hn : m + 3 ≤ n) (hrow : ∀ i, i < m + 1 → ∃ a n' c' k, us[2 * i]? = some (.slice a n' c') ∧ us[2 * i + 1]? = some (.int .i64 k)) :
    ∃ A', callD Tryd.bk base (n + 2) 59 [ptr f, clo9] A = some (.int .i64 (m + 1 : Nat), A') ∧ A'.wf ∧ A.next ≤ A'.next ∧ A'.get f = some (.arr 141 [t, mo, .slice none 0 0, .int .i64 0] .own) ∧ ∀ j, j < A.next → j ≠ f → A'.get j = A.get j := by
  have hlen := fifo_len hb n hf hr
  cases hr with
  | «at» ri ro _ rc cs _ hc hg hl hu =>
  obtain ⟨A1, l1, l2, l3, l4⟩ := clear_loop9 hb n (f := f) hw hg hl hu (by omega) (by omega) (rc := rc) (by omega) hrow
  have hfl := hw.lt hf
  have hf1 : A1.get f = some (.arr 141 [t, mo, .slice (some ⟨ri, ro, some 2⟩) (m + 1) rc, w] .own) := by rw [l4 f hfl]; exact hf
  have hwm : IntKind.i64.wrap (((m + 1 : Nat) : Int) - ((0 : Nat) : Int)) = ((m + 1 : Nat) : Int) := by rw [wrap64 (by omega) (by omega)]; omega
  refine ⟨?A', callD_of (hb _ _ _ (by decide)) (fn := Tryd.f59) rfl ?run, ?_⟩
  case run =>
    conv => lhs; whnf
    rw [hlen]
    conv => lhs; whnf
    rw [cellsAt_of hf]
    conv => lhs; whnf
    refine bind_of l1 ?_
    conv => lhs; whnf
    rw [cellsAt_of hf1]
    conv => lhs; whnf
    refine bind_of (dstore_of hf1 (t := 139) (o := 2) (cs' := [t, mo, .slice none 0 0, w]) rfl) ?_
    conv => lhs; whnf
    refine bind_of (dstore_of (Hp.get_set_same _ _ _) (t := 3) (o := 3) (cs' := [t, mo, .slice none 0 0, .int .i64 0]) rfl) ?_
    conv => lhs; whnf
    rw [hwm]
    rfl
  refine ⟨?w, ?nx, Hp.get_set_same _ _ _, fun j hj hjf => ?fr⟩
  case w => exact (l2.put hf1 _).put (Hp.get_set_same _ _ _) _
  case nx => simp; omega
  case fr => rw [Hp.get_set_ne _ _ hjf, Hp.get_set_ne _ _ hjf, l4 j hj]


/-- Clear: all that is left is dropped and counted -/
theorem out_clear (n : Nat) {A : Hp} {p f : Nat} {io : Option Nat} {ps : List Pc} {g : Nat} (h : IsOut A p f io ps g) (hw : A.wf) (hT : total ps ≤ 140737488355328) (hP : ps.length ≤ 1000000000) (hn : ps.length + 3 ≤ n) :
    ∃ A' io', callD Tryd.bk base (n + 3) 47 [ptr p] A = some (.int .i64 (total ps - g : Nat), A') ∧ A'.wf ∧ A.next ≤ A'.next ∧ IsOut A' p f io' [] 0 ∧ (io' = none ∨ io' = io) ∧ ∀ j, j < A.next → j ≠ p → j ≠ f → A'.get j = A.get j := by
  cases ps with
  | nil =>
    obtain rfl : g = 0 := by
      rcases h.hg with e | ⟨z, ps', e1, e2⟩
      · exact e
      · cases e1
    obtain ⟨m, rfl⟩ : ∃ m, n = m + 3 := ⟨n - 3, by simp at hn; omega⟩
    exact ⟨A, io, out_clear0 hb (m + 3) h, hw, Nat.le_refl _, h, .inr rfl, fun _ _ _ _ => rfl⟩
  | cons x l =>
    obtain ⟨rv, h1, h2⟩ := h.hf
    have hfp := h.ne
    have hx := h.hx x (by simp)
    have hxl : 0 < x.us.length := List.length_pos_iff.2 hx.2
    have hTx : total (x :: l) = x.us.length + total l := rfl
    have hg : g < x.us.length := by
      rcases h.hg with e | ⟨y, ps', e1, e2⟩
      · omega
      · cases e1; exact e2
    have hlen := out_len hb n h.hp h1 hfp
    rw [show IntKind.i64.wrap ((total (x :: l) : Int) - (g : Int)) = ((total (x :: l) - g : Nat) : Int) by rw [wrap64 (by omega) (by omega)]; omega] at hlen
    have d1 : ((total (x :: l) - g : Nat) : Int) > 0 := by omega
    obtain ⟨A2, c1, c2, c3, c4, c5⟩ := fifo_clear9 hb n hw h1 h2 (by simp at hP; omega) (by simp at hn; omega) (fun i hi => by
      obtain ⟨q1, q2⟩ := rows_of (x :: l) i
      have hi' : i < (x :: l).length := by simpa using hi
      rw [List.getElem?_eq_getElem hi'] at q1 q2
      have hm := h.hx _ (List.getElem_mem hi')
      obtain ⟨a, n', c', e⟩ : ∃ a n' c', ((x :: l)[i]).v = .slice a n' c' := by
        generalize ((x :: l)[i]).v = vv at hm
        cases hm.1 with
        | «at» _ _ _ c' _ _ _ _ _ _ => exact ⟨_, _, _, rfl⟩
      refine ⟨a, n', c', _, ?_, q2⟩
      rw [q1, Option.map_some, e])
    have hpl := hw.lt h.hp
    have hp2 : A2.get p = some (.arr 131 [ptr f, .int .i64 g] .own) := by rw [c5 p hpl (fun e => hfp e.symm)]; exact h.hp
    refine ⟨A2.set p (some (.arr 131 [ptr f, .int .i64 ((0 : Nat) : Int)] .own)), none, callD_of (hb _ _ _ (by decide)) (fn := Tryd.f47) rfl ?run, c2.put hp2 _, by rw [Hp.next_set]; exact c3, ?ip, .inl rfl, fun j hj hjp hjf => by rw [Hp.get_set_ne _ _ hjp, c5 j hj hjf]⟩
    case run =>
      conv => lhs; whnf
      rw [hlen]
      conv => lhs; whnf
      rw [kdec d1]
      conv => lhs; whnf
      rw [cellsAt_of h.hp]
      conv => lhs; whnf
      refine bind_of c1 ?_
      conv => lhs; whnf
      refine bind_of (dstore_of hp2 (t := 3) (o := 1) (cs' := [ptr f, .int .i64 ((0 : Nat) : Int)]) rfl) ?_
      conv => lhs; whnf
      rfl
    case ip =>
      exact ⟨Hp.get_set_same _ _ _, ⟨_, by rw [Hp.get_set_ne _ _ hfp, c4]; rfl, .nil⟩, by simp, .inl rfl⟩
end

variable [Reps] (hR : ∀ k d B r, Reps.rep k d B r ↔ repO k d B r)
include hR

theorem clearO_call {g : Gh} {A : Hp} {w : World} (hA : RelX Tryd.prog g A w) {i : Nat} {x : OX} (hi : A.get i = some (.abs 2 x.dat)) (hx : x.n ≤ 1000000000) {args' : Array Value} (ha : AR g.ρ [ptr i].toArray args') :
    Calls Tryd.prog 47 args' w fun e w' => ∃ v', e = .returned v' ∧ After Tryd.prog g A w (.int .i64 (x.fs.flatten.length : Nat)) (A.set i (some (.abs 2 (OX.dat ⟨[], x.n⟩)))) v' w' := by
  have hC := callD_ok Tryd.good (noCalls_ok _) (x.n + 3 + 3)
  refine call_method hC hA hi (k' := 2) (im := []) (ims := []) rfl (by simp) [] (by simp) ha (fun r _ => [ptr r]) (fun r n => .cons (.ptr 0 (.inl ⟨rfl, rfl⟩)) .nil) (.int .i64 (x.fs.flatten.length : Nat)) ?_
  intro B r hCB hw hCn hrep
  obtain ⟨_, _, y, e1, f, io, ps, gg, r1, r2, r3, r4, r5⟩ := (hR _ _ _ _).1 hrep
  obtain rfl := OX.dat_inj e1
  have hfl := rem_flat ps gg r1.hg
  rw [r2] at hfl
  obtain ⟨A', io', q1, q2, q3, q4, q5, q6⟩ := out_clear nc_none (x.n + 3) r1 hw (by omega) (by omega) (by omega)
  rw [← hfl] at q1
  have hap := r1.apart hCB
  have hCA : ∀ i o, Reps.C.get i = some o → A'.get i = some o := fun j o hj => by
    obtain ⟨a1, a2, a3⟩ := hap j o hj
    rw [q6 j (by have := (Reps.Cro j o hj).1; omega) a1 a2]
    exact hCB j o hj
  obtain ⟨B2, c1, c2, c3, c4, c5, c6, c7, _⟩ := q4.close q2 hCA
  exact ⟨_, A', B2, [], q1, c1, by omega, c3, (hR _ _ _ _).2 ⟨rfl, c5, _, rfl, f, io', [], 0, c4, rfl, by simp [total], by simp, by simp⟩, c6, c7, rfl, .nil, by simp, .plain rfl⟩
end Go.Dn.Pipe
end

section
/-
  a buffer's functions as known calls
-/
namespace Go.Dn.Pipe
open Go.Proofs
set_option maxHeartbeats 4000000
set_option maxRecDepth 100000
attribute [local irreducible] Hp.get Hp.set Hp.push dappend dcopy dstore cellsAt callD loopD

def lenErr : Value := .iface 168 (.pointer (some ⟨48, 0, none⟩))

inductive NewOR : List Value → Hp → Value × Hp → Prop
  | mk (A : Hp) : NewOR [] A (ptr A.next, A.push (.abs 2 OX.new.dat))
inductive PutOR : List Value → Hp → Value × Hp → Prop
  | put (A : Hp) (i : Nat) (x : OX) (hi : A.get i = some (.abs 2 x.dat)) (ver typ fl st ln : Int) (bi bo bn bc : Nat) (us cs : List Value) (m : Md) (hb : A.get bi = some (.arr 5 cs m)) (hpl : ∀ u ∈ cs, plain0 u = true) (hpu : ∀ u ∈ us, plain0 u = true)
      (he : BsAt A (.slice (some ⟨bi, bo, some 1⟩) bn bc) us) (hsz : (us.length : Int) = szOf typ ln) (hn : x.n + 12 + us.length ≤ 100000000) :
      PutOR [ptr i, frm ver typ fl st ln (.slice (some ⟨bi, bo, some 1⟩) bn bc)] A (.nilIface, A.set i (some (.abs 2 (OX.dat ⟨x.fs ++ [hdrOf ver typ fl st ln ++ us], x.n + 12 + us.length⟩))))
  | bad (A : Hp) (i : Nat) (x : OX) (hi : A.get i = some (.abs 2 x.dat)) (ver typ fl st ln : Int) (bi bo bn bc : Nat) (cs : List Value) (m : Md) (hb : A.get bi = some (.arr 5 cs m)) (hpl : ∀ u ∈ cs, plain0 u = true) (hsz : (bn : Int) ≠ szOf typ ln) :
      PutOR [ptr i, frm ver typ fl st ln (.slice (some ⟨bi, bo, some 1⟩) bn bc)] A (lenErr, A.set i (some (.abs 2 x.dat)))
inductive TakeOR : List Value → Hp → Value × Hp → Prop
  | mk (A : Hp) (i : Nat) (x : OX) (hi : A.get i = some (.abs 2 x.dat)) (n : Int) (hn : n ≤ 9223372036854775807) (hx : x.n ≤ 1000000000) (hpl : ∀ u ∈ x.fs.flatten, plain0 u = true) :
      TakeOR [ptr i, .int .i64 n] A (outV A.next (x.fs.flatten.take n.toNat), pushL .own (A.set i (some (.abs 2 (OX.dat { x with fs := dropF n.toNat x.fs })))) (outE (x.fs.flatten.take n.toNat)))
inductive LenOR : List Value → Hp → Value × Hp → Prop
  | mk (A : Hp) (i : Nat) (x : OX) (hi : A.get i = some (.abs 2 x.dat)) (hx : x.n ≤ 1000000000) : LenOR [ptr i] A (.int .i64 x.fs.flatten.length, A.set i (some (.abs 2 x.dat)))
inductive FramesOR : List Value → Hp → Value × Hp → Prop
  | mk (A : Hp) (i : Nat) (x : OX) (hi : A.get i = some (.abs 2 x.dat)) : FramesOR [ptr i] A (.int .i64 x.fs.length, A.set i (some (.abs 2 x.dat)))
inductive ClearOR : List Value → Hp → Value × Hp → Prop
  | mk (A : Hp) (i : Nat) (x : OX) (hi : A.get i = some (.abs 2 x.dat)) (hx : x.n ≤ 1000000000) : ClearOR [ptr i] A (.int .i64 (x.fs.flatten.length : Nat), A.set i (some (.abs 2 (OX.dat ⟨[], x.n⟩))))

theorem same_ox {A : Hp} {i : Nat} {x y : OX} (h1 : A.get i = some (.abs 2 x.dat)) (h2 : A.get i = some (.abs 2 y.dat)) : x = y := by
  rw [h1] at h2
  have := Option.some.inj h2
  simp only [Ob.abs.injEq, true_and] at this
  exact OX.dat_inj this

theorem bs_one {A : Hp} {v : Value} {us us' : List Value} (h : BsAt A v us) (h' : BsAt A v us') : us' = us := by
  have h1 := h.elems
  rw [h'.elems] at h1
  simp only [Option.some.injEq, Prod.mk.injEq] at h1
  exact h1.2

theorem NewOR.one {A : Hp} {args : List Value} {r r' : Value × Hp} (h : NewOR args A r) (h' : NewOR args A r') : r' = r := by
  cases h; cases h'; rfl
theorem TakeOR.one {A : Hp} {args : List Value} {r r' : Value × Hp} (h : TakeOR args A r) (h' : TakeOR args A r') : r' = r := by
  cases h with | mk _ i x hi => cases h' with | mk _ _ y hj => rw [same_ox hj hi]
theorem LenOR.one {A : Hp} {args : List Value} {r r' : Value × Hp} (h : LenOR args A r) (h' : LenOR args A r') : r' = r := by
  cases h with | mk _ i x hi => cases h' with | mk _ _ y hj => rw [same_ox hj hi]
theorem FramesOR.one {A : Hp} {args : List Value} {r r' : Value × Hp} (h : FramesOR args A r) (h' : FramesOR args A r') : r' = r := by
  cases h with | mk _ i x hi => cases h' with | mk _ _ y hj => rw [same_ox hj hi]
theorem ClearOR.one {A : Hp} {args : List Value} {r r' : Value × Hp} (h : ClearOR args A r) (h' : ClearOR args A r') : r' = r := by
  cases h with | mk _ i x hi => cases h' with | mk _ _ y hj => rw [same_ox hj hi]
theorem PutOR.one {A : Hp} {args : List Value} {r r' : Value × Hp} (h : PutOR args A r) (h' : PutOR args A r') : r' = r := by
  cases h with
  | put _ i x hi ver typ fl st ln bi bo bn bc us cs m hb hpl hpu he hsz hn =>
    generalize hargs : [ptr i, frm ver typ fl st ln (.slice (some ⟨bi, bo, some 1⟩) bn bc)] = aa at h'
    cases h' with
    | put _ i' x' hi' ver' typ' fl' st' ln' bi' bo' bn' bc' us' cs' m' hb' hpl' hpu' he' hsz' hn' =>
      simp only [ptr, frm, List.cons.injEq, Value.pointer.injEq, Option.some.injEq, Addr.mk.injEq, and_true, Value.agg.injEq, Array.mk.injEq, Value.int.injEq, true_and, Value.slice.injEq] at hargs
      obtain ⟨rfl, rfl, rfl, rfl, rfl, rfl, ⟨rfl, rfl⟩, rfl, rfl⟩ := hargs
      rw [same_ox hi' hi, bs_one he he']
    | bad _ i' x' hi' ver' typ' fl' st' ln' bi' bo' bn' bc' cs' m' hb' hpl' hsz' =>
      simp only [ptr, frm, List.cons.injEq, Value.pointer.injEq, Option.some.injEq, Addr.mk.injEq, and_true, Value.agg.injEq, Array.mk.injEq, Value.int.injEq, true_and, Value.slice.injEq] at hargs
      obtain ⟨rfl, rfl, rfl, rfl, rfl, rfl, ⟨rfl, rfl⟩, rfl, rfl⟩ := hargs
      rw [bs_len he] at hsz
      exact absurd hsz hsz'
  | bad _ i x hi ver typ fl st ln bi bo bn bc cs m hb hpl hsz =>
    generalize hargs : [ptr i, frm ver typ fl st ln (.slice (some ⟨bi, bo, some 1⟩) bn bc)] = aa at h'
    cases h' with
    | put _ i' x' hi' ver' typ' fl' st' ln' bi' bo' bn' bc' us' cs' m' hb' hpl' hpu' he' hsz' hn' =>
      simp only [ptr, frm, List.cons.injEq, Value.pointer.injEq, Option.some.injEq, Addr.mk.injEq, and_true, Value.agg.injEq, Array.mk.injEq, Value.int.injEq, true_and, Value.slice.injEq] at hargs
      obtain ⟨rfl, rfl, rfl, rfl, rfl, rfl, ⟨rfl, rfl⟩, rfl, rfl⟩ := hargs
      rw [bs_len he'] at hsz'
      exact absurd hsz' hsz
    | bad _ i' x' hi' ver' typ' fl' st' ln' bi' bo' bn' bc' cs' m' hb' hpl' hsz' =>
      simp only [ptr, frm, List.cons.injEq, Value.pointer.injEq, Option.some.injEq, Addr.mk.injEq, and_true, Value.agg.injEq, Array.mk.injEq, Value.int.injEq, true_and, Value.slice.injEq] at hargs
      obtain ⟨rfl, rfl, rfl, rfl, rfl, rfl, ⟨rfl, rfl⟩, rfl, rfl⟩ := hargs
      rw [same_ox hi' hi]

theorem fn39 : ∃ x, Tryd.prog.funcs[39]? = some x ∧ x.body.isSome = true ∧ (x.name == "runtime.NumGoroutine") = false := ⟨Tryd.f39, by kernel_rfl, by kernel_rfl, by kernel_rfl⟩
theorem fn43 : ∃ x, Tryd.prog.funcs[43]? = some x ∧ x.body.isSome = true ∧ (x.name == "runtime.NumGoroutine") = false := ⟨Tryd.f43, by kernel_rfl, by kernel_rfl, by kernel_rfl⟩
theorem fn44 : ∃ x, Tryd.prog.funcs[44]? = some x ∧ x.body.isSome = true ∧ (x.name == "runtime.NumGoroutine") = false := ⟨Tryd.f44, by kernel_rfl, by kernel_rfl, by kernel_rfl⟩
theorem fn45 : ∃ x, Tryd.prog.funcs[45]? = some x ∧ x.body.isSome = true ∧ (x.name == "runtime.NumGoroutine") = false := ⟨Tryd.f45, by kernel_rfl, by kernel_rfl, by kernel_rfl⟩
theorem fn46 : ∃ x, Tryd.prog.funcs[46]? = some x ∧ x.body.isSome = true ∧ (x.name == "runtime.NumGoroutine") = false := ⟨Tryd.f46, by kernel_rfl, by kernel_rfl, by kernel_rfl⟩
theorem fn47 : ∃ x, Tryd.prog.funcs[47]? = some x ∧ x.body.isSome = true ∧ (x.name == "runtime.NumGoroutine") = false := ⟨Tryd.f47, by kernel_rfl, by kernel_rfl, by kernel_rfl⟩

noncomputable def T5 (base : CallT) : CallT := withCall (withCall (withCall (withCall (withCall (withCall base 39 (byRel NewOR)) 43 (byRel PutOR)) 44 (byRel TakeOR)) 45 (byRel LenOR)) 46 (byRel FramesOR)) 47 (byRel ClearOR)

theorem T5_ok [Reps] (hR : ∀ k d B r, Reps.rep k d B r ↔ repO k d B r) {base : CallT} (hB : CallOK Tryd.prog base) (hCw : Reps.C.wf) (h5 : Reps.C.get 5 = some (er 5)) (h48 : 48 < Reps.C.next) : CallOK Tryd.prog (T5 base) := by
  refine withCall_ok (withCall_ok (withCall_ok (withCall_ok (withCall_ok (withCall_ok hB fn39 ?_) fn43 ?_) fn44 ?_) fn45 ?_) fn46 ?_) fn47 ?_
  · intro args A v A' h ρ w args' hr ha
    have h := byRel_some h
    cases h
    exact newO_call hR hr hCw ha
  · intro args A v A' h ρ w args' hr ha
    have h := byRel_some h
    cases h with
    | put _ i x hi ver typ fl st ln bi bo bn bc us cs m hb hpl hpu he hsz hn => exact putO_call hR hr hi ver typ fl st ln hb hpl hpu he hsz hn ha
    | bad _ i x hi ver typ fl st ln bi bo bn bc cs m hb hpl hsz => exact putO_bad_call hR h5 h48 hr hi ver typ fl st ln hb hpl hsz ha
  · intro args A v A' h ρ w args' hr ha
    have h := byRel_some h
    cases h with
    | mk _ i x hi n hn hx hpl => exact takeO_call hR hr hi hn hx hpl ha
  · intro args A v A' h ρ w args' hr ha
    have h := byRel_some h
    cases h with
    | mk _ i x hi hx => exact lenO_call hR hr hi hx ha
  · intro args A v A' h ρ w args' hr ha
    have h := byRel_some h
    cases h with
    | mk _ i x hi => exact framesO_call hR hr hi ha
  · intro args A v A' h ρ w args' hr ha
    have h := byRel_some h
    cases h with
    | mk _ i x hi hx => exact clearO_call hR hr hi hx ha
end Go.Dn.Pipe
end

section
/-
  a buffer's functions as a law calls them
-/
namespace Go.Dn.Pipe
open Go.Proofs
set_option maxHeartbeats 4000000
set_option maxRecDepth 100000
attribute [local irreducible] Hp.get Hp.set Hp.push dappend dcopy dstore cellsAt callD loopD

theorem copiedF_walk {call : CallT} (lf : Nat) {A : Hp} (hw : A.wf) (ver typ fl st ln : Int) {a : Option Addr} {c : Nat} {us : List Value} (hB : BsAt A (.slice a us.length c) us) (hl : us.length ≤ 1073741824) :
    ∃ i c' A', kfn Tryd.bk.E call (Tryd.bk.inf 42) lf Tryd.f42 [frm ver typ fl st ln (.slice a us.length c)] A = some (frm ver typ fl st ln (.slice (some ⟨i, 0, some 1⟩) us.length c'), A') ∧ Kp A A' ∧ A'.get i = some (.arr 5 us .own) ∧ us.length ≤ c' / 2 ∧ A.next ≤ i := by
  let F : List Value := [.int .u8 ver, .int .u8 typ, .int .u16 fl, .int .u32 st, .int .u32 ln, .slice a us.length c]
  let Z : List Value := [.int .u8 0, .int .u8 0, .int .u16 0, .int .u32 0, .int .u32 0, .slice none 0 0]
  let A1 : Hp := A.push (.arr 86 F .own)
  let A2 : Hp := A1.push (.arr 86 Z .own)
  let A3 : Hp := A2.push (.arr 5 [] .own)
  have n1 : A1.next = A.next + 1 := by simp [A1]
  have n2 : A2.next = A.next + 2 := by simp [A2, A1]
  have k1 : Kp A A1 := Kp.push hw _
  have k2 : Kp A A2 := k1.trans (Kp.push k1.wf _)
  have k3 : Kp A A3 := k2.trans (Kp.push k2.wf _)
  have n3 : A3.next = A.next + 3 := by simp [A3, A2, A1]
  have q1 : A1.get A.next = some (.arr 86 F .own) := Hp.get_push_same _ _
  have q2 : A2.get A.next = some (.arr 86 F .own) := by rw [show A2.get A.next = A1.get A.next from Hp.get_push_ne _ _ (by omega)]; exact q1
  have q3 : A3.get A.next = some (.arr 86 F .own) := by rw [show A3.get A.next = A2.get A.next from Hp.get_push_ne _ _ (by omega)]; exact q2
  have z2 : A2.get A1.next = some (.arr 86 Z .own) := Hp.get_push_same _ _
  have z3 : A3.get A1.next = some (.arr 86 Z .own) := by rw [show A3.get A1.next = A2.get A1.next from Hp.get_push_ne _ _ (by omega)]; exact z2
  have e3 : A3.get A2.next = some (.arr 5 [] .own) := Hp.get_push_same _ _
  have hap := append_odd elB elB2 e3 (hB.old hw k3.old).elems (by omega) (by unfold maxLen; omega)
  obtain ⟨i, c', A4, hr, k4, g4, hc', hi⟩ : ∃ i c' A4, dappend Tryd.bk.E 22 22 A3 (.slice (some ⟨A2.next, 0, some 1⟩) 0 1) (.slice a us.length c) = some (.slice (some ⟨i, 0, some 1⟩) us.length c', A4) ∧ Kp A3 A4 ∧ A4.get i = some (.arr 5 us .own) ∧ us.length ≤ c' / 2 ∧ A.next + 2 ≤ i := by
    by_cases hz : us.length = 0
    · rw [if_pos hz] at hap
      have hu : us = [] := List.eq_nil_of_length_eq_zero hz
      subst hu
      exact ⟨A2.next, 1, A3, hap, ⟨k3.wf, Nat.le_refl _, fun _ _ => rfl⟩, e3, by simp, by omega⟩
    · rw [if_neg hz] at hap
      exact ⟨A3.next, 2 * us.length, _, hap, Kp.push k3.wf _, Hp.get_push_same _ _, by omega, by omega⟩
  let W : List Value := [.int .u8 ver, .int .u8 typ, .int .u16 fl, .int .u32 st, .int .u32 ln, .slice (some ⟨i, 0, some 1⟩) us.length c']
  have q4 : A4.get A.next = some (.arr 86 F .own) := by rw [k4.old _ (by omega)]; exact q3
  have z4 : A4.get A1.next = some (.arr 86 Z .own) := by rw [k4.old _ (by omega)]; exact z3
  let A5 : Hp := A4.set A.next (some (.arr 86 W .own))
  have kA4 : Kp A A4 := k3.trans k4
  have k5 : Kp A A5 := kA4.set q4 (Nat.le_refl _) _
  have z5 : A5.get A1.next = some (.arr 86 Z .own) := by rw [show A5.get A1.next = A4.get A1.next from Hp.get_set_ne _ _ (by omega)]; exact z4
  have k6 : Kp A (A5.set A1.next (some (.arr 86 W .own))) := k5.set z5 (by omega) _
  refine ⟨i, c', _, ?run, k6, ?g, hc', by omega⟩
  case g =>
    rw [Hp.get_set_ne _ _ (by omega)]
    rw [show A5.get i = A4.get i from Hp.get_set_ne _ _ (by omega)]
    exact g4
  case run =>
    conv => lhs; whnf
    refine bind_of (cellsAt_of q3 _ _) ?_
    conv => lhs; whnf
    refine bind_of hr ?_
    conv => lhs; whnf
    refine bind_of (dstore_of q4 (t := 22) (o := 5) (cs' := W) rfl) ?_
    conv => lhs; whnf
    refine bind_of (cellsAt_of (A := A5) (i := A.next) (Hp.get_set_same _ _ _) 0 6) ?_
    conv => lhs; whnf
    refine bind_of (dstore_of z5 (t := 86) (o := 0) (cs' := W) rfl) ?_
    conv => lhs; whnf
    refine bind_of (cellsAt_of (A := A5.set A1.next (some (.arr 86 W .own))) (i := A1.next) (Hp.get_set_same _ _ _) 0 6) ?_
    conv => lhs; whnf
    rfl

/-- the buffer's functions, called -/
structure OutFns (call : CallT) : Prop where
  wakes : ∀ A, call 38 [] A = some (.bool true, A)
  new : ∀ {args A r}, NewOR args A r → call 39 args A = some r
  put : ∀ {args A r}, PutOR args A r → call 43 args A = some r
  take : ∀ {args A r}, TakeOR args A r → call 44 args A = some r
  len : ∀ {args A r}, LenOR args A r → call 45 args A = some r
  frames : ∀ {args A r}, FramesOR args A r → call 46 args A = some r
  clear : ∀ {args A r}, ClearOR args A r → call 47 args A = some r
  code0 : ∀ A, call 27 [.nilIface] A = some (.int .i64 0, A)
  code48 : ∀ A, call 27 [lenErr] A = some (.int .i64 15, A)
  copied : ∀ {A : Hp} (ver typ fl st ln : Int) {a : Option Addr} {c : Nat} {us : List Value}, A.wf → BsAt A (.slice a us.length c) us → us.length ≤ 1073741824 →
    ∃ i c' A', call 42 [frm ver typ fl st ln (.slice a us.length c)] A = some (frm ver typ fl st ln (.slice (some ⟨i, 0, some 1⟩) us.length c'), A') ∧ Kp A A' ∧ A'.get i = some (.arr 5 us .own) ∧ us.length ≤ c' / 2 ∧ A.next ≤ i
  bytes : ∀ {A : Hp} (ver typ fl st ln : Int) {a : Option Addr} {c : Nat} {us : List Value}, A.wf → BsAt A (.slice a us.length c) us → us.length ≤ 100000000 → (us.length : Int) = szOf typ ln →
    ∃ V A' io, call 41 [frm ver typ fl st ln (.slice a us.length c)] A = some (.tuple #[V, .nilIface], A') ∧ Kp A A' ∧ SlAt 5 1 A' V (some io) (hdrOf ver typ fl st ln ++ us) (12 + us.length) ∧ A.next ≤ io
  nobytes : ∀ {A : Hp} (ver typ fl st ln : Int) {a : Option Addr} {c m : Nat}, A.wf → A.get 5 = some (er 5) → (m : Int) ≠ szOf typ ln → ∃ A', call 41 [frm ver typ fl st ln (.slice a m c)] A = some (.tuple #[.slice none 0 0, lenErr], A') ∧ Kp A A'

theorem T5_fns {base : CallT} (hw : ∀ A, base 38 [] A = some (.bool true, A)) (h0 : ∀ A, base 27 [.nilIface] A = some (.int .i64 0, A)) (h48 : ∀ A, base 27 [lenErr] A = some (.int .i64 15, A))
    (hn : ∀ f args A, f ∈ [41, 42, 66, 67, 74, 75] → base f args A = none) (n : Nat) : OutFns (callD Tryd.bk (T5 base) (n + 3)) := by
  have e16 : ∀ k, Enc16 (callD Tryd.bk (T5 base) (k + 1)) := fun k A v hw => by
    obtain ⟨A', r1, r2, r3⟩ := b16_walk (call := callD Tryd.bk (T5 base) k) k hw v
    exact ⟨A', callD_of (hn 74 _ _ (by simp)) (fn := Tryd.f74) rfl r1, r2, r3⟩
  have e32 : ∀ k, Enc32 (callD Tryd.bk (T5 base) (k + 1)) := fun k A v hw => by
    obtain ⟨A', r1, r2, r3⟩ := b32_walk (call := callD Tryd.bk (T5 base) k) k hw v
    exact ⟨A', callD_of (hn 75 _ _ (by simp)) (fn := Tryd.f75) rfl r1, r2, r3⟩
  have enc : EncOK (callD Tryd.bk (T5 base) (n + 2)) := fun hw ver typ fl st ln => by
    obtain ⟨b, A', r1, r2⟩ := encode_walk (e16 n) (e32 n) (n + 1) hw ver typ fl st ln
    exact ⟨b, A', callD_of (hn 67 _ _ (by simp)) (fn := Tryd.f67) rfl r1, r2⟩
  have siz : SizeOK (callD Tryd.bk (T5 base) (n + 2)) := fun A ver typ fl st ln =>
    callD_of (hn 66 _ _ (by simp)) (fn := Tryd.f66) rfl (size_walk (n + 1) A ver typ fl st ln)
  refine ⟨fun A => callD_base (show T5 base 38 _ A = _ from hw A) _, fun h => callD_base ?_ _, fun h => callD_base ?_ _, fun h => callD_base ?_ _, fun h => callD_base ?_ _, fun h => callD_base ?_ _, fun h => callD_base ?_ _,
    fun A => callD_base (show T5 base 27 _ A = _ from h0 A) _, fun A => callD_base (show T5 base 27 _ A = _ from h48 A) _, fun ver typ fl st ln a c us hw hB hl => ?_, fun ver typ fl st ln a c us hw hB hl hsz => ?_, fun ver typ fl st ln a c m hw h5 hsz => ?_⟩
  · exact byRel_of h fun r' h' => h.one h'
  · exact byRel_of h fun r' h' => h.one h'
  · exact byRel_of h fun r' h' => h.one h'
  · exact byRel_of h fun r' h' => h.one h'
  · exact byRel_of h fun r' h' => h.one h'
  · exact byRel_of h fun r' h' => h.one h'
  · obtain ⟨i, c', A', r1, r2⟩ := copiedF_walk (call := callD Tryd.bk (T5 base) (n + 2)) (n + 2) hw ver typ fl st ln hB hl
    exact ⟨i, c', A', callD_of (hn 42 _ _ (by simp)) (fn := Tryd.f42) rfl r1, r2⟩
  · obtain ⟨V, A', io, r1, r2⟩ := bytes_walk siz enc (n + 2) hw ver typ fl st ln hB hl hsz
    exact ⟨V, A', io, callD_of (hn 41 _ _ (by simp)) (fn := Tryd.f41) rfl r1, r2⟩
  · obtain ⟨A', r1, r2⟩ := bytes_bad siz (n + 2) hw ver typ fl st ln (a := a) (c := c) h5 hsz
    exact ⟨A', callD_of (hn 41 _ _ (by simp)) (fn := Tryd.f41) rfl r1, r2⟩
end Go.Dn.Pipe
end
