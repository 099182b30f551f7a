/-
  Part of the abstract machine for this program.
-/
import Derived.Test.YtombnpednnngoaaDoorDnG
import Derived.Test.YtombnpednnngoaaDoorDnH

section
namespace Go.Dn

theorem plain0_eq {ρ : Rn} {v v' : Value} (h : VR ρ v v') (hp : plain0 v = true) : v' = v := by
  cases h <;> first | rfl | (simp [plain0] at hp; done)

/-! ## a call on a heap of its own -/
section
variable [Reps] {P : Program}

/-- an abstract object is opened -/
theorem RelX.open {g : Gh} {A : Hp} {w : World} (h : RelX P g A w) {i k : Nat} {x : Dat} (hi : A.get i = some (.abs k x)) :
    ∃ B gB r p, RelX P gB B w ∧ (∀ i o, Reps.C.get i = some o → B.get i = some o) ∧ Reps.rep k x B r ∧ g.ρ i = some p ∧ gB.ρ r = some p ∧ (∀ b, g.S i b ↔ OwnX B gB b) ∧ (∀ b, g.F i b ↔ SeenX B gB b ∨ RoX B gB b ∨ ConB b) := by
  obtain ⟨p, hp, ha⟩ := h.abs i k x hi
  generalize hS : g.S i = S at ha
  generalize hF : g.F i = F at ha
  cases ha with
  | mk _ _ _ _ _ B gB r pl rel hpl abs sep con hC rep root own hS' hF' =>
    exact ⟨B, gB, r, p, ⟨rel, fun i k x hi => ⟨pl i, hpl i k x hi, abs i k x hi⟩, sep, con⟩, hC, rep, hp, root, hS', hF'⟩

/-- and closed -/
theorem RelX.shut {gB : Gh} {B : Hp} {w : World} (h : RelX P gB B w) {k r : Nat} {x : Dat} {p : Pl} (hC : ∀ i o, Reps.C.get i = some o → B.get i = some o) (hrep : Reps.rep k x B r) (hr : gB.ρ r = some p) (hown : OwnX B gB p.blk) :
    AbsR P w p k x (OwnX B gB) (fun b => SeenX B gB b ∨ RoX B gB b ∨ ConB b) := by
  classical
  refine .mk p k x _ _ B gB r (fun i => (gB.ρ i).getD p) h.rel (fun i k' x' hi => ?_) (fun i k' x' hi => ?_) h.sep h.con hC hrep hr hown (fun _ => Iff.rfl) (fun _ => Iff.rfl)
  · obtain ⟨q, hq, _⟩ := h.abs i k' x' hi
    rw [hq]; rfl
  · obtain ⟨q, hq, ha⟩ := h.abs i k' x' hi
    rw [hq]; exact ha

/-- something else was changed -/
theorem RelX.other {g : Gh} {A : Hp} {w w' : World} (h : RelX P g A w) (hs : w.heap.size ≤ w'.heap.size) (hk : ∀ b, OwnX A g b ∨ SeenX A g b ∨ RoX A g b → w'.heap[b]? = w.heap[b]?) (hc : ∀ b, ConB b → w'.heap[b]? = w.heap[b]?) : RelX P g A w' := by
  refine ⟨h.rel.keepX hs hk, fun i k x hi => ?_, h.sep, h.con.size hs hc⟩
  obtain ⟨p, hp, ha⟩ := h.abs i k x hi
  refine ⟨p, hp, ha.keep hs fun b hb => hk b ?_⟩
  rcases hb with hb | hb
  · exact .inl ⟨i, .abs k x hi hb⟩
  · exact .inr (.inl ⟨i, .abs k x hi hb⟩)

/-- one's own object: number i, which isn't in use -/
theorem RelX.take {g : Gh} {A : Hp} {w : World} (h : RelX P g A w) {T : TypeId} {cs : List Value} {q : Pl} {ρB : Rn} (ho : ObR P ρB w q (.arr T cs .own)) (hpl : ∀ u ∈ cs, plain0 u = true)
    (h1 : ¬ OwnX A g q.blk) (h2 : ¬ SeenX A g q.blk) (h3 : ¬ RoX A g q.blk)
    (hc : ∀ i p, i < Reps.C.next → Reps.ρC i = some p → p.blk ≠ q.blk) : RelX P ⟨g.ρ.add A.next q, g.S, g.F⟩ (A.push (.arr T cs .own)) w := by
  have hn := h.rel.fresh A.next (Nat.le_refl _)
  have hle : g.ρ.le (g.ρ.add A.next q) := Rn.le_add q hn.2
  have hget : ∀ j x, (A.push (.arr T cs .own)).get j = some x → (j = A.next ∧ x = .arr T cs .own) ∨ (j ≠ A.next ∧ A.get j = some x) := by
    intro j x hj
    by_cases e : j = A.next
    · left; subst e; rw [Hp.get_push_same] at hj; cases hj; exact ⟨rfl, rfl⟩
    · right; rw [Hp.get_push_ne _ _ e] at hj; exact ⟨e, hj⟩
  have hplc : ∀ j p, j ≠ A.next → (g.ρ.add A.next q) j = some p → g.ρ j = some p := by
    intro j p hj hq
    simpa only [Rn.add, if_neg hj] using hq
  let g2 : Gh := ⟨g.ρ.add A.next q, g.S, g.F⟩
  have own2 : ∀ j b, OwnAt (A.push (.arr T cs .own)) g2 j b → (j = A.next ∧ b = q.blk) ∨ OwnAt A g j b := by
    intro j b hj
    cases hj with
    | vis o' p k1 k2 k3 k4 =>
      rcases hget j o' k1 with ⟨rfl, rfl⟩ | ⟨e, k⟩
      · have : (g.ρ.add A.next q) A.next = some p := k3
        rw [Rn.add_same] at this; cases this
        exact .inl ⟨rfl, k4.symm⟩
      · exact .inr (.vis o' p k k2 (hplc j p e k3) k4)
    | abs k x k1 k2 =>
      rcases hget j _ k1 with ⟨rfl, e⟩ | ⟨e, k'⟩
      · cases e
      · exact .inr (.abs k x k' k2)
  have con2 : ∀ j b, ConAt (A.push (.arr T cs .own)) g2 j b → ConAt A g j b := by
    intro j b hj
    cases hj with
    | vis o' p k1 k2 k5 k3 k4 =>
      rcases hget j o' k1 with ⟨rfl, rfl⟩ | ⟨e, k⟩
      · cases k2
      · exact .vis o' p k k2 k5 (hplc j p e k3) k4
  have seen2 : ∀ j b, SeenAt (A.push (.arr T cs .own)) g2 j b → SeenAt A g j b := by
    intro j b hj
    cases hj with
    | con hc => exact .con (con2 j b hc)
    | vis o' p k1 k2 k5 k3 k4 =>
      rcases hget j o' k1 with ⟨rfl, rfl⟩ | ⟨e, k⟩
      · cases k2
      · exact .vis o' p k k2 k5 (hplc j p e k3) k4
    | abs k x k1 k2 =>
      rcases hget j _ k1 with ⟨rfl, e⟩ | ⟨e, k'⟩
      · cases e
      · exact .abs k x k' k2
  have ro2 : ∀ j b, RoAt (A.push (.arr T cs .own)) g2 j b → RoAt A g j b := by
    intro j b hj
    cases hj with
    | vis o' p k1 k2 k5 k3 k4 =>
      rcases hget j o' k1 with ⟨rfl, rfl⟩ | ⟨e, k⟩
      · cases k2
      · exact .vis o' p k k2 k5 (hplc j p e k3) k4
  have hkn := h.con.next
  refine .of (fun j x hj ha => ?_) (fun j k x hj => ?_) ⟨fun a b c k1 k2 => ?_, fun a b c k1 k2 => ?_, fun a b c k1 k2 => ?_, fun a b c k1 k2 => h.sep.rr a b c (ro2 a c k1) (ro2 b c k2), fun a b c k1 k2 => h.sep.rc a b c (ro2 a c k1) (con2 b c k2),
    fun a b c k1 k2 => h.sep.cc a b c (con2 a c k1) (con2 b c k2)⟩ ⟨fun j hj => ?_, by simp; omega, fun j x hj hx => ?_, fun j p hj hp => ?_, h.con.cw⟩ (fun j hj => ?_) (fun j hj => ?_)
  · rcases hget j x hj with ⟨rfl, rfl⟩ | ⟨e, hj'⟩
    · refine ⟨q, Rn.add_same _ _ _, ?_⟩
      cases ho with
      | arr _ _ _ C T' fz hb hT hl hc =>
        refine .arr T cs .own C T' fz hb hT hl fun j u hu => ?_
        obtain ⟨k1, v, k2, k3⟩ := hc j u hu
        have hp0 := hpl u (List.mem_of_getElem? hu)
        have := plain0_eq k3 hp0
        subst this
        exact ⟨k1, v, k2, plain0_vr hp0⟩
    · obtain ⟨p, hp, hob⟩ := h.rel.obj j x hj'
      exact ⟨p, hle _ _ hp, hob.keep hle rfl⟩
  · rcases hget j _ hj with ⟨rfl, e⟩ | ⟨e, hj'⟩
    · cases e
    · obtain ⟨p, hp, ha⟩ := h.abs j k x hj'
      exact ⟨p, hle _ _ hp, ha⟩
  · rcases own2 a c k1 with ⟨rfl, rfl⟩ | q1
    · rcases own2 b _ k2 with ⟨rfl, _⟩ | q2
      · rfl
      · exact absurd ⟨b, q2⟩ h1
    · rcases own2 b c k2 with ⟨rfl, rfl⟩ | q2
      · exact absurd ⟨a, q1⟩ h1
      · exact h.sep.oo a b c q1 q2
  · have q2 := seen2 b c k2
    rcases own2 a c k1 with ⟨rfl, rfl⟩ | q1
    · exact h2 ⟨b, q2⟩
    · exact h.sep.os a b c q1 q2
  · have q2 := ro2 b c k2
    rcases own2 a c k1 with ⟨rfl, rfl⟩ | q1
    · exact h3 ⟨b, q2⟩
    · exact h.sep.ow a b c q1 q2
  · show (g.ρ.add A.next q) j = _
    simp only [Rn.add]; rw [if_neg (by omega)]; exact h.con.loc j hj
  · rcases hget j x hx with ⟨rfl, _⟩ | ⟨e, hx'⟩
    · omega
    · exact h.con.ro j x hj hx'
  · obtain ⟨c1, c2⟩ := h.con.own j p hj hp
    refine ⟨c1, fun ⟨l, k⟩ => ?_⟩
    rcases own2 l _ k with ⟨_, e⟩ | k
    · exact hc j p hj hp e
    · exact c2 ⟨l, k⟩
  · simp only [Hp.next_push] at hj
    have e : j ≠ A.next := by omega
    have := h.rel.fresh j (by omega)
    rw [Hp.get_push_ne _ _ e]
    exact ⟨this.1, by simp only [Rn.add, if_neg e, this.2]⟩
  · obtain ⟨p, k1, k2, k3⟩ := h.rel.glob j hj
    exact ⟨p, hle _ _ k1, k2, k3⟩

theorem ExtX.take {A0 : Hp} {g0 : Gh} {w0 : World} {g : Gh} {A : Hp} {w : World} (h : RelX P g A w) (hx : ExtX A0 g0 w0 A g w) {T : TypeId} {cs : List Value} {q : Pl}
    (hown : OwnX A0 g0 q.blk ∨ w0.heap.size ≤ q.blk) : ExtX A0 g0 w0 (A.push (.arr T cs .own)) ⟨g.ρ.add A.next q, g.S, g.F⟩ w := by
  have hn := h.rel.fresh A.next (Nat.le_refl _)
  have hget : ∀ j x, (A.push (.arr T cs .own)).get j = some x → (j = A.next ∧ x = .arr T cs .own) ∨ (j ≠ A.next ∧ A.get j = some x) := by
    intro j x hj
    by_cases e : j = A.next
    · left; subst e; rw [Hp.get_push_same] at hj; cases hj; exact ⟨rfl, rfl⟩
    · right; rw [Hp.get_push_ne _ _ e] at hj; exact ⟨e, hj⟩
  have hplc : ∀ j p, j ≠ A.next → (g.ρ.add A.next q) j = some p → g.ρ j = some p := by
    intro j p hj hq
    simpa only [Rn.add, if_neg hj] using hq
  refine ⟨Rn.le_trans hx.le (Rn.le_add q hn.2), hx.size, hx.keep, fun b ⟨j, hj⟩ => ?_, by have := hx.next; simp; omega, fun j hj => ?_, fun b ⟨j, hj⟩ => ?_, fun j o hj hm => ?_, hx.os, hx.output, hx.tape⟩
  · cases hj with
    | vis o' p k1 k2 k3 k4 =>
      rcases hget j o' k1 with ⟨rfl, rfl⟩ | ⟨e, k⟩
      · have : (g.ρ.add A.next q) A.next = some p := k3
        rw [Rn.add_same] at this; cases this
        rw [← k4]; exact hown
      · exact hx.own b ⟨j, .vis o' p k k2 (hplc j p e k3) k4⟩
    | abs k x k1 k2 =>
      rcases hget j _ k1 with ⟨rfl, e⟩ | ⟨e, k'⟩
      · cases e
      · exact hx.own b ⟨j, .abs k x k' k2⟩
  · have := hx.next
    simp only [Rn.add]; rw [if_neg (by omega)]; exact hx.old j hj
  · cases hj with
    | con hc =>
      cases hc with
      | vis o' p k1 k2 k5 k3 k4 =>
        rcases hget j o' k1 with ⟨rfl, rfl⟩ | ⟨e, k⟩
        · cases k2
        · exact hx.seen b ⟨j, .con (.vis o' p k k2 k5 (hplc j p e k3) k4)⟩
    | vis o' p k1 k2 k5 k3 k4 =>
      rcases hget j o' k1 with ⟨rfl, rfl⟩ | ⟨e, k⟩
      · cases k2
      · exact hx.seen b ⟨j, .vis o' p k k2 k5 (hplc j p e k3) k4⟩
    | abs k x k1 k2 =>
      rcases hget j _ k1 with ⟨rfl, e⟩ | ⟨e, k'⟩
      · cases e
      · exact hx.seen b ⟨j, .abs k x k' k2⟩
  · rcases hget j o hj with ⟨rfl, rfl⟩ | ⟨e, k⟩
    · cases hm
    · exact hx.ro j o k hm

end
end Go.Dn
end

section
namespace Go.Dn

/-! ## values in the numbers of another heap -/
inductive VM (m : Nat → Nat → Prop) : Value → Value → Prop where
  | plain {u : Value} (h : plain0 u = true) : VM m u u
  | ptr {i j : Nat} (o : Nat) (h : m i j) : VM m (.pointer (some ⟨i, o, none⟩)) (.pointer (some ⟨j, o, none⟩))
  | slice {i j : Nat} (o s n c : Nat) (h : m i j) : VM m (.slice (some ⟨i, o, some s⟩) n c) (.slice (some ⟨j, o, some s⟩) n c)
  | sliceZ : VM m (.slice none 0 1) (.slice none 0 1)
  | map {i j : Nat} (h : m i j) : VM m (.map (some i)) (.map (some j))
  | iface (t : TypeId) {u v : Value} (h : VM m u v) : VM m (.iface t u) (.iface t v)
  | agg (as bs : Array Value) (h1 : as.size = bs.size) (h2 : ∀ (j : Nat) u v, as[j]? = some u → bs[j]? = some v → VM m u v) : VM m (.agg as) (.agg bs)
  | tuple (as bs : Array Value) (h1 : as.size = bs.size) (h2 : ∀ (j : Nat) u v, as[j]? = some u → bs[j]? = some v → VM m u v) : VM m (.tuple as) (.tuple bs)

inductive VMs (m : Nat → Nat → Prop) : List Value → List Value → Prop where
  | nil : VMs m [] []
  | cons {u v : Value} {us vs : List Value} (h : VM m u v) (t : VMs m us vs) : VMs m (u :: us) (v :: vs)

theorem VMs.length {m : Nat → Nat → Prop} {us vs : List Value} (h : VMs m us vs) : us.length = vs.length := by
  induction h with
  | nil => rfl
  | cons _ _ ih => simp [ih]
theorem VMs.get {m : Nat → Nat → Prop} {us vs : List Value} (h : VMs m us vs) : ∀ (j : Nat) u v, us[j]? = some u → vs[j]? = some v → VM m u v := by
  induction h with
  | nil => intro j u v hu; simp at hu
  | cons h1 _ ih =>
    intro j u v hu hv
    cases j with
    | zero => simp at hu hv; subst hu; subst hv; exact h1
    | succ j => exact ih j u v (by simpa using hu) (by simpa using hv)
theorem VM.aggs {m : Nat → Nat → Prop} {us vs : List Value} (h : VMs m us vs) : VM m (.agg us.toArray) (.agg vs.toArray) :=
  .agg _ _ (by simpa using h.length) (fun j u v hu hv => h.get j u v (by simpa using hu) (by simpa using hv))
theorem VM.tuples {m : Nat → Nat → Prop} {us vs : List Value} (h : VMs m us vs) : VM m (.tuple us.toArray) (.tuple vs.toArray) :=
  .tuple _ _ (by simpa using h.length) (fun j u v hu hv => h.get j u v (by simpa using hu) (by simpa using hv))

theorem VR.move {m : Nat → Nat → Prop} {ρ ρ2 : Rn} (hm : ∀ i j p, m i j → ρ i = some p → ρ2 j = some p) {u u2 : Value} (h : VM m u u2) : ∀ v, VR ρ u v → VR ρ2 u2 v := by
  induction h with
  | plain h => intro v hv; rw [plain0_eq hv h]; exact plain0_vr h
  | ptr o h =>
    intro v hv
    cases hv with
    | ptr _ hp => exact .ptr o (hm _ _ _ h hp)
  | slice o s n c h =>
    intro v hv
    cases hv with
    | sliceL _ o' _ _ k k' hp a b c d e => exact .sliceL o o' s n k k' (hm _ _ _ h hp) a b c d e
    | sliceE _ o' _ _ k hp a b c => exact .sliceE o o' s n k (hm _ _ _ h hp) a b c
  | sliceZ =>
    intro v hv
    cases hv with
    | sliceZ a => exact .sliceZ a
  | map h =>
    intro v hv
    cases hv with
    | map hp => exact .map (hm _ _ _ h hp)
  | iface t _ ih =>
    intro v hv
    cases hv with
    | iface _ _ v hv => exact .iface t _ _ (ih v hv)
  | agg as bs h1 h2 ih =>
    intro v hv
    cases hv with
    | agg _ cs k1 k2 =>
      refine .agg bs cs (by omega) fun j u v hu hv => ?_
      have hj : j < as.size := by rw [h1]; exact (Array.getElem?_eq_some_iff.1 hu).1
      exact ih j as[j] u (by simp [hj]) hu v (k2 j _ v (by simp [hj]) hv)
  | tuple as bs h1 h2 ih =>
    intro v hv
    cases hv with
    | tuple _ cs k1 k2 =>
      refine .tuple bs cs (by omega) fun j u v hu hv => ?_
      have hj : j < as.size := by rw [h1]; exact (Array.getElem?_eq_some_iff.1 hu).1
      exact ih j as[j] u (by simp [hj]) hu v (k2 j _ v (by simp [hj]) hv)

theorem ar_move {m : Nat → Nat → Prop} {ρ ρ2 : Rn} (hm : ∀ i j p, m i j → ρ i = some p → ρ2 j = some p) {us vs : List Value} (h : VMs m us vs) {as : Array Value} (ha : AR ρ us.toArray as) : AR ρ2 vs.toArray as := by
  refine ⟨?_, fun j u v hu hv => ?_⟩
  · have := ha.1
    have h2 := h.length
    simp at this ⊢; omega
  · have hl := h.length
    have hj : j < us.length := by
      have : j < vs.length := by
        have := (Array.getElem?_eq_some_iff.1 hu).1
        simpa using this
      omega
    exact VR.move hm (h.get j us[j] u (by simp) (by simpa using hu)) v (ha.2 j us[j] v (by simp) hv)

def pushL (m : Md) (A : Hp) : List (TypeId × List Value) → Hp
  | [] => A
  | e :: l => pushL m (A.push (.arr e.1 e.2 m)) l

section
variable [Reps] {P : Program}

theorem RelX.wf {g : Gh} {A : Hp} {w : World} (h : RelX P g A w) {i : Nat} {o : Ob} (hi : A.get i = some o) : i < A.next := by
  rcases Nat.lt_or_ge i A.next with h1 | h1
  · exact h1
  · rw [(h.rel.fresh i h1).1] at hi; cases hi

theorem RelX.conb {g : Gh} {A : Hp} {w : World} (h : RelX P g A w) {b : Nat} (hb : ConB b) : b < w.heap.size ∧ ¬ OwnX A g b := by
  obtain ⟨i, p, h1, h2, rfl⟩ := hb
  exact h.con.own i p h1 h2

/-- a new object that is only read, over a block that one doesn't own -/
theorem RelX.view {g : Gh} {A : Hp} {w : World} (h : RelX P g A w) {T : TypeId} {cs : List Value} {q : Pl} {m : Md} {ρB : Rn} (ho : ObR P ρB w q (.arr T cs m)) (hpl : ∀ u ∈ cs, plain0 u = true)
    (h1 : ¬ OwnX A g q.blk) : RelX P ⟨g.ρ.add A.next q, g.S, g.F⟩ (A.push (.arr T cs .sh)) w ∧ (∀ b, OwnX (A.push (.arr T cs .sh)) ⟨g.ρ.add A.next q, g.S, g.F⟩ b → OwnX A g b) := by
  have hn := h.rel.fresh A.next (Nat.le_refl _)
  have hle : g.ρ.le (g.ρ.add A.next q) := Rn.le_add q hn.2
  have hkn := h.con.next
  have hget : ∀ j x, (A.push (.arr T cs .sh)).get j = some x → (j = A.next ∧ x = .arr T cs .sh) ∨ (j ≠ A.next ∧ A.get j = some x) := by
    intro j x hj
    by_cases e : j = A.next
    · left; subst e; rw [Hp.get_push_same] at hj; cases hj; exact ⟨rfl, rfl⟩
    · right; rw [Hp.get_push_ne _ _ e] at hj; exact ⟨e, hj⟩
  have hplc : ∀ j p, j ≠ A.next → (g.ρ.add A.next q) j = some p → g.ρ j = some p := by
    intro j p hj hq
    simpa only [Rn.add, if_neg hj] using hq
  let g2 : Gh := ⟨g.ρ.add A.next q, g.S, g.F⟩
  have own2 : ∀ j b, OwnAt (A.push (.arr T cs .sh)) g2 j b → OwnAt A g j b := by
    intro j b hj
    cases hj with
    | vis o' p k1 k2 k3 k4 =>
      rcases hget j o' k1 with ⟨rfl, rfl⟩ | ⟨e, k⟩
      · cases k2
      · exact .vis o' p k k2 (hplc j p e k3) k4
    | abs k x k1 k2 =>
      rcases hget j _ k1 with ⟨rfl, e⟩ | ⟨e, k'⟩
      · cases e
      · exact .abs k x k' k2
  have con2 : ∀ j b, ConAt (A.push (.arr T cs .sh)) g2 j b → ConAt A g j b := by
    intro j b hj
    cases hj with
    | vis o' p k1 k2 k5 k3 k4 =>
      rcases hget j o' k1 with ⟨rfl, rfl⟩ | ⟨e, k⟩
      · cases k2
      · exact .vis o' p k k2 k5 (hplc j p e k3) k4
  have ro2 : ∀ j b, RoAt (A.push (.arr T cs .sh)) g2 j b → RoAt A g j b := by
    intro j b hj
    cases hj with
    | vis o' p k1 k2 k5 k3 k4 =>
      rcases hget j o' k1 with ⟨rfl, rfl⟩ | ⟨e, k⟩
      · cases k2
      · exact .vis o' p k k2 k5 (hplc j p e k3) k4
  have seen2 : ∀ j b, SeenAt (A.push (.arr T cs .sh)) g2 j b → b = q.blk ∨ SeenAt A g j b := by
    intro j b hj
    cases hj with
    | con hc => exact .inr (.con (con2 j b hc))
    | vis o' p k1 k2 k5 k3 k4 =>
      rcases hget j o' k1 with ⟨rfl, rfl⟩ | ⟨e, k⟩
      · have : (g.ρ.add A.next q) A.next = some p := k3
        rw [Rn.add_same] at this; cases this
        exact .inl k4.symm
      · exact .inr (.vis o' p k k2 k5 (hplc j p e k3) k4)
    | abs k x k1 k2 =>
      rcases hget j _ k1 with ⟨rfl, e⟩ | ⟨e, k'⟩
      · cases e
      · exact .inr (.abs k x k' k2)
  refine ⟨?_, fun b ⟨j, hj⟩ => ⟨j, own2 j b hj⟩⟩
  refine .of (fun j x hj ha => ?_) (fun j k x hj => ?_) ⟨fun a b c k1 k2 => h.sep.oo a b c (own2 a c k1) (own2 b c k2), fun a b c k1 k2 => ?_, fun a b c k1 k2 => h.sep.ow a b c (own2 a c k1) (ro2 b c k2),
    fun a b c k1 k2 => h.sep.rr a b c (ro2 a c k1) (ro2 b c k2), fun a b c k1 k2 => h.sep.rc a b c (ro2 a c k1) (con2 b c k2),
    fun a b c k1 k2 => h.sep.cc a b c (con2 a c k1) (con2 b c k2)⟩ ⟨fun j hj => ?_, by simp; omega, fun j x hj hx => ?_, fun j p hj hp => ?_, h.con.cw⟩ (fun j hj => ?_) (fun j hj => ?_)
  · rcases hget j x hj with ⟨rfl, rfl⟩ | ⟨e, hj'⟩
    · refine ⟨q, Rn.add_same _ _ _, ?_⟩
      cases ho with
      | arr _ _ _ C T' fz hb hT hl hc =>
        refine .arr T cs .sh C T' fz hb (fun hh => absurd rfl hh) hl fun j u hu => ?_
        obtain ⟨k1, v, k2, k3⟩ := hc j u hu
        have hp0 := hpl u (List.mem_of_getElem? hu)
        have := plain0_eq k3 hp0
        subst this
        exact ⟨k1, v, k2, plain0_vr hp0⟩
    · obtain ⟨p, hp, hob⟩ := h.rel.obj j x hj'
      exact ⟨p, hle _ _ hp, hob.keep hle rfl⟩
  · rcases hget j _ hj with ⟨rfl, e⟩ | ⟨e, hj'⟩
    · cases e
    · obtain ⟨p, hp, ha⟩ := h.abs j k x hj'
      exact ⟨p, hle _ _ hp, ha⟩
  · rcases seen2 b c k2 with rfl | q2
    · exact h1 ⟨a, own2 a _ k1⟩
    · exact h.sep.os a b c (own2 a c k1) q2
  · show (g.ρ.add A.next q) j = _
    simp only [Rn.add]; rw [if_neg (by omega)]; exact h.con.loc j hj
  · rcases hget j x hx with ⟨rfl, _⟩ | ⟨e, hx'⟩
    · omega
    · exact h.con.ro j x hj hx'
  · obtain ⟨c1, c2⟩ := h.con.own j p hj hp
    exact ⟨c1, fun ⟨l, k⟩ => c2 ⟨l, own2 l _ k⟩⟩
  · simp only [Hp.next_push] at hj
    have e : j ≠ A.next := by omega
    have := h.rel.fresh j (by omega)
    rw [Hp.get_push_ne _ _ e]
    exact ⟨this.1, by simp only [Rn.add, if_neg e, this.2]⟩
  · obtain ⟨p, k1, k2, k3⟩ := h.rel.glob j hj
    exact ⟨p, hle _ _ k1, k2, k3⟩

theorem RelX.views : ∀ (im : List (TypeId × List Value)) (qs : List Pl) (g : Gh) (B : Hp) {w : World}, RelX P g B w → im.length = qs.length →
    (∀ (t : Nat) e q, im[t]? = some e → qs[t]? = some q → (∃ ρB m, ObR P ρB w q (.arr e.1 e.2 m)) ∧ (∀ u ∈ e.2, plain0 u = true) ∧ ¬ OwnX B g q.blk) →
    ∃ g' : Gh, RelX P g' (pushL .sh B im) w ∧ g.ρ.le g'.ρ ∧ (∀ (t : Nat) q, qs[t]? = some q → g'.ρ (B.next + t) = some q) ∧ (∀ b, OwnX (pushL .sh B im) g' b → OwnX B g b)
  | [], qs, g, B, w, h, hl, _ => by
    have : qs = [] := by cases qs <;> simp_all
    subst this
    exact ⟨g, h, g.ρ.le_refl, by simp, fun b hb => hb⟩
  | e :: im, [], g, B, w, h, hl, _ => by simp at hl
  | e :: im, q :: qs, g, B, w, h, hl, hh => by
    obtain ⟨⟨ρB, m, h1⟩, h2, h3⟩ := hh 0 e q rfl rfl
    obtain ⟨k1, k2⟩ := h.view h1 h2 h3
    obtain ⟨g', r1, r2, r3, r4⟩ := RelX.views im qs _ _ k1 (by simpa using hl) (fun t e' q' ht hq => by
      obtain ⟨a, b, c⟩ := hh (t + 1) e' q' (by simpa using ht) (by simpa using hq)
      exact ⟨a, b, fun k => c (k2 _ k)⟩)
    refine ⟨g', r1, Rn.le_trans (Rn.le_add q (h.rel.fresh _ (Nat.le_refl _)).2) r2, fun t q' ht => ?_, fun b hb => k2 b (r4 b hb)⟩
    cases t with
    | zero => cases ht; exact r2 _ _ (Rn.add_same _ _ _)
    | succ t =>
      have := r3 t q' (by simpa using ht)
      rw [Hp.next_push] at this
      rw [← this]; congr 1; omega

/-- an abstract object, put where nothing stands -/
theorem RelX.bear {g : Gh} {A : Hp} {w : World} (h : RelX P g A w) {i : Nat} (hi : A.get i = none) (hin : i < A.next) (hik : Reps.C.next ≤ i) {p : Pl} (hp : g.ρ i = some p) {k : Nat} {x : Dat} {S F : Nat → Prop}
    (ha : AbsR P w p k x S F) (h1 : ∀ b, S b → ¬ OwnX A g b ∧ ¬ SeenX A g b ∧ ¬ RoX A g b ∧ ¬ ConB b) (h2 : ∀ b, F b → ¬ OwnX A g b) :
    RelX P ⟨g.ρ, fun j => if j = i then S else g.S j, fun j => if j = i then F else g.F j⟩ (A.set i (some (.abs k x))) w := by
  have hget : ∀ j o, (A.set i (some (.abs k x))).get j = some o → (j = i ∧ o = .abs k x) ∨ (j ≠ i ∧ A.get j = some o) := by
    intro j o hj
    by_cases e : j = i
    · left; subst e; rw [Hp.get_set_same] at hj; cases hj; exact ⟨rfl, rfl⟩
    · right; rw [Hp.get_set_ne _ _ e] at hj; exact ⟨e, hj⟩
  let g2 : Gh := ⟨g.ρ, fun j => if j = i then S else g.S j, fun j => if j = i then F else g.F j⟩
  have own2 : ∀ j b, OwnAt (A.set i (some (.abs k x))) g2 j b → (j = i ∧ S b) ∨ OwnAt A g j b := by
    intro j b hj
    cases hj with
    | vis o' p k1 k2 k3 k4 =>
      rcases hget j o' k1 with ⟨rfl, rfl⟩ | ⟨e, k⟩
      · cases k2
      · exact .inr (.vis o' p k k2 k3 k4)
    | abs k' x' k1 k2 =>
      rcases hget j _ k1 with ⟨rfl, e⟩ | ⟨e, k'⟩
      · exact .inl ⟨rfl, by simpa [g2] using k2⟩
      · exact .inr (.abs _ _ k' (by simpa [g2, e] using k2))
  have con2 : ∀ j b, ConAt (A.set i (some (.abs k x))) g2 j b → ConAt A g j b := by
    intro j b hj
    cases hj with
    | vis o' p k1 k2 k5 k3 k4 =>
      rcases hget j o' k1 with ⟨rfl, rfl⟩ | ⟨e, k⟩
      · cases k2
      · exact .vis o' p k k2 k5 k3 k4
  have ro2 : ∀ j b, RoAt (A.set i (some (.abs k x))) g2 j b → RoAt A g j b := by
    intro j b hj
    cases hj with
    | vis o' p k1 k2 k5 k3 k4 =>
      rcases hget j o' k1 with ⟨rfl, rfl⟩ | ⟨e, k⟩
      · cases k2
      · exact .vis o' p k k2 k5 k3 k4
  have seen2 : ∀ j b, SeenAt (A.set i (some (.abs k x))) g2 j b → F b ∨ SeenAt A g j b := by
    intro j b hj
    cases hj with
    | con hc => exact .inr (.con (con2 j b hc))
    | vis o' p k1 k2 k5 k3 k4 =>
      rcases hget j o' k1 with ⟨rfl, rfl⟩ | ⟨e, k⟩
      · cases k5
      · exact .inr (.vis o' p k k2 k5 k3 k4)
    | abs k' x' k1 k2 =>
      rcases hget j _ k1 with ⟨rfl, e⟩ | ⟨e, k'⟩
      · exact .inl (by simpa [g2] using k2)
      · exact .inr (.abs _ _ k' (by simpa [g2, e] using k2))
  refine .of (fun j o hj hab => ?_) (fun j k' x' hj => ?_) ⟨fun a b c k1 k2 => ?_, fun a b c k1 k2 => ?_, fun a b c k1 k2 => ?_,
    fun a b c k1 k2 => h.sep.rr a b c (ro2 a c k1) (ro2 b c k2), fun a b c k1 k2 => h.sep.rc a b c (ro2 a c k1) (con2 b c k2),
    fun a b c k1 k2 => h.sep.cc a b c (con2 a c k1) (con2 b c k2)⟩ ⟨h.con.loc, h.con.next, fun j o hj hx => ?_, fun j p hj hp => ?_, h.con.cw⟩ (fun j hj => ?_) h.rel.glob
  · rcases hget j o hj with ⟨rfl, rfl⟩ | ⟨e, hj'⟩
    · cases hab
    · exact h.rel.obj j o hj'
  · rcases hget j _ hj with ⟨rfl, e⟩ | ⟨e, hj'⟩
    · cases e
      exact ⟨p, hp, by simpa using ha⟩
    · obtain ⟨q, hq, hb⟩ := h.abs j k' x' hj'
      exact ⟨q, hq, by simpa [e] using hb⟩
  · rcases own2 a c k1 with ⟨rfl, s1⟩ | q1
    · rcases own2 b c k2 with ⟨rfl, _⟩ | q2
      · rfl
      · exact absurd ⟨b, q2⟩ (h1 c s1).1
    · rcases own2 b c k2 with ⟨rfl, s2⟩ | q2
      · exact absurd ⟨a, q1⟩ (h1 c s2).1
      · exact h.sep.oo a b c q1 q2
  · rcases own2 a c k1 with ⟨rfl, s1⟩ | q1
    · rcases seen2 b c k2 with f2 | q2
      · exact ha.apart c s1 f2
      · exact (h1 c s1).2.1 ⟨b, q2⟩
    · rcases seen2 b c k2 with f2 | q2
      · exact h2 c f2 ⟨a, q1⟩
      · exact h.sep.os a b c q1 q2
  · rcases own2 a c k1 with ⟨rfl, s1⟩ | q1
    · exact (h1 c s1).2.2.1 ⟨b, ro2 b c k2⟩
    · exact h.sep.ow a b c q1 (ro2 b c k2)
  · rcases hget j o hx with ⟨rfl, _⟩ | ⟨e, hx'⟩
    · omega
    · exact h.con.ro j o hj hx'
  · obtain ⟨c1, c2⟩ := h.con.own j p hj hp
    refine ⟨c1, fun ⟨l, k⟩ => ?_⟩
    rcases own2 l _ k with ⟨_, s⟩ | k
    · exact (h1 _ s).2.2.2 ⟨j, p, hj, hp, rfl⟩
    · exact c2 ⟨l, k⟩
  · have hj' : A.next ≤ j := hj
    have := h.rel.fresh j hj'
    have e : j ≠ i := by omega
    rw [Hp.get_set_ne _ _ e]
    exact this

theorem ExtX.bear {A0 : Hp} {g0 : Gh} {w0 : World} {g : Gh} {A : Hp} {w : World} (hx : ExtX A0 g0 w0 A g w) {i k : Nat} {x : Dat} {S F : Nat → Prop} (hS : ∀ b, S b → OwnX A0 g0 b ∨ w0.heap.size ≤ b)
    (hF : ∀ b, F b → SeenX A0 g0 b ∨ OwnX A0 g0 b ∨ w0.heap.size ≤ b ∨ ConB b) :
    ExtX A0 g0 w0 (A.set i (some (.abs k x))) ⟨g.ρ, fun j => if j = i then S else g.S j, fun j => if j = i then F else g.F j⟩ w := by
  have hget : ∀ j o, (A.set i (some (.abs k x))).get j = some o → (j = i ∧ o = .abs k x) ∨ (j ≠ i ∧ A.get j = some o) := by
    intro j o hj
    by_cases e : j = i
    · left; subst e; rw [Hp.get_set_same] at hj; cases hj; exact ⟨rfl, rfl⟩
    · right; rw [Hp.get_set_ne _ _ e] at hj; exact ⟨e, hj⟩
  refine ⟨hx.le, hx.size, hx.keep, fun b ⟨j, hj⟩ => ?_, hx.next, hx.old, fun b ⟨j, hj⟩ => ?_, fun j o hj hm => ?_, hx.os, hx.output, hx.tape⟩
  · cases hj with
    | vis o' p k1 k2 k3 k4 =>
      rcases hget j o' k1 with ⟨rfl, rfl⟩ | ⟨e, k⟩
      · cases k2
      · exact hx.own b ⟨j, .vis o' p k k2 k3 k4⟩
    | abs k' x' k1 k2 =>
      rcases hget j _ k1 with ⟨rfl, e⟩ | ⟨e, k'⟩
      · exact hS b (by simpa using k2)
      · exact hx.own b ⟨j, .abs _ _ k' (by simpa [e] using k2)⟩
  · cases hj with
    | con hc =>
      cases hc with
      | vis o' p k1 k2 k5 k3 k4 =>
        rcases hget j o' k1 with ⟨rfl, rfl⟩ | ⟨e, k⟩
        · cases k2
        · exact hx.seen b ⟨j, .con (.vis o' p k k2 k5 k3 k4)⟩
    | vis o' p k1 k2 k5 k3 k4 =>
      rcases hget j o' k1 with ⟨rfl, rfl⟩ | ⟨e, k⟩
      · cases k5
      · exact hx.seen b ⟨j, .vis o' p k k2 k5 k3 k4⟩
    | abs k' x' k1 k2 =>
      rcases hget j _ k1 with ⟨rfl, e⟩ | ⟨e, k'⟩
      · exact hF b (by simpa using k2)
      · exact hx.seen b ⟨j, .abs _ _ k' (by simpa [e] using k2)⟩
  · rcases hget j o hj with ⟨rfl, rfl⟩ | ⟨e, k⟩
    · cases hm
    · exact hx.ro j o k hm

/-- a number for an object that is to come -/
theorem RelX.reserve {g : Gh} {A : Hp} {w : World} (h : RelX P g A w) (q : Pl) : RelX P ⟨g.ρ.add A.next q, g.S, g.F⟩ ⟨A.next + 1, A.tr⟩ w ∧
    (∀ {A0 g0 w0}, ExtX A0 g0 w0 A g w → ExtX A0 g0 w0 ⟨A.next + 1, A.tr⟩ ⟨g.ρ.add A.next q, g.S, g.F⟩ w) ∧
    (∀ b, OwnX ⟨A.next + 1, A.tr⟩ ⟨g.ρ.add A.next q, g.S, g.F⟩ b → OwnX A g b) ∧ (∀ b, SeenX ⟨A.next + 1, A.tr⟩ ⟨g.ρ.add A.next q, g.S, g.F⟩ b → SeenX A g b) ∧ (∀ b, RoX ⟨A.next + 1, A.tr⟩ ⟨g.ρ.add A.next q, g.S, g.F⟩ b → RoX A g b) := by
  have hn := h.rel.fresh A.next (Nat.le_refl _)
  have hle : g.ρ.le (g.ρ.add A.next q) := Rn.le_add q hn.2
  have hkn := h.con.next
  have hplc : ∀ j o p, A.get j = some o → (g.ρ.add A.next q) j = some p → g.ρ j = some p := by
    intro j o p hj hq
    have hne : j ≠ A.next := by rintro rfl; rw [hn.1] at hj; cases hj
    simpa only [Rn.add, if_neg hne] using hq
  let A2 : Hp := ⟨A.next + 1, A.tr⟩
  let g2 : Gh := ⟨g.ρ.add A.next q, g.S, g.F⟩
  have own2 : ∀ j b, OwnAt A2 g2 j b → OwnAt A g j b := by
    intro j b hj
    cases hj with
    | vis o' p k1 k2 k3 k4 => exact .vis o' p k1 k2 (hplc j o' p k1 k3) k4
    | abs k x k1 k2 => exact .abs k x k1 k2
  have con2 : ∀ j b, ConAt A2 g2 j b → ConAt A g j b := by
    intro j b hj
    cases hj with
    | vis o' p k1 k2 k5 k3 k4 => exact .vis o' p k1 k2 k5 (hplc j o' p k1 k3) k4
  have ro2 : ∀ j b, RoAt A2 g2 j b → RoAt A g j b := by
    intro j b hj
    cases hj with
    | vis o' p k1 k2 k5 k3 k4 => exact .vis o' p k1 k2 k5 (hplc j o' p k1 k3) k4
  have seen2 : ∀ j b, SeenAt A2 g2 j b → SeenAt A g j b := by
    intro j b hj
    cases hj with
    | con hc => exact .con (con2 j b hc)
    | vis o' p k1 k2 k5 k3 k4 => exact .vis o' p k1 k2 k5 (hplc j o' p k1 k3) k4
    | abs k x k1 k2 => exact .abs k x k1 k2
  refine ⟨?_, fun {A0 g0 w0} hx => ?_, fun b ⟨j, hj⟩ => ⟨j, own2 j b hj⟩, fun b ⟨j, hj⟩ => ⟨j, seen2 j b hj⟩, fun b ⟨j, hj⟩ => ⟨j, ro2 j b hj⟩⟩
  · refine .of (fun j o hj ha => ?_) (fun j k x hj => ?_) (h.sep.mono own2 seen2 (fun j b hj => .inl (ro2 j b hj)) con2) ⟨fun j hj => ?_, by show _ ≤ A.next + 1; omega, fun j x hj hx => h.con.ro j x hj hx, fun j p hj hp => ?_, h.con.cw⟩ (fun j hj => ?_) (fun j hj => ?_)
    · obtain ⟨p, hp, hob⟩ := h.rel.obj j o hj
      exact ⟨p, hle _ _ hp, hob.keep hle rfl⟩
    · obtain ⟨p, hp, ha⟩ := h.abs j k x hj
      exact ⟨p, hle _ _ hp, ha⟩
    · show (g.ρ.add A.next q) j = _
      simp only [Rn.add]; rw [if_neg (by omega)]; exact h.con.loc j hj
    · obtain ⟨c1, c2⟩ := h.con.own j p hj hp
      exact ⟨c1, fun ⟨l, k⟩ => c2 ⟨l, own2 l _ k⟩⟩
    · have hj' : A.next + 1 ≤ j := hj
      have := h.rel.fresh j (by omega)
      refine ⟨this.1, ?_⟩
      show (g.ρ.add A.next q) j = none
      simp only [Rn.add]; rw [if_neg (by omega)]; exact this.2
    · obtain ⟨p, k1, k2, k3⟩ := h.rel.glob j hj
      exact ⟨p, hle _ _ k1, k2, k3⟩
  · refine ⟨Rn.le_trans hx.le hle, hx.size, hx.keep, fun b ⟨j, hj⟩ => hx.own b ⟨j, own2 j b hj⟩, by have := hx.next; show _ ≤ A.next + 1; omega, fun j hj => ?_, fun b ⟨j, hj⟩ => hx.seen b ⟨j, seen2 j b hj⟩, fun j o hj hm => hx.ro j o hj hm, hx.os, hx.output, hx.tape⟩
    have := hx.next
    show (g.ρ.add A.next q) j = _
    simp only [Rn.add]; rw [if_neg (by omega)]; exact hx.old j hj

/-- what is lent, is changed; the others stay -/
theorem zoom_frame {g gB gB' : Gh} {A A1 B B' : Hp} {w w' : World} (hA : RelX P g A w) (hsub : ∀ i o, A1.get i = some o → A.get i = some o) (hn : A.next ≤ A1.next) (hB : RelX P gB B w)
    (hl : ∀ b, OwnX B gB b → ∃ i, OwnAt A g i b ∧ A1.get i = none) (hB' : RelX P gB' B' w') (hx : ExtX B gB w B' gB' w') (_hn2 : A1.next = A.next) :
    RelX P g A1 w' ∧ ExtX A g w A1 g w' ∧ (∀ b, OwnX B' gB' b → ¬ OwnX A1 g b ∧ ¬ SeenX A1 g b ∧ ¬ RoX A1 g b ∧ ¬ ConB b) ∧ (∀ b, OwnX B' gB' b → OwnX A g b ∨ w.heap.size ≤ b) := by
  have h1 := hA.sub hn hsub
  have key : ∀ b, OwnX B gB b → ¬ OwnX A1 g b ∧ ¬ SeenX A1 g b ∧ ¬ RoX A1 g b := by
    intro b hb
    obtain ⟨i, k1, k2⟩ := hl b hb
    refine ⟨fun ⟨j, hj⟩ => ?_, fun ⟨j, hj⟩ => ?_, fun ⟨j, hj⟩ => ?_⟩
    · have hj' : OwnAt A g j b := by
        cases hj with
        | vis o p k1 k2 k3 k4 => exact .vis o p (hsub _ _ k1) k2 k3 k4
        | abs k x k1 k2 => exact .abs k x (hsub _ _ k1) k2
      have := hA.sep.oo i j b k1 hj'
      subst this
      cases hj with
      | vis o p q1 => rw [k2] at q1; cases q1
      | abs k x q1 => rw [k2] at q1; cases q1
    · refine hA.sep.os i j b k1 ?_
      cases hj with
      | con hc =>
        cases hc with
        | vis o p k1 k2 k5 k3 k4 => exact .con (.vis o p (hsub _ _ k1) k2 k5 k3 k4)
      | vis o p k1 k2 k5 k3 k4 => exact .vis o p (hsub _ _ k1) k2 k5 k3 k4
      | abs k x k1 k2 => exact .abs k x (hsub _ _ k1) k2
    · refine hA.sep.ow i j b k1 ?_
      cases hj with
      | vis o p k1 k2 k5 k3 k4 => exact .vis o p (hsub _ _ k1) k2 k5 k3 k4
  have lt1 : ∀ b, OwnX A1 g b ∨ SeenX A1 g b ∨ RoX A1 g b → b < w.heap.size := by
    rintro b (⟨i, hi⟩ | ⟨i, hi⟩ | ⟨i, hi⟩)
    · exact hi.lt h1
    · exact hi.lt h1
    · exact hi.lt h1
  have hkc : ∀ b, ConB b → w'.heap[b]? = w.heap[b]? := fun b hb => hx.keep b (hB.conb hb).1 (hB.conb hb).2
  refine ⟨h1.other hx.size (fun b hb => hx.keep b (lt1 b hb) fun hown => ?_) hkc, ⟨g.ρ.le_refl, hx.size, fun b hb hno => hx.keep b hb fun hown => ?_, fun b hb => ?_, by omega, fun _ _ => rfl, fun b hb => ?_, fun i o hi _ => hsub i o hi, hx.os, hx.output, hx.tape⟩, fun b hb => ?_, fun b hb => ?_⟩
  · obtain ⟨k1, k2, k3⟩ := key b hown
    rcases hb with hb | hb | hb
    · exact k1 hb
    · exact k2 hb
    · exact k3 hb
  · obtain ⟨i, k1, _⟩ := hl b hown
    exact hno ⟨i, k1⟩
  · obtain ⟨i, hi⟩ := hb
    refine .inl ⟨i, ?_⟩
    cases hi with
    | vis o p k1 k2 k3 k4 => exact .vis o p (hsub _ _ k1) k2 k3 k4
    | abs k x k1 k2 => exact .abs k x (hsub _ _ k1) k2
  · obtain ⟨i, hi⟩ := hb
    refine .inl ⟨i, ?_⟩
    cases hi with
    | con hc =>
      cases hc with
      | vis o p k1 k2 k5 k3 k4 => exact .con (.vis o p (hsub _ _ k1) k2 k5 k3 k4)
    | vis o p k1 k2 k5 k3 k4 => exact .vis o p (hsub _ _ k1) k2 k5 k3 k4
    | abs k x k1 k2 => exact .abs k x (hsub _ _ k1) k2
  · have hcb := fun hc => (hB'.conb (b := b) hc).2 hb
    rcases hx.own b hb with k | k
    · obtain ⟨k1, k2, k3⟩ := key b k
      exact ⟨k1, k2, k3, hcb⟩
    · exact ⟨fun hh => by have := lt1 b (.inl hh); omega, fun hh => by have := lt1 b (.inr (.inl hh)); omega, fun hh => by have := lt1 b (.inr (.inr hh)); omega, hcb⟩
  · rcases hx.own b hb with k | k
    · obtain ⟨i, k1, _⟩ := hl b k
      exact .inl ⟨i, k1⟩
    · exact .inr k

end
end Go.Dn
end

section
namespace Go.Dn
theorem OwnAt.sub {g : Gh} {B B' : Hp} (h : ∀ i o, B.get i = some o → B'.get i = some o) {i b : Nat} (hb : OwnAt B g i b) : OwnAt B' g i b := by
  cases hb with
  | vis o p k1 k2 k3 k4 => exact .vis o p (h _ _ k1) k2 k3 k4
  | abs k x k1 k2 => exact .abs k x (h _ _ k1) k2

theorem VM.mono {m m' : Nat → Nat → Prop} (hm : ∀ a b, m a b → m' a b) {u v : Value} (h : VM m u v) : VM m' u v := by
  induction h with
  | plain h => exact .plain h
  | ptr o h => exact .ptr o (hm _ _ h)
  | slice o s n c h => exact .slice o s n c (hm _ _ h)
  | sliceZ => exact .sliceZ
  | map h => exact .map (hm _ _ h)
  | iface t _ ih => exact .iface t ih
  | agg as bs h1 _ ih => exact .agg as bs h1 ih
  | tuple as bs h1 _ ih => exact .tuple as bs h1 ih
theorem VMs.mono {m m' : Nat → Nat → Prop} (hm : ∀ a b, m a b → m' a b) {u v : List Value} (h : VMs m u v) : VMs m' u v := by
  induction h with
  | nil => exact .nil
  | cons h _ ih => exact .cons (h.mono hm) ih

section
variable [Reps] {P : Program}

theorem take_sets {g : Gh} {A : Hp} {w : World} (_h : RelX P g A w) {T : TypeId} {cs : List Value} {q : Pl} :
    (∀ b, OwnX (A.push (.arr T cs .own)) ⟨g.ρ.add A.next q, g.S, g.F⟩ b → OwnX A g b ∨ b = q.blk) ∧
    (∀ b, SeenX (A.push (.arr T cs .own)) ⟨g.ρ.add A.next q, g.S, g.F⟩ b → SeenX A g b) ∧
    (∀ b, RoX (A.push (.arr T cs .own)) ⟨g.ρ.add A.next q, g.S, g.F⟩ b → RoX A g b) := by
  have hget : ∀ j x, (A.push (.arr T cs .own)).get j = some x → (j = A.next ∧ x = .arr T cs .own) ∨ (j ≠ A.next ∧ A.get j = some x) := by
    intro j x hj
    by_cases e : j = A.next
    · left; subst e; rw [Hp.get_push_same] at hj; cases hj; exact ⟨rfl, rfl⟩
    · right; rw [Hp.get_push_ne _ _ e] at hj; exact ⟨e, hj⟩
  have hplc : ∀ j p, j ≠ A.next → (g.ρ.add A.next q) j = some p → g.ρ j = some p := by
    intro j p hj hq
    simpa only [Rn.add, if_neg hj] using hq
  refine ⟨fun b ⟨j, hj⟩ => ?_, fun b ⟨j, hj⟩ => ⟨j, ?_⟩, fun b ⟨j, hj⟩ => ⟨j, ?_⟩⟩
  · cases hj with
    | vis o' p k1 k2 k3 k4 =>
      rcases hget j o' k1 with ⟨rfl, rfl⟩ | ⟨e, k⟩
      · have : (g.ρ.add A.next q) A.next = some p := k3
        rw [Rn.add_same] at this; cases this
        exact .inr k4.symm
      · exact .inl ⟨j, .vis o' p k k2 (hplc j p e k3) k4⟩
    | abs k x k1 k2 =>
      rcases hget j _ k1 with ⟨rfl, e⟩ | ⟨e, k'⟩
      · cases e
      · exact .inl ⟨j, .abs k x k' k2⟩
  · cases hj with
    | con hc =>
      cases hc with
      | vis o' p k1 k2 k5 k3 k4 =>
        rcases hget j o' k1 with ⟨rfl, rfl⟩ | ⟨e, k⟩
        · cases k2
        · exact .con (.vis o' p k k2 k5 (hplc j p e k3) k4)
    | vis o' p k1 k2 k5 k3 k4 =>
      rcases hget j o' k1 with ⟨rfl, rfl⟩ | ⟨e, k⟩
      · cases k2
      · exact .vis o' p k k2 k5 (hplc j p e k3) k4
    | abs k x k1 k2 =>
      rcases hget j _ k1 with ⟨rfl, e⟩ | ⟨e, k'⟩
      · cases e
      · exact .abs k x k' k2
  · cases hj with
    | vis o' p k1 k2 k5 k3 k4 =>
      rcases hget j o' k1 with ⟨rfl, rfl⟩ | ⟨e, k⟩
      · cases k2
      · exact .vis o' p k k2 k5 (hplc j p e k3) k4

theorem RelX.takes {gB' : Gh} {B' : Hp} {w : World} (hB' : RelX P gB' B' w) {A0 : Hp} {g0 : Gh} {w0 : World} (hown : ∀ b, OwnX B' gB' b → OwnX A0 g0 b ∨ w0.heap.size ≤ b) :
    ∀ (ex : List (TypeId × List Value)) (es : List Nat) (g : Gh) (A : Hp), RelX P g A w → ExtX A0 g0 w0 A g w → ex.length = es.length → es.Nodup →
    (∀ (t : Nat) e j, ex[t]? = some e → es[t]? = some j → B'.get j = some (.arr e.1 e.2 .own) ∧ ∀ u ∈ e.2, plain0 u = true) →
    (∀ j ∈ es, ∀ b, OwnAt B' gB' j b → ¬ OwnX A g b ∧ ¬ SeenX A g b ∧ ¬ RoX A g b) →
    ∃ g' : Gh, RelX P g' (pushL .own A ex) w ∧ ExtX A0 g0 w0 (pushL .own A ex) g' w ∧ g.ρ.le g'.ρ ∧ (∀ (t : Nat) j p, es[t]? = some j → gB'.ρ j = some p → g'.ρ (A.next + t) = some p)
  | [], es, g, A, h, hx, hl, _, _, _ => by
    have : es = [] := by cases es <;> simp_all
    subst this
    exact ⟨g, h, hx, g.ρ.le_refl, by simp⟩
  | e :: ex, [], g, A, h, hx, hl, _, _, _ => by simp at hl
  | e :: ex, j :: es, g, A, h, hx, hl, hnd, he, hf => by
    obtain ⟨h1, h2⟩ := he 0 e j rfl rfl
    obtain ⟨q, hq, ho⟩ := hB'.rel.obj j _ h1
    have hat : OwnAt B' gB' j q.blk := .vis _ q h1 rfl hq rfl
    obtain ⟨f1, f2, f3⟩ := hf j (by simp) q.blk hat
    have hc : ∀ i p, i < Reps.C.next → Reps.ρC i = some p → p.blk ≠ q.blk := fun i p hi hp e => (hB'.con.own i p hi hp).2 (by rw [e]; exact ⟨j, hat⟩)
    have k1 := h.take ho h2 f1 f2 f3 hc
    have k2 := hx.take h (T := e.1) (cs := e.2) (hown q.blk ⟨j, hat⟩)
    obtain ⟨s1, s2, s3⟩ := take_sets h (T := e.1) (cs := e.2) (q := q)
    rw [List.nodup_cons] at hnd
    obtain ⟨g', r1, r2, r3, r4⟩ := RelX.takes hB' hown ex es _ _ k1 k2 (by simpa using hl) hnd.2 (fun t e' j' ht hj => he (t + 1) e' j' (by simpa using ht) (by simpa using hj)) (fun j' hj' b hb => by
      obtain ⟨a1, a2, a3⟩ := hf j' (by simp [hj']) b hb
      refine ⟨fun k => ?_, fun k => a2 (s2 b k), fun k => a3 (s3 b k)⟩
      rcases s1 b k with k | rfl
      · exact a1 k
      · have := hB'.sep.oo j j' _ hat hb
        subst this
        exact hnd.1 hj')
    refine ⟨g', r1, r2, Rn.le_trans (Rn.le_add q (h.rel.fresh _ (Nat.le_refl _)).2) r3, fun t j' p ht hp => ?_⟩
    cases t with
    | zero =>
      cases ht
      rw [hq] at hp; cases hp
      exact r3 _ _ (Rn.add_same _ _ _)
    | succ t =>
      have := r4 t j' p (by simpa using ht) hp
      rw [Hp.next_push] at this
      rw [← this]; congr 1; omega

/-- how a number here and one there are one object -/
def Meet (g gB : Gh) (ims : List Nat) (n a b : Nat) : Prop := (∀ p, g.ρ a = some p → gB.ρ b = some p) ∨ (∃ t, ims[t]? = some a ∧ b = n + t)

/-- a call on a heap of its own -/
theorem zoom_call {call : CallT} (hC : CallOK P call) {g gB : Gh} {A A1 B : Hp} {w : World} (hA : RelX P g A w) (hsub : ∀ i o, A1.get i = some o → A.get i = some o) (hn2 : A1.next = A.next)
    (hB : RelX P gB B w) (hl : ∀ b, OwnX B gB b → ∃ i, OwnAt A g i b ∧ A1.get i = none)
    {im : List (TypeId × List Value)} {ims : List Nat} (hil : im.length = ims.length) (hig : ∀ (t : Nat) e j, im[t]? = some e → ims[t]? = some j → (∃ m, A.get j = some (.arr e.1 e.2 m) ∧ A1.get j ≠ none) ∧ ∀ u ∈ e.2, plain0 u = true)
    {f : FuncId} {args largs : List Value} {args' : Array Value} (ha : AR g.ρ args.toArray args') (hm : VMs (Meet g gB ims B.next) args largs)
    {v : Value} {B' : Hp} (hrun : call f largs (pushL .sh B im) = some (v, B')) :
    Calls P f args' w fun e w' => ∃ v' gB', e = .returned v' ∧ VR gB'.ρ v v' ∧ RelX P gB' B' w' ∧ RelX P g A1 w' ∧ ExtX A g w A1 g w' ∧
      (∀ b, OwnX B' gB' b → ¬ OwnX A1 g b ∧ ¬ SeenX A1 g b ∧ ¬ RoX A1 g b ∧ ¬ ConB b) ∧ (∀ b, OwnX B' gB' b → OwnX A g b ∨ w.heap.size ≤ b) ∧ gB.ρ.le gB'.ρ ∧
      (∀ (t : Nat) j p, ims[t]? = some j → g.ρ j = some p → gB'.ρ (B.next + t) = some p) := by
  have hpl : ∀ j, j ∈ ims → ∃ q, g.ρ j = some q := by
    intro j hj
    obtain ⟨t, ht⟩ := List.getElem?_of_mem hj
    have htl : t < im.length := by rw [hil]; exact (List.getElem?_eq_some_iff.1 ht).1
    obtain ⟨⟨m, h1, _⟩, _⟩ := hig t im[t] j (by simp) ht
    obtain ⟨q, hq, _⟩ := hA.rel.obj j _ h1
    exact ⟨q, hq⟩
  obtain ⟨gB1, b1, b2, b3, b4⟩ := hB.views im (ims.map fun j => (g.ρ j).getD ⟨0, 0, 0⟩) gB B (by simpa using hil) (fun t e q ht hq => by
    simp only [List.getElem?_map] at hq
    cases hj : ims[t]? with
    | none => rw [hj] at hq; cases hq
    | some j =>
      rw [hj] at hq
      simp only [Option.map_some, Option.some.injEq] at hq
      obtain ⟨⟨m, h1, h3⟩, h2⟩ := hig t e j ht hj
      obtain ⟨q', hq', ho⟩ := hA.rel.obj j _ h1
      rw [hq'] at hq
      simp only [Option.getD_some] at hq
      subst hq
      refine ⟨⟨g.ρ, m, ho⟩, h2, fun hown => ?_⟩
      obtain ⟨i, k1, k2⟩ := hl _ hown
      have hij : i ≠ j := by rintro rfl; exact h3 k2
      cases hmd : m with
      | own => subst hmd; exact hij (hA.sep.oo i j _ k1 (.vis _ q' h1 rfl hq' rfl))
      | sh => subst hmd; exact hA.sep.os i j _ k1 (.vis _ q' h1 rfl rfl hq' rfl)
      | ro =>
        subst hmd
        rcases Nat.lt_or_ge j Reps.C.next with hk | hk
        · exact hA.sep.os i j _ k1 (.con (.vis _ q' h1 rfl hk hq' rfl))
        · exact hA.sep.ow i j _ k1 (.vis _ q' h1 rfl hk hq' rfl))
  have b3' : ∀ (t : Nat) j p, ims[t]? = some j → g.ρ j = some p → gB1.ρ (B.next + t) = some p := by
    intro t j p ht hp
    refine b3 t p ?_
    simp [ht, hp]
  have ha2 : AR gB1.ρ largs.toArray args' := by
    refine ar_move (fun a b p hab hp => ?_) hm ha
    rcases hab with h1 | ⟨t, h1, rfl⟩
    · exact b2 _ _ (h1 p hp)
    · exact b3' t a p h1 hp
  refine (hC.calls f largs _ v B' hrun gB1 w args' b1 ha2).mono fun e w' he => ?_
  obtain ⟨v', rfl, gB', h1, h2, h3⟩ := he
  obtain ⟨z1, z2, z3, z4⟩ := zoom_frame hA hsub (Nat.le_of_eq hn2.symm) b1 (fun b hb => hl b (b4 b hb)) h2 h3 hn2
  exact ⟨v', gB', rfl, h1, h2, z1, z2, z3, z4, Rn.le_trans b2 h3.le, fun t j p ht hp => h3.le _ _ (b3' t j p ht hp)⟩

/-- all that a heap has besides the constants is its own -/
def Tight (B : Hp) : Prop := ∀ j o, B.get j = some o → j < Reps.C.next ∨ o.md = .own

theorem Tight.seen {g : Gh} {B : Hp} (h : Tight B) {b : Nat} (hb : SeenX B g b ∨ RoX B g b) {w : World} (hB : RelX P g B w) : ConB b := by
  have key : ∀ j o p, B.get j = some o → j < Reps.C.next → g.ρ j = some p → p.blk = b → ConB b := fun j o p _ hj hp e => ⟨j, p, hj, by rw [← hB.con.loc j hj]; exact hp, e⟩
  rcases hb with ⟨j, hj⟩ | ⟨j, hj⟩
  · cases hj with
    | con hc =>
      cases hc with
      | vis o p k1 k2 k5 k3 k4 => exact key j o p k1 k5 k3 k4
    | vis o p k1 k2 k5 k3 k4 =>
      rcases h j o k1 with k | k
      · exact key j o p k1 k k3 k4
      · rw [k2] at k; cases k
    | abs k x k1 k2 =>
      rcases h j _ k1 with q | q
      · have := hB.con.ro j _ q k1; cases this
      · cases q
  · cases hj with
    | vis o p k1 k2 k5 k3 k4 =>
      rcases h j o k1 with k | k
      · exact key j o p k1 k k3 k4
      · rw [k2] at k; cases k

/-- A call of a method on an abstract object. -/
theorem call_method {call : CallT} (hC : CallOK P call) {f k k' : Nat} {x x' : Dat} {g : Gh} {A : Hp} {w : World} (hA : RelX P g A w) {i : Nat} (hi : A.get i = some (.abs k x))
    {im : List (TypeId × List Value)} {ims : List Nat} (hil : im.length = ims.length) (hig : ∀ (t : Nat) e j, im[t]? = some e → ims[t]? = some j → (∃ m, A.get j = some (.arr e.1 e.2 m)) ∧ ∀ u ∈ e.2, plain0 u = true)
    (ex : List (TypeId × List Value)) (hex : ∀ e ∈ ex, ∀ u ∈ e.2, plain0 u = true)
    {args : List Value} {args' : Array Value} (ha : AR g.ρ args.toArray args') (largs : Nat → Nat → List Value)
    (hm : ∀ r n, VMs (fun a b => (a = i ∧ b = r) ∨ (a < Reps.C.next ∧ b = a) ∨ (∃ t, ims[t]? = some a ∧ b = n + t)) args (largs r n)) (u : Value)
    (hrun : ∀ B r, (∀ i o, Reps.C.get i = some o → B.get i = some o) → B.wf → Reps.C.next ≤ B.next → Reps.rep k x B r →
      ∃ v B' B2, ∃ es : List Nat, call f (largs r B.next) (pushL .sh B im) = some (v, B') ∧ (∀ i o, B2.get i = some o → B'.get i = some o) ∧ B'.next ≤ B2.next ∧ (∀ i o, Reps.C.get i = some o → B2.get i = some o) ∧ Reps.rep k' x' B2 r ∧
        (∃ o, B2.get r = some o ∧ o.md = .own) ∧ Tight B2 ∧ ex.length = es.length ∧ es.Nodup ∧ (∀ (t : Nat) e j, ex[t]? = some e → es[t]? = some j → B'.get j = some (.arr e.1 e.2 .own) ∧ B2.get j = none) ∧
        VM (fun a b => (a = r ∧ b = i) ∨ (a < Reps.C.next ∧ b = a) ∨ (∃ t, es[t]? = some a ∧ b = A.next + t)) v u) :
    Calls P f args' w fun e w' => ∃ v', e = .returned v' ∧ After P g A w u (pushL .own (A.set i (some (.abs k' x'))) ex) v' w' := by
  obtain ⟨B, gB, r, p, hB, hCB, hrep, hp, hr, hS, hF⟩ := hA.open hi
  obtain ⟨v, B', B2, es, hcall, hsub2, hn2, hC2, hrep2, ⟨ro, hro, hrm⟩, htight, hexl, hnd, hexg, hvm⟩ := hrun B r hCB (fun j hj => (hB.rel.fresh j hj).1) hB.con.next hrep
  have hiK : Reps.C.next ≤ i := by
    rcases Nat.lt_or_ge i Reps.C.next with h | h
    · have := hA.con.ro i _ h hi; cases this
    · exact h
  have hset : ∀ j o, (A.set i none).get j = some o → A.get j = some o := by
    intro j o hj
    by_cases e : j = i
    · subst e; rw [Hp.get_set_same] at hj; cases hj
    · rwa [Hp.get_set_ne _ _ e] at hj
  refine (zoom_call hC (A1 := A.set i none) hA hset rfl hB (fun b hb => ⟨i, .abs k x hi ((hS b).2 hb), Hp.get_set_same _ _ _⟩) hil (fun t e j ht hj => ?_) ha ?_ hcall).mono fun e w' he => ?_
  · obtain ⟨⟨m, h1⟩, h2⟩ := hig t e j ht hj
    refine ⟨⟨m, h1, ?_⟩, h2⟩
    have : j ≠ i := by rintro rfl; rw [hi] at h1; cases h1
    rw [Hp.get_set_ne _ _ this, h1]; simp
  · refine (hm r B.next).mono fun a b hab => ?_
    rcases hab with ⟨rfl, rfl⟩ | ⟨h1, rfl⟩ | h1
    · exact .inl fun q hq => by rw [hp] at hq; cases hq; exact hr
    · exact .inl fun q hq => by rw [hB.con.loc b h1, ← hA.con.loc b h1]; exact hq
    · exact .inr h1
  · obtain ⟨v', gB', rfl, c1, c2, c3, c4, c5, c6, c7, c8⟩ := he
    have hB2 := c2.sub hn2 hsub2
    have own2 : ∀ j b, OwnAt B2 gB' j b → OwnAt B' gB' j b := fun j b hb => hb.sub hsub2
    have hroot : OwnX B2 gB' p.blk := ⟨r, .vis ro p hro hrm (c7 _ _ hr) rfl⟩
    have habs := hB2.shut (k := k') (x := x') hC2 hrep2 (c7 _ _ hr) hroot
    have hF2 : ∀ b, SeenX B2 gB' b ∨ RoX B2 gB' b ∨ ConB b → ConB b := by
      rintro b (hb | hb | hb)
      · exact htight.seen (.inl hb) hB2
      · exact htight.seen (.inr hb) hB2
      · exact hb
    have hb1 : ∀ b, OwnX B2 gB' b → ¬ OwnX (A.set i none) g b ∧ ¬ SeenX (A.set i none) g b ∧ ¬ RoX (A.set i none) g b ∧ ¬ ConB b := fun b ⟨j, hj⟩ => c5 b ⟨j, own2 j b hj⟩
    have k1 := c3.bear (i := i) (Hp.get_set_same _ _ _) (hA.wf hi) hiK hp habs hb1 (fun b hb => (c3.conb (hF2 b hb)).2)
    have k2 := c4.bear (i := i) (k := k') (x := x') (S := OwnX B2 gB') (F := fun b => SeenX B2 gB' b ∨ RoX B2 gB' b ∨ ConB b) (fun b ⟨j, hj⟩ => c6 b ⟨j, own2 j b hj⟩) (fun b hb => .inr (.inr (.inr (hF2 b hb))))
    have hss : ∀ j o, (A.set i (some (.abs k' x'))).get j = some o → ((A.set i none).set i (some (.abs k' x'))).get j = some o := by
      intro j o hj
      by_cases e : j = i
      · subst e; rw [Hp.get_set_same] at hj ⊢; exact hj
      · rw [Hp.get_set_ne _ _ e] at hj; rw [Hp.get_set_ne _ _ e, Hp.get_set_ne _ _ e]; exact hj
    have k1' := k1.sub (A' := A.set i (some (.abs k' x'))) (Nat.le_refl _) hss
    have k2' := k2.sub (A' := A.set i (some (.abs k' x'))) (Nat.le_refl _) hss
    have hown3 : ∀ b, OwnX (A.set i (some (.abs k' x'))) ⟨g.ρ, fun j => if j = i then OwnX B2 gB' else g.S j, fun j => if j = i then (fun b => SeenX B2 gB' b ∨ RoX B2 gB' b ∨ ConB b) else g.F j⟩ b → OwnX (A.set i none) g b ∨ OwnX B2 gB' b := by
      rintro b ⟨j, hj⟩
      cases hj with
      | vis o q q1 q2 q3 q4 =>
        by_cases e : j = i
        · subst e; rw [Hp.get_set_same] at q1; cases q1; cases q2
        · rw [Hp.get_set_ne _ _ e] at q1
          exact .inl ⟨j, .vis o q (by rw [Hp.get_set_ne _ _ e]; exact q1) q2 q3 q4⟩
      | abs k0 x0 q1 q2 =>
        by_cases e : j = i
        · subst e; exact .inr (by simpa using q2)
        · rw [Hp.get_set_ne _ _ e] at q1
          exact .inl ⟨j, .abs k0 x0 (by rw [Hp.get_set_ne _ _ e]; exact q1) (by simpa [e] using q2)⟩
    have hseen3 : ∀ b, SeenX (A.set i (some (.abs k' x'))) ⟨g.ρ, fun j => if j = i then OwnX B2 gB' else g.S j, fun j => if j = i then (fun b => SeenX B2 gB' b ∨ RoX B2 gB' b ∨ ConB b) else g.F j⟩ b → SeenX (A.set i none) g b ∨ ConB b := by
      rintro b ⟨j, hj⟩
      cases hj with
      | con hc =>
        cases hc with
        | vis o q q1 q2 q5 q3 q4 =>
          by_cases e : j = i
          · subst e; rw [Hp.get_set_same] at q1; cases q1; cases q2
          · rw [Hp.get_set_ne _ _ e] at q1
            exact .inl ⟨j, .con (.vis o q (by rw [Hp.get_set_ne _ _ e]; exact q1) q2 q5 q3 q4)⟩
      | vis o q q1 q2 q5 q3 q4 =>
        by_cases e : j = i
        · subst e; rw [Hp.get_set_same] at q1; cases q1; cases q5
        · rw [Hp.get_set_ne _ _ e] at q1
          exact .inl ⟨j, .vis o q (by rw [Hp.get_set_ne _ _ e]; exact q1) q2 q5 q3 q4⟩
      | abs k0 x0 q1 q2 =>
        by_cases e : j = i
        · subst e; exact .inr (hF2 b (by simpa using q2))
        · rw [Hp.get_set_ne _ _ e] at q1
          exact .inl ⟨j, .abs k0 x0 (by rw [Hp.get_set_ne _ _ e]; exact q1) (by simpa [e] using q2)⟩
    have hro3 : ∀ b, RoX (A.set i (some (.abs k' x'))) ⟨g.ρ, fun j => if j = i then OwnX B2 gB' else g.S j, fun j => if j = i then (fun b => SeenX B2 gB' b ∨ RoX B2 gB' b ∨ ConB b) else g.F j⟩ b → RoX (A.set i none) g b := by
      rintro b ⟨j, hj⟩
      cases hj with
      | vis o q q1 q2 q5 q3 q4 =>
        by_cases e : j = i
        · subst e; rw [Hp.get_set_same] at q1; cases q1; cases q2
        · rw [Hp.get_set_ne _ _ e] at q1
          exact ⟨j, .vis o q (by rw [Hp.get_set_ne _ _ e]; exact q1) q2 q5 q3 q4⟩
    obtain ⟨g', t1, t2, t3, t4⟩ := c2.takes c6 ex es _ _ k1' k2' hexl hnd (fun t e j ht hj => ⟨(hexg t e j ht hj).1, hex e (List.mem_of_getElem? ht)⟩) (fun j hj b hb => by
      obtain ⟨t, ht⟩ := List.getElem?_of_mem hj
      have htl : t < ex.length := by rw [hexl]; exact (List.getElem?_eq_some_iff.1 ht).1
      have hno := (hexg t ex[t] j (by simp) ht).2
      obtain ⟨d1, d2, d3, d4⟩ := c5 b ⟨j, hb⟩
      refine ⟨fun q => ?_, fun q => ?_, fun q => d3 (hro3 b q)⟩
      · rcases hown3 b q with q | ⟨l, q⟩
        · exact d1 q
        · have := c2.sep.oo j l b hb (own2 l b q)
          subst this
          cases q with
          | vis o q q1 => rw [hno] at q1; cases q1
          | abs k x q1 => rw [hno] at q1; cases q1
      · rcases hseen3 b q with q | q
        · exact d2 q
        · exact d4 q)
    refine ⟨v', rfl, g', ?_, t1, t2⟩
    refine VR.move (fun a b q hab hq => ?_) hvm v' c1
    rcases hab with ⟨rfl, rfl⟩ | ⟨h1, rfl⟩ | ⟨t, h1, rfl⟩
    · rw [c7 _ _ hr] at hq; cases hq
      exact t3 _ _ hp
    · rw [c2.con.loc b h1, ← t1.con.loc b h1] at hq; exact hq
    · exact t4 t a q h1 hq

end
end Go.Dn
end

section
namespace Go.Dn
section
variable [Reps] {P : Program}

def gC : Gh := ⟨Reps.ρC, fun _ _ => False, fun _ _ => False⟩

/-- the constants alone -/
theorem RelX.consts {g : Gh} {A : Hp} {w : World} (hA : RelX P g A w) : RelX P gC Reps.C w ∧ ∀ b, ¬ OwnX Reps.C gC b := by
  have hown : ∀ i b, ¬ OwnAt Reps.C gC i b := by
    intro i b hi
    cases hi with
    | vis o p k1 k2 k3 k4 => have := (Reps.Cro i o k1).2; rw [k2] at this; cases this
    | abs k x k1 k2 => exact k2
  have hro : ∀ i b, ¬ RoAt Reps.C gC i b := by
    intro i b hi
    cases hi with
    | vis o p k1 k2 k5 k3 k4 => have := (Reps.Cro i o k1).1; omega
  refine ⟨.of (fun i o hi _ => hA.con.cw.obj i o hi) (fun i k x hi => ?_) ⟨fun i j b h _ => (hown _ _ h).elim, fun i j b h _ => hown _ _ h, fun i j b h _ => hown _ _ h, fun i j b h _ => (hro _ _ h).elim, fun i j b h _ => hro _ _ h, fun i j b h1 h2 => ?_⟩
    ⟨fun _ _ => rfl, Nat.le_refl _, fun i o _ hi => (Reps.Cro i o hi).2, fun i p hi hp => ⟨(hA.con.own i p hi hp).1, fun ⟨j, hj⟩ => hown _ _ hj⟩, hA.con.cw⟩ (fun i hi => ⟨?_, Reps.Cpl i hi⟩) hA.con.cw.gl, fun b ⟨i, hi⟩ => hown i b hi⟩
  · have := (Reps.Cro i _ hi).2; cases this
  · cases h1 with
    | vis o p k1 k2 k5 k3 k4 =>
      cases h2 with
      | vis o' p' q1 q2 q5 q3 q4 =>
        by_cases e : i = j
        · exact e
        · exact absurd (k4.trans q4.symm) (hA.con.cw.cc i j o o' p p' k1 q1 e k3 q3)
  · cases hc : Reps.C.get i with
    | none => rfl
    | some o => have := (Reps.Cro i o hc).1; omega

/-- A call of a function that knows of no abstract object: it reads what is handed in, and answers new memory. -/
theorem call_fun {call : CallT} (hC : CallOK P call) {f : FuncId} {g : Gh} {A : Hp} {w : World} (hA : RelX P g A w)
    {im : List (TypeId × List Value)} {ims : List Nat} (hil : im.length = ims.length) (hig : ∀ (t : Nat) e j, im[t]? = some e → ims[t]? = some j → (∃ m, A.get j = some (.arr e.1 e.2 m)) ∧ ∀ u ∈ e.2, plain0 u = true)
    (ex : List (TypeId × List Value)) (hex : ∀ e ∈ ex, ∀ u ∈ e.2, plain0 u = true)
    {args largs : List Value} {args' : Array Value} (ha : AR g.ρ args.toArray args')
    (hm : VMs (fun a b => (a < Reps.C.next ∧ b = a) ∨ (∃ t, ims[t]? = some a ∧ b = Reps.C.next + t)) args largs)
    {v u : Value} {B' : Hp} {es : List Nat} (hcall : call f largs (pushL .sh Reps.C im) = some (v, B')) (hexl : ex.length = es.length) (hnd : es.Nodup)
    (hexg : ∀ (t : Nat) e j, ex[t]? = some e → es[t]? = some j → B'.get j = some (.arr e.1 e.2 .own))
    (hvm : VM (fun a b => (a < Reps.C.next ∧ b = a) ∨ (∃ t, es[t]? = some a ∧ b = A.next + t) ∨ (∃ t, ims[t]? = some b ∧ a = Reps.C.next + t)) v u) :
    Calls P f args' w fun e w' => ∃ v', e = .returned v' ∧ After P g A w u (pushL .own A ex) v' w' := by
  obtain ⟨hB, hBo⟩ := hA.consts
  refine (zoom_call hC (A1 := A) hA (fun _ _ h => h) rfl hB (fun b hb => (hBo b hb).elim) hil (fun t e j ht hj => ?_) ha ?_ hcall).mono fun e w' he => ?_
  · obtain ⟨⟨m, h1⟩, h2⟩ := hig t e j ht hj
    exact ⟨⟨m, h1, by rw [h1]; simp⟩, h2⟩
  · refine hm.mono fun a b hab => ?_
    rcases hab with ⟨h1, rfl⟩ | h1
    · exact .inl fun q hq => by rw [hB.con.loc b h1, ← hA.con.loc b h1]; exact hq
    · exact .inr h1
  · obtain ⟨v', gB', rfl, c1, c2, c3, c4, c5, c6, c7, c8⟩ := he
    obtain ⟨g', t1, t2, t3, t4⟩ := c2.takes c6 ex es _ _ c3 c4 hexl hnd (fun t e j ht hj => ⟨hexg t e j ht hj, hex e (List.mem_of_getElem? ht)⟩) (fun j hj b hb => by
      obtain ⟨d1, d2, d3, _⟩ := c5 b ⟨j, hb⟩
      exact ⟨d1, d2, d3⟩)
    refine ⟨v', rfl, g', ?_, t1, t2⟩
    refine VR.move (fun a b q hab hq => ?_) hvm v' c1
    rcases hab with ⟨h1, rfl⟩ | ⟨t, h1, rfl⟩ | ⟨t, h1, rfl⟩
    · rw [c2.con.loc b h1, ← t1.con.loc b h1] at hq; exact hq
    · exact t4 t a q h1 hq
    · have htl : t < im.length := by rw [hil]; exact (List.getElem?_eq_some_iff.1 h1).1
      obtain ⟨⟨m, k1⟩, _⟩ := hig t im[t] b (by simp) h1
      obtain ⟨p, hp, _⟩ := hA.rel.obj b _ k1
      rw [c8 t b p h1 hp] at hq; cases hq
      exact t3 _ _ hp

/-- A call that makes an abstract object. -/
theorem call_new {call : CallT} (hC : CallOK P call) {f : FuncId} {k : Nat} {x : Dat} {g : Gh} {A : Hp} {w : World} (hA : RelX P g A w)
    {im : List (TypeId × List Value)} {ims : List Nat} (hil : im.length = ims.length) (hig : ∀ (t : Nat) e j, im[t]? = some e → ims[t]? = some j → (∃ m, A.get j = some (.arr e.1 e.2 m)) ∧ ∀ u ∈ e.2, plain0 u = true)
    {args largs : List Value} {args' : Array Value} (ha : AR g.ρ args.toArray args')
    (hm : VMs (fun a b => (a < Reps.C.next ∧ b = a) ∨ (∃ t, ims[t]? = some a ∧ b = Reps.C.next + t)) args largs)
    {v u : Value} {B' B2 : Hp} {r : Nat} (hcall : call f largs (pushL .sh Reps.C im) = some (v, B')) (hsub2 : ∀ i o, B2.get i = some o → B'.get i = some o) (hn2 : B'.next ≤ B2.next)
    (hC2 : ∀ i o, Reps.C.get i = some o → B2.get i = some o) (hrep2 : Reps.rep k x B2 r) (hroot : ∃ o, B2.get r = some o ∧ o.md = .own) (htight : Tight B2)
    (hvm : VM (fun a b => (a < Reps.C.next ∧ b = a) ∨ (a = r ∧ b = A.next)) v u) :
    Calls P f args' w fun e w' => ∃ v', e = .returned v' ∧ After P g A w u (A.push (.abs k x)) v' w' := by
  obtain ⟨hB, hBo⟩ := hA.consts
  refine (zoom_call hC (A1 := A) hA (fun _ _ h => h) rfl hB (fun b hb => (hBo b hb).elim) hil (fun t e j ht hj => ?_) ha ?_ hcall).mono fun e w' he => ?_
  · obtain ⟨⟨m, h1⟩, h2⟩ := hig t e j ht hj
    exact ⟨⟨m, h1, by rw [h1]; simp⟩, h2⟩
  · refine hm.mono fun a b hab => ?_
    rcases hab with ⟨h1, rfl⟩ | h1
    · exact .inl fun q hq => by rw [hB.con.loc b h1, ← hA.con.loc b h1]; exact hq
    · exact .inr h1
  · obtain ⟨v', gB', rfl, c1, c2, c3, c4, c5, c6, c7, c8⟩ := he
    have hB2 := c2.sub hn2 hsub2
    have own2 : ∀ j b, OwnAt B2 gB' j b → OwnAt B' gB' j b := fun j b hb => hb.sub hsub2
    obtain ⟨ro, hro, hrm⟩ := hroot
    obtain ⟨p, hp, _⟩ := hB2.rel.obj r ro hro
    have habs := hB2.shut (k := k) (x := x) hC2 hrep2 hp ⟨r, .vis ro p hro hrm hp rfl⟩
    have hF2 : ∀ b, SeenX B2 gB' b ∨ RoX B2 gB' b ∨ ConB b → ConB b := by
      rintro b (hb | hb | hb)
      · exact htight.seen (.inl hb) hB2
      · exact htight.seen (.inr hb) hB2
      · exact hb
    obtain ⟨s1, s2, s3, s4, s5⟩ := c3.reserve p
    have hKn := hA.con.next
    have k1 := s1.bear (i := A.next) (c3.rel.fresh _ (Nat.le_refl _)).1 (Nat.lt_succ_self _) hKn (Rn.add_same _ _ _) habs (fun b ⟨j, hj⟩ => by
      obtain ⟨d1, d2, d3, d4⟩ := c5 b ⟨j, own2 j b hj⟩
      exact ⟨fun q => d1 (s3 b q), fun q => d2 (s4 b q), fun q => d3 (s5 b q), d4⟩) (fun b hb => (s1.conb (hF2 b hb)).2)
    have k2 := (s2 c4).bear (i := A.next) (k := k) (x := x) (S := OwnX B2 gB') (F := fun b => SeenX B2 gB' b ∨ RoX B2 gB' b ∨ ConB b) (fun b ⟨j, hj⟩ => c6 b ⟨j, own2 j b hj⟩) (fun b hb => .inr (.inr (.inr (hF2 b hb))))
    refine ⟨v', rfl, _, ?_, k1, k2⟩
    refine VR.move (fun a b q hab hq => ?_) hvm v' c1
    rcases hab with ⟨h1, rfl⟩ | ⟨rfl, rfl⟩
    · rw [c2.con.loc b h1, ← k1.con.loc b h1] at hq; exact hq
    · rw [hp] at hq; cases hq
      exact Rn.add_same _ _ _

end
end Go.Dn
end

section
namespace Go.Dn

/-- one more function is known -/
def withCall (base : CallT) (f : FuncId) (F : List Value → Hp → Option (Value × Hp)) : CallT := fun g args A => bif Nat.beq g f then F args A else base g args A

theorem withCall_ok [Reps] {P : Program} {base : CallT} (hb : CallOK P base) {f : FuncId} {F : List Value → Hp → Option (Value × Hp)} (hf : ∃ x, P.funcs[f]? = some x ∧ x.body.isSome = true ∧ (x.name == "runtime.NumGoroutine") = false)
    (h : ∀ args A v A', F args A = some (v, A') → ∀ (ρ : Gh) w (args' : Array Value), RelX P ρ A w → AR ρ.ρ args.toArray args' → Calls P f args' w fun e w' => ∃ v', e = .returned v' ∧ After P ρ A w v A' v' w') :
    CallOK P (withCall base f F) := by
  refine ⟨fun g args A r hr => ?_, fun g args A v A' hr ρ w args' h1 h2 => ?_⟩
  · unfold withCall at hr
    cases hb' : Nat.beq g f with
    | true => have : g = f := by simpa using hb'
              subst this; exact hf
    | false => rw [hb'] at hr; exact hb.fn g args A r hr
  · unfold withCall at hr
    cases hb' : Nat.beq g f with
    | true =>
      rw [hb'] at hr
      have : g = f := by simpa using hb'
      subst this
      exact h args A v A' hr ρ w args' h1 h2
    | false => rw [hb'] at hr; exact hb.calls g args A v A' hr ρ w args' h1 h2

end Go.Dn
end
