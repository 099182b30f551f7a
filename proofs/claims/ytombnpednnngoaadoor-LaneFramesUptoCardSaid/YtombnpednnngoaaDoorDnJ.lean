/-
  Part of the abstract machine for this program.
-/
import Derived.Test.YtombnpednnngoaaDoorDnI
import Derived.ChangeShapes
import Derived.ChangeOld
import Derived.ChangeArms
import Derived.ChangeStays
import Derived.LaidLaws

section
namespace Go.Dn

/-! ## what comes in -/
/-- fields one behind the other -/
def offs (T : TT) : Nat → List Field → Option Nat
  | n, [] => some n
  | n, f :: l => bif Nat.beq f.offset n then match T f.type with
    | some i => offs T (n + i.size) l
    | none => none
    else none

/-- types whose data are read here: no pointers, no maps, no interfaces -/
def okT (T : TT) : Nat → TypeId → Bool
  | 0, _ => false
  | n + 1, t => match T t with
    | none => false
    | some i => match i.d with
      | .bool => Nat.beq i.size 1
      | .int _ => Nat.beq i.size 1
      | .string => Nat.beq i.size 1
      | .slice e => Nat.beq i.size 1 && (match T e with
        | some j => Nat.blt 0 j.size
        | none => false) && okT T n e
      | .struct fs => (match offs T 0 fs.toList with
        | some m => Nat.beq m i.size
        | none => false) && fs.toList.all fun f => okT T n f.type
      | _ => false

/-- data, as they stand in an abstract heap -/
inductive ArgR {H : Type} (T : TT) (A : Hp) : TypeId → DataW H → List Value → Prop where
  | bool {t : TypeId} {i : TI} (h : T t = some i) (hd : i.d = .bool) (b : Bool) : ArgR T A t (.lit (.bool b)) [.bool b]
  | int {t : TypeId} {i : TI} {k : IntKind} (h : T t = some i) (hd : i.d = .int k) (n : Int) (hw : (Lit.int k n).wf = true) : ArgR T A t (.lit (.int k n)) [.int k n]
  | string {t : TypeId} {i : TI} (h : T t = some i) (hd : i.d = .string) (s : ByteArray) (hs : s.size ≤ maxLen) : ArgR T A t (.lit (.string s.data.toList)) [.string s]
  | nil {t e : TypeId} {i : TI} (h : T t = some i) (hd : i.d = .slice e) : ArgR T A t .nil [.slice none 0 0]
  | empty {t e : TypeId} {i : TI} (h : T t = some i) (hd : i.d = .slice e) : ArgR T A t (.slice [] []) [.slice none 0 1]
  | slice {t e : TypeId} {i j : TI} (h : T t = some i) (hd : i.d = .slice e) (he : T e = some j) (hj : 0 < j.size) (els sp : List (DataW H)) (css : List (List Value)) (id : Nat)
      (hA : A.get id = some (.arr e css.flatten .sh)) (hl : els.length = css.length) (hn : els.length ≤ maxLen)
      (hz : ∀ (k : Nat) (c : List Value), css[k]? = some c → c.length = j.size) (hc : ∀ (k : Nat) d c, els[k]? = some d → css[k]? = some c → ArgR T A e d c) : ArgR T A t (.slice els sp) [.slice (some ⟨id, 0, some j.size⟩) els.length (2 * els.length)]
  | struct {t : TypeId} {i : TI} {fs : Array Field} (h : T t = some i) (hd : i.d = .struct fs) (ds : List (DataW H)) (css : List (List Value)) (h1 : ds.length = fs.toList.length) (h2 : css.length = fs.toList.length)
      (hc : ∀ (k : Nat) f d c, fs.toList[k]? = some f → ds[k]? = some d → css[k]? = some c → ArgR T A f.type d c) : ArgR T A t (.agg ds) css.flatten

theorem ArgR.mono {H : Type} {T : TT} {A A' : Hp} (hA : ∀ i o, A.get i = some o → A'.get i = some o) {t : TypeId} {d : DataW H} {cs : List Value} (h : ArgR T A t d cs) : ArgR T A' t d cs := by
  induction h with
  | bool h hd b => exact .bool h hd b
  | int h hd n hw => exact .int h hd n hw
  | string h hd s hs => exact .string h hd s hs
  | nil h hd => exact .nil h hd
  | empty h hd => exact .empty h hd
  | slice h hd he hj els sp css id h1 h2 hn hz _ ih => exact .slice h hd he hj els sp css id (hA _ _ h1) h2 hn hz ih
  | struct h hd ds css h1 h2 _ ih => exact .struct h hd ds css h1 h2 ih

/-- a new object that is only read -/
theorem Rel.pushSh {P : Program} {ρ : Rn} {A : Hp} {w : World} (h : Rel P ρ A w) (hno : ∀ i o, A.get i = some o → o.md ≠ .own) {T : TypeId} {cs : List Value} {p : Pl} (ho : ObR P (ρ.add A.next p) w p (.arr T cs .sh)) :
    Rel P (ρ.add A.next p) (A.push (.arr T cs .sh)) w := by
  have hn := h.fresh A.next (Nat.le_refl _)
  have hle : ρ.le (ρ.add A.next p) := Rn.le_add p hn.2
  have hget : ∀ j x, (A.push (.arr T cs .sh)).get j = some x → (j = A.next ∧ x = .arr T cs .sh) ∨ (j ≠ A.next ∧ A.get j = some x) := by
    intro j x hj
    by_cases e : j = A.next
    · left; subst e; rw [Hp.get_push_same] at hj; cases hj; exact ⟨rfl, rfl⟩
    · right; rw [Hp.get_push_ne _ _ e] at hj; exact ⟨e, hj⟩
  refine ⟨fun j x hj => ?_, fun i j x y q q' hi hj hij hq hq' hm => ?_, fun j hj => ?_, fun g hg => ?_⟩
  · rcases hget j x hj with ⟨rfl, rfl⟩ | ⟨e, hj'⟩
    · exact ⟨p, Rn.add_same _ _ _, ho⟩
    · obtain ⟨q, hq, hob⟩ := h.obj j x hj'
      exact ⟨q, hle _ _ hq, hob.keep hle rfl⟩
  · rcases hget i x hi with ⟨rfl, rfl⟩ | ⟨e, hi'⟩
    · rcases hget j y hj with ⟨rfl, _⟩ | ⟨e2, hj'⟩
      · exact absurd rfl hij
      · rcases hm with (hm | hm) | ⟨hm, _⟩
        · cases hm
        · exact absurd hm (hno _ _ hj')
        · cases hm
    · rcases hget j y hj with ⟨rfl, rfl⟩ | ⟨e2, hj'⟩
      · rcases hm with (hm | hm) | ⟨_, hm⟩
        · exact absurd hm (hno _ _ hi')
        · cases hm
        · cases hm
      · obtain ⟨r, hr, _⟩ := h.obj i x hi'
        have := hle _ _ hr; rw [hq] at this; cases this
        obtain ⟨r', hr', _⟩ := h.obj j y hj'
        have := hle _ _ hr'; rw [hq'] at this; cases this
        exact h.apart i j x y _ _ hi' hj' hij hr hr' hm
  · simp only [Hp.next_push] at hj
    have e : j ≠ A.next := by omega
    have := h.fresh j (by omega)
    rw [Hp.get_push_ne _ _ e]
    exact ⟨this.1, by simp only [Rn.add, if_neg e, this.2]⟩
  · obtain ⟨q, k1, k2, k3⟩ := h.glob g hg
    exact ⟨q, hle _ _ k1, k2, k3⟩

/-- what a heap has become by reading -/
structure Grew (P : Program) (w : World) (A : Hp) (ρ : Rn) (A' : Hp) (ρ' : Rn) : Prop where
  rel : Rel P ρ' A' w
  le : ρ.le ρ'
  next : A.next ≤ A'.next
  old : ∀ i, i < A.next → A'.get i = A.get i ∧ ρ' i = ρ i
  new : ∀ i o, A.next ≤ i → A'.get i = some o → o.md = .sh ∧ o.isAbs = false

theorem Grew.refl {P : Program} {w : World} {A : Hp} {ρ : Rn} (h : Rel P ρ A w) : Grew P w A ρ A ρ :=
  ⟨h, ρ.le_refl, Nat.le_refl _, fun _ _ => ⟨rfl, rfl⟩, fun i o hi ho => by rw [(h.fresh i hi).1] at ho; cases ho⟩
theorem Grew.trans {P : Program} {w : World} {A A1 A2 : Hp} {ρ ρ1 ρ2 : Rn} (h : Grew P w A ρ A1 ρ1) (k : Grew P w A1 ρ1 A2 ρ2) : Grew P w A ρ A2 ρ2 := by
  refine ⟨k.rel, Rn.le_trans h.le k.le, Nat.le_trans h.next k.next, fun i hi => ?_, fun i o hi ho => ?_⟩
  · have := h.next
    obtain ⟨a, b⟩ := k.old i (by omega)
    obtain ⟨c, d⟩ := h.old i hi
    exact ⟨a.trans c, b.trans d⟩
  · rcases Nat.lt_or_ge i A1.next with h1 | h1
    · rw [(k.old i h1).1] at ho
      exact h.new i o hi ho
    · exact k.new i o h1 ho
theorem Grew.keep {P : Program} {w : World} {A A' : Hp} {ρ ρ' : Rn} (h : Grew P w A ρ A' ρ') (hr : Rel P ρ A w) : ∀ i o, A.get i = some o → A'.get i = some o := by
  intro i o hi
  have : i < A.next := by
    rcases Nat.lt_or_ge i A.next with h1 | h1
    · exact h1
    · rw [(hr.fresh i h1).1] at hi; cases hi
  rw [(h.old i this).1]; exact hi
theorem Grew.noown {P : Program} {w : World} {A A' : Hp} {ρ ρ' : Rn} (h : Grew P w A ρ A' ρ') (hno : ∀ i o, A.get i = some o → o.md ≠ .own) : ∀ i o, A'.get i = some o → o.md ≠ .own := by
  intro i o hi
  rcases Nat.lt_or_ge i A.next with h1 | h1
  · rw [(h.old i h1).1] at hi; exact hno i o hi
  · rw [(h.new i o h1 hi).1]; simp

def CellsR (ρ : Rn) (cs' cs : List Value) : Prop := cs'.length = cs.length ∧ ∀ (k : Nat) u v, cs'[k]? = some u → cs[k]? = some v → u.oneCell' = true ∧ VR ρ u v
theorem CellsR.le {ρ ρ' : Rn} (hle : ρ.le ρ') {a b : List Value} (h : CellsR ρ a b) : CellsR ρ' a b := ⟨h.1, fun k u v h1 h2 => let ⟨x, y⟩ := h.2 k u v h1 h2; ⟨x, y.le hle⟩⟩
theorem CellsR.one {ρ : Rn} {u v : Value} (h1 : u.oneCell' = true) (h2 : VR ρ u v) : CellsR ρ [u] [v] := by
  refine ⟨rfl, fun k a b ha hb => ?_⟩
  cases k with
  | zero => simp at ha hb; subst ha; subst hb; exact ⟨h1, h2⟩
  | succ k => simp at ha
theorem CellsR.append {ρ : Rn} {a b c d : List Value} (h : CellsR ρ a b) (k : CellsR ρ c d) : CellsR ρ (a ++ c) (b ++ d) := by
  refine ⟨by simp [h.1, k.1], fun n u v hu hv => ?_⟩
  rcases Nat.lt_or_ge n a.length with h1 | h1
  · rw [List.getElem?_append_left h1] at hu
    rw [List.getElem?_append_left (by rw [← h.1]; exact h1)] at hv
    exact h.2 n u v hu hv
  · rw [List.getElem?_append_right h1] at hu
    rw [List.getElem?_append_right (by rw [← h.1]; exact h1), ← h.1] at hv
    exact k.2 _ u v hu hv
theorem CellsR.nil (ρ : Rn) : CellsR ρ [] [] := ⟨rfl, by simp⟩

section
variable {H : Type} {enc : TypeId × Value → H} {P : Program} {w : World} {base : Nat} {sp : Nat → Bool} {held : Bool} {T : TT}

def LayOk (enc : TypeId × Value → H) (P : Program) (w : World) (base : Nat) (sp : Nat → Bool) (held : Bool) (T : TT) (t : TypeId) : Prop :=
  ∀ (fuel : Nat) (cs : List Value) (d : DataW H) (ps : List MemPlace) (A : Hp) (ρ : Rn), DataW.trod enc P w base sp held fuel t cs = some (d, ps) → Rel P ρ A w → (∀ i o, A.get i = some o → o.md ≠ .own) →
    ∃ A' ρ' cs', Grew P w A ρ A' ρ' ∧ ArgR T A' t d cs' ∧ CellsR ρ' cs' cs

/-- one behind the other -/
theorem lays : ∀ (l : List (TypeId × List Value × DataW H)) (A : Hp) (ρ : Rn), (∀ x ∈ l, LayOk enc P w base sp held T x.1 ∧ ∃ fuel ps, DataW.trod enc P w base sp held fuel x.1 x.2.1 = some (x.2.2, ps)) →
    Rel P ρ A w → (∀ i o, A.get i = some o → o.md ≠ .own) →
    ∃ A' ρ', ∃ css : List (List Value), Grew P w A ρ A' ρ' ∧ css.length = l.length ∧ (∀ (k : Nat) x c, l[k]? = some x → css[k]? = some c → ArgR T A' x.1 x.2.2 c ∧ CellsR ρ' c x.2.1)
  | [], A, ρ, _, h, _ => ⟨A, ρ, [], Grew.refl h, rfl, by simp⟩
  | x :: l, A, ρ, hl, h, hno => by
    obtain ⟨h1, fuel, ps, h2⟩ := hl x (by simp)
    obtain ⟨A1, ρ1, c1, g1, a1, r1⟩ := h1 fuel _ _ _ A ρ h2 h hno
    obtain ⟨A2, ρ2, css, g2, e2, a2⟩ := lays l A1 ρ1 (fun y hy => hl y (by simp [hy])) g1.rel (g1.noown hno)
    refine ⟨A2, ρ2, c1 :: css, g1.trans g2, by simp [e2], fun k y c hk hc => ?_⟩
    cases k with
    | zero => simp at hk hc; subst hk; subst hc; exact ⟨a1.mono (g2.keep g1.rel), r1.le g2.le⟩
    | succ k => exact a2 k y c (by simpa using hk) (by simpa using hc)

theorem flat_cells {ρ : Rn} : ∀ (css css' : List (List Value)), css.length = css'.length → (∀ (k : Nat) c c', css[k]? = some c → css'[k]? = some c' → CellsR ρ c c') → CellsR ρ css.flatten css'.flatten
  | [], [], _, _ => .nil ρ
  | c :: css, c' :: css', hl, h => by
    simp only [List.flatten_cons]
    exact (h 0 c c' rfl rfl).append (flat_cells css css' (by simpa using hl) fun k a b ha hb => h (k + 1) a b (by simpa using ha) (by simpa using hb))
  | [], _ :: _, hl, _ => by simp at hl
  | _ :: _, [], hl, _ => by simp at hl

/-- rows of cells, one behind the other -/
theorem rows_cell {a : Addr} {n : Nat} : ∀ (rows : List (List Value)) (k0 : Nat), (∀ (k : Nat) r, rows[k]? = some r → w.cells? base (a.add ((k0 + k) * n)) n = some r) →
    ∀ (j : Nat) v, rows.flatten[j]? = some v → w.cell? (a.add (k0 * n + j)) = some v
  | [], _, _, j, v, h => by simp at h
  | r :: rows, k0, hr, j, v, h => by
    obtain ⟨_, h2, h3⟩ := World.cells?_some (hr 0 r rfl)
    simp only [List.flatten_cons] at h
    rcases Nat.lt_or_ge j r.length with h1 | h1
    · rw [List.getElem?_append_left h1] at h
      have := h3 j (by omega)
      rw [h] at this
      rw [Addr.add_add] at this
      simpa using this
    · rw [List.getElem?_append_right h1] at h
      have := rows_cell rows (k0 + 1) (fun k r hk => by
        have := hr (k + 1) r (by simpa using hk)
        have e : k0 + 1 + k = k0 + (k + 1) := by omega
        rw [e]; exact this) (j - r.length) v h
      have e : (k0 + 1) * n + (j - r.length) = k0 * n + j := by rw [Nat.add_mul, h2]; omega
      rw [e] at this; exact this

theorem mapM_get {α β : Type} {f : α → Option β} : ∀ {l : List α} {r : List β}, l.mapM f = some r → r.length = l.length ∧ ∀ (k : Nat) a, l[k]? = some a → ∃ b, r[k]? = some b ∧ f a = some b := by
  intro l
  induction l with
  | nil => intro r h; simp at h; subst h; exact ⟨rfl, by simp⟩
  | cons a as ih =>
    intro r h
    rw [List.mapM_cons] at h
    cases ha : f a with
    | none => simp [ha] at h
    | some b =>
      cases has : as.mapM f with
      | none => simp [ha, has] at h
      | some bs =>
        simp [ha, has] at h
        subst h
        obtain ⟨h1, h2⟩ := ih has
        refine ⟨by simp [h1], fun k c hk => ?_⟩
        cases k with
        | zero => simp at hk; subst hk; exact ⟨b, rfl, ha⟩
        | succ k => exact h2 k c (by simpa using hk)

theorem flat_len : ∀ (rows : List (List Value)) (n : Nat), (∀ (k : Nat) r, rows[k]? = some r → r.length = n) → rows.flatten.length = rows.length * n
  | [], n, _ => by simp
  | r :: rows, n, h => by
    simp only [List.flatten_cons, List.length_append, List.length_cons, flat_len rows n (fun k r hk => h (k + 1) r (by simpa using hk)), h 0 r rfl, Nat.add_mul]
    omega

theorem cellsOf_of (hT : T.ok P) {t : TypeId} {i : TI} (h : T t = some i) : P.cellsOf t = i.size := by
  obtain ⟨x, h1, h2, _⟩ := hT.info t i h
  simp [Program.cellsOf, h1, h2]

theorem offs_take (hT : T.ok P) : ∀ (fs : List Field) (n m : Nat) (cs : List Value), offs T n fs = some m → cs.length = m → n ≤ m →
    (fs.map fun f => (cs.drop f.offset).take (P.cellsOf f.type)).flatten = cs.drop n
  | [], n, m, cs, h, hl, _ => by
    simp only [offs, Option.some.injEq] at h
    simp [h, hl]
  | f :: fs, n, m, cs, h, hl, hn => by
    simp only [offs] at h
    cases hb : Nat.beq f.offset n with
    | false => rw [hb] at h; cases h
    | true =>
      rw [hb] at h
      have e : f.offset = n := by simpa using hb
      simp only [cond_true] at h
      cases ht : T f.type with
      | none => rw [ht] at h; cases h
      | some i =>
        rw [ht] at h
        simp only at h
        have hm : n + i.size ≤ m := by
          have : ∀ (l : List Field) (a b : Nat), offs T a l = some b → a ≤ b := by
            intro l
            induction l with
            | nil => intro a b h; simp only [offs, Option.some.injEq] at h; omega
            | cons f l ih =>
              intro a b h
              simp only [offs] at h
              cases hb : Nat.beq f.offset a with
              | false => rw [hb] at h; cases h
              | true =>
                rw [hb] at h
                simp only [cond_true] at h
                cases ht : T f.type with
                | none => rw [ht] at h; cases h
                | some i =>
                  rw [ht] at h
                  have := ih _ _ h
                  omega
          exact this fs _ _ h
        simp only [List.map_cons, List.flatten_cons, offs_take hT fs (n + i.size) m cs h hl hm, e, cellsOf_of hT ht]
        rw [← List.drop_drop]
        exact List.take_append_drop _ _

theorem lay_ok (hT : T.ok P) : ∀ (n : Nat) (t : TypeId), okT T n t = true → LayOk enc P w base (fun _ => true) held T t := by
  intro n
  induction n with
  | zero => intro t h; cases h
  | succ n ih =>
    intro t ho fuel cs d ps A ρ htr hr hno
    simp only [okT] at ho
    cases hti : T t with
    | none => rw [hti] at ho; cases ho
    | some i =>
      rw [hti] at ho
      simp only at ho
      have hu := hT.und t i hti
      cases hd : i.d with
      | bool =>
        rw [hd] at hu
        obtain ⟨b, rfl, hx⟩ := DataW.trod_bool hu htr
        cases hx
        exact ⟨A, ρ, [.bool b], Grew.refl hr, .bool hti hd b, .one rfl (.bool b)⟩
      | int k =>
        rw [hd] at hu
        obtain ⟨m, rfl, hx, hw⟩ := DataW.trod_int hu htr
        cases hx
        exact ⟨A, ρ, [.int k m], Grew.refl hr, .int hti hd m hw, .one rfl (.int k m)⟩
      | string =>
        rw [hd] at hu
        obtain ⟨s, rfl, hx, hs⟩ := DataW.trod_string hu htr
        cases hx
        exact ⟨A, ρ, [.string s], Grew.refl hr, .string hti hd s hs, .one rfl (.string s)⟩
      | slice e =>
        rw [hd] at hu ho
        simp only [Bool.and_eq_true] at ho
        obtain ⟨⟨_, ho2⟩, ho3⟩ := ho
        cases hte : T e with
        | none => rw [hte] at ho2; cases ho2
        | some j =>
          rw [hte] at ho2
          have hj : 0 < j.size := by simpa [Nat.blt_eq] using ho2
          have hce := cellsOf_of hT hte
          rcases DataW.trod_slice hu htr with ⟨rfl, hx⟩ | ⟨a, len, cap, elems, rest, m, rfl, rfl, hx, hb, hlc, hcm, hel, hei, hri, _⟩
          · cases hx
            exact ⟨A, ρ, [.slice none 0 0], Grew.refl hr, .nil hti hd, .one rfl .sliceNil⟩
          · cases hx
            obtain ⟨hr1, hr2⟩ := hri rfl
            rw [hce] at hei hr2
            by_cases hc0 : cap = 0
            · subst hc0
              have h0 : len = 0 := by omega
              subst h0
              have e1 : elems = [] := List.eq_nil_of_length_eq_zero hel
              have e2 : rest = [] := List.eq_nil_of_length_eq_zero hr1
              subst e1; subst e2
              exact ⟨A, ρ, [.slice none 0 1], Grew.refl hr, .empty hti hd, .one rfl (.sliceZ a)⟩
            · -- the block is there
              have hblk : a.spot = none ∧ ∃ C T' fz, w.heap[a.block]? = some (.cells C T' fz) := by
                have h0 : ∃ cs0, w.cells? base a j.size = some cs0 := by
                  rcases Nat.eq_zero_or_pos len with h | h
                  · have := hr2 0 (by omega)
                    have hl : 0 < rest.length := by omega
                    rw [List.getElem?_eq_getElem hl, h] at this
                    simp only [Option.bind_eq_some_iff] at this
                    obtain ⟨cs0, h1, _⟩ := this
                    exact ⟨cs0, by simpa [Addr.add] using h1⟩
                  · have := hei 0 h
                    have hl : 0 < elems.length := by omega
                    rw [List.getElem?_eq_getElem hl] at this
                    simp only [Option.bind_eq_some_iff] at this
                    obtain ⟨cs0, h1, _⟩ := this
                    exact ⟨cs0, by simpa [Addr.add] using h1⟩
                obtain ⟨cs0, h0⟩ := h0
                obtain ⟨_, h1, h2⟩ := World.cells?_some h0
                have h3 := h2 0 hj
                rw [List.getElem?_eq_getElem (by omega)] at h3
                have e0 : a.add 0 = a := by simp [Addr.add]
                rw [e0] at h3
                unfold World.cell? at h3
                split at h3
                · rename_i C T' fz hh
                  split at h3
                  · cases h3
                  · rename_i hs
                    refine ⟨?_, C, T', fz, hh⟩
                    cases h : a.spot with
                    | none => rfl
                    | some x => rw [h] at hs; simp at hs
                · cases h3
              obtain ⟨hspot, C, T', fz, hblk⟩ := hblk
              -- the rows of cells
              have hrow : ∀ (k : Nat) y, elems[k]? = some y → ∃ r, w.cells? base (a.add (k * j.size)) j.size = some r ∧ DataW.trod enc P w base (fun _ => true) held m e r = some y := by
                intro k y hk
                have hkl : k < len := by rw [← hel]; exact (List.getElem?_eq_some_iff.1 hk).1
                have := hei k hkl
                rw [hk] at this
                simpa only [Option.bind_eq_some_iff] using this
              obtain ⟨rows, hrl, hrows⟩ : ∃ rows : List (List Value), rows.length = elems.length ∧ ∀ (k : Nat) y r, elems[k]? = some y → rows[k]? = some r → w.cells? base (a.add (k * j.size)) j.size = some r ∧ DataW.trod enc P w base (fun _ => true) held m e r = some y := by
                refine ⟨(List.range elems.length).map fun k => (w.cells? base (a.add (k * j.size)) j.size).getD [], by simp, fun k y r hk hrk => ?_⟩
                obtain ⟨r0, h1, h2⟩ := hrow k y hk
                have hkl : k < elems.length := (List.getElem?_eq_some_iff.1 hk).1
                simp only [List.getElem?_map, List.getElem?_range hkl, Option.map_some, Option.some.injEq] at hrk
                rw [h1] at hrk
                simp only [Option.getD_some] at hrk
                subst hrk
                exact ⟨h1, h2⟩
              obtain ⟨A1, ρ1, css, g1, c1, c2⟩ := lays ((List.range elems.length).map fun k => (e, (rows[k]?).getD [], ((elems[k]?).map (·.1)).getD .nil)) A ρ (fun x hx => by
                  simp only [List.mem_map, List.mem_range] at hx
                  obtain ⟨k, hk, rfl⟩ := hx
                  refine ⟨ih e ho3, m, (elems[k]).2, ?_⟩
                  have h1 : elems[k]? = some elems[k] := List.getElem?_eq_getElem hk
                  have h2 : rows[k]? = some (rows[k]'(by omega)) := List.getElem?_eq_getElem (by omega)
                  simp only [h1, h2, Option.getD_some, Option.map_some]
                  exact (hrows k _ _ h1 h2).2) hr hno
              simp only [List.length_map, List.length_range] at c1
              have c3 : ∀ (k : Nat) y r c, elems[k]? = some y → rows[k]? = some r → css[k]? = some c → ArgR T A1 e y.1 c ∧ CellsR ρ1 c r := by
                intro k y r c h1 h2 h3
                have hkl : k < elems.length := (List.getElem?_eq_some_iff.1 h1).1
                have := c2 k (e, r, y.1) c (by simp [List.getElem?_map, List.getElem?_range hkl, h1, h2]) h3
                exact this
              have hrlen : ∀ (k : Nat) r, rows[k]? = some r → r.length = j.size := by
                intro k r hk
                have hkl : k < elems.length := by rw [← hrl]; exact (List.getElem?_eq_some_iff.1 hk).1
                exact (World.cells?_some (hrows k _ r (List.getElem?_eq_getElem hkl) hk).1).2.1
              have hflat : CellsR ρ1 css.flatten rows.flatten := flat_cells css rows (by omega) (fun k c r h1 h2 => by
                have hkl : k < elems.length := by rw [← hrl]; exact (List.getElem?_eq_some_iff.1 h2).1
                exact (c3 k _ r c (List.getElem?_eq_getElem hkl) h2 h1).2)
              have hcell : ∀ (q : Nat) v, rows.flatten[q]? = some v → w.cell? (a.add q) = some v := by
                intro q v hq
                have := rows_cell (w := w) (base := base) (a := a) (n := j.size) rows 0 (fun k r hk => by
                  have hkl : k < elems.length := by rw [← hrl]; exact (List.getElem?_eq_some_iff.1 hk).1
                  rw [Nat.zero_add]
                  exact (hrows k _ r (List.getElem?_eq_getElem hkl) hk).1) q v hq
                simpa using this
              have hn1 := g1.rel.fresh A1.next (Nat.le_refl _)
              have hle : ρ1.le (ρ1.add A1.next ⟨a.block, a.off, cap * j.size⟩) := Rn.le_add _ hn1.2
              have hfl : css.flatten.length ≤ cap * j.size := by
                rw [hflat.1, flat_len rows j.size hrlen, hrl, hel]
                exact Nat.mul_le_mul_right _ hlc
              have hob : ObR P (ρ1.add A1.next ⟨a.block, a.off, cap * j.size⟩) w ⟨a.block, a.off, cap * j.size⟩ (.arr e css.flatten .sh) := by
                refine .arr e _ .sh C T' fz hblk (fun h => absurd rfl h) hfl fun q u hq => ?_
                have hql : q < rows.flatten.length := by rw [← hflat.1]; exact (List.getElem?_eq_some_iff.1 hq).1
                obtain ⟨k1, k2⟩ := hflat.2 q u _ hq (List.getElem?_eq_getElem hql)
                refine ⟨k1, _, ?_, k2.le hle⟩
                have := hcell q _ (List.getElem?_eq_getElem hql)
                obtain ⟨blk, off, spot⟩ := a
                simp only at hspot hblk
                subst hspot
                rw [addr_add] at this
                unfold World.cell? at this
                simp only [hblk] at this
                simpa using this
              have hrel2 := g1.rel.pushSh (g1.noown hno) hob
              have hl2 : elems.length = css.length := by omega
              refine ⟨A1.push (.arr e css.flatten .sh), ρ1.add A1.next ⟨a.block, a.off, cap * j.size⟩, _, g1.trans ⟨hrel2, hle, by simp, fun q hq => ⟨Hp.get_push_ne _ _ (by omega), by simp only [Rn.add]; rw [if_neg (by omega)]⟩, fun q o hq ho => ?_⟩,
                .slice (els := elems.map (·.1)) (sp := rest.map (·.1)) hti hd hte hj css A1.next (Hp.get_push_same _ _) (by simpa using hl2) (by simp; omega) (fun k c hk => ?_) (fun k dd c h1 h2 => ?_), .one rfl ?_⟩
              · have e : q = A1.next := by
                  by_cases h : q = A1.next
                  · exact h
                  · rw [Hp.get_push_ne _ _ h, (g1.rel.fresh q hq).1] at ho; cases ho
                subst e
                rw [Hp.get_push_same] at ho; cases ho
                exact ⟨rfl, rfl⟩
              · have hkl : k < elems.length := by rw [hl2]; exact (List.getElem?_eq_some_iff.1 hk).1
                have hkr : k < rows.length := by omega
                have := (c3 k _ _ c (List.getElem?_eq_getElem hkl) (List.getElem?_eq_getElem hkr) hk).2.1
                rw [this]
                exact hrlen k _ (List.getElem?_eq_getElem hkr)
              · simp only [List.getElem?_map, Option.map_eq_some_iff] at h1
                obtain ⟨y, h1, rfl⟩ := h1
                have hkl : k < elems.length := (List.getElem?_eq_some_iff.1 h1).1
                have hkr : k < rows.length := by omega
                exact ((c3 k y _ c h1 (List.getElem?_eq_getElem hkr) h2).1).mono fun q o ho => by
                  rw [Hp.get_push_ne _ _ ?_]
                  · exact ho
                  · rintro rfl; rw [hn1.1] at ho; cases ho
              · obtain ⟨blk, off, spot⟩ := a
                simp only at hspot
                subst hspot
                rw [List.length_map, hel]
                refine .sliceL 0 off j.size len len cap (Rn.add_same _ _ _) (Nat.le_refl _) hlc (by simp) hcm (.inl rfl)
      | struct fs =>
        rw [hd] at hu ho
        simp only [Bool.and_eq_true, List.all_eq_true] at ho
        obtain ⟨ho1, ho2⟩ := ho
        obtain ⟨xs, m, rfl, hx, hcl, hxl, hxi⟩ := DataW.trod_struct hu htr
        cases hx
        cases hof : offs T 0 fs.toList with
        | none => rw [hof] at ho1; cases ho1
        | some mm =>
          rw [hof] at ho1
          have hmm : mm = i.size := by simpa using ho1
          have hcs : cs.length = mm := by rw [hcl, cellsOf_of hT hti, hmm]
          have hcut := offs_take (P := P) hT fs.toList 0 mm cs hof hcs (Nat.zero_le _)
          rw [List.drop_zero] at hcut
          obtain ⟨A1, ρ1, css, g1, c1, c2⟩ := lays ((List.range fs.toList.length).map fun k => (((fs.toList[k]?).map (·.type)).getD 0, ((fs.toList[k]?).map fun f => (cs.drop f.offset).take (P.cellsOf f.type)).getD [], ((xs[k]?).map (·.1)).getD .nil)) A ρ (fun x hx => by
            simp only [List.mem_map, List.mem_range] at hx
            obtain ⟨k, hk, rfl⟩ := hx
            have h1 : fs.toList[k]? = some fs.toList[k] := List.getElem?_eq_getElem hk
            have hkx : k < xs.length := by rw [hxl]; simpa using hk
            have h2 : xs[k]? = some xs[k] := List.getElem?_eq_getElem hkx
            simp only [h1, h2, Option.map_some, Option.getD_some]
            refine ⟨ih _ (ho2 _ (List.getElem_mem hk)), m, (xs[k]).2, ?_⟩
            have := hxi k fs.toList[k] (by simp)
            rw [this, h2]) hr hno
          simp only [List.length_map, List.length_range] at c1
          have c3 : ∀ (k : Nat) f y c, fs.toList[k]? = some f → xs[k]? = some y → css[k]? = some c → ArgR T A1 f.type y.1 c ∧ CellsR ρ1 c ((cs.drop f.offset).take (P.cellsOf f.type)) := by
            intro k f y c h1 h2 h3
            have hk : k < fs.toList.length := (List.getElem?_eq_some_iff.1 h1).1
            exact c2 k (f.type, (cs.drop f.offset).take (P.cellsOf f.type), y.1) c (by rw [List.getElem?_map, List.getElem?_range hk]; simp only [Option.map_some, h1, h2, Option.getD_some]) h3
          refine ⟨A1, ρ1, css.flatten, g1, .struct hti hd (xs.map (·.1)) css (by simpa using hxl) c1 (fun k f dd c h1 h2 h3 => ?_), ?_⟩
          · simp only [List.getElem?_map, Option.map_eq_some_iff] at h2
            obtain ⟨y, h2, rfl⟩ := h2
            exact (c3 k f y c h1 h2 h3).1
          · have := flat_cells (ρ := ρ1) css (fs.toList.map fun f => (cs.drop f.offset).take (P.cellsOf f.type)) (by simpa using c1) (fun k c c' h1 h2 => by
              simp only [List.getElem?_map, Option.map_eq_some_iff] at h2
              obtain ⟨f, h2, rfl⟩ := h2
              have hk : k < fs.toList.length := (List.getElem?_eq_some_iff.1 h2).1
              have hkx : k < xs.length := by rw [hxl]; simpa using hk
              exact (c3 k f _ c h2 (List.getElem?_eq_getElem hkx) h1).2)
            rw [hcut] at this
            exact this
      | _ => rw [hd] at ho; cases ho

end
end Go.Dn
end

section
namespace Go.Dn
open Go.ChangeShapes

/-! ## sentinels -/
/-- the numbers of the types that a sentinel is made of -/
structure ErrT (P : Program) (te tp ts : TypeId) : Prop where
  ti : ∃ ms, P.underlying te = some (.interface ms)
  row : ∀ u, P.typeName? 3 u = some "*errors.errorString" → u = tp
  ptr : P.underlying tp = some (.pointer ts)
  str : ∃ f s, P.underlying ts = some (.struct #[f]) ∧ f.type = s ∧ f.offset = 0 ∧ P.underlying s = some .string ∧ P.cellsOf ts = 1 ∧ P.cellsOf s = 1

/-- a sentinel's variable -/
def ErrVar (P : Program) (w : World) (tp : TypeId) (n : String) (g : Nat) (a : Addr) : Prop :=
  P.globalNamed n = some g ∧ (∃ T fz, w.heap[g]? = some (.cells #[.iface tp (.pointer (some a))] T fz)) ∧ a.spot = none ∧ (∃ s, w.cell? a = some (.string s))

def isErr : DataW Unit → Bool
  | .iface t (.ptr (.agg [.lit (.string _)])) => t == "*errors.errorString"
  | _ => false

theorem isErr_some {d : DataW Unit} (h : isErr d = true) : ∃ s, d = .iface "*errors.errorString" (.ptr (.agg [.lit (.string s)])) := by
  unfold isErr at h
  split at h
  · rename_i t s
    have : t = "*errors.errorString" := by simpa using h
    subst this
    exact ⟨s, rfl⟩
  · cases h

/-- the places of sentinels -/
def errPlaces : List (Nat × Addr) → List MemPlace
  | [] => []
  | (g, a) :: l => .cell g 0 :: .cell a.block a.off :: errPlaces l

theorem laid_errs {P : Program} {w : World} {te tp ts : TypeId} (hE : ErrT P te tp ts) : ∀ (L : List (String × DataW Unit)) (ps : List MemPlace), (∀ x ∈ L, isErr x.2 = true ∧ ∃ g, P.globalNamed x.1 = some g ∧ (P.globals[g]?).map (·.type) = some te) →
    DataW.LaidVars P w L ps → (∀ b off, MemPlace.cell b off ∈ ps → ∀ u v, w.cell? ⟨b, off, none⟩ = some (.iface u v) → Value.okWide P w .any 0 u v) →
    ∃ as : List (Nat × Addr), as.length = L.length ∧ ps = errPlaces as ∧ ∀ (k : Nat) x y, L[k]? = some x → as[k]? = some y → ErrVar P w tp x.1 y.1 y.2
  | [], ps, _, h, _ => ⟨[], rfl, h, by simp⟩
  | x :: L, ps, hl, h, hok => by
    obtain ⟨n, d⟩ := x
    obtain ⟨g, t, cs, fuel, p, q, h1, h2, h3, h4, h5, rfl⟩ := h
    obtain ⟨e1, g', e2, e3⟩ := hl (n, d) (by simp)
    rw [h1] at e2; cases e2
    rw [h2] at e3; cases e3
    obtain ⟨s, rfl⟩ := isErr_some e1
    obtain ⟨ms, hi⟩ := hE.ti
    obtain ⟨f, ss, k1, k2, k3, k4, k5, k6⟩ := hE.str
    have hheap : ∃ T fz, w.heap[g]? = some (.cells cs T fz) := by
      unfold World.var? at h3
      rw [h1] at h3
      simp only [Option.bind_some] at h3
      split at h3
      · rename_i c T fz hh
        cases h3
        exact ⟨T, fz, hh⟩
      · cases h3
    obtain ⟨T, fz, hheap⟩ := hheap
    obtain ⟨a, str, hcs, hcell, _, _, hp⟩ := errorString_of_trod (te := ts) (ts := ss) (f := f) hi hE.row hE.ptr k1 k2 k3 k4 k5 k6 h4 (fun u v hcs => by
      have hc0 : w.cell? ⟨g, 0, none⟩ = some (.iface u v) := by
        unfold World.cell?
        simp only [hheap]
        have : cs[0]? = some (.iface u v) := by
          have : cs.toList[0]? = some (.iface u v) := by rw [hcs]; rfl
          simpa using this
        simpa using this
      refine hok g 0 ?_ u v hc0
      have hsz : cs.size = 1 := by have : cs.toList.length = 1 := by rw [hcs]; rfl
                                   simpa using this
      simp [MemPlace.row, hsz])
    have hcs' : cs = #[.iface tp (.pointer (some a))] := by rw [← Array.toArray_toList (xs := cs), hcs]
    subst hcs'
    obtain ⟨as, r1, r2, r3⟩ := laid_errs hE L q (fun y hy => hl y (by simp [hy])) h5 (fun b off hb => hok b off (by simp [hb]))
    have hspot : a.spot = none := by
      unfold World.cell? at hcell
      split at hcell
      · split at hcell
        · cases hcell
        · rename_i hs
          cases h : a.spot with
          | none => rfl
          | some x => rw [h] at hs; simp at hs
      · cases hcell
    refine ⟨(g, a) :: as, by simp [r1], ?_, fun k x y hk hy => ?_⟩
    · rw [hp, r2]
      simp [errPlaces, MemPlace.row]
    · cases k with
      | zero => simp at hk hy; subst hk; subst hy; exact ⟨h1, ⟨T, fz, hheap⟩, hspot, str, hcell⟩
      | succ k => exact r3 k x y (by simpa using hk) (by simpa using hy)

theorem errPlaces_mem : ∀ {l : List (Nat × Addr)} {g : Nat} {a : Addr}, (g, a) ∈ l → .cell g 0 ∈ errPlaces l ∧ .cell a.block a.off ∈ errPlaces l
  | (g', a') :: l, g, a, h => by
    rcases List.mem_cons.1 h with h | h
    · cases h; simp [errPlaces]
    · obtain ⟨h1, h2⟩ := errPlaces_mem h
      simp [errPlaces, h1, h2]

theorem errPlaces_ne : ∀ {l : List (Nat × Addr)}, (errPlaces l).Nodup → ∀ (i j : Nat) x y, l[i]? = some x → l[j]? = some y → i ≠ j → (x.2.block ≠ y.2.block ∨ x.2.off ≠ y.2.off) ∧ x.1 ≠ y.1
  | [], _, i, j, x, y, hx, _, _ => by simp at hx
  | (g, a) :: l, hn, i, j, x, y, hx, hy, hij => by
    simp only [errPlaces, List.nodup_cons] at hn
    obtain ⟨h1, h2, h3⟩ := hn
    have key : ∀ z, z ∈ l → (a.block ≠ z.2.block ∨ a.off ≠ z.2.off) ∧ g ≠ z.1 := by
      rintro ⟨gz, az⟩ hz
      obtain ⟨m1, m2⟩ := errPlaces_mem hz
      refine ⟨?_, ?_⟩
      · by_cases e1 : a.block = az.block
        · by_cases e2 : a.off = az.off
          · rw [e1, e2] at h2; exact absurd m2 h2
          · exact .inr e2
        · exact .inl e1
      · rintro rfl
        exact h1 (List.mem_cons_of_mem _ m1)
    cases i with
    | zero =>
      simp at hx; subst hx
      cases j with
      | zero => exact absurd rfl hij
      | succ j => exact key y (List.mem_of_getElem? (by simpa using hy))
    | succ i =>
      cases j with
      | zero =>
        simp at hy; subst hy
        obtain ⟨k1, k2⟩ := key x (List.mem_of_getElem? (by simpa using hx))
        exact ⟨k1.elim (fun h => .inl fun e => h e.symm) (fun h => .inr fun e => h e.symm), fun e => k2 e.symm⟩
      | succ j => exact errPlaces_ne h3 i j x y (by simpa using hx) (by simpa using hy) (by omega)

end Go.Dn
end

section
namespace Go.Dn
open Go.ChangeShapes

/-! ## a call's beginning -/
def capC (C : Hp) (i : Nat) : Nat := match C.get i with
  | some (.arr _ cs _) => cs.length
  | _ => 4
/-- the constants' places -/
def placeC (G : Nat) (C : Hp) (as : List (Nat × Addr)) : Rn := fun i =>
  if i < G then some ⟨i, 0, capC C i⟩
  else (as.find? fun x => x.1 + G == i).map fun x => ⟨x.2.block, x.2.off, 0⟩

/-- an argument -/
def ArgV {H : Type} (T : TT) (A : Hp) (t : TypeId) (d : DataW H) (u : Value) : Prop :=
  ∃ cs, ArgR T A t d cs ∧ ∃ i, T t = some i ∧ ((∃ fs, i.d = .struct fs ∧ u = .agg cs.toArray) ∨ ((∀ fs, i.d ≠ .struct fs) ∧ cs = [u]))

section
variable {H : Type} {enc : TypeId × Value → H} {P : Program} {T : TT}

theorem args_lay (hT : T.ok P) (n : Nat) {w : World} : ∀ (ts : List TypeId) (vs : List Value) (ds : List (DataW H)) (ps : List MemPlace) (A : Hp) (ρ : Rn), (∀ t ∈ ts, okT T n t = true) →
    DataW.TrodAll enc P w 0 (fun _ => true) true ts vs ds ps → (∀ (j : Nat) t v, ts[j]? = some t → vs[j]? = some v → ∃ base, Value.okWide P w .any base t v) → Rel P ρ A w → (∀ i o, A.get i = some o → o.md ≠ .own) →
    ∃ A' ρ', ∃ us : List Value, Grew P w A ρ A' ρ' ∧ us.length = vs.length ∧ us.length = ts.length ∧ us.length = ds.length ∧ (∀ (k : Nat) t d u, ts[k]? = some t → ds[k]? = some d → us[k]? = some u → ArgV T A' t d u) ∧
      (∀ (k : Nat) u v, us[k]? = some u → vs[k]? = some v → VR ρ' u v)
  | [], vs, ds, ps, A, ρ, _, h, _, hr, _ => by
    obtain ⟨rfl, rfl, _⟩ := trodAll_nil h
    exact ⟨A, ρ, [], Grew.refl hr, rfl, rfl, rfl, by simp, by simp⟩
  | t :: ts, vs, ds, ps, A, ρ, hk, h, hok, hr, hno => by
    obtain ⟨v, vs', d, ds', p, q, rfl, rfl, rfl, ⟨fuel, h1⟩, h2⟩ := trodAll_cons h
    obtain ⟨A1, ρ1, cs, g1, a1, c1⟩ := lay_ok (held := true) (enc := enc) (base := 0) hT n t (hk t (by simp)) fuel _ d p A ρ h1 hr hno
    obtain ⟨A2, ρ2, us, g2, e1, e2, e3, e4, e5⟩ := args_lay hT n ts vs' ds' q A1 ρ1 (fun x hx => hk x (by simp [hx])) h2 (fun j t v hj hv => hok (j + 1) t v (by simpa using hj) (by simpa using hv)) g1.rel (g1.noown hno)
    obtain ⟨base, hv⟩ := hok 0 t v rfl rfl
    have hmain : ∃ u, ArgV T A1 t d u ∧ VR ρ1 u v := by
      cases hti : T t with
      | none =>
        have := hk t (by simp)
        cases n with
        | zero => cases this
        | succ n => simp only [okT, hti] at this; cases this
      | some i =>
        have hu := hT.und t i hti
        by_cases hs : ∃ fs, i.d = .struct fs
        · obtain ⟨fs, hd⟩ := hs
          unfold Value.okWide at hv
          rw [hu, hd] at hv
          simp only at hv
          obtain ⟨c, rfl, _, _⟩ := hv
          refine ⟨.agg cs.toArray, ⟨cs, a1, i, hti, .inl ⟨fs, hd, rfl⟩⟩, .agg _ _ ?_ fun j u v hu hv => ?_⟩
          · have := c1.1; simpa [Value.cells] using this
          · exact (c1.2 j u v (by simpa using hu) (by simpa [Value.cells] using hv)).2
        · have hcell : v.cells.toList = [v] := by
            have h2 := hv
            unfold Value.okWide at h2
            rw [hu] at h2
            cases hd : i.d with
            | struct fs => exact absurd ⟨fs, hd⟩ hs
            | array k e =>
              have := hk t (by simp)
              cases n with
              | zero => cases this
              | succ n => simp only [okT, hti, hd] at this; cases this
            | _ =>
              rw [hd] at h2
              simp only at h2
              cases v with
              | agg c =>
                unfold Cell.okWide at h2
                rw [hu, hd] at h2
                simp [Cell.ok, hu, hd] at h2
              | _ => rfl
          rw [hcell] at c1
          have hl := c1.1
          obtain ⟨u, rfl⟩ : ∃ u, cs = [u] := by
            match cs, hl with
            | [u], _ => exact ⟨u, rfl⟩
          exact ⟨u, ⟨[u], a1, i, hti, .inr ⟨fun fs h => hs ⟨fs, h⟩, rfl⟩⟩, (c1.2 0 u v rfl rfl).2⟩
    obtain ⟨u, m1, m2⟩ := hmain
    refine ⟨A2, ρ2, u :: us, g1.trans g2, by simp [e1], by simp [e2], by simp [e3], fun k t' d' u' hk1 hk2 hk3 => ?_, fun k u' v' hk1 hk2 => ?_⟩
    · cases k with
      | zero =>
        simp at hk1 hk2 hk3
        subst hk1; subst hk2; subst hk3
        obtain ⟨cs', q1, q2⟩ := m1
        exact ⟨cs', q1.mono (g2.keep g1.rel), q2⟩
      | succ k => exact e4 k t' d' u' (by simpa using hk1) (by simpa using hk2) (by simpa using hk3)
    · cases k with
      | zero => simp at hk1 hk2; subst hk1; subst hk2; exact m2.le g2.le
      | succ k => exact e5 k u' v' (by simpa using hk1) (by simpa using hk2)

end

section
variable [Reps] {P : Program}

/-- the beginning's heap: constants and what came in -/
theorem start_rel {w : World} (hcw : ConW P w) (hsz : ∀ i p, i < Reps.C.next → Reps.ρC i = some p → p.blk < w.heap.size) {A : Hp} {ρ : Rn} (hg : Grew P w Reps.C Reps.ρC A ρ) :
    RelX P ⟨ρ, fun _ _ => False, fun _ _ => False⟩ A w ∧ (∀ b, ¬ OwnX A ⟨ρ, fun _ _ => False, fun _ _ => False⟩ b) ∧ (∀ i o, Reps.C.get i = some o → A.get i = some o) ∧ A.wf ∧ Reps.C.next ≤ A.next := by
  have hCn : ∀ i, Reps.C.next ≤ i → Reps.C.get i = none := by
    intro i hi
    cases h : Reps.C.get i with
    | none => rfl
    | some o => have := (Reps.Cro i o h).1; omega
  have hmd : ∀ i o, A.get i = some o → (i < Reps.C.next ∧ Reps.C.get i = some o ∧ o.md = .ro) ∨ (Reps.C.next ≤ i ∧ o.md = .sh ∧ o.isAbs = false) := by
    intro i o hi
    rcases Nat.lt_or_ge i Reps.C.next with h | h
    · rw [(hg.old i h).1] at hi
      exact .inl ⟨h, hi, (Reps.Cro i o hi).2⟩
    · exact .inr ⟨h, hg.new i o h hi⟩
  let g : Gh := ⟨ρ, fun _ _ => False, fun _ _ => False⟩
  have hown : ∀ i b, ¬ OwnAt A g i b := by
    intro i b hi
    cases hi with
    | vis o p k1 k2 k3 k4 =>
      rcases hmd i o k1 with ⟨_, _, h⟩ | ⟨_, h, _⟩
      · rw [k2] at h; cases h
      · rw [k2] at h; cases h
    | abs k x k1 k2 => exact k2
  have hro : ∀ i b, ¬ RoAt A g i b := by
    intro i b hi
    cases hi with
    | vis o p k1 k2 k5 k3 k4 =>
      rcases hmd i o k1 with ⟨h, _, _⟩ | ⟨_, h, _⟩
      · omega
      · rw [k2] at h; cases h
  refine ⟨.of (fun i o hi _ => hg.rel.obj i o hi) (fun i k x hi => ?_) ⟨fun i j b h _ => (hown _ _ h).elim, fun i j b h _ => hown _ _ h, fun i j b h _ => hown _ _ h, fun i j b h _ => (hro _ _ h).elim, fun i j b h _ => hro _ _ h, fun i j b h1 h2 => ?_⟩
    ⟨fun i hi => (hg.old i hi).2, hg.next, fun i o hi ho => ?_, fun i p hi hp => ⟨hsz i p hi hp, fun ⟨j, hj⟩ => hown _ _ hj⟩, hcw⟩ (fun i hi => hg.rel.fresh i hi) hg.rel.glob, fun b ⟨i, hi⟩ => hown i b hi, fun i o hi => ?_, fun i hi => (hg.rel.fresh i hi).1, hg.next⟩
  · rcases hmd i _ hi with ⟨_, _, h⟩ | ⟨_, _, h⟩ <;> cases h
  · cases h1 with
    | vis o p k1 k2 k5 k3 k4 =>
      cases h2 with
      | vis o' p' q1 q2 q5 q3 q4 =>
        by_cases e : i = j
        · exact e
        · rw [(hg.old i k5).1] at k1
          rw [(hg.old j q5).1] at q1
          have e1 : ρ i = some p := k3
          have e2 : ρ j = some p' := q3
          rw [(hg.old i k5).2] at e1
          rw [(hg.old j q5).2] at e2
          exact absurd (k4.trans q4.symm) (hcw.cc i j o o' p p' k1 q1 e e1 e2)
  · rcases hmd i o ho with ⟨_, _, h⟩ | ⟨h, _, _⟩
    · exact h
    · omega
  · rw [(hg.old i (Reps.Cro i o hi).1).1]; exact hi

/-- what a call without anything of its own leaves -/
theorem law_run {call : CallT} (hC : CallOK P call) {g : Gh} {A A' : Hp} {w : World} (hA : RelX P g A w) (hno : ∀ b, ¬ OwnX A g b) {f : FuncId} {us : List Value} {args : Array Value} (ha : AR g.ρ us.toArray args)
    (hrun : call f us A = some (.bool true, A')) :
    Calls P f args w fun e w' => e = .returned (.bool true) ∧ (∀ b, b < w.heap.size → w'.heap[b]? = w.heap[b]?) ∧ w.heap.size ≤ w'.heap.size ∧ w'.os = w.os ∧ w'.output = w.output := by
  refine (hC.calls f us A _ A' hrun g w args hA ha).mono fun e w' he => ?_
  obtain ⟨v', rfl, g', h1, h2, h3⟩ := he
  have : v' = .bool true := plain0_eq h1 rfl
  subst this
  exact ⟨rfl, fun b hb => h3.keep b hb (hno b), h3.size, h3.os, h3.output⟩
end

section
variable {H : Type} {enc : TypeId × Value → H} {P : Program} {T : TT}

theorem okT_kids (hT : T.ok P) : Kids P (fun t => ∃ n, okT T n t = true) := by
  have key : ∀ {t : TypeId}, (∃ n, okT T n t = true) → ∃ n i, T t = some i ∧ P.underlying t = some i.d ∧ okT T (n + 1) t = true := by
    rintro t ⟨n, h⟩
    cases n with
    | zero => cases h
    | succ n =>
      cases hti : T t with
      | none => simp only [okT, hti] at h; cases h
      | some i => exact ⟨n, i, rfl, hT.und t i hti, h⟩
  refine ⟨fun {t e} h hu => ?_, fun {t e} h hu => ?_, fun {t e n} h hu => ?_, fun {t fs} h hu => ?_, fun {t k e} h hu => ?_⟩
  · obtain ⟨n, i, h1, h2, h3⟩ := key h
    rw [hu] at h2
    simp only [okT, h1, ← Option.some.inj h2] at h3; cases h3
  · obtain ⟨n, i, h1, h2, h3⟩ := key h
    rw [hu] at h2
    simp only [okT, h1, ← Option.some.inj h2, Bool.and_eq_true] at h3
    exact ⟨n, h3.2⟩
  · obtain ⟨m, i, h1, h2, h3⟩ := key h
    rw [hu] at h2
    simp only [okT, h1, ← Option.some.inj h2] at h3; cases h3
  · obtain ⟨n, i, h1, h2, h3⟩ := key h
    rw [hu] at h2
    simp only [okT, h1, ← Option.some.inj h2, Bool.and_eq_true, List.all_eq_true] at h3
    obtain ⟨h3, h4⟩ := h3
    refine ⟨fun f hf => ⟨n, h4 f hf⟩, ?_⟩
    cases hof : offs T 0 fs.toList with
    | none => rw [hof] at h3; cases h3
    | some m =>
      rw [hof] at h3
      have hm : m = i.size := by simpa using h3
      have gen : ∀ (l : List Field) (a b : Nat), offs T a l = some b → b = a + (l.map fun f => P.cellsOf f.type).sum ∧ ∀ (j : Nat) f, l[j]? = some f → f.offset = a + ((l.take j).map fun f => P.cellsOf f.type).sum := by
        intro l
        induction l with
        | nil => intro a b h; simp only [offs, Option.some.injEq] at h; simp [h]
        | cons f l ih =>
          intro a b h
          simp only [offs] at h
          cases hb : Nat.beq f.offset a with
          | false => rw [hb] at h; cases h
          | true =>
            rw [hb] at h
            have e : f.offset = a := by simpa using hb
            simp only [cond_true] at h
            cases ht : T f.type with
            | none => rw [ht] at h; cases h
            | some q =>
              rw [ht] at h
              obtain ⟨r1, r2⟩ := ih _ _ h
              have hc := cellsOf_of hT ht
              refine ⟨by simp [r1, hc]; omega, fun j f' hj => ?_⟩
              cases j with
              | zero => simp at hj; subst hj; simp [e]
              | succ j =>
                have := r2 j f' (by simpa using hj)
                simp [this, hc]; omega
      obtain ⟨g1, g2⟩ := gen _ _ _ hof
      refine ⟨by rw [cellsOf_of hT h1, ← hm, g1]; simp, fun j f hj => ?_⟩
      have := g2 j f hj
      simpa using this
  · obtain ⟨n, i, h1, h2, h3⟩ := key h
    rw [hu] at h2
    simp only [okT, h1, ← Option.some.inj h2] at h3; cases h3

theorem okT_slice (hT : T.ok P) {t e : TypeId} (h : ∃ n, okT T n t = true) (hu : P.underlying t = some (.slice e)) : 0 < P.cellsOf e := by
  obtain ⟨n, h⟩ := h
  cases n with
  | zero => cases h
  | succ n =>
    cases hti : T t with
    | none => simp only [okT, hti] at h; cases h
    | some i =>
      have h2 := hT.und t i hti
      rw [hu] at h2
      simp only [okT, hti, ← Option.some.inj h2, Bool.and_eq_true] at h
      cases hte : T e with
      | none => rw [hte] at h; cases h.1.2
      | some j =>
        rw [hte] at h
        rw [cellsOf_of hT hte]
        simpa [Nat.blt_eq] using h.1.2

theorem trodAll_stays (hT : T.ok P) {W W' : World} (hsame : ∀ b, b < W.heap.size → W'.heap[b]? = W.heap[b]?) {sp : Nat → Bool} : ∀ (ts : List TypeId) (vs : List Value) (ds : List (DataW H)) (ps : List MemPlace), (∀ t ∈ ts, ∃ n, okT T n t = true) →
    DataW.TrodAll enc P W 0 (fun _ => true) true ts vs ds ps → (∀ p ∈ ps, sp p.block = true) → DataW.TrodAll enc P W' 0 sp true ts vs ds ps
  | [], [], [], _, _, h, _ => h
  | t :: ts, v :: vs, d :: ds, ps, hk, ⟨p, q, ⟨n, h1⟩, h2, e⟩, hs => by
    subst e
    refine ⟨p, q, ⟨n, ?_⟩, trodAll_stays hT hsame ts vs ds q (fun x hx => hk x (by simp [hx])) h2 (fun x hx => hs x (by simp [hx])), rfl⟩
    refine DataW.trod_stays (T := fun t => ∃ n, okT T n t = true) (okT_kids hT) (fun h hu => okT_slice hT h hu) (fun h => by cases h) (hk t (by simp)) h1 (fun x hx => ?_) (fun x hx => hs x (by simp [hx]))
    have hlt := DataW.trod_lt _ _ _ _ h1 x hx
    cases x with
    | cell b off =>
      show W'.cell? _ = W.cell? _
      unfold World.cell?
      rw [hsame b hlt]
    | map b => exact hsame b hlt
  | [], _ :: _, _, _, _, h, _ => by simp [DataW.TrodAll] at h
  | [], [], _ :: _, _, _, h, _ => by simp [DataW.TrodAll] at h
  | _ :: _, [], _, _, _, h, _ => by simp [DataW.TrodAll] at h
  | _ :: _, _ :: _, [], _, _, h, _ => by simp [DataW.TrodAll] at h

/-- a law's end: it answered true, and all that was there is as it was -/
theorem law_post (hT : T.ok P) {fn : Func} {s : ChangeSpec} {tb : TypeId} (hok : ∀ t ∈ fn.params.toList, ∃ n, okT T n t = true) (hres : fn.resultTypes = #[tb]) (htb : P.underlying tb = some .bool) (hvars : s.vars = [])
    {W W' : World} {args : Array Value} {ds gs : List (DataW H)} {before : List MemPlace} (hW : DataW.Whole enc P fn.params.toList s.vars false W args.toList ds gs before)
    (hfn : s.fn H (ds ++ gs) = { results := [.lit (.bool true)], args := ds })
    (hsame : ∀ b, b < W.heap.size → W'.heap[b]? = W.heap[b]?) (hos : W'.os = W.os) (hout : W'.output = W.output) :
    s.post enc P fn false true false false W args (.bool true) W' := by
  have hlt := hW.lt
  have hW0 := hW
  obtain ⟨p, q, h1, h2, h3, h4, h5⟩ := hW0
  have hgs : gs = [] ∧ q = [] := by
    rw [hvars] at h2
    cases gs with
    | nil => exact ⟨rfl, h2⟩
    | cons a l => simp [DataW.TrodVars] at h2
  obtain ⟨rfl, rfl⟩ := hgs
  rw [List.append_nil] at h3
  subst h3
  refine ⟨ds, [], before, [], before, [], hW, ?_, ?_, ?_, ⟨hos, hout, fun i hi => ?_⟩, fun h => by cases h⟩
  · rw [hfn, hres]
    refine ⟨[], [], ⟨1, ?_⟩, rfl, rfl⟩
    simp [DataW.trod, htb, Value.cells]
  · rw [hfn]
    exact trodAll_stays hT hsame _ _ _ _ hok h1 (fun x hx => by simpa using hlt x hx)
  · rw [hfn, hvars]; rfl
  · rw [hsame i hi]
    cases h : W.heap[i]? with
    | none => rfl
    | some o => cases o with
      | cells c t fr => exact ⟨rfl, rfl, rfl, fun _ _ => rfl⟩
      | map es clock => exact .inr ⟨rfl, rfl⟩
      | _ => rfl

end
end Go.Dn
namespace Go.Dn
section
variable {H : Type} {T : TT} {A : Hp}

theorem ArgR.int_inv {t : TypeId} {d : DataW H} {cs : List Value} {i : TI} {k : IntKind} (h : ArgR T A t d cs) (ht : T t = some i) (hd : i.d = .int k) : ∃ n, d = .lit (.int k n) ∧ cs = [.int k n] ∧ (Lit.int k n).wf = true := by
  cases h with
  | int h hd' n hw =>
    rw [ht] at h; cases h
    rw [hd] at hd'; cases hd'
    exact ⟨n, rfl, rfl, hw⟩
  | bool h hd' b => rw [ht] at h; cases h; rw [hd] at hd'; cases hd'
  | string h hd' => rw [ht] at h; cases h; rw [hd] at hd'; cases hd'
  | nil h hd' => rw [ht] at h; cases h; rw [hd] at hd'; cases hd'
  | empty h hd' => rw [ht] at h; cases h; rw [hd] at hd'; cases hd'
  | slice h hd' => rw [ht] at h; cases h; rw [hd] at hd'; cases hd'
  | struct h hd' => rw [ht] at h; cases h; rw [hd] at hd'; cases hd'
theorem ArgR.bool_inv {t : TypeId} {d : DataW H} {cs : List Value} {i : TI} (h : ArgR T A t d cs) (ht : T t = some i) (hd : i.d = .bool) : ∃ b, d = .lit (.bool b) ∧ cs = [.bool b] := by
  cases h with
  | bool h hd' b => exact ⟨b, rfl, rfl⟩
  | int h hd' => rw [ht] at h; cases h; rw [hd] at hd'; cases hd'
  | string h hd' => rw [ht] at h; cases h; rw [hd] at hd'; cases hd'
  | nil h hd' => rw [ht] at h; cases h; rw [hd] at hd'; cases hd'
  | empty h hd' => rw [ht] at h; cases h; rw [hd] at hd'; cases hd'
  | slice h hd' => rw [ht] at h; cases h; rw [hd] at hd'; cases hd'
  | struct h hd' => rw [ht] at h; cases h; rw [hd] at hd'; cases hd'
theorem ArgR.struct_inv {t : TypeId} {d : DataW H} {cs : List Value} {i : TI} {fs : Array Field} (h : ArgR T A t d cs) (ht : T t = some i) (hd : i.d = .struct fs) :
    ∃ ds, ∃ css : List (List Value), d = .agg ds ∧ cs = css.flatten ∧ ds.length = fs.toList.length ∧ css.length = fs.toList.length ∧
      (∀ (k : Nat) f d c, fs.toList[k]? = some f → ds[k]? = some d → css[k]? = some c → ArgR T A f.type d c) := by
  cases h with
  | struct h hd' ds css h1 h2 hc =>
    rw [ht] at h; cases h
    rw [hd] at hd'; cases hd'
    exact ⟨ds, css, rfl, rfl, h1, h2, hc⟩
  | bool h hd' b => rw [ht] at h; cases h; rw [hd] at hd'; cases hd'
  | int h hd' => rw [ht] at h; cases h; rw [hd] at hd'; cases hd'
  | string h hd' => rw [ht] at h; cases h; rw [hd] at hd'; cases hd'
  | nil h hd' => rw [ht] at h; cases h; rw [hd] at hd'; cases hd'
  | empty h hd' => rw [ht] at h; cases h; rw [hd] at hd'; cases hd'
  | slice h hd' => rw [ht] at h; cases h; rw [hd] at hd'; cases hd'

/-- a slice that came in: its elements' cells -/
theorem ArgR.slice_inv {t e : TypeId} {d : DataW H} {cs : List Value} {i j : TI} (h : ArgR T A t d cs) (ht : T t = some i) (hd : i.d = .slice e) (he : T e = some j) :
    ∃ a, ∃ css : List (List Value), ∃ els, ∃ c : Nat, cs = [.slice a css.length c] ∧ elemsOf A j.size (.slice a css.length c) = some (css.length, css.flatten) ∧ els.length = css.length ∧ css.length ≤ maxLen ∧
      (d = .nil ∧ els = [] ∨ ∃ sp, d = .slice els sp) ∧ (∀ (k : Nat) c, css[k]? = some c → c.length = j.size) ∧ (∀ (k : Nat) d c, els[k]? = some d → css[k]? = some c → ArgR T A e d c) ∧
      ((a = none ∧ css = [] ∧ c ≤ 1) ∨ ∃ id, a = some ⟨id, 0, some j.size⟩ ∧ c = 2 * css.length ∧ A.get id = some (.arr e css.flatten .sh)) := by
  cases h with
  | nil h hd' =>
    exact ⟨none, [], [], 0, rfl, rfl, rfl, by simp, .inl ⟨rfl, rfl⟩, by simp, by simp, .inl ⟨rfl, rfl, by omega⟩⟩
  | empty h hd' =>
    exact ⟨none, [], [], 1, rfl, rfl, rfl, by simp, .inr ⟨[], rfl⟩, by simp, by simp, .inl ⟨rfl, rfl, by omega⟩⟩
  | slice h hd' he' hj els sp css id hA hl hn hz hc =>
    rw [ht] at h; cases h
    rw [hd] at hd'; cases hd'
    rw [he] at he'; cases he'
    refine ⟨_, css, els, 2 * css.length, by rw [hl], ?_, hl, by omega, .inr ⟨sp, rfl⟩, hz, hc, .inr ⟨id, rfl, rfl, hA⟩⟩
    simp only [elemsOf, if_true]
    cases hb : Nat.beq css.length 0 with
    | true =>
      have : css = [] := List.eq_nil_of_length_eq_zero (by simpa using hb)
      subst this
      rfl
    | false =>
      simp only [cond_false]
      rw [cellsAt_of hA]
      have hfl := flat_len css j.size hz
      rw [cellsIn_of (us := css.flatten) (by omega) (by rw [List.drop_zero, List.take_of_length_le (by omega)])]
      rfl
  | bool h hd' b => rw [ht] at h; cases h; rw [hd] at hd'; cases hd'
  | int h hd' => rw [ht] at h; cases h; rw [hd] at hd'; cases hd'
  | string h hd' => rw [ht] at h; cases h; rw [hd] at hd'; cases hd'
  | struct h hd' => rw [ht] at h; cases h; rw [hd] at hd'; cases hd'
end
end Go.Dn
end

section
namespace Go.Dn
open Go.ChangeShapes

theorem find_some {as : List (Nat × Addr)} {k : Nat} {x : Nat × Addr} (h : as.find? (fun x => x.1 == k) = some x) : x ∈ as ∧ x.1 = k :=
  ⟨List.mem_of_find?_eq_some h, by have := List.find?_some h; simpa using this⟩

/-- What the listed variables give: the constants stand where the table says. xs: the tables of plain data. -/
theorem consts_start {P : Program} {W : World} {te tp G : Nat} (hG : P.globals.size = G) (as : List (Nat × Addr)) (hn : (errPlaces as).Nodup)
    (hrow : ∀ g, g < G → ∃ c t, W.heap[g]? = some (.cells c t (0, 0)) ∧ (P.globals[g]?).map (·.type) = some t)
    (hE : ∀ x ∈ as, x.1 < G ∧ (P.globals[x.1]?).map (·.type) = some te ∧ (∃ T fz, W.heap[x.1]? = some (.cells #[.iface tp (.pointer (some x.2))] T fz)) ∧ x.2.spot = none ∧ ∃ c t, W.heap[x.2.block]? = some (.cells c t (0, 0)))
    (C : Hp) (hCn : C.next = G + G)
    (hC : ∀ i o, C.get i = some o → (∃ a, (i, a) ∈ as ∧ o = .arr te [.iface tp (.pointer (some ⟨i + G, 0, none⟩))] .ro) ∨
      (∃ T cs, i < G ∧ o = .arr T cs .ro ∧ (P.globals[i]?).map (·.type) = some T ∧ (∀ u ∈ cs, plain0 u = true) ∧ ∃ fz, W.heap[i]? = some (.cells cs.toArray T fz))) :
    (∀ i o, C.get i = some o → i < C.next ∧ o.md = .ro) ∧ (∀ i, C.next ≤ i → (fun i => if i < G + G then placeC G C as i else none) i = none) ∧
    Rel P (fun i => if i < G + G then placeC G C as i else none) C W ∧
    (∀ i p, i < C.next → (fun i => if i < G + G then placeC G C as i else none) i = some p → p.blk < W.heap.size) ∧
    ∀ [R : Reps], R.C = C → R.ρC = (fun i => if i < G + G then placeC G C as i else none) → ConW P W := by
  have blk : ∀ b (o : Obj), W.heap[b]? = some o → b < W.heap.size := fun b o h => (Array.getElem?_eq_some_iff.1 h).1
  have hCg : ∀ i o, C.get i = some o → i < G := by
    intro i o hi
    rcases hC i o hi with ⟨a, ha, _⟩ | ⟨_, _, h, _⟩
    · exact (hE _ ha).1
    · exact h
  have h1 : ∀ i o, C.get i = some o → i < C.next ∧ o.md = .ro := by
    intro i o hi
    have := hCg i o hi
    refine ⟨by omega, ?_⟩
    rcases hC i o hi with ⟨a, _, rfl⟩ | ⟨_, _, _, rfl, _⟩ <;> rfl
  let ρ : Rn := fun i => if i < G + G then placeC G C as i else none
  have pg : ∀ g, g < G → ρ g = some ⟨g, 0, capC C g⟩ := by
    intro g hg
    show (if g < G + G then placeC G C as g else none) = _
    rw [if_pos (by omega)]
    simp only [placeC, if_pos hg]
  have pe : ∀ i p, G ≤ i → ρ i = some p → ∃ x ∈ as, x.1 + G = i ∧ p = ⟨x.2.block, x.2.off, 0⟩ := by
    intro i p hi hp
    have hp' : (if i < G + G then placeC G C as i else none) = some p := hp
    split at hp'
    · simp only [placeC] at hp'
      rw [if_neg (by omega)] at hp'
      simp only [Option.map_eq_some_iff] at hp'
      obtain ⟨x, hx, rfl⟩ := hp'
      exact ⟨x, List.mem_of_find?_eq_some hx, by simpa using List.find?_some hx, rfl⟩
    · cases hp'
  have pe2 : ∀ x ∈ as, ∃ y ∈ as, y.1 = x.1 ∧ ρ (x.1 + G) = some ⟨y.2.block, y.2.off, 0⟩ := by
    intro x hx
    have hxg := (hE x hx).1
    cases hf : as.find? (fun y => y.1 + G == x.1 + G) with
    | none =>
      have := List.find?_eq_none.1 hf x hx
      simp at this
    | some y =>
      refine ⟨y, List.mem_of_find?_eq_some hf, ?_, ?_⟩
      · have := List.find?_some hf
        simp at this; exact this
      · show (if x.1 + G < G + G then placeC G C as (x.1 + G) else none) = _
        rw [if_pos (by omega)]
        simp only [placeC]
        rw [if_neg (by omega), hf]; rfl
  have uniq : ∀ x ∈ as, ∀ y ∈ as, x.1 = y.1 → x = y := by
    intro x hx y hy hxy
    obtain ⟨i, hi⟩ := List.getElem?_of_mem hx
    obtain ⟨j, hj⟩ := List.getElem?_of_mem hy
    by_cases e : i = j
    · subst e; rw [hi] at hj; exact Option.some.inj hj
    · exact absurd hxy (errPlaces_ne hn i j x y hi hj e).2
  have hob : ∀ i o, C.get i = some o → ∃ p, ρ i = some p ∧ ObR P ρ W p o := by
    intro i o hi
    have hig := hCg i o hi
    rcases hC i o hi with ⟨a, ha, rfl⟩ | ⟨T, cs, _, rfl, ht, hpl, fz, hh⟩
    · obtain ⟨q1, q2, ⟨T, fz, q3⟩, q4, _⟩ := hE _ ha
      obtain ⟨c, t, r1, r2⟩ := hrow i hig
      rw [q3] at r1
      have r1' := Option.some.inj r1
      simp only [Obj.cells.injEq] at r1'
      obtain ⟨rfl, rfl, rfl⟩ := r1'
      have hte : T = te := by
        have h : (P.globals[i]?).map (·.type) = some te := q2
        rw [r2] at h
        exact Option.some.inj h
      subst hte
      refine ⟨_, pg i hig, ?_⟩
      have hcap : capC C i = 1 := by unfold capC; rw [hi]; rfl
      rw [hcap]
      refine .arr T _ .ro _ T (0, 0) q3 (fun _ => ⟨rfl, by simp, by simp, .inl rfl⟩) (by simp) fun j u hu => ?_
      have hj0 : j = 0 := by
        cases j with
        | zero => rfl
        | succ j => simp at hu
      subst hj0
      simp at hu; subst hu
      refine ⟨rfl, _, rfl, .iface tp _ _ ?_⟩
      obtain ⟨y, hy, hy1, hy2⟩ := pe2 _ ha
      have := uniq y hy _ ha hy1
      subst this
      have k := VR.ptr (ρ := ρ) 0 hy2
      simp only [Nat.add_zero] at k
      obtain ⟨ab, ao, asp⟩ := a
      simp only at q4
      subst q4
      exact k
    · obtain ⟨c, t, r1, r2⟩ := hrow i hig
      rw [hh] at r1
      have r1' := Option.some.inj r1
      simp only [Obj.cells.injEq] at r1'
      obtain ⟨rfl, rfl, rfl⟩ := r1'
      refine ⟨_, pg i hig, ?_⟩
      have hcap : capC C i = cs.length := by unfold capC; rw [hi]
      rw [hcap]
      refine .arr T _ .ro _ T (0, 0) hh (fun _ => ⟨rfl, by intro j _; simp, by simp, .inl rfl⟩) (Nat.le_refl _) fun j u hu => ?_
      have hp0 := hpl u (List.mem_of_getElem? hu)
      refine ⟨?_, u, by simpa using hu, plain0_vr hp0⟩
      cases u <;> first | rfl | (simp [plain0] at hp0)
  have hcc : ∀ i j o o' p q, C.get i = some o → C.get j = some o' → i ≠ j → ρ i = some p → ρ j = some q → p.blk ≠ q.blk := by
    intro i j o o' p q hi hj hij hp hq
    rw [pg i (hCg i o hi)] at hp; cases hp
    rw [pg j (hCg j o' hj)] at hq; cases hq
    exact hij
  have hsz : ∀ i p, i < C.next → ρ i = some p → p.blk < W.heap.size := by
    intro i p hi hp
    rcases Nat.lt_or_ge i G with h | h
    · rw [pg i h] at hp; cases hp
      obtain ⟨c, t, r1, _⟩ := hrow i h
      exact blk _ _ r1
    · obtain ⟨x, hx, _, rfl⟩ := pe i p h hp
      obtain ⟨_, _, _, _, c, t, r⟩ := hE x hx
      exact blk _ _ r
  have hgl : ∀ j, j < P.globals.size → ∃ p, ρ j = some p ∧ p.blk = j ∧ p.off = 0 := fun j hj => ⟨_, pg j (by omega), rfl, rfl⟩
  refine ⟨h1, fun i hi => by simp only; rw [if_neg (by omega)], ⟨hob, fun i j o o' p q hi hj hij hp hq _ => hcc i j o o' p q hi hj hij hp hq, fun i hi => ⟨?_, by show (if i < G + G then _ else none) = none; rw [if_neg (by omega)]⟩, hgl⟩, hsz, ?_⟩
  · cases h : C.get i with
    | none => rfl
    | some o => have := (h1 i o h).1; omega
  · intro R hRC hRρ
    refine ⟨fun i o hi => ?_, fun i j o o' p q hi hj hij hp hq => ?_, fun j hj => ?_, fun i p hi1 hi2 hp => ?_, fun i j p q hi hj hij hp hq => ?_⟩
    · rw [hRC] at hi; rw [hRρ]; exact hob i o hi
    · rw [hRC] at hi hj; rw [hRρ] at hp hq; exact hcc i j o o' p q hi hj hij hp hq
    · rw [hRρ]; exact hgl j hj
    · rw [hRρ] at hp
      obtain ⟨x, hx, _, rfl⟩ := pe i p (by omega) hp
      exact (hE x hx).2.2.2.2
    · rw [hRρ] at hp hq
      obtain ⟨x, hx, hx1, rfl⟩ := pe i p (by omega) hp
      obtain ⟨y, hy, hy1, rfl⟩ := pe j q (by omega) hq
      obtain ⟨a, ha⟩ := List.getElem?_of_mem hx
      obtain ⟨b, hb⟩ := List.getElem?_of_mem hy
      by_cases e : a = b
      · subst e; rw [ha] at hb; cases hb; omega
      · exact (errPlaces_ne hn a b x y ha hb e).1

end Go.Dn
end
