/-
  The abstract machine's heap, values and the relation to the model's worlds. Generic over the program.
-/
import Derived.WalkKit

section
namespace Go.Dn

/-! ## tries -/
inductive Tr (α : Type) where
  | nil
  | node (l : Tr α) (v : Option α) (r : Tr α)

namespace Tr
variable {α : Type}
def get : Tr α → Nat → Option α
  | .nil, _ => none
  | .node l v r, n => bif Nat.beq n 0 then v else bif Nat.beq (n % 2) 1 then l.get ((n - 1) / 2) else r.get ((n - 1) / 2)

def upd (v : Option α) : Nat → Tr α → Nat → Tr α
  | 0, t, _ => t
  | f + 1, .nil, n => bif Nat.beq n 0 then .node .nil v .nil else bif Nat.beq (n % 2) 1 then .node (upd v f .nil ((n - 1) / 2)) none .nil else .node .nil none (upd v f .nil ((n - 1) / 2))
  | f + 1, .node l x r, n => bif Nat.beq n 0 then .node l v r else bif Nat.beq (n % 2) 1 then .node (upd v f l ((n - 1) / 2)) x r else .node l x (upd v f r ((n - 1) / 2))

@[simp] theorem get_nil (n : Nat) : (Tr.nil : Tr α).get n = none := by unfold get; rfl

theorem beq_ff {n m : Nat} (h : n ≠ m) : Nat.beq n m = false := by
  cases hb : Nat.beq n m
  · rfl
  · exact absurd (Nat.eq_of_beq_eq_true hb) h
theorem beq_tt (n : Nat) : Nat.beq n n = true := by simp

theorem get_upd (v : Option α) : ∀ (f : Nat) (t : Tr α) (n m : Nat), n < f → (upd v f t n).get m = if m = n then v else t.get m := by
  intro f
  induction f with
  | zero => intro t n m h; omega
  | succ f ih =>
    intro t n m hn
    by_cases h0 : n = 0
    · subst h0
      cases t with
      | nil =>
        simp only [upd, beq_tt, cond_true]
        by_cases hm : m = 0
        · subst hm; simp [get]
        · simp only [get, beq_ff hm, cond_false, if_neg hm]
          cases Nat.beq (m % 2) 1 <;> simp
      | node l x r =>
        simp only [upd, beq_tt, cond_true]
        by_cases hm : m = 0
        · subst hm; simp [get]
        · simp only [get, beq_ff hm, cond_false, if_neg hm]
    · have hf : (n - 1) / 2 < f := by omega
      have key : ∀ (t : Tr α), (upd v f t ((n - 1) / 2)).get ((m - 1) / 2) = if (m - 1) / 2 = (n - 1) / 2 then v else t.get ((m - 1) / 2) := fun t => ih t _ _ hf
      by_cases ho : n % 2 = 1
      · cases t with
        | nil =>
          simp only [upd, beq_ff h0, ho, beq_tt, cond_true, cond_false]
          by_cases hm : m = 0
          · subst hm; simp [get]; omega
          · simp only [get, beq_ff hm, cond_false]
            by_cases hmo : m % 2 = 1
            · simp only [hmo, beq_tt, cond_true, key, get_nil]
              by_cases e : m = n
              · subst e; simp
              · rw [if_neg e, if_neg (by omega)]
            · simp only [beq_ff hmo, cond_false]
              rw [if_neg (by omega)]
        | node l x r =>
          simp only [upd, beq_ff h0, ho, beq_tt, cond_true, cond_false]
          by_cases hm : m = 0
          · subst hm; simp [get]; intro h; omega
          · simp only [get, beq_ff hm, cond_false]
            by_cases hmo : m % 2 = 1
            · simp only [hmo, beq_tt, cond_true, key]
              by_cases e : m = n
              · subst e; simp
              · rw [if_neg e, if_neg (by omega)]
            · simp only [beq_ff hmo, cond_false]
              rw [if_neg (by omega)]
      · cases t with
        | nil =>
          simp only [upd, beq_ff h0, beq_ff ho, cond_false]
          by_cases hm : m = 0
          · subst hm; simp [get]; omega
          · simp only [get, beq_ff hm, cond_false]
            by_cases hmo : m % 2 = 1
            · simp only [hmo, beq_tt, cond_true]
              rw [if_neg (by omega)]
            · simp only [beq_ff hmo, cond_false, key, get_nil]
              by_cases e : m = n
              · subst e; simp
              · rw [if_neg e, if_neg (by omega)]
        | node l x r =>
          simp only [upd, beq_ff h0, beq_ff ho, cond_false]
          by_cases hm : m = 0
          · subst hm; simp [get]; intro h; omega
          · simp only [get, beq_ff hm, cond_false]
            by_cases hmo : m % 2 = 1
            · simp only [hmo, beq_tt, cond_true]
              rw [if_neg (by omega)]
            · simp only [beq_ff hmo, cond_false, key]
              by_cases e : m = n
              · subst e; simp
              · rw [if_neg e, if_neg (by omega)]
end Tr

/-! ## the abstract heap -/
/-- own: a block of its own, that may be written; ro: a block of its own, never written; sh: may lie over others, never written -/
inductive Md where
  | own | ro | sh
  deriving DecidableEq

/-- plain data of any shape -/
inductive Dat where
  | v (u : Value)
  | l (ds : List Dat)

/-- abs: an object of a kind of its own, with all that belongs to it; what it holds is said as data -/
inductive Ob where
  | arr (T : TypeId) (cs : List Value) (m : Md)
  | map (es : List (Value × Value)) (m : Md)
  | abs (k : Nat) (x : Dat)

def Ob.md : Ob → Md
  | .arr _ _ m => m
  | .map _ m => m
  | .abs _ _ => .sh

def Ob.isAbs : Ob → Bool
  | .abs _ _ => true
  | _ => false

structure Hp where
  next : Nat
  tr : Tr Ob

def Hp.get (A : Hp) (i : Nat) : Option Ob := A.tr.get i
def Hp.set (A : Hp) (i : Nat) (o : Option Ob) : Hp := { A with tr := A.tr.upd o (i + 1) i }
def Hp.push (A : Hp) (o : Ob) : Hp := { next := A.next + 1, tr := A.tr.upd (some o) (A.next + 1) A.next }

@[simp] theorem Hp.next_set (A : Hp) (i : Nat) (o : Option Ob) : (A.set i o).next = A.next := rfl
@[simp] theorem Hp.next_push (A : Hp) (o : Ob) : (A.push o).next = A.next + 1 := rfl
theorem Hp.get_set (A : Hp) (i : Nat) (o : Option Ob) (j : Nat) : (A.set i o).get j = if j = i then o else A.get j :=
  Tr.get_upd o (i + 1) A.tr i j (by omega)
theorem Hp.get_push (A : Hp) (o : Ob) (j : Nat) : (A.push o).get j = if j = A.next then some o else A.get j :=
  Tr.get_upd (some o) (A.next + 1) A.tr A.next j (by omega)
@[simp] theorem Hp.get_set_same (A : Hp) (i : Nat) (o : Option Ob) : (A.set i o).get i = o := by rw [Hp.get_set, if_pos rfl]
theorem Hp.get_set_ne (A : Hp) {i j : Nat} (o : Option Ob) (h : j ≠ i) : (A.set i o).get j = A.get j := by rw [Hp.get_set, if_neg h]
@[simp] theorem Hp.get_push_same (A : Hp) (o : Ob) : (A.push o).get A.next = some o := by rw [Hp.get_push, if_pos rfl]
theorem Hp.get_push_ne (A : Hp) {j : Nat} (o : Ob) (h : j ≠ A.next) : (A.push o).get j = A.get j := by rw [Hp.get_push, if_neg h]

/-! ## values -/
/-- where an abstract object lies: its block, the first of its cells there, how many cells are its own (spare ones too) -/
structure Pl where
  blk : Nat
  off : Nat
  cap : Nat

abbrev Rn := Nat → Option Pl

inductive VR (ρ : Rn) : Value → Value → Prop where
  | bool (b : Bool) : VR ρ (.bool b) (.bool b)
  | int (k : IntKind) (n : Int) : VR ρ (.int k n) (.int k n)
  | float (k : FloatKind) (b : Nat) : VR ρ (.float k b) (.float k b)
  | complex (k : FloatKind) (a b : Nat) : VR ρ (.complex k a b) (.complex k a b)
  | string (s : ByteArray) : VR ρ (.string s) (.string s)
  | ptrNil : VR ρ (.pointer none) (.pointer none)
  | ptr {i : Nat} {p : Pl} (o : Nat) (h : ρ i = some p) : VR ρ (.pointer (some ⟨i, o, none⟩)) (.pointer (some ⟨p.blk, p.off + o, none⟩))
  | sliceNil : VR ρ (.slice none 0 0) (.slice none 0 0)
  /- An abstract slice bears its element's size in its address's 'spot'; its capacity is 2k where at least k is known, 2k+1 where k is the capacity itself. -/
  | sliceL {i : Nat} {p : Pl} (o o' s n k k' : Nat) (h : ρ i = some p) (hn : n ≤ k) (hk : k ≤ k') (hc : o + k' * s ≤ p.cap) (hm : k' ≤ maxLen) (ho : o' = p.off + o ∨ k' = 0) :
      VR ρ (.slice (some ⟨i, o, some s⟩) n (2 * k)) (.slice (some ⟨p.blk, o', none⟩) n k')
  | sliceE {i : Nat} {p : Pl} (o o' s n k : Nat) (h : ρ i = some p) (hn : n ≤ k) (hm : k ≤ maxLen) (ho : o' = p.off + o ∨ k = 0) :
      VR ρ (.slice (some ⟨i, o, some s⟩) n (2 * k + 1)) (.slice (some ⟨p.blk, o', none⟩) n k)
  /- an empty slice of whatever address -/
  | sliceZ (a : Addr) : VR ρ (.slice none 0 1) (.slice (some a) 0 0)
  | mapNil : VR ρ (.map none) (.map none)
  | map {i : Nat} {p : Pl} (h : ρ i = some p) : VR ρ (.map (some i)) (.map (some p.blk))
  | func (f : FuncId) (as bs cs ds : Array Value) (h1 : as.size = bs.size) (h2 : ∀ (j : Nat) u v, as[j]? = some u → bs[j]? = some v → VR ρ u v)
      (h3 : cs.size = ds.size) (h4 : ∀ (j : Nat) u v, cs[j]? = some u → ds[j]? = some v → VR ρ u v) : VR ρ (.func (.func f) as cs) (.func (.func f) bs ds)
  | nilFunc : VR ρ .nilFunc .nilFunc
  | iface (t : TypeId) (u v : Value) (h : VR ρ u v) : VR ρ (.iface t u) (.iface t v)
  | nilIface : VR ρ .nilIface .nilIface
  | agg (as bs : Array Value) (h1 : as.size = bs.size) (h2 : ∀ (j : Nat) u v, as[j]? = some u → bs[j]? = some v → VR ρ u v) : VR ρ (.agg as) (.agg bs)
  | tuple (as bs : Array Value) (h1 : as.size = bs.size) (h2 : ∀ (j : Nat) u v, as[j]? = some u → bs[j]? = some v → VR ρ u v) : VR ρ (.tuple as) (.tuple bs)

/-- ρ' knows all that ρ knows -/
def Rn.le (ρ ρ' : Rn) : Prop := ∀ i p, ρ i = some p → ρ' i = some p
theorem Rn.le_refl (ρ : Rn) : ρ.le ρ := fun _ _ h => h
theorem Rn.le_trans {a b c : Rn} (h : a.le b) (g : b.le c) : a.le c := fun i p x => g i p (h i p x)

theorem VR.le {ρ ρ' : Rn} (h : ρ.le ρ') {u v : Value} (r : VR ρ u v) : VR ρ' u v := by
  induction r with
  | bool b => exact .bool b
  | int k n => exact .int k n
  | float k b => exact .float k b
  | complex k a b => exact .complex k a b
  | string s => exact .string s
  | ptrNil => exact .ptrNil
  | ptr o hi => exact .ptr o (h _ _ hi)
  | sliceNil => exact .sliceNil
  | sliceL o o' s n k k' hi a b c d e => exact .sliceL o o' s n k k' (h _ _ hi) a b c d e
  | sliceE o o' s n k hi a b c => exact .sliceE o o' s n k (h _ _ hi) a b c
  | sliceZ a => exact .sliceZ a
  | mapNil => exact .mapNil
  | map hi => exact .map (h _ _ hi)
  | func f as bs cs ds h1 _ h3 _ ih1 ih2 => exact .func f as bs cs ds h1 ih1 h3 ih2
  | nilFunc => exact .nilFunc
  | iface t u v _ ih => exact .iface t u v ih
  | nilIface => exact .nilIface
  | agg as bs h1 _ ih => exact .agg as bs h1 ih
  | tuple as bs h1 _ ih => exact .tuple as bs h1 ih

/-- one cell's value -/
theorem VR.oneCell {ρ : Rn} {u v : Value} (r : VR ρ u v) : v.oneCell' = u.oneCell' := by cases r <;> rfl

end Go.Dn
end

section
namespace Go.Dn

/-! ## the relation -/
/-- block b is one of the abstract heap's own -/
def Owned (A : Hp) (ρ : Rn) (b : Nat) : Prop := ∃ i o p, A.get i = some o ∧ o.md = .own ∧ ρ i = some p ∧ p.blk = b

inductive ObR (P : Program) (ρ : Rn) (w : World) (p : Pl) : Ob → Prop where
  | arr (T : TypeId) (cs : List Value) (m : Md) (C : Array Value) (T' : TypeId) (fz : Nat × Nat)
      (hb : w.heap[p.blk]? = some (.cells C T' fz)) (hT : m ≠ .sh → T' = T ∧ (∀ j, j < C.size → (fz.1 ≤ j && j < fz.2) = false) ∧ p.off + p.cap ≤ C.size ∧ (fz = (0, 0) ∨ (P.underlying T = some (.int .u8) ∧ fz.1 < fz.2)))
      (hl : cs.length ≤ p.cap) (hc : ∀ (j : Nat) u, cs[j]? = some u → u.oneCell' = true ∧ ∃ v, C[p.off + j]? = some v ∧ VR ρ u v) : ObR P ρ w p (.arr T cs m)
  | map (es : List (Value × Value)) (m : Md) (E : Array MapEntry) (ck : Nat)
      (hb : w.heap[p.blk]? = some (.map E ck)) (hl : E.size = es.length)
      (hc : ∀ (j : Nat) (x : Value × Value), es[j]? = some x → ∃ e : MapEntry, E[j]? = some e ∧ VR ρ x.1 e.key ∧ VR ρ x.2 e.val) : ObR P ρ w p (.map es m)
  | abs (k : Nat) (x : Dat) (hb : p.blk < w.heap.size) : ObR P ρ w p (.abs k x)

structure Rel (P : Program) (ρ : Rn) (A : Hp) (w : World) : Prop where
  obj : ∀ i o, A.get i = some o → ∃ p, ρ i = some p ∧ ObR P ρ w p o
  apart : ∀ i j o o' p p', A.get i = some o → A.get j = some o' → i ≠ j → ρ i = some p → ρ j = some p' →
    ((o.md = .own ∨ o'.md = .own) ∨ (o.md = .ro ∧ o'.md = .ro)) → p.blk ≠ p'.blk
  fresh : ∀ i, A.next ≤ i → A.get i = none ∧ ρ i = none
  glob : ∀ g, g < P.globals.size → ∃ p, ρ g = some p ∧ p.blk = g ∧ p.off = 0

/-- what a step may have done -/
structure Ext (A : Hp) (ρ : Rn) (w : World) (A' : Hp) (ρ' : Rn) (w' : World) : Prop where
  le : ρ.le ρ'
  size : w.heap.size ≤ w'.heap.size
  keep : ∀ b, b < w.heap.size → ¬ Owned A ρ b → w'.heap[b]? = w.heap[b]?
  own : ∀ b, Owned A' ρ' b → Owned A ρ b ∨ w.heap.size ≤ b
  next : A.next ≤ A'.next
  old : ∀ i, i < A.next → ρ' i = ρ i
  nown : ∀ i o, A'.get i = some o → o.md ≠ .own → A.get i = some o
  os : w'.os = w.os
  output : w'.output = w.output
  tape : w'.tape = w.tape

theorem Ext.refl (A : Hp) (ρ : Rn) (w : World) : Ext A ρ w A ρ w :=
  ⟨ρ.le_refl, Nat.le_refl _, fun _ _ _ => rfl, fun _ h => .inl h, Nat.le_refl _, fun _ _ => rfl, fun _ _ h _ => h, rfl, rfl, rfl⟩

theorem Ext.trans {A ρ w A1 ρ1 w1 A2 ρ2 w2} (h : Ext A ρ w A1 ρ1 w1) (g : Ext A1 ρ1 w1 A2 ρ2 w2) : Ext A ρ w A2 ρ2 w2 where
  le := Rn.le_trans h.le g.le
  size := Nat.le_trans h.size g.size
  keep b hb hn := by
    rw [g.keep b (Nat.lt_of_lt_of_le hb h.size) (fun ho => (h.own b ho).elim hn (fun hh => by omega)), h.keep b hb hn]
  own b ho := by
    rcases g.own b ho with h1 | h1
    · exact h.own b h1
    · exact .inr (Nat.le_trans h.size h1)
  next := Nat.le_trans h.next g.next
  old i hi := (g.old i (Nat.lt_of_lt_of_le hi h.next)).trans (h.old i hi)
  nown i o hi hm := h.nown i o (g.nown i o hi hm) hm
  os := g.os.trans h.os
  output := g.output.trans h.output
  tape := g.tape.trans h.tape

theorem ObR.lt {P : Program} {ρ : Rn} {w : World} {p : Pl} {o : Ob} (h : ObR P ρ w p o) : p.blk < w.heap.size := by
  cases h with
  | arr _ _ _ _ _ _ hb => exact (Array.getElem?_eq_some_iff.1 hb).1
  | map _ _ _ _ hb => exact (Array.getElem?_eq_some_iff.1 hb).1
  | abs _ _ hb => exact hb

theorem ObR.keep {P : Program} {ρ ρ' : Rn} {w w' : World} {p : Pl} {o : Ob} (h : ObR P ρ w p o) (hle : ρ.le ρ') (hb : w'.heap[p.blk]? = w.heap[p.blk]?) : ObR P ρ' w' p o := by
  cases h with
  | arr T cs m C T' fz h1 h2 h3 h4 =>
    exact .arr T cs m C T' fz (hb.trans h1) h2 h3 fun j u hu => let ⟨a, v, b, c⟩ := h4 j u hu; ⟨a, v, b, c.le hle⟩
  | map es m E ck h1 h2 h3 =>
    exact .map es m E ck (hb.trans h1) h2 fun j x hx => let ⟨e, a, b, c⟩ := h3 j x hx; ⟨e, a, b.le hle, c.le hle⟩
  | abs k x h1 =>
    refine .abs k x ?_
    rw [Array.getElem?_eq_getElem h1] at hb
    exact (Array.getElem?_eq_some_iff.1 hb).1

/-- a draw of the tape changes nothing -/
theorem Rel.drew {P ρ A w} (h : Rel P ρ A w) : Rel P ρ A w.drew := by
  refine ⟨fun i o hi => ?_, h.apart, h.fresh, h.glob⟩
  obtain ⟨p, hp, ho⟩ := h.obj i o hi
  exact ⟨p, hp, ho.keep ρ.le_refl rfl⟩
theorem Ext.drew {A ρ w} : Ext A ρ w A ρ w.drew :=
  ⟨ρ.le_refl, Nat.le_refl _, fun _ _ _ => rfl, fun _ h => .inl h, Nat.le_refl _, fun _ _ => rfl, fun _ _ h _ => h, rfl, rfl, rfl⟩

theorem World.heap_old (w : World) (o : Obj) {i : Nat} (h : i < w.heap.size) : (w.alloc o).heap[i]? = w.heap[i]? := by
  show (w.heap.push o)[i]? = w.heap[i]?
  rw [Array.getElem?_push, if_neg (Nat.ne_of_lt h)]

/-! ## a new object -/
def Rn.add (ρ : Rn) (i : Nat) (p : Pl) : Rn := fun j => if j = i then some p else ρ j
theorem Rn.add_same (ρ : Rn) (i : Nat) (p : Pl) : ρ.add i p i = some p := if_pos rfl
theorem Rn.le_add {ρ : Rn} {i : Nat} (p : Pl) (h : ρ i = none) : ρ.le (ρ.add i p) := by
  intro j q hj
  have : j ≠ i := by rintro rfl; rw [h] at hj; cases hj
  simp only [Rn.add, if_neg this, hj]

/-- A new block, a new object of the abstract heap: own, at its head. -/
theorem Rel.push {P ρ A w} (h : Rel P ρ A w) (o : Ob) (O : Obj) (p : Pl) (hp : p.blk = w.heap.size)
    (ho : ObR P (ρ.add A.next p) (w.alloc O) p o) (hmd : o.md = .own) :
    Rel P (ρ.add A.next p) (A.push o) (w.alloc O) ∧ Ext A ρ w (A.push o) (ρ.add A.next p) (w.alloc O) := by
  have hn := h.fresh A.next (Nat.le_refl _)
  have hle : ρ.le (ρ.add A.next p) := Rn.le_add p hn.2
  have hold : ∀ i q o', A.get i = some o' → ρ i = some q → q.blk < w.heap.size := by
    intro i q o' hi hq
    obtain ⟨p', hp', hob⟩ := h.obj i o' hi
    rw [hq] at hp'; cases hp'
    exact hob.lt
  have hne : ∀ i o', A.get i = some o' → i ≠ A.next := by
    rintro i o' hi rfl; rw [hn.1] at hi; cases hi
  constructor
  · constructor
    · intro i o' hi
      by_cases e : i = A.next
      · subst e
        rw [Hp.get_push_same] at hi; cases hi
        exact ⟨p, Rn.add_same _ _ _, ho⟩
      · rw [Hp.get_push_ne _ _ e] at hi
        obtain ⟨q, hq, hob⟩ := h.obj i o' hi
        exact ⟨q, hle _ _ hq, hob.keep hle (World.heap_old w O hob.lt)⟩
    · intro i j o1 o2 p1 p2 hi hj hij hp1 hp2 hm
      by_cases e1 : i = A.next
      · have e2 : j ≠ A.next := by rintro rfl; exact hij e1
        rw [Hp.get_push_ne _ _ e2] at hj
        obtain ⟨q, hq, hob⟩ := h.obj j o2 hj
        rw [hle _ _ hq] at hp2; cases hp2
        subst e1
        rw [Rn.add_same] at hp1; cases hp1
        have := hob.lt
        omega
      · rw [Hp.get_push_ne _ _ e1] at hi
        obtain ⟨q, hq, hob⟩ := h.obj i o1 hi
        have hp1' := hle _ _ hq
        rw [hp1'] at hp1; cases hp1
        by_cases e2 : j = A.next
        · subst e2
          rw [Rn.add_same] at hp2; cases hp2
          have := hob.lt
          omega
        · rw [Hp.get_push_ne _ _ e2] at hj
          obtain ⟨q2, hq2, hob2⟩ := h.obj j o2 hj
          rw [hle _ _ hq2] at hp2; cases hp2
          exact h.apart i j o1 o2 _ _ hi hj hij hq hq2 hm
    · intro i hi
      simp only [Hp.next_push] at hi
      have e : i ≠ A.next := by omega
      rw [Hp.get_push_ne _ _ e]
      have := h.fresh i (by omega)
      exact ⟨this.1, by simp only [Rn.add, if_neg e, this.2]⟩
    · intro g hg
      obtain ⟨q, h1, h2, h3⟩ := h.glob g hg
      exact ⟨q, hle _ _ h1, h2, h3⟩
  · refine ⟨hle, by simp, fun b hb _ => World.heap_old w O hb, ?_, by simp, fun i hi => by simp only [Rn.add]; rw [if_neg (by omega)], fun i o' hi hm => by
      by_cases e : i = A.next
      · subst e; rw [Hp.get_push_same] at hi; cases hi; exact absurd hmd hm
      · rwa [Hp.get_push_ne _ _ e] at hi, rfl, rfl, rfl⟩
    rintro b ⟨i, o', q, hi, hm, hq, rfl⟩
    by_cases e : i = A.next
    · subst e
      rw [Rn.add_same] at hq; cases hq
      exact .inr (by omega)
    · rw [Hp.get_push_ne _ _ e] at hi
      obtain ⟨q2, hq2, hob⟩ := h.obj i o' hi
      rw [hle _ _ hq2] at hq; cases hq
      exact .inl ⟨i, o', _, hi, hm, hq2, rfl⟩

/-- An own object is changed where it lies. -/
theorem Rel.change {P ρ A w} (h : Rel P ρ A w) {i : Nat} {o : Ob} (o' : Ob) {p : Pl} (hi : A.get i = some o) (hp : ρ i = some p) (hm : o.md = .own) (hm' : o'.md = .own)
    (w' : World) (hs : w'.heap.size = w.heap.size) (hk : ∀ b, b ≠ p.blk → w'.heap[b]? = w.heap[b]?) (ho : ObR P ρ w' p o')
    (h1 : w'.os = w.os) (h2 : w'.output = w.output) (h3 : w'.tape = w.tape) :
    Rel P ρ (A.set i (some o')) w' ∧ Ext A ρ w (A.set i (some o')) ρ w' := by
  constructor
  · constructor
    · intro j oj hj
      by_cases e : j = i
      · subst e
        rw [Hp.get_set_same] at hj; cases hj
        exact ⟨p, hp, ho⟩
      · rw [Hp.get_set_ne _ _ e] at hj
        obtain ⟨q, hq, hob⟩ := h.obj j oj hj
        exact ⟨q, hq, hob.keep ρ.le_refl (hk _ (h.apart j i oj o q p hj hi e hq hp (.inl (.inr hm))))⟩
    · intro a b oa ob pa pb ha hb hab hpa hpb hmm
      have ha' : ∃ o1, A.get a = some o1 ∧ o1.md = oa.md := by
        by_cases e : a = i
        · subst e; rw [Hp.get_set_same] at ha; cases ha; exact ⟨o, hi, hm.trans hm'.symm⟩
        · rw [Hp.get_set_ne _ _ e] at ha; exact ⟨oa, ha, rfl⟩
      have hb' : ∃ o1, A.get b = some o1 ∧ o1.md = ob.md := by
        by_cases e : b = i
        · subst e; rw [Hp.get_set_same] at hb; cases hb; exact ⟨o, hi, hm.trans hm'.symm⟩
        · rw [Hp.get_set_ne _ _ e] at hb; exact ⟨ob, hb, rfl⟩
      obtain ⟨o1, g1, m1⟩ := ha'
      obtain ⟨o2, g2, m2⟩ := hb'
      exact h.apart a b o1 o2 pa pb g1 g2 hab hpa hpb (by rw [m1, m2]; exact hmm)
    · intro j hj
      have := h.fresh j hj
      have e : j ≠ i := by rintro rfl; rw [this.1] at hi; cases hi
      rw [Hp.get_set_ne _ _ e]; exact this
    · exact h.glob
  · refine ⟨ρ.le_refl, by omega, ?_, ?_, Nat.le_refl _, fun _ _ => rfl, fun j x hj hx => by
      by_cases e : j = i
      · subst e; rw [Hp.get_set_same] at hj; cases hj; exact absurd hm' hx
      · rwa [Hp.get_set_ne _ _ e] at hj, h1, h2, h3⟩
    · intro b _ hn
      exact hk b (fun e => hn ⟨i, o, p, hi, hm, hp, e.symm⟩)
    · rintro b ⟨j, oj, q, hj, hmj, hq, rfl⟩
      by_cases e : j = i
      · subst e
        rw [hp] at hq; cases hq
        exact .inl ⟨j, o, _, hi, hm, hp, rfl⟩
      · rw [Hp.get_set_ne _ _ e] at hj
        exact .inl ⟨j, oj, q, hj, hmj, hq, rfl⟩

/-- An object is forgotten. -/
theorem Rel.drop {P ρ A w} (h : Rel P ρ A w) (i : Nat) : Rel P ρ (A.set i none) w ∧ Ext A ρ w (A.set i none) ρ w := by
  have key : ∀ j o, (A.set i none).get j = some o → A.get j = some o := by
    intro j o hj
    by_cases e : j = i
    · subst e; rw [Hp.get_set_same] at hj; cases hj
    · rwa [Hp.get_set_ne _ _ e] at hj
  constructor
  · refine ⟨fun j o hj => h.obj j o (key j o hj), fun a b oa ob pa pb ha hb => h.apart a b oa ob pa pb (key _ _ ha) (key _ _ hb), fun j hj => ?_, h.glob⟩
    have := h.fresh j hj
    refine ⟨?_, this.2⟩
    by_cases e : j = i
    · subst e; rw [Hp.get_set_same]
    · rw [Hp.get_set_ne _ _ e]; exact this.1
  · exact ⟨ρ.le_refl, Nat.le_refl _, fun _ _ _ => rfl, fun b ⟨j, oj, q, hj, hmj, hq, e⟩ => .inl ⟨j, oj, q, key _ _ hj, hmj, hq, e⟩, Nat.le_refl _, fun _ _ => rfl, fun j x hj _ => key j x hj, rfl, rfl, rfl⟩

end Go.Dn
end

section
namespace Go.Dn

/-! ## abstract objects: each stands for a heap of its own -/
/-- what abstract objects mean: kind, content, a heap of its own and the object's number there; and the constants, which stand in every heap under the same numbers -/
class Reps where
  rep : Nat → Dat → Hp → Nat → Prop
  C : Hp
  ρC : Rn
  Cro : ∀ i o, C.get i = some o → i < C.next ∧ o.md = .ro
  Cpl : ∀ i, C.next ≤ i → ρC i = none

/-- a constant's block -/
def ConB [Reps] (b : Nat) : Prop := ∃ i p, i < Reps.C.next ∧ Reps.ρC i = some p ∧ p.blk = b

/-- the constants in the world -/
structure ConW [Reps] (P : Program) (w : World) : Prop where
  obj : ∀ i o, Reps.C.get i = some o → ∃ p, Reps.ρC i = some p ∧ ObR P Reps.ρC w p o
  cc : ∀ i j o o' p q, Reps.C.get i = some o → Reps.C.get j = some o' → i ≠ j → Reps.ρC i = some p → Reps.ρC j = some q → p.blk ≠ q.blk
  gl : ∀ j, j < P.globals.size → ∃ p, Reps.ρC j = some p ∧ p.blk = j ∧ p.off = 0
  fz : ∀ i p, P.globals.size ≤ i → i < Reps.C.next → Reps.ρC i = some p → ∃ c t, w.heap[p.blk]? = some (.cells c t (0, 0))
  inj : ∀ i j p q, P.globals.size ≤ i → P.globals.size ≤ j → i ≠ j → Reps.ρC i = some p → Reps.ρC j = some q → p.blk ≠ q.blk ∨ p.off ≠ q.off

theorem ConW.keep [Reps] {P : Program} {w w' : World} (h : ConW P w) (hk : ∀ b, ConB b → w'.heap[b]? = w.heap[b]?) : ConW P w' := by
  refine ⟨fun i o hi => ?_, h.cc, h.gl, fun i p h1 h2 h3 => by rw [hk _ ⟨i, p, h2, h3, rfl⟩]; exact h.fz i p h1 h2 h3, h.inj⟩
  obtain ⟨p, hp, ho⟩ := h.obj i o hi
  exact ⟨p, hp, ho.keep (Rn.le_refl _) (hk _ ⟨i, p, (Reps.Cro i o hi).1, hp, rfl⟩)⟩

/-- where all lies; of each abstract object the blocks that it owns (S) and those that it only reads (F) -/
structure Gh where
  ρ : Rn
  S : Nat → Nat → Prop
  F : Nat → Nat → Prop

/-- block b belongs to object i -/
inductive OwnAt (A : Hp) (g : Gh) (i b : Nat) : Prop where
  | vis (o : Ob) (p : Pl) (h1 : A.get i = some o) (h2 : o.md = .own) (h3 : g.ρ i = some p) (h4 : p.blk = b)
  | abs (k : Nat) (x : Dat) (h1 : A.get i = some (.abs k x)) (h2 : g.S i b)
/-- a constant -/
inductive ConAt [Reps] (A : Hp) (g : Gh) (i b : Nat) : Prop where
  | vis (o : Ob) (p : Pl) (h1 : A.get i = some o) (h2 : o.md = .ro) (h5 : i < Reps.C.next) (h3 : g.ρ i = some p) (h4 : p.blk = b)
/-- object i reads block b, and may hand it on -/
inductive SeenAt [Reps] (A : Hp) (g : Gh) (i b : Nat) : Prop where
  | con (h : ConAt A g i b)
  | vis (o : Ob) (p : Pl) (h1 : A.get i = some o) (h2 : o.md = .sh) (h5 : o.isAbs = false) (h3 : g.ρ i = some p) (h4 : p.blk = b)
  | abs (k : Nat) (x : Dat) (h1 : A.get i = some (.abs k x)) (h2 : g.F i b)
inductive RoAt [Reps] (A : Hp) (g : Gh) (i b : Nat) : Prop where
  | vis (o : Ob) (p : Pl) (h1 : A.get i = some o) (h2 : o.md = .ro) (h5 : Reps.C.next ≤ i) (h3 : g.ρ i = some p) (h4 : p.blk = b)

def OwnX (A : Hp) (g : Gh) (b : Nat) : Prop := ∃ i, OwnAt A g i b
def SeenX [Reps] (A : Hp) (g : Gh) (b : Nat) : Prop := ∃ i, SeenAt A g i b
def RoX [Reps] (A : Hp) (g : Gh) (b : Nat) : Prop := ∃ i, RoAt A g i b

/-- whose is whose -/
structure Sep [Reps] (A : Hp) (g : Gh) : Prop where
  oo : ∀ i j b, OwnAt A g i b → OwnAt A g j b → i = j
  os : ∀ i j b, OwnAt A g i b → SeenAt A g j b → False
  ow : ∀ i j b, OwnAt A g i b → RoAt A g j b → False
  rr : ∀ i j b, RoAt A g i b → RoAt A g j b → i = j
  rc : ∀ i j b, RoAt A g i b → ConAt A g j b → False
  cc : ∀ i j b, ConAt A g i b → ConAt A g j b → i = j

/-- how a heap stands to the constants -/
structure Con [Reps] (P : Program) (g : Gh) (A : Hp) (w : World) : Prop where
  loc : ∀ i, i < Reps.C.next → g.ρ i = Reps.ρC i
  next : Reps.C.next ≤ A.next
  ro : ∀ i o, i < Reps.C.next → A.get i = some o → o.md = .ro
  own : ∀ i p, i < Reps.C.next → Reps.ρC i = some p → p.blk < w.heap.size ∧ ¬ OwnX A g p.blk
  cw : ConW P w

/-- an abstract object in the world -/
inductive AbsR [Reps] (P : Program) (w : World) : Pl → Nat → Dat → (Nat → Prop) → (Nat → Prop) → Prop where
  | mk (p : Pl) (k : Nat) (x : Dat) (S F : Nat → Prop) (B : Hp) (g : Gh) (r : Nat) (pl : Nat → Pl)
      (rel : Rel P g.ρ B w) (hpl : ∀ i k' x', B.get i = some (.abs k' x') → g.ρ i = some (pl i))
      (abs : ∀ i k' x', B.get i = some (.abs k' x') → AbsR P w (pl i) k' x' (g.S i) (g.F i))
      (sep : Sep B g) (con : Con P g B w) (hC : ∀ i o, Reps.C.get i = some o → B.get i = some o) (rep : Reps.rep k x B r) (root : g.ρ r = some p) (own : S p.blk)
      (hS : ∀ b, S b ↔ OwnX B g b) (hF : ∀ b, F b ↔ SeenX B g b ∨ RoX B g b ∨ ConB b) : AbsR P w p k x S F

structure RelX [Reps] (P : Program) (g : Gh) (A : Hp) (w : World) : Prop where
  rel : Rel P g.ρ A w
  abs : ∀ i k x, A.get i = some (.abs k x) → ∃ p, g.ρ i = some p ∧ AbsR P w p k x (g.S i) (g.F i)
  sep : Sep A g
  con : Con P g A w

structure ExtX [Reps] (A : Hp) (g : Gh) (w : World) (A' : Hp) (g' : Gh) (w' : World) : Prop where
  le : g.ρ.le g'.ρ
  size : w.heap.size ≤ w'.heap.size
  keep : ∀ b, b < w.heap.size → ¬ OwnX A g b → w'.heap[b]? = w.heap[b]?
  own : ∀ b, OwnX A' g' b → OwnX A g b ∨ w.heap.size ≤ b
  next : A.next ≤ A'.next
  old : ∀ i, i < A.next → g'.ρ i = g.ρ i
  seen : ∀ b, SeenX A' g' b → SeenX A g b ∨ OwnX A g b ∨ w.heap.size ≤ b ∨ ConB b
  ro : ∀ i o, A'.get i = some o → o.md = .ro → A.get i = some o
  os : w'.os = w.os
  output : w'.output = w.output
  tape : w'.tape = w.tape

theorem Con.size [Reps] {P : Program} {g : Gh} {A : Hp} {w w' : World} (h : Con P g A w) (hs : w.heap.size ≤ w'.heap.size) (hk : ∀ b, ConB b → w'.heap[b]? = w.heap[b]?) : Con P g A w' :=
  ⟨h.loc, h.next, h.ro, fun i p hi hp => let ⟨a, b⟩ := h.own i p hi hp; ⟨by omega, b⟩, h.cw.keep hk⟩

theorem ExtX.refl [Reps] (A : Hp) (g : Gh) (w : World) : ExtX A g w A g w :=
  ⟨g.ρ.le_refl, Nat.le_refl _, fun _ _ _ => rfl, fun _ h => .inl h, Nat.le_refl _, fun _ _ => rfl, fun _ h => .inl h, fun _ _ h _ => h, rfl, rfl, rfl⟩

theorem ExtX.trans [Reps] {A g w A1 g1 w1 A2 g2 w2} (h : ExtX A g w A1 g1 w1) (k : ExtX A1 g1 w1 A2 g2 w2) : ExtX A g w A2 g2 w2 where
  le := Rn.le_trans h.le k.le
  size := Nat.le_trans h.size k.size
  keep b hb hn := by
    rw [k.keep b (Nat.lt_of_lt_of_le hb h.size) (fun ho => (h.own b ho).elim hn (fun hh => by omega)), h.keep b hb hn]
  own b ho := by
    rcases k.own b ho with h1 | h1
    · exact h.own b h1
    · exact .inr (Nat.le_trans h.size h1)
  next := Nat.le_trans h.next k.next
  old i hi := (k.old i (Nat.lt_of_lt_of_le hi h.next)).trans (h.old i hi)
  seen b hb := by
    rcases k.seen b hb with h1 | h1 | h1 | h1
    · exact h.seen b h1
    · rcases h.own b h1 with h2 | h2
      · exact .inr (.inl h2)
      · exact .inr (.inr (.inl h2))
    · exact .inr (.inr (.inl (Nat.le_trans h.size h1)))
    · exact .inr (.inr (.inr h1))
  ro i o hi hm := h.ro i o (k.ro i o hi hm) hm
  os := k.os.trans h.os
  output := k.output.trans h.output
  tape := k.tape.trans h.tape

theorem Ob.abs_of {o : Ob} (h : o.isAbs = true) : ∃ k x, o = .abs k x := by
  cases o with
  | abs k x => exact ⟨k, x, rfl⟩
  | _ => cases h

theorem own_abs {A : Hp} {g : Gh} {i b : Nat} {k : Nat} {x : Dat} (h : OwnAt A g i b) (hi : A.get i = some (.abs k x)) : g.S i b := by
  cases h with
  | vis o p h1 h2 h3 h4 => rw [hi] at h1; cases h1; cases h2
  | abs k x h1 h2 => exact h2
theorem owned_at {A : Hp} {g : Gh} {b : Nat} (h : Owned A g.ρ b) : OwnX A g b := by
  obtain ⟨i, o, p, h1, h2, h3, h4⟩ := h
  exact ⟨i, .vis o p h1 h2 h3 h4⟩

section
variable [Reps] {P : Program}

theorem AbsR.lt {w : World} {p : Pl} {k : Nat} {x : Dat} {S F : Nat → Prop} (h : AbsR P w p k x S F) : ∀ b, S b ∨ F b → b < w.heap.size := by
  induction h with
  | mk p k x S F B g r pl rel hpl abs sep con hC rep root own hS hF ih =>
    intro b hb
    rcases hb with hb | hb
    · obtain ⟨i, hi⟩ := (hS b).1 hb
      cases hi with
      | vis o q h1 h2 h3 h4 =>
        obtain ⟨q', hq, ho⟩ := rel.obj i o h1
        rw [h3] at hq; cases hq
        rw [← h4]; exact ho.lt
      | abs k' x' h1 h2 => exact ih i k' x' h1 b (.inl h2)
    · rcases (hF b).1 hb with ⟨i, hi⟩ | ⟨i, hi⟩ | ⟨i, q, h1, h2, h3⟩
      · cases hi with
        | vis o q h1 h2 h5 h3 h4 =>
          obtain ⟨q', hq, ho⟩ := rel.obj i o h1
          rw [h3] at hq; cases hq
          rw [← h4]; exact ho.lt
        | abs k' x' h1 h2 => exact ih i k' x' h1 b (.inr h2)
        | con hc =>
          cases hc with
          | vis o q h1 h2 h5 h3 h4 =>
            obtain ⟨q', hq, ho⟩ := rel.obj i o h1
            rw [h3] at hq; cases hq
            rw [← h4]; exact ho.lt
      · cases hi with
        | vis o q h1 h2 h5 h3 h4 =>
          obtain ⟨q', hq, ho⟩ := rel.obj i o h1
          rw [h3] at hq; cases hq
          rw [← h4]; exact ho.lt
      · rw [← h3]; exact (con.own i q h1 h2).1

theorem AbsR.apart {w : World} {p : Pl} {k : Nat} {x : Dat} {S F : Nat → Prop} (h : AbsR P w p k x S F) : ∀ b, S b → ¬ F b := by
  cases h with
  | mk _ _ _ _ _ B g r pl rel hpl abs sep con hC rep root own hS hF =>
    intro b h1 h2
    obtain ⟨i, hi⟩ := (hS b).1 h1
    rcases (hF b).1 h2 with ⟨j, hj⟩ | ⟨j, hj⟩ | ⟨j, q, h1, h2, h3⟩
    · exact sep.os i j b hi hj
    · exact sep.ow i j b hi hj
    · exact (con.own j q h1 h2).2 (by rw [h3]; exact ⟨i, hi⟩)

theorem AbsR.root {w : World} {p : Pl} {k : Nat} {x : Dat} {S F : Nat → Prop} (h : AbsR P w p k x S F) : S p.blk := by
  cases h with
  | mk _ _ _ _ _ B g r pl rel hpl abs sep con hC rep root own hS hF => exact own

/-- the world is as before where the objects of a heap lie -/
theorem Rel.keepX {w w' : World} {g : Gh} {B : Hp} (rel : Rel P g.ρ B w) (hs : w.heap.size ≤ w'.heap.size) (hk : ∀ b, OwnX B g b ∨ SeenX B g b ∨ RoX B g b → w'.heap[b]? = w.heap[b]?) : Rel P g.ρ B w' := by
  refine ⟨fun i o hi => ?_, rel.apart, rel.fresh, rel.glob⟩
  obtain ⟨p, hp, ho⟩ := rel.obj i o hi
  refine ⟨p, hp, ?_⟩
  cases ha : o.isAbs with
  | true =>
    obtain ⟨k, x, rfl⟩ := Ob.abs_of ha
    exact .abs k x (Nat.lt_of_lt_of_le ho.lt hs)
  | false =>
    refine ho.keep g.ρ.le_refl (hk _ ?_)
    cases hm : o.md with
    | own => exact .inl ⟨i, .vis o p hi hm hp rfl⟩
    | sh => exact .inr (.inl ⟨i, .vis o p hi hm ha hp rfl⟩)
    | ro =>
      rcases Nat.lt_or_ge i Reps.C.next with hk | hk
      · exact .inr (.inl ⟨i, .con (.vis o p hi hm hk hp rfl)⟩)
      · exact .inr (.inr ⟨i, .vis o p hi hm hk hp rfl⟩)

theorem AbsR.keep {w w' : World} {p : Pl} {k : Nat} {x : Dat} {S F : Nat → Prop} (h : AbsR P w p k x S F) (hs : w.heap.size ≤ w'.heap.size)
    (hk : ∀ b, S b ∨ F b → w'.heap[b]? = w.heap[b]?) : AbsR P w' p k x S F := by
  induction h with
  | mk p k x S F B g r pl rel hpl abs sep con hC rep root own hS hF ih =>
    refine .mk p k x S F B g r pl (rel.keepX hs fun b hb => hk b ?_) hpl (fun i k' x' hi => ih i k' x' hi fun b hb => hk b ?_) sep (con.size hs fun b hb => hk b (.inr ((hF b).2 (.inr (.inr hb))))) hC rep root own hS hF
    · rcases hb with hb | hb | hb
      · exact .inl ((hS b).2 hb)
      · exact .inr ((hF b).2 (.inl hb))
      · exact .inr ((hF b).2 (.inr (.inl hb)))
    · rcases hb with hb | hb
      · exact .inl ((hS b).2 ⟨i, .abs k' x' hi hb⟩)
      · exact .inr ((hF b).2 (.inl ⟨i, .abs k' x' hi hb⟩))

/-- made of its parts -/
theorem RelX.of {g : Gh} {A : Hp} {w : World} (obj : ∀ i o, A.get i = some o → o.isAbs = false → ∃ p, g.ρ i = some p ∧ ObR P g.ρ w p o)
    (abs : ∀ i k x, A.get i = some (.abs k x) → ∃ p, g.ρ i = some p ∧ AbsR P w p k x (g.S i) (g.F i)) (sep : Sep A g) (con : Con P g A w)
    (fresh : ∀ i, A.next ≤ i → A.get i = none ∧ g.ρ i = none) (glob : ∀ j, j < P.globals.size → ∃ p, g.ρ j = some p ∧ p.blk = j ∧ p.off = 0) : RelX P g A w := by
  refine ⟨⟨fun i o hi => ?_, fun i j o o' p p' hi hj hij hp hp' hm e => ?_, fresh, glob⟩, abs, sep, con⟩
  · cases ha : o.isAbs with
    | false => exact obj i o hi ha
    | true =>
      obtain ⟨k, x, rfl⟩ := Ob.abs_of ha
      obtain ⟨p, hp, h⟩ := abs i k x hi
      exact ⟨p, hp, .abs k x (h.lt _ (.inl h.root))⟩
  · have key : ∀ i o p, A.get i = some o → g.ρ i = some p → o.md ≠ .own → RoAt A g i p.blk ∨ OwnAt A g i p.blk ∨ SeenAt A g i p.blk := by
      intro i o p hi hp hm
      cases ha : o.isAbs with
      | true =>
        obtain ⟨k, x, rfl⟩ := Ob.abs_of ha
        obtain ⟨q, hq, h⟩ := abs i k x hi
        rw [hp] at hq; cases hq
        exact .inr (.inl (.abs k x hi h.root))
      | false =>
        cases hm' : o.md with
        | own => exact absurd hm' hm
        | ro =>
          rcases Nat.lt_or_ge i Reps.C.next with hk | hk
          · exact .inr (.inr (.con (.vis o p hi hm' hk hp rfl)))
          · exact .inl (.vis o p hi hm' hk hp rfl)
        | sh => exact .inr (.inr (.vis o p hi hm' ha hp rfl))
    have key2 : ∀ i j o o' p p', A.get i = some o → A.get j = some o' → i ≠ j → g.ρ i = some p → g.ρ j = some p' → o.md = .own → p.blk = p'.blk → False := by
      intro i j o o' p p' hi hj hij hp hp' hm e
      have h1 : OwnAt A g i p'.blk := .vis o p hi hm hp e
      by_cases hm' : o'.md = .own
      · exact hij (sep.oo i j _ h1 (.vis o' p' hj hm' hp' rfl))
      · rcases key j o' p' hj hp' hm' with h2 | h2 | h2
        · exact sep.ow i j _ h1 h2
        · exact hij (sep.oo i j _ h1 h2)
        · exact sep.os i j _ h1 h2
    rcases hm with (hm | hm) | ⟨hm, hm'⟩
    · exact key2 i j o o' p p' hi hj hij hp hp' hm e
    · exact key2 j i o' o p' p hj hi (fun h => hij h.symm) hp' hp hm e.symm
    · rcases Nat.lt_or_ge i Reps.C.next with hk | hk
      · have c1 : ConAt A g i p'.blk := .vis o p hi hm hk hp e
        rcases Nat.lt_or_ge j Reps.C.next with hk' | hk'
        · exact hij (sep.cc i j p'.blk c1 (.vis o' p' hj hm' hk' hp' rfl))
        · exact sep.rc j i p'.blk (.vis o' p' hj hm' hk' hp' rfl) c1
      · rcases Nat.lt_or_ge j Reps.C.next with hk' | hk'
        · exact sep.rc i j p'.blk (.vis o p hi hm hk hp e) (.vis o' p' hj hm' hk' hp' rfl)
        · exact hij (sep.rr i j p'.blk (.vis o p hi hm hk hp e) (.vis o' p' hj hm' hk' hp' rfl))

theorem OwnAt.lt {g : Gh} {A : Hp} {w : World} (h : RelX P g A w) {i b : Nat} (k : OwnAt A g i b) : b < w.heap.size := by
  cases k with
  | vis o p h1 h2 h3 h4 =>
    obtain ⟨q, hq, ho⟩ := h.rel.obj i o h1
    rw [h3] at hq; cases hq
    rw [← h4]; exact ho.lt
  | abs k x h1 h2 =>
    obtain ⟨p, _, hp⟩ := h.abs i k x h1
    exact hp.lt b (.inl h2)
theorem ConAt.lt {g : Gh} {A : Hp} {w : World} (h : RelX P g A w) {i b : Nat} (k : ConAt A g i b) : b < w.heap.size := by
  cases k with
  | vis o p h1 h2 h5 h3 h4 =>
    obtain ⟨q, hq, ho⟩ := h.rel.obj i o h1
    rw [h3] at hq; cases hq
    rw [← h4]; exact ho.lt
theorem SeenAt.lt {g : Gh} {A : Hp} {w : World} (h : RelX P g A w) {i b : Nat} (k : SeenAt A g i b) : b < w.heap.size := by
  cases k with
  | vis o p h1 h2 h5 h3 h4 =>
    obtain ⟨q, hq, ho⟩ := h.rel.obj i o h1
    rw [h3] at hq; cases hq
    rw [← h4]; exact ho.lt
  | abs k x h1 h2 =>
    obtain ⟨p, _, hp⟩ := h.abs i k x h1
    exact hp.lt b (.inr h2)
  | con hc => exact hc.lt h
theorem RoAt.lt {g : Gh} {A : Hp} {w : World} (h : RelX P g A w) {i b : Nat} (k : RoAt A g i b) : b < w.heap.size := by
  cases k with
  | vis o p h1 h2 h5 h3 h4 =>
    obtain ⟨q, hq, ho⟩ := h.rel.obj i o h1
    rw [h3] at hq; cases hq
    rw [← h4]; exact ho.lt

theorem own_ro {A : Hp} {g : Gh} {i b b' : Nat} (h : OwnAt A g i b) (h' : RoAt A g i b') : False := by
  cases h' with
  | vis o' p' k1 k2 k5 k3 k4 =>
    cases h with
    | vis o p h1 h2 h3 h4 => rw [h1] at k1; cases k1; rw [h2] at k2; cases k2
    | abs k x h1 h2 => rw [h1] at k1; cases k1; cases k2

theorem own_con {A : Hp} {g : Gh} {i b b' : Nat} (h : OwnAt A g i b) (h' : ConAt A g i b') : False := by
  cases h' with
  | vis o' p' k1 k2 k5 k3 k4 =>
    cases h with
    | vis o p h1 h2 h3 h4 => rw [h1] at k1; cases k1; rw [h2] at k2; cases k2
    | abs k x h1 h2 => rw [h1] at k1; cases k1; cases k2

/-- what is known of one heap, is known of the other -/
theorem Sep.mono {A A' : Hp} {g g' : Gh} (h : Sep A g) (ho : ∀ i b, OwnAt A' g' i b → OwnAt A g i b) (hs : ∀ i b, SeenAt A' g' i b → SeenAt A g i b)
    (hr : ∀ i b, RoAt A' g' i b → RoAt A g i b ∨ OwnAt A g i b) (hc : ∀ i b, ConAt A' g' i b → ConAt A g i b) : Sep A' g' := by
  refine ⟨fun i j b h1 h2 => h.oo i j b (ho _ _ h1) (ho _ _ h2), fun i j b h1 h2 => h.os i j b (ho _ _ h1) (hs _ _ h2), fun i j b h1 h2 => ?_, fun i j b h1 h2 => ?_, fun i j b h1 h2 => ?_,
    fun i j b h1 h2 => h.cc i j b (hc _ _ h1) (hc _ _ h2)⟩
  · rcases hr j b h2 with k | k
    · exact h.ow i j b (ho _ _ h1) k
    · have := h.oo i j b (ho _ _ h1) k
      subst this
      exact own_ro h1 h2
  · rcases hr i b h1 with k | k
    · rcases hr j b h2 with k' | k'
      · exact h.rr i j b k k'
      · exact (h.ow j i b k' k).elim
    · rcases hr j b h2 with k' | k'
      · exact (h.ow i j b k k').elim
      · exact h.oo i j b k k'
  · rcases hr i b h1 with k | k
    · exact h.rc i j b k (hc _ _ h2)
    · exact h.os i j b k (.con (hc _ _ h2))

/-- A step that knows nothing of abstract objects leaves them as they are. -/
theorem RelX.frame {g : Gh} {A A' : Hp} {w w' : World} {ρ' : Rn} (h : RelX P g A w) (h2 : Rel P ρ' A' w') (hx : Ext A g.ρ w A' ρ' w') :
    RelX P ⟨ρ', g.S, g.F⟩ A' w' ∧ ExtX A g w A' ⟨ρ', g.S, g.F⟩ w' := by
  have old : ∀ i k x, A'.get i = some (.abs k x) → A.get i = some (.abs k x) := fun i k x hi => hx.nown i _ hi (by simp [Ob.md])
  have oldp : ∀ i o p, A'.get i = some o → o.md ≠ .own → ρ' i = some p → A.get i = some o ∧ g.ρ i = some p := by
    intro i o p hi hm hp
    have h1 := hx.nown i o hi hm
    obtain ⟨q, hq, _⟩ := h.rel.obj i o h1
    have := hx.le _ _ hq
    rw [hp] at this; cases this
    exact ⟨h1, hq⟩
  have ownv : ∀ i b o p, A'.get i = some o → o.md = .own → ρ' i = some p → p.blk = b → (∃ j o p, A.get j = some o ∧ o.md = .own ∧ g.ρ j = some p ∧ p.blk = b) ∨ w.heap.size ≤ b :=
    fun i b o p h1 h2 h3 h4 => hx.own b ⟨i, o, p, h1, h2, h3, h4⟩
  have sab : ∀ i k x b, A.get i = some (.abs k x) → g.S i b → b < w.heap.size := fun i k x b hi hb => (OwnAt.abs k x hi hb : OwnAt A g i b).lt h
  have fab : ∀ i k x b, A.get i = some (.abs k x) → g.F i b → b < w.heap.size := fun i k x b hi hb => (SeenAt.abs k x hi hb : SeenAt A g i b).lt h
  have keepB : ∀ i k x b, A.get i = some (.abs k x) → g.S i b ∨ g.F i b → w'.heap[b]? = w.heap[b]? := by
    intro i k x b hi hb
    refine hx.keep b (hb.elim (sab i k x b hi) (fab i k x b hi)) ?_
    rintro ⟨j, o, p, h1, h3, h4, h5⟩
    have hj : OwnAt A g j b := .vis o p h1 h3 h4 h5
    rcases hb with hb | hb
    · have := h.sep.oo i j b (.abs k x hi hb) hj
      subst this
      rw [hi] at h1; cases h1; cases h3
    · exact h.sep.os j i b hj (.abs k x hi hb)
  have conA : ∀ i b, ConAt A' ⟨ρ', g.S, g.F⟩ i b → ConAt A g i b := by
    intro i b hc
    cases hc with
    | vis o p k1 k2 k5 k3 k4 =>
      obtain ⟨r1, r2⟩ := oldp i o p k1 (by rw [k2]; simp) k3
      exact .vis o p r1 k2 k5 r2 k4
  have roA : ∀ i b, RoAt A' ⟨ρ', g.S, g.F⟩ i b → RoAt A g i b := by
    intro i b hc
    cases hc with
    | vis o p k1 k2 k5 k3 k4 =>
      obtain ⟨r1, r2⟩ := oldp i o p k1 (by rw [k2]; simp) k3
      exact .vis o p r1 k2 k5 r2 k4
  have ownX : ∀ b, OwnX A' ⟨ρ', g.S, g.F⟩ b → OwnX A g b ∨ w.heap.size ≤ b := by
    rintro b ⟨i, hi⟩
    cases hi with
    | vis o p k1 k2 k3 k4 =>
      rcases ownv i b o p k1 k2 k3 k4 with k | k
      · exact .inl (owned_at k)
      · exact .inr k
    | abs k x k1 k2 => exact .inl ⟨i, .abs k x (old i k x k1) k2⟩
  have sep : Sep A' ⟨ρ', g.S, g.F⟩ := by
    refine ⟨fun i j b h1 h3 => ?_, fun i j b h1 h3 => ?_, fun i j b h1 h3 => ?_, fun i j b h1 h3 => h.sep.rr i j b (roA i b h1) (roA j b h3), fun i j b h1 h3 => h.sep.rc i j b (roA i b h1) (conA j b h3),
      fun i j b h1 h3 => h.sep.cc i j b (conA i b h1) (conA j b h3)⟩
    · have cross : ∀ i j, (∃ o p, A'.get i = some o ∧ o.md = .own ∧ ρ' i = some p ∧ p.blk = b) → (∃ k x, A'.get j = some (.abs k x) ∧ g.S j b) → False := by
        rintro i j ⟨o, p, k1, k2, k3, k4⟩ ⟨k, x, k5, k6⟩
        rcases ownv i b o p k1 k2 k3 k4 with ⟨l, o', p', q1, q2, q3, q4⟩ | hn
        · have := h.sep.oo l j b (.vis o' p' q1 q2 q3 q4) (.abs k x (old j k x k5) k6)
          subst this
          rw [old l k x k5] at q1; cases q1; cases q2
        · have := sab j k x b (old j k x k5) k6; omega
      cases h1 with
      | vis o p k1 k2 k3 k4 =>
        cases h3 with
        | vis o' p' q1 q2 q3 q4 =>
          by_cases e : i = j
          · exact e
          · exact absurd (k4.trans q4.symm) (h2.apart i j o o' p p' k1 q1 e k3 q3 (.inl (.inl k2)))
        | abs k x q1 q2 => exact (cross i j ⟨o, p, k1, k2, k3, k4⟩ ⟨k, x, q1, q2⟩).elim
      | abs k x k1 k2 =>
        cases h3 with
        | vis o' p' q1 q2 q3 q4 => exact (cross j i ⟨o', p', q1, q2, q3, q4⟩ ⟨k, x, k1, k2⟩).elim
        | abs k' x' q1 q2 => exact h.sep.oo i j b (.abs k x (old i k x k1) k2) (.abs k' x' (old j k' x' q1) q2)
    · cases h1 with
      | vis o p k1 k2 k3 k4 =>
        cases h3 with
        | vis o' p' q1 q2 q5 q3 q4 =>
          have e : i ≠ j := by rintro rfl; rw [k1] at q1; cases q1; rw [k2] at q2; cases q2
          exact h2.apart i j o o' p p' k1 q1 e k3 q3 (.inl (.inl k2)) (k4.trans q4.symm)
        | abs k x q1 q2 =>
          rcases ownv i b o p k1 k2 k3 k4 with ⟨l, o', p', r1, r2, r3, r4⟩ | hn
          · exact h.sep.os l j b (.vis o' p' r1 r2 r3 r4) (.abs k x (old j k x q1) q2)
          · have := fab j k x b (old j k x q1) q2; omega
        | con hc =>
          have hc' := conA j b hc
          rcases ownv i b o p k1 k2 k3 k4 with ⟨l, o', p', r1, r2, r3, r4⟩ | hn
          · exact h.sep.os l j b (.vis o' p' r1 r2 r3 r4) (.con hc')
          · have := hc'.lt h; omega
      | abs k x k1 k2 =>
        cases h3 with
        | vis o' p' q1 q2 q5 q3 q4 =>
          obtain ⟨r1, r2⟩ := oldp j o' p' q1 (by rw [q2]; simp) q3
          exact h.sep.os i j b (.abs k x (old i k x k1) k2) (.vis o' p' r1 q2 q5 r2 q4)
        | abs k' x' q1 q2 => exact h.sep.os i j b (.abs k x (old i k x k1) k2) (.abs k' x' (old j k' x' q1) q2)
        | con hc => exact h.sep.os i j b (.abs k x (old i k x k1) k2) (.con (conA j b hc))
    · cases h3 with
      | vis o' p' q1 q2 q5 q3 q4 =>
        cases h1 with
        | vis o p k1 k2 k3 k4 =>
          have e : i ≠ j := by rintro rfl; rw [k1] at q1; cases q1; rw [k2] at q2; cases q2
          exact h2.apart i j o o' p p' k1 q1 e k3 q3 (.inl (.inl k2)) (k4.trans q4.symm)
        | abs k x k1 k2 =>
          obtain ⟨r1, r2⟩ := oldp j o' p' q1 (by rw [q2]; simp) q3
          exact h.sep.ow i j b (.abs k x (old i k x k1) k2) (.vis o' p' r1 q2 q5 r2 q4)
  have con : Con P ⟨ρ', g.S, g.F⟩ A' w' := by
    refine ⟨fun i hi => ?_, Nat.le_trans h.con.next hx.next, fun i o hi ho => ?_, fun i p hi hp => ?_, h.con.cw.keep fun b ⟨i, p, hi, hp, hb⟩ => ?_⟩
    · show ρ' i = _
      rw [hx.old i (Nat.lt_of_lt_of_le hi h.con.next)]; exact h.con.loc i hi
    · by_cases hm : o.md = .own
      · exfalso
        obtain ⟨p, hp, _⟩ := h2.obj i o ho
        have hpc : Reps.ρC i = some p := by
          rw [← h.con.loc i hi, ← hx.old i (Nat.lt_of_lt_of_le hi h.con.next)]; exact hp
        obtain ⟨c1, c2⟩ := h.con.own i p hi hpc
        rcases ownv i p.blk o p ho hm hp rfl with k | k
        · exact c2 (owned_at k)
        · omega
      · exact h.con.ro i o hi (hx.nown i o ho hm)
    · obtain ⟨c1, c2⟩ := h.con.own i p hi hp
      refine ⟨Nat.lt_of_lt_of_le c1 hx.size, fun k => ?_⟩
      rcases ownX _ k with k | k
      · exact c2 k
      · omega
    · obtain ⟨c1, c2⟩ := h.con.own i p hi hp
      subst hb
      exact hx.keep _ c1 fun k => c2 (owned_at k)
  refine ⟨⟨h2, fun i k x hi => ?_, sep, con⟩, ⟨hx.le, hx.size, fun b hb hn => hx.keep b hb fun ho => hn (owned_at ho), ownX, hx.next, hx.old, ?_, ?_, hx.os, hx.output, hx.tape⟩⟩
  · obtain ⟨p, hp, ha⟩ := h.abs i k x (old i k x hi)
    exact ⟨p, hx.le _ _ hp, ha.keep hx.size fun b hb => keepB i k x b (old i k x hi) hb⟩
  · rintro b ⟨i, hi⟩
    cases hi with
    | con hc => exact .inl ⟨i, .con (conA i b hc)⟩
    | vis o p k1 k2 k5 k3 k4 =>
      obtain ⟨r1, r2⟩ := oldp i o p k1 (by rw [k2]; simp) k3
      exact .inl ⟨i, .vis o p r1 k2 k5 r2 k4⟩
    | abs k x k1 k2 => exact .inl ⟨i, .abs k x (old i k x k1) k2⟩
  · intro i o hi hm
    exact hx.nown i o hi (by rw [hm]; simp)

/-- a draw of the tape changes nothing -/
theorem RelX.drew {g A w} (h : RelX P g A w) : RelX P g A w.drew := (h.frame h.rel.drew Ext.drew).1
theorem RelX.drewx {g A w} (h : RelX P g A w) : ExtX A g w A g w.drew := (h.frame h.rel.drew Ext.drew).2

theorem RelX.sub {g : Gh} {A A' : Hp} {w : World} (h : RelX P g A w) (hn : A.next ≤ A'.next) (hg : ∀ i o, A'.get i = some o → A.get i = some o) : RelX P g A' w := by
  have ho : ∀ i b, OwnAt A' g i b → OwnAt A g i b := by
    intro i b hi
    cases hi with
    | vis o p k1 k2 k3 k4 => exact .vis o p (hg _ _ k1) k2 k3 k4
    | abs k x k1 k2 => exact .abs k x (hg _ _ k1) k2
  have hc : ∀ i b, ConAt A' g i b → ConAt A g i b := by
    intro i b hi
    cases hi with
    | vis o p k1 k2 k5 k3 k4 => exact .vis o p (hg _ _ k1) k2 k5 k3 k4
  refine .of (fun i o hi _ => h.rel.obj i o (hg i o hi)) (fun i k x hi => h.abs i k x (hg _ _ hi)) (h.sep.mono ho (fun i b hi => ?_) (fun i b hi => ?_) hc)
    ⟨h.con.loc, Nat.le_trans h.con.next hn, fun i o hi ho => h.con.ro i o hi (hg i o ho), fun i p hi hp => let ⟨c1, c2⟩ := h.con.own i p hi hp; ⟨c1, fun ⟨j, k⟩ => c2 ⟨j, ho j _ k⟩⟩, h.con.cw⟩ (fun i hi => ?_) h.rel.glob
  · cases hi with
    | con h => exact .con (hc _ _ h)
    | vis o p k1 k2 k5 k3 k4 => exact .vis o p (hg _ _ k1) k2 k5 k3 k4
    | abs k x k1 k2 => exact .abs k x (hg _ _ k1) k2
  · cases hi with
    | vis o p k1 k2 k5 k3 k4 => exact .inl (.vis o p (hg _ _ k1) k2 k5 k3 k4)
  · have := h.rel.fresh i (Nat.le_trans hn hi)
    refine ⟨?_, this.2⟩
    cases hx : A'.get i with
    | none => rfl
    | some o => have := hg i o hx; simp_all

theorem ExtX.sub {A0 A A' : Hp} {g0 g : Gh} {w0 w : World} (h : ExtX A0 g0 w0 A g w) (hn : A.next ≤ A'.next) (hg : ∀ i o, A'.get i = some o → A.get i = some o) : ExtX A0 g0 w0 A' g w := by
  refine ⟨h.le, h.size, h.keep, fun b hb => h.own b ?_, Nat.le_trans h.next hn, h.old, fun b hb => h.seen b ?_, fun i o hi hm => h.ro i o (hg _ _ hi) hm, h.os, h.output, h.tape⟩
  · obtain ⟨i, hi⟩ := hb
    cases hi with
    | vis o p k1 k2 k3 k4 => exact ⟨i, .vis o p (hg _ _ k1) k2 k3 k4⟩
    | abs k x k1 k2 => exact ⟨i, .abs k x (hg _ _ k1) k2⟩
  · obtain ⟨i, hi⟩ := hb
    cases hi with
    | con h =>
      cases h with
      | vis o p k1 k2 k5 k3 k4 => exact ⟨i, .con (.vis o p (hg _ _ k1) k2 k5 k3 k4)⟩
    | vis o p k1 k2 k5 k3 k4 => exact ⟨i, .vis o p (hg _ _ k1) k2 k5 k3 k4⟩
    | abs k x k1 k2 => exact ⟨i, .abs k x (hg _ _ k1) k2⟩

end
end Go.Dn
end

section
namespace Go.Dn

/-! ## types, slots, operands -/
structure TI where
  d : TypeDesc
  size : Nat
  bytes : Nat
  zero : Option Value
  /-- a struct whose fields are all plain and all count: '==' goes field by field -/
  flat : Bool

abbrev TT := Nat → Option TI

structure TT.ok (T : TT) (P : Program) : Prop where
  und : ∀ t i, T t = some i → P.underlying t = some i.d
  info : ∀ t i, T t = some i → ∃ x, P.info? t = some x ∧ x.size = i.size ∧ x.bytes = i.bytes ∧ x.zero = i.zero
  flat : ∀ t i, T t = some i → i.flat = true → P.stoodInHeld t = false ∧ P.eqGuardType P.depth t = false ∧ ∀ fs, i.d = .struct fs → ∀ f ∈ fs.toList, f.name ≠ "_"

structure Env where
  T : TT
  G : Nat
  /-- what an iterator gives: the objects that it lives of, and the arguments of its rounds -/
  it : Nat → List Value → Hp → Option (List Nat × List (List Value)) := fun _ _ _ => none

abbrev Sl := List (Nat × Value)
def Sl.get : Sl → Nat → Option Value
  | [], _ => none
  | (u, v) :: s, t => bif Nat.beq u t then some v else Sl.get s t
def Sl.put : Sl → Nat → Value → Sl
  | [], t, v => [(t, v)]
  | (u, x) :: s, t, v => bif Nat.beq u t then (t, v) :: s else (u, x) :: Sl.put s t v

theorem Sl.get_put (s : Sl) (t u : Nat) (v : Value) : (s.put t v).get u = if u = t then some v else s.get u := by
  induction s with
  | nil =>
    simp only [Sl.put, Sl.get]
    by_cases h : t = u
    · subst h; simp
    · rw [Tr.beq_ff h, if_neg (fun e => h e.symm)]; rfl
  | cons x s ih =>
    obtain ⟨y, z⟩ := x
    simp only [Sl.put]
    by_cases h : y = t
    · subst h
      simp only [Tr.beq_tt, cond_true, Sl.get]
      by_cases g : y = u
      · subst g; simp
      · rw [Tr.beq_ff g, if_neg (fun e => g e.symm)]; rfl
    · simp only [Tr.beq_ff h, cond_false, Sl.get, ih]
      by_cases g : y = u
      · subst g; simp [h]
      · simp [Tr.beq_ff g]

/-- a constant without an address -/
def plain0 : Value → Bool
  | .bool _ | .int _ _ | .float _ _ | .complex _ _ _ | .string _ | .pointer none | .map none | .nilFunc | .nilIface => true
  | .slice none 0 0 => true
  | _ => false
def plain1 : Value → Bool
  | .agg cs => cs.toList.all plain0
  | v => plain0 v

theorem plain0_vr {ρ : Rn} {v : Value} (h : plain0 v = true) : VR ρ v v := by
  cases v with
  | bool b => exact .bool b
  | int k n => exact .int k n
  | float k b => exact .float k b
  | complex k a b => exact .complex k a b
  | string s => exact .string s
  | pointer a => cases a with
    | none => exact .ptrNil
    | some a => simp [plain0] at h
  | slice a n c =>
    cases a with
    | none =>
      cases n with
      | zero => cases c with
        | zero => exact .sliceNil
        | succ c => simp [plain0] at h
      | succ n => simp [plain0] at h
    | some a => simp [plain0] at h
  | map r => cases r with
    | none => exact .mapNil
    | some r => simp [plain0] at h
  | chan r => simp [plain0] at h
  | func f a b => simp [plain0] at h
  | nilFunc => exact .nilFunc
  | iface t v => simp [plain0] at h
  | nilIface => exact .nilIface
  | agg cs => simp [plain0] at h
  | tuple vs => simp [plain0] at h

theorem plain1_vr {ρ : Rn} {v : Value} (h : plain1 v = true) : VR ρ v v := by
  cases v with
  | agg cs =>
    refine .agg cs cs rfl fun j u v hu hv => ?_
    rw [hu] at hv; cases hv
    simp only [plain1, List.all_eq_true] at h
    exact plain0_vr (h u (Array.mem_toList_iff.2 (Array.mem_of_getElem? hu)))
  | _ => exact plain0_vr h

def evO (E : Env) (σ : Sl) : Operand → Option Value
  | .tmp t => σ.get t
  | .const v => bif plain1 v then some v else none
  | .global g => bif Nat.blt g E.G then some (.pointer (some ⟨g, 0, none⟩)) else none
  | .func f => some (.func (.func f) #[] #[])

/-- the frame's slots -/
structure SR (P : Program) (E : Env) (ρ : Rn) (N : Nat) (ds : List Deferred) (σ : Sl) (a : Act) : Prop where
  size : a.tmps.size = N
  get : ∀ t v, σ.get t = some v → ∃ v', a.tmps[t]? = some v' ∧ VR ρ v v'
  defers : a.defers = ds
  glob : ∀ g, g < E.G → ∃ p, ρ g = some p ∧ p.blk = g ∧ p.off = 0

theorem SR.le {P E ρ ρ' N ds σ a} (h : SR P E ρ N ds σ a) (hle : ρ.le ρ') : SR P E ρ' N ds σ a :=
  ⟨h.size, fun t v hv => let ⟨v', a, b⟩ := h.get t v hv; ⟨v', a, b.le hle⟩, h.defers, fun g hg => let ⟨p, a, b⟩ := h.glob g hg; ⟨p, hle _ _ a, b⟩⟩

theorem evO_sound {P E ρ N ds σ a} (h : SR P E ρ N ds σ a) {x : Operand} {v : Value} (hv : evO E σ x = some v) : VR ρ v (a.eval x) := by
  cases x with
  | tmp t =>
    obtain ⟨v', h1, h2⟩ := h.get t v hv
    have : a.eval (.tmp t) = v' := by simp [Act.eval, h1]
    rw [this]; exact h2
  | const c =>
    simp only [evO] at hv
    cases hp : plain1 c with
    | true => rw [hp] at hv; cases hv; exact plain1_vr hp
    | false => rw [hp] at hv; cases hv
  | global g =>
    simp only [evO] at hv
    cases hp : Nat.blt g E.G with
    | true =>
      rw [hp] at hv; cases hv
      have hlt : g < E.G := by simpa [Nat.blt_eq] using hp
      obtain ⟨p, h1, h2, h3⟩ := h.glob g hlt
      have := VR.ptr (ρ := ρ) 0 h1
      rw [h2, h3] at this
      exact this
    | false => rw [hp] at hv; cases hv
  | func f =>
    simp only [evO] at hv; cases hv
    exact .func f #[] #[] #[] #[] rfl (by simp) rfl (by simp)

theorem SR.put {P E ρ N ds σ a} (h : SR P E ρ N ds σ a) {d : Nat} (hd : d < N) {v v' : Value} (hv : VR ρ v v') : SR P E ρ N ds (σ.put d v) (a.put (some d) v') := by
  refine ⟨by simp [Act.put, h.size], fun t u hu => ?_, h.defers, h.glob⟩
  rw [Sl.get_put] at hu
  by_cases e : t = d
  · subst e
    rw [if_pos rfl] at hu; cases hu
    refine ⟨v', ?_, hv⟩
    simp only [Act.put]
    rw [Array.getElem?_setIfInBounds, if_pos rfl, if_pos (by rw [h.size]; exact hd)]
  · rw [if_neg e] at hu
    obtain ⟨u', h1, h2⟩ := h.get t u hu
    refine ⟨u', ?_, h2⟩
    simp only [Act.put]
    rw [Array.getElem?_setIfInBounds, if_neg (fun x => e x.symm)]
    exact h1
theorem SR.skip {P E ρ N ds σ a} (h : SR P E ρ N ds σ a) (v' : Value) : SR P E ρ N ds σ (a.put none v') := h

/-! ## lists of operands -/
def evs (E : Env) (σ : Sl) : List Operand → Option (List Value)
  | [] => some []
  | x :: xs => (evO E σ x).bind fun v => (evs E σ xs).bind fun vs => some (v :: vs)

theorem evs_sound {P E ρ N ds σ a} (h : SR P E ρ N ds σ a) : ∀ {xs : List Operand} {vs : List Value}, evs E σ xs = some vs →
    vs.length = xs.length ∧ ∀ (j : Nat) u, vs[j]? = some u → ∃ x, xs[j]? = some x ∧ VR ρ u (a.eval x)
  | [], vs, hv => by cases hv; exact ⟨rfl, by simp⟩
  | x :: xs, vs, hv => by
    simp only [evs] at hv
    cases h1 : evO E σ x with
    | none => rw [h1] at hv; cases hv
    | some v =>
      rw [h1] at hv
      simp only [Option.bind_some] at hv
      cases h2 : evs E σ xs with
      | none => rw [h2] at hv; cases hv
      | some ws =>
        rw [h2] at hv; cases hv
        obtain ⟨e1, e2⟩ := evs_sound h h2
        refine ⟨by simp [e1], fun j u hu => ?_⟩
        cases j with
        | zero => simp at hu; subst hu; exact ⟨x, by simp, evO_sound h h1⟩
        | succ j => simp at hu; simpa using e2 j u hu

end Go.Dn
end

section
namespace Go.Dn

/-! ## binary operators that look at no memory -/
def dint (op : BinOp) (k : IntKind) (x y : Int) : Option Value :=
  match op with
  | .add => some (.int k (k.wrap (x + y)))
  | .sub => some (.int k (k.wrap (x - y)))
  | .mul => some (.int k (k.wrap (x * y)))
  | .quo => if y = 0 then none else some (.int k (k.wrap (x.tdiv y)))
  | .rem => if y = 0 then none else some (.int k (x.tmod y))
  | .and => some (.int k (k.wrap ((BitVec.ofInt k.bits x &&& BitVec.ofInt k.bits y).toNat)))
  | .or => some (.int k (k.wrap ((BitVec.ofInt k.bits x ||| BitVec.ofInt k.bits y).toNat)))
  | .xor => some (.int k (k.wrap ((BitVec.ofInt k.bits x ^^^ BitVec.ofInt k.bits y).toNat)))
  | .andNot => some (.int k (k.wrap ((BitVec.ofInt k.bits x &&& ~~~(BitVec.ofInt k.bits y)).toNat)))
  | .eql => some (.bool (x == y))
  | .neq => some (.bool (x != y))
  | .lss => some (.bool (decide (x < y)))
  | .leq => some (.bool (decide (x ≤ y)))
  | .gtr => some (.bool (decide (x > y)))
  | .geq => some (.bool (decide (x ≥ y)))
  | _ => none

def dshift (op : BinOp) (k : IntKind) (x y : Int) : Option Value :=
  if y < 0 then none else
  match op with
  | .shl => some (.int k (k.wrap (x * 2 ^ (min y.toNat k.bits))))
  | .shr => some (.int k (x.fdiv (2 ^ (min y.toNat k.bits))))
  | _ => none

def dstr (op : BinOp) (x y : ByteArray) : Option Value :=
  match op with
  | .add => if x.size + y.size ≤ maxLen then some (.string (x ++ y)) else none
  | .eql => some (.bool (x.toList == y.toList))
  | .neq => some (.bool !(x.toList == y.toList))
  | .lss => some (.bool (Op.bytesLess x.toList y.toList))
  | .leq => some (.bool (Op.bytesLess x.toList y.toList || x.toList == y.toList))
  | .gtr => some (.bool !(Op.bytesLess x.toList y.toList || x.toList == y.toList))
  | .geq => some (.bool !(Op.bytesLess x.toList y.toList))
  | _ => none

/-- two rows of plain cells -/
def cellsEq : List Value → List Value → Option Bool
  | [], [] => some true
  | .int k a :: xs, .int l b :: ys => if k = l then (cellsEq xs ys).map (a == b && ·) else none
  | .bool a :: xs, .bool b :: ys => (cellsEq xs ys).map ((a == b) && ·)
  | .string a :: xs, .string b :: ys => (cellsEq xs ys).map ((a == b) && ·)
  | _, _ => none

def nilsEq (d : TypeDesc) (c : Bool) : Value → Value → Option Bool
  | .pointer a, .pointer none => match d with | .pointer _ => some a.isNone | _ => none
  | .pointer none, .pointer b => match d with | .pointer _ => some b.isNone | _ => none
  | .slice a _ c, .slice none _ 0 => match d with | .slice _ => some (a.isNone && Nat.beq c 0) | _ => none
  | .slice none _ 0, .slice b _ c => match d with | .slice _ => some (b.isNone && Nat.beq c 0) | _ => none
  | .map a, .map none => match d with | .map _ _ => some a.isNone | _ => none
  | .map none, .map b => match d with | .map _ _ => some b.isNone | _ => none
  | .nilFunc, .nilFunc => match d with | .func _ _ _ => some true | _ => none
  | .nilFunc, .func _ _ _ => match d with | .func _ _ _ => some false | _ => none
  | .func _ _ _, .nilFunc => match d with | .func _ _ _ => some false | _ => none
  | .nilIface, .nilIface => match d with | .interface _ => if c then some true else none | _ => none
  | .nilIface, .iface _ _ => match d with | .interface _ => some false | _ => none
  | .iface _ _, .nilIface => match d with | .interface _ => some false | _ => none
  | .bool a, .bool b => match d with | .bool => some (a == b) | _ => none
  | _, _ => none

def isC : Operand → Bool
  | .const _ => true
  | _ => false

def dbin (E : Env) (op : BinOp) (t : TypeId) (c : Bool) (x y : Value) : Option Value :=
  match x, y with
  | .int k a, .int l b =>
    (match op with
     | .shl | .shr => dshift op k a b
     | _ => if k = l then dint op k a b else none)
  | .string a, .string b => dstr op a b
  | x, y =>
    match op with
    | .eql => (E.T t).bind fun i => (nilsEq i.d c x y).map Value.bool
    | .neq => (E.T t).bind fun i => (nilsEq i.d c x y).map fun b => Value.bool !b
    | _ => none

def sbin (op : BinOp) (t : TypeId) (x y : Operand) (a b : Value) : Sem Value := do eqGuard op t x y a b; binOp op t a b

theorem maxLen_i64 {n : Nat} (h : n ≤ maxLen) : ¬ ((n : Int) > IntKind.i64.max) := by
  unfold maxLen at h
  have : IntKind.i64.max = 9223372036854775807 := by decide
  omega

theorem dint_sound {P : Program} {op : BinOp} {k : IntKind} {t : TypeId} {a b : Int} {v : Value} (h : dint op k a b = some v) (hs : op ≠ .shl) (hs' : op ≠ .shr) :
    plain0 v = true ∧ ∀ w, (binOp op t (.int k a) (.int k b)).run P w = .ok v w := by
  cases op <;> simp only [dint] at h <;> first | (exact absurd rfl hs) | (exact absurd rfl hs') | skip
  all_goals try (cases h; exact ⟨rfl, fun w => by simp [binOp, Go.Op.intArith, Go.Op.intBits, Go.Op.intCmp]⟩)
  all_goals first
    | (split at h
       · cases h
       · rename_i hy; cases h; exact ⟨rfl, fun w => by simp [binOp, Go.Op.intDiv, hy]⟩)
    | (cases h; done)

theorem dshift_sound {P : Program} {op : BinOp} {k l : IntKind} {t : TypeId} {a b : Int} {v : Value} (h : dshift op k a b = some v) (hs : op = .shl ∨ op = .shr) :
    plain0 v = true ∧ ∀ w, (binOp op t (.int k a) (.int l b)).run P w = .ok v w := by
  unfold dshift at h
  split at h
  · cases h
  · rename_i hb
    rcases hs with rfl | rfl <;> cases h <;> exact ⟨rfl, fun w => by simp [binOp, Go.Op.shift, hb]⟩

theorem dstr_sound {P : Program} {op : BinOp} {t : TypeId} {a b : ByteArray} {v : Value} (h : dstr op a b = some v) :
    plain0 v = true ∧ ∀ w, (binOp op t (.string a) (.string b)).run P w = .ok v w := by
  cases op <;> simp only [dstr] at h
  case add =>
    split at h
    · rename_i hs
      cases h
      have hm := maxLen_i64 hs
      exact ⟨rfl, fun w => by simp only [binOp, Go.Op.stringOp, if_neg hm, Sem.run_pure]⟩
    · cases h
  all_goals first
    | (cases h; exact ⟨rfl, fun w => by simp [binOp, Go.Op.stringOp]⟩)
    | (cases h; done)

theorem equal_unfold (t : TypeId) (x y : Value) : ∃ n, Go.Op.equal t x y = Go.Op.equalIn (n + 1) t x y := ⟨9999, rfl⟩

theorem nilsEq_sound {P : Program} {ρ : Rn} {t : TypeId} {d : TypeDesc} {c : Bool} {x y x' y' : Value} {r : Bool} (hd : P.underlying t = some d)
    (hx : VR ρ x x') (hy : VR ρ y y') (h : nilsEq d c x y = some r) :
    ∀ w, (Go.Op.equal t x' y').run P w = .ok r w := by
  intro w
  have hu : ∀ w, (underlying t).run P w = .ok d w := fun w => by simp [underlying, hd]
  obtain ⟨n, e⟩ := equal_unfold t x' y'
  rw [e]
  clear e
  unfold nilsEq at h
  split at h
  all_goals (try split at h)
  all_goals (try split at h)
  all_goals (try (cases h; done))
  all_goals cases h
  all_goals cases hx
  all_goals cases hy
  all_goals (simp only [Go.Op.equalIn, Sem.run_bind, hu, Result.andThen_ok]; rfl)

end Go.Dn
end

section
namespace Go.Dn

theorem eqGuard_other {P : Program} {op : BinOp} (h1 : op ≠ .eql) (h2 : op ≠ .neq) (t : TypeId) (x y : Operand) (a b : Value) (w : World) :
    (eqGuard op t x y a b).run P w = .ok () w := by
  unfold eqGuard
  cases op <;> first | (exact absurd rfl h1) | (exact absurd rfl h2) | rfl

theorem eqGuard_const {P : Program} {op : BinOp} (t : TypeId) (x y : Operand) (h : (isC x || isC y) = true) (w : World) :
    (eqGuard op t x y .nilIface .nilIface).run P w = .ok () w := by
  unfold eqGuard
  cases op <;> cases x <;> cases y <;> first | rfl | (simp [isC] at h)

/-- neither both nil interface values nor both rows -/
def unguarded : Value → Value → Bool
  | .nilIface, .nilIface => false
  | .agg _, .agg _ => false
  | _, _ => true

theorem eqGuard_un {P : Program} {op : BinOp} (t : TypeId) (x y : Operand) {a b : Value} (h : unguarded a b = true) (w : World) :
    (eqGuard op t x y a b).run P w = .ok () w := by
  unfold eqGuard
  cases op <;> first | rfl | skip
  all_goals (cases a <;> cases b <;> first | rfl | (simp [unguarded] at h))

theorem nilsEq_guard {d : TypeDesc} {c : Bool} {a b : Value} {r : Bool} (h : nilsEq d c a b = some r) : (a = .nilIface ∧ b = .nilIface ∧ c = true) ∨ unguarded a b = true := by
  unfold nilsEq at h
  split at h <;> (try split at h) <;> (try split at h) <;> (try (cases h; done)) <;> first | (exact .inr rfl) | skip
  all_goals first
    | exact .inl ⟨rfl, rfl, by assumption⟩
    | (right; rename_i a b _ _ _ ; cases a <;> cases b <;> simp_all [unguarded, nilsEq])
    | (right; unfold unguarded; split <;> simp_all)

theorem VR.unguarded {ρ : Rn} {a b a' b' : Value} (ha : VR ρ a a') (hb : VR ρ b b') : Dn.unguarded a' b' = Dn.unguarded a b := by
  cases ha <;> cases hb <;> rfl

theorem binOp_eql {op : BinOp} (t : TypeId) {a b : Value} (h : ∀ k m l n, a = .int k m → b ≠ .int l n) (h' : ∀ m n, a = .string m → b ≠ .string n)
    (h2 : ∀ k m l n, a = .float k m → b ≠ .float l n) (h3 : ∀ k m l n x y, a = .complex k m l → b ≠ .complex n x y) (ho : op = .eql ∨ op = .neq) :
    binOp op t a b = (if op = .eql then (do pure (.bool (← Go.Op.equal t a b))) else (do pure (.bool (!(← Go.Op.equal t a b))))) := by
  rcases ho with rfl | rfl <;> cases a <;> cases b <;> first
    | rfl
    | (exact absurd rfl (h _ _ _ _ rfl))
    | (exact absurd rfl (h' _ _ rfl))
    | (exact absurd rfl (h2 _ _ _ _ rfl))
    | (exact absurd rfl (h3 _ _ _ _ _ _ rfl))

theorem dbin_sound {P : Program} {E : Env} (hT : E.T.ok P) {ρ : Rn} {op : BinOp} {t : TypeId} {x y : Operand} {a b a' b' v : Value}
    (ha : VR ρ a a') (hb : VR ρ b b') (h : dbin E op t (isC x || isC y) a b = some v) :
    plain0 v = true ∧ ∀ w, (sbin op t x y a' b').run P w = .ok v w := by
  unfold dbin at h
  split at h
  · rename_i k m l n
    cases ha; cases hb
    have key : plain0 v = true ∧ ∀ w, (binOp op t (.int k m) (.int l n)).run P w = .ok v w := by
      split at h
      · exact dshift_sound h (.inl rfl)
      · exact dshift_sound h (.inr rfl)
      · rename_i h1 h2
        split at h
        · rename_i e; subst e; exact dint_sound h (fun e => h1 e) (fun e => h2 e)
        · cases h
    refine ⟨key.1, fun w => ?_⟩
    unfold sbin
    rw [Sem.run_bind, eqGuard_un t x y rfl, Result.andThen_ok, key.2]
  · rename_i m n
    cases ha; cases hb
    obtain ⟨k1, k2⟩ := dstr_sound (P := P) (t := t) h
    refine ⟨k1, fun w => ?_⟩
    unfold sbin
    rw [Sem.run_bind, eqGuard_un t x y rfl, Result.andThen_ok, k2]
  · rename_i h1 h2
    have main : ∀ (i : TI) (r : Bool), E.T t = some i → nilsEq i.d (isC x || isC y) a b = some r → (op = .eql ∨ op = .neq) →
        ∀ w, (sbin op t x y a' b').run P w = .ok (if op = .eql then .bool r else .bool !r) w := by
      intro i r hi hr ho w
      have hq := nilsEq_sound (hT.und t i hi) ha hb hr w
      have hg : (eqGuard op t x y a' b').run P w = .ok () w := by
        rcases nilsEq_guard hr with ⟨e1, e2, e3⟩ | e
        · subst e1; subst e2; cases ha; cases hb
          exact eqGuard_const t x y e3 w
        · exact eqGuard_un t x y ((VR.unguarded ha hb).trans e) w
      unfold sbin
      rw [Sem.run_bind, hg, Result.andThen_ok]
      have hb1 : binOp op t a' b' = (if op = .eql then (do pure (.bool (← Go.Op.equal t a' b'))) else (do pure (.bool (!(← Go.Op.equal t a' b'))))) := by
        refine binOp_eql t ?_ ?_ ?_ ?_ ho
        · rintro k m l n rfl rfl; cases ha; cases hb; exact h1 _ _ _ _ rfl rfl
        · rintro m n rfl rfl; cases ha; cases hb; exact h2 _ _ rfl rfl
        · rintro k m l n rfl rfl; cases ha; cases hb; simp [nilsEq] at hr
        · rintro k m l n p q rfl rfl; cases ha; cases hb; simp [nilsEq] at hr
      rw [hb1]
      split <;> simp [hq]
    split at h
    · cases hi : E.T t with
      | none => rw [hi] at h; cases h
      | some i =>
        rw [hi] at h
        simp only [Option.bind_some] at h
        cases hr : nilsEq i.d (isC x || isC y) a b with
        | none => rw [hr] at h; cases h
        | some r =>
          rw [hr] at h; cases h
          exact ⟨rfl, fun w => by have := main i r hi hr (.inl rfl) w; simpa using this⟩
    · cases hi : E.T t with
      | none => rw [hi] at h; cases h
      | some i =>
        rw [hi] at h
        simp only [Option.bind_some] at h
        cases hr : nilsEq i.d (isC x || isC y) a b with
        | none => rw [hr] at h; cases h
        | some r =>
          rw [hr] at h; cases h
          exact ⟨rfl, fun w => by have := main i r hi hr (.inr rfl) w; simpa using this⟩
    · cases h

end Go.Dn
end

section
namespace Go.Dn

/-! ## rows of cells, cell by cell -/
structure AR (ρ : Rn) (as bs : Array Value) : Prop where
  size : as.size = bs.size
  get : ∀ (j : Nat) u v, as[j]? = some u → bs[j]? = some v → VR ρ u v

theorem AR.some {ρ : Rn} {as bs : Array Value} (h : AR ρ as bs) {j : Nat} {u : Value} (hu : as[j]? = some u) : ∃ v, bs[j]? = some v ∧ VR ρ u v := by
  have hj : j < bs.size := by rw [← h.size]; exact (Array.getElem?_eq_some_iff.1 hu).1
  exact ⟨bs[j], Array.getElem?_eq_getElem hj, h.get j u _ hu (Array.getElem?_eq_getElem hj)⟩

theorem VR.cells {ρ : Rn} {u v : Value} (h : VR ρ u v) : AR ρ u.cells v.cells := by
  cases h with
  | agg as bs h1 h2 => exact ⟨h1, h2⟩
  | _ =>
    refine ⟨rfl, fun j u v hu hv => ?_⟩
    simp only [Value.cells] at hu hv
    cases j with
    | zero =>
      simp at hu hv; subst hu; subst hv
      first | exact .sliceZ _ | exact .bool _ | exact .int _ _ | exact .float _ _ | exact .complex _ _ _ | exact .string _ | exact .ptrNil | exact .ptr _ (by assumption) | exact .sliceNil | exact .sliceL _ _ _ _ _ _ (by assumption) (by assumption) (by assumption) (by assumption) (by assumption) (by assumption) | exact .sliceE _ _ _ _ _ (by assumption) (by assumption) (by assumption) (by assumption) | exact .mapNil | exact .map (by assumption) | exact .func _ _ _ _ _ (by assumption) (by assumption) (by assumption) (by assumption) | exact .nilFunc | exact .iface _ _ _ (by assumption) | exact .nilIface | exact .tuple _ _ (by assumption) (by assumption)
    | succ j => simp at hu

theorem AR.set {ρ : Rn} {as bs : Array Value} (h : AR ρ as bs) (i : Nat) {u v : Value} (hv : VR ρ u v) : AR ρ (as.setIfInBounds i u) (bs.setIfInBounds i v) := by
  refine ⟨by simp [h.size], fun j a b ha hb => ?_⟩
  rw [Array.getElem?_setIfInBounds] at ha hb
  by_cases e : i = j
  · subst e
    rw [if_pos rfl] at ha hb
    split at ha
    · rename_i hlt
      rw [if_pos (by rw [← h.size]; exact hlt)] at hb
      cases ha; cases hb; exact hv
    · cases ha
  · rw [if_neg e] at ha hb
    exact h.get j a b ha hb

theorem AR.refl_plain {ρ : Rn} {as : Array Value} (h : as.toList.all plain0 = true) : AR ρ as as := by
  refine ⟨rfl, fun j u v hu hv => ?_⟩
  rw [hu] at hv; cases hv
  simp only [List.all_eq_true] at h
  exact plain0_vr (h u (Array.mem_toList_iff.2 (Array.mem_of_getElem? hu)))

theorem AR.le {ρ ρ' : Rn} {as bs : Array Value} (h : AR ρ as bs) (hle : ρ.le ρ') : AR ρ' as bs := ⟨h.size, fun j u v a b => (h.get j u v a b).le hle⟩

/-- parts of a composite, place by place -/
inductive PR (ρ : Rn) : List (Nat × Value) → List (Nat × Value) → Prop
  | nil : PR ρ [] []
  | cons {i : Nat} {u v : Value} {l m : List (Nat × Value)} (h : VR ρ u v) (t : PR ρ l m) : PR ρ ((i, u) :: l) ((i, v) :: m)

theorem zip_set {ρ : Rn} {off : Nat} : ∀ (l m : List Value) (k : Nat) (as bs : Array Value), AR ρ as bs → l.length = m.length → (∀ (j : Nat) u v, l[j]? = some u → m[j]? = some v → VR ρ u v) →
    AR ρ ((l.zipIdx k).foldl (fun cs (x : Value × Nat) => cs.setIfInBounds (off + x.2) x.1) as) ((m.zipIdx k).foldl (fun cs (x : Value × Nat) => cs.setIfInBounds (off + x.2) x.1) bs)
  | [], [], _, as, bs, h, _, _ => by simpa using h
  | [], _ :: _, _, _, _, _, hl, _ => by simp at hl
  | _ :: _, [], _, _, _, _, hl, _ => by simp at hl
  | u :: l, v :: m, k, as, bs, h, hl, hv => by
    simp only [List.zipIdx_cons, List.foldl_cons]
    exact zip_set l m (k + 1) _ _ (h.set _ (hv 0 u v (by simp) (by simp))) (by simpa using hl) (fun j a b ha hb => hv (j + 1) a b (by simpa using ha) (by simpa using hb))

theorem fill_sound {ρ : Rn} {place : Nat → Option (Nat × Nat)} : ∀ {parts parts' : List (Nat × Value)} {cs cs' out : Array Value}, PR ρ parts parts' → AR ρ cs cs' →
    Instr.fill place cs parts = some out → ∃ out', Instr.fill place cs' parts' = some out' ∧ AR ρ out out'
  | _, _, cs, cs', out, .nil, hc, h => by
    simp only [Instr.fill] at h ⊢; cases h; exact ⟨cs', rfl, hc⟩
  | _, _, cs, cs', out, .cons (i := i) (u := u) (v := v) hv ht, hc, h => by
    simp only [Instr.fill] at h ⊢
    cases hp : place i with
    | none => rw [hp] at h; cases h
    | some x =>
      obtain ⟨off, size⟩ := x
      rw [hp] at h
      simp only at h ⊢
      have hcs := hv.cells
      rw [← hcs.size, ← hc.size]
      split at h
      · cases h
      · rename_i hcond
        rw [if_neg hcond]
        refine fill_sound ht ?_ h
        have := zip_set (ρ := ρ) (off := off) u.cells.toList v.cells.toList 0 cs cs' hc (by simpa using hcs.size) (fun j a b ha hb => hcs.get j a b (by simpa using ha) (by simpa using hb))
        have e : ∀ (x : Array Value) (c : Array Value), x.zipIdx.foldl (fun cs (y : Value × Nat) => cs.setIfInBounds (off + y.2) y.1) c = (x.toList.zipIdx 0).foldl (fun cs (y : Value × Nat) => cs.setIfInBounds (off + y.2) y.1) c := by
          intro x c
          rw [← Array.foldl_toList, Array.toList_zipIdx]
        have e2 := e u.cells cs
        have e3 := e v.cells cs'
        rw [← e2, ← e3] at this
        exact this

/-- the places of a struct's fields -/
def Env.places (E : Env) : List Field → Option (List (Nat × Nat))
  | [] => some []
  | f :: fs => (E.T f.type).bind fun i => (E.places fs).bind fun r => some ((f.offset, i.size) :: r)

theorem places_sound {P : Program} {E : Env} (hT : E.T.ok P) : ∀ {fs : List Field} {r : List (Nat × Nat)}, E.places fs = some r →
    fs.mapM (fun f => (P.info? f.type).map fun i => (f.offset, i.size)) = some r
  | [], r, h => by cases h; rfl
  | f :: fs, r, h => by
    simp only [Env.places] at h
    cases hi : E.T f.type with
    | none => rw [hi] at h; cases h
    | some i =>
      rw [hi] at h
      simp only [Option.bind_some] at h
      cases hr : E.places fs with
      | none => rw [hr] at h; cases h
      | some q =>
        rw [hr] at h; cases h
        obtain ⟨x, h1, h2, _, _⟩ := hT.info _ _ hi
        rw [List.mapM_cons, h1, places_sound hT hr]
        simp [h2]

/-- a composite's zero cells, of a plain zero value -/
def Env.zcells (E : Env) (t : TypeId) : Option (Array Value) :=
  (E.T t).bind fun i => i.zero.bind fun z => bif z.cells.toList.all plain0 then some z.cells else none

def Env.built (E : Env) (t : TypeId) (parts : List (Nat × Value)) : Option (Array Value) :=
  (E.T t).bind fun i => (E.zcells t).bind fun z =>
    match i.d with
    | .struct fields => (E.places fields.toList).bind fun pl => Instr.fill (pl.toArray[·]?) z parts
    | .array _ e => (E.T e).bind fun j => Instr.fill (fun k => some (k * j.size, j.size)) z parts
    | _ => none

theorem zcells_sound {P : Program} {E : Env} (hT : E.T.ok P) {t : TypeId} {z : Array Value} (h : E.zcells t = some z) :
    ∃ x v, P.info? t = some x ∧ x.zero = some v ∧ v.cells = z ∧ z.toList.all plain0 = true := by
  unfold Env.zcells at h
  cases hi : E.T t with
  | none => rw [hi] at h; cases h
  | some i =>
    rw [hi] at h
    simp only [Option.bind_some] at h
    obtain ⟨x, h1, _, _, h4⟩ := hT.info _ _ hi
    cases hz : i.zero with
    | none => rw [hz] at h; cases h
    | some v =>
      rw [hz] at h
      simp only [Option.bind_some] at h
      cases hp : v.cells.toList.all plain0 with
      | false => rw [hp] at h; cases h
      | true =>
        rw [hp] at h; cases h
        exact ⟨x, v, h1, h4.trans hz, rfl, hp⟩

theorem built_sound {P : Program} {E : Env} (hT : E.T.ok P) {ρ : Rn} {t : TypeId} {parts parts' : List (Nat × Value)} {out : Array Value} (hp : PR ρ parts parts')
    (h : E.built t parts = some out) : ∃ out', AR ρ out out' ∧ P.built t parts' = some out' := by
  unfold Env.built at h
  cases hi : E.T t with
  | none => rw [hi] at h; cases h
  | some i =>
    rw [hi] at h
    simp only [Option.bind_some] at h
    cases hz : E.zcells t with
    | none => rw [hz] at h; cases h
    | some z =>
      rw [hz] at h
      simp only [Option.bind_some] at h
      obtain ⟨x, v, h1, h2, h3, h4⟩ := zcells_sound hT hz
      have hu := hT.und _ _ hi
      split at h
      · rename_i fields hd
        cases hpl : E.places fields.toList with
        | none => rw [hpl] at h; cases h
        | some pl =>
          rw [hpl] at h
          simp only [Option.bind_some] at h
          obtain ⟨out', g1, g2⟩ := fill_sound hp (AR.refl_plain h4) h
          refine ⟨out', g2, ?_⟩
          unfold Program.built
          rw [h1, hu, hd]
          simp only [h2, places_sound hT hpl, h3]
          exact g1
      · rename_i n e hd
        cases hj : E.T e with
        | none => rw [hj] at h; cases h
        | some j =>
          rw [hj] at h
          simp only [Option.bind_some] at h
          obtain ⟨y, k1, k2, _, _⟩ := hT.info _ _ hj
          obtain ⟨out', g1, g2⟩ := fill_sound hp (AR.refl_plain h4) h
          refine ⟨out', g2, ?_⟩
          unfold Program.built
          rw [h1, hu, hd]
          simp only [h2, h3, k1, k2]
          exact g1
      · cases h

end Go.Dn
end
