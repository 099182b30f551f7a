/-
  Part of the abstract machine for this program.
-/
import Derived.Test.YtleljjahgofbcaaDoorDnP
import Derived.Test.YtleljjahgofbcaaDoorDnQ

section
/-
  scripts of a pipe's ops, read
-/
namespace Go.Dn.Pipe
open Go.Proofs Go.ChangeShapes
open Go.Proofs.YtleljjahgofbcaaDoor
set_option maxRecDepth 100000

theorem ArgSl.bs {A : Hp} {v : Value} {us : List Value} {n : Nat} {e : TypeId} (h : ArgSl e 1 A v us n) : BsAt A v us := by
  cases h with
  | nil c hc => exact .nil c hc
  | «at» id _ _ hg hl => exact .at id 0 n (2 * n) e us us .sh hg (by omega) (by rw [List.drop_zero, List.take_of_length_le (by omega)]) (by omega)

theorem lit_le {n : Int} (h : (Lit.int .i64 n).wf = true) : n ≤ 9223372036854775807 := by
  simp only [Lit.wf, Bool.and_eq_true, decide_eq_true_eq] at h
  exact h.2

theorem op_of {H : Type} {A : Hp} {d : DataW H} {c : List Value} (h : ArgR Tryd.bk.E.T A 54 d c) : ∃ o : OpX, c = o.cells ∧ o.ok A ∧ o.us.length ≤ Rows.uptoBulk d := by
  obtain ⟨dd, css, rfl, rfl, l1, l2, l3⟩ := h.struct_inv (i := Go.Dn.Tryd.ti54) rfl rfl
  obtain ⟨c0, c1, c2, rfl⟩ : ∃ c0 c1 c2, css = [c0, c1, c2] := by
    match css, l2 with
    | [a, b, c], _ => exact ⟨a, b, c, rfl⟩
  obtain ⟨d0, d1, d2, rfl⟩ : ∃ d0 d1 d2, dd = [d0, d1, d2] := by
    match dd, l1 with
    | [a, b, c], _ => exact ⟨a, b, c, rfl⟩
  obtain ⟨k, _, rfl, _⟩ := (l3 0 _ d0 c0 rfl rfl rfl).int_inv (i := Go.Dn.Tryd.ti3) rfl rfl
  obtain ⟨n, _, rfl, hn⟩ := (l3 2 _ d2 c2 rfl rfl rfl).int_inv (i := Go.Dn.Tryd.ti3) rfl rfl
  obtain ⟨v, css, els, rfl, z1, z2, z3, z4, z5, _⟩ := (l3 1 _ d1 c1 rfl rfl rfl).sl (i := Go.Dn.Tryd.ti22) (j := Go.Dn.Tryd.ti5) rfl rfl rfl
  have hb := ArgSl.bs z1
  obtain ⟨a, c, rfl⟩ := hb.form
  have hlen : css.flatten.length = css.length := by
    have := flat_len css 1 z5
    omega
  refine ⟨⟨k, css.flatten, a, c, n⟩, rfl, ⟨hb, fun j x hx => ?_, lit_le hn⟩, ?_⟩
  · obtain ⟨m, e, _⟩ := ints_of (k := .u8) (i := Go.Dn.Tryd.ti5) rfl rfl z2 z4 z5 j x hx
    exact ⟨m, e⟩
  · show css.flatten.length ≤ _
    rw [hlen, ← z2]
    have : Rows.uptoBulk d1 ≤ Rows.uptoBulk (.agg [d0, d1, d2]) := by
      simp only [Rows.uptoBulk, Rows.uptoBulkAll]
      omega
    rcases z3 with ⟨_, rfl⟩ | ⟨sp, rfl⟩
    · simp
    · have := bulks.slice_le els sp
      omega

theorem ops_list {H : Type} {A : Hp} : ∀ (css : List (List Value)) (els : List (DataW H)), els.length = css.length → (∀ (k : Nat) d c, els[k]? = some d → css[k]? = some c → ArgR Tryd.bk.E.T A 54 d c) →
    ∃ ops : List OpX, css = ops.map OpX.cells ∧ (∀ o ∈ ops, o.ok A) ∧ sumL ops ≤ Rows.uptoBulkAll els
  | [], els, hl, _ => ⟨[], rfl, by simp, by simp [sumL]⟩
  | c :: css, [], hl, _ => by simp at hl
  | c :: css, d :: els, hl, h => by
    obtain ⟨o, o1, o2, o3⟩ := op_of (h 0 d c rfl rfl)
    obtain ⟨ops, p1, p2, p3⟩ := ops_list css els (by simpa using hl) fun k d c hd hc => h (k + 1) d c (by simpa using hd) (by simpa using hc)
    refine ⟨o :: ops, by rw [o1, p1]; rfl, fun x hx => ?_, ?_⟩
    · rcases List.mem_cons.1 hx with rfl | hx
      · exact o2
      · exact p2 x hx
    · show o.us.length + sumL ops ≤ _
      simp only [Rows.uptoBulkAll]
      omega

theorem T2_free : ∀ f args A, f ∈ [15, 28, 30, 57, 58, 25, 5] → T2 f args A = none := by
  intro f args A h
  simp only [List.mem_cons, List.not_mem_nil, or_false] at h
  rcases h with rfl | rfl | rfl | rfl | rfl | rfl | rfl <;> rfl

theorem CE_wf : CE.wf := by
  intro i hi
  cases hg : CE.get i with
  | none => rfl
  | some o =>
    have h1 := (CE_get hg).1
    have h2 : ∀ g ∈ errs, g < 86 := by decide
    have h3 : 86 ≤ i := hi
    have := h2 i h1
    omega

theorem plays_run {base : CallT} (hw : ∀ A, base 12 [] A = some (.bool true, A)) (h0 : ∀ A, base 27 [.nilIface] A = some (.int .i64 0, A)) (h27 : ∀ A, base 27 [cutIf] A = some (.int .i64 27, A))
    (hn : ∀ f args A, f ∈ [15, 28, 30, 57, 58, 25, 5] → base f args A = none) {A : Hp} (hA : A.wf) {ops : List OpX} (hops : ∀ o ∈ ops, o.ok A) {v : Value} (hv : ArgSl 54 3 A v (ops.map OpX.cells).flatten ops.length) (hm : ops.length ≤ 1048576) (hb : sumL ops ≤ 100000000) :
    ∃ n A', callD Tryd.bk (T4 base) n 5 [v] A = some (.bool true, A') := by
  have hn2 : ∀ f args A, f ∈ [15, 28, 30, 57, 58] → base f args A = none := fun f args A hf => hn f args A (by
    simp only [List.mem_cons, List.not_mem_nil, or_false] at hf
    rcases hf with rfl | rfl | rfl | rfl | rfl <;> simp)
  obtain ⟨a, c, rfl⟩ : ∃ a c, v = .slice a ops.length c := by
    generalize ops.length = m at hv
    generalize (ops.map OpX.cells).flatten = fl at hv
    cases hv with
    | nil c hc => exact ⟨none, c, rfl⟩
    | «at» id _ us hg hl => exact ⟨some _, _, rfl⟩
  let k := ops.length + sumL ops + 1
  have f1 := T4_fns hw h0 h27 hn2 k
  have f2 := T4_fns hw h0 h27 hn2 (k + 1)
  have h25 : ∀ args A r, kfn Tryd.bk.E (callD Tryd.bk (T4 base) (k + 2)) (Tryd.bk.inf 25) (k + 2) Tryd.f25 args A = some r → callD Tryd.bk (T4 base) (k + 3) 25 args A = some r := fun args A r h =>
    callD_of (hn 25 _ _ (by simp)) (fn := Tryd.f25) rfl h
  obtain ⟨A', r⟩ := plays_walk f2.toPipeFns (step_ok f1 (k + 2) h25) (len_ok f1 (k + 2) h25) hA hops hv hm hb (by omega) (k + 3) (by omega)
  exact ⟨k + 4, A', callD_of (hn 5 _ _ (by simp)) (fn := Tryd.f5) rfl r⟩
end Go.Dn.Pipe
end
