/- The arguments of the laws, opened. -/
import Derived.Test.YtekeabjclamfhaaAwake
import Derived.Deep.SlicePairs
namespace Go.Proofs.Ytekeabjclamfhaa
open Go.ChangeShapes Go.WideShapes Go.ChangeAt Go.RowKit

theorem own : ownKnob Try.prog.godebug = none := by kernel_rfl
theorem laidOut : laidOutB Try.prog = true := by kernel_rfl
theorem fields48 : Try.prog.underlying 48 = some (.struct #[(Try.prog.fieldsOf 48)[0]!, (Try.prog.fieldsOf 48)[1]!]) := by kernel_rfl

theorem pick2 {p : Nat → Int × Int → Prop} {n : Nat} (h : ∀ i, i < n → ∃ x, p i x) : ∃ l : List OpM, l.length = n ∧ ∀ i (hi : i < l.length), p i (l[i].k, l[i].a) := by
  have h' : ∀ i, ∃ x, i < n → p i x := fun i => by
    by_cases hi : i < n
    · obtain ⟨x, hx⟩ := h i hi; exact ⟨x, fun _ => hx⟩
    · exact ⟨(0, 0), fun e => absurd e hi⟩
  refine ⟨(List.range n).map fun i => ⟨(Classical.choose (h' i)).1, (Classical.choose (h' i)).2⟩, by simp, fun i hi => ?_⟩
  have hn : i < n := by simpa using hi
  have := Classical.choose_spec (h' i) hn
  simpa using this

theorem ops_len : ∀ l : List OpM, (l.flatMap OpM.cells).length = l.length * 2
  | [] => rfl
  | o :: r => by simp only [List.flatMap_cons, List.length_append, ops_len r, List.length_cons]; simp [OpM.cells]; omega
theorem open_ops {H : Type} {enc : TypeId × Value → H} {W : World} {base : Nat} {r : Reach} {v : Value} {d : DataW H} {ps : List MemPlace} (hv : Value.okWide Try.prog W r base 22 v)
    (h : DataW.Trod enc Try.prog W 0 (fun _ => true) true 22 v d ps) : ∃ l : List OpM, SlOps W v l ∧ l.length ≤ maxLen ∧ ∀ o ∈ l, 0 ≤ o.k ∧ o.k < 256 := by
  obtain ⟨a0, n0, c0, rfl⟩ := okWide_slice Try.underlying22 hv
  obtain ⟨fuel, hf⟩ := h
  rcases Go.Deep.open_slice_pairs Try.underlying22 fields48 (by kernel_rfl) (by kernel_rfl) (by kernel_rfl) (by kernel_rfl) (by kernel_rfl) hf with ⟨hcs, _⟩ | ⟨a, len, cap, m, n, V0, V1, D0, D1, P0, P1, hcs, _, hl, hm, hmm, _, hx⟩
  · simp [Value.cells] at hcs
    obtain ⟨rfl, rfl, rfl⟩ := hcs
    exact ⟨[], Sl.nil _ _, by simp, by simp⟩
  · simp [Value.cells] at hcs
    obtain ⟨rfl, rfl, rfl⟩ := hcs
    simp only [if_true] at hmm
    subst hmm
    obtain ⟨l, hll, hp⟩ := pick2 (n := n0) (p := fun i x => W.cell? (a.add (i * 2)) = some (.int .u8 x.1) ∧ W.cell? (a.add (i * 2 + 1)) = some (.int .i64 x.2) ∧ 0 ≤ x.1 ∧ x.1 < 256) (fun i hi => by
      obtain ⟨e0, e1, t0, t1⟩ := hx i (by omega)
      obtain ⟨k, hk, _, wk⟩ := DataW.trod_int (k := .u8) (by kernel_rfl) t0
      obtain ⟨x, hx1, _, _⟩ := DataW.trod_int (k := .i64) (by kernel_rfl) t1
      simp at hk hx1
      rw [hk] at e0
      rw [hx1] at e1
      have hb : 0 ≤ k ∧ k ≤ 255 := by simpa [Lit.wf, IntKind.min, IntKind.max, IntKind.signed, IntKind.bits] using wk
      exact ⟨(k, x), e0, e1, hb.1, by omega⟩)
    refine ⟨l, ?_, by omega, fun o ho => ?_⟩
    · refine ⟨ops_len l, some a, m, by rw [hll], by omega, hm, by simp, fun hpos => ?_⟩
      have hl0 : 0 < l.length := by
        rcases Nat.eq_zero_or_pos l.length with h0 | h0
        · rw [List.length_eq_zero_iff.1 h0] at hpos; simp at hpos
        · exact h0
      obtain ⟨b, off, spot⟩ := a
      have hspot : spot = none := by simpa [Addr.add] using World.cell?_spot (hp 0 hl0).1
      subst hspot
      refine ⟨b, off, rfl, fun j u hj => ?_⟩
      have hjl : j < (l.flatMap OpM.cells).length := (List.getElem?_eq_some_iff.1 hj).1
      have hlen : (l.flatMap OpM.cells).length = l.length * 2 := ops_len l
      have hi : j / 2 < l.length := by omega
      obtain ⟨q0, q1, _⟩ := hp (j / 2) hi
      obtain ⟨z0, z1⟩ := ops_cells l (j / 2) hi
      rw [add_plain] at q0 q1
      rcases Nat.mod_two_eq_zero_or_one j with hm2 | hm2
      · have e : j / 2 * 2 = j := by omega
        rw [e] at q0 z0
        rw [z0] at hj; cases hj
        exact q0
      · have e : j / 2 * 2 + 1 = j := by omega
        rw [e] at q1 z1
        rw [z1] at hj; cases hj
        exact q1
    · obtain ⟨i, hi, rfl⟩ := List.getElem_of_mem ho
      exact (hp i hi).2.2
end Go.Proofs.Ytekeabjclamfhaa
