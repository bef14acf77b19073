/- Slices of numbers among a law's arguments, opened. -/
import Derived.Test.YtekeabjclamfhaaOpen
namespace Go.Proofs.Ytekeabjclamfhaa
open Go.ChangeShapes Go.WideShapes Go.ChangeAt Go.RowKit

theorem open_nums {H : Type} {enc : TypeId × Value → H} {W : World} {base : Nat} {r : Reach} {v : Value} {d : DataW H} {ps : List MemPlace} {t e : TypeId} {k : IntKind} (ht : Try.prog.underlying t = some (.slice e)) (he : Try.prog.underlying e = some (.int k)) (hce : Try.prog.cellsOf e = 1)
    (hv : Value.okWide Try.prog W r base t v) (h : DataW.Trod enc Try.prog W 0 (fun _ => true) true t v d ps) : ∃ l : List Int, Sl W 1 v l.length (l.map (Value.int k)) ∧ l.length ≤ maxLen ∧ ∀ x ∈ l, (Lit.int k x).wf = true := by
  obtain ⟨a0, n0, c0, rfl⟩ := okWide_slice ht hv
  obtain ⟨fuel, hf⟩ := h
  rcases Go.Deep.open_slice1 ht hce hf with ⟨hcs, _⟩ | ⟨a, len, cap, m, n, V, D, Pl, hcs, _, hl, hm, hmm, _, hx⟩
  · simp [Value.cells] at hcs
    obtain ⟨rfl, rfl, rfl⟩ := hcs
    exact ⟨[], Sl.nil _ _, by simp, by simp⟩
  · simp [Value.cells] at hcs
    obtain ⟨rfl, rfl, rfl⟩ := hcs
    simp only [if_true] at hmm
    subst hmm
    have h' : ∀ i, ∃ x : Int, i < n0 → W.cell? (a.add i) = some (.int k x) ∧ (Lit.int k x).wf = true := fun i => by
      by_cases hi : i < n0
      · obtain ⟨e0, t0⟩ := hx i (by omega)
        obtain ⟨x, hx1, _, wx⟩ := DataW.trod_int he t0
        simp at hx1
        exact ⟨x, fun _ => ⟨by rw [e0, hx1], wx⟩⟩
      · exact ⟨0, fun e => absurd e hi⟩
    have hlen : ((List.range n0).map fun i => Classical.choose (h' i)).length = n0 := by simp
    have hget : ∀ i (hi : i < n0), ((List.range n0).map fun i => Classical.choose (h' i))[i]? = some (Classical.choose (h' i)) := fun i hi => by simp [hi]
    refine ⟨(List.range n0).map fun i => Classical.choose (h' i), ⟨by simp, some a, m, by rw [hlen], by rw [hlen]; exact hl, hm, by simp, fun hpos => ?_⟩, by rw [hlen]; omega, fun x hx1 => ?_⟩
    · have hn : 0 < n0 := by simpa using hpos
      obtain ⟨b, off, spot⟩ := a
      have hspot : spot = none := by simpa [Addr.add] using World.cell?_spot (Classical.choose_spec (h' 0) hn).1
      subst hspot
      refine ⟨b, off, rfl, fun j u hj => ?_⟩
      rw [List.getElem?_map] at hj
      have hjn : j < n0 := by
        rcases Nat.lt_or_ge j n0 with h | h
        · exact h
        · rw [List.getElem?_eq_none (by simpa using h)] at hj; simp at hj
      rw [hget j hjn] at hj
      simp at hj
      subst hj
      have := (Classical.choose_spec (h' j) hjn).1
      exact (congrArg W.cell? (add_plain b off j).symm).trans this
    · obtain ⟨i, hi, rfl⟩ := List.mem_map.1 hx1
      exact (Classical.choose_spec (h' i) (by simpa using hi)).2
theorem open_intl {H : Type} {enc : TypeId × Value → H} {W : World} {base : Nat} {r : Reach} {v : Value} {d : DataW H} {ps : List MemPlace} (hv : Value.okWide Try.prog W r base 25 v)
    (h : DataW.Trod enc Try.prog W 0 (fun _ => true) true 25 v d ps) : ∃ l : List Int, SlI W v l ∧ l.length ≤ maxLen ∧ ∀ x ∈ l, (Lit.int .i64 x).wf = true :=
  open_nums Try.underlying25 Try.underlying3 (by kernel_rfl) hv h
end Go.Proofs.Ytekeabjclamfhaa
