/- One list of byte strings behind another. -/
import Derived.Test.YtilmcdieihmiaaaRecv
namespace Go.Proofs.Ytilmcdieihmiaaa
open Go.RowKit

theorem wp_appL {o : Oper} {a : Act} {K : Act → World → Prop} {Q : Exit → Act → World → Prop} (w : World) (B : Nat) (v v2 : Value) (ls ms : List Bytes) (s t : Operand)
    (ho : o.op = .call { callee := .builtin .append, args := #[s, t], argTypes := #[22, 22] }) (hs : a.eval s = v) (ht : a.eval t = v2)
    (h : KL w B v ls) (hc : SLs w v2 ms) (hl : ls.length + ms.length < 1099511627776) (hB : B ≤ w.heap.size)
    (hK : ∀ v' w', KL w' B v' (ls ++ ms) → Grw w w' v v' → KB w w' → K (a.put o.dst v') w') : o.wp Try.prog a w K Q := by
  obtain ⟨i0, hi, hz0, hz1, hz2⟩ := info_parts infoL
  obtain ⟨cs, hown, hel, hall⟩ := h
  obtain ⟨ds, hsl, hel2⟩ := hc
  have hdl : ds.length = ms.length := by have := hsl.1; omega
  have hds : ∀ u ∈ ds, ∃ a n c, u = .slice a n c := fun u hu => by
    obtain ⟨k, hk, rfl⟩ := List.getElem_of_mem hu
    obtain ⟨a, c, e⟩ := (hel2 k ds[k] (ms[k]'(by omega)) (by simp) (by simp)).form
    exact ⟨a, _, c, e⟩
  refine wp_append_x s t _ ho B 23 i0 (.slice none 0 0) 1 24 Try.underlying22 hi hz0 hz1 hz2 rfl (by decide) v ls.length cs hs hown v2 ms.length ds ht hsl (fun u hu => by obtain ⟨a, n, c, rfl⟩ := hds u hu; rfl) (by unfold maxLen; omega) (by omega) hB ?_
  intro v' w' h1 h2 h3
  have hkb : KB w w' := h2.kb hall
  refine hK v' w' ⟨cs ++ ds, by simpa using h1, fun k c' l' e1 e2 => ?_, h3 noB (fun u hu => by obtain ⟨a, n, c, rfl⟩ := hds u hu; simp [noB]) (by simp [Value.cells, noB]) hall⟩ h2 hkb
  have hlen : cs.length = ls.length := by have := hown.1; omega
  rcases Nat.lt_or_ge k cs.length with hk | hk
  · rw [List.getElem?_append_left hk] at e1
    rw [List.getElem?_append_left (by omega)] at e2
    exact (hel k c' l' e1 e2).kb hkb
  · rw [List.getElem?_append_right hk] at e1
    rw [List.getElem?_append_right (by omega)] at e2
    rw [← hlen] at e2
    exact (hel2 _ c' l' e1 e2).kb hkb
/-- .. at the operation. -/
theorem wpl_appL {ops : Array Oper} {rest : List Oper} {o : Oper} {a : Act} {Q : Exit → Act → World → Prop} (w : World) (B : Nat) (v v2 : Value) (ls ms : List Bytes) (hg : o.guard = none) (s t : Operand)
    (ho : o.op = .call { callee := .builtin .append, args := #[s, t], argTypes := #[22, 22] }) (hs : a.eval s = v) (ht : a.eval t = v2)
    (h : KL w B v ls) (hc : SLs w v2 ms) (hl : ls.length + ms.length < 1099511627776) (hB : B ≤ w.heap.size)
    (hK : ∀ v' w', KL w' B v' (ls ++ ms) → Grw w w' v v' → KB w w' → wpList Try.prog ops Q rest (a.put o.dst v') w') : wpList Try.prog ops Q (o :: rest) a w :=
  wpList_plain hg fun _ hK' => wp_appL w B v v2 ls ms s t ho hs ht h hc hl hB fun v' w' h1 h2 h3 => hK' _ _ (hK v' w' h1 h2 h3)
end Go.Proofs.Ytilmcdieihmiaaa
