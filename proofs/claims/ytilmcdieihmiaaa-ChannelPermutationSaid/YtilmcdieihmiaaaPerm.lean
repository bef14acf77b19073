/- The walk of the law on datagrams in any order. -/
import Derived.Test.YtilmcdieihmiaaaWake
import Derived.Test.YtilmcdieihmiaaaArgs
import Derived.Test.YtilmcdieihmiaaaAppL
import Derived.Test.YtilmcdieihmiaaaPermP
namespace Go.Proofs.Ytilmcdieihmiaaa
open Go.RowKit

/-- What holds at the head of the first loop. -/
structure S1 (w wr : World) (P : List Bytes) (B ba ma bb mb : Nat) (i : Nat) (vk vall : Value) : Prop where
  a : Ch wr B ba ma 0 vk ⟨i, 0, 0, P.take i, fun _ => none⟩
  all : KL wr B vall ((dgs P).take i)
  b : Ch wr B bb mb 0 (.slice none 0 0) ⟨0, 0, 0, [], fun _ => none⟩
  sep : ∀ x, vk.ownBlock = some x → vall.ownBlock ≠ some x
  keeps : Keeps [] w wr
  kb : KB w wr
  size : B ≤ wr.heap.size
  short : ∀ j (h : j < P.length), j < i → P[j].length ≤ 100
/-- .. of the second. -/
structure S2 (w wr : World) (P : List Bytes) (M B bb mb j n : Nat) (C : Chan) (got : List Bytes) (vall vgot : Value) : Prop where
  all : KL wr B vall (dgs P)
  b : Ch wr B bb mb n (.slice none 0 0) C
  inv : Inv P C got
  got : KL wr B vgot got
  sep : ∀ x, vgot.ownBlock = some x → vall.ownBlock ≠ some x
  keeps : Keeps [] w wr
  size : B ≤ wr.heap.size
  count : n ≤ j
  seen : ∀ t, t < P.length → M + t < j → Seen C t
theorem ge_own {w : World} {B : Nat} {v : Value} {ls : List Bytes} (h : KL w B v ls) : ∀ b, v.ownBlock = some b → B ≤ b ∧ b < w.heap.size := fun b hb => by
  obtain ⟨cs, hown, _⟩ := h
  exact ⟨ownBlock_ge hown b hb, (hown.lt b hb).2⟩
theorem S1.send {w wr w3 : World} {P : List Bytes} {B ba ma bb mb i : Nat} {vk vall vk3 vd : Value} (h : S1 w wr P B ba ma bb mb i vk vall) (hw : w.heap.size ≤ B) (hi : i < P.length) (hBb : bb < B ∧ mb < B ∧ ba < B ∧ ma < B ∧ ba ≠ bb ∧ ba ≠ mb) (hba : w.heap.size ≤ ba) (hs : P[i].length ≤ 100)
    (hA : Ch w3 B ba ma 0 vk3 ⟨i + 1, 0, 0, P.take i ++ [P[i]], fun _ => none⟩) (hk : Keeps (ba :: vk.ownBlock.toList) wr w3) (hkb : KB wr w3) (ho : vk3.ownBlock = vk.ownBlock ∨ ∃ k, vk3.ownBlock = some k ∧ wr.heap.size ≤ k) (hd : SlB w3 vd (dataB (i + 1) P[i]))
    {v4 : Value} {w4 : World} (hL : KL w4 B v4 ((dgs P).take i ++ [dataB (i + 1) P[i]])) (hG : Grw (w3.alloc (.cells #[vd] 23)) w4 vall v4) (hkb4 : KB w3 w4) : S1 w w4 P B ba ma bb mb (i + 1) vk3 v4 := by
  have hvk := ge_own h.a.kept
  have hvall := ge_own h.all
  have hsz : wr.heap.size ≤ w3.heap.size := hk.size
  have hG' := hG.alloc_left
  have hk4 : Keeps vall.ownBlock.toList w3 w4 := hG'.keepsO
  have e1 : P.take i ++ [P[i]] = P.take (i + 1) := (List.take_succ_eq_append_getElem hi).symm
  rw [e1] at hA
  rw [dgs_step P i hi] at hL
  have hk3 := hvk
  have sep3 : ∀ x, vk3.ownBlock = some x → vall.ownBlock ≠ some x := fun x hx => by
    rcases ho with e | ⟨k, e, hk⟩
    · rw [e] at hx; exact h.sep x hx
    · rw [e] at hx; cases hx; intro e2; have := (hvall _ e2).2; omega
  have hvk3 := ge_own hA.kept
  refine ⟨hA.keepS hk4 ?_ ?_ ?_ hkb4, hL, (h.b.keepS hk ?_ ?_ ?_ hkb).keepS hk4 ?_ ?_ ?_ hkb4, ?_, (h.keeps.fresh hk ?_).fresh hk4 ?_, (h.kb.trans hkb).trans hkb4, by have := h.size; have := hk4.size; omega, ?_⟩
  · intro hm; have := (hvall ba (by simpa using hm)).1; omega
  · intro hm; have := (hvall ma (by simpa using hm)).1; omega
  · intro x hx e; exact sep3 x e (by simpa using hx)
  · intro hm; simp at hm; rcases hm with hm | hm; omega; have := (hvk _ hm).1; omega
  · intro hm; simp at hm; rcases hm with hm | hm; omega; have := (hvk _ hm).1; omega
  · simp [Value.ownBlock]
  · intro hm; have := (hvall bb (by simpa using hm)).1; omega
  · intro hm; have := (hvall mb (by simpa using hm)).1; omega
  · simp [Value.ownBlock]
  · intro x hx
    rcases hG'.own with e | ⟨k, e, hk⟩
    · rw [e]; exact sep3 x hx
    · rw [e]; intro e2; cases e2; have := (hvk3 _ hx).2; omega
  · intro x hx; simp at hx; rcases hx with rfl | hx; exact .inr hba; exact .inr (by have := (hvk _ hx).1; omega)
  · intro x hx; exact .inr (by have := (hvall x (by simpa using hx)).1; omega)
  · intro j hj hji
    by_cases e : j = i
    · subst e; exact hs
    · exact h.short j hj (by omega)
theorem S2.recv {w wr w3 w4 : World} {P : List Bytes} {M B bb mb j n n' k : Nat} {C C' : Chan} {got outs : List Bytes} {vall vgot vgot' : Value} (h : S2 w wr P M B bb mb j n C got vall vgot) (hw : w.heap.size ≤ B) (hBb : bb < B ∧ mb < B ∧ w.heap.size ≤ bb ∧ w.heap.size ≤ mb)
    (hk : k < P.length) (hkj : M ≤ j → k = j - M) (hB : Ch w3 B bb mb n' (.slice none 0 0) C') (hn : n' ≤ n + 1) (hg : Got C (k + 1) P[k] C' outs) (hk3 : Keeps [bb, mb] wr w3) (hkb3 : KB wr w3)
    (hL : KL w4 B vgot' (got ++ outs)) (hG : Grw w3 w4 vgot vgot') (hkb4 : KB w3 w4) : S2 w w4 P M B bb mb (j + 1) n' C' (got ++ outs) vall vgot' := by
  obtain ⟨i1, i2, i3⟩ := h.inv.step (List.getElem?_eq_getElem hk) hg
  have hgo := ge_own h.got
  have hao := ge_own h.all
  have hk4 : Keeps vgot.ownBlock.toList w3 w4 := hG.keepsO
  have hsz := hk3.size
  have hsz4 := hk4.size
  refine ⟨(h.all.keep hk3 ?_ hkb3).keep hk4 ?_ hkb4, hB.keepS hk4 ?_ ?_ ?_ hkb4, i1, hL, ?_, (h.keeps.fresh hk3 ?_).fresh hk4 ?_, by have := h.size; omega, by have := h.count; omega, ?_⟩
  · intro b hb e; have := (hao b e).1; simp at hb; omega
  · intro b hb e; exact h.sep b (by simpa using hb) e
  · intro hm; have := (hgo bb (by simpa using hm)).1; omega
  · intro hm; have := (hgo mb (by simpa using hm)).1; omega
  · simp [Value.ownBlock]
  · intro x hx
    rcases hG.own with e | ⟨k, e, hk⟩
    · rw [e] at hx; exact h.sep x hx
    · rw [e] at hx; cases hx; intro e2; have := (hao _ e2).2; omega
  · simp; omega
  · intro x hx; exact .inr (by have := (hgo x (by simpa using hx)).1; omega)
  · intro t ht htj
    by_cases e : M + t < j
    · exact i3 t (h.seen t ht e)
    · have : t = k := by have := hkj (by omega); omega
      subst this; exact i2
end Go.Proofs.Ytilmcdieihmiaaa
