/- What an end has of a list of payloads whose datagrams come in any order. -/
import Derived.Test.YtilmcdieihmiaaaRecv
namespace Go.Proofs.Ytilmcdieihmiaaa
open Go.RowKit

/-- All but that the next payload is not there. -/
structure Half (P : List Bytes) (C : Chan) (got : List Bytes) : Prop where
  recv : C.received ≤ P.length
  early : ∀ s l, C.early s = some l → ∃ k : Nat, s = (k : Int) + 1 ∧ C.received ≤ k ∧ P[k]? = some l
  got : got = P.take C.received
structure Inv (P : List Bytes) (C : Chan) (got : List Bytes) : Prop extends Half P C got where
  closed : C.early ((C.received : Int) + 1) = none
def Seen (C : Chan) (k : Nat) : Prop := k + 1 ≤ C.received ∨ C.early ((k : Int) + 1) ≠ none

theorem Half.take {P : List Bytes} {C : Chan} {got : List Bytes} {l : Bytes} (h : Half P C got) (he : C.early ((C.received : Int) + 1) = some l) : Half P C.take (got ++ [l]) := by
  obtain ⟨k, e, hk, hl⟩ := h.early _ _ he
  have : k = C.received := by omega
  subst this
  have hlt := (List.getElem?_eq_some_iff.1 hl).1
  refine ⟨by simp [Chan.take]; omega, fun s l hs => ?_, ?_⟩
  · simp only [Chan.take] at hs ⊢
    split at hs
    · simp at hs
    · next hne =>
      obtain ⟨k, e, hk, hl⟩ := h.early s l hs
      exact ⟨k, e, by omega, hl⟩
  · rw [h.got]
    simp only [Chan.take]
    rw [List.take_succ_eq_append_getElem hlt, (List.getElem?_eq_some_iff.1 hl).2]
theorem Seen.take {C : Chan} {k : Nat} (h : Seen C k) : Seen C.take k := by
  rcases h with h | h
  · exact .inl (by simp [Chan.take]; omega)
  · by_cases e : (k : Int) + 1 = (C.received : Int) + 1
    · exact .inl (by simp [Chan.take]; omega)
    · exact .inr (by simpa [Chan.take, e] using h)
theorem Dr.half {P : List Bytes} {C C' : Chan} {got outs : List Bytes} (h : Dr C C' outs) (hh : Half P C got) : Half P C' (got ++ outs) := by
  induction h with
  | refl => simpa using hh
  | step _ he ih => rw [← List.append_assoc]; exact ih.take he
theorem Dr.seen {C C' : Chan} {outs : List Bytes} {k : Nat} (h : Dr C C' outs) (hh : Seen C k) : Seen C' k := by
  induction h with
  | refl => exact hh
  | step _ _ ih => exact ih.take
theorem Half.put {P : List Bytes} {C : Chan} {got : List Bytes} {l : Bytes} {k : Nat} (h : Half P C got) (hk : P[k]? = some l) (hr : C.received < k + 1) : Half P (C.put (k + 1) l) got := by
  refine ⟨h.recv, fun s l' hs => ?_, h.got⟩
  simp only [Chan.put] at hs ⊢
  split at hs
  · next e => cases hs; exact ⟨k, by omega, by omega, hk⟩
  · exact h.early s l' hs
theorem Seen.put {C : Chan} {l : Bytes} {q k : Nat} (h : Seen C k) : Seen (C.put q l) k := by
  rcases h with h | h
  · exact .inl h
  · refine .inr ?_
    simp only [Chan.put]
    split
    · simp
    · exact h
theorem Inv.step {P : List Bytes} {C C' : Chan} {got outs : List Bytes} {l : Bytes} {k : Nat} (h : Inv P C got) (hk : P[k]? = some l) (hg : Got C (k + 1) l C' outs) : Inv P C' (got ++ outs) ∧ Seen C' k ∧ ∀ j, Seen C j → Seen C' j := by
  rcases hg with ⟨rfl, rfl, ht⟩ | ⟨hn, hr, hD, hno⟩
  · refine ⟨by simpa using h, ?_, fun _ hj => hj⟩
    rcases ht with ⟨l', ht⟩ | ht
    · exact .inr (by rw [show ((k : Int) + 1) = ((k + 1 : Nat) : Int) by omega, ht]; simp)
    · exact .inl ht
  · exact ⟨⟨hD.half (h.toHalf.put hk hr), hno⟩, hD.seen (.inr (by simp [Chan.put])), fun j hj => hD.seen hj.put⟩
theorem Inv.all {P : List Bytes} {C : Chan} {got : List Bytes} (h : Inv P C got) (hs : ∀ j, j < P.length → Seen C j) : got = P ∧ C.received = P.length := by
  have e : C.received = P.length := by
    rcases Nat.lt_or_ge C.received P.length with hlt | hge
    · rcases hs _ hlt with h1 | h1
      · omega
      · exact absurd h.closed h1
    · have := h.recv; omega
  exact ⟨by rw [h.got, e, List.take_length], e⟩
theorem Inv.near {P : List Bytes} {C : Chan} {got : List Bytes} (h : Inv P C got) (hP : P.length ≤ 1024) : C.near (C.received + 1024) := fun s hs => by
  cases he : C.early s with
  | none => exact absurd he hs
  | some l =>
    obtain ⟨k, rfl, hk, hl⟩ := h.early s l he
    have := (List.getElem?_eq_some_iff.1 hl).1
    omega
theorem Inv.start (P : List Bytes) : Inv P ⟨0, 0, 0, [], fun _ => none⟩ [] := ⟨⟨by simp, fun _ _ h => by simp at h, by simp⟩, rfl⟩
/-- The datagrams of payloads. -/
def dgs (P : List Bytes) : List Bytes := P.mapIdx fun j l => dataB (j + 1) l
theorem dgs_len (P : List Bytes) : (dgs P).length = P.length := by simp [dgs]
theorem dgs_get (P : List Bytes) (k : Nat) (h : k < P.length) : (dgs P)[k]'(by rw [dgs_len]; exact h) = dataB (k + 1) P[k] := by simp [dgs]
theorem dgs_step (P : List Bytes) (k : Nat) (h : k < P.length) : (dgs P).take k ++ [dataB (k + 1) P[k]] = (dgs P).take (k + 1) := by
  rw [List.take_succ_eq_append_getElem (by rw [dgs_len]; exact h), dgs_get P k h]
end Go.Proofs.Ytilmcdieihmiaaa
