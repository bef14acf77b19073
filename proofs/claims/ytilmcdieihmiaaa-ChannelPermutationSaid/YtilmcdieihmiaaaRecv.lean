/- What an end does with a data datagram within its reach. -/
import Derived.Test.YtilmcdieihmiaaaReceive
import Derived.Test.YtilmcdieihmiaaaTexts
namespace Go.Proofs.Ytilmcdieihmiaaa
open Go.RowKit

/-- The end before and after a payload number `q`, and what it hands over. -/
def Got (C : Chan) (q : Nat) (l : Bytes) (C' : Chan) (outs : List Bytes) : Prop :=
  (C' = C ∧ outs = [] ∧ ((∃ l, C.early q = some l) ∨ q ≤ C.received)) ∨ (C.early q = none ∧ C.received < q ∧ Dr (C.put q l) C' outs ∧ C'.early ((C'.received : Int) + 1) = none)
theorem Dr.inv {C C' : Chan} {outs : List Bytes} (h : Dr C C' outs) : (outs = [] ∧ C' = C) ∨ ∃ l outs', C.early ((C.received : Int) + 1) = some l ∧ outs = l :: outs' ∧ Dr C.take C' outs' := by
  induction h with
  | refl => exact .inl ⟨rfl, rfl⟩
  | step h he ih =>
    rcases ih with ⟨rfl, rfl⟩ | ⟨l0, o, h1, rfl, h2⟩
    · exact .inr ⟨_, [], he, rfl, .refl⟩
    · exact .inr ⟨l0, _, h1, rfl, h2.step he⟩
theorem KL.nil (w : World) (B : Nat) : KL w B (.slice none 0 0) [] := ⟨[], World.ownsRow_nil _ _ _ _, by simp, fun g hg => by simp [Value.ownBlock] at hg⟩
theorem KL.sls {w : World} {B : Nat} {v : Value} {ls : List Bytes} (h : KL w B v ls) : SLs w v ls := by
  obtain ⟨cs, hown, hel, _⟩ := h
  exact ⟨cs, Sl.of_owns hown, hel⟩
set_option maxRecDepth 100000 in
set_option maxHeartbeats 1000000 in
theorem recv_c (w : World) (B bc bm n : Nat) (vk v0 : Value) (C : Chan) (q : Nat) (l : Bytes) (h : Ch w B bc bm n vk C) (hcb : vk.ownBlock ≠ some bc) (hp : SlB w v0 (dataB q l)) (hl : l.length ≤ 140737488350000) (hq0 : 0 < q) (hr : C.received < 1099511627776 - 2048) (hn : n < 1099511627776)
    (hf : q ≤ C.received + 1024) (hnear : C.near (C.received + 1024)) :
    Calls Try.prog 13 #[.pointer (some ⟨bc, 0, none⟩), v0] w fun e w' => ∃ v' C' outs n', e = .returned (.tuple #[v', .int .i64 0]) ∧ KL w' w.heap.size v' outs ∧ Ch w' B bc bm n' vk C' ∧ n' ≤ n + 1 ∧ Got C q l C' outs ∧ Keeps [bc, bm] w w' ∧ KB w w' := by
  have hlen := encU_len (n := q) (by omega)
  refine (receive_data (fun w1 v k w' => ∃ C' outs n', k = 0 ∧ KL w' w1.heap.size v outs ∧ Ch w' B bc bm n' vk C' ∧ n' ≤ n + 1 ∧ Got C q l C' outs ∧ Keeps [bc, bm] w1 w' ∧ KB w1 w') w bc v0 (encU q ++ l) l q hp (by simp; omega) (readU_encU q l (by omega)) hq0 ?_).mono ?_
  · intro w1 v1 hk1 hp1
    have h1 := h.keeps hk1
    have hsl : ∃ a m c, v1 = .slice a m c := by obtain ⟨a, c, rfl⟩ := hp1.form; exact ⟨_, _, _, rfl⟩
    by_cases ht : (∃ l, C.early q = some l) ∨ q ≤ C.received
    · refine (accept_twice w1 B bc bm n vk v1 C q h1 hsl (by omega) hf ht).mono ?_
      rintro e w2 ⟨rfl, hk2⟩
      exact ⟨_, _, rfl, C, [], n, rfl, KL.nil _ _, h1.keeps hk2, by omega, .inl ⟨rfl, rfl, ht⟩, hk2.of_nil, hk2.kb0⟩
    · have hn0 : C.early q = none := by
        cases he : C.early q with
        | none => rfl
        | some l => exact absurd (.inl ⟨l, he⟩) ht
      have hq1 : C.received < q := by
        rcases Nat.lt_or_ge C.received q with e | e
        · exact e
        · exact absurd (.inr e) ht
      refine (accept_new w1 B bc bm n vk v1 C q l h1 hcb hp1 (by omega) hr hn hf hnear hn0 hq1).mono ?_
      rintro e w2 ⟨v', C', outs, rfl, hL, hC, hD, hno, hk, hkb⟩
      exact ⟨_, _, rfl, C', outs, n + 1, rfl, hL, hC, Nat.le_refl _, .inr ⟨hn0, hq1, hD, hno⟩, hk, hkb⟩
  · rintro e w' ⟨v, k, w1, rfl, hk1, C', outs, n', rfl, hL, hC, hn', hg, hk, hkb⟩
    exact ⟨v, C', outs, n', rfl, hL.mono hk1.size, hC, hn', hg, hk1.of_nil.trans hk, hk1.kb0.trans hkb⟩
end Go.Proofs.Ytilmcdieihmiaaa
