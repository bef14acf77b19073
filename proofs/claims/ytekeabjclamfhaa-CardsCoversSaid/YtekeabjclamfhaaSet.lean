/- A map from int to true as the sorted list of its keys: what a store, a look-up and the sorted keys are in terms of the list. No program. -/
import Derived.Test.YtekeabjclamfhaaLib
import Derived.Lib.SlKeysI
namespace Go.Proofs.Ytekeabjclamfhaa
open Go.RowKit

/-- The datum of a map whose keys are `S`, each at true. -/
def encD (S : List Int) : DataW Unit := .map (S.map fun k => (Lit.int .i64 k, DataW.lit (.bool true)))
/-- A number put into a sorted list without repeats. -/
def ins (k : Int) : List Int → List Int
  | [] => [k]
  | x :: r => if k < x then k :: x :: r else if k = x then x :: r else x :: ins k r

def Asc (S : List Int) : Prop := S.Pairwise (· < ·)

theorem mem_ins {k x : Int} : ∀ {S : List Int}, x ∈ ins k S ↔ x = k ∨ x ∈ S
  | [] => by simp [ins]
  | y :: r => by
    unfold ins
    split
    · simp
    · split
      · rename_i h; subst h; simp; 
      · simp only [List.mem_cons, mem_ins (S := r)]
        constructor
        · rintro (h | h | h) <;> simp [h]
        · rintro (h | h | h) <;> simp [h]

theorem asc_ins {k : Int} : ∀ {S : List Int}, Asc S → Asc (ins k S)
  | [], _ => by simp [ins, Asc]
  | y :: r, h => by
    obtain ⟨h1, h2⟩ := List.pairwise_cons.1 h
    unfold ins
    split
    · rename_i hk
      exact List.pairwise_cons.2 ⟨fun z hz => by rcases List.mem_cons.1 hz with rfl | hz; exact hk; exact Int.lt_trans hk (h1 z hz), h⟩
    · split
      · exact h
      · rename_i ha hb
        refine List.pairwise_cons.2 ⟨fun z hz => ?_, asc_ins h2⟩
        rcases mem_ins.1 hz with rfl | hz
        · omega
        · exact h1 z hz

theorem ins_of_mem {k : Int} : ∀ {S : List Int}, Asc S → k ∈ S → ins k S = S
  | [], _, h => by simp at h
  | y :: r, h, hm => by
    obtain ⟨h1, h2⟩ := List.pairwise_cons.1 h
    unfold ins
    rcases List.mem_cons.1 hm with rfl | hm
    · simp
    · have := h1 k hm
      rw [if_neg (by omega), if_neg (by omega), ins_of_mem h2 hm]

theorem length_ins_le (k : Int) : ∀ (S : List Int), (ins k S).length ≤ S.length + 1
  | [] => by simp [ins]
  | y :: r => by
    unfold ins
    split
    · simp
    · split
      · simp
      · have := length_ins_le k r
        simp; omega

theorem insert_enc (k : Int) : ∀ (S : List Int), (∀ x ∈ S, k < x) → DataW.insert (Lit.int .i64 k, DataW.lit (H := Unit) (.bool true)) (S.map fun k => (Lit.int .i64 k, DataW.lit (.bool true))) = ((k :: S).map fun k => (Lit.int .i64 k, DataW.lit (.bool true)))
  | [], _ => rfl
  | y :: r, h => by
    have := h y (by simp)
    simp [DataW.insert, Lit.before, this]

theorem put_aux (k : Int) : ∀ {S : List Int}, Asc S →
    DataW.insert (Lit.int .i64 k, DataW.lit (H := Unit) (.bool true)) ((S.map fun k => (Lit.int .i64 k, DataW.lit (.bool true))).filter fun p => !p.1.sameKey (.int .i64 k)) = ((ins k S).map fun k => (Lit.int .i64 k, DataW.lit (.bool true)))
  | [], _ => rfl
  | y :: r, h => by
    obtain ⟨h1, h2⟩ := List.pairwise_cons.1 h
    have hfil : ∀ l : List Int, (∀ z ∈ l, z ≠ k) → ((l.map fun k => (Lit.int .i64 k, DataW.lit (H := Unit) (.bool true))).filter fun p => !p.1.sameKey (.int .i64 k)) = l.map fun k => (Lit.int .i64 k, DataW.lit (.bool true)) := by
      intro l hl
      rw [List.filter_eq_self]
      intro p hp
      obtain ⟨z, hz, rfl⟩ := List.mem_map.1 hp
      simp [Lit.sameKey, hl z hz]
    unfold ins
    by_cases hlt : k < y
    · rw [if_pos hlt, hfil _ (fun z hz => by rcases List.mem_cons.1 hz with rfl | hz; omega; have := h1 z hz; omega)]
      exact insert_enc k (y :: r) (fun z hz => by rcases List.mem_cons.1 hz with rfl | hz; exact hlt; have := h1 z hz; omega)
    · rw [if_neg hlt]
      by_cases he : k = y
      · subst he
        rw [if_pos rfl]
        have e0 : (!(Lit.int .i64 k).sameKey (.int .i64 k)) = false := by simp [Lit.sameKey]
        simp only [List.map_cons, List.filter_cons, e0, Bool.false_eq_true, if_false]
        rw [hfil r (fun z hz => by have := h1 z hz; omega)]
        exact insert_enc k r (fun z hz => h1 z hz)
      · rw [if_neg he]
        have e1 : (!(Lit.int .i64 y).sameKey (.int .i64 k)) = true := by simp [Lit.sameKey]; omega
        simp only [List.map_cons, List.filter_cons, e1, if_true]
        have hb : (Lit.int .i64 k).before (.int .i64 y) = false := by simp [Lit.before]; omega
        simp only [DataW.insert, hb, Bool.false_eq_true, if_false]
        rw [put_aux k h2]

theorem put_enc {k : Int} {S : List Int} (h : Asc S) : (encD S).put (.int .i64 k) (.lit (.bool true)) = encD (ins k S) := by
  exact congrArg DataW.map (put_aux k h)

theorem atKey_enc (k : Int) (S : List Int) : (encD S).atKey (.int .i64 k) (.lit (.bool false)) = .lit (.bool (decide (k ∈ S))) := by
  unfold encD DataW.atKey
  induction S with
  | nil => simp
  | cons y r ih =>
    by_cases h : y = k
    · subst h
      have e : (Lit.int .i64 y).sameKey (.int .i64 y) = true := by simp [Lit.sameKey]
      simp [List.find?_cons, e]
    · have e : (Lit.int .i64 y).sameKey (.int .i64 k) = false := by simp [Lit.sameKey, h]
      have h' : ¬ k = y := fun e => h e.symm
      simp only [List.map_cons, List.find?_cons, e, List.mem_cons, h', false_or]
      exact ih

theorem intKeys_enc (S : List Int) : intKeys (encD S) = S := by
  unfold encD intKeys
  induction S with
  | nil => rfl
  | cons x r ih => simp only [List.map_cons, Go.intOf]; exact congrArg (x :: ·) ih

theorem size_enc (S : List Int) : Maps.size (encD S) = S.length := by simp [encD, Maps.size]

/-- The sorted form of whatever has the keys in some order is the list itself. -/
theorem sorted_eq {ss S : List Int} (hp : ss.Perm S) (hS : Asc S) : ss.mergeSort (fun x y => decide (x ≤ y)) = S := by
  have h1 : (ss.mergeSort (fun x y => decide (x ≤ y))).Perm S := (List.mergeSort_perm ss _).trans hp
  have h2 : (ss.mergeSort (fun x y => decide (x ≤ y))).Pairwise (fun x y => decide (x ≤ y) = true) :=
    List.pairwise_mergeSort (by intro a b c h h'; simp at *; omega) (by intro a b; simp; omega) ss
  refine List.Perm.eq_of_pairwise (le := fun x y => x ≤ y) (fun a b _ _ h h' => Int.le_antisymm h h') (h2.imp (by simp)) (hS.imp (fun h => Int.le_of_lt h)) h1

/-- A new key goes before the first greater one. -/
theorem ins_split {k : Int} : ∀ {S : List Int}, Asc S → k ∉ S → ∀ n, n ≤ S.length → (∀ i (h : i < S.length), i < n → S[i] < k) → (∀ (h : n < S.length), ¬ S[n] < k) → S.take n ++ k :: S.drop n = ins k S
  | [], _, _, n, hn, _, _ => by simp at hn; subst hn; rfl
  | y :: r, h, hm, 0, _, _, h2 => by
    have := h2 (by simp)
    simp at this hm
    unfold ins
    rw [if_pos (by omega)]
    rfl
  | y :: r, h, hm, n + 1, hn, h1, h2 => by
    have hy := h1 0 (by simp) (by omega)
    simp at hy
    unfold ins
    rw [if_neg (by omega), if_neg (by omega)]
    simp only [List.take_succ_cons, List.drop_succ_cons, List.cons_append]
    rw [ins_split (List.pairwise_cons.1 h).2 (fun hx => hm (by simp [hx])) n (by simpa using hn) (fun i hi hin => h1 (i + 1) (by simp; omega) (by omega)) (fun hx => h2 (by simpa using hx))]
end Go.Proofs.Ytekeabjclamfhaa
