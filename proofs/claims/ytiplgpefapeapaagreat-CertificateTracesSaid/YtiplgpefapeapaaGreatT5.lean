/- Texts that the laws lean on, in the order in which they build. The claims that follow from sorted answers, machine by machine; they are the only ones. A trace that is answered out of a table: the plain laws. Identities, needs and answers among a law's arguments, opened. The specification's trace: its value, what it says; New, answered, index. The lists of the specification's Answer: an answer recorded, a question opened; answers and history. The specification's sorted answers and claims: plain. The specification's less, lastUse, out. append(append(append([]E{}, ..), x), ..) in one region that draws its order: the facts of its operations. Of whatever program. The specification's Sorted. The specification's comparisons of needs and of claims. Trace.Claim, pending, Refuse. The specification's Claims and Claim. The specification's Agree and Refuse. The history of a trace that gathers holds the recorded answers: kept by the operations. The law's operations: their cells, what they do (plain). What holds of a trace after n operations (plain). A certificate, and what its check says (plain). -/
import Derived.Test.YtiplgpefapeapaaGreatT4
import Derived.Laws.Rows
import Derived.Deep.CutRange
set_option linter.unusedVariables false
set_option linter.unusedSimpArgs false
namespace Go.Proofs.YtiplgpefapeapaaGreat
open Go.RowKit

theorem snoc_ind {α : Type} {p : List α → Prop} (h0 : p []) (hs : ∀ l a, p l → p (l ++ [a])) (l : List α) : p l := by
  rw [← List.reverse_reverse l]
  induction l.reverse with
  | nil => exact h0
  | cons a r ih => rw [List.reverse_cons]; exact hs _ _ ih
theorem nil_or_snoc {α : Type} (l : List α) : l = [] ∨ ∃ r a, l = r ++ [a] := by
  induction l using snoc_ind with
  | h0 => exact .inl rfl
  | hs r a _ => exact .inr ⟨r, a, rfl⟩
/-- The machines that have answered, in the order of their first answers. -/
def msA (l : List Int) (a : Ans) : List Int := if l.getLast? = some a.m then l else l ++ [a.m]
def msOf (Y : List Ans) : List Int := Y.foldl msA []
def epOf (Y : List Ans) (m : Int) : Int := ((Y.find? (fun a => a.m == m)).map Ans.ep).getD 0
def stA (O : List (Qn × Int)) (m : Int) (a : Ans) : Option T3 := if a.m = m then (MapS.get (a.ow, a.m, a.n) O).map (fun o => (a.ow, a.n, o)) else none
def chA (O : List (Qn × Int)) (m : Int) (a : Ans) : Option T3 := if a.m = m ∧ MapS.get (a.ow, a.m, a.n) O = none then some (a.ow, a.n, 0) else none
def stOf (O : List (Qn × Int)) (Y : List Ans) (m : Int) : List T3 := Y.filterMap (stA O m)
def chOf (O : List (Qn × Int)) (Y : List Ans) (m : Int) : List T3 := Y.filterMap (chA O m)
def scN (t : Tr) (m : Int) (x : T3) : T3 := (x.1, x.2.1, luOf t (x.1, m, x.2.1))
def scS (t : Tr) (m : Int) (l : List T3) (x : T3) : List T3 := addN (scN t m x) l
def scA (t : Tr) (m : Int) (l : List T3) (a : Ans) : List T3 := if a.m = m then a.ins.foldl (scS t m) l else l
def scOf (t : Tr) (Y : List Ans) (m : Int) : List T3 := Y.foldl (scA t m) []
def clOf (t : Tr) (O : List (Qn × Int)) (Y : List Ans) (m : Int) : PCl := ⟨m, epOf Y m, stOf O Y m, scOf t Y m, chOf O Y m⟩

theorem updL_snoc (P : List PCl) (c : PCl) (j : Nat) (f : List T3 → List T3) : updL (P ++ [c]) j f = P ++ [c.upd j (f (c.at j))] := by
  rw [updL_at (n := P.length) (by simp)]
  simp
theorem openC_snoc (P : List PCl) (c : PCl) (a : Ans) : openC (P ++ [c]) a = if c.m = a.m then P ++ [c] else P ++ [c] ++ [⟨a.m, a.ep, [], [], []⟩] := by
  unfold openC
  have : (P ++ [c])[(P ++ [c]).length - 1]? = some c := by simp
  rw [this]
theorem sc_fold_snoc (t : Tr) (m : Int) (P : List PCl) : ∀ (l : List T3) (c : PCl), l.foldl (scC t m) (P ++ [c]) = P ++ [c.upd 1 (l.foldl (scS t m) c.sc)]
  | [], c => by simp [PCl.upd]
  | x :: r, c => by
    rw [List.foldl_cons, List.foldl_cons]
    unfold scC
    rw [updL_snoc]
    have ih := sc_fold_snoc t m P r (c.upd 1 (addN (x.1, x.2.1, luOf t (x.1, m, x.2.1)) (c.at 1)))
    unfold scC at ih
    rw [ih]
    rfl
theorem epOf_snoc {Y : List Ans} {m : Int} (h : ∃ b ∈ Y, b.m = m) (a : Ans) : epOf (Y ++ [a]) m = epOf Y m := by
  obtain ⟨b, hb, hm⟩ := h
  unfold epOf
  rw [List.find?_append]
  cases hf : Y.find? (fun a => a.m == m) with
  | some c => rfl
  | none =>
    rw [List.find?_eq_none] at hf
    have := hf b hb
    simp [hm] at this
theorem epOf_new {Y : List Ans} {a : Ans} (h : ∀ b ∈ Y, b.m ≠ a.m) : epOf (Y ++ [a]) a.m = a.ep := by
  unfold epOf
  rw [List.find?_append]
  have : Y.find? (fun b => b.m == a.m) = none := List.find?_eq_none.2 (fun b hb => by simpa using h b hb)
  rw [this]
  simp
theorem stOf_new {O : List (Qn × Int)} {Y : List Ans} {m : Int} (h : ∀ b ∈ Y, b.m ≠ m) : stOf O Y m = [] ∧ chOf O Y m = [] := by
  refine ⟨List.filterMap_eq_nil_iff.2 (fun a ha => ?_), List.filterMap_eq_nil_iff.2 (fun a ha => ?_)⟩
  · unfold stA; rw [if_neg (h a ha)]
  · unfold chA; rw [if_neg (fun e => h a ha e.1)]
theorem scOf_new {t : Tr} {m : Int} : ∀ {Y : List Ans} {l : List T3}, (∀ b ∈ Y, b.m ≠ m) → Y.foldl (scA t m) l = l
  | [], _, _ => rfl
  | a :: r, l, h => by
    rw [List.foldl_cons]
    have : scA t m l a = l := by unfold scA; rw [if_neg (h a (by simp))]
    rw [this]
    exact scOf_new (fun b hb => h b (by simp [hb]))
theorem clOf_snoc {t : Tr} {O : List (Qn × Int)} {Y : List Ans} {m : Int} {a : Ans} (hm : a.m ≠ m) (h : ∃ b ∈ Y, b.m = m) : clOf t O (Y ++ [a]) m = clOf t O Y m := by
  unfold clOf
  rw [epOf_snoc h]
  have e1 : stOf O (Y ++ [a]) m = stOf O Y m := by unfold stOf; rw [List.filterMap_append]; simp [stA, hm]
  have e2 : chOf O (Y ++ [a]) m = chOf O Y m := by unfold chOf; rw [List.filterMap_append]; simp [chA, hm]
  have e3 : scOf t (Y ++ [a]) m = scOf t Y m := by unfold scOf; rw [List.foldl_append]; simp [scA, hm]
  rw [e1, e2, e3]
/-- The raw claims, machine by machine. -/
theorem rawOf_eq (t : Tr) (O : List (Qn × Int)) (Y : List Ans) : Y.Pairwise (fun x y => qlt x.q y.q) → rawOf t O Y = (msOf Y).map (clOf t O Y) ∧ (msOf Y).Pairwise (· < ·) ∧ ∀ m, m ∈ msOf Y ↔ ∃ a ∈ Y, a.m = m := by
  induction Y using snoc_ind with
  | h0 => exact fun _ => ⟨rfl, List.Pairwise.nil, fun m => by simp [msOf]⟩
  | hs Y a ih =>
    intro hs
    obtain ⟨hs1, _, hs2⟩ := List.pairwise_append.1 hs
    obtain ⟨i1, i2, i3⟩ := ih hs1
    have hle : ∀ b ∈ Y, b.m ≤ a.m := fun b hb => by have := hs2 b hb a (by simp); unfold qlt Ans.q at this; simp only at this; omega
    have hmm : msOf (Y ++ [a]) = msA (msOf Y) a := by unfold msOf; rw [List.foldl_append]; rfl
    have hrr : rawOf t O (Y ++ [a]) = rawC t O (rawOf t O Y) a := by unfold rawOf; rw [List.foldl_append]; rfl
    obtain ⟨A, h1, h2, h3, h4, h5⟩ : ∃ A, msOf (Y ++ [a]) = A ++ [a.m] ∧ openC (rawOf t O Y) a = A.map (clOf t O Y) ++ [⟨a.m, epOf (Y ++ [a]) a.m, stOf O Y a.m, scOf t Y a.m, chOf O Y a.m⟩] ∧ (∀ m ∈ A, m < a.m) ∧ A.Pairwise (· < ·) ∧ ∀ m ∈ A, ∃ b ∈ Y, b.m = m := by
      rcases nil_or_snoc (msOf Y) with h | ⟨B, l, h⟩
      · have hY : ∀ b ∈ Y, b.m ≠ a.m := fun b hb _ => by
          have := (i3 b.m).2 ⟨b, hb, rfl⟩
          rw [h] at this; simp at this
        refine ⟨[], by rw [hmm, h]; rfl, ?_, by simp, List.Pairwise.nil, by simp⟩
        rw [i1, h, epOf_new hY, (stOf_new hY).1, (stOf_new hY).2]
        unfold scOf
        rw [scOf_new hY]
        rfl
      · have hl : l ∈ msOf Y := by rw [h]; simp
        obtain ⟨b, hb, hbl⟩ := (i3 l).1 hl
        have hBl : ∀ m ∈ B, m < l := fun m hm => by
          rw [h] at i2
          exact (List.pairwise_append.1 i2).2.2 m hm l (by simp)
        have hB : B.Pairwise (· < ·) := by rw [h] at i2; exact (List.pairwise_append.1 i2).1
        have hBY : ∀ m ∈ B, ∃ b ∈ Y, b.m = m := fun m hm => (i3 m).1 (by rw [h]; simp [hm])
        by_cases e : l = a.m
        · subst e
          refine ⟨B, by rw [hmm, h]; simp [msA], ?_, hBl, hB, hBY⟩
          rw [i1, h, List.map_append, List.map_cons, List.map_nil, openC_snoc, if_pos (show (clOf t O Y a.m).m = a.m from rfl), epOf_snoc ⟨b, hb, hbl⟩]
          rfl
        · have hla : l < a.m := by have := hle b hb; omega
          have hY : ∀ b ∈ Y, b.m ≠ a.m := fun c hc hca => by
            have := (i3 c.m).2 ⟨c, hc, rfl⟩
            rw [h] at this
            rcases List.mem_append.1 this with h6 | h6
            · have := hBl _ h6; omega
            · simp at h6; omega
          refine ⟨B ++ [l], by rw [hmm, h]; simp [msA, e], ?_, fun m hm => ?_, ?_, fun m hm => ?_⟩
          · rw [i1, h, List.map_append, List.map_cons, List.map_nil, openC_snoc, if_neg (show ¬ (clOf t O Y l).m = a.m from e), epOf_new hY, (stOf_new hY).1, (stOf_new hY).2]
            unfold scOf
            rw [scOf_new hY]
          · rcases List.mem_append.1 hm with h6 | h6
            · have := hBl _ h6; omega
            · simp at h6; omega
          · rw [← h]; exact i2
          · exact (i3 m).1 (by rw [h]; exact hm)
    refine ⟨?_, ?_, fun m => ?_⟩
    · rw [hrr, h1, List.map_append, List.map_cons, List.map_nil]
      have hA : A.map (clOf t O (Y ++ [a])) = A.map (clOf t O Y) := List.map_congr_left (fun m hm => clOf_snoc (by have := h3 m hm; omega) (h5 m hm))
      rw [hA]
      unfold rawC
      rw [h2]
      have e3 : scOf t (Y ++ [a]) a.m = a.ins.foldl (scS t a.m) (scOf t Y a.m) := by unfold scOf; rw [List.foldl_append]; simp [scA]
      unfold needC clOf
      cases hg : MapS.get (a.ow, a.m, a.n) O with
      | some o =>
        have e1 : stOf O (Y ++ [a]) a.m = stOf O Y a.m ++ [(a.ow, a.n, o)] := by unfold stOf; rw [List.filterMap_append]; simp [stA, hg]
        have e2 : chOf O (Y ++ [a]) a.m = chOf O Y a.m := by unfold chOf; rw [List.filterMap_append]; simp [chA, hg]
        simp only
        rw [updL_snoc, sc_fold_snoc, e1, e2, e3]
        rfl
      | none =>
        have e1 : stOf O (Y ++ [a]) a.m = stOf O Y a.m := by unfold stOf; rw [List.filterMap_append]; simp [stA, hg]
        have e2 : chOf O (Y ++ [a]) a.m = chOf O Y a.m ++ [(a.ow, a.n, 0)] := by unfold chOf; rw [List.filterMap_append]; simp [chA, hg]
        simp only
        rw [updL_snoc, sc_fold_snoc, e1, e2, e3]
        rfl
    · rw [h1, List.pairwise_append]
      exact ⟨h4, by simp, fun m hm k hk => by simp at hk; subst hk; exact h3 m hm⟩
    · rw [h1, List.mem_append]
      constructor
      · rintro (h6 | h6)
        · obtain ⟨b, hb, e⟩ := h5 m h6
          exact ⟨b, by simp [hb], e⟩
        · simp at h6; exact ⟨a, by simp, h6.symm⟩
      · rintro ⟨b, hb, e⟩
        rcases List.mem_append.1 hb with hb | hb
        · have := (i3 m).2 ⟨b, hb, e⟩
          have hb1 : m ∈ msA (msOf Y) a := by unfold msA; split <;> simp [this]
          rw [← hmm, h1] at hb1
          exact List.mem_append.1 hb1
        · simp at hb; subst hb; exact .inr (by simp [e])
/-- Keys that say their elements. -/
def KeyF (L : List T3) : Prop := ∀ x ∈ L, ∀ y ∈ L, x.1 = y.1 → x.2.1 = y.2.1 → x = y
theorem sortedT_uniq : ∀ {Y Z : List T3}, Y.Perm Z → Y.Pairwise (fun x y => ¬ tlt y x) → Z.Pairwise (fun x y => ¬ tlt y x) → KeyF Y → Y = Z
  | [], Z, hp, _, _, _ => by simpa using hp.symm
  | y :: Y, [], hp, _, _, _ => by simp at hp
  | y :: Y, z :: Z, hp, h1, h2, hk => by
    have e : y = z := by
      obtain ⟨a1, _⟩ := List.pairwise_cons.1 h1
      obtain ⟨b1, _⟩ := List.pairwise_cons.1 h2
      have hy : y ∈ z :: Z := hp.mem_iff.1 (by simp)
      have hz : z ∈ y :: Y := hp.mem_iff.2 (by simp)
      rcases List.mem_cons.1 hy with e | hy
      · exact e
      · rcases List.mem_cons.1 hz with e | hz2
        · exact e.symm
        · have c1 := a1 z hz2
          have c2 := b1 y hy
          unfold tlt at c1 c2
          exact hk y (by simp) z hz (by omega) (by omega)
    subst e
    rw [sortedT_uniq (List.perm_cons _ |>.1 hp) (List.pairwise_cons.1 h1).2 (List.pairwise_cons.1 h2).2 (fun a ha b hb => hk a (by simp [ha]) b (by simp [hb]))]
theorem addN_mem (n : T3) (l : List T3) (e : T3) : e ∈ addN n l ↔ e ∈ l ∨ e = n := by
  unfold addN
  split
  · rename_i h
    constructor
    · exact .inl
    · rintro (h1 | rfl)
      · exact h1
      · exact h
  · simp
theorem scs_mem (t : Tr) (m : Int) (e : T3) : ∀ (l : List T3) (acc : List T3), e ∈ l.foldl (scS t m) acc ↔ e ∈ acc ∨ ∃ x ∈ l, e = scN t m x
  | [], acc => by simp
  | x :: r, acc => by
    rw [List.foldl_cons, scs_mem t m e r]
    unfold scS
    rw [addN_mem]
    simp [or_assoc]
theorem scOf_mem (t : Tr) (Y : List Ans) (m : Int) (e : T3) : e ∈ scOf t Y m ↔ ∃ a ∈ Y, a.m = m ∧ ∃ x ∈ a.ins, e = scN t m x := by
  induction Y using snoc_ind with
  | h0 => simp [scOf]
  | hs Y a ih =>
    have : scOf t (Y ++ [a]) m = scA t m (scOf t Y m) a := by unfold scOf; rw [List.foldl_append]; rfl
    rw [this]
    unfold scA
    split
    · rename_i hm
      rw [scs_mem, ih]
      constructor
      · rintro (⟨b, hb, h⟩ | h)
        · exact ⟨b, by simp [hb], h⟩
        · exact ⟨a, by simp, hm, h⟩
      · rintro ⟨b, hb, h⟩
        rcases List.mem_append.1 hb with hb | hb
        · exact .inl ⟨b, hb, h⟩
        · simp at hb; subst hb; exact .inr h.2
    · rename_i hm
      rw [ih]
      constructor
      · rintro ⟨b, hb, h⟩
        exact ⟨b, by simp [hb], h⟩
      · rintro ⟨b, hb, h⟩
        rcases List.mem_append.1 hb with hb | hb
        · exact ⟨b, hb, h⟩
        · simp at hb; subst hb; exact absurd h.1 hm
theorem stOf_mem (O : List (Qn × Int)) (Y : List Ans) (m : Int) (e : T3) : e ∈ stOf O Y m ↔ ∃ a ∈ Y, a.m = m ∧ ∃ o, MapS.get (a.ow, m, a.n) O = some o ∧ e = (a.ow, a.n, o) := by
  unfold stOf
  rw [List.mem_filterMap]
  constructor
  · rintro ⟨a, ha, h⟩
    unfold stA at h
    split at h
    · rename_i hm
      obtain ⟨o, h1, h2⟩ := Option.map_eq_some_iff.1 h
      rw [hm] at h1
      exact ⟨a, ha, hm, o, h1, h2.symm⟩
    · cases h
  · rintro ⟨a, ha, hm, o, h1, rfl⟩
    refine ⟨a, ha, ?_⟩
    unfold stA
    rw [if_pos hm, hm, h1]; rfl
theorem chOf_mem (O : List (Qn × Int)) (Y : List Ans) (m : Int) (e : T3) : e ∈ chOf O Y m ↔ ∃ a ∈ Y, a.m = m ∧ MapS.get (a.ow, m, a.n) O = none ∧ e = (a.ow, a.n, 0) := by
  unfold chOf
  rw [List.mem_filterMap]
  constructor
  · rintro ⟨a, ha, h⟩
    unfold chA at h
    split at h
    · rename_i hm
      obtain ⟨h1, h2⟩ := hm
      rw [h1] at h2
      simp at h
      exact ⟨a, ha, h1, h2, h.symm⟩
    · cases h
  · rintro ⟨a, ha, hm, h1, rfl⟩
    refine ⟨a, ha, ?_⟩
    unfold chA
    rw [if_pos ⟨hm, by rw [hm]; exact h1⟩]
theorem out_fold (m : Int) (k : Qn) : ∀ (l : List T3) (acc : List (Qn × Int)), (MapS.get k (l.foldl (outA m) acc)).isSome = true ↔ (MapS.get k acc).isSome = true ∨ ∃ x ∈ l, k = (m, x.1, x.2.1)
  | [], acc => by simp
  | x :: r, acc => by
    rw [List.foldl_cons, out_fold m k r]
    have : (MapS.get k (outA m acc x)).isSome = true ↔ (MapS.get k acc).isSome = true ∨ k = (m, x.1, x.2.1) := by
      unfold outA
      split
      · rename_i h
        constructor
        · exact .inl
        · rintro (h1 | rfl)
          · exact h1
          · exact h
      · rename_i h
        rw [MapS.get_append]
        by_cases e : k = (m, x.1, x.2.1)
        · subst e
          simp [MapS.get]
        · have e' : ¬ (m, x.1, x.2.1) = k := fun h => e h.symm
          simp [MapS.get, e, e']
    rw [this]
    simp [or_assoc]
theorem outsOf_some (Y : List Ans) (k : Qn) : (MapS.get k (outsOf Y)).isSome = true ↔ ∃ a ∈ Y, ∃ x ∈ a.ins, k = (a.m, x.1, x.2.1) := by
  induction Y using snoc_ind with
  | h0 => simp [outsOf, MapS.get]
  | hs Y a ih =>
    have : outsOf (Y ++ [a]) = a.ins.foldl (outA a.m) (outsOf Y) := by unfold outsOf; rw [List.foldl_append]; rfl
    rw [this, out_fold, ih]
    constructor
    · rintro (⟨b, hb, h⟩ | h)
      · exact ⟨b, by simp [hb], h⟩
      · exact ⟨a, by simp, h⟩
    · rintro ⟨b, hb, h⟩
      rcases List.mem_append.1 hb with hb | hb
      · exact .inl ⟨b, hb, h⟩
      · simp at hb; subst hb; exact .inr h
/-- Answers of one machine have different owners or numbers. -/
theorem ans_uniq {Y : List Ans} (hs : Y.Pairwise (fun x y => qlt x.q y.q)) {a b : Ans} (ha : a ∈ Y) (hb : b ∈ Y) (h : a.q = b.q) : a = b := by
  induction hs with
  | nil => simp at ha
  | @cons y Y h1 _ ih =>
    rcases List.mem_cons.1 ha with ea | ha2
    · rcases List.mem_cons.1 hb with eb | hb2
      · rw [ea, eb]
      · have := h1 b hb2; rw [← ea, h] at this; exact absurd this (qlt_irrefl _)
    · rcases List.mem_cons.1 hb with eb | hb2
      · have := h1 a ha2; rw [← eb, h] at this; exact absurd this (qlt_irrefl _)
      · exact ih ha2 hb2
theorem clOf_key (t : Tr) (O : List (Qn × Int)) (Y : List Ans) (hs : Y.Pairwise (fun x y => qlt x.q y.q)) (m : Int) : ∀ j, j < 3 → KeyF ((clOf t O Y m).at j) := by
  intro j hj
  match j, hj with
  | 0, _ =>
    intro x hx y hy h1 h2
    obtain ⟨a, ha, hm, o, g1, rfl⟩ := (stOf_mem _ _ _ _).1 hx
    obtain ⟨b, hb, hm2, o2, g2, rfl⟩ := (stOf_mem _ _ _ _).1 hy
    have : a = b := ans_uniq hs ha hb (by simp only [Ans.q]; rw [hm, hm2, show a.ow = b.ow from h1, show a.n = b.n from h2])
    subst this
    rw [g1] at g2; cases g2; rfl
  | 1, _ =>
    intro x hx y hy h1 h2
    obtain ⟨a, ha, hm, u, hu, rfl⟩ := (scOf_mem _ _ _ _).1 hx
    obtain ⟨b, hb, hm2, v, hv, rfl⟩ := (scOf_mem _ _ _ _).1 hy
    simp only [scN] at h1 h2 ⊢
    rw [h1, h2]
  | 2, _ =>
    intro x hx y hy h1 h2
    obtain ⟨a, ha, hm, g1, rfl⟩ := (chOf_mem _ _ _ _).1 hx
    obtain ⟨b, hb, hm2, g2, rfl⟩ := (chOf_mem _ _ _ _).1 hy
    simp only at h1 h2 ⊢
    rw [h1, h2]
/-- The claims, each machine's own. -/
structure ClmAt (t : Tr) (Y : List Ans) (p : PCl) (mm : Int) : Prop where
  m : p.m = mm
  ep : p.ep = epOf Y mm
  at' : ∀ j, j < 3 → (p.at j).Perm ((clOf t (outsOf Y) Y mm).at j) ∧ (p.at j).Pairwise (fun x y => ¬ tlt y x)
theorem ClaimsP.at' {t : Tr} {Y : List Ans} {P : List PCl} (hs : Y.Pairwise (fun x y => qlt x.q y.q)) (h : ClaimsP t Y P) :
    P.length = (msOf Y).length ∧ ∀ (k : Nat) (h1 : k < P.length) (h2 : k < (msOf Y).length), ClmAt t Y P[k] (msOf Y)[k] := by
  obtain ⟨e1, _, _⟩ := rawOf_eq t (outsOf Y) Y hs
  unfold ClaimsP at h
  rw [e1] at h
  obtain ⟨h1, h2⟩ := h
  rw [List.length_map] at h1
  refine ⟨h1, fun k k1 k2 => ?_⟩
  obtain ⟨a1, a2, a3⟩ := h2 k k1 (by rw [List.length_map]; exact k2)
  simp only [List.getElem_map] at a1 a2 a3
  exact ⟨a1, a2, a3⟩
theorem ClaimsP.of_at {t : Tr} {Y : List Ans} {P : List PCl} (hs : Y.Pairwise (fun x y => qlt x.q y.q)) (h1 : P.length = (msOf Y).length) (h2 : ∀ (k : Nat) (h1 : k < P.length) (h2 : k < (msOf Y).length), ClmAt t Y P[k] (msOf Y)[k]) : ClaimsP t Y P := by
  obtain ⟨e1, _, _⟩ := rawOf_eq t (outsOf Y) Y hs
  unfold ClaimsP
  rw [e1]
  refine ⟨by rw [List.length_map]; exact h1, fun k k1 k2 => ?_⟩
  rw [List.length_map] at k2
  obtain ⟨a1, a2, a3⟩ := h2 k k1 k2
  simp only [List.getElem_map]
  exact ⟨a1, a2, a3⟩
theorem pcl_ext {p q : PCl} (h1 : p.m = q.m) (h2 : p.ep = q.ep) (h3 : ∀ j, j < 3 → p.at j = q.at j) : p = q := by
  obtain ⟨a, b, c, d, e⟩ := p
  obtain ⟨a', b', c', d', e'⟩ := q
  have e0 := h3 0 (by omega)
  have e1 := h3 1 (by omega)
  have e2 := h3 2 (by omega)
  simp only [PCl.at] at h1 h2 e0 e1 e2
  subst h1 h2 e0 e1 e2
  rfl
theorem KeyF.perm {L M : List T3} (h : KeyF L) (hp : M.Perm L) : KeyF M := fun x hx y hy => h x (hp.mem_iff.1 hx) y (hp.mem_iff.1 hy)
theorem ClmAt.uniq {t : Tr} {Y : List Ans} {p q : PCl} {m : Int} (hs : Y.Pairwise (fun x y => qlt x.q y.q)) (h : ClmAt t Y p m) (g : ClmAt t Y q m) : p = q :=
  pcl_ext (h.m.trans g.m.symm) (h.ep.trans g.ep.symm) (fun j hj => by
    obtain ⟨a1, a2⟩ := h.at' j hj
    obtain ⟨b1, b2⟩ := g.at' j hj
    exact sortedT_uniq (a1.trans b1.symm) a2 b2 ((clOf_key t _ Y hs m j hj).perm a1))
theorem ClaimsP.uniq {t : Tr} {Y : List Ans} {P Q : List PCl} (hs : Y.Pairwise (fun x y => qlt x.q y.q)) (h : ClaimsP t Y P) (g : ClaimsP t Y Q) : P = Q := by
  obtain ⟨h1, h2⟩ := h.at' hs
  obtain ⟨g1, g2⟩ := g.at' hs
  exact List.ext_getElem (h1.trans g1.symm) (fun k k1 k2 => (h2 k k1 (by omega)).uniq hs (g2 k k2 (by omega)))
theorem rawOf_congr {t u : Tr} (h : luOf t = luOf u) (O : List (Qn × Int)) (Y : List Ans) : rawOf t O Y = rawOf u O Y := by
  have h1 : scC t = scC u := by funext m P x; unfold scC; rw [h]
  have h2 : rawC t = rawC u := by funext O P a; unfold rawC; rw [h1]
  unfold rawOf
  rw [h2]
theorem ClaimsP.congr {t u : Tr} {Y : List Ans} {P : List PCl} (h : luOf t = luOf u) (g : ClaimsP t Y P) : ClaimsP u Y P := by
  unfold ClaimsP at g ⊢
  rw [← rawOf_congr h]
  exact g
end Go.Proofs.YtiplgpefapeapaaGreat

namespace Go.Proofs.YtiplgpefapeapaaGreat
open Go.RowKit

/-- The first answer of a table to a question. -/
def lookA (T : List Ans) (q : Qn) : Option Ans := T.find? (fun a => decide (a.q = q))
def ansOf (T : List Ans) (q : Qn) : Ans := (lookA T q).getD ⟨q.1, q.2.1, q.2.2, 0, false, false, 0, []⟩
theorem lookA_some {T : List Ans} {q : Qn} {a : Ans} (h : lookA T q = some a) : a ∈ T ∧ a.q = q := by
  unfold lookA at h
  exact ⟨List.mem_of_find?_eq_some h, by simpa using List.find?_some h⟩
theorem ansOf_q (T : List Ans) (q : Qn) : (ansOf T q).q = q := by
  unfold ansOf
  cases h : lookA T q with
  | none => rfl
  | some a => exact (lookA_some h).2
def askq (q : Qn) : T3 := (q.1, q.2.2, q.2.1)
def qask (e : T3) : Qn := (e.1, e.2.2, e.2.1)
theorem askOf_none (q : Qn) : askOf (q, none) = some (askq q) := rfl
theorem askOf_some (q : Qn) (a : Ans) : askOf (q, some a) = none := rfl
theorem ask_mem {qs : Qs} {e : T3} (h : e ∈ qs.filterMap askOf) : (qask e, none) ∈ qs := by
  obtain ⟨⟨q, u⟩, h1, h2⟩ := List.mem_filterMap.1 h
  cases u with
  | none => rw [askOf_none] at h2; cases h2; exact h1
  | some a => rw [askOf_some] at h2; cases h2
theorem fold_app (m : Int) : ∀ (l : List T3) (qs : Qs), ∃ N, l.foldl (openQ m) qs = qs ++ N ∧ (∀ p ∈ N, p.2 = none ∧ ∃ x ∈ l, p.1 = (x.1, m, x.2.1)) ∧ N.length ≤ l.length ∧ ∀ x ∈ l, (x.1, m, x.2.1) ∈ (qs ++ N).map (·.1)
  | [], qs => ⟨[], by simp, by simp, by simp, by simp⟩
  | x :: r, qs => by
    rw [List.foldl_cons]
    obtain ⟨N, h1, h2, h3, h4⟩ := fold_app m r (openQ m qs x)
    rw [h1]
    unfold openQ at h4 ⊢
    split
    · rename_i h
      rw [if_pos h] at h4
      refine ⟨N, rfl, fun p hp => ⟨(h2 p hp).1, ?_⟩, by simp; omega, fun y hy => ?_⟩
      · obtain ⟨y, hy, e⟩ := (h2 p hp).2
        exact ⟨y, by simp [hy], e⟩
      · rcases List.mem_cons.1 hy with rfl | hy
        · rw [List.map_append]; exact List.mem_append_left _ h
        · exact h4 y hy
    · rename_i h
      rw [if_neg h] at h4
      refine ⟨((x.1, m, x.2.1), none) :: N, by simp, fun p hp => ?_, by simp; omega, fun y hy => ?_⟩
      · rcases List.mem_cons.1 hp with rfl | hp
        · exact ⟨rfl, x, by simp, rfl⟩
        · obtain ⟨y, hy, e⟩ := (h2 p hp).2
          exact ⟨(h2 p hp).1, y, by simp [hy], e⟩
      · rcases List.mem_cons.1 hy with rfl | hy
        · simp
        · have := h4 y hy
          simpa using this
/-- No more answers than the table has. -/
theorem nodup_sub_len {α : Type} [DecidableEq α] : ∀ {l m : List α}, l.Nodup → (∀ x ∈ l, x ∈ m) → l.length ≤ m.length
  | [], _, _, _ => by simp
  | x :: l, m, hn, hs => by
    obtain ⟨h1, h2⟩ := List.nodup_cons.1 hn
    have hx := hs x (by simp)
    have := nodup_sub_len (l := l) (m := m.erase x) h2 (fun y hy => (List.mem_erase_of_ne (fun e => h1 (by rw [← e]; exact hy))).2 (hs y (by simp [hy])))
    have h3 := List.length_erase_of_mem hx
    have h4 := List.length_pos_of_mem hx
    simp; omega
end Go.Proofs.YtiplgpefapeapaaGreat

namespace Go.Proofs.YtiplgpefapeapaaGreat
open Go.ChangeShapes Go.WideShapes Go.ChangeAt Go.RowKit

/-- Numbers that fit. -/
structure Ans.Fit (a : Ans) : Prop where
  q : qOk a.q
  ep : W64 a.ep
  lu : W64 a.lu
  ins : ∀ x ∈ a.ins, W64 x.1 ∧ x.2.1 < 18446744073709551616 ∧ W64 x.2.2
theorem Ans.Fit.ok {a : Ans} (h : a.Fit) (hl : a.ins.length ≤ 100000) : a.Ok := ⟨h.q, h.ep, h.lu, h.ins, hl⟩
/-- The cells of an answer. -/
def AnC (w : World) (cs : List Value) (y : Ans) : Prop := ∃ x : AnV, cs = x.cs ∧ InR w x y ∧ y.Fit
theorem AnC.keeps {w w' : World} {cs : List Value} {y : Ans} (h : AnC w cs y) (hk : Keeps [] w w') : AnC w' cs y := by
  obtain ⟨x, h1, h2, h3⟩ := h
  exact ⟨x, h1, h2.keep hk (by simp), h3⟩
theorem u64_wf {z : Int} (h : (Lit.int .u64 z).wf = true) : ∃ n : Nat, z = n ∧ n < 18446744073709551616 := by
  have hb : 0 ≤ z ∧ z ≤ 18446744073709551615 := by simpa [Lit.wf, IntKind.min, IntKind.max, IntKind.signed, IntKind.bits] using h
  exact ⟨z.toNat, by omega, by omega⟩
theorem w64_wf {x : Int} (h : (Lit.int .i64 x).wf = true) : W64 x := by simpa [W64, Lit.wf, IntKind.min, IntKind.max, IntKind.signed, IntKind.bits] using h
set_option maxRecDepth 100000 in
set_option maxHeartbeats 1000000 in
theorem cs_tid {w : World} {cs : List Value} (h : Gen.Cs Tryz.prog w 25 cs) : ∃ a s, cs = [.int .i64 a, .int .i64 s] ∧ W64 a ∧ W64 s := by
  obtain ⟨hl, hall⟩ := Gen.Cs.struct Tryz.underlying25 h
  rw [show Tryz.prog.cellsOf 25 = 2 by kernel_rfl] at hl
  obtain ⟨a, b, rfl⟩ : ∃ a b, cs = [a, b] := by
    match cs, hl with
    | [a, b], _ => exact ⟨a, b, rfl⟩
  have h0 := hall 0 _ rfl
  have h1 := hall 1 _ rfl
  replace h0 : Gen.Cs Tryz.prog w 3 (([a, b].drop 0).take (Tryz.prog.cellsOf 3)) := h0
  replace h1 : Gen.Cs Tryz.prog w 3 (([a, b].drop 1).take (Tryz.prog.cellsOf 3)) := h1
  rw [show Tryz.prog.cellsOf 3 = 1 by kernel_rfl] at h0 h1
  obtain ⟨k, hk, wk⟩ := Gen.Cs.int Tryz.underlying3 h0
  obtain ⟨n, hn, wn⟩ := Gen.Cs.int Tryz.underlying3 h1
  simp at hk hn
  subst hk hn
  exact ⟨k, n, rfl, w64_wf wk, w64_wf wn⟩
set_option maxRecDepth 100000 in
set_option maxHeartbeats 1000000 in
theorem cs_t3 {w : World} {t : TypeId} {fs : Array Field} (ht : Tryz.prog.underlying t = some (.struct fs)) (hc : Tryz.prog.cellsOf t = 3) (hf : fs.toList.map (fun f => (f.type, f.offset)) = [(3, 0), (26, 1), (3, 2)]) {cs : List Value} (h : Gen.Cs Tryz.prog w t cs) :
    ∃ (x : T3), cs = shT.cf x ∧ W64 x.1 ∧ x.2.1 < 18446744073709551616 ∧ W64 x.2.2 := by
  obtain ⟨hl, hall⟩ := Gen.Cs.struct ht h
  rw [hc] at hl
  obtain ⟨f0, f1, f2, hfs⟩ : ∃ f0 f1 f2, fs = #[f0, f1, f2] := by
    obtain ⟨l⟩ := fs
    have hl := congrArg List.length hf
    simp only [List.length_map, List.length_cons, List.length_nil] at hl
    match l, hl with
    | [f0, f1, f2], _ => exact ⟨f0, f1, f2, rfl⟩
  subst hfs
  simp only [List.map_cons, List.map_nil, List.cons.injEq, Prod.mk.injEq, and_true] at hf
  obtain ⟨⟨t0, o0⟩, ⟨t1, o1⟩, t2, o2⟩ := hf
  obtain ⟨a, b, c, rfl⟩ : ∃ a b c, cs = [a, b, c] := by
    match cs, hl with
    | [a, b, c], _ => exact ⟨a, b, c, rfl⟩
  have h0 := hall 0 f0 rfl
  have h1 := hall 1 f1 rfl
  have h2 := hall 2 f2 rfl
  rw [t0, o0, show Tryz.prog.cellsOf 3 = 1 by kernel_rfl] at h0
  rw [t1, o1, show Tryz.prog.cellsOf 26 = 1 by kernel_rfl] at h1
  rw [t2, o2, show Tryz.prog.cellsOf 3 = 1 by kernel_rfl] at h2
  obtain ⟨k, hk, wk⟩ := Gen.Cs.int Tryz.underlying3 h0
  obtain ⟨n, hn, wn⟩ := Gen.Cs.int Tryz.underlying26 h1
  obtain ⟨m, hm, wm⟩ := Gen.Cs.int Tryz.underlying3 h2
  obtain ⟨n2, en, wn2⟩ := u64_wf wn
  rw [en] at hn
  simp at hk hn hm
  subst hk hn hm
  exact ⟨(k, n2, m), rfl, w64_wf wk, wn2, w64_wf wm⟩
set_option maxRecDepth 100000 in
set_option maxHeartbeats 1000000 in
theorem cs_need {w : World} {cs : List Value} (h : Gen.Cs Tryz.prog w tN cs) : ∃ (x : T3), cs = shT.cf x ∧ W64 x.1 ∧ x.2.1 < 18446744073709551616 ∧ W64 x.2.2 := cs_t3 Tryz.underlying28 (by kernel_rfl) rfl h
set_option maxRecDepth 100000 in
set_option maxHeartbeats 1000000 in
theorem cs_ins {w : World} {cs : List Value} (h : Gen.Cs Tryz.prog w tI cs) : ∃ (x : T3), cs = shT.cf x ∧ W64 x.1 ∧ x.2.1 < 18446744073709551616 ∧ W64 x.2.2 := cs_t3 Tryz.underlying66 (by kernel_rfl) rfl h
set_option maxRecDepth 100000 in
set_option maxHeartbeats 1000000 in
theorem cs_inset {w : World} {v : Value} (h : Gen.Cs Tryz.prog w 44 [v]) : ∃ L : List T3, shT.R w v L ∧ ∀ x ∈ L, W64 x.1 ∧ x.2.1 < 18446744073709551616 ∧ W64 x.2.2 := by
  obtain ⟨L, hL, _⟩ := Gen.SlR.open (R := fun _ cs (x : T3) => cs = shT.cf x ∧ W64 x.1 ∧ x.2.1 < 18446744073709551616 ∧ W64 x.2.2) Tryz.underlying44 (show Tryz.prog.cellsOf tI = 3 by kernel_rfl) (by decide) (fun cs hcs => cs_ins hcs) h
  refine ⟨L, Sh.R.of_slR (s := shT) (fun cs x h => h.1) hL, fun x hx => ?_⟩
  obtain ⟨k, hk, rfl⟩ := List.mem_iff_getElem.1 hx
  obtain ⟨cs, _, h2⟩ := hL
  exact (h2 k hk).2
set_option maxRecDepth 100000 in
set_option maxHeartbeats 1000000 in
theorem cs_ans {w : World} {cs : List Value} (h : Gen.Cs Tryz.prog w tA cs) : ∃ y, AnC w cs y := by
  obtain ⟨hl, hall⟩ := Gen.Cs.struct Tryz.underlying46 h
  rw [show Tryz.prog.cellsOf tA = 8 by kernel_rfl] at hl
  obtain ⟨a, b, c, d, e, f, g, i, rfl⟩ : ∃ a b c d e f g i, cs = [a, b, c, d, e, f, g, i] := by
    match cs, hl with
    | [a, b, c, d, e, f, g, i], _ => exact ⟨a, b, c, d, e, f, g, i, rfl⟩
  have h0 := hall 0 _ rfl
  have h1 := hall 1 _ rfl
  have h2 := hall 2 _ rfl
  have h3 := hall 3 _ rfl
  have h4 := hall 4 _ rfl
  have h5 := hall 5 _ rfl
  have h6 := hall 6 _ rfl
  have h7 := hall 7 _ rfl
  replace h0 : Gen.Cs Tryz.prog w 3 (([a, b, c, d, e, f, g, i].drop 0).take (Tryz.prog.cellsOf 3)) := h0
  replace h1 : Gen.Cs Tryz.prog w 3 (([a, b, c, d, e, f, g, i].drop 1).take (Tryz.prog.cellsOf 3)) := h1
  replace h2 : Gen.Cs Tryz.prog w 26 (([a, b, c, d, e, f, g, i].drop 2).take (Tryz.prog.cellsOf 26)) := h2
  replace h3 : Gen.Cs Tryz.prog w 3 (([a, b, c, d, e, f, g, i].drop 3).take (Tryz.prog.cellsOf 3)) := h3
  replace h4 : Gen.Cs Tryz.prog w 4 (([a, b, c, d, e, f, g, i].drop 4).take (Tryz.prog.cellsOf 4)) := h4
  replace h5 : Gen.Cs Tryz.prog w 4 (([a, b, c, d, e, f, g, i].drop 5).take (Tryz.prog.cellsOf 4)) := h5
  replace h6 : Gen.Cs Tryz.prog w 3 (([a, b, c, d, e, f, g, i].drop 6).take (Tryz.prog.cellsOf 3)) := h6
  replace h7 : Gen.Cs Tryz.prog w 44 (([a, b, c, d, e, f, g, i].drop 7).take (Tryz.prog.cellsOf 44)) := h7
  rw [show Tryz.prog.cellsOf 3 = 1 by kernel_rfl] at h0 h1 h3 h6
  rw [show Tryz.prog.cellsOf 26 = 1 by kernel_rfl] at h2
  rw [show Tryz.prog.cellsOf 4 = 1 by kernel_rfl] at h4 h5
  rw [show Tryz.prog.cellsOf 44 = 1 by kernel_rfl] at h7
  obtain ⟨z0, e0, w0⟩ := Gen.Cs.int Tryz.underlying3 h0
  obtain ⟨z1, e1, w1⟩ := Gen.Cs.int Tryz.underlying3 h1
  obtain ⟨z2, e2, w2⟩ := Gen.Cs.int Tryz.underlying26 h2
  obtain ⟨z3, e3, w3⟩ := Gen.Cs.int Tryz.underlying3 h3
  obtain ⟨z4, e4⟩ := Gen.Cs.bool Tryz.underlying4 h4
  obtain ⟨z5, e5⟩ := Gen.Cs.bool Tryz.underlying4 h5
  obtain ⟨z6, e6, w6⟩ := Gen.Cs.int Tryz.underlying3 h6
  obtain ⟨y2, ey2, wy2⟩ := u64_wf w2
  rw [ey2] at e2
  simp at e0 e1 e2 e3 e4 e5 e6 h7
  subst e0 e1 e2 e3 e4 e5 e6
  obtain ⟨L, hL, hLf⟩ := cs_inset h7
  obtain ⟨x, k, rfl, _⟩ := hL.form
  exact ⟨⟨z0, z1, y2, z3, z4, z5, z6, L⟩, ⟨z0, z1, y2, z3, z4, z5, z6, x, L.length, k⟩, rfl, ⟨rfl, rfl, rfl, rfl, rfl, rfl, rfl, hL⟩, ⟨⟨w64_wf w0, w64_wf w1, wy2⟩, w64_wf w3, w64_wf w6, hLf⟩⟩
set_option maxRecDepth 100000 in
set_option maxHeartbeats 1000000 in
theorem open_tid {H : Type} {enc : TypeId × Value → H} {W : World} {base : Nat} {r : Reach} {v : Value} {d : DataW H} {ps : List MemPlace} (hv : Value.okWide Tryz.prog W r base 25 v)
    (h : DataW.Trod enc Tryz.prog W 0 (fun _ => true) true 25 v d ps) : ∃ (a s : Int), v = .agg #[.int .i64 a, .int .i64 s] ∧ W64 a ∧ W64 s := by
  obtain ⟨a, s, hc, ha, hs⟩ := cs_tid (Gen.Cs.of_agg h)
  obtain ⟨cs, rfl, _⟩ := okWide_struct Tryz.underlying25 hv
  refine ⟨a, s, ?_, ha, hs⟩
  have : cs.toList = [.int .i64 a, .int .i64 s] := hc
  rw [← Array.toArray_toList (xs := cs), this]
set_option maxRecDepth 100000 in
set_option maxHeartbeats 1000000 in
theorem open_need {H : Type} {enc : TypeId × Value → H} {W : World} {base : Nat} {r : Reach} {v : Value} {d : DataW H} {ps : List MemPlace} (hv : Value.okWide Tryz.prog W r base 28 v)
    (h : DataW.Trod enc Tryz.prog W 0 (fun _ => true) true 28 v d ps) : ∃ x : T3, v = tV x ∧ W64 x.1 ∧ x.2.1 < 18446744073709551616 ∧ W64 x.2.2 := by
  obtain ⟨x, hc, hw⟩ := cs_need (Gen.Cs.of_agg h)
  obtain ⟨cs, rfl, _⟩ := okWide_struct Tryz.underlying28 hv
  refine ⟨x, ?_, hw⟩
  have : cs.toList = shT.cf x := hc
  rw [← Array.toArray_toList (xs := cs), this]
  rfl
end Go.Proofs.YtiplgpefapeapaaGreat

namespace Go.Proofs.YtiplgpefapeapaaGreat
open Go.RowKit

theorem InR.keeps {w w' : World} {x : AnV} {y : Ans} (h : InR w x y) (hk : Keeps [] w w') : InR w' x y := h.keep hk (by simp)
theorem InA.r {w : World} {x : AnV} {y : Ans} (h : InA w x y) : InR w x y := ⟨h.m, h.ow, h.n, h.ep, h.kn, h.rt, h.lu, h.ins.r⟩
def LRd (w : World) (X : List AnV) (Y : List Ans) : Prop := X.length = Y.length ∧ ∀ (k : Nat) (x : AnV) (y : Ans), X[k]? = some x → Y[k]? = some y → InR w x y
theorem LRd.keeps {w w' : World} {X : List AnV} {Y : List Ans} (h : LRd w X Y) (hk : Keeps [] w w') : LRd w' X Y := ⟨h.1, fun k x p h1 h2 => (h.2 k x p h1 h2).keeps hk⟩
end Go.Proofs.YtiplgpefapeapaaGreat

namespace Go.Proofs.YtiplgpefapeapaaGreat
open Go.RowKit

theorem LRd.snoc {w : World} {X : List AnV} {Y : List Ans} {x : AnV} {y : Ans} (h : LRd w X Y) (hx : InR w x y) : LRd w (X ++ [x]) (Y ++ [y]) := by
  obtain ⟨hl, hh⟩ := h
  refine ⟨by simp [hl], fun k u v hu hv => ?_⟩
  by_cases hk : k < X.length
  · rw [List.getElem?_append_left hk] at hu
    rw [List.getElem?_append_left (by omega)] at hv
    exact hh k u v hu hv
  · rw [List.getElem?_append_right (by omega)] at hu hv
    rw [← hl] at hv
    obtain ⟨j, hj⟩ : ∃ j, k - X.length = j := ⟨_, rfl⟩
    rw [hj] at hu hv
    cases j with
    | zero => simp at hu hv; subst hu hv; exact hx
    | succ j => simp at hu
/-- While a trace gathers, its history are the recorded answers. -/
def Tr.HistOk (t : Tr) : Prop := t.state = 0 → ∀ b, b ∈ t.hist ↔ ∃ p ∈ t.rec', p.2 = b
end Go.Proofs.YtiplgpefapeapaaGreat

namespace Go.Proofs.YtiplgpefapeapaaGreat
open Go.RowKit

/-- A need is put in its place, if there is none with its key. -/
def putN (n : T3) : List T3 → List T3
  | [] => [n]
  | x :: r => if tlt x n then x :: putN n r else if x.1 = n.1 ∧ x.2.1 = n.2.1 then x :: r else n :: x :: r
theorem putN_at (n : T3) : ∀ (l : List T3) (i : Nat), i ≤ l.length → (∀ j (hj : j < l.length), j < i → tlt l[j] n) → (∀ (hi : i < l.length), ¬ tlt l[i] n) →
    putN n l = if (∃ hi : i < l.length, l[i].1 = n.1 ∧ l[i].2.1 = n.2.1) then l else l.take i ++ n :: l.drop i
  | [], i, hi, _, _ => by
    have : i = 0 := by simpa using hi
    subst this
    simp [putN]
  | x :: r, 0, _, _, h2 => by
    have h0 := h2 (by simp)
    simp only [List.getElem_cons_zero] at h0
    simp only [putN, if_neg h0]
    simp
  | x :: r, i + 1, hi, h1, h2 => by
    have h0 := h1 0 (by simp) (by omega)
    simp only [List.getElem_cons_zero] at h0
    have ih := putN_at n r i (by simpa using hi) (fun j hj hji => by have := h1 (j + 1) (by simpa using hj) (by omega); simpa using this) (fun hi => by have := h2 (by simpa using hi); simpa using this)
    simp only [putN, if_pos h0, ih]
    by_cases e : ∃ hi : i < r.length, r[i].1 = n.1 ∧ r[i].2.1 = n.2.1
    · rw [if_pos e, if_pos]
      obtain ⟨e1, e2⟩ := e
      exact ⟨by simpa using e1, by simpa using e2⟩
    · rw [if_neg e, if_neg]
      · simp
      · rintro ⟨e1, e2⟩
        exact e ⟨by simpa using e1, by simpa using e2⟩
theorem putN_mem {n e : T3} : ∀ {l : List T3}, e ∈ putN n l → e ∈ l ∨ e = n
  | [], h => by simp [putN] at h; exact .inr h
  | x :: r, h => by
    unfold putN at h
    split at h
    · rcases List.mem_cons.1 h with rfl | h
      · exact .inl (by simp)
      · rcases putN_mem h with h | h
        · exact .inl (by simp [h])
        · exact .inr h
    · split at h
      · exact .inl h
      · rcases List.mem_cons.1 h with rfl | h
        · exact .inr rfl
        · exact .inl h
theorem tlt_trans {x y z : T3} : tlt x y → tlt y z → tlt x z := by unfold tlt; omega
theorem putN_sorted {n : T3} : ∀ {l : List T3}, l.Pairwise tlt → (putN n l).Pairwise tlt
  | [], _ => by simp [putN]
  | x :: r, h => by
    obtain ⟨h1, h2⟩ := List.pairwise_cons.1 h
    unfold putN
    split
    · rename_i hx
      refine List.pairwise_cons.2 ⟨fun e he => ?_, putN_sorted h2⟩
      rcases putN_mem he with he | rfl
      · exact h1 e he
      · exact hx
    · rename_i hx
      split
      · exact h
      · rename_i hk
        have hn : tlt n x := by unfold tlt at hx ⊢; omega
        refine List.pairwise_cons.2 ⟨fun e he => ?_, h⟩
        rcases List.mem_cons.1 he with rfl | he
        · exact hn
        · exact tlt_trans hn (h1 e he)
theorem putN_new {n : T3} : ∀ {l : List T3}, (∀ x ∈ l, ¬ (x.1 = n.1 ∧ x.2.1 = n.2.1)) → (putN n l).Perm (n :: l)
  | [], _ => by simp [putN]
  | x :: r, h => by
    unfold putN
    split
    · exact ((putN_new (fun y hy => h y (by simp [hy]))).cons x).trans (List.Perm.swap _ _ _)
    · rw [if_neg (h x (by simp))]
theorem putN_old {n : T3} : ∀ {l : List T3}, l.Pairwise tlt → (∃ x ∈ l, x.1 = n.1 ∧ x.2.1 = n.2.1) → putN n l = l
  | [], _, h => by simp at h
  | x :: r, hs, h => by
    obtain ⟨h1, h2⟩ := List.pairwise_cons.1 hs
    unfold putN
    obtain ⟨y, hy, hk⟩ := h
    rcases List.mem_cons.1 hy with rfl | hy
    · rw [if_neg (by unfold tlt; omega), if_pos hk]
    · have hxy := h1 y hy
      rw [if_pos (by unfold tlt at *; omega), putN_old h2 ⟨y, hy, hk⟩]
/-- An answer is put in its place. -/
def insA (a : Ans) : List Ans → List Ans
  | [] => [a]
  | x :: r => if qlt x.q a.q then x :: insA a r else a :: x :: r
theorem insA_perm (a : Ans) : ∀ l : List Ans, (insA a l).Perm (a :: l)
  | [] => by simp [insA]
  | x :: r => by
    unfold insA
    split
    · exact ((insA_perm a r).cons x).trans (List.Perm.swap _ _ _)
    · exact List.Perm.refl _
theorem insA_sorted {a : Ans} : ∀ {l : List Ans}, l.Pairwise (fun x y => qlt x.q y.q) → (∀ x ∈ l, x.q ≠ a.q) → (insA a l).Pairwise (fun x y => qlt x.q y.q)
  | [], _, _ => by simp [insA]
  | x :: r, h, hn => by
    obtain ⟨h1, h2⟩ := List.pairwise_cons.1 h
    unfold insA
    split
    · rename_i hx
      refine List.pairwise_cons.2 ⟨fun e he => ?_, insA_sorted h2 (fun y hy => hn y (by simp [hy]))⟩
      rcases List.mem_cons.1 ((insA_perm a r).mem_iff.1 he) with rfl | he
      · exact hx
      · exact h1 e he
    · rename_i hx
      have hax : qlt a.q x.q := by
        by_cases e : qlt a.q x.q
        · exact e
        · exact absurd (qlt_total hx e) (hn x (by simp))
      refine List.pairwise_cons.2 ⟨fun e he => ?_, h⟩
      rcases List.mem_cons.1 he with rfl | he
      · exact hax
      · exact qlt_trans hax (h1 e he)
/-- The answers of the questions, in the order of the questions, put in their places. -/
def insO (l : List Ans) (p : Qn × Option Ans) : List Ans := match p.2 with
  | some a => insA a l
  | none => l
def srtOf (qs : Qs) : List Ans := qs.foldl insO []
theorem rec_vals : ∀ qs : Qs, (recOf qs).map (·.2) = qs.filterMap (·.2)
  | [] => rfl
  | (x, none) :: r => by rw [recOf_none, rec_vals r]; rfl
  | (x, some a) :: r => by rw [recOf_some, List.map_cons, rec_vals r]; rfl
theorem srt_fold : ∀ (qs : Qs) (l : List Ans), (qs.foldl insO l).Perm (l ++ qs.filterMap (·.2))
  | [], l => by simp
  | (x, none) :: r, l => by
    rw [List.foldl_cons]
    exact (srt_fold r l).trans (by simp)
  | (x, some a) :: r, l => by
    rw [List.foldl_cons]
    refine (srt_fold r (insA a l)).trans ?_
    rw [show List.filterMap (fun x : Qn × Option Ans => x.2) ((x, some a) :: r) = a :: List.filterMap (fun x => x.2) r from rfl]
    exact ((insA_perm a l).append_right _).trans List.perm_middle.symm
theorem srt_sorted : ∀ (qs : Qs) (l : List Ans), l.Pairwise (fun x y => qlt x.q y.q) → ((l ++ qs.filterMap (·.2)).map Ans.q).Nodup → (qs.foldl insO l).Pairwise (fun x y => qlt x.q y.q)
  | [], l, h, _ => h
  | (x, none) :: r, l, h, hn => by
    rw [List.foldl_cons]
    exact srt_sorted r l h (by simpa using hn)
  | (x, some a) :: r, l, h, hn => by
    rw [List.foldl_cons]
    rw [show List.filterMap (fun x : Qn × Option Ans => x.2) ((x, some a) :: r) = a :: List.filterMap (fun x => x.2) r from rfl] at hn
    refine srt_sorted r (insA a l) (insA_sorted h (fun y hy e => ?_)) ?_
    · rw [List.map_append, List.nodup_append] at hn
      exact hn.2.2 y.q (List.mem_map.2 ⟨y, hy, rfl⟩) a.q (by simp) e
    · exact (((insA_perm a l).append_right _).trans List.perm_middle.symm |>.map Ans.q).nodup_iff.2 hn
theorem srtOf_sorted {t : Tr} (h : t.Inv) : SortedA t (srtOf t.qs) := by
  have hv : t.rec'.map (·.2) = t.qs.filterMap (·.2) := rec_vals t.qs
  refine ⟨?_, srt_sorted _ _ List.Pairwise.nil ?_⟩
  · rw [hv]
    have := srt_fold t.qs []
    rw [List.nil_append] at this
    exact this
  · rw [List.nil_append, ← hv, List.map_map]
    have e : t.rec'.map (Ans.q ∘ (·.2)) = t.rec'.map (·.1) := List.map_congr_left (fun p hp => h.rq p hp)
    rw [e]
    exact recOf_nd h.nd
/-- One answer's needs, as the specification notes them. -/
def stR (O : List (Qn × Int)) (a : Ans) (l : List T3) : List T3 := match MapS.get (a.ow, a.m, a.n) O with
  | some o => putN (a.ow, a.n, o) l
  | none => l
def chR (O : List (Qn × Int)) (a : Ans) (l : List T3) : List T3 := match MapS.get (a.ow, a.m, a.n) O with
  | some _ => l
  | none => putN (a.ow, a.n, 0) l
def scR (t : Tr) (m : Int) (l : List T3) (x : T3) : List T3 := putN (scN t m x) l
def refA (t : Tr) (O : List (Qn × Int)) (c : PCl) (a : Ans) : PCl := ⟨c.m, c.ep, stR O a c.st, a.ins.foldl (scR t a.m) c.sc, chR O a c.ch⟩
def refC (t : Tr) (O : List (Qn × Int)) (P : List PCl) (a : Ans) : List PCl := let Q := openC P a; match Q[Q.length - 1]? with
  | some c => Q.take (Q.length - 1) ++ [refA t O c a]
  | none => Q
def refOf (t : Tr) (O : List (Qn × Int)) (Y : List Ans) : List PCl := Y.foldl (refC t O) []
theorem refC_at {t : Tr} {O : List (Qn × Int)} {P R : List PCl} {a : Ans} {c : PCl} (h : openC P a = R ++ [c]) : refC t O P a = R ++ [refA t O c a] := by
  unfold refC
  rw [h]
  simp
/-- Both ways of noting, side by side. -/
structure RC1 (t : Tr) (Z : List Ans) (p p' : PCl) : Prop where
  m : p'.m = p.m
  ep : p'.ep = p.ep
  perm : ∀ j, j < 3 → (p'.at j).Perm (p.at j)
  srt : ∀ j, j < 3 → (p'.at j).Pairwise tlt
  lu : ∀ e ∈ p.sc, e.2.2 = luOf t (e.1, p.m, e.2.1)
  st : ∀ e ∈ p.st, ∃ b ∈ Z, b.m = p.m ∧ b.ow = e.1 ∧ b.n = e.2.1
  ch : ∀ e ∈ p.ch, ∃ b ∈ Z, b.m = p.m ∧ b.ow = e.1 ∧ b.n = e.2.1
structure RC (t : Tr) (Z : List Ans) (P P' : List PCl) : Prop where
  len : P'.length = P.length
  at' : ∀ k (h1 : k < P'.length) (h2 : k < P.length), RC1 t Z P[k] P'[k]
theorem RC1.mono {t : Tr} {Z Z' : List Ans} {p p' : PCl} (h : RC1 t Z p p') (hz : ∀ b ∈ Z, b ∈ Z') : RC1 t Z' p p' :=
  ⟨h.m, h.ep, h.perm, h.srt, h.lu, fun e he => by obtain ⟨b, hb, r⟩ := h.st e he; exact ⟨b, hz b hb, r⟩, fun e he => by obtain ⟨b, hb, r⟩ := h.ch e he; exact ⟨b, hz b hb, r⟩⟩
theorem RC.mono {t : Tr} {Z Z' : List Ans} {P P' : List PCl} (h : RC t Z P P') (hz : ∀ b ∈ Z, b ∈ Z') : RC t Z' P P' := ⟨h.len, fun k h1 h2 => (h.at' k h1 h2).mono hz⟩
theorem RC.snoc {t : Tr} {Z : List Ans} {P P' : List PCl} {c c' : PCl} (h : RC t Z P P') (hc : RC1 t Z c c') : RC t Z (P ++ [c]) (P' ++ [c']) := by
  refine ⟨by simp [h.len], fun k h1 h2 => ?_⟩
  have hl := h.len
  by_cases e : k < P.length
  · rw [List.getElem_append_left e, List.getElem_append_left (by omega)]
    exact h.at' k (by omega) e
  · have h3 : k = P.length := by simp at h2; omega
    subst h3
    rw [List.getElem_append_right (by omega), List.getElem_append_right (by omega)]
    simpa [hl] using hc
theorem RC.split {t : Tr} {Z : List Ans} {P P' : List PCl} {c c' : PCl} (h : RC t Z (P ++ [c]) (P' ++ [c'])) : RC t Z P P' ∧ RC1 t Z c c' := by
  have hl : P'.length = P.length := by have := h.len; simpa using this
  refine ⟨⟨hl, fun k h1 h2 => ?_⟩, ?_⟩
  · have := h.at' k (by simp; omega) (by simp; omega)
    rw [List.getElem_append_left h2, List.getElem_append_left h1] at this
    exact this
  · have := h.at' P.length (by simp; omega) (by simp)
    rw [List.getElem_append_right (by omega), List.getElem_append_right (by omega)] at this
    simpa [hl] using this
theorem RC.open {t : Tr} {Z : List Ans} {P P' : List PCl} (h : RC t Z P P') (a : Ans) : ∃ R R' c c', openC P a = R ++ [c] ∧ openC P' a = R' ++ [c'] ∧ RC t Z R R' ∧ RC1 t Z c c' ∧ c.m = a.m := by
  have hnew : RC1 t Z ⟨a.m, a.ep, [], [], []⟩ ⟨a.m, a.ep, [], [], []⟩ := ⟨rfl, rfl, fun j hj => List.Perm.refl _, fun j hj => by unfold PCl.at; split <;> exact List.Pairwise.nil, by simp, by simp, by simp⟩
  rcases nil_or_snoc P with rfl | ⟨R, c, rfl⟩
  · have : P' = [] := List.length_eq_zero_iff.1 (by have := h.len; simpa using this)
    subst this
    exact ⟨[], [], _, _, rfl, rfl, h, hnew, rfl⟩
  · rcases nil_or_snoc P' with rfl | ⟨R', c', rfl⟩
    · have := h.len; simp at this
    · obtain ⟨hR, hc⟩ := h.split
      rw [openC_snoc, openC_snoc, hc.m]
      split
      · rename_i e
        exact ⟨R, R', c, c', rfl, rfl, hR, hc, e⟩
      · exact ⟨R ++ [c], R' ++ [c'], _, _, rfl, rfl, h, hnew, rfl⟩
theorem sc_both (t : Tr) (m : Int) : ∀ (l : List T3) (x y : List T3), y.Perm x → y.Pairwise tlt → (∀ e ∈ x, e.2.2 = luOf t (e.1, m, e.2.1)) →
    (l.foldl (scR t m) y).Perm (l.foldl (scS t m) x) ∧ (l.foldl (scR t m) y).Pairwise tlt ∧ ∀ e ∈ l.foldl (scS t m) x, e.2.2 = luOf t (e.1, m, e.2.1)
  | [], x, y, h1, h2, h3 => ⟨h1, h2, h3⟩
  | u :: r, x, y, h1, h2, h3 => by
    rw [List.foldl_cons, List.foldl_cons]
    have hn : (scN t m u).2.2 = luOf t ((scN t m u).1, m, (scN t m u).2.1) := rfl
    refine sc_both t m r _ _ ?_ (putN_sorted h2) (fun e he => ?_)
    · unfold scR scS addN
      by_cases hm : scN t m u ∈ x
      · rw [if_pos hm, putN_old h2 ⟨_, h1.mem_iff.2 hm, rfl, rfl⟩]
        exact h1
      · rw [if_neg hm]
        refine (putN_new (fun e he hk => ?_)).trans ((h1.cons _).trans (List.perm_append_singleton _ _).symm)
        have hex := h1.mem_iff.1 he
        have := h3 e hex
        have e2 : e = scN t m u := by
          obtain ⟨e0, e1, e2⟩ := e
          obtain ⟨k1, k2⟩ := hk
          simp only at this k1 k2
          rw [k1, k2] at this
          rw [Prod.mk.injEq, Prod.mk.injEq] 
          exact ⟨k1, k2, this⟩
        rw [e2] at hex
        exact hm hex
    · unfold scS at he
      rcases (addN_mem _ _ _).1 he with he | rfl
      · exact h3 e he
      · exact hn
theorem RC1.step {t : Tr} {O : List (Qn × Int)} {Z : List Ans} {c c' : PCl} {a : Ans} (h : RC1 t Z c c') (hm : c.m = a.m) (hZ : ∀ b ∈ Z, b.q ≠ a.q) {d : PCl}
    (hd : d = (match MapS.get (a.ow, a.m, a.n) O with
      | some o => c.upd 0 (c.st ++ [(a.ow, a.n, o)])
      | none => c.upd 2 (c.ch ++ [(a.ow, a.n, 0)]) : PCl).upd 1 (a.ins.foldl (scS t a.m) c.sc)) : RC1 t (Z ++ [a]) d (refA t O c' a) := by
  obtain ⟨s1, s2, s3⟩ := sc_both t a.m a.ins c.sc c'.sc (h.perm 1 (by omega)) (h.srt 1 (by omega)) (by rw [← hm]; exact h.lu)
  have hst : ∀ {l l' : List T3} {n : T3}, l'.Perm l → l'.Pairwise tlt → (∀ e ∈ l, ∃ b ∈ Z, b.m = c.m ∧ b.ow = e.1 ∧ b.n = e.2.1) → n.1 = a.ow → n.2.1 = a.n → (putN n l').Perm (l ++ [n]) ∧ (putN n l').Pairwise tlt := by
    intro l l' n hp hs hb h1 h2
    refine ⟨(putN_new (fun e he hk => ?_)).trans ((hp.cons _).trans (List.perm_append_singleton _ _).symm), putN_sorted hs⟩
    obtain ⟨b, hbz, b1, b2, b3⟩ := hb e (hp.mem_iff.1 he)
    exact hZ b hbz (by unfold Ans.q; rw [b1, hm, b2, b3, hk.1, hk.2, h1, h2])
  cases hg : MapS.get (a.ow, a.m, a.n) O with
  | some o =>
    rw [hg] at hd
    obtain ⟨q1, q2⟩ := hst (n := (a.ow, a.n, o)) (h.perm 0 (by omega)) (h.srt 0 (by omega)) h.st rfl rfl
    subst hd
    refine ⟨h.m, h.ep, fun j hj => ?_, fun j hj => ?_, ?_, fun e he => ?_, fun e he => ?_⟩
    · match j, hj with
      | 0, _ => simp only [refA, stR, hg]; exact q1
      | 1, _ => exact s1
      | 2, _ => simp only [refA, chR, hg]; exact h.perm 2 (by omega)
    · match j, hj with
      | 0, _ => simp only [refA, stR, hg]; exact q2
      | 1, _ => exact s2
      | 2, _ => simp only [refA, chR, hg]; exact h.srt 2 (by omega)
    · intro e he
      have := s3 e he
      rw [← hm] at this; exact this
    · have he' : e ∈ c.st ++ [(a.ow, a.n, o)] := he
      rcases List.mem_append.1 he' with he | he
      · obtain ⟨b, hb, r⟩ := h.st e he; exact ⟨b, by simp [hb], r⟩
      · simp at he; subst he; exact ⟨a, by simp, hm.symm, rfl, rfl⟩
    · obtain ⟨b, hb, r⟩ := h.ch e he; exact ⟨b, by simp [hb], r⟩
  | none =>
    rw [hg] at hd
    obtain ⟨q1, q2⟩ := hst (n := (a.ow, a.n, 0)) (h.perm 2 (by omega)) (h.srt 2 (by omega)) h.ch rfl rfl
    subst hd
    refine ⟨h.m, h.ep, fun j hj => ?_, fun j hj => ?_, ?_, fun e he => ?_, fun e he => ?_⟩
    · match j, hj with
      | 0, _ => simp only [refA, stR, hg]; exact h.perm 0 (by omega)
      | 1, _ => exact s1
      | 2, _ => simp only [refA, chR, hg]; exact q1
    · match j, hj with
      | 0, _ => simp only [refA, stR, hg]; exact h.srt 0 (by omega)
      | 1, _ => exact s2
      | 2, _ => simp only [refA, chR, hg]; exact q2
    · intro e he
      have := s3 e he
      rw [← hm] at this; exact this
    · obtain ⟨b, hb, r⟩ := h.st e he; exact ⟨b, by simp [hb], r⟩
    · have he' : e ∈ c.ch ++ [(a.ow, a.n, 0)] := he
      rcases List.mem_append.1 he' with he | he
      · obtain ⟨b, hb, r⟩ := h.ch e he; exact ⟨b, by simp [hb], r⟩
      · simp at he; subst he; exact ⟨a, by simp, hm.symm, rfl, rfl⟩
theorem RC.step {t : Tr} {O : List (Qn × Int)} {Z : List Ans} {P P' : List PCl} {a : Ans} (h : RC t Z P P') (hZ : ∀ b ∈ Z, b.q ≠ a.q) : RC t (Z ++ [a]) (rawC t O P a) (refC t O P' a) := by
  obtain ⟨R, R', c, c', h1, h2, h3, h4, h5⟩ := h.open a
  rw [refC_at h2]
  have hr : rawC t O P a = R ++ [(match MapS.get (a.ow, a.m, a.n) O with
      | some o => c.upd 0 (c.st ++ [(a.ow, a.n, o)])
      | none => c.upd 2 (c.ch ++ [(a.ow, a.n, 0)]) : PCl).upd 1 (a.ins.foldl (scS t a.m) c.sc)] := by
    unfold rawC needC
    rw [h1]
    cases hg : MapS.get (a.ow, a.m, a.n) O with
    | some o => simp only; rw [updL_snoc, sc_fold_snoc]; rfl
    | none => simp only; rw [updL_snoc, sc_fold_snoc]; rfl
  rw [hr]
  exact (h3.mono (fun b hb => by simp [hb])).snoc (h4.step h5 hZ rfl)
theorem refOf_rc (t : Tr) (O : List (Qn × Int)) (Y : List Ans) : Y.Pairwise (fun x y => qlt x.q y.q) → RC t Y (rawOf t O Y) (refOf t O Y) := by
  induction Y using snoc_ind with
  | h0 => exact fun _ => ⟨rfl, fun k h1 => by simp [refOf] at h1⟩
  | hs Y a ih =>
    intro hs
    obtain ⟨h1, _, h2⟩ := List.pairwise_append.1 hs
    have e1 : rawOf t O (Y ++ [a]) = rawC t O (rawOf t O Y) a := by unfold rawOf; rw [List.foldl_append]; rfl
    have e2 : refOf t O (Y ++ [a]) = refC t O (refOf t O Y) a := by unfold refOf; rw [List.foldl_append]; rfl
    rw [e1, e2]
    exact (ih h1).step (fun b hb e => by have := h2 b hb a (by simp); rw [e] at this; exact qlt_irrefl _ this)
/-- The specification's claims are the claims. -/
theorem refOf_claims {t : Tr} {Y : List Ans} (h : Y.Pairwise (fun x y => qlt x.q y.q)) : ClaimsP t Y (refOf t (outsOf Y) Y) := by
  have hr := refOf_rc t (outsOf Y) Y h
  refine ⟨hr.len, fun k h1 h2 => ?_⟩
  have := hr.at' k h1 h2
  exact ⟨this.m, this.ep, fun j hj => ⟨this.perm j hj, (this.srt j hj).imp (fun h => by unfold tlt at *; omega)⟩⟩
/-- What a scan for a scion finds. -/
def outL (Y : List Ans) (k : Qn) : Option Int := (Y.findSome? (fun a => a.ins.findSome? (fun x => if a.m = k.1 ∧ x.1 = k.2.1 ∧ x.2.1 = k.2.2 then some x.2.2 else none)))
theorem out_fold_get (m : Int) (k : Qn) : ∀ (l : List T3) (acc : List (Qn × Int)), MapS.get k (l.foldl (outA m) acc) = (MapS.get k acc).or (l.findSome? (fun x => if m = k.1 ∧ x.1 = k.2.1 ∧ x.2.1 = k.2.2 then some x.2.2 else none))
  | [], acc => by simp
  | x :: r, acc => by
    rw [List.foldl_cons, out_fold_get m k r, List.findSome?_cons]
    obtain ⟨k0, k1, k2⟩ := k
    unfold outA
    by_cases e : m = k0 ∧ x.1 = k1 ∧ x.2.1 = k2
    · obtain ⟨rfl, rfl, rfl⟩ := e
      simp only [and_self, if_true]
      cases hg : MapS.get (m, x.1, x.2.1) acc with
      | some o => simp [hg]
      | none => simp [hg, MapS.get_append, MapS.get]
    · simp only [if_neg e]
      split
      · rfl
      · rw [MapS.get_append]
        have e' : ¬ ((m, x.1, x.2.1) : Qn) = (k0, k1, k2) := fun h => e (by simpa using h)
        simp [MapS.get, e']
theorem outsOf_get (Y : List Ans) (k : Qn) : MapS.get k (outsOf Y) = outL Y k := by
  induction Y using snoc_ind with
  | h0 => rfl
  | hs Y a ih =>
    have : outsOf (Y ++ [a]) = a.ins.foldl (outA a.m) (outsOf Y) := by unfold outsOf; rw [List.foldl_append]; rfl
    rw [this, out_fold_get, ih]
    unfold outL
    rw [List.findSome?_append]
    congr 1
    simp
/-- What a scan for an answer finds. -/
def luL (Y : List Ans) (q : Qn) : Int := ((Y.find? (fun a => decide (a.q = q))).map Ans.lu).getD 0
theorem luL_eq {t : Tr} (h : t.Inv) {Y : List Ans} (hY : SortedA t Y) (q : Qn) : luL Y q = luOf t q := by
  unfold luL luOf
  congr 1
  cases hf : Y.find? (fun a => decide (a.q = q)) with
  | some a =>
    have e1 : a.q = q := by simpa using List.find?_some hf
    obtain ⟨p, hp, e2⟩ := List.mem_map.1 (hY.1.mem_iff.1 (List.mem_of_find?_eq_some hf))
    have e3 := h.rq p hp
    obtain ⟨k, b⟩ := p
    simp only at e2 e3
    subst e2
    rw [e1] at e3
    subst e3
    rw [show MapS.get q t.rec' = some b from (MapS.get_iff (recOf_nd h.nd)).2 hp]
  | none =>
    have hn := List.find?_eq_none.1 hf
    cases hg : MapS.get q t.rec' with
    | none => rfl
    | some a =>
      have hp := (MapS.get_iff (recOf_nd h.nd)).1 hg
      have e3 := h.rq _ hp
      have := hn a (hY.1.mem_iff.2 (List.mem_map.2 ⟨_, hp, rfl⟩))
      simp only at e3
      simp [e3] at this
end Go.Proofs.YtiplgpefapeapaaGreat

namespace Go.Proofs.YtiplgpefapeapaaGreat
open Go.RowKit

/-- A list of answers that is read. -/
def RdA (w : World) (v : Value) (Y : List Ans) : Prop := ∃ X, shA.R w v X ∧ LRd w X Y
theorem RdA.keeps {w w' : World} {v : Value} {Y : List Ans} (h : RdA w v Y) (hk : Keeps [] w w') : RdA w' v Y := by
  obtain ⟨X, h1, h2⟩ := h
  exact ⟨X, h1.keeps hk, h2.keeps hk⟩
theorem RdA.form {w : World} {v : Value} {Y : List Ans} (h : RdA w v Y) : ∃ a c, v = .slice a Y.length c ∧ Y.length ≤ c ∧ c ≤ maxLen := by
  obtain ⟨X, h1, h2⟩ := h
  obtain ⟨a, c, e, e1, e2, _⟩ := h1.form
  rw [h2.1] at e e1
  exact ⟨a, c, e, e1, e2⟩
theorem RdA.elem {w : World} {v : Value} {Y : List Ans} (h : RdA w v Y) {k : Nat} (hk : k < Y.length) : ∃ g o c x, v = .slice (some ⟨g, o, none⟩) Y.length c ∧ InR w x Y[k] ∧ ∀ j u, x.cs[j]? = some u → w.cell? ⟨g, o + k * 8 + j, none⟩ = some u := by
  obtain ⟨X, h1, h2⟩ := h
  have hkX : k < X.length := by rw [h2.1]; exact hk
  obtain ⟨g, o, c, e, he⟩ := h1.elem hkX
  rw [h2.1] at e
  exact ⟨g, o, c, X[k], e, h2.2 k _ _ (List.getElem?_eq_getElem hkX) (List.getElem?_eq_getElem hk), he⟩
theorem luL_at {Y : List Ans} {q : Qn} {k : Nat} (hk : k < Y.length) (hno : ∀ j (hj : j < Y.length), j < k → Y[j].q ≠ q) (hq : Y[k].q = q) : luL Y q = Y[k].lu := by
  unfold luL
  have : Y.find? (fun a => decide (a.q = q)) = some Y[k] := List.find?_eq_some_iff_getElem.2 ⟨by simpa using hq, k, hk, rfl, fun j hj => by simpa using hno j (by omega) hj⟩
  rw [this]; rfl
theorem luL_no {Y : List Ans} {q : Qn} (hno : ∀ j (hj : j < Y.length), Y[j].q ≠ q) : luL Y q = 0 := by
  unfold luL
  have : Y.find? (fun a => decide (a.q = q)) = none := List.find?_eq_none.2 (fun c hc => by
    obtain ⟨j, hj, rfl⟩ := List.mem_iff_getElem.1 hc
    simpa using hno j hj)
  rw [this]; rfl
def OutPost (w : World) (r : Option Int) (e : Ending) (w' : World) : Prop := e = .returned (.tuple #[.int .i64 (r.getD 0), .bool r.isSome]) ∧ Keeps [] w w'
end Go.Proofs.YtiplgpefapeapaaGreat

namespace Go.Proofs.YtiplgpefapeapaaGreat
open Go Go.RowKit

namespace Ins
variable {α : Type}
/-- What holds behind each operation: 0 makes the empty slice, A appends the first part, M makes the slice of one, A2 appends it, A3 the rest (A3 = A2: there is none). -/
def F (s : Sh α) (A M A2 A3 : Nat) (B0 : Nat) (e : TypeId) (L1 : List α) (x : α) (L2 : List α) (i : Nat) (v : Value) (w : World) : Prop :=
  (i = 0 → ∃ g, v = .slice (some ⟨g, 0, none⟩) 0 0 ∧ B0 ≤ g ∧ w.heap[g]? = some (.cells #[] e (0, 0))) ∧ (i = A → s.O w B0 e v L1) ∧ (i = M → s.R w v [x] ∧ s.O w B0 e v [x]) ∧ (i = A2 → s.O w B0 e v (L1 ++ [x])) ∧ (i = A3 → A3 ≠ A2 → s.O w B0 e v (L1 ++ [x] ++ L2))
def T (A2 A3 B0 : Nat) (k b : Nat) : Prop := (k = A2 ∨ k = A3) ∧ B0 ≤ b
def K (A2 A3 : Nat) (k i : Nat) : Bool := (k == A2 && i != A3 && i != A2) || (k == A3 && i != A3)
section
variable {P : Program} {o : Oper} {a : Act} {w w0 : World} {s : Sh α} {A M A2 A3 : Nat} {e t : TypeId} {L1 : List α} {x : α} {L2 : List α} {z : Value} {by_ : Nat}
end
theorem low {ops : Array Oper} {A2 A3 B0 i b : Nat} (h : Free.sx ops (T A2 A3 B0) i b) : B0 ≤ b := by obtain ⟨k, _, _, h⟩ := h; exact h.2
end Ins
end Go.Proofs.YtiplgpefapeapaaGreat

namespace Go.Proofs.YtiplgpefapeapaaGreat
open Go.RowKit

theorem LRd.ins {w : World} {X : List AnV} {Y : List Ans} {x : AnV} {y : Ans} (h : LRd w X Y) (hx : InR w x y) (k : Nat) : LRd w (X.take k ++ [x] ++ X.drop k) (Y.take k ++ y :: Y.drop k) := by
  obtain ⟨hl, hh⟩ := h
  refine ⟨by simp; omega, fun j a b ha hb => ?_⟩
  rw [List.append_assoc, List.singleton_append] at ha
  have htl : (X.take k).length = (Y.take k).length := by simp [hl]
  by_cases h1 : j < (X.take k).length
  · rw [List.getElem?_append_left h1] at ha
    rw [List.getElem?_append_left (by omega)] at hb
    rw [List.getElem?_take] at ha hb
    split at ha
    · rename_i hjk
      rw [if_pos hjk] at hb
      exact hh j a b ha hb
    · cases ha
  · rw [List.getElem?_append_right (by omega)] at ha
    rw [List.getElem?_append_right (by omega)] at hb
    rw [← htl] at hb
    obtain ⟨i, hi⟩ : ∃ i, j - (X.take k).length = i := ⟨_, rfl⟩
    rw [hi] at ha hb
    cases i with
    | zero => simp at ha hb; subst ha hb; exact hx
    | succ i =>
      simp only [List.getElem?_cons_succ, List.getElem?_drop] at ha hb
      exact hh _ a b ha hb
end Go.Proofs.YtiplgpefapeapaaGreat

namespace Go.Proofs.YtiplgpefapeapaaGreat
open Go.RowKit

def clV (x : ClV) : Value := .agg #[.int .i64 x.m, .int .i64 x.ep, slv x.v1, slv x.v2, slv x.v3]
/-- The cells of a claim say this claim. -/
structure CR (w : World) (x : ClV) (p : PCl) : Prop where
  m : x.m = p.m
  ep : x.ep = p.ep
  st : shT.R w (slv x.v1) p.st
  sc : shT.R w (slv x.v2) p.sc
  ch : shT.R w (slv x.v3) p.ch
theorem CR.keeps {w w' : World} {x : ClV} {p : PCl} (h : CR w x p) (hk : Keeps [] w w') : CR w' x p := ⟨h.m, h.ep, h.st.keeps hk, h.sc.keeps hk, h.ch.keeps hk⟩
theorem decide_pcl (p q : PCl) : decide (p = q) = (p.m == q.m && (p.ep == q.ep && (decide (p.st = q.st) && (decide (p.sc = q.sc) && decide (p.ch = q.ch))))) := by
  obtain ⟨a, b, c, d, e⟩ := p
  obtain ⟨a', b', c', d', e'⟩ := q
  simp only [PCl.mk.injEq, Bool.decide_and]
  rfl
theorem cells5 {w : World} {b : Nat} {x0 x1 x2 x3 x4 : Value} {t : TypeId} {f : Nat × Nat} (h : w.heap[b]? = some (.cells #[x0, x1, x2, x3, x4] t f)) : w.cell? ⟨b, 0, none⟩ = some x0 ∧ w.cell? ⟨b, 1, none⟩ = some x1 ∧ w.cell? ⟨b, 2, none⟩ = some x2 ∧ w.cell? ⟨b, 3, none⟩ = some x3 ∧ w.cell? ⟨b, 4, none⟩ = some x4 ∧ b < w.heap.size := by
  refine ⟨?_, ?_, ?_, ?_, ?_, lt_of_blk h⟩ <;> simp [World.cell?, h]
/-- A list of claims that is read. -/
def LC (w : World) (v : Value) (P : List PCl) : Prop := ∃ C, shC.R w v C ∧ C.length = P.length ∧ ∀ (k : Nat) (x : ClV) (p : PCl), C[k]? = some x → P[k]? = some p → CR w x p
theorem LC.keeps {w w' : World} {v : Value} {P : List PCl} (h : LC w v P) (hk : Keeps [] w w') : LC w' v P := by
  obtain ⟨C, h1, h2, h3⟩ := h
  exact ⟨C, h1.keeps hk, h2, fun k x p hx hp => (h3 k x p hx hp).keeps hk⟩
theorem LC.nil (w : World) : LC w (.slice none 0 0) [] := ⟨[], Sh.R.nil _ _, rfl, fun k x p h => by simp at h⟩
theorem LC.form {w : World} {v : Value} {P : List PCl} (h : LC w v P) : ∃ a c, v = .slice a P.length c ∧ P.length ≤ c ∧ c ≤ maxLen := by
  obtain ⟨C, h1, h2, h3⟩ := h
  obtain ⟨a, c, e, h4, h5, _⟩ := h1.form
  exact ⟨a, c, by rw [← h2]; exact e, by omega, h5⟩
theorem LC.elem {w : World} {v : Value} {P : List PCl} (h : LC w v P) {k : Nat} (hk : k < P.length) : ∃ g o c x, v = .slice (some ⟨g, o, none⟩) P.length c ∧ CR w x P[k] ∧ w.cell? ⟨g, o + k * 5, none⟩ = some (.int .i64 x.m) ∧ w.cell? ⟨g, o + k * 5 + 1, none⟩ = some (.int .i64 x.ep) ∧
    w.cell? ⟨g, o + k * 5 + 2, none⟩ = some (slv x.v1) ∧ w.cell? ⟨g, o + k * 5 + 3, none⟩ = some (slv x.v2) ∧ w.cell? ⟨g, o + k * 5 + 4, none⟩ = some (slv x.v3) := by
  obtain ⟨C, h1, h2, h3⟩ := h
  have hkC : k < C.length := by omega
  obtain ⟨g, o, c, e, he⟩ := h1.elem hkC
  refine ⟨g, o, c, C[k], by rw [← h2]; exact e, h3 k _ _ (List.getElem?_eq_getElem _) (List.getElem?_eq_getElem _), ?_, ?_, ?_, ?_, ?_⟩
  · simpa [shC] using he 0 _ rfl
  · simpa [shC] using he 1 _ rfl
  · simpa [shC] using he 2 _ rfl
  · simpa [shC] using he 3 _ rfl
  · simpa [shC] using he 4 _ rfl
theorem CL.lc {w : World} {B : Nat} {vc : Value} {P : List PCl} {V : Nat → Nat → SlT} (h : CL w B vc P V) : LC w vc P := by
  refine ⟨_, h.c.r, rowsC_len P V, fun k x p hx hp => ?_⟩
  obtain ⟨hk, rfl⟩ := List.getElem?_eq_some_iff.1 hp
  obtain ⟨hk2, rfl⟩ := List.getElem?_eq_some_iff.1 hx
  rw [rowsC_get P V k hk]
  exact ⟨rfl, rfl, (h.o k 0 hk (by omega)).r, (h.o k 1 hk (by omega)).r, (h.o k 2 hk (by omega)).r⟩
end Go.Proofs.YtiplgpefapeapaaGreat

namespace Go.Proofs.YtiplgpefapeapaaGreat
open Go.RowKit

theorem sizeC : (Tryz.prog.info? tC).map (·.size) = some 5 := by kernel_rfl
theorem load_clm (w : World) (g : Nat) (t : TypeId) (x0 x1 x2 x3 x4 : Value) (f : Nat × Nat) (hg : w.heap[g]? = some (.cells #[x0, x1, x2, x3, x4] t f)) : (loadVar tC ⟨g, 0, none⟩).run Tryz.prog w = .ok (.agg #[x0, x1, x2, x3, x4]) w :=
  run_loadVar_row w g t tC #[x0, x1, x2, x3, x4] f _ hg Tryz.underlying49 rfl sizeC
theorem results_clm {fn : Func} {p u : Tmp} (h : fn.results = #[.cell p tC, .tmp u]) (tmps : Array Value) (w : World) (g : Nat) (t : TypeId) (x0 x1 x2 x3 x4 : Value) (f : Nat × Nat) (hp : tmps.getD p undef = .pointer (some ⟨g, 0, none⟩))
    (hg : w.heap[g]? = some (.cells #[x0, x1, x2, x3, x4] t f)) : (results fn tmps).run Tryz.prog w = .ok (.tuple #[.agg #[x0, x1, x2, x3, x4], tmps.getD u undef]) w := by
  have hp' : tmps[p]?.getD undef = .pointer (some ⟨g, 0, none⟩) := by simpa using hp
  simp [results, h, hp', asAddr, load_clm w g t x0 x1 x2 x3 x4 f hg]
def ClV.zero : ClV := ⟨0, 0, nilT, nilT, nilT⟩
def PCl.zero : PCl := ⟨0, 0, [], [], []⟩
def ClaimPost (w : World) (t : Tr) (e : Ending) (w' : World) : Prop :=
  ∃ (x : ClV) (p : PCl), e = .returned (.tuple #[clV x, .bool (t.state == 1)]) ∧ CR w' x p ∧ Keeps [] w w' ∧
    ((t.state ≠ 1 ∧ p = PCl.zero) ∨ (t.state = 1 ∧ ∃ P Y, SortedA t Y ∧ ClaimsP t Y P ∧ P[t.ag.length]? = some p))
set_option maxRecDepth 100000 in
set_option maxHeartbeats 4000000 in
theorem claim_c (w : World) (B bt bm : Nat) (vo vh vg : Value) (t : Tr) (h : TrM w B bt bm vo vh vg t) (hl : t.qs.length ≤ 1000) (hag : t.state = 1 → ∀ P Y, SortedA t Y → ClaimsP t Y P → t.ag.length < P.length) :
    Calls Tryz.prog 16 #[.pointer (some ⟨bt, 0, none⟩)] w (ClaimPost w t) := by
  have c9 := h.cells.2.2.2.2.2.2.2.2.2.1
  have hlt := h.lt
  by_cases hs : t.state = 1
  case neg =>
    have b1 : (t.state != 1) = true := by simpa using hs
    have b2 : (t.state == 1) = false := by simpa using hs
    replace hs := Lib.hid hs
    have hb0 := heap_alloc_new w (.cells #[.int .i64 0, .int .i64 0, .slice none 0 0, .slice none 0 0, .slice none 0 0] tC)
    have hkA := (Keeps.refl [] w).alloc (.cells #[.int .i64 0, .int .i64 0, .slice none 0 0, .slice none 0 0, .slice none 0 0] tC)
    replace hkA := Lib.hid hkA
    replace hb0 := Lib.hid hb0
    clear h
    go_enter Tryz.func16, Tryz.ntmps16
    go_wp2
    refine bodyPost_ret (results_clm rfl _ _ _ _ _ _ _ _ _ _ rfl hb0.out) rfl ?_
    exact ⟨ClV.zero, PCl.zero, by rw [b2]; rfl, ⟨rfl, rfl, Sh.R.nil _ _, Sh.R.nil _ _, Sh.R.nil _ _⟩, hkA.out, .inl ⟨hs.out, rfl⟩⟩
  case pos =>
    have b2 : (t.state == 1) = true := by simpa using hs
    have c10 := h.cells.2.2.2.2.2.2.2.2.2.2.1
    obtain ⟨ga, gc, rfl⟩ := h.ag.form
    obtain ⟨LG, hLG⟩ : ∃ n, t.ag.length = n := ⟨_, rfl⟩
    rw [hLG] at h c10
    have hb0 := heap_alloc_new w (.cells #[.int .i64 0, .int .i64 0, .slice none 0 0, .slice none 0 0, .slice none 0 0] tC)
    have hkA := (Keeps.refl [] w).alloc (.cells #[.int .i64 0, .int .i64 0, .slice none 0 0, .slice none 0 0, .slice none 0 0] tC)
    have hcl := fun (W : World) (hk : Keeps [] w W) => claims_c W B bt bm vo vh _ t (h.keeps hk) hl
    rw [hs] at c9
    replace hkA := Lib.hid hkA
    replace hb0 := Lib.hid hb0
    replace hcl := Lib.hid hcl
    replace hs := Lib.hid hs
    replace hag := Lib.hid hag
    replace hLG := Lib.hid hLG
    replace b2 := Lib.hid b2
    clear h
    go_enter Tryz.func16, Tryz.ntmps16
    go_wp2
    generalize (w.alloc (.cells #[.int .i64 0, .int .i64 0, .slice none 0 0, .slice none 0 0, .slice none 0 0] tC)) = WA at *
    have c10 := hkA.out.val c10
    have hltA : bt < WA.heap.size := Nat.lt_of_lt_of_le hlt.1 hkA.out.size
    refine Free.wp_region_chain (fun i => i == 1 || i == 8 || i == 9) (fun i => true) (fun j b => j = 9 ∧ b = w.heap.size) (by kernel_rfl) (by kernel_rfl) (by kernel_rfl) ?_
    (repeat (first | (apply Free.cw_pure rfl rfl; (intro w'; go_simp <;> exact rfl); go_frame) | (apply Free.cw_steady rfl rfl rfl; (intro w' hS; have q0 := Free.sx_cell hS c10 (fun _ _ hT => by have := hT.2; omega); go_simp <;> exact rfl); go_frame) | (refine Free.cw_skip rfl ?_; go_frame)))
    refine Free.cw_loud rfl rfl (fun K hK => ?_)
    go_wp2_with fail
    refine (hcl.out _ (hkA.out.trans ((Keeps.refl [] _).drew))).mono ?_
    rintro e w2 ⟨vc, P, V, Bc, Y, rfl, g1, g2, g3, g4, g5⟩
    refine hK _ _ rfl (Free.KeepsP.of g5 (by simp)) ?_
    clear hK K hcl
    have c10w := (((Keeps.refl [] WA).drew).trans g5).val c10
    have hltP := hag.out hs.out P Y g3 g4
    rw [hLG.out] at hltP
    obtain ⟨gl, cc, rfl, hgB, hgl, m0, m1, m2, m3, m4, _⟩ := g2.row hltP
    have hXl : w.heap.size < WA.heap.size := lt_of_blk hb0.out
    have hbX := (g5.block w.heap.size hXl (by simp)).trans hb0.out
    have hWl : WA.heap.size ≤ gl := Nat.le_trans g1 hgB
    have hne : gl ≠ w.heap.size := by omega
    obtain ⟨x0, x1, x2, x3, x4, xl⟩ := cells5 hbX
    have xf : ∀ o, w2.frozen? ⟨w.heap.size, o, none⟩ = false := fun o => by simp [World.frozen?, hbX]
    have hro := g2.o LG
    obtain ⟨NP, hNP⟩ : ∃ n, P.length = n := ⟨_, rfl⟩
    rw [hNP] at hltP ⊢
    obtain ⟨⟨a1, a2, a3⟩, hv1⟩ : ∃ x, V LG 0 = x := ⟨_, rfl⟩
    obtain ⟨⟨b1, b2', b3⟩, hv2⟩ : ∃ x, V LG 1 = x := ⟨_, rfl⟩
    obtain ⟨⟨d1, d2, d3⟩, hv3⟩ : ∃ x, V LG 2 = x := ⟨_, rfl⟩
    simp only [hv1, hv2, hv3, slv] at m2 m3 m4
    replace hbX := Lib.hid hbX
    replace hNP := Lib.hid hNP
    replace g2 := Lib.hid g2
    replace g3 := Lib.hid g3
    replace g4 := Lib.hid g4
    replace g5 := Lib.hid g5
    clear hro
    (repeat (first | (apply Free.cw_pure rfl rfl; (intro w'; go_simp <;> exact rfl); go_frame) | (apply Free.cw_steady rfl rfl rfl; (intro w' hS; have q0 := Free.sx_cell hS c10 (fun _ _ hT => by have := hT.2; omega); go_simp <;> exact rfl); go_frame) | (refine Free.cw_skip rfl ?_; go_frame)))
    refine Free.cw_loud rfl rfl (fun K hK => ?_)
    go_wp2
    refine hK _ _ rfl (Free.KeepsP.refl _ _) ?_
    clear hK K
    (repeat (apply Free.cw_pure rfl rfl; (intro w'; go_simp <;> exact rfl); go_frame))
    refine Free.cw_loud rfl rfl (fun K hK => ?_)
    go_wp2
    have hkS : Keeps [w.heap.size] w2 (((((w2.setCell ⟨w.heap.size, 0, none⟩ (.int .i64 P[LG].m)).setCell ⟨w.heap.size, 1, none⟩ (.int .i64 P[LG].ep)).setCell ⟨w.heap.size, 2, none⟩ (.slice a1 a2 a3)).setCell ⟨w.heap.size, 3, none⟩ (.slice b1 b2' b3)).setCell ⟨w.heap.size, 4, none⟩ (.slice d1 d2 d3)) := (((((Keeps.refl _ _).setCell (.inr (by simp)) _).setCell (.inr (by simp)) _).setCell (.inr (by simp)) _).setCell (.inr (by simp)) _).setCell (.inr (by simp)) _
    have hbS : (((((w2.setCell ⟨w.heap.size, 0, none⟩ (.int .i64 P[LG].m)).setCell ⟨w.heap.size, 1, none⟩ (.int .i64 P[LG].ep)).setCell ⟨w.heap.size, 2, none⟩ (.slice a1 a2 a3)).setCell ⟨w.heap.size, 3, none⟩ (.slice b1 b2' b3)).setCell ⟨w.heap.size, 4, none⟩ (.slice d1 d2 d3)).heap[w.heap.size]? = some (.cells #[.int .i64 P[LG].m, .int .i64 P[LG].ep, .slice a1 a2 a3, .slice b1 b2' b3, .slice d1 d2 d3] tC (0, 0)) := by
      have := setCs (setCs (setCs (setCs (setCs hbX.out 0 (.int .i64 P[LG].m)) 1 (.int .i64 P[LG].ep)) 2 (.slice a1 a2 a3)) 3 (.slice b1 b2' b3)) 4 (.slice d1 d2 d3)
      simpa using this
    refine hK _ _ rfl (Free.KeepsP.of hkS (fun b hb => ⟨trivial, by simpa using hb⟩)) ?_
    clear hK K
    replace hkS := Lib.hid hkS
    replace hbS := Lib.hid hbS
    generalize (((((w2.setCell ⟨w.heap.size, 0, none⟩ (.int .i64 P[LG].m)).setCell ⟨w.heap.size, 1, none⟩ (.int .i64 P[LG].ep)).setCell ⟨w.heap.size, 2, none⟩ (.slice a1 a2 a3)).setCell ⟨w.heap.size, 3, none⟩ (.slice b1 b2' b3)).setCell ⟨w.heap.size, 4, none⟩ (.slice d1 d2 d3)) = W5 at *
    (repeat (apply Free.cw_pure rfl rfl; (intro w'; go_simp <;> exact rfl); go_frame))
    refine Free.cw_nil ?_
    go_wp2
    refine bodyPost_ret (results_clm rfl _ _ _ _ _ _ _ _ _ _ rfl hbS.out) rfl ?_
    have hPl : LG < P.length := by rw [hNP.out]; exact hltP
    have hOk : ∀ j (hj : j < 3), shT.R W5 (slv (V LG j)) (P[LG].at j) := fun j hj => ((g2.out.o LG j hPl hj).keepS hkS.out (fun b hb e => by
      simp at hb; subst hb
      exact absurd (Nat.lt_of_lt_of_le hXl (Nat.le_trans g1 ((g2.out.o LG j hPl hj).ge _ e))) (Nat.lt_irrefl _))).r
    have r1 := hOk 0 (by omega)
    have r2 := hOk 1 (by omega)
    have r3 := hOk 2 (by omega)
    rw [hv1] at r1
    rw [hv2] at r2
    rw [hv3] at r3
    exact ⟨⟨P[LG].m, P[LG].ep, (a1, a2, a3), (b1, b2', b3), (d1, d2, d3)⟩, P[LG], by rw [b2.out]; rfl, ⟨rfl, rfl, r1, r2, r3⟩, ((hkA.out.trans ((Keeps.refl [] WA).drew)).trans g5.out).fresh hkS.out (fun b hb => by simp at hb; subst hb; exact .inr (Nat.le_refl _)), .inr ⟨hs.out, P, Y, g3.out, g4.out, by rw [hLG.out]; exact List.getElem?_eq_getElem _⟩⟩
end Go.Proofs.YtiplgpefapeapaaGreat

namespace Go.Proofs.YtiplgpefapeapaaGreat
open Go.RowKit

/-- The claims of a trace. -/
def Tr.clm (t : Tr) : List PCl := refOf t (outsOf (srtOf t.qs)) (srtOf t.qs)
theorem Tr.clm_eq {t : Tr} (h : t.Inv) {Y : List Ans} {P : List PCl} (hY : SortedA t Y) (hP : ClaimsP t Y P) : P = t.clm := by
  obtain rfl := hY.uniq (srtOf_sorted h)
  exact ClaimsP.uniq hY.2 hP (refOf_claims hY.2)
theorem srtOf_mem {t : Tr} (h : t.Inv) {a : Ans} (ha : a ∈ srtOf t.qs) : a.Ok := by
  obtain ⟨p, hp, rfl⟩ := List.mem_map.1 ((srtOf_sorted h).1.mem_iff.1 ha)
  exact h.ro p hp
end Go.Proofs.YtiplgpefapeapaaGreat

namespace Go.Proofs.YtiplgpefapeapaaGreat
open Go.RowKit

def Tr.agreeT (t : Tr) (m : Int) : Tr × Int :=
  if t.state ≠ 1 then (t, 9) else match t.clm[t.ag.length]? with
  | some p => if p.m ≠ m then (t, 1) else ({ t with ag := t.ag ++ [m], state := if t.ag.length + 1 = t.clm.length then 2 else t.state }, 0)
  | none => (t, 0)
def Tr.refuseT (t : Tr) (m : Int) : Tr × Int :=
  if t.state ≠ 1 then (t, 9) else match t.clm[t.ag.length]? with
  | some p => if p.m ≠ m then (t, 1) else ({ t with state := 4, rf := true }, 0)
  | none => (t, 0)
end Go.Proofs.YtiplgpefapeapaaGreat

namespace Go.Proofs.YtiplgpefapeapaaGreat
open Go.RowKit

theorem Tr.put_rec {t : Tr} {a : Ans} (hn : t.op.Nodup) (ho : isOpen a.q t.qs = true) (b : Ans) : (∃ p ∈ ((t.take a).put a).rec', p.2 = b) ↔ b = a ∨ ∃ p ∈ t.rec', p.2 = b := by
  have hm := isOpen_mem.1 ho
  have hq : a.q ∈ t.qs.map (·.1) := List.mem_map.2 ⟨_, hm, rfl⟩
  have hr : ((t.take a).put a).rec' = recOf (setQ a.q a t.qs) := fold_rec _ _ _
  rw [hr]
  constructor
  · rintro ⟨⟨k, c⟩, hp, rfl⟩
    rcases (setQ_mem hq k (some c)).1 (recOf_keys.1 hp) with ⟨_, e⟩ | ⟨_, e⟩
    · exact .inl (Option.some.inj e)
    · exact .inr ⟨(k, c), recOf_keys.2 e, rfl⟩
  · rintro (rfl | ⟨⟨k, c⟩, hp, rfl⟩)
    · exact ⟨(b.q, b), recOf_keys.2 ((setQ_mem hq _ _).2 (.inl ⟨rfl, rfl⟩)), rfl⟩
    · refine ⟨(k, c), recOf_keys.2 ((setQ_mem hq _ _).2 ?_), rfl⟩
      have hp2 : (k, some c) ∈ t.qs := recOf_keys.1 hp
      by_cases e : k = a.q
      · subst e
        have := nd_val hn hm hp2
        cases this
      · exact .inr ⟨e, hp2⟩
theorem Tr.HistOk.new (im is : Int) (st : T3) : (Tr.new im is st).HistOk := fun _ b => by simp [Tr.new, Tr.rec', recOf]
theorem Tr.close_hist (t : Tr) : t.close.hist = t.hist ∧ t.close.rec' = t.rec' ∧ (t.close.state = 0 → t.state = 0) := by
  unfold Tr.close
  split
  · exact ⟨rfl, rfl, fun h => by simp at h⟩
  · exact ⟨rfl, rfl, id⟩
theorem Tr.HistOk.answer {t : Tr} {a : Ans} (h : t.HistOk) (hi : t.Inv) : (t.answer a).1.HistOk := by
  unfold Tr.answer
  split
  · exact h
  split
  · exact h
  split
  · exact fun hs => by simp at hs
  split
  · exact fun hs => by simp at hs
  split
  · exact fun hs => by simp at hs
  rename_i h0 ho _ _ _
  intro _ b
  obtain ⟨e1, e2, _⟩ := Tr.close_hist ((t.take a).put a)
  simp only [e1, e2]
  have ho2 : isOpen a.q t.qs = true := by simpa using ho
  rw [Tr.put_rec hi.nd ho2, ← h (by simpa using h0) b]
  show b ∈ t.hist ++ [a] ↔ _
  simp [or_comm]
theorem Tr.HistOk.agree {t : Tr} (h : t.HistOk) (m : Int) : (t.agreeT m).1.HistOk := by
  unfold Tr.agreeT
  split
  · exact h
  rename_i h1
  split
  · split
    · exact h
    · intro hs
      simp only at hs
      split at hs
      · cases hs
      · have : t.state = 1 := by simpa using h1
        omega
  · exact h
end Go.Proofs.YtiplgpefapeapaaGreat

namespace Go.Proofs.YtiplgpefapeapaaGreat
open Go.ChangeShapes Go.WideShapes Go.ChangeAt Go.RowKit

structure Op3 where
  k : Nat
  i : Int
  near : Bool
  a : Ans
structure Op3.Fit (o : Op3) : Prop where
  k : o.k < 256
  i : W64 o.i
  a : o.a.Fit
/-- The cells of an operation. -/
def OpC (w : World) (cs : List Value) (o : Op3) : Prop := ∃ x : AnV, cs = .int .u8 o.k :: .int .i64 o.i :: .bool o.near :: x.cs ∧ InR w x o.a ∧ o.Fit
theorem OpC.keeps {w w' : World} {cs : List Value} {o : Op3} (h : OpC w cs o) (hk : Keeps [] w w') : OpC w' cs o := by
  obtain ⟨x, h1, h2, h3⟩ := h
  exact ⟨x, h1, h2.keep hk (by simp), h3⟩
/-- A list of operations that is read. -/
def LO (w : World) (v : Value) (L : List Op3) : Prop := Gen.SlR OpC 11 w v L
theorem LO.keeps {w w' : World} {v : Value} {L : List Op3} (h : LO w v L) (hk : Keeps [] w w') : LO w' v L := Gen.SlR.keeps h hk (fun _ _ h => h.keeps hk)
theorem LO.elem {w : World} {v : Value} {L : List Op3} (h : LO w v L) {k : Nat} (hk : k < L.length) : ∃ g o c x, v = .slice (some ⟨g, o, none⟩) L.length c ∧ InR w x L[k].a ∧ L[k].Fit ∧
    w.cell? ⟨g, o + k * 11, none⟩ = some (.int .u8 L[k].k) ∧ w.cell? ⟨g, o + k * 11 + 1, none⟩ = some (.int .i64 L[k].i) ∧ w.cell? ⟨g, o + k * 11 + 2, none⟩ = some (.bool L[k].near) ∧ w.cell? ⟨g, o + k * 11 + 3, none⟩ = some (.int .i64 x.m) ∧ w.cell? ⟨g, o + k * 11 + 4, none⟩ = some (.int .i64 x.ow) ∧
    w.cell? ⟨g, o + k * 11 + 5, none⟩ = some (.int .u64 x.n) ∧ w.cell? ⟨g, o + k * 11 + 6, none⟩ = some (.int .i64 x.ep) ∧ w.cell? ⟨g, o + k * 11 + 7, none⟩ = some (.bool x.kn) ∧ w.cell? ⟨g, o + k * 11 + 8, none⟩ = some (.bool x.rt) ∧ w.cell? ⟨g, o + k * 11 + 9, none⟩ = some (.int .i64 x.lu) ∧ w.cell? ⟨g, o + k * 11 + 10, none⟩ = some x.v := by
  obtain ⟨g, o, c, xs, h1, h2, ⟨x, e, h3, h4⟩, h5⟩ := Gen.SlR.elem h (by decide) hk
  subst e
  exact ⟨g, o, c, x, h1, h3, h4, h5 0 _ rfl, h5 1 _ rfl, h5 2 _ rfl, h5 3 _ rfl, h5 4 _ rfl, h5 5 _ rfl, h5 6 _ rfl, h5 7 _ rfl, h5 8 _ rfl, h5 9 _ rfl, h5 10 _ rfl⟩
/-- The questions without an answer. -/
def opens (qs : Qs) : List Qn := (qs.filter (fun p => !p.2.isSome)).map (·.1)
/-- The chosen one. -/
def pick (i : Int) (n : Nat) : Nat := (Int.tmod (Int.tmod i n + n) n).toNat
def Op3.aim (o : Op3) (qs : Qs) : Ans := if o.k ≤ 1 ∧ 0 < (opens qs).length then (match (opens qs)[pick o.i (opens qs).length]? with | some q => { o.a with m := q.1, ow := q.2.1, n := q.2.2 } | none => o.a) else o.a
/-- The machine that a reply is for. -/
def Op3.mach (o : Op3) (t : Tr) : Int := if o.near = true ∧ t.state = 1 then (match t.clm[t.ag.length]? with | some p => p.m | none => o.i) else o.i
def Op3.step (o : Op3) (t : Tr) : Tr :=
  if o.k ≤ 3 then (t.answer (o.aim t.qs)).1 else if o.k = 4 then t.queries.1 else if o.k = 5 then (t.agreeT (o.mach t)).1 else if o.k = 6 then (t.refuseT (o.mach t)).1 else t
end Go.Proofs.YtiplgpefapeapaaGreat

namespace Go.Proofs.YtiplgpefapeapaaGreat
open Go.RowKit

/-- A trace after n operations of at most five entries each. -/
structure Tr.Bnd (t : Tr) (n : Nat) : Prop where
  ho : t.HistOk
  qs : t.qs.length ≤ 1 + 5 * n
  ne : t.qs ≠ []
  hl : t.hist.length ≤ n
  hi : ∀ a ∈ t.hist, a.ins.length ≤ 5
  ag : t.ag.length ≤ n
  tl : ∃ tn : Nat, t.told = tn ∧ tn ≤ t.qs.length
  s1 : t.state = 1 → t.ag.length < t.clm.length
  s0 : t.state = 0 → t.ag = []
  rf : t.rf = true → t.state = 4
theorem Tr.clm_qs {t u : Tr} (h : u.qs = t.qs) : u.clm = t.clm := by
  cases t; cases u
  simp only at h
  subst h
  rfl
theorem Tr.clm_pos {t : Tr} (h : t.Inv) (hn : t.rec' ≠ []) : 0 < t.clm.length := by
  have hs := srtOf_sorted h
  have hp : ClaimsP t (srtOf t.qs) t.clm := refOf_claims hs.2
  obtain ⟨h1, _⟩ := ClaimsP.at' hs.2 hp
  rw [h1]
  obtain ⟨_, _, h3⟩ := rawOf_eq t (outsOf (srtOf t.qs)) (srtOf t.qs) hs.2
  obtain ⟨p, hpm⟩ := List.exists_mem_of_ne_nil _ hn
  have hm : p.2 ∈ srtOf t.qs := hs.1.mem_iff.2 (List.mem_map.2 ⟨p, hpm, rfl⟩)
  have := (h3 p.2.m).2 ⟨p.2, hm, rfl⟩
  exact List.length_pos_of_mem this
theorem Tr.Bnd.new (im is : Int) (st : T3) : (Tr.new im is st).Bnd 0 :=
  ⟨Tr.HistOk.new im is st, by simp [Tr.new], by simp [Tr.new], by simp [Tr.new], by simp [Tr.new], by simp [Tr.new], ⟨0, rfl, by simp [Tr.new]⟩, by simp [Tr.new], by simp [Tr.new], by simp [Tr.new]⟩
theorem Tr.Bnd.mono {t : Tr} {n m : Nat} (h : t.Bnd n) (hm : n ≤ m) : t.Bnd m := ⟨h.ho, by have := h.qs; omega, h.ne, by have := h.hl; omega, h.hi, by have := h.ag; omega, h.tl, h.s1, h.s0, h.rf⟩
theorem setQ_length (q : Qn) (a : Ans) (qs : Qs) : (setQ q a qs).length = qs.length := by unfold setQ; simp
theorem fold_ge (m : Int) : ∀ (l : List T3) (qs : Qs), qs.length ≤ (l.foldl (openQ m) qs).length
  | [], _ => Nat.le_refl _
  | x :: l, qs => Nat.le_trans (by unfold openQ; split <;> simp) (fold_ge m l (openQ m qs x))
theorem Tr.Bnd.answer {t : Tr} {n : Nat} {a : Ans} (h : t.Bnd n) (hi : t.Inv) (hi' : (t.answer a).1.Inv) (ha : a.ins.length ≤ 5) : (t.answer a).1.Bnd (n + 1) := by
  have hho := h.ho.answer (a := a) hi
  have hist : ∀ b ∈ t.hist ++ [a], b.ins.length ≤ 5 := fun b hb => by
    rcases List.mem_append.1 hb with hb | hb
    · exact h.hi b hb
    · rw [List.mem_singleton.1 hb]; exact ha
  have hl : (t.hist ++ [a]).length ≤ n + 1 := by have := h.hl; simp; omega
  have hg : t.ag.length ≤ n + 1 := by have := h.ag; omega
  have hq : t.qs.length ≤ 1 + 5 * (n + 1) := by have := h.qs; omega
  revert hho hi'
  unfold Tr.answer
  split
  · exact fun _ _ => h.mono (by omega)
  rename_i h0
  have h0 : t.state = 0 := by simpa using h0
  have hrf : t.rf = false := by
    cases e : t.rf with
    | false => rfl
    | true => have := h.rf e; omega
  split
  · exact fun _ _ => h.mono (by omega)
  split
  · exact fun _ hho => ⟨hho, hq, h.ne, hl, hist, hg, h.tl, by simp, by simp, fun _ => rfl⟩
  split
  · exact fun _ hho => ⟨hho, hq, h.ne, hl, hist, hg, h.tl, by simp, by simp, fun e => by simp [Tr.take, hrf] at e⟩
  split
  · exact fun _ hho => ⟨hho, hq, h.ne, hl, hist, hg, h.tl, by simp, by simp, fun _ => rfl⟩
  intro hi' hho
  obtain ⟨tn, e1, e2⟩ := h.tl
  have hlen : ((t.take a).put a).qs.length ≤ 1 + 5 * (n + 1) := by
    have := fold_len a.m a.ins (setQ a.q a t.qs)
    rw [setQ_length] at this
    have h2 := h.qs
    show (a.ins.foldl (openQ a.m) (setQ a.q a t.qs)).length ≤ _
    omega
  have hge : t.qs.length ≤ ((t.take a).put a).qs.length := by
    have := fold_ge a.m a.ins (setQ a.q a t.qs)
    rw [setQ_length] at this
    exact this
  have hpos : 0 < t.qs.length := List.length_pos_iff.2 h.ne
  have hne : ((t.take a).put a).qs ≠ [] := List.length_pos_iff.1 (by omega)
  unfold Tr.close at hho hi' ⊢
  by_cases hall : allQ ((t.take a).put a).qs = true
  · simp only [hall, if_true] at hho hi' ⊢
    refine ⟨hho, hlen, hne, hl, hist, hg, ⟨tn, e1, by simp only; omega⟩, fun _ => ?_, by simp, fun e => by simp [Tr.take, Tr.put, hrf] at e⟩
    have hag : ((t.take a).put a).ag = [] := h.s0 h0
    have hcp := Tr.clm_pos hi' (fun e => by
      have := (rec_len ((t.take a).put a).qs).2.2 hall
      have e' : recOf ((t.take a).put a).qs = [] := e
      rw [e'] at this
      simp at this
      omega)
    show ((t.take a).put a).ag.length < _
    rw [hag]
    exact hcp
  · simp only [hall] at hho hi' ⊢
    exact ⟨hho, hlen, hne, hl, hist, hg, ⟨tn, e1, by simp only [Bool.false_eq_true, if_false]; omega⟩, fun e => by simp [Tr.take, Tr.put, h0] at e, fun _ => h.s0 h0, fun e => by simp [Tr.take, Tr.put, hrf] at e⟩
theorem Tr.Bnd.queries {t : Tr} {n : Nat} (h : t.Bnd n) : t.queries.1.Bnd (n + 1) := by
  unfold Tr.queries
  split
  · exact h.mono (by omega)
  · exact ⟨h.ho, by have := h.qs; simp only; omega, h.ne, by have := h.hl; simp only; omega, h.hi, by have := h.ag; simp only; omega, ⟨t.qs.length, rfl, Nat.le_refl _⟩, h.s1, h.s0, h.rf⟩
theorem Tr.Bnd.agree {t : Tr} {n : Nat} (h : t.Bnd n) (m : Int) : (t.agreeT m).1.Bnd (n + 1) := by
  have hho := h.ho.agree m
  revert hho
  unfold Tr.agreeT
  split
  · exact fun _ => h.mono (by omega)
  rename_i h1
  have h1 : t.state = 1 := by simpa using h1
  have hlt := h.s1 h1
  split
  · split
    · exact fun _ => h.mono (by omega)
    · intro hho
      refine ⟨hho, by have := h.qs; simp only; omega, h.ne, by have := h.hl; simp only; omega, h.hi, by have := h.ag; simp; omega, h.tl, fun e => ?_, fun e => ?_, fun e => ?_⟩
      · simp only at e
        split at e
        · omega
        · rename_i hne
          have e2 := @Tr.clm_qs t { t with ag := t.ag ++ [m], state := if t.ag.length + 1 = t.clm.length then 2 else t.state } rfl
          rw [e2]
          simp only [List.length_append, List.length_cons, List.length_nil]
          omega
      · simp only at e
        split at e <;> omega
      · have := h.rf e
        omega
  · exact fun _ => h.mono (by omega)
end Go.Proofs.YtiplgpefapeapaaGreat

namespace Go.Proofs.YtiplgpefapeapaaGreat
open Go.RowKit

/-- A certificate. -/
structure Ct where
  im : Int
  is : Int
  st : T3
  an : List Ans
  cl : List PCl
def PCl.size (p : PCl) : Nat := p.st.length + p.sc.length + p.ch.length
def Ct.size (c : Ct) : Nat := c.an.length + c.cl.length + (c.an.map (fun a => a.ins.length)).sum + (c.cl.map PCl.size).sum
/-- A trace that has just these answers. -/
def trOf (Y : List Ans) : Tr := { Tr.new 0 0 (0, 0, 0) with qs := Y.map (fun a => (a.q, some a)) }
theorem trOf_rec (Y : List Ans) : (trOf Y).rec' = Y.map (fun a => (a.q, a)) := by
  show recOf (Y.map (fun a => (a.q, some a))) = _
  induction Y with
  | nil => rfl
  | cons a Y ih => rw [List.map_cons, List.map_cons, recOf_some, ih]
abbrev SrtA (Y : List Ans) : Prop := Y.Pairwise (fun x y => qlt x.q y.q)
/-- The claims that follow from answers. -/
def clY (Y : List Ans) : List PCl := refOf (trOf Y) (outsOf Y) Y
theorem clY_eq {Y : List Ans} {P : List PCl} (h : SrtA Y) (hP : ClaimsP (trOf Y) Y P) : P = clY Y := ClaimsP.uniq h hP (refOf_claims h)
theorem clY_of {Y : List Ans} {P : List PCl} (hs : SrtA Y) (h1 : P.length = (msOf Y).length) (h2 : ∀ (k : Nat) (h1 : k < P.length) (h2 : k < (msOf Y).length), ClmAt (trOf Y) Y P[k] (msOf Y)[k]) : P = clY Y := clY_eq hs (ClaimsP.of_at hs h1 h2)
theorem luOf_trOf (Y : List Ans) (q : Qn) : luOf (trOf Y) q = luL Y q := by
  unfold luOf luL
  rw [trOf_rec]
  congr 2
  induction Y with
  | nil => rfl
  | cons a Y ih =>
    rw [List.map_cons, List.find?_cons]
    by_cases e : a.q = q
    · subst e; simp [MapS.get]
    · have e' : ¬ q = a.q := fun h => e h.symm
      simp only [MapS.get, e, decide_false]
      first
        | rw [if_neg e]; exact ih
        | rw [if_neg e']; exact ih
        | exact ih
/-! ### well-formed -/
def mach (n : Int) : Bool := decide (1 ≤ n) && decide (n ≤ 8)
def insOk (x : T3) : Bool := mach x.1 && decide (0 ≤ x.2.2)
def ansOk (a : Ans) : Bool := mach a.m && mach a.ow && decide (0 ≤ a.ep) && decide (0 ≤ a.lu) && a.ins.all insOk
def incA : List Ans → Bool
  | a :: b :: r => decide (qlt a.q b.q) && incA (b :: r)
  | _ => true
def incC : List PCl → Bool
  | a :: b :: r => decide (a.m < b.m) && incC (b :: r)
  | _ => true
theorem incA_iff : ∀ {Y : List Ans}, incA Y = true ↔ ∀ j (h : j + 1 < Y.length), qlt (Y[j]'(by omega)).q Y[j + 1].q
  | [] => by simp [incA]
  | [a] => by simp [incA]
  | a :: b :: r => by
    rw [incA, Bool.and_eq_true, decide_eq_true_iff, incA_iff (Y := b :: r)]
    constructor
    · rintro ⟨h1, h2⟩ j hj
      cases j with
      | zero => exact h1
      | succ j => exact h2 j (by simpa using hj)
    · intro h
      exact ⟨h 0 (by simp), fun j hj => h (j + 1) (by simpa using hj)⟩
theorem incC_iff : ∀ {P : List PCl}, incC P = true ↔ ∀ j (h : j + 1 < P.length), (P[j]'(by omega)).m < P[j + 1].m
  | [] => by simp [incC]
  | [a] => by simp [incC]
  | a :: b :: r => by
    rw [incC, Bool.and_eq_true, decide_eq_true_iff, incC_iff (P := b :: r)]
    constructor
    · rintro ⟨h1, h2⟩ j hj
      cases j with
      | zero => exact h1
      | succ j => exact h2 j (by simpa using hj)
    · intro h
      exact ⟨h 0 (by simp), fun j hj => h (j + 1) (by simpa using hj)⟩
theorem incA_srt : ∀ {Y : List Ans}, incA Y = true → SrtA Y
  | [], _ => List.Pairwise.nil
  | [a], _ => by simp
  | a :: b :: r, h => by
    rw [incA, Bool.and_eq_true, decide_eq_true_iff] at h
    have ih := incA_srt h.2
    refine List.pairwise_cons.2 ⟨fun x hx => ?_, ih⟩
    rcases List.mem_cons.1 hx with rfl | hx
    · exact h.1
    · exact qlt_trans h.1 ((List.pairwise_cons.1 ih).1 x hx)
def wf (c : Ct) : Bool := mach c.im && decide (1 ≤ c.is) && mach c.st.1 && incA c.an && incC c.cl && c.an.all ansOk
/-! ### good -/
def kq (c : Ct) : Qn := (c.im, c.st.1, c.st.2.1)
def hasA (Y : List Ans) (q : Qn) : Bool := Y.any (fun a => decide (a.q = q))
def epB (Y : List Ans) : Bool := Y.all (fun a => Y.all (fun b => decide (a.m = b.m → a.ep = b.ep)))
def insB (Y : List Ans) (m : Int) (x : T3) : Bool := decide (MapS.get (m, x.1, x.2.1) (outsOf Y) = some x.2.2) && hasA Y (x.1, m, x.2.1)
def ansB (Y : List Ans) (a : Ans) : Bool := a.kn && !a.rt && a.ins.all (insB Y a.m)
def goodB (c : Ct) : Bool := hasA c.an (kq c) && epB c.an && c.an.all (ansB c.an) && decide (c.cl = clY c.an)
/-- What the check says: 1 for a certificate that is not well-formed, 15 for one that is rejected. -/
def chk (c : Ct) : Int := if wf c = true then (if goodB c = true then 0 else 15) else 1
theorem hasA_iff {Y : List Ans} {q : Qn} : hasA Y q = true ↔ ∃ a ∈ Y, a.q = q := by unfold hasA; simp
theorem epB_iff {Y : List Ans} : epB Y = true ↔ ∀ a ∈ Y, ∀ b ∈ Y, a.m = b.m → a.ep = b.ep := by unfold epB; simp only [List.all_eq_true, decide_eq_true_eq]
/-! ### the specification -/
/-- The scions of a machine, in order, each with its first Out. -/
def ofA (m : Int) (l : List T3) (a : Ans) : List T3 := if a.m = m then a.ins.foldl (fun l x => putN x l) l else l
def ofL (Y : List Ans) (m : Int) : List T3 := Y.foldl (ofA m) []
/-- A number is put in its place, if it is not there. -/
def putZ (n : Int) : List Int → List Int
  | [] => [n]
  | x :: r => if x < n then x :: putZ n r else if x = n then x :: r else n :: x :: r
def mR (Y : List Ans) : List Int := Y.foldl (fun l a => putZ a.m l) []
/-- A need is put in its place. -/
def insN (n : T3) : List T3 → List T3
  | [] => [n]
  | x :: r => if tlt x n then x :: insN n r else n :: x :: r
def outR (Y : List Ans) (q : Qn) : Option Int := ((ofL Y q.1).find? (fun x => decide (x.1 = q.2.1 ∧ x.2.1 = q.2.2))).map (fun x => x.2.2)
def scnR (Y : List Ans) (m : Int) (l : List T3) (x : T3) : List T3 := insN (x.1, x.2.1, luL Y (x.1, m, x.2.1)) l
def clmA (Y : List Ans) (m : Int) (p : PCl) (a : Ans) : PCl :=
  if a.m = m then (match outR Y (a.ow, m, a.n) with
    | some n => { p with ep := a.ep, st := insN (a.ow, a.n, n) p.st }
    | none => { p with ep := a.ep, ch := insN (a.ow, a.n, 0) p.ch }) else p
def clmR (Y : List Ans) (m : Int) : PCl := Y.foldl (clmA Y m) ⟨m, 0, [], (ofL Y m).foldl (scnR Y m) [], []⟩
theorem putN_find {n : T3} {k : Int × Nat} : ∀ {l : List T3}, l.Pairwise tlt → (putN n l).find? (fun x => decide (x.1 = k.1 ∧ x.2.1 = k.2)) = (l.find? (fun x => decide (x.1 = k.1 ∧ x.2.1 = k.2))).or (if n.1 = k.1 ∧ n.2.1 = k.2 then some n else none)
  | [], _ => by
    unfold putN
    rw [List.find?_cons]
    by_cases e : n.1 = k.1 ∧ n.2.1 = k.2 <;> simp [e]
  | x :: r, h => by
    obtain ⟨h1, h2⟩ := List.pairwise_cons.1 h
    unfold putN
    by_cases c1 : tlt x n
    · rw [if_pos c1, List.find?_cons, List.find?_cons, putN_find h2]
      by_cases e : x.1 = k.1 ∧ x.2.1 = k.2 <;> simp [e]
    · rw [if_neg c1]
      by_cases c2 : x.1 = n.1 ∧ x.2.1 = n.2.1
      · rw [if_pos c2, List.find?_cons]
        by_cases e : x.1 = k.1 ∧ x.2.1 = k.2
        · simp [e]
        · have e2 : ¬ (n.1 = k.1 ∧ n.2.1 = k.2) := fun h => e ⟨c2.1.trans h.1, c2.2.trans h.2⟩
          rw [if_neg e2]
          simp
      · rw [if_neg c2, List.find?_cons]
        by_cases e : n.1 = k.1 ∧ n.2.1 = k.2
        · have hnone : (x :: r).find? (fun x => decide (x.1 = k.1 ∧ x.2.1 = k.2)) = none := by
            refine List.find?_eq_none.2 (fun y hy => ?_)
            have hny : tlt n y := by
              have hnx : tlt n x := by unfold tlt at c1 ⊢; omega
              rcases List.mem_cons.1 hy with rfl | hy
              · exact hnx
              · exact tlt_trans hnx (h1 y hy)
            simp only [decide_eq_true_eq]
            intro hh
            unfold tlt at hny
            omega
          rw [hnone]
          simp [e]
        · simp [e]
theorem ofA_srt {m : Int} {l : List T3} (a : Ans) (h : l.Pairwise tlt) : (ofA m l a).Pairwise tlt := by
  unfold ofA
  split
  · generalize a.ins = xs
    induction xs generalizing l with
    | nil => exact h
    | cons x r ih => exact ih (putN_sorted h)
  · exact h
theorem ofL_srt (Y : List Ans) (m : Int) : (ofL Y m).Pairwise tlt := by
  unfold ofL
  suffices h : ∀ (Y : List Ans) (l : List T3), l.Pairwise tlt → (Y.foldl (ofA m) l).Pairwise tlt from h Y [] List.Pairwise.nil
  intro Y
  induction Y with
  | nil => exact fun l h => h
  | cons a Y ih => exact fun l h => ih _ (ofA_srt a h)
theorem ins_find (k : Int × Nat) : ∀ (xs : List T3) (l : List T3), l.Pairwise tlt → ((xs.foldl (fun l x => putN x l) l).find? (fun x => decide (x.1 = k.1 ∧ x.2.1 = k.2))) = (l.find? (fun x => decide (x.1 = k.1 ∧ x.2.1 = k.2))).or (xs.find? (fun x => decide (x.1 = k.1 ∧ x.2.1 = k.2)))
  | [], l, _ => by simp
  | x :: r, l, h => by
    rw [List.foldl_cons, ins_find k r _ (putN_sorted h), putN_find h, List.find?_cons, Option.or_assoc]
    congr 1
    by_cases e : x.1 = k.1 ∧ x.2.1 = k.2 <;> simp [e]
theorem find_map_some {α β : Type} (p : α → Bool) (g : α → β) : ∀ l : List α, (l.find? p).map g = l.findSome? (fun x => if p x = true then some (g x) else none)
  | [] => rfl
  | x :: r => by
    rw [List.find?_cons, List.findSome?_cons]
    cases hp : p x with
    | true => simp
    | false => simp [find_map_some p g r]
/-- The specification finds the same Out. -/
theorem outR_eq (Y : List Ans) (q : Qn) : outR Y q = MapS.get q (outsOf Y) := by
  rw [outsOf_get]
  obtain ⟨m, c, n⟩ := q
  unfold outR ofL outL
  simp only
  suffices h : ∀ (Y : List Ans) (l : List T3), l.Pairwise tlt → ((Y.foldl (ofA m) l).find? (fun x => decide (x.1 = c ∧ x.2.1 = n))).map (fun x => x.2.2) = ((l.find? (fun x => decide (x.1 = c ∧ x.2.1 = n))).map (fun x => x.2.2)).or (Y.findSome? (fun a => a.ins.findSome? (fun x => if a.m = m ∧ x.1 = c ∧ x.2.1 = n then some x.2.2 else none))) by
    rw [h Y [] List.Pairwise.nil]
    simp
  intro Y
  induction Y with
  | nil => intro l _; simp
  | cons a Y ih =>
    intro l hl
    rw [List.foldl_cons, ih _ (ofA_srt a hl), List.findSome?_cons]
    unfold ofA
    by_cases e : a.m = m
    · rw [if_pos e, ins_find (c, n) a.ins l hl]
      have e2 : (fun x : T3 => if a.m = m ∧ x.1 = c ∧ x.2.1 = n then some x.2.2 else none) = (fun x : T3 => if decide (x.1 = c ∧ x.2.1 = n) = true then some x.2.2 else none) := by
        funext x
        simp [e]
      rw [e2, ← find_map_some]
      cases l.find? (fun x => decide (x.1 = c ∧ x.2.1 = n)) with
      | some y => simp
      | none =>
        simp only [Option.none_or, Option.map_none]
        cases a.ins.find? (fun x => decide (x.1 = c ∧ x.2.1 = n)) with
        | some y => simp
        | none => simp
    · rw [if_neg e]
      have e2 : a.ins.findSome? (fun x => if a.m = m ∧ x.1 = c ∧ x.2.1 = n then some x.2.2 else none) = none := List.findSome?_eq_none_iff.2 (fun x _ => by rw [if_neg (fun h => e h.1)])
      rw [e2]
/-! #### the machines -/
theorem putZ_end {n : Int} : ∀ {l : List Int}, l.Pairwise (· < ·) → (∀ x ∈ l, x ≤ n) → putZ n l = if l.getLast? = some n then l else l ++ [n]
  | [], _, _ => by simp [putZ]
  | [x], _, h => by
    have := h x (by simp)
    unfold putZ
    by_cases e : x = n
    · subst e; simp
    · rw [if_pos (by omega)]; simp [putZ, e]
  | x :: y :: r, hs, h => by
    obtain ⟨h1, h2⟩ := List.pairwise_cons.1 hs
    have h3 := h1 y (by simp)
    have h4 := h y (by simp)
    unfold putZ
    rw [if_pos (by omega), putZ_end h2 (fun z hz => h z (by simp [hz])), List.getLast?_cons_cons]
    split <;> simp
theorem mR_eq {Y : List Ans} : SrtA Y → mR Y = msOf Y := by
  induction Y using snoc_ind with
  | h0 => exact fun _ => rfl
  | hs Y a ih =>
    intro hs
    obtain ⟨hs1, _, hs2⟩ := List.pairwise_append.1 hs
    have hle : ∀ b ∈ Y, b.m ≤ a.m := fun b hb => by have := hs2 b hb a (by simp); unfold qlt Ans.q at this; simp only at this; omega
    obtain ⟨_, i2, i3⟩ := rawOf_eq (trOf Y) [] Y hs1
    have e1 : mR (Y ++ [a]) = putZ a.m (mR Y) := by unfold mR; rw [List.foldl_append]; rfl
    have e2 : msOf (Y ++ [a]) = msA (msOf Y) a := by unfold msOf; rw [List.foldl_append]; rfl
    rw [e1, e2, ih hs1, putZ_end i2 (fun x hx => by obtain ⟨b, hb, e⟩ := (i3 x).1 hx; have := hle b hb; omega)]
    rfl
/-! #### the claims -/
theorem insN_perm (n : T3) : ∀ l : List T3, (insN n l).Perm (n :: l)
  | [] => by simp [insN]
  | x :: r => by
    unfold insN
    split
    · exact ((insN_perm n r).cons x).trans (List.Perm.swap _ _ _)
    · exact List.Perm.refl _
theorem insN_srt {n : T3} : ∀ {l : List T3}, l.Pairwise (fun x y => ¬ tlt y x) → (insN n l).Pairwise (fun x y => ¬ tlt y x)
  | [], _ => by simp [insN]
  | x :: r, h => by
    obtain ⟨h1, h2⟩ := List.pairwise_cons.1 h
    unfold insN
    split
    · rename_i hx
      refine List.pairwise_cons.2 ⟨fun e he => ?_, insN_srt h2⟩
      rcases List.mem_cons.1 ((insN_perm n r).mem_iff.1 he) with rfl | he
      · unfold tlt at *; omega
      · exact h1 e he
    · rename_i hx
      refine List.pairwise_cons.2 ⟨fun e he => ?_, h⟩
      rcases List.mem_cons.1 he with rfl | he
      · exact hx
      · have := h1 e he
        unfold tlt at *; omega
theorem ins_fold {α : Type} (g : α → T3) : ∀ (xs : List α) (l : List T3), l.Pairwise (fun x y => ¬ tlt y x) → (xs.foldl (fun l x => insN (g x) l) l).Perm (l ++ xs.map g) ∧ (xs.foldl (fun l x => insN (g x) l) l).Pairwise (fun x y => ¬ tlt y x)
  | [], l, h => by simpa using h
  | x :: r, l, h => by
    obtain ⟨h1, h2⟩ := ins_fold g r (insN (g x) l) (insN_srt h)
    refine ⟨?_, h2⟩
    rw [List.foldl_cons]
    refine h1.trans ?_
    rw [List.map_cons]
    exact ((insN_perm (g x) l).append_right _).trans (by simpa using (List.perm_middle (a := g x) (l₁ := l) (l₂ := r.map g)).symm)
theorem ofL_mem (Y : List Ans) (m : Int) (x : T3) : x ∈ ofL Y m ↔ outR Y (m, x.1, x.2.1) = some x.2.2 := by
  have hs := ofL_srt Y m
  unfold outR
  simp only
  constructor
  · intro hx
    cases hf : (ofL Y m).find? (fun y => decide (y.1 = x.1 ∧ y.2.1 = x.2.1)) with
    | none =>
      have := List.find?_eq_none.1 hf x hx
      simp at this
    | some y =>
      have h1 := List.find?_some hf
      have h2 := List.mem_of_find?_eq_some hf
      simp only [decide_eq_true_eq] at h1
      have : y = x := by
        obtain ⟨i, hi, rfl⟩ := List.getElem_of_mem hx
        obtain ⟨j, hj, rfl⟩ := List.getElem_of_mem h2
        rcases Nat.lt_trichotomy i j with e | e | e
        · have := List.pairwise_iff_getElem.1 hs i j hi hj e
          unfold tlt at this; omega
        · subst e; rfl
        · have := List.pairwise_iff_getElem.1 hs j i hj hi e
          unfold tlt at this; omega
      rw [this]; rfl
  · intro h
    cases hf : (ofL Y m).find? (fun y => decide (y.1 = x.1 ∧ y.2.1 = x.2.1)) with
    | none => rw [hf] at h; cases h
    | some y =>
      rw [hf] at h
      have h1 := List.find?_some hf
      have h2 := List.mem_of_find?_eq_some hf
      simp only [decide_eq_true_eq] at h1
      simp only [Option.map_some, Option.some.injEq] at h
      have : y = x := Prod.ext h1.1 (Prod.ext h1.2 h)
      rw [← this]; exact h2
theorem scOf_nd (t : Tr) (Y : List Ans) (m : Int) : (scOf t Y m).Nodup := by
  unfold scOf
  suffices h : ∀ (Y : List Ans) (l : List T3), l.Nodup → (Y.foldl (scA t m) l).Nodup from h Y [] List.nodup_nil
  intro Y
  induction Y with
  | nil => exact fun l h => h
  | cons a Y ih =>
    refine fun l h => ih _ ?_
    unfold scA
    split
    · generalize a.ins = xs
      induction xs generalizing l with
      | nil => exact h
      | cons x r ih2 =>
        refine ih2 _ ?_
        unfold scS addN
        split
        · exact h
        · rename_i hn
          rw [List.nodup_append]
          exact ⟨h, by simp, fun a ha b hb e => by simp at hb; subst hb; subst e; exact hn ha⟩
    · exact h
theorem scs_perm (Y : List Ans) (m : Int) : ((ofL Y m).map (fun x => (x.1, x.2.1, luL Y (x.1, m, x.2.1)))).Perm (scOf (trOf Y) Y m) := by
  have hs := ofL_srt Y m
  refine (List.perm_ext_iff_of_nodup ?_ (scOf_nd _ _ _)).2 (fun e => ?_)
  · rw [List.Nodup, List.pairwise_map]
    exact hs.imp (fun h e => by simp only [Prod.mk.injEq] at e; unfold tlt at h; omega)
  · rw [scOf_mem, List.mem_map]
    constructor
    · rintro ⟨x, hx, rfl⟩
      rw [ofL_mem, outR_eq] at hx
      obtain ⟨a, ha, y, hy, e⟩ := (outsOf_some Y (m, x.1, x.2.1)).1 (by rw [hx]; rfl)
      simp only [Prod.mk.injEq] at e
      obtain ⟨e1, e2, e3⟩ := e
      refine ⟨a, ha, e1.symm, y, hy, ?_⟩
      unfold scN
      rw [luOf_trOf, e2, e3]
    · rintro ⟨a, ha, hm, y, hy, rfl⟩
      have h1 := (outsOf_some Y (m, y.1, y.2.1)).2 ⟨a, ha, y, hy, by rw [hm]⟩
      obtain ⟨o, ho⟩ := Option.isSome_iff_exists.1 h1
      refine ⟨(y.1, y.2.1, o), (ofL_mem Y m _).2 (by rw [outR_eq]; exact ho), ?_⟩
      unfold scN
      rw [luOf_trOf]
theorem stOf_cons (O : List (Qn × Int)) (a : Ans) (Y : List Ans) (m : Int) : stOf O (a :: Y) m = (stA O m a).toList ++ stOf O Y m := by
  unfold stOf
  rw [List.filterMap_cons]
  cases stA O m a <;> rfl
theorem chOf_cons (O : List (Qn × Int)) (a : Ans) (Y : List Ans) (m : Int) : chOf O (a :: Y) m = (chA O m a).toList ++ chOf O Y m := by
  unfold chOf
  rw [List.filterMap_cons]
  cases chA O m a <;> rfl
theorem insN_app (n : T3) (l r : List T3) : (insN n l ++ r).Perm (l ++ ([n] ++ r)) :=
  ((insN_perm n l).append_right r).trans (by simpa using (List.perm_middle (a := n) (l₁ := l) (l₂ := r)).symm)
theorem clm_fold (Y0 : List Ans) (m : Int) : ∀ (Y : List Ans) (p : PCl), p.st.Pairwise (fun x y => ¬ tlt y x) → p.ch.Pairwise (fun x y => ¬ tlt y x) →
    (Y.foldl (clmA Y0 m) p).m = p.m ∧ (Y.foldl (clmA Y0 m) p).sc = p.sc ∧ (Y.foldl (clmA Y0 m) p).st.Perm (p.st ++ stOf (outsOf Y0) Y m) ∧ (Y.foldl (clmA Y0 m) p).st.Pairwise (fun x y => ¬ tlt y x) ∧
    (Y.foldl (clmA Y0 m) p).ch.Perm (p.ch ++ chOf (outsOf Y0) Y m) ∧ (Y.foldl (clmA Y0 m) p).ch.Pairwise (fun x y => ¬ tlt y x) ∧ (((Y.foldl (clmA Y0 m) p).ep = p.ep ∧ ∀ a ∈ Y, a.m ≠ m) ∨ ∃ a ∈ Y, a.m = m ∧ (Y.foldl (clmA Y0 m) p).ep = a.ep)
  | [], p, h1, h2 => by simpa [stOf, chOf] using ⟨h1, h2⟩
  | a :: Y, p, h1, h2 => by
    rw [List.foldl_cons]
    by_cases e : a.m = m
    · cases ho : outR Y0 (a.ow, m, a.n) with
      | some n =>
        have hc : clmA Y0 m p a = { p with ep := a.ep, st := insN (a.ow, a.n, n) p.st } := by unfold clmA; rw [if_pos e, ho]
        obtain ⟨g1, g2, g3, g4, g5, g6, g7⟩ := clm_fold Y0 m Y (clmA Y0 m p a) (by rw [hc]; exact insN_srt h1) (by rw [hc]; exact h2)
        have hst : stA (outsOf Y0) m a = some (a.ow, a.n, n) := by unfold stA; rw [if_pos e, e, ← outR_eq, ho]; rfl
        have hch : chA (outsOf Y0) m a = none := by unfold chA; rw [if_neg (fun h => by rw [e, ← outR_eq, ho] at h; cases h.2)]
        refine ⟨by rw [g1, hc], by rw [g2, hc], ?_, g4, ?_, g6, .inr ?_⟩
        · rw [stOf_cons, hst]
          rw [hc] at g3
          rw [hc]
          exact g3.trans (insN_app _ _ _)
        · rw [chOf_cons, hch]
          rw [hc] at g5
          rw [hc]
          exact g5
        · rcases g7 with ⟨g7, _⟩ | ⟨b, hb, hm, g7⟩
          · exact ⟨a, by simp, e, by rw [g7, hc]⟩
          · exact ⟨b, by simp [hb], hm, g7⟩
      | none =>
        have hc : clmA Y0 m p a = { p with ep := a.ep, ch := insN (a.ow, a.n, 0) p.ch } := by unfold clmA; rw [if_pos e, ho]
        obtain ⟨g1, g2, g3, g4, g5, g6, g7⟩ := clm_fold Y0 m Y (clmA Y0 m p a) (by rw [hc]; exact h1) (by rw [hc]; exact insN_srt h2)
        have hst : stA (outsOf Y0) m a = none := by unfold stA; rw [if_pos e, e, ← outR_eq, ho]; rfl
        have hch : chA (outsOf Y0) m a = some (a.ow, a.n, 0) := by unfold chA; rw [if_pos ⟨e, by rw [e, ← outR_eq, ho]⟩]
        refine ⟨by rw [g1, hc], by rw [g2, hc], ?_, g4, ?_, g6, .inr ?_⟩
        · rw [stOf_cons, hst]
          rw [hc] at g3
          rw [hc]
          exact g3
        · rw [chOf_cons, hch]
          rw [hc] at g5
          rw [hc]
          exact g5.trans (insN_app _ _ _)
        · rcases g7 with ⟨g7, _⟩ | ⟨b, hb, hm, g7⟩
          · exact ⟨a, by simp, e, by rw [g7, hc]⟩
          · exact ⟨b, by simp [hb], hm, g7⟩
    · have hc : clmA Y0 m p a = p := by unfold clmA; rw [if_neg e]
      rw [hc]
      obtain ⟨g1, g2, g3, g4, g5, g6, g7⟩ := clm_fold Y0 m Y p h1 h2
      have hst : stA (outsOf Y0) m a = none := by unfold stA; rw [if_neg e]
      have hch : chA (outsOf Y0) m a = none := by unfold chA; rw [if_neg (fun h => e h.1)]
      refine ⟨g1, g2, by rw [stOf_cons, hst]; exact g3, g4, by rw [chOf_cons, hch]; exact g5, g6, ?_⟩
      rcases g7 with ⟨g7, g8⟩ | ⟨b, hb, hm, g7⟩
      · exact .inl ⟨g7, fun b hb => by
          rcases List.mem_cons.1 hb with rfl | hb
          · exact e
          · exact g8 b hb⟩
      · exact .inr ⟨b, by simp [hb], hm, g7⟩
theorem epOf_eq {Y : List Ans} (he : epB Y = true) {a : Ans} (ha : a ∈ Y) : epOf Y a.m = a.ep := by
  unfold epOf
  cases hf : Y.find? (fun b => b.m == a.m) with
  | none =>
    have := List.find?_eq_none.1 hf a ha
    simp at this
  | some b =>
    have h1 := List.find?_some hf
    have h2 := List.mem_of_find?_eq_some hf
    exact epB_iff.1 he b h2 a ha (by simpa using h1)
theorem clmR_at {Y : List Ans} (he : epB Y = true) {m : Int} (hm : ∃ a ∈ Y, a.m = m) : ClmAt (trOf Y) Y (clmR Y m) m := by
  obtain ⟨i1, i2⟩ := ins_fold (fun x : T3 => (x.1, x.2.1, luL Y (x.1, m, x.2.1))) (ofL Y m) [] List.Pairwise.nil
  obtain ⟨g1, g2, g3, g4, g5, g6, g7⟩ := clm_fold Y m Y ⟨m, 0, [], (ofL Y m).foldl (scnR Y m) [], []⟩ List.Pairwise.nil List.Pairwise.nil
  have hsc : (clmR Y m).sc = (ofL Y m).foldl (fun l x => insN (x.1, x.2.1, luL Y (x.1, m, x.2.1)) l) [] := g2
  refine ⟨g1, ?_, fun j hj => ?_⟩
  · rcases g7 with ⟨_, g8⟩ | ⟨b, hb, hbm, g7⟩
    · obtain ⟨a, ha, e⟩ := hm
      exact absurd e (g8 a ha)
    · have := epOf_eq he hb
      rw [hbm] at this
      rw [this]
      exact g7
  · match j, hj with
    | 0, _ => exact ⟨g3, g4⟩
    | 1, _ =>
      show (clmR Y m).sc.Perm (scOf (trOf Y) Y m) ∧ (clmR Y m).sc.Pairwise _
      rw [hsc]
      exact ⟨(i1.trans (by simp)).trans (scs_perm Y m), i2⟩
    | 2, _ => exact ⟨g5, g6⟩
/-- The specification's claims are those that follow. -/
theorem clmsR_eq {Y : List Ans} (hs : SrtA Y) (he : epB Y = true) : (mR Y).map (clmR Y) = clY Y := by
  have hm := mR_eq hs
  obtain ⟨_, _, i3⟩ := rawOf_eq (trOf Y) [] Y hs
  refine clY_of hs (by rw [List.length_map, hm]) (fun k h1 h2 => ?_)
  have hk : k < (mR Y).length := by rw [hm]; exact h2
  rw [List.getElem_map]
  have e : (mR Y)[k] = (msOf Y)[k] := by simp only [hm]
  rw [e]
  exact clmR_at he ((i3 _).1 (List.getElem_mem h2))
end Go.Proofs.YtiplgpefapeapaaGreat
