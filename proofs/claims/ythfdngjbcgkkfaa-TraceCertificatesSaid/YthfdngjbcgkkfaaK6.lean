/- Texts that the laws lean on, in the order in which they build. The claims that follow from sorted answers, machine by machine; they are the only ones. A trace that is answered out of a table: the plain laws. The claims of a trace whose questions are all answered are closed. Trace.Claim, pending, Refuse. Looking for a need with a peer and a number; a machine's claim. Identities, needs and answers among a law's arguments, opened. A trace that is answered out of a table: what a round leaves in memory. A trace that is answered out of a table: the walk of finish. -/
import Derived.Test.YthfdngjbcgkkfaaK5
import Derived.Laws.Rows
import Derived.Deep.CutRange
set_option linter.unusedVariables false
set_option linter.unusedSimpArgs false
namespace Go.Proofs.Ythfdngjbcgkkfaa
open Go.RowKit

theorem snoc_ind {α : Type} {p : List α → Prop} (h0 : p []) (hs : ∀ l a, p l → p (l ++ [a])) (l : List α) : p l := by
  rw [← List.reverse_reverse l]
  induction l.reverse with
  | nil => exact h0
  | cons a r ih => rw [List.reverse_cons]; exact hs _ _ ih
theorem nil_or_snoc {α : Type} (l : List α) : l = [] ∨ ∃ r a, l = r ++ [a] := by
  induction l using snoc_ind with
  | h0 => exact .inl rfl
  | hs r a _ => exact .inr ⟨r, a, rfl⟩
/-- The machines that have answered, in the order of their first answers. -/
def msA (l : List Int) (a : Ans) : List Int := if l.getLast? = some a.m then l else l ++ [a.m]
def msOf (Y : List Ans) : List Int := Y.foldl msA []
def epOf (Y : List Ans) (m : Int) : Int := ((Y.find? (fun a => a.m == m)).map Ans.ep).getD 0
def stA (O : List (Qn × Int)) (m : Int) (a : Ans) : Option T3 := if a.m = m then (MapS.get (a.ow, a.m, a.n) O).map (fun o => (a.ow, a.n, o)) else none
def chA (O : List (Qn × Int)) (m : Int) (a : Ans) : Option T3 := if a.m = m ∧ MapS.get (a.ow, a.m, a.n) O = none then some (a.ow, a.n, 0) else none
def stOf (O : List (Qn × Int)) (Y : List Ans) (m : Int) : List T3 := Y.filterMap (stA O m)
def chOf (O : List (Qn × Int)) (Y : List Ans) (m : Int) : List T3 := Y.filterMap (chA O m)
def scN (t : Tr) (m : Int) (x : T3) : T3 := (x.1, x.2.1, luOf t (x.1, m, x.2.1))
def scS (t : Tr) (m : Int) (l : List T3) (x : T3) : List T3 := addN (scN t m x) l
def scA (t : Tr) (m : Int) (l : List T3) (a : Ans) : List T3 := if a.m = m then a.ins.foldl (scS t m) l else l
def scOf (t : Tr) (Y : List Ans) (m : Int) : List T3 := Y.foldl (scA t m) []
def clOf (t : Tr) (O : List (Qn × Int)) (Y : List Ans) (m : Int) : PCl := ⟨m, epOf Y m, stOf O Y m, scOf t Y m, chOf O Y m⟩

theorem updL_snoc (P : List PCl) (c : PCl) (j : Nat) (f : List T3 → List T3) : updL (P ++ [c]) j f = P ++ [c.upd j (f (c.at j))] := by
  rw [updL_at (n := P.length) (by simp)]
  simp
theorem openC_snoc (P : List PCl) (c : PCl) (a : Ans) : openC (P ++ [c]) a = if c.m = a.m then P ++ [c] else P ++ [c] ++ [⟨a.m, a.ep, [], [], []⟩] := by
  unfold openC
  have : (P ++ [c])[(P ++ [c]).length - 1]? = some c := by simp
  rw [this]
theorem openC_nil (a : Ans) : openC [] a = [⟨a.m, a.ep, [], [], []⟩] := rfl
theorem sc_fold_snoc (t : Tr) (m : Int) (P : List PCl) : ∀ (l : List T3) (c : PCl), l.foldl (scC t m) (P ++ [c]) = P ++ [c.upd 1 (l.foldl (scS t m) c.sc)]
  | [], c => by simp [PCl.upd]
  | x :: r, c => by
    rw [List.foldl_cons, List.foldl_cons]
    unfold scC
    rw [updL_snoc]
    have ih := sc_fold_snoc t m P r (c.upd 1 (addN (x.1, x.2.1, luOf t (x.1, m, x.2.1)) (c.at 1)))
    unfold scC at ih
    rw [ih]
    rfl
theorem epOf_snoc {Y : List Ans} {m : Int} (h : ∃ b ∈ Y, b.m = m) (a : Ans) : epOf (Y ++ [a]) m = epOf Y m := by
  obtain ⟨b, hb, hm⟩ := h
  unfold epOf
  rw [List.find?_append]
  cases hf : Y.find? (fun a => a.m == m) with
  | some c => rfl
  | none =>
    rw [List.find?_eq_none] at hf
    have := hf b hb
    simp [hm] at this
theorem epOf_new {Y : List Ans} {a : Ans} (h : ∀ b ∈ Y, b.m ≠ a.m) : epOf (Y ++ [a]) a.m = a.ep := by
  unfold epOf
  rw [List.find?_append]
  have : Y.find? (fun b => b.m == a.m) = none := List.find?_eq_none.2 (fun b hb => by simpa using h b hb)
  rw [this]
  simp
theorem stOf_new {O : List (Qn × Int)} {Y : List Ans} {m : Int} (h : ∀ b ∈ Y, b.m ≠ m) : stOf O Y m = [] ∧ chOf O Y m = [] := by
  refine ⟨List.filterMap_eq_nil_iff.2 (fun a ha => ?_), List.filterMap_eq_nil_iff.2 (fun a ha => ?_)⟩
  · unfold stA; rw [if_neg (h a ha)]
  · unfold chA; rw [if_neg (fun e => h a ha e.1)]
theorem scOf_new {t : Tr} {m : Int} : ∀ {Y : List Ans} {l : List T3}, (∀ b ∈ Y, b.m ≠ m) → Y.foldl (scA t m) l = l
  | [], _, _ => rfl
  | a :: r, l, h => by
    rw [List.foldl_cons]
    have : scA t m l a = l := by unfold scA; rw [if_neg (h a (by simp))]
    rw [this]
    exact scOf_new (fun b hb => h b (by simp [hb]))
theorem clOf_snoc {t : Tr} {O : List (Qn × Int)} {Y : List Ans} {m : Int} {a : Ans} (hm : a.m ≠ m) (h : ∃ b ∈ Y, b.m = m) : clOf t O (Y ++ [a]) m = clOf t O Y m := by
  unfold clOf
  rw [epOf_snoc h]
  have e1 : stOf O (Y ++ [a]) m = stOf O Y m := by unfold stOf; rw [List.filterMap_append]; simp [stA, hm]
  have e2 : chOf O (Y ++ [a]) m = chOf O Y m := by unfold chOf; rw [List.filterMap_append]; simp [chA, hm]
  have e3 : scOf t (Y ++ [a]) m = scOf t Y m := by unfold scOf; rw [List.foldl_append]; simp [scA, hm]
  rw [e1, e2, e3]
/-- The raw claims, machine by machine. -/
theorem rawOf_eq (t : Tr) (O : List (Qn × Int)) (Y : List Ans) : Y.Pairwise (fun x y => qlt x.q y.q) → rawOf t O Y = (msOf Y).map (clOf t O Y) ∧ (msOf Y).Pairwise (· < ·) ∧ ∀ m, m ∈ msOf Y ↔ ∃ a ∈ Y, a.m = m := by
  induction Y using snoc_ind with
  | h0 => exact fun _ => ⟨rfl, List.Pairwise.nil, fun m => by simp [msOf]⟩
  | hs Y a ih =>
    intro hs
    obtain ⟨hs1, _, hs2⟩ := List.pairwise_append.1 hs
    obtain ⟨i1, i2, i3⟩ := ih hs1
    have hle : ∀ b ∈ Y, b.m ≤ a.m := fun b hb => by have := hs2 b hb a (by simp); unfold qlt Ans.q at this; simp only at this; omega
    have hmm : msOf (Y ++ [a]) = msA (msOf Y) a := by unfold msOf; rw [List.foldl_append]; rfl
    have hrr : rawOf t O (Y ++ [a]) = rawC t O (rawOf t O Y) a := by unfold rawOf; rw [List.foldl_append]; rfl
    obtain ⟨A, h1, h2, h3, h4, h5⟩ : ∃ A, msOf (Y ++ [a]) = A ++ [a.m] ∧ openC (rawOf t O Y) a = A.map (clOf t O Y) ++ [⟨a.m, epOf (Y ++ [a]) a.m, stOf O Y a.m, scOf t Y a.m, chOf O Y a.m⟩] ∧ (∀ m ∈ A, m < a.m) ∧ A.Pairwise (· < ·) ∧ ∀ m ∈ A, ∃ b ∈ Y, b.m = m := by
      rcases nil_or_snoc (msOf Y) with h | ⟨B, l, h⟩
      · have hY : ∀ b ∈ Y, b.m ≠ a.m := fun b hb _ => by
          have := (i3 b.m).2 ⟨b, hb, rfl⟩
          rw [h] at this; simp at this
        refine ⟨[], by rw [hmm, h]; rfl, ?_, by simp, List.Pairwise.nil, by simp⟩
        rw [i1, h, epOf_new hY, (stOf_new hY).1, (stOf_new hY).2]
        unfold scOf
        rw [scOf_new hY]
        rfl
      · have hl : l ∈ msOf Y := by rw [h]; simp
        obtain ⟨b, hb, hbl⟩ := (i3 l).1 hl
        have hBl : ∀ m ∈ B, m < l := fun m hm => by
          rw [h] at i2
          exact (List.pairwise_append.1 i2).2.2 m hm l (by simp)
        have hB : B.Pairwise (· < ·) := by rw [h] at i2; exact (List.pairwise_append.1 i2).1
        have hBY : ∀ m ∈ B, ∃ b ∈ Y, b.m = m := fun m hm => (i3 m).1 (by rw [h]; simp [hm])
        by_cases e : l = a.m
        · subst e
          refine ⟨B, by rw [hmm, h]; simp [msA], ?_, hBl, hB, hBY⟩
          rw [i1, h, List.map_append, List.map_cons, List.map_nil, openC_snoc, if_pos (show (clOf t O Y a.m).m = a.m from rfl), epOf_snoc ⟨b, hb, hbl⟩]
          rfl
        · have hla : l < a.m := by have := hle b hb; omega
          have hY : ∀ b ∈ Y, b.m ≠ a.m := fun c hc hca => by
            have := (i3 c.m).2 ⟨c, hc, rfl⟩
            rw [h] at this
            rcases List.mem_append.1 this with h6 | h6
            · have := hBl _ h6; omega
            · simp at h6; omega
          refine ⟨B ++ [l], by rw [hmm, h]; simp [msA, e], ?_, fun m hm => ?_, ?_, fun m hm => ?_⟩
          · rw [i1, h, List.map_append, List.map_cons, List.map_nil, openC_snoc, if_neg (show ¬ (clOf t O Y l).m = a.m from e), epOf_new hY, (stOf_new hY).1, (stOf_new hY).2]
            unfold scOf
            rw [scOf_new hY]
          · rcases List.mem_append.1 hm with h6 | h6
            · have := hBl _ h6; omega
            · simp at h6; omega
          · rw [← h]; exact i2
          · exact (i3 m).1 (by rw [h]; exact hm)
    refine ⟨?_, ?_, fun m => ?_⟩
    · rw [hrr, h1, List.map_append, List.map_cons, List.map_nil]
      have hA : A.map (clOf t O (Y ++ [a])) = A.map (clOf t O Y) := List.map_congr_left (fun m hm => clOf_snoc (by have := h3 m hm; omega) (h5 m hm))
      rw [hA]
      unfold rawC
      rw [h2]
      have e3 : scOf t (Y ++ [a]) a.m = a.ins.foldl (scS t a.m) (scOf t Y a.m) := by unfold scOf; rw [List.foldl_append]; simp [scA]
      unfold needC clOf
      cases hg : MapS.get (a.ow, a.m, a.n) O with
      | some o =>
        have e1 : stOf O (Y ++ [a]) a.m = stOf O Y a.m ++ [(a.ow, a.n, o)] := by unfold stOf; rw [List.filterMap_append]; simp [stA, hg]
        have e2 : chOf O (Y ++ [a]) a.m = chOf O Y a.m := by unfold chOf; rw [List.filterMap_append]; simp [chA, hg]
        simp only
        rw [updL_snoc, sc_fold_snoc, e1, e2, e3]
        rfl
      | none =>
        have e1 : stOf O (Y ++ [a]) a.m = stOf O Y a.m := by unfold stOf; rw [List.filterMap_append]; simp [stA, hg]
        have e2 : chOf O (Y ++ [a]) a.m = chOf O Y a.m ++ [(a.ow, a.n, 0)] := by unfold chOf; rw [List.filterMap_append]; simp [chA, hg]
        simp only
        rw [updL_snoc, sc_fold_snoc, e1, e2, e3]
        rfl
    · rw [h1, List.pairwise_append]
      exact ⟨h4, by simp, fun m hm k hk => by simp at hk; subst hk; exact h3 m hm⟩
    · rw [h1, List.mem_append]
      constructor
      · rintro (h6 | h6)
        · obtain ⟨b, hb, e⟩ := h5 m h6
          exact ⟨b, by simp [hb], e⟩
        · simp at h6; exact ⟨a, by simp, h6.symm⟩
      · rintro ⟨b, hb, e⟩
        rcases List.mem_append.1 hb with hb | hb
        · have := (i3 m).2 ⟨b, hb, e⟩
          have hb1 : m ∈ msA (msOf Y) a := by unfold msA; split <;> simp [this]
          rw [← hmm, h1] at hb1
          exact List.mem_append.1 hb1
        · simp at hb; subst hb; exact .inr (by simp [e])
/-- Keys that say their elements. -/
def KeyF (L : List T3) : Prop := ∀ x ∈ L, ∀ y ∈ L, x.1 = y.1 → x.2.1 = y.2.1 → x = y
theorem sortedT_uniq : ∀ {Y Z : List T3}, Y.Perm Z → Y.Pairwise (fun x y => ¬ tlt y x) → Z.Pairwise (fun x y => ¬ tlt y x) → KeyF Y → Y = Z
  | [], Z, hp, _, _, _ => by simpa using hp.symm
  | y :: Y, [], hp, _, _, _ => by simp at hp
  | y :: Y, z :: Z, hp, h1, h2, hk => by
    have e : y = z := by
      obtain ⟨a1, _⟩ := List.pairwise_cons.1 h1
      obtain ⟨b1, _⟩ := List.pairwise_cons.1 h2
      have hy : y ∈ z :: Z := hp.mem_iff.1 (by simp)
      have hz : z ∈ y :: Y := hp.mem_iff.2 (by simp)
      rcases List.mem_cons.1 hy with e | hy
      · exact e
      · rcases List.mem_cons.1 hz with e | hz2
        · exact e.symm
        · have c1 := a1 z hz2
          have c2 := b1 y hy
          unfold tlt at c1 c2
          exact hk y (by simp) z hz (by omega) (by omega)
    subst e
    rw [sortedT_uniq (List.perm_cons _ |>.1 hp) (List.pairwise_cons.1 h1).2 (List.pairwise_cons.1 h2).2 (fun a ha b hb => hk a (by simp [ha]) b (by simp [hb]))]
theorem addN_mem (n : T3) (l : List T3) (e : T3) : e ∈ addN n l ↔ e ∈ l ∨ e = n := by
  unfold addN
  split
  · rename_i h
    constructor
    · exact .inl
    · rintro (h1 | rfl)
      · exact h1
      · exact h
  · simp
theorem scs_mem (t : Tr) (m : Int) (e : T3) : ∀ (l : List T3) (acc : List T3), e ∈ l.foldl (scS t m) acc ↔ e ∈ acc ∨ ∃ x ∈ l, e = scN t m x
  | [], acc => by simp
  | x :: r, acc => by
    rw [List.foldl_cons, scs_mem t m e r]
    unfold scS
    rw [addN_mem]
    simp [or_assoc]
theorem scOf_mem (t : Tr) (Y : List Ans) (m : Int) (e : T3) : e ∈ scOf t Y m ↔ ∃ a ∈ Y, a.m = m ∧ ∃ x ∈ a.ins, e = scN t m x := by
  induction Y using snoc_ind with
  | h0 => simp [scOf]
  | hs Y a ih =>
    have : scOf t (Y ++ [a]) m = scA t m (scOf t Y m) a := by unfold scOf; rw [List.foldl_append]; rfl
    rw [this]
    unfold scA
    split
    · rename_i hm
      rw [scs_mem, ih]
      constructor
      · rintro (⟨b, hb, h⟩ | h)
        · exact ⟨b, by simp [hb], h⟩
        · exact ⟨a, by simp, hm, h⟩
      · rintro ⟨b, hb, h⟩
        rcases List.mem_append.1 hb with hb | hb
        · exact .inl ⟨b, hb, h⟩
        · simp at hb; subst hb; exact .inr h.2
    · rename_i hm
      rw [ih]
      constructor
      · rintro ⟨b, hb, h⟩
        exact ⟨b, by simp [hb], h⟩
      · rintro ⟨b, hb, h⟩
        rcases List.mem_append.1 hb with hb | hb
        · exact ⟨b, hb, h⟩
        · simp at hb; subst hb; exact absurd h.1 hm
theorem stOf_mem (O : List (Qn × Int)) (Y : List Ans) (m : Int) (e : T3) : e ∈ stOf O Y m ↔ ∃ a ∈ Y, a.m = m ∧ ∃ o, MapS.get (a.ow, m, a.n) O = some o ∧ e = (a.ow, a.n, o) := by
  unfold stOf
  rw [List.mem_filterMap]
  constructor
  · rintro ⟨a, ha, h⟩
    unfold stA at h
    split at h
    · rename_i hm
      obtain ⟨o, h1, h2⟩ := Option.map_eq_some_iff.1 h
      rw [hm] at h1
      exact ⟨a, ha, hm, o, h1, h2.symm⟩
    · cases h
  · rintro ⟨a, ha, hm, o, h1, rfl⟩
    refine ⟨a, ha, ?_⟩
    unfold stA
    rw [if_pos hm, hm, h1]; rfl
theorem chOf_mem (O : List (Qn × Int)) (Y : List Ans) (m : Int) (e : T3) : e ∈ chOf O Y m ↔ ∃ a ∈ Y, a.m = m ∧ MapS.get (a.ow, m, a.n) O = none ∧ e = (a.ow, a.n, 0) := by
  unfold chOf
  rw [List.mem_filterMap]
  constructor
  · rintro ⟨a, ha, h⟩
    unfold chA at h
    split at h
    · rename_i hm
      obtain ⟨h1, h2⟩ := hm
      rw [h1] at h2
      simp at h
      exact ⟨a, ha, h1, h2, h.symm⟩
    · cases h
  · rintro ⟨a, ha, hm, h1, rfl⟩
    refine ⟨a, ha, ?_⟩
    unfold chA
    rw [if_pos ⟨hm, by rw [hm]; exact h1⟩]
theorem out_fold (m : Int) (k : Qn) : ∀ (l : List T3) (acc : List (Qn × Int)), (MapS.get k (l.foldl (outA m) acc)).isSome = true ↔ (MapS.get k acc).isSome = true ∨ ∃ x ∈ l, k = (m, x.1, x.2.1)
  | [], acc => by simp
  | x :: r, acc => by
    rw [List.foldl_cons, out_fold m k r]
    have : (MapS.get k (outA m acc x)).isSome = true ↔ (MapS.get k acc).isSome = true ∨ k = (m, x.1, x.2.1) := by
      unfold outA
      split
      · rename_i h
        constructor
        · exact .inl
        · rintro (h1 | rfl)
          · exact h1
          · exact h
      · rename_i h
        rw [MapS.get_append]
        by_cases e : k = (m, x.1, x.2.1)
        · subst e
          simp [MapS.get]
        · have e' : ¬ (m, x.1, x.2.1) = k := fun h => e h.symm
          simp [MapS.get, e, e']
    rw [this]
    simp [or_assoc]
theorem outsOf_some (Y : List Ans) (k : Qn) : (MapS.get k (outsOf Y)).isSome = true ↔ ∃ a ∈ Y, ∃ x ∈ a.ins, k = (a.m, x.1, x.2.1) := by
  induction Y using snoc_ind with
  | h0 => simp [outsOf, MapS.get]
  | hs Y a ih =>
    have : outsOf (Y ++ [a]) = a.ins.foldl (outA a.m) (outsOf Y) := by unfold outsOf; rw [List.foldl_append]; rfl
    rw [this, out_fold, ih]
    constructor
    · rintro (⟨b, hb, h⟩ | h)
      · exact ⟨b, by simp [hb], h⟩
      · exact ⟨a, by simp, h⟩
    · rintro ⟨b, hb, h⟩
      rcases List.mem_append.1 hb with hb | hb
      · exact .inl ⟨b, hb, h⟩
      · simp at hb; subst hb; exact .inr h
/-- Answers of one machine have different owners or numbers. -/
theorem ans_uniq {Y : List Ans} (hs : Y.Pairwise (fun x y => qlt x.q y.q)) {a b : Ans} (ha : a ∈ Y) (hb : b ∈ Y) (h : a.q = b.q) : a = b := by
  induction hs with
  | nil => simp at ha
  | @cons y Y h1 _ ih =>
    rcases List.mem_cons.1 ha with ea | ha2
    · rcases List.mem_cons.1 hb with eb | hb2
      · rw [ea, eb]
      · have := h1 b hb2; rw [← ea, h] at this; exact absurd this (qlt_irrefl _)
    · rcases List.mem_cons.1 hb with eb | hb2
      · have := h1 a ha2; rw [← eb, h] at this; exact absurd this (qlt_irrefl _)
      · exact ih ha2 hb2
theorem clOf_key (t : Tr) (O : List (Qn × Int)) (Y : List Ans) (hs : Y.Pairwise (fun x y => qlt x.q y.q)) (m : Int) : ∀ j, j < 3 → KeyF ((clOf t O Y m).at j) := by
  intro j hj
  match j, hj with
  | 0, _ =>
    intro x hx y hy h1 h2
    obtain ⟨a, ha, hm, o, g1, rfl⟩ := (stOf_mem _ _ _ _).1 hx
    obtain ⟨b, hb, hm2, o2, g2, rfl⟩ := (stOf_mem _ _ _ _).1 hy
    have : a = b := ans_uniq hs ha hb (by simp only [Ans.q]; rw [hm, hm2, show a.ow = b.ow from h1, show a.n = b.n from h2])
    subst this
    rw [g1] at g2; cases g2; rfl
  | 1, _ =>
    intro x hx y hy h1 h2
    obtain ⟨a, ha, hm, u, hu, rfl⟩ := (scOf_mem _ _ _ _).1 hx
    obtain ⟨b, hb, hm2, v, hv, rfl⟩ := (scOf_mem _ _ _ _).1 hy
    simp only [scN] at h1 h2 ⊢
    rw [h1, h2]
  | 2, _ =>
    intro x hx y hy h1 h2
    obtain ⟨a, ha, hm, g1, rfl⟩ := (chOf_mem _ _ _ _).1 hx
    obtain ⟨b, hb, hm2, g2, rfl⟩ := (chOf_mem _ _ _ _).1 hy
    simp only at h1 h2 ⊢
    rw [h1, h2]
/-- The claims, each machine's own. -/
structure ClmAt (t : Tr) (Y : List Ans) (p : PCl) (mm : Int) : Prop where
  m : p.m = mm
  ep : p.ep = epOf Y mm
  at' : ∀ j, j < 3 → (p.at j).Perm ((clOf t (outsOf Y) Y mm).at j) ∧ (p.at j).Pairwise (fun x y => ¬ tlt y x)
theorem ClaimsP.at' {t : Tr} {Y : List Ans} {P : List PCl} (hs : Y.Pairwise (fun x y => qlt x.q y.q)) (h : ClaimsP t Y P) :
    P.length = (msOf Y).length ∧ ∀ (k : Nat) (h1 : k < P.length) (h2 : k < (msOf Y).length), ClmAt t Y P[k] (msOf Y)[k] := by
  obtain ⟨e1, _, _⟩ := rawOf_eq t (outsOf Y) Y hs
  unfold ClaimsP at h
  rw [e1] at h
  obtain ⟨h1, h2⟩ := h
  rw [List.length_map] at h1
  refine ⟨h1, fun k k1 k2 => ?_⟩
  obtain ⟨a1, a2, a3⟩ := h2 k k1 (by rw [List.length_map]; exact k2)
  simp only [List.getElem_map] at a1 a2 a3
  exact ⟨a1, a2, a3⟩
theorem ClaimsP.of_at {t : Tr} {Y : List Ans} {P : List PCl} (hs : Y.Pairwise (fun x y => qlt x.q y.q)) (h1 : P.length = (msOf Y).length) (h2 : ∀ (k : Nat) (h1 : k < P.length) (h2 : k < (msOf Y).length), ClmAt t Y P[k] (msOf Y)[k]) : ClaimsP t Y P := by
  obtain ⟨e1, _, _⟩ := rawOf_eq t (outsOf Y) Y hs
  unfold ClaimsP
  rw [e1]
  refine ⟨by rw [List.length_map]; exact h1, fun k k1 k2 => ?_⟩
  rw [List.length_map] at k2
  obtain ⟨a1, a2, a3⟩ := h2 k k1 k2
  simp only [List.getElem_map]
  exact ⟨a1, a2, a3⟩
theorem pcl_ext {p q : PCl} (h1 : p.m = q.m) (h2 : p.ep = q.ep) (h3 : ∀ j, j < 3 → p.at j = q.at j) : p = q := by
  obtain ⟨a, b, c, d, e⟩ := p
  obtain ⟨a', b', c', d', e'⟩ := q
  have e0 := h3 0 (by omega)
  have e1 := h3 1 (by omega)
  have e2 := h3 2 (by omega)
  simp only [PCl.at] at h1 h2 e0 e1 e2
  subst h1 h2 e0 e1 e2
  rfl
theorem KeyF.perm {L M : List T3} (h : KeyF L) (hp : M.Perm L) : KeyF M := fun x hx y hy => h x (hp.mem_iff.1 hx) y (hp.mem_iff.1 hy)
theorem ClmAt.uniq {t : Tr} {Y : List Ans} {p q : PCl} {m : Int} (hs : Y.Pairwise (fun x y => qlt x.q y.q)) (h : ClmAt t Y p m) (g : ClmAt t Y q m) : p = q :=
  pcl_ext (h.m.trans g.m.symm) (h.ep.trans g.ep.symm) (fun j hj => by
    obtain ⟨a1, a2⟩ := h.at' j hj
    obtain ⟨b1, b2⟩ := g.at' j hj
    exact sortedT_uniq (a1.trans b1.symm) a2 b2 ((clOf_key t _ Y hs m j hj).perm a1))
theorem ClaimsP.uniq {t : Tr} {Y : List Ans} {P Q : List PCl} (hs : Y.Pairwise (fun x y => qlt x.q y.q)) (h : ClaimsP t Y P) (g : ClaimsP t Y Q) : P = Q := by
  obtain ⟨h1, h2⟩ := h.at' hs
  obtain ⟨g1, g2⟩ := g.at' hs
  exact List.ext_getElem (h1.trans g1.symm) (fun k k1 k2 => (h2 k k1 (by omega)).uniq hs (g2 k k2 (by omega)))
theorem rawOf_congr {t u : Tr} (h : luOf t = luOf u) (O : List (Qn × Int)) (Y : List Ans) : rawOf t O Y = rawOf u O Y := by
  have h1 : scC t = scC u := by funext m P x; unfold scC; rw [h]
  have h2 : rawC t = rawC u := by funext O P a; unfold rawC; rw [h1]
  unfold rawOf
  rw [h2]
theorem ClaimsP.congr {t u : Tr} {Y : List Ans} {P : List PCl} (h : luOf t = luOf u) (g : ClaimsP t Y P) : ClaimsP u Y P := by
  unfold ClaimsP at g ⊢
  rw [← rawOf_congr h]
  exact g
end Go.Proofs.Ythfdngjbcgkkfaa

namespace Go.Proofs.Ythfdngjbcgkkfaa
open Go.RowKit

/-- The first answer of a table to a question. -/
def lookA (T : List Ans) (q : Qn) : Option Ans := T.find? (fun a => decide (a.q = q))
def ansOf (T : List Ans) (q : Qn) : Ans := (lookA T q).getD ⟨q.1, q.2.1, q.2.2, 0, false, false, 0, []⟩
theorem lookA_some {T : List Ans} {q : Qn} {a : Ans} (h : lookA T q = some a) : a ∈ T ∧ a.q = q := by
  unfold lookA at h
  exact ⟨List.mem_of_find?_eq_some h, by simpa using List.find?_some h⟩
theorem ansOf_q (T : List Ans) (q : Qn) : (ansOf T q).q = q := by
  unfold ansOf
  cases h : lookA T q with
  | none => rfl
  | some a => exact (lookA_some h).2
/-- The questions that lead on from the start. -/
inductive Rch (T : List Ans) (s : Qn) : Qn → Prop
  | start : Rch T s s
  | step {q : Qn} {a : Ans} {x : T3} : Rch T s q → lookA T q = some a → a.kn = true → a.rt = false → x ∈ a.ins → Rch T s (x.1, a.m, x.2.1)
def askq (q : Qn) : T3 := (q.1, q.2.2, q.2.1)
def qask (e : T3) : Qn := (e.1, e.2.2, e.2.1)
theorem qask_askq (q : Qn) : qask (askq q) = q := rfl
theorem askOf_none (q : Qn) : askOf (q, none) = some (askq q) := rfl
theorem askOf_some (q : Qn) (a : Ans) : askOf (q, some a) = none := rfl
theorem ask_setQ {q : Qn} {a : Ans} : ∀ {qs : Qs}, (qs.map (·.1)).Nodup → (q, none) ∈ qs → (qs.filterMap askOf).Perm (askq q :: (setQ q a qs).filterMap askOf)
  | [], _, h => by simp at h
  | (x, u) :: r, hn, h => by
    obtain ⟨h1, h2⟩ := List.nodup_cons.1 hn
    rw [setQ_cons]
    rcases List.mem_cons.1 h with e | hm
    · cases e
      rw [if_pos rfl, setQ_same h1, List.filterMap_cons_some (askOf_none q), List.filterMap_cons_none (askOf_some q a)]
    · have hx : x ≠ q := fun e => h1 (List.mem_map.2 ⟨(q, none), hm, e.symm⟩)
      have ih := ask_setQ (a := a) h2 hm
      rw [if_neg hx]
      cases u with
      | none =>
        rw [List.filterMap_cons_some (askOf_none x), List.filterMap_cons_some (askOf_none x)]
        exact (ih.cons _).trans (List.Perm.swap _ _ _)
      | some b => rw [List.filterMap_cons_none (askOf_some x b), List.filterMap_cons_none (askOf_some x b)]; exact ih
theorem ask_mem {qs : Qs} {e : T3} (h : e ∈ qs.filterMap askOf) : (qask e, none) ∈ qs := by
  obtain ⟨⟨q, u⟩, h1, h2⟩ := List.mem_filterMap.1 h
  cases u with
  | none => rw [askOf_none] at h2; cases h2; exact h1
  | some a => rw [askOf_some] at h2; cases h2
theorem ask_nil {qs : Qs} (h : qs.filterMap askOf = []) : allQ qs = true := by
  unfold allQ
  rw [List.all_eq_true]
  rintro ⟨q, u⟩ hp
  cases u with
  | none =>
    have := List.filterMap_eq_nil_iff.1 h _ hp
    rw [askOf_none] at this; cases this
  | some a => rfl
theorem fold_app (m : Int) : ∀ (l : List T3) (qs : Qs), ∃ N, l.foldl (openQ m) qs = qs ++ N ∧ (∀ p ∈ N, p.2 = none ∧ ∃ x ∈ l, p.1 = (x.1, m, x.2.1)) ∧ N.length ≤ l.length ∧ ∀ x ∈ l, (x.1, m, x.2.1) ∈ (qs ++ N).map (·.1)
  | [], qs => ⟨[], by simp, by simp, by simp, by simp⟩
  | x :: r, qs => by
    rw [List.foldl_cons]
    obtain ⟨N, h1, h2, h3, h4⟩ := fold_app m r (openQ m qs x)
    rw [h1]
    unfold openQ at h4 ⊢
    split
    · rename_i h
      rw [if_pos h] at h4
      refine ⟨N, rfl, fun p hp => ⟨(h2 p hp).1, ?_⟩, by simp; omega, fun y hy => ?_⟩
      · obtain ⟨y, hy, e⟩ := (h2 p hp).2
        exact ⟨y, by simp [hy], e⟩
      · rcases List.mem_cons.1 hy with rfl | hy
        · rw [List.map_append]; exact List.mem_append_left _ h
        · exact h4 y hy
    · rename_i h
      rw [if_neg h] at h4
      refine ⟨((x.1, m, x.2.1), none) :: N, by simp, fun p hp => ?_, by simp; omega, fun y hy => ?_⟩
      · rcases List.mem_cons.1 hp with rfl | hp
        · exact ⟨rfl, x, by simp, rfl⟩
        · obtain ⟨y, hy, e⟩ := (h2 p hp).2
          exact ⟨(h2 p hp).1, y, by simp [hy], e⟩
      · rcases List.mem_cons.1 hy with rfl | hy
        · simp
        · have := h4 y hy
          simpa using this
/-- Some question that leads on is not answered well. -/
def BadQ (T : List Ans) (s : Qn) : Prop := ∃ q, Rch T s q ∧ ∀ a, lookA T q = some a → a.kn = false ∨ a.rt = true ∨ ∃ b ∈ T, b.m = a.m ∧ b.ep ≠ a.ep
structure FinI (T : List Ans) (s : Qn) (t : Tr) : Prop where
  rch : ∀ q ∈ t.op, Rch T s q
  rc : ∀ p ∈ t.rec', lookA T p.1 = some p.2 ∧ p.2.kn = true ∧ p.2.rt = false
  cl : ∀ p ∈ t.rec', ∀ x ∈ p.2.ins, (x.1, p.2.m, x.2.1) ∈ t.op
  opn : ∀ q ∈ t.op, q = s ∨ ∃ p ∈ t.rec', ∃ x ∈ p.2.ins, q = (x.1, p.2.m, x.2.1)
  hs : s ∈ t.op
  hist : t.state = 0 → ∀ a ∈ t.hist, a ∈ T
  st : (t.state = 0 ∧ allQ t.qs = false) ∨ (t.state = 1 ∧ allQ t.qs = true) ∨ ((t.state = 3 ∨ t.state = 4) ∧ BadQ T s)
  len : t.qs.length ≤ 1 + 5 * t.rec'.length
  hl : t.hist.length ≤ t.rec'.length + 1
  hl0 : t.state = 0 → t.hist.length = t.rec'.length
  ag : t.ag = []
  rf : t.rf = false
  nd : t.op.Nodup
def FinO (t : Tr) (o : List T3) : Prop := ∃ tn : Nat, t.told = tn ∧ tn ≤ t.qs.length ∧ o.Perm ((t.qs.take tn).filterMap askOf)
theorem FinI.new (T : List Ans) (im is : Int) (st : T3) : FinI T (im, st.1, st.2.1) (Tr.new im is st) :=
  ⟨fun q hq => by simp [Tr.op, Tr.new] at hq; subst hq; exact .start, by simp [Tr.rec', Tr.new, recOf], by simp [Tr.rec', Tr.new, recOf], fun q hq => by simp [Tr.op, Tr.new] at hq; exact .inl hq, by simp [Tr.op, Tr.new],
    by simp [Tr.new], .inl ⟨rfl, rfl⟩, by simp [Tr.new], by simp [Tr.new], by simp [Tr.new, Tr.rec', recOf], rfl, rfl, by simp [Tr.op, Tr.new]⟩
theorem FinO.new (im is : Int) (st : T3) : FinO (Tr.new im is st) [] := ⟨0, rfl, by simp, by simp⟩
/-- Behind the queries. -/
theorem FinO.ask {t : Tr} {o : List T3} (h : FinO t o) (h0 : t.state = 0) : (o ++ t.queries.2).Perm (t.qs.filterMap askOf) ∧ t.queries.1 = { t with told := t.qs.length } := by
  obtain ⟨tn, h1, h2, h3⟩ := h
  have hq : t.queries = ({ t with told := t.qs.length }, (t.qs.drop tn).filterMap askOf) := by unfold Tr.queries; rw [if_neg (by simp [h0]), h1]; rfl
  rw [hq]
  refine ⟨?_, rfl⟩
  have : t.qs.filterMap askOf = (t.qs.take tn).filterMap askOf ++ (t.qs.drop tn).filterMap askOf := by rw [← List.filterMap_append, List.take_append_drop]
  rw [this]
  exact h3.append_right _
theorem FinI.told {T : List Ans} {s : Qn} {t : Tr} (h : FinI T s t) (n : Int) : FinI T s { t with told := n } := ⟨h.rch, h.rc, h.cl, h.opn, h.hs, h.hist, h.st, h.len, h.hl, h.hl0, h.ag, h.rf, h.nd⟩
theorem FinI.ask {T : List Ans} {s : Qn} {t : Tr} (h : FinI T s t) : FinI T s t.queries.1 := by
  unfold Tr.queries
  split
  · exact h
  · exact h.told _
theorem FinI.open_ne {T : List Ans} {s : Qn} {t : Tr} (h : FinI T s t) (h0 : t.state = 0) {o : List T3} (ho : o.Perm (t.qs.filterMap askOf)) : o ≠ [] := fun e => by
  subst e
  have := ask_nil (List.nil_perm.1 ho)
  rcases h.st with ⟨_, h1⟩ | ⟨h1, _⟩ | ⟨h1, _⟩
  · rw [this] at h1; cases h1
  · omega
  · omega
theorem split_at {α : Type} (o : List α) (k : Nat) (hk : k < o.length) : o = o.take k ++ o[k] :: o.drop (k + 1) := by
  rw [← List.drop_eq_getElem_cons hk, List.take_append_drop]
/-- One round. -/
theorem FinI.round {T : List Ans} {s : Qn} {t : Tr} (h : FinI T s t) (h0 : t.state = 0) {o : List T3} (ho : o.Perm (t.qs.filterMap askOf)) (hT : ∀ a ∈ T, a.ins.length ≤ 5) (k : Nat) (hk : k < o.length) (htold : t.told = t.qs.length) :
    isOpen (qask o[k]) t.qs = true ∧ FinI T s (t.answer (ansOf T (qask o[k]))).1 ∧ ((t.answer (ansOf T (qask o[k]))).1.state = 0 → FinO (t.answer (ansOf T (qask o[k]))).1 (o.take k ++ o.drop (k + 1)) ∧ (t.answer (ansOf T (qask o[k]))).1.rec'.length = t.rec'.length + 1) := by
  obtain ⟨q, hq⟩ : ∃ q, qask o[k] = q := ⟨_, rfl⟩
  have hmem : (q, none) ∈ t.qs := by rw [← hq]; exact ask_mem (ho.mem_iff.1 (List.getElem_mem hk))
  have hop : isOpen q t.qs = true := isOpen_mem.2 hmem
  have hqo : q ∈ t.op := List.mem_map.2 ⟨_, hmem, rfl⟩
  have hr := h.rch q hqo
  rw [hq]
  refine ⟨hop, ?_⟩
  obtain ⟨a, ha⟩ : ∃ a, ansOf T q = a := ⟨_, rfl⟩
  have haq : a.q = q := by rw [← ha]; exact ansOf_q T q
  rw [ha]
  unfold Tr.answer
  rw [if_neg (by simp [h0]), haq, if_neg (by simp [hop])]
  have stop : ∀ (sx : Int), sx = 3 ∨ sx = 4 → BadQ T s → FinI T s { t.take a with state := sx } := fun sx hsx hb =>
    ⟨h.rch, h.rc, h.cl, h.opn, h.hs, fun e => by simp at e; omega, .inr (.inr ⟨hsx, hb⟩), h.len, by have := h.hl0 h0; simp [Tr.take, Tr.rec'] at this ⊢; omega, fun e => by simp at e; omega, h.ag, h.rf, h.nd⟩
  have hlook : ∀ b, lookA T q = some b → b = a := fun b hb => by rw [← ha]; unfold ansOf; rw [hb]; rfl
  by_cases hkn : a.kn = false
  · rw [if_pos hkn]
    exact ⟨stop 4 (.inr rfl) ⟨q, hr, fun b hb => .inl (by rw [hlook b hb]; exact hkn)⟩, fun e => by simp at e⟩
  rw [if_neg hkn]
  have hkn : a.kn = true := by simpa using hkn
  by_cases hrt : a.rt = true
  · rw [if_pos hrt]
    exact ⟨stop 3 (.inl rfl) ⟨q, hr, fun b hb => .inr (.inl (by rw [hlook b hb]; exact hrt))⟩, fun e => by simp at e⟩
  rw [if_neg hrt]
  have hrt : a.rt = false := by simpa using hrt
  have hla : lookA T q = some a := by
    unfold ansOf at ha
    cases e : lookA T q with
    | some b => rw [e] at ha; simp at ha; rw [ha]
    | none => rw [e] at ha; simp at ha; rw [← ha] at hkn; simp at hkn
  have haT := (lookA_some hla).1
  by_cases hodd : (t.hist ++ [a]).any (Ans.odd a.m a.ep) = true
  · rw [if_pos hodd]
    refine ⟨stop 4 (.inr rfl) ⟨q, hr, fun b hb => ?_⟩, fun e => by simp at e⟩
    rw [hlook b hb]
    obtain ⟨c, hc, hod⟩ := List.any_eq_true.1 hodd
    have hcT : c ∈ T := by
      rcases List.mem_append.1 hc with hc | hc
      · exact h.hist h0 c hc
      · simp at hc; subst hc; exact haT
    unfold Ans.odd at hod
    simp at hod
    exact .inr (.inr ⟨c, hcT, hod.1, hod.2⟩)
  rw [if_neg hodd]
  obtain ⟨N, n1, n2, n3, n4⟩ := fold_app a.m a.ins (setQ a.q a t.qs)
  have hqs : ((t.take a).put a).qs = setQ a.q a t.qs ++ N := n1
  have hrec : recOf (setQ a.q a t.qs ++ N) = recOf (setQ a.q a t.qs) := by rw [← n1]; exact fold_rec _ _ _
  have hqn : ∀ b, (b ∈ (setQ a.q a t.qs ++ N).map (·.1)) ↔ b ∈ t.op ∨ b ∈ N.map (·.1) := fun b => by rw [List.map_append, setQ_keys, List.mem_append]; rfl
  have hq2 : a.q ∈ t.qs.map (·.1) := by rw [haq]; exact hqo
  have hmemr : ∀ p, p ∈ recOf (setQ a.q a t.qs) ↔ (p.1 = a.q ∧ p.2 = a) ∨ (p.1 ≠ a.q ∧ p ∈ t.rec') := fun ⟨k, b⟩ => by
    rw [recOf_keys, setQ_mem hq2]
    simp only [Option.some.injEq]
    unfold Tr.rec'
    rw [recOf_keys]
  have hlen := setQ_len (a := a) h.nd (show (a.q, none) ∈ t.qs by rw [haq]; exact hmem)
  have hnew : ∀ b ∈ N.map (·.1), ∃ x ∈ a.ins, b = (x.1, a.m, x.2.1) := fun b hb => by
    obtain ⟨p, hp, rfl⟩ := List.mem_map.1 hb
    exact (n2 p hp).2
  have hold : ∀ p ∈ t.rec', p ∈ recOf (setQ a.q a t.qs) := fun p hp => by
    refine (hmemr p).2 (.inr ⟨fun e => ?_, hp⟩)
    obtain ⟨k, b⟩ := p
    have h1 := recOf_keys.1 hp
    simp only at e
    subst e
    have h2 : (a.q, none) ∈ t.qs := by rw [haq]; exact hmem
    have := nd_val h.nd h1 h2
    cases this
  have hself : (a.q, a) ∈ recOf (setQ a.q a t.qs) := (hmemr _).2 (.inl ⟨rfl, rfl⟩)
  have hrl : (setQ a.q a t.qs).length = t.qs.length := by unfold setQ; simp
  have hgen : ∀ (t' : Tr), t'.qs = setQ a.q a t.qs ++ N → t'.hist = t.hist ++ [a] → t'.ag = t.ag → t'.rf = t.rf → ((t'.state = 0 ∧ allQ t'.qs = false) ∨ (t'.state = 1 ∧ allQ t'.qs = true)) → FinI T s t' := by
    intro t' e1 e2 e3 e4 e5
    have hr' : t'.rec' = recOf (setQ a.q a t.qs) := by unfold Tr.rec'; rw [e1, hrec]
    have ho' : ∀ b, b ∈ t'.op ↔ b ∈ t.op ∨ b ∈ N.map (·.1) := fun b => by unfold Tr.op; rw [e1]; exact hqn b
    refine ⟨fun b hb => ?_, fun p hp => ?_, fun p hp x hx => ?_, fun b hb => ?_, ?_, fun _ b hb => ?_, ?_, ?_, ?_, fun _ => ?_, e3.trans h.ag, e4.trans h.rf, ?_⟩
    · rcases (ho' b).1 hb with hb | hb
      · exact h.rch b hb
      · obtain ⟨x, hx, rfl⟩ := hnew b hb
        exact .step hr hla hkn hrt hx
    · rw [hr'] at hp
      rcases (hmemr p).1 hp with ⟨h1, h2⟩ | ⟨_, h2⟩
      · rw [h1, h2, haq]; exact ⟨hla, hkn, hrt⟩
      · exact h.rc p h2
    · rw [hr'] at hp
      refine (ho' _).2 ?_
      rcases (hmemr p).1 hp with ⟨h1, h2⟩ | ⟨_, h2⟩
      · rw [h2] at hx ⊢
        exact (hqn _).1 (n4 x hx)
      · exact .inl (h.cl p h2 x hx)
    · rw [hr']
      rcases (ho' b).1 hb with hb | hb
      · rcases h.opn b hb with e | ⟨p, hp, x, hx, e⟩
        · exact .inl e
        · exact .inr ⟨p, hold p hp, x, hx, e⟩
      · obtain ⟨x, hx, rfl⟩ := hnew b hb
        exact .inr ⟨(a.q, a), hself, x, hx, rfl⟩
    · exact (ho' s).2 (.inl h.hs)
    · rw [e2] at hb
      rcases List.mem_append.1 hb with hb | hb
      · exact h.hist h0 b hb
      · simp at hb; subst hb; exact haT
    · rcases e5 with e5 | e5
      · exact .inl e5
      · exact .inr (.inl e5)
    · rw [hr', hlen, e1, List.length_append, hrl]
      have := h.len
      have := hT a haT
      simp only [Tr.rec'] at *
      omega
    · rw [hr', hlen, e2, List.length_append]
      have := h.hl0 h0
      simp only [Tr.rec'] at *
      simp; omega
    · rw [hr', hlen, e2, List.length_append]
      have := h.hl0 h0
      simp only [Tr.rec'] at *
      simp; omega
    · have : t'.op = (a.ins.foldl (openQ a.m) (setQ a.q a t.qs)).map (·.1) := by unfold Tr.op; rw [e1, n1]
      rw [this]
      exact fold_nd _ _ _ (by rw [setQ_keys]; exact h.nd)
  unfold Tr.close
  by_cases hall : allQ ((t.take a).put a).qs = true
  · rw [if_pos hall]
    exact ⟨hgen _ hqs rfl rfl rfl (.inr ⟨rfl, hall⟩), fun e => by simp at e⟩
  · rw [if_neg hall]
    refine ⟨hgen _ hqs rfl rfl rfl (.inl ⟨h0, by simpa using hall⟩), fun _ => ⟨⟨t.qs.length, htold, by rw [hqs]; simp [hrl], ?_⟩, ?_⟩⟩
    · rw [hqs, ← hrl, List.take_left]
      have p1 := ask_setQ (a := a) h.nd (show (a.q, none) ∈ t.qs by rw [haq]; exact hmem)
      have p2 : o.Perm (o[k] :: (o.take k ++ o.drop (k + 1))) := by
        have := split_at o k hk
        exact (List.Perm.of_eq this).trans List.perm_middle
      have hoq : o[k] = askq a.q := by rw [haq, ← hq]; rfl
      rw [hoq] at p2
      exact (List.perm_cons _).1 ((p2.symm.trans ho).trans p1)
    · show (recOf ((t.take a).put a).qs).length = _
      rw [hqs, hrec, hlen]; rfl
/-- No more answers than the table has. -/
theorem nodup_sub_len {α : Type} [DecidableEq α] : ∀ {l m : List α}, l.Nodup → (∀ x ∈ l, x ∈ m) → l.length ≤ m.length
  | [], _, _, _ => by simp
  | x :: l, m, hn, hs => by
    obtain ⟨h1, h2⟩ := List.nodup_cons.1 hn
    have hx := hs x (by simp)
    have := nodup_sub_len (l := l) (m := m.erase x) h2 (fun y hy => (List.mem_erase_of_ne (fun e => h1 (by rw [← e]; exact hy))).2 (hs y (by simp [hy])))
    have h3 := List.length_erase_of_mem hx
    have h4 := List.length_pos_of_mem hx
    simp; omega
theorem FinI.recLen {T : List Ans} {s : Qn} {t : Tr} (h : FinI T s t) : t.rec'.length ≤ T.length := by
  have h1 : (t.rec'.map (·.1)).Nodup := recOf_nd h.nd
  have h2 := nodup_sub_len (m := T.map Ans.q) h1 (fun q hq => by
    obtain ⟨p, hp, rfl⟩ := List.mem_map.1 hq
    obtain ⟨e1, e2⟩ := lookA_some (h.rc p hp).1
    exact List.mem_map.2 ⟨p.2, e1, e2⟩)
  simpa using h2
/-- What finish gives. -/
structure FinE (T : List Ans) (s : Qn) (t : Tr) : Prop where
  i : FinI T s t
  n0 : t.state ≠ 0
theorem FinE.mem1 {T : List Ans} {s : Qn} {t : Tr} (h : FinE T s t) (h1 : t.state = 1) {q : Qn} (hq : q ∈ t.op) : ∃ a, (q, a) ∈ t.rec' := by
  have hall : allQ t.qs = true := by
    rcases h.i.st with ⟨e, _⟩ | ⟨_, e⟩ | ⟨e, _⟩
    · omega
    · exact e
    · omega
  obtain ⟨⟨q', u⟩, hp, e⟩ := List.mem_map.1 hq
  simp only at e
  subst e
  have := List.all_eq_true.1 hall _ hp
  obtain ⟨a, ha⟩ := Option.isSome_iff_exists.1 this
  simp only at ha
  exact ⟨a, recOf_keys.2 (by rw [← ha]; exact hp)⟩
def Good (T : List Ans) (s : Qn) : Prop := ∀ q, Rch T s q → ∃ a, lookA T q = some a ∧ a.kn = true ∧ a.rt = false
theorem FinE.rch {T : List Ans} {s : Qn} {t : Tr} (h : FinE T s t) (h1 : t.state = 1) : ∀ q, Rch T s q → q ∈ t.op := fun q hq => by
  induction hq with
  | start => exact h.i.hs
  | step hr hl hk hrt hx ih =>
    obtain ⟨b, hb⟩ := h.mem1 h1 ih
    have := (h.i.rc _ hb).1
    rw [hl] at this
    cases this
    exact h.i.cl _ hb _ hx
theorem FinE.good {T : List Ans} {s : Qn} {t : Tr} (h : FinE T s t) (he : ∀ x ∈ T, ∀ y ∈ T, x.m = y.m → x.ep = y.ep) : t.state = 1 ↔ Good T s := by
  constructor
  · intro h1 q hq
    obtain ⟨a, ha⟩ := h.mem1 h1 (h.rch h1 q hq)
    exact ⟨a, h.i.rc _ ha⟩
  · intro hg
    rcases h.i.st with ⟨e, _⟩ | ⟨e, _⟩ | ⟨_, q, hq, hb⟩
    · exact absurd e h.n0
    · exact e
    · obtain ⟨a, h1, h2, h3⟩ := hg q hq
      rcases hb a h1 with e | e | ⟨b, hb, e1, e2⟩
      · rw [h2] at e; cases e
      · rw [h3] at e; cases e
      · exact absurd (he b hb a (lookA_some h1).1 e1) e2
/-- Two orders: the same recorded answers. -/
theorem FinE.perm {T : List Ans} {s : Qn} {t u : Tr} (h : FinE T s t) (g : FinE T s u) (h1 : t.state = 1) (g1 : u.state = 1) : t.rec'.Perm u.rec' := by
  have sub : ∀ {t u : Tr}, FinE T s t → FinE T s u → t.state = 1 → u.state = 1 → ∀ p ∈ t.rec', p ∈ u.rec' := by
    intro t u h g h1 g1 ⟨q, a⟩ hp
    have hq : q ∈ t.op := (recOf_sub t.qs).mem (List.mem_map.2 ⟨_, hp, rfl⟩)
    obtain ⟨b, hb⟩ := g.mem1 g1 (g.rch g1 q (h.i.rch q hq))
    have e1 := (h.i.rc _ hp).1
    have e2 := (g.i.rc _ hb).1
    simp only at e1 e2
    rw [e1] at e2; cases e2
    exact hb
  have n1 : t.rec'.Nodup := (List.pairwise_map.1 (recOf_nd h.i.nd)).imp (fun hne e => hne (by rw [e]))
  have n2 : u.rec'.Nodup := (List.pairwise_map.1 (recOf_nd g.i.nd)).imp (fun hne e => hne (by rw [e]))
  exact (List.perm_ext_iff_of_nodup n1 n2).2 (fun p => ⟨sub h g h1 g1 p, sub g h g1 h1 p⟩)
theorem FinE.claims {T : List Ans} {s : Qn} {t u : Tr} (h : FinE T s t) (g : FinE T s u) (h1 : t.state = 1) (g1 : u.state = 1) {Y Z : List Ans} {P Q : List PCl} (hY : SortedA t Y) (hZ : SortedA u Z) (hP : ClaimsP t Y P) (hQ : ClaimsP u Z Q) : P = Q := by
  have hp := h.perm g h1 g1
  have hZ' : SortedA t Z := ⟨hZ.1.trans (hp.symm.map _), hZ.2⟩
  obtain rfl := hY.uniq hZ'
  refine ClaimsP.uniq hY.2 hP (hQ.congr ?_)
  funext q
  unfold luOf
  rw [show MapS.get q u.rec' = MapS.get q t.rec' from MapS.get_perm (recOf_nd h.i.nd) hp]
end Go.Proofs.Ythfdngjbcgkkfaa

namespace Go.Proofs.Ythfdngjbcgkkfaa
open Go.RowKit

def findP (P : List PCl) (m : Int) : PCl := (P.find? (fun c => c.m == m)).getD ⟨0, 0, [], [], []⟩
def hasP (l : List T3) (p : Int) (n : Nat) : Bool := l.any (fun x => x.1 == p && x.2.1 == n)
structure Closed (im : Int) (zz : T3) (P : List PCl) : Prop where
  pos : 0 < P.length
  asc : ∀ k (h1 : k < P.length) (h2 : k + 1 < P.length), P[k].m < P[k + 1].m
  sc : ∀ c ∈ P, ∀ x ∈ c.sc, hasP (findP P x.1).st c.m x.2.1 = true
  st : ∀ c ∈ P, ∀ x ∈ c.st, hasP (findP P x.1).sc c.m x.2.1 = true
  ch : ∀ c ∈ P, ∀ x ∈ c.ch, c.m = im ∧ x.1 = zz.1 ∧ x.2.1 = zz.2.1 ∧ x.2.2 = 0
theorem ClmAt.mem {t : Tr} {Y : List Ans} {c : PCl} {m : Int} (h : ClmAt t Y c m) (e : T3) : (e ∈ c.st ↔ e ∈ stOf (outsOf Y) Y m) ∧ (e ∈ c.sc ↔ e ∈ scOf t Y m) ∧ (e ∈ c.ch ↔ e ∈ chOf (outsOf Y) Y m) :=
  ⟨(h.at' 0 (by omega)).1.mem_iff, (h.at' 1 (by omega)).1.mem_iff, (h.at' 2 (by omega)).1.mem_iff⟩
theorem closedP {T : List Ans} {im : Int} {st : T3} {t : Tr} (h : FinE T (im, st.1, st.2.1) t) (h1 : t.state = 1) {Y : List Ans} {P : List PCl} (hY : SortedA t Y) (hP : ClaimsP t Y P) : Closed im st P := by
  obtain ⟨_, ms1, ms2⟩ := rawOf_eq t (outsOf Y) Y hY.2
  obtain ⟨hl, hat⟩ := hP.at' hY.2
  have hYr : ∀ a, a ∈ Y ↔ (a.q, a) ∈ t.rec' := fun a => by
    rw [hY.1.mem_iff]
    constructor
    · intro ha
      obtain ⟨p, hp, rfl⟩ := List.mem_map.1 ha
      have := (lookA_some (h.i.rc p hp).1).2
      rw [this]; exact hp
    · exact fun ha => List.mem_map.2 ⟨_, ha, rfl⟩
  have hget : ∀ c ∈ P, ClmAt t Y c c.m := fun c hc => by
    obtain ⟨k, hk, rfl⟩ := List.mem_iff_getElem.1 hc
    have := hat k hk (by omega)
    rw [this.m]; exact this
  have hrec : ∀ q ∈ t.op, ∃ b ∈ Y, b.q = q := fun q hq => by
    obtain ⟨b, hb⟩ := h.mem1 h1 hq
    have e := (lookA_some (h.i.rc _ hb).1).2
    simp only at e
    exact ⟨b, (hYr b).2 (by rw [e]; exact hb), e⟩
  have hfind : ∀ a ∈ Y, ClmAt t Y (findP P a.m) a.m := fun a ha => by
    obtain ⟨k, hk, hm⟩ := List.mem_iff_getElem.1 ((ms2 a.m).2 ⟨a, ha, rfl⟩)
    have hc := hat k (by omega) hk
    have hcm : (P[k]'(by omega)).m = a.m := hc.m.trans hm
    unfold findP
    cases hf : P.find? (fun c => c.m == a.m) with
    | none =>
      have := List.find?_eq_none.1 hf _ (List.getElem_mem (by omega : k < P.length))
      simp [hcm] at this
    | some c =>
      have e1 : c.m = a.m := by simpa using List.find?_some hf
      have := hget c (List.mem_of_find?_eq_some hf)
      rw [e1] at this; exact this
  refine ⟨?_, fun k k1 k2 => ?_, fun c hc x hx => ?_, fun c hc x hx => ?_, fun c hc x hx => ?_⟩
  · obtain ⟨b, hb, _⟩ := hrec _ h.i.hs
    have := (ms2 b.m).2 ⟨b, hb, rfl⟩
    rw [hl]
    exact List.length_pos_of_mem this
  · rw [(hat k k1 (by omega)).m, (hat (k + 1) k2 (by omega)).m]
    exact List.pairwise_iff_getElem.1 ms1 _ _ _ _ (by omega)
  · obtain ⟨a, ha, hm, u, hu, rfl⟩ := (scOf_mem _ _ _ _).1 (((hget c hc).mem x).2.1.1 hx)
    obtain ⟨b, hb, hbq⟩ := hrec _ (h.i.cl _ ((hYr a).1 ha) u hu)
    simp only [Ans.q, Prod.mk.injEq] at hbq
    obtain ⟨q1, q2, q3⟩ := hbq
    have hf := hfind b hb
    rw [q1] at hf
    obtain ⟨o, ho⟩ := Option.isSome_iff_exists.1 ((outsOf_some Y (a.m, u.1, u.2.1)).2 ⟨a, ha, u, hu, rfl⟩)
    have : (a.m, u.2.1, o) ∈ (findP P u.1).st := ((hf.mem _).1).2 ((stOf_mem _ _ _ _).2 ⟨b, hb, q1, o, by rw [q2, q3]; exact ho, by rw [q2, q3]⟩)
    unfold hasP
    rw [List.any_eq_true]
    exact ⟨_, this, by simp [scN, hm]⟩
  · obtain ⟨a, ha, hm, o, ho, rfl⟩ := (stOf_mem _ _ _ _).1 (((hget c hc).mem x).1.1 hx)
    obtain ⟨b, hb, u, hu, hk⟩ := (outsOf_some Y _).1 (show (MapS.get (a.ow, c.m, a.n) (outsOf Y)).isSome = true by rw [ho]; rfl)
    simp only [Prod.mk.injEq] at hk
    obtain ⟨q1, q2, q3⟩ := hk
    have hf := hfind b hb
    rw [← q1] at hf
    have : scN t a.ow u ∈ (findP P a.ow).sc := ((hf.mem _).2.1).2 ((scOf_mem _ _ _ _).2 ⟨b, hb, q1.symm, u, hu, rfl⟩)
    unfold hasP
    rw [List.any_eq_true]
    exact ⟨_, this, by simp [scN, q2, q3]⟩
  · obtain ⟨a, ha, hm, hn, rfl⟩ := (chOf_mem _ _ _ _).1 (((hget c hc).mem x).2.2.1 hx)
    have hq : a.q ∈ t.op := (recOf_sub t.qs).mem (List.mem_map.2 ⟨_, (hYr a).1 ha, rfl⟩)
    rcases h.i.opn _ hq with e | ⟨p, hp, u, hu, e⟩
    · simp only [Ans.q, Prod.mk.injEq] at e
      exact ⟨by rw [← hm]; exact e.1, e.2.1, e.2.2, rfl⟩
    · exfalso
      simp only [Ans.q, Prod.mk.injEq] at e
      have hpY : p.2 ∈ Y := hY.1.mem_iff.2 (List.mem_map.2 ⟨_, hp, rfl⟩)
      have := (outsOf_some Y (a.ow, c.m, a.n)).2 ⟨p.2, hpY, u, hu, by rw [← hm, e.1, e.2.1, e.2.2]⟩
      rw [hn] at this; cases this
end Go.Proofs.Ythfdngjbcgkkfaa

namespace Go.Proofs.Ythfdngjbcgkkfaa
open Go.RowKit

theorem sizeC : (Try.prog.info? tC).map (·.size) = some 5 := by kernel_rfl
theorem load_clm (w : World) (g : Nat) (t : TypeId) (x0 x1 x2 x3 x4 : Value) (f : Nat × Nat) (hg : w.heap[g]? = some (.cells #[x0, x1, x2, x3, x4] t f)) : (loadVar tC ⟨g, 0, none⟩).run Try.prog w = .ok (.agg #[x0, x1, x2, x3, x4]) w :=
  run_loadVar_row w g t tC #[x0, x1, x2, x3, x4] f _ hg Try.underlying44 rfl sizeC
theorem results_clm {fn : Func} {p u : Tmp} (h : fn.results = #[.cell p tC, .tmp u]) (tmps : Array Value) (w : World) (g : Nat) (t : TypeId) (x0 x1 x2 x3 x4 : Value) (f : Nat × Nat) (hp : tmps.getD p undef = .pointer (some ⟨g, 0, none⟩))
    (hg : w.heap[g]? = some (.cells #[x0, x1, x2, x3, x4] t f)) : (results fn tmps).run Try.prog w = .ok (.tuple #[.agg #[x0, x1, x2, x3, x4], tmps.getD u undef]) w := by
  have hp' : tmps[p]?.getD undef = .pointer (some ⟨g, 0, none⟩) := by simpa using hp
  simp [results, h, hp', asAddr, load_clm w g t x0 x1 x2 x3 x4 f hg]
def ClV.zero : ClV := ⟨0, 0, nilT, nilT, nilT⟩
def PCl.zero : PCl := ⟨0, 0, [], [], []⟩
def ClaimPost (w : World) (t : Tr) (e : Ending) (w' : World) : Prop :=
  ∃ (x : ClV) (p : PCl), e = .returned (.tuple #[clV x, .bool (t.state == 1)]) ∧ CR w' x p ∧ Keeps [] w w' ∧
    ((t.state ≠ 1 ∧ p = PCl.zero) ∨ (t.state = 1 ∧ ∃ P Y, SortedA t Y ∧ ClaimsP t Y P ∧ P[t.ag.length]? = some p))
set_option maxRecDepth 100000 in
set_option maxHeartbeats 4000000 in
theorem claim_c (w : World) (B bt bm : Nat) (vo vh vg : Value) (t : Tr) (h : TrM w B bt bm vo vh vg t) (hl : t.qs.length ≤ 1000) (hag : t.state = 1 → ∀ P Y, SortedA t Y → ClaimsP t Y P → t.ag.length < P.length) :
    Calls Try.prog 49 #[.pointer (some ⟨bt, 0, none⟩)] w (ClaimPost w t) := by
  have c9 := h.cells.2.2.2.2.2.2.2.2.2.1
  have hlt := h.lt
  by_cases hs : t.state = 1
  case neg =>
    have b1 : (t.state != 1) = true := by simpa using hs
    have b2 : (t.state == 1) = false := by simpa using hs
    replace hs := Lib.hid hs
    have hb0 := heap_alloc_new w (.cells #[.int .i64 0, .int .i64 0, .slice none 0 0, .slice none 0 0, .slice none 0 0] tC)
    have hkA := (Keeps.refl [] w).alloc (.cells #[.int .i64 0, .int .i64 0, .slice none 0 0, .slice none 0 0, .slice none 0 0] tC)
    replace hkA := Lib.hid hkA
    replace hb0 := Lib.hid hb0
    clear h
    go_enter Try.func49, Try.ntmps49
    go_wp2
    refine bodyPost_ret (results_clm rfl _ _ _ _ _ _ _ _ _ _ rfl hb0.out) rfl ?_
    exact ⟨ClV.zero, PCl.zero, by rw [b2]; rfl, ⟨rfl, rfl, Sh.R.nil _ _, Sh.R.nil _ _, Sh.R.nil _ _⟩, hkA.out, .inl ⟨hs.out, rfl⟩⟩
  case pos =>
    have b2 : (t.state == 1) = true := by simpa using hs
    have c10 := h.cells.2.2.2.2.2.2.2.2.2.2.1
    obtain ⟨ga, gc, rfl⟩ := h.ag.form
    obtain ⟨LG, hLG⟩ : ∃ n, t.ag.length = n := ⟨_, rfl⟩
    rw [hLG] at h c10
    have hb0 := heap_alloc_new w (.cells #[.int .i64 0, .int .i64 0, .slice none 0 0, .slice none 0 0, .slice none 0 0] tC)
    have hkA := (Keeps.refl [] w).alloc (.cells #[.int .i64 0, .int .i64 0, .slice none 0 0, .slice none 0 0, .slice none 0 0] tC)
    have hcl := fun (W : World) (hk : Keeps [] w W) => claims_c W B bt bm vo vh _ t (h.keeps hk) hl
    rw [hs] at c9
    replace hkA := Lib.hid hkA
    replace hb0 := Lib.hid hb0
    replace hcl := Lib.hid hcl
    replace hs := Lib.hid hs
    replace hag := Lib.hid hag
    replace hLG := Lib.hid hLG
    replace b2 := Lib.hid b2
    clear h
    go_enter Try.func49, Try.ntmps49
    go_wp2
    generalize (w.alloc (.cells #[.int .i64 0, .int .i64 0, .slice none 0 0, .slice none 0 0, .slice none 0 0] tC)) = WA at *
    have c10 := hkA.out.val c10
    have hltA : bt < WA.heap.size := Nat.lt_of_lt_of_le hlt.1 hkA.out.size
    refine Free.wp_region_chain (fun i => i == 1 || i == 8 || i == 9) (fun i => true) (fun j b => j = 9 ∧ b = w.heap.size) (by kernel_rfl) (by kernel_rfl) (by kernel_rfl) ?_
    (repeat (first | (apply Free.cw_pure rfl rfl; (intro w'; go_simp <;> exact rfl); go_frame) | (apply Free.cw_steady rfl rfl rfl; (intro w' hS; have q0 := Free.sx_cell hS c10 (fun _ _ hT => by have := hT.2; omega); go_simp <;> exact rfl); go_frame) | (refine Free.cw_skip rfl ?_; go_frame)))
    refine Free.cw_loud rfl rfl (fun K hK => ?_)
    go_wp2_with fail
    refine (hcl.out _ (hkA.out.trans ((Keeps.refl [] _).drew))).mono ?_
    rintro e w2 ⟨vc, P, V, Bc, Y, rfl, g1, g2, g3, g4, g5⟩
    refine hK _ _ rfl (Free.KeepsP.of g5 (by simp)) ?_
    clear hK K hcl
    have c10w := (((Keeps.refl [] WA).drew).trans g5).val c10
    have hltP := hag.out hs.out P Y g3 g4
    rw [hLG.out] at hltP
    obtain ⟨gl, cc, rfl, hgB, hgl, m0, m1, m2, m3, m4, _⟩ := g2.row hltP
    have hXl : w.heap.size < WA.heap.size := lt_of_blk hb0.out
    have hbX := (g5.block w.heap.size hXl (by simp)).trans hb0.out
    have hWl : WA.heap.size ≤ gl := Nat.le_trans g1 hgB
    have hne : gl ≠ w.heap.size := by omega
    obtain ⟨x0, x1, x2, x3, x4, xl⟩ := cells5 hbX
    have xf : ∀ o, w2.frozen? ⟨w.heap.size, o, none⟩ = false := fun o => by simp [World.frozen?, hbX]
    have hro := g2.o LG
    obtain ⟨NP, hNP⟩ : ∃ n, P.length = n := ⟨_, rfl⟩
    rw [hNP] at hltP ⊢
    obtain ⟨⟨a1, a2, a3⟩, hv1⟩ : ∃ x, V LG 0 = x := ⟨_, rfl⟩
    obtain ⟨⟨b1, b2', b3⟩, hv2⟩ : ∃ x, V LG 1 = x := ⟨_, rfl⟩
    obtain ⟨⟨d1, d2, d3⟩, hv3⟩ : ∃ x, V LG 2 = x := ⟨_, rfl⟩
    simp only [hv1, hv2, hv3, slv] at m2 m3 m4
    replace hbX := Lib.hid hbX
    replace hNP := Lib.hid hNP
    replace g2 := Lib.hid g2
    replace g3 := Lib.hid g3
    replace g4 := Lib.hid g4
    replace g5 := Lib.hid g5
    clear hro
    (repeat (first | (apply Free.cw_pure rfl rfl; (intro w'; go_simp <;> exact rfl); go_frame) | (apply Free.cw_steady rfl rfl rfl; (intro w' hS; have q0 := Free.sx_cell hS c10 (fun _ _ hT => by have := hT.2; omega); go_simp <;> exact rfl); go_frame) | (refine Free.cw_skip rfl ?_; go_frame)))
    refine Free.cw_loud rfl rfl (fun K hK => ?_)
    go_wp2
    refine hK _ _ rfl (Free.KeepsP.refl _ _) ?_
    clear hK K
    (repeat (apply Free.cw_pure rfl rfl; (intro w'; go_simp <;> exact rfl); go_frame))
    refine Free.cw_loud rfl rfl (fun K hK => ?_)
    go_wp2
    have hkS : Keeps [w.heap.size] w2 (((((w2.setCell ⟨w.heap.size, 0, none⟩ (.int .i64 P[LG].m)).setCell ⟨w.heap.size, 1, none⟩ (.int .i64 P[LG].ep)).setCell ⟨w.heap.size, 2, none⟩ (.slice a1 a2 a3)).setCell ⟨w.heap.size, 3, none⟩ (.slice b1 b2' b3)).setCell ⟨w.heap.size, 4, none⟩ (.slice d1 d2 d3)) := (((((Keeps.refl _ _).setCell (.inr (by simp)) _).setCell (.inr (by simp)) _).setCell (.inr (by simp)) _).setCell (.inr (by simp)) _).setCell (.inr (by simp)) _
    have hbS : (((((w2.setCell ⟨w.heap.size, 0, none⟩ (.int .i64 P[LG].m)).setCell ⟨w.heap.size, 1, none⟩ (.int .i64 P[LG].ep)).setCell ⟨w.heap.size, 2, none⟩ (.slice a1 a2 a3)).setCell ⟨w.heap.size, 3, none⟩ (.slice b1 b2' b3)).setCell ⟨w.heap.size, 4, none⟩ (.slice d1 d2 d3)).heap[w.heap.size]? = some (.cells #[.int .i64 P[LG].m, .int .i64 P[LG].ep, .slice a1 a2 a3, .slice b1 b2' b3, .slice d1 d2 d3] tC (0, 0)) := by
      have := setCs (setCs (setCs (setCs (setCs hbX.out 0 (.int .i64 P[LG].m)) 1 (.int .i64 P[LG].ep)) 2 (.slice a1 a2 a3)) 3 (.slice b1 b2' b3)) 4 (.slice d1 d2 d3)
      simpa using this
    refine hK _ _ rfl (Free.KeepsP.of hkS (fun b hb => ⟨trivial, by simpa using hb⟩)) ?_
    clear hK K
    replace hkS := Lib.hid hkS
    replace hbS := Lib.hid hbS
    generalize (((((w2.setCell ⟨w.heap.size, 0, none⟩ (.int .i64 P[LG].m)).setCell ⟨w.heap.size, 1, none⟩ (.int .i64 P[LG].ep)).setCell ⟨w.heap.size, 2, none⟩ (.slice a1 a2 a3)).setCell ⟨w.heap.size, 3, none⟩ (.slice b1 b2' b3)).setCell ⟨w.heap.size, 4, none⟩ (.slice d1 d2 d3)) = W5 at *
    (repeat (apply Free.cw_pure rfl rfl; (intro w'; go_simp <;> exact rfl); go_frame))
    refine Free.cw_nil ?_
    go_wp2
    refine bodyPost_ret (results_clm rfl _ _ _ _ _ _ _ _ _ _ rfl hbS.out) rfl ?_
    have hPl : LG < P.length := by rw [hNP.out]; exact hltP
    have hOk : ∀ j (hj : j < 3), shT.R W5 (slv (V LG j)) (P[LG].at j) := fun j hj => ((g2.out.o LG j hPl hj).keepS hkS.out (fun b hb e => by
      simp at hb; subst hb
      exact absurd (Nat.lt_of_lt_of_le hXl (Nat.le_trans g1 ((g2.out.o LG j hPl hj).ge _ e))) (Nat.lt_irrefl _))).r
    have r1 := hOk 0 (by omega)
    have r2 := hOk 1 (by omega)
    have r3 := hOk 2 (by omega)
    rw [hv1] at r1
    rw [hv2] at r2
    rw [hv3] at r3
    exact ⟨⟨P[LG].m, P[LG].ep, (a1, a2, a3), (b1, b2', b3), (d1, d2, d3)⟩, P[LG], by rw [b2.out]; rfl, ⟨rfl, rfl, r1, r2, r3⟩, ((hkA.out.trans ((Keeps.refl [] WA).drew)).trans g5.out).fresh hkS.out (fun b hb => by simp at hb; subst hb; exact .inr (Nat.le_refl _)), .inr ⟨hs.out, P, Y, g3.out, g4.out, by rw [hLG.out]; exact List.getElem?_eq_getElem _⟩⟩
end Go.Proofs.Ythfdngjbcgkkfaa

namespace Go.Proofs.Ythfdngjbcgkkfaa
open Go.RowKit

theorem hasP_no {L : List T3} {p : Int} {n : Nat} (h : ∀ j (hj : j < L.length), ¬ (L[j].1 = p ∧ L[j].2.1 = n)) : hasP L p n = false := by
  unfold hasP
  rw [List.any_eq_false]
  intro x hx
  obtain ⟨j, hj, rfl⟩ := List.mem_iff_getElem.1 hx
  simpa using h j hj
theorem hasP_yes {L : List T3} {p : Int} {n : Nat} {k : Nat} (hk : k < L.length) (h1 : L[k].1 = p) (h2 : L[k].2.1 = n) : hasP L p n = true := by
  unfold hasP
  rw [List.any_eq_true]
  exact ⟨_, List.getElem_mem hk, by simp [h1, h2]⟩
set_option maxRecDepth 100000 in
set_option maxHeartbeats 2000000 in
theorem has_c (w : World) (v : Value) (L : List T3) (p : Int) (n : Nat) (h : shT.R w v L) :
    Calls Try.prog 15 #[v, .int .i64 p, .int .u64 n] w fun e w' => e = .returned (.bool (hasP L p n)) ∧ Keeps [] w w' := by
  obtain ⟨a, c, rfl, hlc, hcm, _⟩ := h.form
  have hel := fun k hk => h.elem (k := k) hk
  obtain ⟨M, hM⟩ : ∃ N, L.length = N := ⟨_, rfl⟩
  rw [hM] at hlc ⊢
  have hMm : M ≤ 9223372036854775807 := by unfold maxLen at hcm; omega
  obtain ⟨hb, hhb⟩ : ∃ b, hasP L p n = b := ⟨_, rfl⟩
  rw [hhb]
  replace hel := Lib.hid hel
  replace hM := Lib.hid hM
  replace hhb := Lib.hid hhb
  clear h
  go_enter Try.func15, Try.ntmps15
  go_wp2
  go_loopw [11] (fun i wr => ∃ k : Nat, i = .int .i64 k ∧ k ≤ M ∧ Hid (∀ j (hj : j < L.length), j < k → ¬ (L[j].1 = p ∧ L[j].2.1 = n)) ∧ Hid (Keeps [] w wr)) (fun i _ => M - (intOf i).toNat)
  case atStart => exact ⟨0, rfl, by omega, Lib.hid (fun _ _ h => by omega), Lib.hid (Keeps.refl _ _)⟩
  case round =>
    obtain ⟨k, rfl, hk, hno, hkw⟩ := hrel
    by_cases hlt : k < M
    · have hkl : k < L.length := by rw [hM.out]; exact hlt
      obtain ⟨g, o, c', hv, he⟩ := hel.out k hkl
      cases hv
      obtain ⟨⟨x0, x1, x2⟩, hx⟩ : ∃ x, L[k] = x := ⟨_, rfl⟩
      rw [hx] at he
      have e0 := hkw.out.val (he 0 _ rfl)
      have e1 := hkw.out.val (he 1 _ rfl)
      have e2 := hkw.out.val (he 2 _ rfl)
      simp only [shT, Nat.add_zero] at e0 e1 e2
      have hkA : Keeps [] w (wr.alloc (.cells #[.int .i64 x0, .int .u64 x1, .int .i64 x2] tN)) := hkw.out.alloc _
      have hno2 : ¬ (x0 = p ∧ x1 = n) → ∀ j (hj : j < L.length), j < k + 1 → ¬ (L[j].1 = p ∧ L[j].2.1 = n) := fun hn j hj hjk => by
        by_cases e : j = k
        · subst e; rw [hx]; exact hn
        · exact hno.out j hj (by omega)
      replace hkA := Lib.hid hkA
      replace hx := Lib.hid hx
      replace hno2 := Lib.hid hno2
      clear he
      by_cases a1 : x0 = p
      · have b1 : (x0 == p) = true := by simpa using a1
        by_cases a2 : x1 = n
        · have b2 : ((x1 : Int) == (n : Int)) = true := by simp [a2]
          have hr : hb = true := by rw [← hhb.out]; exact hasP_yes hkl (by rw [hx.out]; exact a1) (by rw [hx.out]; exact a2)
          replace a1 := Lib.hid a1
          replace a2 := Lib.hid a2
          replace hr := Lib.hid hr
          go_wp2
          go_ret
          exact ⟨by rw [hr.out]; rfl, hkA.out⟩
        · have b2 : ((x1 : Int) == (n : Int)) = false := by simp; omega
          have h2 := Lib.hid (hno2.out (fun h => a2 h.2))
          replace a1 := Lib.hid a1
          replace a2 := Lib.hid a2
          go_wp2
          go_roundw
          case rel => exact ⟨k + 1, rfl, by omega, h2, hkA⟩
          case measure => simp [intOf]; omega
      · have b1 : (x0 == p) = false := by simpa using a1
        have h2 := Lib.hid (hno2.out (fun h => a1 h.1))
        replace a1 := Lib.hid a1
        go_wp2
        go_roundw
        case rel => exact ⟨k + 1, rfl, by omega, h2, hkA⟩
        case measure => simp [intOf]; omega
    · have hr : hb = false := by rw [← hhb.out]; exact hasP_no (fun j hj => hno.out j hj (by rw [hM.out] at hj; omega))
      replace hr := Lib.hid hr
      go_wp2
      go_ret
      exact ⟨by rw [hr.out]; rfl, hkw.out⟩
theorem st5 {w : World} {X : Nat} {t : TypeId} {x0 x1 x2 x3 x4 u0 u1 u2 u3 u4 : Value} (h2 : w.heap[X]? = some (.cells #[u0, u1, u2, u3, u4] t (0, 0))) :
    (((((w.setCell ⟨X, 0, none⟩ x0).setCell ⟨X, 1, none⟩ x1).setCell ⟨X, 2, none⟩ x2).setCell ⟨X, 3, none⟩ x3).setCell ⟨X, 4, none⟩ x4).heap[X]? = some (.cells #[x0, x1, x2, x3, x4] t (0, 0)) ∧
    Keeps [X] w (((((w.setCell ⟨X, 0, none⟩ x0).setCell ⟨X, 1, none⟩ x1).setCell ⟨X, 2, none⟩ x2).setCell ⟨X, 3, none⟩ x3).setCell ⟨X, 4, none⟩ x4) := by
  refine ⟨?_, ?_⟩
  · have := setCs (setCs (setCs (setCs (setCs h2 0 x0) 1 x1) 2 x2) 3 x3) 4 x4
    simpa using this
  · refine (((((Keeps.refl _ w).setCell ?_ _).setCell ?_ _).setCell ?_ _).setCell ?_ _).setCell ?_ _ <;> exact .inr (by simp)
theorem findP_at {P : List PCl} {m : Int} {k : Nat} (hk : k < P.length) (hno : ∀ j (hj : j < P.length), j < k → P[j].m ≠ m) (hm : P[k].m = m) : findP P m = P[k] := by
  unfold findP
  have : P.find? (fun c => c.m == m) = some P[k] := List.find?_eq_some_iff_getElem.2 ⟨by simpa using hm, k, hk, rfl, fun j hj => by simpa using hno j (by omega) hj⟩
  rw [this]; rfl
theorem findP_no {P : List PCl} {m : Int} (hno : ∀ j (hj : j < P.length), P[j].m ≠ m) : findP P m = PCl.zero := by
  unfold findP
  have : P.find? (fun c => c.m == m) = none := List.find?_eq_none.2 (fun c hc => by
    obtain ⟨j, hj, rfl⟩ := List.mem_iff_getElem.1 hc
    simpa using hno j hj)
  rw [this]; rfl
def FindPost (w : World) (P : List PCl) (m : Int) (e : Ending) (w' : World) : Prop := ∃ x, e = .returned (clV x) ∧ CR w' x (findP P m) ∧ Keeps [] w w'
set_option maxRecDepth 100000 in
set_option maxHeartbeats 2000000 in
theorem find_c (w : World) (bl : Nat) (v : Value) (P : List PCl) (m : Int) (h : LC w v P) (h0 : w.cell? ⟨bl, 0, none⟩ = some v) :
    Calls Try.prog 14 #[.int .i64 m, .pointer (some ⟨bl, 0, none⟩)] w (FindPost w P m) := by
  obtain ⟨a, c, rfl, hlc, hcm⟩ := h.form
  obtain ⟨M, hM⟩ : ∃ N, P.length = N := ⟨_, rfl⟩
  rw [hM] at h0 hlc h
  have hMm : M ≤ 9223372036854775807 := by unfold maxLen at hcm; omega
  have hb0 := heap_alloc_new w (.cells #[.int .i64 0, .int .i64 0, .slice none 0 0, .slice none 0 0, .slice none 0 0] tC)
  have hkA : Keeps [] w (w.alloc (.cells #[.int .i64 0, .int .i64 0, .slice none 0 0, .slice none 0 0, .slice none 0 0] tC)) := (Keeps.refl _ _).alloc _
  have hlt := lt_of_cell h0
  replace hM := Lib.hid hM
  replace h := Lib.hid h
  replace hkA := Lib.hid hkA
  replace hb0 := Lib.hid hb0
  go_enter Try.func14, Try.ntmps14
  go_wp2
  generalize (w.alloc (.cells #[.int .i64 0, .int .i64 0, .slice none 0 0, .slice none 0 0, .slice none 0 0] tC)) = W at *
  obtain ⟨X, hX⟩ : ∃ X, w.heap.size = X := ⟨_, rfl⟩
  rw [hX] at hb0 hlt ⊢
  replace hX := Lib.hid hX
  go_loopw [8] (fun i wr => ∃ k : Nat, i = .int .i64 k ∧ k ≤ M ∧ Hid (∀ j (hj : j < P.length), j < k → P[j].m ≠ m) ∧ Hid (Keeps [] W wr)) (fun i _ => M - (intOf i).toNat)
  case atStart => exact ⟨0, rfl, by omega, Lib.hid (fun _ _ h => by omega), Lib.hid (Keeps.refl _ _)⟩
  case round =>
    obtain ⟨k, rfl, hk, hno, hkw⟩ := hrel
    have hkr := hkA.out.trans hkw.out
    have hbr := (hkw.out.block X (lt_of_blk hb0.out) (by simp)).trans hb0.out
    have hXr := lt_of_blk hbr
    obtain ⟨c0, c1, c2, c3, c4, _⟩ := cells5 hbr
    have hfr : ∀ o, wr.frozen? ⟨X, o, none⟩ = false := fun o => by simp [World.frozen?, hbr]
    have hgo : X = w.heap.size := hX.out.symm
    replace hgo := Lib.hid hgo
    by_cases hlt2 : k < M
    · have hkl : k < P.length := by rw [hM.out]; exact hlt2
      obtain ⟨g, o, c', x, hv, hxr, e0, e1, e2, e3, e4⟩ := h.out.elem hkl
      rw [hM.out] at hv
      cases hv
      obtain ⟨x0, x1, ⟨x2, x3, x4⟩, ⟨x5, x6, x7⟩, ⟨x8, x9, x10⟩⟩ := x
      replace e0 := hkr.val e0
      replace e1 := hkr.val e1
      replace e2 := hkr.val e2
      replace e3 := hkr.val e3
      replace e4 := hkr.val e4
      simp only [slv] at e0 e1 e2 e3 e4
      have hkB := (Keeps.refl [] wr).alloc (.cells #[.int .i64 x0, .int .i64 x1, .slice x2 x3 x4, .slice x5 x6 x7, .slice x8 x9 x10] tC)
      have hbB := (hkB.block X hXr (by simp)).trans hbr
      have hxm : x0 = P[k].m := hxr.m
      have hno2 : ¬ (x0 = m) → ∀ j (hj : j < P.length), j < k + 1 → P[j].m ≠ m := fun hn j hj hjk => by
        by_cases e : j = k
        · subst e; rw [← hxm]; exact hn
        · exact hno.out j hj (by omega)
      replace hkB := Lib.hid hkB
      replace hbB := Lib.hid hbB
      replace hbr := Lib.hid hbr
      replace hkr := Lib.hid hkr
      replace hno2 := Lib.hid hno2
      replace hxr := Lib.hid hxr
      replace hxm := Lib.hid hxm
      by_cases a1 : x0 = m
      · have b1 : (x0 == m) = true := by simpa using a1
        have hf := findP_at hkl hno.out (hxm.out.symm.trans a1)
        replace a1 := Lib.hid a1
        replace hf := Lib.hid hf
        go_wp2
        obtain ⟨s1, s2⟩ := st5 (x0 := .int .i64 x0) (x1 := .int .i64 x1) (x2 := .slice x2 x3 x4) (x3 := .slice x5 x6 x7) (x4 := .slice x8 x9 x10) hbr.out
        have hkC := (Keeps.refl [] _).alloc (w := ((((wr.setCell ⟨X, 0, none⟩ (.int .i64 x0)).setCell ⟨X, 1, none⟩ (.int .i64 x1)).setCell ⟨X, 2, none⟩ (.slice x2 x3 x4)).setCell ⟨X, 3, none⟩ (.slice x5 x6 x7)).setCell ⟨X, 4, none⟩ (.slice x8 x9 x10)) (.cells #[.int .i64 x0, .int .i64 x1, .slice x2 x3 x4, .slice x5 x6 x7, .slice x8 x9 x10] tC)
        refine bodyPost_ret (results_cell_row rfl _ _ _ _ _ _ _ rfl ((hkC.block X (lt_of_blk s1) (by simp)).trans s1) Try.underlying44 rfl (by kernel_rfl)) ?_ ?_
        · rfl
        have hK : Keeps [] w _ := (hkr.out.fresh s2 (fun b hb => by simp at hb; subst hb; exact .inr (by rw [hgo.out]; exact Nat.le_refl _))).trans hkC
        refine ⟨⟨x0, x1, (x2, x3, x4), (x5, x6, x7), (x8, x9, x10)⟩, rfl, ?_, hK⟩
        rw [hf.out]
        exact hxr.out.keeps hK
      · have b1 : (x0 == m) = false := by simpa using a1
        have h2 := Lib.hid (hno2.out a1)
        have hkC := Lib.hid (hkw.out.trans hkB.out)
        replace a1 := Lib.hid a1
        go_wp2
        go_roundw
        case rel => exact ⟨k + 1, rfl, by omega, h2, hkC⟩
        case measure => simp [intOf]; omega
    · have hf := findP_no (P := P) (m := m) (fun j hj => hno.out j hj (by rw [hM.out] at hj; omega))
      replace hf := Lib.hid hf
      replace hkr := Lib.hid hkr
      replace hbr := Lib.hid hbr
      go_wp2
      obtain ⟨s1, s2⟩ := st5 (x0 := .int .i64 0) (x1 := .int .i64 0) (x2 := .slice none 0 0) (x3 := .slice none 0 0) (x4 := .slice none 0 0) hbr.out
      refine bodyPost_ret (results_cell_row rfl _ _ _ _ _ _ _ rfl s1 Try.underlying44 rfl (by kernel_rfl)) ?_ ?_
      · rfl
      have hK : Keeps [] w _ := hkr.out.fresh s2 (fun b hb => by simp at hb; subst hb; exact .inr (by rw [hgo.out]; exact Nat.le_refl _))
      refine ⟨ClV.zero, rfl, ?_, hK⟩
      rw [hf.out]
      exact ⟨rfl, rfl, Sh.R.nil _ _, Sh.R.nil _ _, Sh.R.nil _ _⟩
end Go.Proofs.Ythfdngjbcgkkfaa

namespace Go.Proofs.Ythfdngjbcgkkfaa
open Go.ChangeShapes Go.WideShapes Go.ChangeAt Go.RowKit

/-- Numbers that fit. -/
structure Ans.Fit (a : Ans) : Prop where
  q : qOk a.q
  ep : W64 a.ep
  lu : W64 a.lu
  ins : ∀ x ∈ a.ins, W64 x.1 ∧ x.2.1 < 18446744073709551616 ∧ W64 x.2.2
theorem Ans.Fit.ok {a : Ans} (h : a.Fit) (hl : a.ins.length ≤ 100000) : a.Ok := ⟨h.q, h.ep, h.lu, h.ins, hl⟩
/-- The cells of an answer. -/
def AnC (w : World) (cs : List Value) (y : Ans) : Prop := ∃ x : AnV, cs = x.cs ∧ InR w x y ∧ y.Fit
theorem AnC.keeps {w w' : World} {cs : List Value} {y : Ans} (h : AnC w cs y) (hk : Keeps [] w w') : AnC w' cs y := by
  obtain ⟨x, h1, h2, h3⟩ := h
  exact ⟨x, h1, h2.keep hk (by simp), h3⟩
/-- A list of answers that is read. -/
def LT (w : World) (v : Value) (T : List Ans) : Prop := Gen.SlR AnC 8 w v T
theorem LT.keeps {w w' : World} {v : Value} {T : List Ans} (h : LT w v T) (hk : Keeps [] w w') : LT w' v T := Gen.SlR.keeps h hk (fun _ _ h => h.keeps hk)
theorem LT.elem {w : World} {v : Value} {T : List Ans} (h : LT w v T) {k : Nat} (hk : k < T.length) : ∃ g o c x, v = .slice (some ⟨g, o, none⟩) T.length c ∧ InR w x T[k] ∧ T[k].Fit ∧ ∀ j u, x.cs[j]? = some u → w.cell? ⟨g, o + k * 8 + j, none⟩ = some u := by
  obtain ⟨g, o, c, xs, h1, h2, ⟨x, e, h3, h4⟩, h5⟩ := Gen.SlR.elem h (by decide) hk
  subst e
  exact ⟨g, o, c, x, h1, h3, h4, h5⟩
theorem u64_wf {z : Int} (h : (Lit.int .u64 z).wf = true) : ∃ n : Nat, z = n ∧ n < 18446744073709551616 := by
  have hb : 0 ≤ z ∧ z ≤ 18446744073709551615 := by simpa [Lit.wf, IntKind.min, IntKind.max, IntKind.signed, IntKind.bits] using h
  exact ⟨z.toNat, by omega, by omega⟩
theorem w64_wf {x : Int} (h : (Lit.int .i64 x).wf = true) : W64 x := by simpa [W64, Lit.wf, IntKind.min, IntKind.max, IntKind.signed, IntKind.bits] using h
set_option maxRecDepth 100000 in
set_option maxHeartbeats 1000000 in
theorem cs_tid {w : World} {cs : List Value} (h : Gen.Cs Try.prog w 23 cs) : ∃ a s, cs = [.int .i64 a, .int .i64 s] ∧ W64 a ∧ W64 s := by
  obtain ⟨hl, hall⟩ := Gen.Cs.struct Try.underlying23 h
  rw [show Try.prog.cellsOf 23 = 2 by kernel_rfl] at hl
  obtain ⟨a, b, rfl⟩ : ∃ a b, cs = [a, b] := by
    match cs, hl with
    | [a, b], _ => exact ⟨a, b, rfl⟩
  have h0 := hall 0 _ rfl
  have h1 := hall 1 _ rfl
  replace h0 : Gen.Cs Try.prog w 3 (([a, b].drop 0).take (Try.prog.cellsOf 3)) := h0
  replace h1 : Gen.Cs Try.prog w 3 (([a, b].drop 1).take (Try.prog.cellsOf 3)) := h1
  rw [show Try.prog.cellsOf 3 = 1 by kernel_rfl] at h0 h1
  obtain ⟨k, hk, wk⟩ := Gen.Cs.int Try.underlying3 h0
  obtain ⟨n, hn, wn⟩ := Gen.Cs.int Try.underlying3 h1
  simp at hk hn
  subst hk hn
  exact ⟨k, n, rfl, w64_wf wk, w64_wf wn⟩
set_option maxRecDepth 100000 in
set_option maxHeartbeats 1000000 in
theorem cs_t3 {w : World} {t : TypeId} {fs : Array Field} (ht : Try.prog.underlying t = some (.struct fs)) (hc : Try.prog.cellsOf t = 3) (hf : fs.toList.map (fun f => (f.type, f.offset)) = [(3, 0), (24, 1), (3, 2)]) {cs : List Value} (h : Gen.Cs Try.prog w t cs) :
    ∃ (x : T3), cs = shT.cf x ∧ W64 x.1 ∧ x.2.1 < 18446744073709551616 ∧ W64 x.2.2 := by
  obtain ⟨hl, hall⟩ := Gen.Cs.struct ht h
  rw [hc] at hl
  obtain ⟨f0, f1, f2, hfs⟩ : ∃ f0 f1 f2, fs = #[f0, f1, f2] := by
    obtain ⟨l⟩ := fs
    have hl := congrArg List.length hf
    simp only [List.length_map, List.length_cons, List.length_nil] at hl
    match l, hl with
    | [f0, f1, f2], _ => exact ⟨f0, f1, f2, rfl⟩
  subst hfs
  simp only [List.map_cons, List.map_nil, List.cons.injEq, Prod.mk.injEq, and_true] at hf
  obtain ⟨⟨t0, o0⟩, ⟨t1, o1⟩, t2, o2⟩ := hf
  obtain ⟨a, b, c, rfl⟩ : ∃ a b c, cs = [a, b, c] := by
    match cs, hl with
    | [a, b, c], _ => exact ⟨a, b, c, rfl⟩
  have h0 := hall 0 f0 rfl
  have h1 := hall 1 f1 rfl
  have h2 := hall 2 f2 rfl
  rw [t0, o0, show Try.prog.cellsOf 3 = 1 by kernel_rfl] at h0
  rw [t1, o1, show Try.prog.cellsOf 24 = 1 by kernel_rfl] at h1
  rw [t2, o2, show Try.prog.cellsOf 3 = 1 by kernel_rfl] at h2
  obtain ⟨k, hk, wk⟩ := Gen.Cs.int Try.underlying3 h0
  obtain ⟨n, hn, wn⟩ := Gen.Cs.int Try.underlying24 h1
  obtain ⟨m, hm, wm⟩ := Gen.Cs.int Try.underlying3 h2
  obtain ⟨n2, en, wn2⟩ := u64_wf wn
  rw [en] at hn
  simp at hk hn hm
  subst hk hn hm
  exact ⟨(k, n2, m), rfl, w64_wf wk, wn2, w64_wf wm⟩
set_option maxRecDepth 100000 in
set_option maxHeartbeats 1000000 in
theorem cs_need {w : World} {cs : List Value} (h : Gen.Cs Try.prog w tN cs) : ∃ (x : T3), cs = shT.cf x ∧ W64 x.1 ∧ x.2.1 < 18446744073709551616 ∧ W64 x.2.2 := cs_t3 Try.underlying26 (by kernel_rfl) rfl h
set_option maxRecDepth 100000 in
set_option maxHeartbeats 1000000 in
theorem cs_ins {w : World} {cs : List Value} (h : Gen.Cs Try.prog w tI cs) : ∃ (x : T3), cs = shT.cf x ∧ W64 x.1 ∧ x.2.1 < 18446744073709551616 ∧ W64 x.2.2 := cs_t3 Try.underlying34 (by kernel_rfl) rfl h
set_option maxRecDepth 100000 in
set_option maxHeartbeats 1000000 in
theorem cs_inset {w : World} {v : Value} (h : Gen.Cs Try.prog w 30 [v]) : ∃ L : List T3, shT.R w v L ∧ ∀ x ∈ L, W64 x.1 ∧ x.2.1 < 18446744073709551616 ∧ W64 x.2.2 := by
  obtain ⟨L, hL, _⟩ := Gen.SlR.open (R := fun _ cs (x : T3) => cs = shT.cf x ∧ W64 x.1 ∧ x.2.1 < 18446744073709551616 ∧ W64 x.2.2) Try.underlying30 (show Try.prog.cellsOf tI = 3 by kernel_rfl) (by decide) (fun cs hcs => cs_ins hcs) h
  refine ⟨L, Sh.R.of_slR (s := shT) (fun cs x h => h.1) hL, fun x hx => ?_⟩
  obtain ⟨k, hk, rfl⟩ := List.mem_iff_getElem.1 hx
  obtain ⟨cs, _, h2⟩ := hL
  exact (h2 k hk).2
set_option maxRecDepth 100000 in
set_option maxHeartbeats 1000000 in
theorem cs_ans {w : World} {cs : List Value} (h : Gen.Cs Try.prog w tA cs) : ∃ y, AnC w cs y := by
  obtain ⟨hl, hall⟩ := Gen.Cs.struct Try.underlying32 h
  rw [show Try.prog.cellsOf tA = 8 by kernel_rfl] at hl
  obtain ⟨a, b, c, d, e, f, g, i, rfl⟩ : ∃ a b c d e f g i, cs = [a, b, c, d, e, f, g, i] := by
    match cs, hl with
    | [a, b, c, d, e, f, g, i], _ => exact ⟨a, b, c, d, e, f, g, i, rfl⟩
  have h0 := hall 0 _ rfl
  have h1 := hall 1 _ rfl
  have h2 := hall 2 _ rfl
  have h3 := hall 3 _ rfl
  have h4 := hall 4 _ rfl
  have h5 := hall 5 _ rfl
  have h6 := hall 6 _ rfl
  have h7 := hall 7 _ rfl
  replace h0 : Gen.Cs Try.prog w 3 (([a, b, c, d, e, f, g, i].drop 0).take (Try.prog.cellsOf 3)) := h0
  replace h1 : Gen.Cs Try.prog w 3 (([a, b, c, d, e, f, g, i].drop 1).take (Try.prog.cellsOf 3)) := h1
  replace h2 : Gen.Cs Try.prog w 24 (([a, b, c, d, e, f, g, i].drop 2).take (Try.prog.cellsOf 24)) := h2
  replace h3 : Gen.Cs Try.prog w 3 (([a, b, c, d, e, f, g, i].drop 3).take (Try.prog.cellsOf 3)) := h3
  replace h4 : Gen.Cs Try.prog w 4 (([a, b, c, d, e, f, g, i].drop 4).take (Try.prog.cellsOf 4)) := h4
  replace h5 : Gen.Cs Try.prog w 4 (([a, b, c, d, e, f, g, i].drop 5).take (Try.prog.cellsOf 4)) := h5
  replace h6 : Gen.Cs Try.prog w 3 (([a, b, c, d, e, f, g, i].drop 6).take (Try.prog.cellsOf 3)) := h6
  replace h7 : Gen.Cs Try.prog w 30 (([a, b, c, d, e, f, g, i].drop 7).take (Try.prog.cellsOf 30)) := h7
  rw [show Try.prog.cellsOf 3 = 1 by kernel_rfl] at h0 h1 h3 h6
  rw [show Try.prog.cellsOf 24 = 1 by kernel_rfl] at h2
  rw [show Try.prog.cellsOf 4 = 1 by kernel_rfl] at h4 h5
  rw [show Try.prog.cellsOf 30 = 1 by kernel_rfl] at h7
  obtain ⟨z0, e0, w0⟩ := Gen.Cs.int Try.underlying3 h0
  obtain ⟨z1, e1, w1⟩ := Gen.Cs.int Try.underlying3 h1
  obtain ⟨z2, e2, w2⟩ := Gen.Cs.int Try.underlying24 h2
  obtain ⟨z3, e3, w3⟩ := Gen.Cs.int Try.underlying3 h3
  obtain ⟨z4, e4⟩ := Gen.Cs.bool Try.underlying4 h4
  obtain ⟨z5, e5⟩ := Gen.Cs.bool Try.underlying4 h5
  obtain ⟨z6, e6, w6⟩ := Gen.Cs.int Try.underlying3 h6
  obtain ⟨y2, ey2, wy2⟩ := u64_wf w2
  rw [ey2] at e2
  simp at e0 e1 e2 e3 e4 e5 e6 h7
  subst e0 e1 e2 e3 e4 e5 e6
  obtain ⟨L, hL, hLf⟩ := cs_inset h7
  obtain ⟨x, k, rfl, _⟩ := hL.form
  exact ⟨⟨z0, z1, y2, z3, z4, z5, z6, L⟩, ⟨z0, z1, y2, z3, z4, z5, z6, x, L.length, k⟩, rfl, ⟨rfl, rfl, rfl, rfl, rfl, rfl, rfl, hL⟩, ⟨⟨w64_wf w0, w64_wf w1, wy2⟩, w64_wf w3, w64_wf w6, hLf⟩⟩
set_option maxRecDepth 100000 in
set_option maxHeartbeats 1000000 in
theorem open_tid {H : Type} {enc : TypeId × Value → H} {W : World} {base : Nat} {r : Reach} {v : Value} {d : DataW H} {ps : List MemPlace} (hv : Value.okWide Try.prog W r base 23 v)
    (h : DataW.Trod enc Try.prog W 0 (fun _ => true) true 23 v d ps) : ∃ (a s : Int), v = .agg #[.int .i64 a, .int .i64 s] ∧ W64 a ∧ W64 s := by
  obtain ⟨a, s, hc, ha, hs⟩ := cs_tid (Gen.Cs.of_agg h)
  obtain ⟨cs, rfl, _⟩ := okWide_struct Try.underlying23 hv
  refine ⟨a, s, ?_, ha, hs⟩
  have : cs.toList = [.int .i64 a, .int .i64 s] := hc
  rw [← Array.toArray_toList (xs := cs), this]
set_option maxRecDepth 100000 in
set_option maxHeartbeats 1000000 in
theorem open_need {H : Type} {enc : TypeId × Value → H} {W : World} {base : Nat} {r : Reach} {v : Value} {d : DataW H} {ps : List MemPlace} (hv : Value.okWide Try.prog W r base 26 v)
    (h : DataW.Trod enc Try.prog W 0 (fun _ => true) true 26 v d ps) : ∃ x : T3, v = tV x ∧ W64 x.1 ∧ x.2.1 < 18446744073709551616 ∧ W64 x.2.2 := by
  obtain ⟨x, hc, hw⟩ := cs_need (Gen.Cs.of_agg h)
  obtain ⟨cs, rfl, _⟩ := okWide_struct Try.underlying26 hv
  refine ⟨x, ?_, hw⟩
  have : cs.toList = shT.cf x := hc
  rw [← Array.toArray_toList (xs := cs), this]
  rfl
set_option maxRecDepth 100000 in
set_option maxHeartbeats 1000000 in
theorem open_table {H : Type} {enc : TypeId × Value → H} {W : World} {base : Nat} {r : Reach} {v : Value} {d : DataW H} {ps : List MemPlace} (hv : Value.okWide Try.prog W r base 27 v)
    (h : DataW.Trod enc Try.prog W 0 (fun _ => true) true 27 v d ps) : ∃ T : List Ans, LT W v T := by
  obtain ⟨a0, n0, c0, rfl⟩ := okWide_slice Try.underlying27 hv
  obtain ⟨L, hL, _⟩ := Gen.SlR.open (R := AnC) Try.underlying27 (show Try.prog.cellsOf tA = 8 by kernel_rfl) (by decide) (fun cs hcs => cs_ans hcs) (Gen.Cs.of_trod rfl h)
  exact ⟨L, hL⟩
def shB : Sh UInt8 := ⟨1, fun x => [.int .u8 x.toNat], fun _ => rfl, by decide, fun x u hu => by simp at hu; rw [hu]; rfl⟩
set_option maxRecDepth 100000 in
set_option maxHeartbeats 1000000 in
theorem open_picks {H : Type} {enc : TypeId × Value → H} {W : World} {base : Nat} {r : Reach} {v : Value} {d : DataW H} {ps : List MemPlace} (hv : Value.okWide Try.prog W r base 28 v)
    (h : DataW.Trod enc Try.prog W 0 (fun _ => true) true 28 v d ps) : ∃ l : List UInt8, shB.R W v l := by
  obtain ⟨a0, n0, c0, rfl⟩ := okWide_slice Try.underlying28 hv
  obtain ⟨L, hL, _⟩ := Gen.SlR.open (R := fun _ cs (x : UInt8) => cs = shB.cf x) Try.underlying28 (show Try.prog.cellsOf 5 = 1 by kernel_rfl) (by decide) (fun cs hcs => by
    obtain ⟨n, rfl, hw⟩ := Gen.Cs.int Try.underlying5 hcs
    have hb : 0 ≤ n ∧ n ≤ 255 := by simpa [Lit.wf, IntKind.min, IntKind.max, IntKind.signed, IntKind.bits] using hw
    refine ⟨UInt8.ofNat n.toNat, ?_⟩
    show [Value.int .u8 n] = [.int .u8 ((UInt8.ofNat n.toNat).toNat : Int)]
    congr 2
    simp; omega) (Gen.Cs.of_trod rfl h)
  exact ⟨L, Sh.R.of_slR (s := shB) (fun _ _ h => h) hL⟩
end Go.Proofs.Ythfdngjbcgkkfaa

namespace Go.Proofs.Ythfdngjbcgkkfaa
open Go.RowKit

theorem Tr.answer_told (t : Tr) (a : Ans) : (t.answer a).1.told = t.told ∧ t.qs.length ≤ (t.answer a).1.qs.length := by
  unfold Tr.answer
  split
  · exact ⟨rfl, Nat.le_refl _⟩
  split
  · exact ⟨rfl, Nat.le_refl _⟩
  split
  · exact ⟨rfl, Nat.le_refl _⟩
  split
  · exact ⟨rfl, Nat.le_refl _⟩
  split
  · exact ⟨rfl, Nat.le_refl _⟩
  obtain ⟨N, h1, _⟩ := fold_app a.m a.ins (setQ a.q a t.qs)
  have hl : t.qs.length ≤ (((t.take a).put a)).qs.length := by
    show t.qs.length ≤ (a.ins.foldl (openQ a.m) (setQ a.q a t.qs)).length
    rw [h1]; simp [setQ]
  unfold Tr.close
  split
  · exact ⟨rfl, hl⟩
  · exact ⟨rfl, hl⟩
/-- What a round of finish finds. -/
def FinR (w : World) (B bt bm : Nat) (T : List Ans) (s : Qn) (n : Nat) (ov : Value) (wr : World) : Prop :=
  ∃ vo vh t o, ∃ tn : Nat, TrM wr B bt bm vo vh (.slice none 0 0) t ∧ shT.O wr w.heap.size tN ov o ∧ Keeps [] w wr ∧ FinI T s t ∧ (t.state = 0 → FinO t o ∧ t.rec'.length = n) ∧ t.told = (tn : Int) ∧ tn ≤ t.qs.length ∧ o.length ≤ 1000
theorem InR.lt {w : World} {x : AnV} {a : Ans} (h : InR w x a) (hne : a.ins ≠ []) : ∀ b, x.v.ownBlock = some b → b < w.heap.size := fun b hb => by
  have hl : 0 < a.ins.length := List.length_pos_iff.2 hne
  obtain ⟨g, o, c, e, he⟩ := h.ins.elem hl
  rw [e] at hb
  simp [Value.ownBlock] at hb
  subst hb
  exact lt_of_cell (he 0 _ rfl)
theorem TrM.notN {w : World} {B B' bt bm : Nat} {vo vh vg v : Value} {t : Tr} {L : List T3} (h : TrM w B bt bm vo vh vg t) (hO : shT.O w B' tN v L) : ∀ b ∈ ownT bt bm vo vh vg, v.ownBlock ≠ some b := fun b hb e => by
  obtain ⟨cs, hc⟩ := hO.tag b e
  obtain ⟨_, _, ⟨es, c, h1⟩ | ⟨cs', e', h1, h2⟩⟩ := h.own_tag hb
  · rw [h1] at hc; cases hc
  · rw [h1] at hc
    cases hc
    rcases h2 with h2 | h2 | h2 | h2 <;> exact absurd h2 (by decide)
/-- A list of needs grows beside a trace. -/
theorem TrM.grwN {w w' : World} {B B' bt bm : Nat} {vo vh vg v v' : Value} {t : Tr} {L : List T3} (h : TrM w B bt bm vo vh vg t) (hO : shT.O w B' tN v L) (hG : Grw w w' v v') : TrM w' B bt bm vo vh vg t :=
  h.keep hG.keepsO (fun b hb hm => h.notN hO b hb (by simpa using hm)) (hG.keepsO.ki (fun b hb cs f e => by
    obtain ⟨cs', hc⟩ := hO.tag b (by simpa using hb)
    rw [hc] at e; cases e))
theorem fin_ans (w wr : World) (B bt bm : Nat) (vo vh ov : Value) (T : List Ans) (s : Qn) (t : Tr) (o : List T3) (n k : Nat) (x : AnV) (hB : w.heap.size ≤ B) (hT : TrM wr B bt bm vo vh (.slice none 0 0) t) (h0 : t.state = 0) (htold : t.told = t.qs.length) (hI : FinI T s t)
    (ho : o.Perm (t.qs.filterMap askOf)) (hk : k < o.length) (hO : shT.O wr w.heap.size tN ov (o.take k ++ o.drop (k + 1))) (hkw : Keeps [] w wr) (hn : t.rec'.length = n) (hT5 : ∀ a ∈ T, a.ins.length ≤ 5) (hT20 : T.length ≤ 20)
    (hx : InR wr x (ansOf T (qask o[k]))) (ha : (ansOf T (qask o[k])).Ok) (ha5 : (ansOf T (qask o[k])).ins.length ≤ 5) (hsep : (ansOf T (qask o[k])).ins ≠ [] → ∀ b, x.v.ownBlock = some b → b < w.heap.size) :
    Calls Try.prog 31 #[.pointer (some ⟨bt, 0, none⟩), aV x] wr fun e w' => (∃ i : Int, e = .returned (.int .i64 i)) ∧ FinR w B bt bm T s (n + 1) ov w' := by
  have hr := hI.recLen
  have hq := hI.len
  have hh := hI.hl
  refine (answer_c wr B bt bm vo vh _ t x _ hT hx ha (fun b hb hne e => ?_) (Nat.le_trans hT.bB.1 (Nat.le_of_lt hT.lt.1)) (by omega) (by omega)).mono ?_
  · have := hsep hne b e
    have := (hT.own_tag hb).1
    omega
  rintro e w' ⟨vo', vh', rfl, hT', hmv⟩
  obtain ⟨_, hI', hn'⟩ := hI.round h0 ho hT5 k hk htold
  obtain ⟨ht1, ht2⟩ := t.answer_told (ansOf T (qask o[k]))
  refine ⟨⟨_, rfl⟩, vo', vh', _, _, t.qs.length, hT', hO.keepS hmv.k (fun b hb => hT.notN hO b hb), hkw.fresh hmv.k (fun b hb => .inr (Nat.le_trans hB (hT.own_tag hb).1)), hI', fun e => ⟨(hn' e).1, by rw [(hn' e).2, hn]⟩, ht1.trans htold, ht2, ?_⟩
  have h1 := ho.length_eq
  have h2 : (t.qs.filterMap askOf).length ≤ t.qs.length := List.length_filterMap_le _ _
  simp; omega
/-- An answer is stored over another one. -/
theorem st8 {w : World} {X : Nat} {x0 x1 x2 x3 x4 x5 x6 x7 u0 u1 u2 u3 u4 u5 u6 u7 : Value} (h2 : w.heap[X]? = some (.cells #[u0, u1, u2, u3, u4, u5, u6, u7] tA (0, 0))) :
    ((((((((w.setCell ⟨X, 0, none⟩ x0).setCell ⟨X, 1, none⟩ x1).setCell ⟨X, 2, none⟩ x2).setCell ⟨X, 3, none⟩ x3).setCell ⟨X, 4, none⟩ x4).setCell ⟨X, 5, none⟩ x5).setCell ⟨X, 6, none⟩ x6).setCell ⟨X, 7, none⟩ x7).heap[X]? = some (.cells #[x0, x1, x2, x3, x4, x5, x6, x7] tA (0, 0)) ∧
    Keeps [X] w ((((((((w.setCell ⟨X, 0, none⟩ x0).setCell ⟨X, 1, none⟩ x1).setCell ⟨X, 2, none⟩ x2).setCell ⟨X, 3, none⟩ x3).setCell ⟨X, 4, none⟩ x4).setCell ⟨X, 5, none⟩ x5).setCell ⟨X, 6, none⟩ x6).setCell ⟨X, 7, none⟩ x7) ∧ KI w ((((((((w.setCell ⟨X, 0, none⟩ x0).setCell ⟨X, 1, none⟩ x1).setCell ⟨X, 2, none⟩ x2).setCell ⟨X, 3, none⟩ x3).setCell ⟨X, 4, none⟩ x4).setCell ⟨X, 5, none⟩ x5).setCell ⟨X, 6, none⟩ x6).setCell ⟨X, 7, none⟩ x7) := by
  have hk : Keeps [X] w ((((((((w.setCell ⟨X, 0, none⟩ x0).setCell ⟨X, 1, none⟩ x1).setCell ⟨X, 2, none⟩ x2).setCell ⟨X, 3, none⟩ x3).setCell ⟨X, 4, none⟩ x4).setCell ⟨X, 5, none⟩ x5).setCell ⟨X, 6, none⟩ x6).setCell ⟨X, 7, none⟩ x7) := by
    refine ((((((((Keeps.refl _ w).setCell ?_ _).setCell ?_ _).setCell ?_ _).setCell ?_ _).setCell ?_ _).setCell ?_ _).setCell ?_ _).setCell ?_ _ <;> exact .inr (by simp)
  refine ⟨?_, hk, hk.ki (fun b hb cs f e => ?_)⟩
  · clear hk
    have s1 := setCs h2 0 x0
    generalize w.setCell ⟨X, 0, none⟩ x0 = w1 at s1 ⊢
    have s2 := setCs s1 1 x1
    generalize w1.setCell ⟨X, 1, none⟩ x1 = w2 at s2 ⊢
    have s3 := setCs s2 2 x2
    generalize w2.setCell ⟨X, 2, none⟩ x2 = w3 at s3 ⊢
    have s4 := setCs s3 3 x3
    generalize w3.setCell ⟨X, 3, none⟩ x3 = w4 at s4 ⊢
    have s5 := setCs s4 4 x4
    generalize w4.setCell ⟨X, 4, none⟩ x4 = w5 at s5 ⊢
    have s6 := setCs s5 5 x5
    generalize w5.setCell ⟨X, 5, none⟩ x5 = w6 at s6 ⊢
    have s7 := setCs s6 6 x6
    generalize w6.setCell ⟨X, 6, none⟩ x6 = w7 at s7 ⊢
    have s8 := setCs s7 7 x7
    generalize w7.setCell ⟨X, 7, none⟩ x7 = w8 at s8 ⊢
    simpa using s8
  · simp at hb
    subst hb
    rw [h2] at e; cases e
theorem lookA_at {T : List Ans} {q : Qn} {k : Nat} (hk : k < T.length) (hno : ∀ j (hj : j < T.length), j < k → T[j].q ≠ q) (hq : T[k].q = q) : lookA T q = some T[k] := by
  unfold lookA
  rw [List.find?_eq_some_iff_getElem]
  exact ⟨by simpa using hq, k, hk, rfl, fun j hj => by simpa using hno j (by omega) hj⟩
theorem lookA_no {T : List Ans} {q : Qn} (hno : ∀ j (hj : j < T.length), T[j].q ≠ q) : lookA T q = none := by
  unfold lookA
  rw [List.find?_eq_none]
  intro a ha
  obtain ⟨k, hk, rfl⟩ := List.mem_iff_getElem.1 ha
  simpa using hno k hk
theorem LT.form {w : World} {v : Value} {T : List Ans} (h : LT w v T) : ∃ a c, v = .slice a T.length c := by
  obtain ⟨cs, ⟨_, a, c, e, _⟩, _⟩ := h
  exact ⟨a, c, e⟩
theorem mod_u8 (x : UInt8) (N : Nat) (hN : 0 < N) : Int.tmod (x.toNat : Int) (N : Int) = ((x.toNat % N : Nat) : Int) := by
  rw [← Int.ofNat_tmod]
end Go.Proofs.Ythfdngjbcgkkfaa

namespace Go.Proofs.Ythfdngjbcgkkfaa
open Go.RowKit

def FinPost (w : World) (T : List Ans) (s : Qn) (e : Ending) (w' : World) : Prop :=
  ∃ B bt bm vo vh t, e = .returned (.pointer (some ⟨bt, 0, none⟩)) ∧ TrM w' B bt bm vo vh (.slice none 0 0) t ∧ w.heap.size ≤ B ∧ FinE T s t ∧ Keeps [] w w'
theorem Tr.queries_state (t : Tr) : t.queries.1.state = t.state := by unfold Tr.queries; split <;> rfl
theorem Sh.O.le {α : Type} {s : Sh α} {w : World} {B B' e : Nat} {v : Value} {L : List α} (h : s.O w B e v L) (hb : B' ≤ B) : s.O w B' e v L := by
  refine ⟨h.1, ?_⟩
  rcases h.2 with hn | ⟨g, cap, cur, rfl, h1, rest⟩
  · exact .inl hn
  · exact .inr ⟨g, cap, cur, rfl, Nat.le_trans hb h1, rest⟩
theorem InR.keepE {w w' : World} {x : AnV} {y : Ans} {S : List Nat} (h : InR w x y) (hk : Keeps S w w') (hS : y.ins ≠ [] → ∀ b ∈ S, x.v.ownBlock ≠ some b) : InR w' x y := by
  by_cases e : y.ins = []
  · refine ⟨h.m, h.ow, h.n, h.ep, h.kn, h.rt, h.lu, ?_⟩
    have hi := h.ins
    rw [e] at hi ⊢
    obtain ⟨a, c, hv, _, hc, hn⟩ := hi.form
    rw [hv]
    exact Sh.R.empty _ _ _ _ hc hn
  · exact h.keep hk (hS e)
set_option maxRecDepth 100000 in
set_option maxHeartbeats 20000000 in
theorem finish_c (w : World) (im is : Int) (st : T3) (vT vp : Value) (T : List Ans) (l : List UInt8) (h1 : W64 im) (h2 : W64 st.1) (h3 : st.2.1 < 18446744073709551616)
    (hT : LT w vT T) (hp : shB.R w vp l) (hT5 : ∀ a ∈ T, a.ins.length ≤ 5) (hT20 : T.length ≤ 20) (hl60 : l.length ≤ 60) :
    Calls Try.prog 10 #[idV im is, tV st, vT, vp] w (FinPost w T (im, st.1, st.2.1)) := by
  obtain ⟨aT, cT, rfl⟩ := hT.form
  obtain ⟨ap, cp, rfl, hlc, hcm, _⟩ := hp.form
  obtain ⟨N, hN⟩ : ∃ n, T.length = n := ⟨_, rfl⟩
  obtain ⟨Lp, hLp⟩ : ∃ n, l.length = n := ⟨_, rfl⟩
  have hN20 : N ≤ 20 := by omega
  have hLp60 : Lp ≤ 60 := by omega
  rw [hN] at hT ⊢
  rw [hLp] at hp hlc ⊢
  obtain ⟨s0, s1, s2⟩ := st
  simp only at h2 h3
  have hkA : Keeps [] w ((w.alloc (.cells #[.int .i64 im, .int .i64 is] 23)).alloc (.cells #[.int .i64 s0, .int .u64 s1, .int .i64 s2] tN)) := ((Keeps.refl _ _).alloc _).alloc _
  have hI0 := FinI.new T im is (s0, s1, s2)
  have hO0 := FinO.new im is (s0, s1, s2)
  simp only at hI0
  obtain ⟨sq, hsq⟩ : ∃ q : Qn, (im, s0, s1) = q := ⟨_, rfl⟩
  rw [show (im, (s0, s1, s2).1, (s0, s1, s2).2.1) = sq from hsq]
  rw [hsq] at hI0
  replace hsq := Lib.hid hsq
  replace hT := Lib.hid hT
  replace hp := Lib.hid hp
  replace hN := Lib.hid hN
  replace hLp := Lib.hid hLp
  replace hT5 := Lib.hid hT5
  replace hI0 := Lib.hid hI0
  replace hO0 := Lib.hid hO0
  replace hkA := Lib.hid hkA
  go_enter Try.func10, Try.ntmps10
  go_wp2_with fail
  refine (new_c _ im is (s0, s1, s2) h1 h2 h3).mono ?_
  rintro e w1 ⟨bt, bm, vo, rfl, hM, hk1⟩
  have hk01 := hkA.out.trans hk1
  obtain ⟨B, hB⟩ : ∃ B, ((w.alloc (.cells #[.int .i64 im, .int .i64 is] 23)).alloc (.cells #[.int .i64 s0, .int .u64 s1, .int .i64 s2] tN)).heap.size = B := ⟨_, rfl⟩
  have hBw : w.heap.size ≤ B := by have := hkA.out.size; omega
  rw [hB] at hM
  have hR0 : FinR w B bt bm T sq 0 (.slice none 0 0) w1 := ⟨vo, .slice none 0 0, _, [], 0, hM, Sh.O.nil _ _ _ _, hk01, hI0.out, fun _ => ⟨hO0.out, rfl⟩, rfl, by simp, by simp⟩
  replace hR0 := Lib.hid hR0
  replace hB := Lib.hid hB
  clear hM hk1 hk01 hI0 hO0
  go_wp2
  go_loopw [10, 11] (fun ov nv wr => ∃ n : Nat, nv = .int .i64 n ∧ n ≤ 21 ∧ Hid (FinR w B bt bm T sq n ov wr)) (fun _ nv _ => 200 - (intOf nv).toNat)
  case atStart => exact ⟨0, rfl, by omega, hR0⟩
  case round =>
    obtain ⟨n, rfl, hn, hR⟩ := hrel
    obtain ⟨vo', vh, t, o, tn, hM, hO, hkr, hI, h0, htold, htn, hol⟩ := hR.out
    have hn200 : (n : Int) < 200 := by omega
    obtain ⟨ao, co, rfl⟩ := hO.form
    obtain ⟨No, hNo⟩ : ∃ k, o.length = k := ⟨_, rfl⟩
    rw [hNo] at hO ⊢
    have hrl := hI.recLen
    have hql := hI.len
    rw [hN.out] at hrl
    have hq100 : t.qs.length ≤ 101 := by omega
    have hqs := queries_c wr B bt bm vo' vh _ t tn hM htold htn (by omega)
    replace hqs := Lib.hid hqs
    replace hM := Lib.hid hM
    replace hO := Lib.hid hO
    replace hkr := Lib.hid hkr
    replace hI := Lib.hid hI
    replace h0 := Lib.hid h0
    replace htold := Lib.hid htold
    replace hNo := Lib.hid hNo
    clear hR hR0
    go_wp2_with fail
    refine hqs.out.mono ?_
    rintro e w2 ⟨vq, rfl, hOq, hM2, hmv⟩
    have hk2 : Keeps [] w w2 := hkr.out.fresh hmv.k (fun b hb => .inr (Nat.le_trans hBw (hM.out.own_tag hb).1))
    have hO2 := hO.out.keepS hmv.k (fun b hb => hM.out.notN hO.out b hb)
    have hI2 := hI.out.ask
    have hst2 := t.queries_state
    have hrq : t.queries.2.length ≤ 101 := by
      unfold Tr.queries
      split
      · simp
      · exact Nat.le_trans (List.length_filterMap_le _ _) (by simp; omega)
    have hask := h0.out
    have hask2 : t.state = 0 → (o ++ t.queries.2).Perm (t.qs.filterMap askOf) ∧ t.queries.1 = { t with told := t.qs.length } := fun e => (hask e).1.ask e
    obtain ⟨t2, ht2⟩ : ∃ x, t.queries.1 = x := ⟨_, rfl⟩
    obtain ⟨r, hr⟩ : ∃ x, t.queries.2 = x := ⟨_, rfl⟩
    rw [ht2] at hM2 hI2 hst2 hask2
    rw [hr] at hOq hrq hask2
    obtain ⟨aq, cq, rfl⟩ := hOq.form
    obtain ⟨Nq, hNq⟩ : ∃ k, r.length = k := ⟨_, rfl⟩
    have hB2 : w.heap.size ≤ w2.heap.size := hk2.size
    rw [hNq] at hOq hrq ⊢
    replace hOq := Lib.hid hOq
    replace hM2 := Lib.hid hM2
    replace hk2 := Lib.hid hk2
    replace hO2 := Lib.hid hO2
    replace hI2 := Lib.hid hI2
    replace hask2 := Lib.hid hask2
    replace hst2 := Lib.hid hst2
    replace hNq := Lib.hid hNq
    replace ht2 := Lib.hid ht2
    replace hr := Lib.hid hr
    clear hmv hM hO hkr hask hqs
    obtain ⟨N3, hN3⟩ : ∃ k, (o ++ r).length = k := ⟨_, rfl⟩
    have hN3b : N3 ≤ 1101 := by rw [← hN3, List.length_append, hNo.out, hNq.out]; have := hNo.out; omega
    replace hN3 := Lib.hid hN3
    by_cases hs : t.state = 0
    case neg =>
      have hE : FinE T sq t2 := ⟨hI2.out, by rw [hst2.out]; exact hs⟩
      have hsb : (t2.state != 0) = true := by rw [hst2.out]; simpa using hs
      replace hE := Lib.hid hE
      by_cases hz : N3 = 0
      · have hzb : ((N3 : Int) == 0) = true := by simp [hz]
        go_wp2_with (at_builtin; (refine Sh.wpl_app shT w.heap.size infoN rfl Try.underlying42 (.slice ao No co) (.slice aq Nq cq) o r rfl _ _ rfl rfl rfl hO2.out hOq.out.r (by have := hNo.out; have := hNq.out; omega) hB2 ?_; intro v3 w3 hO3 hG3; have hk3 := Sh.O.grew hk2.out hO2.out hG3 (Nat.le_refl _); have hM3 := hM2.out.grwN hO2.out hG3; obtain ⟨a3, c3, rfl⟩ := hO3.form; rw [hN3.out] at hO3 ⊢; replace hO3 := Lib.hid hO3; replace hk3 := Lib.hid hk3; replace hM3 := Lib.hid hM3; clear hG3))
        go_ret
        exact ⟨B, bt, bm, vo', vh, t2, rfl, hM3.out, hBw, hE.out, hk3.out⟩
      · have hzb : ((N3 : Int) == 0) = false := by simp; omega
        go_wp2_with (at_builtin; (refine Sh.wpl_app shT w.heap.size infoN rfl Try.underlying42 (.slice ao No co) (.slice aq Nq cq) o r rfl _ _ rfl rfl rfl hO2.out hOq.out.r (by have := hNo.out; have := hNq.out; omega) hB2 ?_; intro v3 w3 hO3 hG3; have hk3 := Sh.O.grew hk2.out hO2.out hG3 (Nat.le_refl _); have hM3 := hM2.out.grwN hO2.out hG3; obtain ⟨a3, c3, rfl⟩ := hO3.form; rw [hN3.out] at hO3 ⊢; replace hO3 := Lib.hid hO3; replace hk3 := Lib.hid hk3; replace hM3 := Lib.hid hM3; clear hG3))
        refine (state_c w3 _ _ _ _ _ _ _ hM3.out).mono ?_
        rintro e w4 ⟨rfl, rfl⟩
        go_wp2
        go_ret
        exact ⟨B, bt, bm, vo', vh, t2, rfl, hM3.out, hBw, hE.out, hk3.out⟩
    case pos =>
      obtain ⟨hperm, ht2e⟩ := hask2.out hs
      have hs2 : t2.state = 0 := hst2.out.trans hs
      have hqs2 : t2.qs = t.qs := by rw [ht2e]
      have hperm2 : (o ++ r).Perm (t2.qs.filterMap askOf) := by rw [hqs2]; exact hperm
      have hrec2 : t2.rec'.length = n := by unfold Tr.rec'; rw [hqs2]; exact (h0.out hs).2
      have htold2 : t2.told = t2.qs.length := by rw [ht2e]
      have hn20 : n ≤ 20 := by have := hI2.out.recLen; omega
      have hne := hI2.out.open_ne hs2 hperm2
      have hN3p : 0 < N3 := by rw [← hN3.out]; exact List.length_pos_iff.2 hne
      have hzb : ((N3 : Int) == 0) = false := by simp; omega
      replace hperm2 := Lib.hid hperm2
      replace hs2 := Lib.hid hs2
      replace hrec2 := Lib.hid hrec2
      replace htold2 := Lib.hid htold2
      clear hperm ht2e hqs2 hne hs hask2
      go_wp2_with (at_builtin; (refine Sh.wpl_app shT w.heap.size infoN rfl Try.underlying42 (.slice ao No co) (.slice aq Nq cq) o r rfl _ _ rfl rfl rfl hO2.out hOq.out.r (by have := hNo.out; have := hNq.out; omega) hB2 ?_; intro v3 w3 hO3 hG3; have hk3 := Sh.O.grew hk2.out hO2.out hG3 (Nat.le_refl _); have hM3 := hM2.out.grwN hO2.out hG3; obtain ⟨a3, c3, rfl⟩ := hO3.form; rw [hN3.out] at hO3 ⊢; replace hO3 := Lib.hid hO3; replace hk3 := Lib.hid hk3; replace hM3 := Lib.hid hM3; clear hG3))
      have hst := state_c w3 _ _ _ _ _ _ _ hM3.out
      rw [hs2.out] at hst
      refine hst.mono ?_
      rintro e w4 ⟨rfl, rfl⟩
      clear hst
      go_upto_if 42 with fail
      go_cut [12] from 22 to 101 (fun kv wx => ∃ k : Nat, kv = .int .i64 k ∧ k < N3 ∧ wx = w3)
      case first =>
        by_cases hlt : n < Lp
        · have hnl : n < l.length := by rw [hLp.out]; exact hlt
          obtain ⟨g, oo, c', hv, he⟩ := (hp.out.keeps hk3.out).elem hnl
          rw [hLp.out] at hv
          cases hv
          have e0 := he 0 _ rfl
          obtain ⟨x, hx⟩ : ∃ x, l[n] = x := ⟨_, rfl⟩
          rw [hx] at e0
          simp only [shB, Nat.add_zero, Nat.mul_one] at e0
          have hm := mod_u8 x N3 hN3p
          have hml := Nat.mod_lt x.toNat hN3p
          replace hx := Lib.hid hx
          clear he
          go_wp2
          go_meet
          case rel => exact ⟨x.toNat % N3, by rw [show wrap64 (x.toNat : Int) = x.toNat from IntWalk.wrap64_in _ (by have := x.toNat_lt; omega), hm], hml, rfl⟩
        · go_wp2
          go_meet
          case rel => exact ⟨0, rfl, hN3p, rfl⟩
      case rest =>
        obtain ⟨k, rfl, hk, rfl⟩ := hcut
        have hklen : k < (o ++ r).length := by rw [hN3.out]; exact hk
        obtain ⟨g3, c3', ev, hg3, cs3, hg3b⟩ := hO3.out.form1 (by omega)
        rw [hN3.out] at ev
        cases ev
        obtain ⟨g', o', c', hv, he⟩ := hO3.out.r.elem hklen
        rw [hN3.out] at hv
        cases hv
        obtain ⟨x, hx⟩ : ∃ x, (o ++ r)[k] = x := ⟨_, rfl⟩
        rw [hx] at he
        obtain ⟨q0, q1, q2⟩ := x
        have e0 := he 0 _ rfl
        have e1 := he 1 _ rfl
        have e2 := he 2 _ rfl
        simp only [shT, Nat.add_zero, Nat.zero_add] at e0 e1 e2
        have hc3 : N3 ≤ c3 := by
          obtain ⟨_, _, e, h2, _⟩ := hO3.out.r.form
          cases e
          rw [hN3.out] at h2; exact h2
        have hkA4 := (Keeps.refl [] wc).alloc (.cells #[.int .i64 q0, .int .u64 q1, .int .i64 q2] tN)
        have hb4 := heap_alloc_new wc (.cells #[.int .i64 q0, .int .u64 q1, .int .i64 q2] tN)
        have hO4 := hO3.out.keeps hkA4
        have hM4 := hM3.out.keeps hkA4
        have hk4 := hk3.out.trans hkA4
        have hX4t := hM3.out.own_tag (b := wc.heap.size)
        have hwr : IntKind.i64.wrap ((k : Int) + 1) = (k : Int) + 1 := IntWalk.i64_in _ (by omega)
        have hwt : ((k : Int) + 1).toNat = k + 1 := by omega
        have f0 : 0 ≤ (k : Int) + 1 := by omega
        have f2 : (k : Int) ≤ (c3 : Int) := by omega
        have f3 : (k : Int) + 1 ≤ (N3 : Int) := by omega
        have hT1 := hO4.r.init k (by rw [hN3.out]; omega)
        have hT2 := hO4.r.tail (k + 1) (by rw [hN3.out]; omega)
        rw [hN3.out, Nat.zero_add] at hT2
        have hfr := Sh.O.fresh shT (wc.alloc (.cells #[.int .i64 q0, .int .u64 q1, .int .i64 q2] tN)) (wc.alloc (.cells #[.int .i64 q0, .int .u64 q1, .int .i64 q2] tN)).heap.size tN (Nat.le_refl _)
        have hlt1 : ((o ++ r).take k).length ≤ 1101 := by rw [List.length_take, hN3.out]; omega
        have hlt2 : ((o ++ r).drop (k + 1)).length ≤ 1101 := by rw [List.length_drop, hN3.out]; omega
        replace hkA4 := Lib.hid hkA4
        replace hb4 := Lib.hid hb4
        replace hO4 := Lib.hid hO4
        replace hM4 := Lib.hid hM4
        replace hk4 := Lib.hid hk4
        replace hT1 := Lib.hid hT1
        replace hT2 := Lib.hid hT2
        replace hfr := Lib.hid hfr
        replace hlt1 := Lib.hid hlt1
        replace hlt2 := Lib.hid hlt2
        replace hx := Lib.hid hx
        clear he hO3 hg3 hg3b hX4t hM3 hk3
        go_upto_region 15 with fail
        generalize (wc.alloc (.cells #[.int .i64 q0, .int .u64 q1, .int .i64 q2] tN)) = W4 at *
        obtain ⟨X4, hX4⟩ : ∃ b, wc.heap.size = b := ⟨_, rfl⟩
        rw [hX4] at hb4 ⊢
        replace hX4 := Lib.hid hX4
        go_cut [10] from 22 to 101 (fun ov wx => Hid (shT.O wx W4.heap.size tN ov ((o ++ r).take k ++ (o ++ r).drop (k + 1))) ∧ Hid (Keeps [] W4 wx))
        case first =>
          have hkA := (Keeps.refl [] W4).alloc (.cells #[] tN)
          replace hkA := Lib.hid hkA
          refine Free.wp_region_chain (fun i => i == 0 || i == 4 || i == 9) (fun i => true) (fun _ b => W4.heap.size ≤ b) (by kernel_rfl) (by kernel_rfl) (by kernel_rfl) ?_
          refine Free.cw_loud rfl rfl (fun K hK => ?_)
          go_wp2
          refine hK _ _ rfl (Free.KeepsP.alloc _ _ _) ?_
          clear hK K
          (repeat (apply Free.cw_pure rfl rfl; (intro w'; go_simp <;> exact rfl); go_frame))
          refine Free.cw_loud rfl rfl (fun K hK => ?_)
          refine Sh.wp_app shT W4.heap.size infoN rfl Try.underlying42 (.slice (some ⟨W4.heap.size, 0, none⟩) 0 0) (.slice (some ⟨g3, 0, none⟩) k c3) [] ((o ++ r).take k) _ _ rfl rfl rfl (hfr.out.keeps ((Keeps.refl [] _).drew)) (hT1.out.keeps (hkA.out.drew)) (by have := hlt1.out; simp only [List.length_nil]; omega) (by simp) ?_
          intro v5 w5 hO5 hG5
          rw [List.nil_append] at hO5
          have hk5 := hG5.keeps (a := W4) (hkA.out.drew) (fun b hb => by simp [Value.ownBlock] at hb; omega)
          refine hK _ _ rfl (Free.KeepsP.of hG5.keepsO (fun b hb => by simp [Value.ownBlock] at hb; omega)) ?_
          clear hK K
          have hT2' := hT2.out.keeps hk5
          have hsz5 := hk5.size
          replace hO5 := Lib.hid hO5
          replace hT2' := Lib.hid hT2'
          replace hk5 := Lib.hid hk5
          clear hG5
          (repeat (apply Free.cw_pure rfl rfl; (intro w'; go_simp <;> exact rfl); go_frame))
          refine Free.cw_loud rfl rfl (fun K hK => ?_)
          refine Sh.wp_app shT W4.heap.size infoN rfl Try.underlying42 v5 _ ((o ++ r).take k) ((o ++ r).drop (k + 1)) _ _ rfl rfl rfl hO5.out hT2'.out (by have := hlt1.out; have := hlt2.out; omega) hsz5 ?_
          intro v6 w6 hO6 hG6
          have hge5 := fun b e => hO5.out.ge b e
          refine hK _ _ rfl (Free.KeepsP.of hG6.keepsO (fun b hb => hge5 b (by simpa using hb))) ?_
          clear hK K
          have hk6 := Sh.O.grew hk5.out hO5.out hG6 (Nat.le_refl _)
          replace hk6 := Lib.hid hk6
          replace hO6 := Lib.hid hO6
          clear hG6 hge5
          (repeat (apply Free.cw_pure rfl rfl; (intro w'; go_simp <;> exact rfl); go_frame))
          refine Free.cw_nil ?_
          go_wp2
          all_goals
            go_meet
            case rel => exact ⟨hO6, hk6⟩
        case rest =>
          obtain ⟨hO6, hk6⟩ := hcut
          obtain ⟨a6, c6, rfl⟩ := hO6.out.form
          obtain ⟨N6, hN6⟩ : ∃ n, ((o ++ r).take k ++ (o ++ r).drop (k + 1)).length = n := ⟨_, rfl⟩
          rw [hN6] at hO6 ⊢
          have hkw6 := hk4.out.trans hk6.out
          have hM6 := hM4.out.keeps hk6.out
          have hbq := (hk6.out.block _ (lt_of_blk hb4.out) (by simp)).trans hb4.out
          obtain ⟨y0, y1, y2⟩ := cells3t hbq
          have hkA7 := (Keeps.refl [] wc).alloc (.cells #[.int .i64 q0, .int .i64 q2, .int .u64 q1, .int .i64 0, .bool false, .bool false, .int .i64 0, .slice none 0 0] tA)
          have hb7 := heap_alloc_new wc (.cells #[.int .i64 q0, .int .i64 q2, .int .u64 q1, .int .i64 0, .bool false, .bool false, .int .i64 0, .slice none 0 0] tA)
          have hlt4 := lt_of_blk hbq
          have hW4w : w.heap.size ≤ W4.heap.size := hk4.out.size
          have hO7 := (hO6.out.le hW4w).keeps hkA7
          have hM7 := hM6.keeps hkA7
          have hkw7 := hkw6.trans hkA7
          have hYn : ∀ b ∈ ownT bt bm vo' vh (.slice none 0 0), b ≠ wc.heap.size := fun b hb => by have := (hM6.own_tag hb).2.1; omega
          have hYo : ∀ b, (Value.slice a6 N6 c6).ownBlock = some b → b ≠ wc.heap.size := fun b hb => by have := hO6.out.lt b hb; omega
          have hYw : w.heap.size ≤ wc.heap.size := hkw6.size
          have hbq7 := (hkA7.block X4 hlt4 (by simp)).trans hbq
          obtain ⟨Y, hY⟩ : ∃ b, wc.heap.size = b := ⟨_, rfl⟩
          rw [hY] at hb7 hYn hYo hYw
          have hXY : X4 < Y := by omega
          replace hN6 := Lib.hid hN6
          replace hbq := Lib.hid hbq
          replace hbq7 := Lib.hid hbq7
          replace hb7 := Lib.hid hb7
          replace hO7 := Lib.hid hO7
          replace hM7 := Lib.hid hM7
          replace hkw7 := Lib.hid hkw7
          replace hkA7 := Lib.hid hkA7
          replace hYn := Lib.hid hYn
          replace hYo := Lib.hid hYo
          clear hO6 hk6 hO4 hM4 hk4 hT1 hT2 hfr hkA4 hkw6 hM6 hlt1 hlt2 hb4
          go_wp2
          generalize (wc.alloc (.cells #[.int .i64 q0, .int .i64 q2, .int .u64 q1, .int .i64 0, .bool false, .bool false, .int .i64 0, .slice none 0 0] tA)) = W7 at *
          replace hY := Lib.hid hY
          clear y0 y1 y2
          go_loopw [74] (fun iv wl => ∃ j : Nat, iv = .int .i64 j ∧ j ≤ N ∧ Hid (∀ i (hi : i < T.length), i < j → T[i].q ≠ (q0, q2, q1)) ∧ Hid (Keeps [] W7 wl)) (fun iv _ => N - (intOf iv).toNat)
          case atStart => exact ⟨0, rfl, by omega, Lib.hid (fun _ _ h => by omega), Lib.hid (Keeps.refl _ _)⟩
          case round =>
            obtain ⟨j, rfl, hj, hno, hkl⟩ := hrel
            have hqx : qask (o ++ r)[k] = (q0, q2, q1) := by rw [hx.out]; rfl
            have hkwl := hkw7.out.trans hkl.out
            have hMl := hM7.out.keeps hkl.out
            have hOl := hO7.out.keeps hkl.out
            have hbql := (hkl.out.block _ (lt_of_blk hbq7.out) (by simp)).trans hbq7.out
            have hbYl := (hkl.out.block _ (lt_of_blk hb7.out) (by simp)).trans hb7.out
            have hYl := lt_of_blk hbYl
            have hX4l := lt_of_blk hbql
            obtain ⟨y0, y1, y2⟩ := cells3t hbql
            obtain ⟨v0, v1, v2, v3, v4, v5, v6, v7, hvf, _⟩ := cells8 hbYl
            replace hkwl := Lib.hid hkwl
            replace hMl := Lib.hid hMl
            replace hOl := Lib.hid hOl
            replace hbql := Lib.hid hbql
            replace hbYl := Lib.hid hbYl
            replace hqx := Lib.hid hqx
            have hqok : qOk (q0, q2, q1) := by
              rw [← hqx.out]
              exact hMl.out.inv.ok _ (List.mem_map.2 ⟨_, ask_mem (hperm2.out.mem_iff.1 (List.getElem_mem hklen)), rfl⟩)
            replace hqok := Lib.hid hqok
            have hcall := fun (W : World) (x : AnV) (h1 : TrM W B bt bm vo' vh (.slice none 0 0) t2) (h2 : shT.O W w.heap.size tN (.slice a6 N6 c6) ((o ++ r).take k ++ (o ++ r).drop (k + 1))) (h3 : Keeps [] w W) =>
              fin_ans w W B bt bm vo' vh (.slice a6 N6 c6) T sq t2 (o ++ r) n k x hBw h1 hs2.out htold2.out hI2.out hperm2.out hklen h2 h3 hrec2.out hT5.out (by rw [hN.out]; exact hN20)
            replace hcall := Lib.hid hcall
            by_cases hltj : j < N
            · have hjT : j < T.length := by rw [hN.out]; exact hltj
              obtain ⟨g, oo, c', x, hv, hxr, hfit, he⟩ := hT.out.elem hjT
              rw [hN.out] at hv
              cases hv
              obtain ⟨x0, x1, x2, x3, x4, x5, x6, x7, x8, x9⟩ := x
              have e0 := hkwl.out.val (he 0 _ rfl)
              have e1 := hkwl.out.val (he 1 _ rfl)
              have e2 := hkwl.out.val (he 2 _ rfl)
              have e3 := hkwl.out.val (he 3 _ rfl)
              have e4 := hkwl.out.val (he 4 _ rfl)
              have e5 := hkwl.out.val (he 5 _ rfl)
              have e6 := hkwl.out.val (he 6 _ rfl)
              have e7 := hkwl.out.val (he 7 _ rfl)
              simp only [AnV.v, Nat.add_zero] at e0 e1 e2 e3 e4 e5 e6 e7
              have m0 : x0 = T[j].m := hxr.m
              have m1 : x1 = T[j].ow := hxr.ow
              have m2 : x2 = T[j].n := hxr.n
              have hkB := (Keeps.refl [] wr).alloc (.cells #[.int .i64 x0, .int .i64 x1, .int .u64 x2, .int .i64 x3, .bool x4, .bool x5, .int .i64 x6, .slice x7 x8 x9] tA)
              have hbYB := (hkB.block Y hYl (by simp)).trans hbYl.out
              have hklB := hkl.out.trans hkB
              have hfrB : ∀ o, (wr.alloc (.cells #[.int .i64 x0, .int .i64 x1, .int .u64 x2, .int .i64 x3, .bool x4, .bool x5, .int .i64 x6, .slice x7 x8 x9] tA)).frozen? ⟨Y, o, none⟩ = false := fun o => by simp [World.frozen?, hbYB]
              have hno2 : ¬ (x0 = q0 ∧ x1 = q2 ∧ x2 = q1) → ∀ i (hi : i < T.length), i < j + 1 → T[i].q ≠ (q0, q2, q1) := fun hn i hi hij => by
                by_cases e : i = j
                · subst e
                  intro e2
                  unfold Ans.q at e2
                  simp only [Prod.mk.injEq] at e2
                  exact hn ⟨m0.trans e2.1, m1.trans e2.2.1, m2.trans e2.2.2⟩
                · exact hno.out i hi (by omega)
              replace hkB := Lib.hid hkB
              replace hbYB := Lib.hid hbYB
              replace hklB := Lib.hid hklB
              replace hno2 := Lib.hid hno2
              replace hxr := Lib.hid hxr
              replace hfit := Lib.hid hfit
              replace m0 := Lib.hid m0
              replace m1 := Lib.hid m1
              replace m2 := Lib.hid m2
              clear he
              by_cases a0 : x0 = q0
              case neg =>
                have b0 : (x0 == q0) = false := by simpa using a0
                have h2 := Lib.hid (hno2.out (fun h => a0 h.1))
                replace a0 := Lib.hid a0
                go_wp2
                go_roundw
                case rel => exact ⟨j + 1, rfl, by omega, h2, hklB⟩
                case measure => simp [intOf]; omega
              have b0 : (x0 == q0) = true := by simpa using a0
              by_cases a1 : x1 = q2
              case neg =>
                have b1 : (x1 == q2) = false := by simpa using a1
                have h2 := Lib.hid (hno2.out (fun h => a1 h.2.1))
                replace a0 := Lib.hid a0
                replace a1 := Lib.hid a1
                go_wp2
                go_roundw
                case rel => exact ⟨j + 1, rfl, by omega, h2, hklB⟩
                case measure => simp [intOf]; omega
              have b1 : (x1 == q2) = true := by simpa using a1
              by_cases a2 : x2 = q1
              case neg =>
                have b2 : ((x2 : Int) == (q1 : Int)) = false := by simp; omega
                have h2 := Lib.hid (hno2.out (fun h => a2 h.2.2))
                replace a0 := Lib.hid a0
                replace a1 := Lib.hid a1
                replace a2 := Lib.hid a2
                go_wp2
                go_roundw
                case rel => exact ⟨j + 1, rfl, by omega, h2, hklB⟩
                case measure => simp [intOf]; omega
              have b2 : ((x2 : Int) == (q1 : Int)) = true := by simp [a2]
              have hans : ansOf T (qask (o ++ r)[k]) = T[j] := by
                rw [hqx.out]
                unfold ansOf
                rw [lookA_at hjT hno.out (by unfold Ans.q; rw [← m0.out, ← m1.out, ← m2.out, a0, a1, a2])]
                rfl
              replace a0 := Lib.hid a0
              replace a1 := Lib.hid a1
              replace a2 := Lib.hid a2
              replace hans := Lib.hid hans
              go_wp2_with fail
              obtain ⟨s1, s2, s3⟩ := st8 (x0 := .int .i64 x0) (x1 := .int .i64 x1) (x2 := .int .u64 x2) (x3 := .int .i64 x3) (x4 := .bool x4) (x5 := .bool x5) (x6 := .int .i64 x6) (x7 := .slice x7 x8 x9) hbYl.out
              have hYmem : ∀ b, b ∈ [Y] → b = Y := fun b hb => by simpa using hb
              have hfa := hcall.out _ ⟨x0, x1, x2, x3, x4, x5, x6, x7, x8, x9⟩ ((hMl.out.keep s2 (fun b hb hm => hYn.out b hb (hYmem b hm)) s3).keeps ((Keeps.refl [] _).alloc _)) ((hOl.out.keepS s2 (fun b hb e => hYo.out b e (hYmem b hb))).keeps ((Keeps.refl [] _).alloc _)) ((hkwl.out.fresh s2 (fun b hb => .inr (by rw [hYmem b hb]; exact hYw))).alloc (.cells #[.int .i64 x0, .int .i64 x1, .int .u64 x2, .int .i64 x3, .bool x4, .bool x5, .int .i64 x6, .slice x7 x8 x9] tA))
                (by rw [hans.out]; exact ((hxr.out.keepE hkwl.out (fun _ b hb => by simp at hb)).keepE s2 (fun hne b hb e => by have h9 := hxr.out.lt hne b e; rw [hYmem b hb] at h9; omega)).keepE ((Keeps.refl [] _).alloc _) (fun _ b hb => by simp at hb))
                (by rw [hans.out]; exact hfit.out.ok (Nat.le_trans (hT5.out _ (List.getElem_mem hjT)) (by omega))) (by rw [hans.out]; exact hT5.out _ (List.getElem_mem hjT)) (by rw [hans.out]; exact hxr.out.lt)
              simp only [aV, AnV.v] at hfa
              refine hfa.mono ?_
              rintro e w9 ⟨⟨i, rfl⟩, hR9⟩
              replace hR9 := Lib.hid hR9
              clear hfa s1 s2 s3
              go_wp2
              go_roundw
              case rel => exact ⟨n + 1, rfl, by omega, hR9⟩
              case measure => simp [intOf]; omega
            · have hnone : ansOf T (qask (o ++ r)[k]) = ⟨q0, q2, q1, 0, false, false, 0, []⟩ := by
                rw [hqx.out]
                unfold ansOf
                rw [lookA_no (fun i hi => hno.out i hi (by rw [hN.out] at hi; omega))]
                rfl
              have hfa := hcall.out wr ⟨q0, q2, q1, 0, false, false, 0, none, 0, 0⟩ hMl.out hOl.out hkwl.out (by rw [hnone]; exact ⟨rfl, rfl, rfl, rfl, rfl, rfl, rfl, Sh.R.nil _ _⟩) (by rw [hnone]; exact ⟨hqok.out, (show W64 0 by decide +kernel), (show W64 0 by decide +kernel), by simp, by simp⟩) (by rw [hnone]; simp) (by rw [hnone]; intro h; exact absurd rfl h)
              simp only [aV, AnV.v] at hfa
              replace hfa := Lib.hid hfa
              replace hnone := Lib.hid hnone
              go_wp2_with fail
              refine hfa.out.mono ?_
              rintro e w9 ⟨⟨i, rfl⟩, hR9⟩
              replace hR9 := Lib.hid hR9
              clear hfa
              go_wp2
              go_roundw
              case rel => exact ⟨n + 1, rfl, by omega, hR9⟩
              case measure => simp [intOf]; omega
end Go.Proofs.Ythfdngjbcgkkfaa
