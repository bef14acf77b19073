/- Texts that the laws lean on, in the order in which they build. The claims that follow from sorted answers, machine by machine; they are the only ones. The specification's sorted answers and claims: plain. The specification's less, lastUse, out. append(append(append([]E{}, ..), x), ..) in one region that draws its order: the facts of its operations. Of whatever program. The specification's Sorted. -/
import Derived.Test.YtpobepninifenaaGreatS5
import Derived.Deep.CutRange
set_option linter.unusedVariables false
set_option linter.unusedSimpArgs false
namespace Go.Proofs.YtpobepninifenaaGreat
open Go.RowKit

theorem snoc_ind {α : Type} {p : List α → Prop} (h0 : p []) (hs : ∀ l a, p l → p (l ++ [a])) (l : List α) : p l := by
  rw [← List.reverse_reverse l]
  induction l.reverse with
  | nil => exact h0
  | cons a r ih => rw [List.reverse_cons]; exact hs _ _ ih
theorem nil_or_snoc {α : Type} (l : List α) : l = [] ∨ ∃ r a, l = r ++ [a] := by
  induction l using snoc_ind with
  | h0 => exact .inl rfl
  | hs r a _ => exact .inr ⟨r, a, rfl⟩
/-- The machines that have answered, in the order of their first answers. -/
def msA (l : List Int) (a : Ans) : List Int := if l.getLast? = some a.m then l else l ++ [a.m]
def msOf (Y : List Ans) : List Int := Y.foldl msA []
def epOf (Y : List Ans) (m : Int) : Int := ((Y.find? (fun a => a.m == m)).map Ans.ep).getD 0
def stA (O : List (Qn × Int)) (m : Int) (a : Ans) : Option T3 := if a.m = m then (MapS.get (a.ow, a.m, a.n) O).map (fun o => (a.ow, a.n, o)) else none
def chA (O : List (Qn × Int)) (m : Int) (a : Ans) : Option T3 := if a.m = m ∧ MapS.get (a.ow, a.m, a.n) O = none then some (a.ow, a.n, 0) else none
def stOf (O : List (Qn × Int)) (Y : List Ans) (m : Int) : List T3 := Y.filterMap (stA O m)
def chOf (O : List (Qn × Int)) (Y : List Ans) (m : Int) : List T3 := Y.filterMap (chA O m)
def scN (t : Tr) (m : Int) (x : T3) : T3 := (x.1, x.2.1, luOf t (x.1, m, x.2.1))
def scS (t : Tr) (m : Int) (l : List T3) (x : T3) : List T3 := addN (scN t m x) l
def scA (t : Tr) (m : Int) (l : List T3) (a : Ans) : List T3 := if a.m = m then a.ins.foldl (scS t m) l else l
def scOf (t : Tr) (Y : List Ans) (m : Int) : List T3 := Y.foldl (scA t m) []
def clOf (t : Tr) (O : List (Qn × Int)) (Y : List Ans) (m : Int) : PCl := ⟨m, epOf Y m, stOf O Y m, scOf t Y m, chOf O Y m⟩

theorem updL_snoc (P : List PCl) (c : PCl) (j : Nat) (f : List T3 → List T3) : updL (P ++ [c]) j f = P ++ [c.upd j (f (c.at j))] := by
  rw [updL_at (n := P.length) (by simp)]
  simp
theorem openC_snoc (P : List PCl) (c : PCl) (a : Ans) : openC (P ++ [c]) a = if c.m = a.m then P ++ [c] else P ++ [c] ++ [⟨a.m, a.ep, [], [], []⟩] := by
  unfold openC
  have : (P ++ [c])[(P ++ [c]).length - 1]? = some c := by simp
  rw [this]
theorem sc_fold_snoc (t : Tr) (m : Int) (P : List PCl) : ∀ (l : List T3) (c : PCl), l.foldl (scC t m) (P ++ [c]) = P ++ [c.upd 1 (l.foldl (scS t m) c.sc)]
  | [], c => by simp [PCl.upd]
  | x :: r, c => by
    rw [List.foldl_cons, List.foldl_cons]
    unfold scC
    rw [updL_snoc]
    have ih := sc_fold_snoc t m P r (c.upd 1 (addN (x.1, x.2.1, luOf t (x.1, m, x.2.1)) (c.at 1)))
    unfold scC at ih
    rw [ih]
    rfl
theorem epOf_snoc {Y : List Ans} {m : Int} (h : ∃ b ∈ Y, b.m = m) (a : Ans) : epOf (Y ++ [a]) m = epOf Y m := by
  obtain ⟨b, hb, hm⟩ := h
  unfold epOf
  rw [List.find?_append]
  cases hf : Y.find? (fun a => a.m == m) with
  | some c => rfl
  | none =>
    rw [List.find?_eq_none] at hf
    have := hf b hb
    simp [hm] at this
theorem epOf_new {Y : List Ans} {a : Ans} (h : ∀ b ∈ Y, b.m ≠ a.m) : epOf (Y ++ [a]) a.m = a.ep := by
  unfold epOf
  rw [List.find?_append]
  have : Y.find? (fun b => b.m == a.m) = none := List.find?_eq_none.2 (fun b hb => by simpa using h b hb)
  rw [this]
  simp
theorem stOf_new {O : List (Qn × Int)} {Y : List Ans} {m : Int} (h : ∀ b ∈ Y, b.m ≠ m) : stOf O Y m = [] ∧ chOf O Y m = [] := by
  refine ⟨List.filterMap_eq_nil_iff.2 (fun a ha => ?_), List.filterMap_eq_nil_iff.2 (fun a ha => ?_)⟩
  · unfold stA; rw [if_neg (h a ha)]
  · unfold chA; rw [if_neg (fun e => h a ha e.1)]
theorem scOf_new {t : Tr} {m : Int} : ∀ {Y : List Ans} {l : List T3}, (∀ b ∈ Y, b.m ≠ m) → Y.foldl (scA t m) l = l
  | [], _, _ => rfl
  | a :: r, l, h => by
    rw [List.foldl_cons]
    have : scA t m l a = l := by unfold scA; rw [if_neg (h a (by simp))]
    rw [this]
    exact scOf_new (fun b hb => h b (by simp [hb]))
theorem clOf_snoc {t : Tr} {O : List (Qn × Int)} {Y : List Ans} {m : Int} {a : Ans} (hm : a.m ≠ m) (h : ∃ b ∈ Y, b.m = m) : clOf t O (Y ++ [a]) m = clOf t O Y m := by
  unfold clOf
  rw [epOf_snoc h]
  have e1 : stOf O (Y ++ [a]) m = stOf O Y m := by unfold stOf; rw [List.filterMap_append]; simp [stA, hm]
  have e2 : chOf O (Y ++ [a]) m = chOf O Y m := by unfold chOf; rw [List.filterMap_append]; simp [chA, hm]
  have e3 : scOf t (Y ++ [a]) m = scOf t Y m := by unfold scOf; rw [List.foldl_append]; simp [scA, hm]
  rw [e1, e2, e3]
/-- The raw claims, machine by machine. -/
theorem rawOf_eq (t : Tr) (O : List (Qn × Int)) (Y : List Ans) : Y.Pairwise (fun x y => qlt x.q y.q) → rawOf t O Y = (msOf Y).map (clOf t O Y) ∧ (msOf Y).Pairwise (· < ·) ∧ ∀ m, m ∈ msOf Y ↔ ∃ a ∈ Y, a.m = m := by
  induction Y using snoc_ind with
  | h0 => exact fun _ => ⟨rfl, List.Pairwise.nil, fun m => by simp [msOf]⟩
  | hs Y a ih =>
    intro hs
    obtain ⟨hs1, _, hs2⟩ := List.pairwise_append.1 hs
    obtain ⟨i1, i2, i3⟩ := ih hs1
    have hle : ∀ b ∈ Y, b.m ≤ a.m := fun b hb => by have := hs2 b hb a (by simp); unfold qlt Ans.q at this; simp only at this; omega
    have hmm : msOf (Y ++ [a]) = msA (msOf Y) a := by unfold msOf; rw [List.foldl_append]; rfl
    have hrr : rawOf t O (Y ++ [a]) = rawC t O (rawOf t O Y) a := by unfold rawOf; rw [List.foldl_append]; rfl
    obtain ⟨A, h1, h2, h3, h4, h5⟩ : ∃ A, msOf (Y ++ [a]) = A ++ [a.m] ∧ openC (rawOf t O Y) a = A.map (clOf t O Y) ++ [⟨a.m, epOf (Y ++ [a]) a.m, stOf O Y a.m, scOf t Y a.m, chOf O Y a.m⟩] ∧ (∀ m ∈ A, m < a.m) ∧ A.Pairwise (· < ·) ∧ ∀ m ∈ A, ∃ b ∈ Y, b.m = m := by
      rcases nil_or_snoc (msOf Y) with h | ⟨B, l, h⟩
      · have hY : ∀ b ∈ Y, b.m ≠ a.m := fun b hb _ => by
          have := (i3 b.m).2 ⟨b, hb, rfl⟩
          rw [h] at this; simp at this
        refine ⟨[], by rw [hmm, h]; rfl, ?_, by simp, List.Pairwise.nil, by simp⟩
        rw [i1, h, epOf_new hY, (stOf_new hY).1, (stOf_new hY).2]
        unfold scOf
        rw [scOf_new hY]
        rfl
      · have hl : l ∈ msOf Y := by rw [h]; simp
        obtain ⟨b, hb, hbl⟩ := (i3 l).1 hl
        have hBl : ∀ m ∈ B, m < l := fun m hm => by
          rw [h] at i2
          exact (List.pairwise_append.1 i2).2.2 m hm l (by simp)
        have hB : B.Pairwise (· < ·) := by rw [h] at i2; exact (List.pairwise_append.1 i2).1
        have hBY : ∀ m ∈ B, ∃ b ∈ Y, b.m = m := fun m hm => (i3 m).1 (by rw [h]; simp [hm])
        by_cases e : l = a.m
        · subst e
          refine ⟨B, by rw [hmm, h]; simp [msA], ?_, hBl, hB, hBY⟩
          rw [i1, h, List.map_append, List.map_cons, List.map_nil, openC_snoc, if_pos (show (clOf t O Y a.m).m = a.m from rfl), epOf_snoc ⟨b, hb, hbl⟩]
          rfl
        · have hla : l < a.m := by have := hle b hb; omega
          have hY : ∀ b ∈ Y, b.m ≠ a.m := fun c hc hca => by
            have := (i3 c.m).2 ⟨c, hc, rfl⟩
            rw [h] at this
            rcases List.mem_append.1 this with h6 | h6
            · have := hBl _ h6; omega
            · simp at h6; omega
          refine ⟨B ++ [l], by rw [hmm, h]; simp [msA, e], ?_, fun m hm => ?_, ?_, fun m hm => ?_⟩
          · rw [i1, h, List.map_append, List.map_cons, List.map_nil, openC_snoc, if_neg (show ¬ (clOf t O Y l).m = a.m from e), epOf_new hY, (stOf_new hY).1, (stOf_new hY).2]
            unfold scOf
            rw [scOf_new hY]
          · rcases List.mem_append.1 hm with h6 | h6
            · have := hBl _ h6; omega
            · simp at h6; omega
          · rw [← h]; exact i2
          · exact (i3 m).1 (by rw [h]; exact hm)
    refine ⟨?_, ?_, fun m => ?_⟩
    · rw [hrr, h1, List.map_append, List.map_cons, List.map_nil]
      have hA : A.map (clOf t O (Y ++ [a])) = A.map (clOf t O Y) := List.map_congr_left (fun m hm => clOf_snoc (by have := h3 m hm; omega) (h5 m hm))
      rw [hA]
      unfold rawC
      rw [h2]
      have e3 : scOf t (Y ++ [a]) a.m = a.ins.foldl (scS t a.m) (scOf t Y a.m) := by unfold scOf; rw [List.foldl_append]; simp [scA]
      unfold needC clOf
      cases hg : MapS.get (a.ow, a.m, a.n) O with
      | some o =>
        have e1 : stOf O (Y ++ [a]) a.m = stOf O Y a.m ++ [(a.ow, a.n, o)] := by unfold stOf; rw [List.filterMap_append]; simp [stA, hg]
        have e2 : chOf O (Y ++ [a]) a.m = chOf O Y a.m := by unfold chOf; rw [List.filterMap_append]; simp [chA, hg]
        simp only
        rw [updL_snoc, sc_fold_snoc, e1, e2, e3]
        rfl
      | none =>
        have e1 : stOf O (Y ++ [a]) a.m = stOf O Y a.m := by unfold stOf; rw [List.filterMap_append]; simp [stA, hg]
        have e2 : chOf O (Y ++ [a]) a.m = chOf O Y a.m ++ [(a.ow, a.n, 0)] := by unfold chOf; rw [List.filterMap_append]; simp [chA, hg]
        simp only
        rw [updL_snoc, sc_fold_snoc, e1, e2, e3]
        rfl
    · rw [h1, List.pairwise_append]
      exact ⟨h4, by simp, fun m hm k hk => by simp at hk; subst hk; exact h3 m hm⟩
    · rw [h1, List.mem_append]
      constructor
      · rintro (h6 | h6)
        · obtain ⟨b, hb, e⟩ := h5 m h6
          exact ⟨b, by simp [hb], e⟩
        · simp at h6; exact ⟨a, by simp, h6.symm⟩
      · rintro ⟨b, hb, e⟩
        rcases List.mem_append.1 hb with hb | hb
        · have := (i3 m).2 ⟨b, hb, e⟩
          have hb1 : m ∈ msA (msOf Y) a := by unfold msA; split <;> simp [this]
          rw [← hmm, h1] at hb1
          exact List.mem_append.1 hb1
        · simp at hb; subst hb; exact .inr (by simp [e])
/-- Keys that say their elements. -/
def KeyF (L : List T3) : Prop := ∀ x ∈ L, ∀ y ∈ L, x.1 = y.1 → x.2.1 = y.2.1 → x = y
theorem sortedT_uniq : ∀ {Y Z : List T3}, Y.Perm Z → Y.Pairwise (fun x y => ¬ tlt y x) → Z.Pairwise (fun x y => ¬ tlt y x) → KeyF Y → Y = Z
  | [], Z, hp, _, _, _ => by simpa using hp.symm
  | y :: Y, [], hp, _, _, _ => by simp at hp
  | y :: Y, z :: Z, hp, h1, h2, hk => by
    have e : y = z := by
      obtain ⟨a1, _⟩ := List.pairwise_cons.1 h1
      obtain ⟨b1, _⟩ := List.pairwise_cons.1 h2
      have hy : y ∈ z :: Z := hp.mem_iff.1 (by simp)
      have hz : z ∈ y :: Y := hp.mem_iff.2 (by simp)
      rcases List.mem_cons.1 hy with e | hy
      · exact e
      · rcases List.mem_cons.1 hz with e | hz2
        · exact e.symm
        · have c1 := a1 z hz2
          have c2 := b1 y hy
          unfold tlt at c1 c2
          exact hk y (by simp) z hz (by omega) (by omega)
    subst e
    rw [sortedT_uniq (List.perm_cons _ |>.1 hp) (List.pairwise_cons.1 h1).2 (List.pairwise_cons.1 h2).2 (fun a ha b hb => hk a (by simp [ha]) b (by simp [hb]))]
theorem addN_mem (n : T3) (l : List T3) (e : T3) : e ∈ addN n l ↔ e ∈ l ∨ e = n := by
  unfold addN
  split
  · rename_i h
    constructor
    · exact .inl
    · rintro (h1 | rfl)
      · exact h1
      · exact h
  · simp
theorem scs_mem (t : Tr) (m : Int) (e : T3) : ∀ (l : List T3) (acc : List T3), e ∈ l.foldl (scS t m) acc ↔ e ∈ acc ∨ ∃ x ∈ l, e = scN t m x
  | [], acc => by simp
  | x :: r, acc => by
    rw [List.foldl_cons, scs_mem t m e r]
    unfold scS
    rw [addN_mem]
    simp [or_assoc]
theorem scOf_mem (t : Tr) (Y : List Ans) (m : Int) (e : T3) : e ∈ scOf t Y m ↔ ∃ a ∈ Y, a.m = m ∧ ∃ x ∈ a.ins, e = scN t m x := by
  induction Y using snoc_ind with
  | h0 => simp [scOf]
  | hs Y a ih =>
    have : scOf t (Y ++ [a]) m = scA t m (scOf t Y m) a := by unfold scOf; rw [List.foldl_append]; rfl
    rw [this]
    unfold scA
    split
    · rename_i hm
      rw [scs_mem, ih]
      constructor
      · rintro (⟨b, hb, h⟩ | h)
        · exact ⟨b, by simp [hb], h⟩
        · exact ⟨a, by simp, hm, h⟩
      · rintro ⟨b, hb, h⟩
        rcases List.mem_append.1 hb with hb | hb
        · exact .inl ⟨b, hb, h⟩
        · simp at hb; subst hb; exact .inr h.2
    · rename_i hm
      rw [ih]
      constructor
      · rintro ⟨b, hb, h⟩
        exact ⟨b, by simp [hb], h⟩
      · rintro ⟨b, hb, h⟩
        rcases List.mem_append.1 hb with hb | hb
        · exact ⟨b, hb, h⟩
        · simp at hb; subst hb; exact absurd h.1 hm
theorem stOf_mem (O : List (Qn × Int)) (Y : List Ans) (m : Int) (e : T3) : e ∈ stOf O Y m ↔ ∃ a ∈ Y, a.m = m ∧ ∃ o, MapS.get (a.ow, m, a.n) O = some o ∧ e = (a.ow, a.n, o) := by
  unfold stOf
  rw [List.mem_filterMap]
  constructor
  · rintro ⟨a, ha, h⟩
    unfold stA at h
    split at h
    · rename_i hm
      obtain ⟨o, h1, h2⟩ := Option.map_eq_some_iff.1 h
      rw [hm] at h1
      exact ⟨a, ha, hm, o, h1, h2.symm⟩
    · cases h
  · rintro ⟨a, ha, hm, o, h1, rfl⟩
    refine ⟨a, ha, ?_⟩
    unfold stA
    rw [if_pos hm, hm, h1]; rfl
theorem chOf_mem (O : List (Qn × Int)) (Y : List Ans) (m : Int) (e : T3) : e ∈ chOf O Y m ↔ ∃ a ∈ Y, a.m = m ∧ MapS.get (a.ow, m, a.n) O = none ∧ e = (a.ow, a.n, 0) := by
  unfold chOf
  rw [List.mem_filterMap]
  constructor
  · rintro ⟨a, ha, h⟩
    unfold chA at h
    split at h
    · rename_i hm
      obtain ⟨h1, h2⟩ := hm
      rw [h1] at h2
      simp at h
      exact ⟨a, ha, h1, h2, h.symm⟩
    · cases h
  · rintro ⟨a, ha, hm, h1, rfl⟩
    refine ⟨a, ha, ?_⟩
    unfold chA
    rw [if_pos ⟨hm, by rw [hm]; exact h1⟩]
/-- Answers of one machine have different owners or numbers. -/
theorem ans_uniq {Y : List Ans} (hs : Y.Pairwise (fun x y => qlt x.q y.q)) {a b : Ans} (ha : a ∈ Y) (hb : b ∈ Y) (h : a.q = b.q) : a = b := by
  induction hs with
  | nil => simp at ha
  | @cons y Y h1 _ ih =>
    rcases List.mem_cons.1 ha with ea | ha2
    · rcases List.mem_cons.1 hb with eb | hb2
      · rw [ea, eb]
      · have := h1 b hb2; rw [← ea, h] at this; exact absurd this (qlt_irrefl _)
    · rcases List.mem_cons.1 hb with eb | hb2
      · have := h1 a ha2; rw [← eb, h] at this; exact absurd this (qlt_irrefl _)
      · exact ih ha2 hb2
theorem clOf_key (t : Tr) (O : List (Qn × Int)) (Y : List Ans) (hs : Y.Pairwise (fun x y => qlt x.q y.q)) (m : Int) : ∀ j, j < 3 → KeyF ((clOf t O Y m).at j) := by
  intro j hj
  match j, hj with
  | 0, _ =>
    intro x hx y hy h1 h2
    obtain ⟨a, ha, hm, o, g1, rfl⟩ := (stOf_mem _ _ _ _).1 hx
    obtain ⟨b, hb, hm2, o2, g2, rfl⟩ := (stOf_mem _ _ _ _).1 hy
    have : a = b := ans_uniq hs ha hb (by simp only [Ans.q]; rw [hm, hm2, show a.ow = b.ow from h1, show a.n = b.n from h2])
    subst this
    rw [g1] at g2; cases g2; rfl
  | 1, _ =>
    intro x hx y hy h1 h2
    obtain ⟨a, ha, hm, u, hu, rfl⟩ := (scOf_mem _ _ _ _).1 hx
    obtain ⟨b, hb, hm2, v, hv, rfl⟩ := (scOf_mem _ _ _ _).1 hy
    simp only [scN] at h1 h2 ⊢
    rw [h1, h2]
  | 2, _ =>
    intro x hx y hy h1 h2
    obtain ⟨a, ha, hm, g1, rfl⟩ := (chOf_mem _ _ _ _).1 hx
    obtain ⟨b, hb, hm2, g2, rfl⟩ := (chOf_mem _ _ _ _).1 hy
    simp only at h1 h2 ⊢
    rw [h1, h2]
/-- The claims, each machine's own. -/
structure ClmAt (t : Tr) (Y : List Ans) (p : PCl) (mm : Int) : Prop where
  m : p.m = mm
  ep : p.ep = epOf Y mm
  at' : ∀ j, j < 3 → (p.at j).Perm ((clOf t (outsOf Y) Y mm).at j) ∧ (p.at j).Pairwise (fun x y => ¬ tlt y x)
theorem ClaimsP.at' {t : Tr} {Y : List Ans} {P : List PCl} (hs : Y.Pairwise (fun x y => qlt x.q y.q)) (h : ClaimsP t Y P) :
    P.length = (msOf Y).length ∧ ∀ (k : Nat) (h1 : k < P.length) (h2 : k < (msOf Y).length), ClmAt t Y P[k] (msOf Y)[k] := by
  obtain ⟨e1, _, _⟩ := rawOf_eq t (outsOf Y) Y hs
  unfold ClaimsP at h
  rw [e1] at h
  obtain ⟨h1, h2⟩ := h
  rw [List.length_map] at h1
  refine ⟨h1, fun k k1 k2 => ?_⟩
  obtain ⟨a1, a2, a3⟩ := h2 k k1 (by rw [List.length_map]; exact k2)
  simp only [List.getElem_map] at a1 a2 a3
  exact ⟨a1, a2, a3⟩
theorem pcl_ext {p q : PCl} (h1 : p.m = q.m) (h2 : p.ep = q.ep) (h3 : ∀ j, j < 3 → p.at j = q.at j) : p = q := by
  obtain ⟨a, b, c, d, e⟩ := p
  obtain ⟨a', b', c', d', e'⟩ := q
  have e0 := h3 0 (by omega)
  have e1 := h3 1 (by omega)
  have e2 := h3 2 (by omega)
  simp only [PCl.at] at h1 h2 e0 e1 e2
  subst h1 h2 e0 e1 e2
  rfl
theorem KeyF.perm {L M : List T3} (h : KeyF L) (hp : M.Perm L) : KeyF M := fun x hx y hy => h x (hp.mem_iff.1 hx) y (hp.mem_iff.1 hy)
theorem ClmAt.uniq {t : Tr} {Y : List Ans} {p q : PCl} {m : Int} (hs : Y.Pairwise (fun x y => qlt x.q y.q)) (h : ClmAt t Y p m) (g : ClmAt t Y q m) : p = q :=
  pcl_ext (h.m.trans g.m.symm) (h.ep.trans g.ep.symm) (fun j hj => by
    obtain ⟨a1, a2⟩ := h.at' j hj
    obtain ⟨b1, b2⟩ := g.at' j hj
    exact sortedT_uniq (a1.trans b1.symm) a2 b2 ((clOf_key t _ Y hs m j hj).perm a1))
theorem ClaimsP.uniq {t : Tr} {Y : List Ans} {P Q : List PCl} (hs : Y.Pairwise (fun x y => qlt x.q y.q)) (h : ClaimsP t Y P) (g : ClaimsP t Y Q) : P = Q := by
  obtain ⟨h1, h2⟩ := h.at' hs
  obtain ⟨g1, g2⟩ := g.at' hs
  exact List.ext_getElem (h1.trans g1.symm) (fun k k1 k2 => (h2 k k1 (by omega)).uniq hs (g2 k k2 (by omega)))
end Go.Proofs.YtpobepninifenaaGreat

namespace Go.Proofs.YtpobepninifenaaGreat
open Go.RowKit

/-- A need is put in its place, if there is none with its key. -/
def putN (n : T3) : List T3 → List T3
  | [] => [n]
  | x :: r => if tlt x n then x :: putN n r else if x.1 = n.1 ∧ x.2.1 = n.2.1 then x :: r else n :: x :: r
theorem putN_at (n : T3) : ∀ (l : List T3) (i : Nat), i ≤ l.length → (∀ j (hj : j < l.length), j < i → tlt l[j] n) → (∀ (hi : i < l.length), ¬ tlt l[i] n) →
    putN n l = if (∃ hi : i < l.length, l[i].1 = n.1 ∧ l[i].2.1 = n.2.1) then l else l.take i ++ n :: l.drop i
  | [], i, hi, _, _ => by
    have : i = 0 := by simpa using hi
    subst this
    simp [putN]
  | x :: r, 0, _, _, h2 => by
    have h0 := h2 (by simp)
    simp only [List.getElem_cons_zero] at h0
    simp only [putN, if_neg h0]
    simp
  | x :: r, i + 1, hi, h1, h2 => by
    have h0 := h1 0 (by simp) (by omega)
    simp only [List.getElem_cons_zero] at h0
    have ih := putN_at n r i (by simpa using hi) (fun j hj hji => by have := h1 (j + 1) (by simpa using hj) (by omega); simpa using this) (fun hi => by have := h2 (by simpa using hi); simpa using this)
    simp only [putN, if_pos h0, ih]
    by_cases e : ∃ hi : i < r.length, r[i].1 = n.1 ∧ r[i].2.1 = n.2.1
    · rw [if_pos e, if_pos]
      obtain ⟨e1, e2⟩ := e
      exact ⟨by simpa using e1, by simpa using e2⟩
    · rw [if_neg e, if_neg]
      · simp
      · rintro ⟨e1, e2⟩
        exact e ⟨by simpa using e1, by simpa using e2⟩
theorem putN_mem {n e : T3} : ∀ {l : List T3}, e ∈ putN n l → e ∈ l ∨ e = n
  | [], h => by simp [putN] at h; exact .inr h
  | x :: r, h => by
    unfold putN at h
    split at h
    · rcases List.mem_cons.1 h with rfl | h
      · exact .inl (by simp)
      · rcases putN_mem h with h | h
        · exact .inl (by simp [h])
        · exact .inr h
    · split at h
      · exact .inl h
      · rcases List.mem_cons.1 h with rfl | h
        · exact .inr rfl
        · exact .inl h
theorem tlt_trans {x y z : T3} : tlt x y → tlt y z → tlt x z := by unfold tlt; omega
theorem putN_sorted {n : T3} : ∀ {l : List T3}, l.Pairwise tlt → (putN n l).Pairwise tlt
  | [], _ => by simp [putN]
  | x :: r, h => by
    obtain ⟨h1, h2⟩ := List.pairwise_cons.1 h
    unfold putN
    split
    · rename_i hx
      refine List.pairwise_cons.2 ⟨fun e he => ?_, putN_sorted h2⟩
      rcases putN_mem he with he | rfl
      · exact h1 e he
      · exact hx
    · rename_i hx
      split
      · exact h
      · rename_i hk
        have hn : tlt n x := by unfold tlt at hx ⊢; omega
        refine List.pairwise_cons.2 ⟨fun e he => ?_, h⟩
        rcases List.mem_cons.1 he with rfl | he
        · exact hn
        · exact tlt_trans hn (h1 e he)
theorem putN_new {n : T3} : ∀ {l : List T3}, (∀ x ∈ l, ¬ (x.1 = n.1 ∧ x.2.1 = n.2.1)) → (putN n l).Perm (n :: l)
  | [], _ => by simp [putN]
  | x :: r, h => by
    unfold putN
    split
    · exact ((putN_new (fun y hy => h y (by simp [hy]))).cons x).trans (List.Perm.swap _ _ _)
    · rw [if_neg (h x (by simp))]
theorem putN_old {n : T3} : ∀ {l : List T3}, l.Pairwise tlt → (∃ x ∈ l, x.1 = n.1 ∧ x.2.1 = n.2.1) → putN n l = l
  | [], _, h => by simp at h
  | x :: r, hs, h => by
    obtain ⟨h1, h2⟩ := List.pairwise_cons.1 hs
    unfold putN
    obtain ⟨y, hy, hk⟩ := h
    rcases List.mem_cons.1 hy with rfl | hy
    · rw [if_neg (by unfold tlt; omega), if_pos hk]
    · have hxy := h1 y hy
      rw [if_pos (by unfold tlt at *; omega), putN_old h2 ⟨y, hy, hk⟩]
/-- An answer is put in its place. -/
def insA (a : Ans) : List Ans → List Ans
  | [] => [a]
  | x :: r => if qlt x.q a.q then x :: insA a r else a :: x :: r
theorem insA_at (a : Ans) : ∀ (l : List Ans) (i : Nat), i ≤ l.length → (∀ j (hj : j < l.length), j < i → qlt l[j].q a.q) → (∀ (hi : i < l.length), ¬ qlt l[i].q a.q) → insA a l = l.take i ++ a :: l.drop i
  | [], i, hi, _, _ => by
    have : i = 0 := by simpa using hi
    subst this
    simp [insA]
  | x :: r, 0, _, _, h2 => by
    have h0 := h2 (by simp)
    simp only [List.getElem_cons_zero] at h0
    simp only [insA, if_neg h0]
    simp
  | x :: r, i + 1, hi, h1, h2 => by
    have h0 := h1 0 (by simp) (by omega)
    simp only [List.getElem_cons_zero] at h0
    have ih := insA_at a r i (by simpa using hi) (fun j hj hji => by have := h1 (j + 1) (by simpa using hj) (by omega); simpa using this) (fun hi => by have := h2 (by simpa using hi); simpa using this)
    simp only [insA, if_pos h0, ih]
    simp
theorem insA_perm (a : Ans) : ∀ l : List Ans, (insA a l).Perm (a :: l)
  | [] => by simp [insA]
  | x :: r => by
    unfold insA
    split
    · exact ((insA_perm a r).cons x).trans (List.Perm.swap _ _ _)
    · exact List.Perm.refl _
theorem insA_sorted {a : Ans} : ∀ {l : List Ans}, l.Pairwise (fun x y => qlt x.q y.q) → (∀ x ∈ l, x.q ≠ a.q) → (insA a l).Pairwise (fun x y => qlt x.q y.q)
  | [], _, _ => by simp [insA]
  | x :: r, h, hn => by
    obtain ⟨h1, h2⟩ := List.pairwise_cons.1 h
    unfold insA
    split
    · rename_i hx
      refine List.pairwise_cons.2 ⟨fun e he => ?_, insA_sorted h2 (fun y hy => hn y (by simp [hy]))⟩
      rcases List.mem_cons.1 ((insA_perm a r).mem_iff.1 he) with rfl | he
      · exact hx
      · exact h1 e he
    · rename_i hx
      have hax : qlt a.q x.q := by
        by_cases e : qlt a.q x.q
        · exact e
        · exact absurd (qlt_total hx e) (hn x (by simp))
      refine List.pairwise_cons.2 ⟨fun e he => ?_, h⟩
      rcases List.mem_cons.1 he with rfl | he
      · exact hax
      · exact qlt_trans hax (h1 e he)
/-- The answers of the questions, in the order of the questions, put in their places. -/
def insO (l : List Ans) (p : Qn × Option Ans) : List Ans := match p.2 with
  | some a => insA a l
  | none => l
def srtOf (qs : Qs) : List Ans := qs.foldl insO []
theorem rec_vals : ∀ qs : Qs, (recOf qs).map (·.2) = qs.filterMap (·.2)
  | [] => rfl
  | (x, none) :: r => by rw [recOf_none, rec_vals r]; rfl
  | (x, some a) :: r => by rw [recOf_some, List.map_cons, rec_vals r]; rfl
theorem srt_fold : ∀ (qs : Qs) (l : List Ans), (qs.foldl insO l).Perm (l ++ qs.filterMap (·.2))
  | [], l => by simp
  | (x, none) :: r, l => by
    rw [List.foldl_cons]
    exact (srt_fold r l).trans (by simp)
  | (x, some a) :: r, l => by
    rw [List.foldl_cons]
    refine (srt_fold r (insA a l)).trans ?_
    rw [show List.filterMap (fun x : Qn × Option Ans => x.2) ((x, some a) :: r) = a :: List.filterMap (fun x => x.2) r from rfl]
    exact ((insA_perm a l).append_right _).trans List.perm_middle.symm
theorem srt_sorted : ∀ (qs : Qs) (l : List Ans), l.Pairwise (fun x y => qlt x.q y.q) → ((l ++ qs.filterMap (·.2)).map Ans.q).Nodup → (qs.foldl insO l).Pairwise (fun x y => qlt x.q y.q)
  | [], l, h, _ => h
  | (x, none) :: r, l, h, hn => by
    rw [List.foldl_cons]
    exact srt_sorted r l h (by simpa using hn)
  | (x, some a) :: r, l, h, hn => by
    rw [List.foldl_cons]
    rw [show List.filterMap (fun x : Qn × Option Ans => x.2) ((x, some a) :: r) = a :: List.filterMap (fun x => x.2) r from rfl] at hn
    refine srt_sorted r (insA a l) (insA_sorted h (fun y hy e => ?_)) ?_
    · rw [List.map_append, List.nodup_append] at hn
      exact hn.2.2 y.q (List.mem_map.2 ⟨y, hy, rfl⟩) a.q (by simp) e
    · exact (((insA_perm a l).append_right _).trans List.perm_middle.symm |>.map Ans.q).nodup_iff.2 hn
theorem srtOf_sorted {t : Tr} (h : t.Inv) : SortedA t (srtOf t.qs) := by
  have hv : t.rec'.map (·.2) = t.qs.filterMap (·.2) := rec_vals t.qs
  refine ⟨?_, srt_sorted _ _ List.Pairwise.nil ?_⟩
  · rw [hv]
    have := srt_fold t.qs []
    rw [List.nil_append] at this
    exact this
  · rw [List.nil_append, ← hv, List.map_map]
    have e : t.rec'.map (Ans.q ∘ (·.2)) = t.rec'.map (·.1) := List.map_congr_left (fun p hp => h.rq p hp)
    rw [e]
    exact recOf_nd h.nd
/-- One answer's needs, as the specification notes them. -/
def stR (O : List (Qn × Int)) (a : Ans) (l : List T3) : List T3 := match MapS.get (a.ow, a.m, a.n) O with
  | some o => putN (a.ow, a.n, o) l
  | none => l
def chR (O : List (Qn × Int)) (a : Ans) (l : List T3) : List T3 := match MapS.get (a.ow, a.m, a.n) O with
  | some _ => l
  | none => putN (a.ow, a.n, 0) l
def scR (t : Tr) (m : Int) (l : List T3) (x : T3) : List T3 := putN (scN t m x) l
def refA (t : Tr) (O : List (Qn × Int)) (c : PCl) (a : Ans) : PCl := ⟨c.m, c.ep, stR O a c.st, a.ins.foldl (scR t a.m) c.sc, chR O a c.ch⟩
def refC (t : Tr) (O : List (Qn × Int)) (P : List PCl) (a : Ans) : List PCl := let Q := openC P a; match Q[Q.length - 1]? with
  | some c => Q.take (Q.length - 1) ++ [refA t O c a]
  | none => Q
def refOf (t : Tr) (O : List (Qn × Int)) (Y : List Ans) : List PCl := Y.foldl (refC t O) []
theorem refC_at {t : Tr} {O : List (Qn × Int)} {P R : List PCl} {a : Ans} {c : PCl} (h : openC P a = R ++ [c]) : refC t O P a = R ++ [refA t O c a] := by
  unfold refC
  rw [h]
  simp
/-- Both ways of noting, side by side. -/
structure RC1 (t : Tr) (Z : List Ans) (p p' : PCl) : Prop where
  m : p'.m = p.m
  ep : p'.ep = p.ep
  perm : ∀ j, j < 3 → (p'.at j).Perm (p.at j)
  srt : ∀ j, j < 3 → (p'.at j).Pairwise tlt
  lu : ∀ e ∈ p.sc, e.2.2 = luOf t (e.1, p.m, e.2.1)
  st : ∀ e ∈ p.st, ∃ b ∈ Z, b.m = p.m ∧ b.ow = e.1 ∧ b.n = e.2.1
  ch : ∀ e ∈ p.ch, ∃ b ∈ Z, b.m = p.m ∧ b.ow = e.1 ∧ b.n = e.2.1
structure RC (t : Tr) (Z : List Ans) (P P' : List PCl) : Prop where
  len : P'.length = P.length
  at' : ∀ k (h1 : k < P'.length) (h2 : k < P.length), RC1 t Z P[k] P'[k]
theorem RC1.mono {t : Tr} {Z Z' : List Ans} {p p' : PCl} (h : RC1 t Z p p') (hz : ∀ b ∈ Z, b ∈ Z') : RC1 t Z' p p' :=
  ⟨h.m, h.ep, h.perm, h.srt, h.lu, fun e he => by obtain ⟨b, hb, r⟩ := h.st e he; exact ⟨b, hz b hb, r⟩, fun e he => by obtain ⟨b, hb, r⟩ := h.ch e he; exact ⟨b, hz b hb, r⟩⟩
theorem RC.mono {t : Tr} {Z Z' : List Ans} {P P' : List PCl} (h : RC t Z P P') (hz : ∀ b ∈ Z, b ∈ Z') : RC t Z' P P' := ⟨h.len, fun k h1 h2 => (h.at' k h1 h2).mono hz⟩
theorem RC.snoc {t : Tr} {Z : List Ans} {P P' : List PCl} {c c' : PCl} (h : RC t Z P P') (hc : RC1 t Z c c') : RC t Z (P ++ [c]) (P' ++ [c']) := by
  refine ⟨by simp [h.len], fun k h1 h2 => ?_⟩
  have hl := h.len
  by_cases e : k < P.length
  · rw [List.getElem_append_left e, List.getElem_append_left (by omega)]
    exact h.at' k (by omega) e
  · have h3 : k = P.length := by simp at h2; omega
    subst h3
    rw [List.getElem_append_right (by omega), List.getElem_append_right (by omega)]
    simpa [hl] using hc
theorem RC.split {t : Tr} {Z : List Ans} {P P' : List PCl} {c c' : PCl} (h : RC t Z (P ++ [c]) (P' ++ [c'])) : RC t Z P P' ∧ RC1 t Z c c' := by
  have hl : P'.length = P.length := by have := h.len; simpa using this
  refine ⟨⟨hl, fun k h1 h2 => ?_⟩, ?_⟩
  · have := h.at' k (by simp; omega) (by simp; omega)
    rw [List.getElem_append_left h2, List.getElem_append_left h1] at this
    exact this
  · have := h.at' P.length (by simp; omega) (by simp)
    rw [List.getElem_append_right (by omega), List.getElem_append_right (by omega)] at this
    simpa [hl] using this
theorem RC.open {t : Tr} {Z : List Ans} {P P' : List PCl} (h : RC t Z P P') (a : Ans) : ∃ R R' c c', openC P a = R ++ [c] ∧ openC P' a = R' ++ [c'] ∧ RC t Z R R' ∧ RC1 t Z c c' ∧ c.m = a.m := by
  have hnew : RC1 t Z ⟨a.m, a.ep, [], [], []⟩ ⟨a.m, a.ep, [], [], []⟩ := ⟨rfl, rfl, fun j hj => List.Perm.refl _, fun j hj => by unfold PCl.at; split <;> exact List.Pairwise.nil, by simp, by simp, by simp⟩
  rcases nil_or_snoc P with rfl | ⟨R, c, rfl⟩
  · have : P' = [] := List.length_eq_zero_iff.1 (by have := h.len; simpa using this)
    subst this
    exact ⟨[], [], _, _, rfl, rfl, h, hnew, rfl⟩
  · rcases nil_or_snoc P' with rfl | ⟨R', c', rfl⟩
    · have := h.len; simp at this
    · obtain ⟨hR, hc⟩ := h.split
      rw [openC_snoc, openC_snoc, hc.m]
      split
      · rename_i e
        exact ⟨R, R', c, c', rfl, rfl, hR, hc, e⟩
      · exact ⟨R ++ [c], R' ++ [c'], _, _, rfl, rfl, h, hnew, rfl⟩
theorem sc_both (t : Tr) (m : Int) : ∀ (l : List T3) (x y : List T3), y.Perm x → y.Pairwise tlt → (∀ e ∈ x, e.2.2 = luOf t (e.1, m, e.2.1)) →
    (l.foldl (scR t m) y).Perm (l.foldl (scS t m) x) ∧ (l.foldl (scR t m) y).Pairwise tlt ∧ ∀ e ∈ l.foldl (scS t m) x, e.2.2 = luOf t (e.1, m, e.2.1)
  | [], x, y, h1, h2, h3 => ⟨h1, h2, h3⟩
  | u :: r, x, y, h1, h2, h3 => by
    rw [List.foldl_cons, List.foldl_cons]
    have hn : (scN t m u).2.2 = luOf t ((scN t m u).1, m, (scN t m u).2.1) := rfl
    refine sc_both t m r _ _ ?_ (putN_sorted h2) (fun e he => ?_)
    · unfold scR scS addN
      by_cases hm : scN t m u ∈ x
      · rw [if_pos hm, putN_old h2 ⟨_, h1.mem_iff.2 hm, rfl, rfl⟩]
        exact h1
      · rw [if_neg hm]
        refine (putN_new (fun e he hk => ?_)).trans ((h1.cons _).trans (List.perm_append_singleton _ _).symm)
        have hex := h1.mem_iff.1 he
        have := h3 e hex
        have e2 : e = scN t m u := by
          obtain ⟨e0, e1, e2⟩ := e
          obtain ⟨k1, k2⟩ := hk
          simp only at this k1 k2
          rw [k1, k2] at this
          rw [Prod.mk.injEq, Prod.mk.injEq] 
          exact ⟨k1, k2, this⟩
        rw [e2] at hex
        exact hm hex
    · unfold scS at he
      rcases (addN_mem _ _ _).1 he with he | rfl
      · exact h3 e he
      · exact hn
theorem RC1.step {t : Tr} {O : List (Qn × Int)} {Z : List Ans} {c c' : PCl} {a : Ans} (h : RC1 t Z c c') (hm : c.m = a.m) (hZ : ∀ b ∈ Z, b.q ≠ a.q) {d : PCl}
    (hd : d = (match MapS.get (a.ow, a.m, a.n) O with
      | some o => c.upd 0 (c.st ++ [(a.ow, a.n, o)])
      | none => c.upd 2 (c.ch ++ [(a.ow, a.n, 0)]) : PCl).upd 1 (a.ins.foldl (scS t a.m) c.sc)) : RC1 t (Z ++ [a]) d (refA t O c' a) := by
  obtain ⟨s1, s2, s3⟩ := sc_both t a.m a.ins c.sc c'.sc (h.perm 1 (by omega)) (h.srt 1 (by omega)) (by rw [← hm]; exact h.lu)
  have hst : ∀ {l l' : List T3} {n : T3}, l'.Perm l → l'.Pairwise tlt → (∀ e ∈ l, ∃ b ∈ Z, b.m = c.m ∧ b.ow = e.1 ∧ b.n = e.2.1) → n.1 = a.ow → n.2.1 = a.n → (putN n l').Perm (l ++ [n]) ∧ (putN n l').Pairwise tlt := by
    intro l l' n hp hs hb h1 h2
    refine ⟨(putN_new (fun e he hk => ?_)).trans ((hp.cons _).trans (List.perm_append_singleton _ _).symm), putN_sorted hs⟩
    obtain ⟨b, hbz, b1, b2, b3⟩ := hb e (hp.mem_iff.1 he)
    exact hZ b hbz (by unfold Ans.q; rw [b1, hm, b2, b3, hk.1, hk.2, h1, h2])
  cases hg : MapS.get (a.ow, a.m, a.n) O with
  | some o =>
    rw [hg] at hd
    obtain ⟨q1, q2⟩ := hst (n := (a.ow, a.n, o)) (h.perm 0 (by omega)) (h.srt 0 (by omega)) h.st rfl rfl
    subst hd
    refine ⟨h.m, h.ep, fun j hj => ?_, fun j hj => ?_, ?_, fun e he => ?_, fun e he => ?_⟩
    · match j, hj with
      | 0, _ => simp only [refA, stR, hg]; exact q1
      | 1, _ => exact s1
      | 2, _ => simp only [refA, chR, hg]; exact h.perm 2 (by omega)
    · match j, hj with
      | 0, _ => simp only [refA, stR, hg]; exact q2
      | 1, _ => exact s2
      | 2, _ => simp only [refA, chR, hg]; exact h.srt 2 (by omega)
    · intro e he
      have := s3 e he
      rw [← hm] at this; exact this
    · have he' : e ∈ c.st ++ [(a.ow, a.n, o)] := he
      rcases List.mem_append.1 he' with he | he
      · obtain ⟨b, hb, r⟩ := h.st e he; exact ⟨b, by simp [hb], r⟩
      · simp at he; subst he; exact ⟨a, by simp, hm.symm, rfl, rfl⟩
    · obtain ⟨b, hb, r⟩ := h.ch e he; exact ⟨b, by simp [hb], r⟩
  | none =>
    rw [hg] at hd
    obtain ⟨q1, q2⟩ := hst (n := (a.ow, a.n, 0)) (h.perm 2 (by omega)) (h.srt 2 (by omega)) h.ch rfl rfl
    subst hd
    refine ⟨h.m, h.ep, fun j hj => ?_, fun j hj => ?_, ?_, fun e he => ?_, fun e he => ?_⟩
    · match j, hj with
      | 0, _ => simp only [refA, stR, hg]; exact h.perm 0 (by omega)
      | 1, _ => exact s1
      | 2, _ => simp only [refA, chR, hg]; exact q1
    · match j, hj with
      | 0, _ => simp only [refA, stR, hg]; exact h.srt 0 (by omega)
      | 1, _ => exact s2
      | 2, _ => simp only [refA, chR, hg]; exact q2
    · intro e he
      have := s3 e he
      rw [← hm] at this; exact this
    · obtain ⟨b, hb, r⟩ := h.st e he; exact ⟨b, by simp [hb], r⟩
    · have he' : e ∈ c.ch ++ [(a.ow, a.n, 0)] := he
      rcases List.mem_append.1 he' with he | he
      · obtain ⟨b, hb, r⟩ := h.ch e he; exact ⟨b, by simp [hb], r⟩
      · simp at he; subst he; exact ⟨a, by simp, hm.symm, rfl, rfl⟩
theorem RC.step {t : Tr} {O : List (Qn × Int)} {Z : List Ans} {P P' : List PCl} {a : Ans} (h : RC t Z P P') (hZ : ∀ b ∈ Z, b.q ≠ a.q) : RC t (Z ++ [a]) (rawC t O P a) (refC t O P' a) := by
  obtain ⟨R, R', c, c', h1, h2, h3, h4, h5⟩ := h.open a
  rw [refC_at h2]
  have hr : rawC t O P a = R ++ [(match MapS.get (a.ow, a.m, a.n) O with
      | some o => c.upd 0 (c.st ++ [(a.ow, a.n, o)])
      | none => c.upd 2 (c.ch ++ [(a.ow, a.n, 0)]) : PCl).upd 1 (a.ins.foldl (scS t a.m) c.sc)] := by
    unfold rawC needC
    rw [h1]
    cases hg : MapS.get (a.ow, a.m, a.n) O with
    | some o => simp only; rw [updL_snoc, sc_fold_snoc]; rfl
    | none => simp only; rw [updL_snoc, sc_fold_snoc]; rfl
  rw [hr]
  exact (h3.mono (fun b hb => by simp [hb])).snoc (h4.step h5 hZ rfl)
theorem refOf_rc (t : Tr) (O : List (Qn × Int)) (Y : List Ans) : Y.Pairwise (fun x y => qlt x.q y.q) → RC t Y (rawOf t O Y) (refOf t O Y) := by
  induction Y using snoc_ind with
  | h0 => exact fun _ => ⟨rfl, fun k h1 => by simp [refOf] at h1⟩
  | hs Y a ih =>
    intro hs
    obtain ⟨h1, _, h2⟩ := List.pairwise_append.1 hs
    have e1 : rawOf t O (Y ++ [a]) = rawC t O (rawOf t O Y) a := by unfold rawOf; rw [List.foldl_append]; rfl
    have e2 : refOf t O (Y ++ [a]) = refC t O (refOf t O Y) a := by unfold refOf; rw [List.foldl_append]; rfl
    rw [e1, e2]
    exact (ih h1).step (fun b hb e => by have := h2 b hb a (by simp); rw [e] at this; exact qlt_irrefl _ this)
/-- The specification's claims are the claims. -/
theorem refOf_claims {t : Tr} {Y : List Ans} (h : Y.Pairwise (fun x y => qlt x.q y.q)) : ClaimsP t Y (refOf t (outsOf Y) Y) := by
  have hr := refOf_rc t (outsOf Y) Y h
  refine ⟨hr.len, fun k h1 h2 => ?_⟩
  have := hr.at' k h1 h2
  exact ⟨this.m, this.ep, fun j hj => ⟨this.perm j hj, (this.srt j hj).imp (fun h => by unfold tlt at *; omega)⟩⟩
/-- What a scan for a scion finds. -/
def outL (Y : List Ans) (k : Qn) : Option Int := (Y.findSome? (fun a => a.ins.findSome? (fun x => if a.m = k.1 ∧ x.1 = k.2.1 ∧ x.2.1 = k.2.2 then some x.2.2 else none)))
theorem out_fold_get (m : Int) (k : Qn) : ∀ (l : List T3) (acc : List (Qn × Int)), MapS.get k (l.foldl (outA m) acc) = (MapS.get k acc).or (l.findSome? (fun x => if m = k.1 ∧ x.1 = k.2.1 ∧ x.2.1 = k.2.2 then some x.2.2 else none))
  | [], acc => by simp
  | x :: r, acc => by
    rw [List.foldl_cons, out_fold_get m k r, List.findSome?_cons]
    obtain ⟨k0, k1, k2⟩ := k
    unfold outA
    by_cases e : m = k0 ∧ x.1 = k1 ∧ x.2.1 = k2
    · obtain ⟨rfl, rfl, rfl⟩ := e
      simp only [and_self, if_true]
      cases hg : MapS.get (m, x.1, x.2.1) acc with
      | some o => simp [hg]
      | none => simp [hg, MapS.get_append, MapS.get]
    · simp only [if_neg e]
      split
      · rfl
      · rw [MapS.get_append]
        have e' : ¬ ((m, x.1, x.2.1) : Qn) = (k0, k1, k2) := fun h => e (by simpa using h)
        simp [MapS.get, e']
theorem outsOf_get (Y : List Ans) (k : Qn) : MapS.get k (outsOf Y) = outL Y k := by
  induction Y using snoc_ind with
  | h0 => rfl
  | hs Y a ih =>
    have : outsOf (Y ++ [a]) = a.ins.foldl (outA a.m) (outsOf Y) := by unfold outsOf; rw [List.foldl_append]; rfl
    rw [this, out_fold_get, ih]
    unfold outL
    rw [List.findSome?_append]
    congr 1
    simp
/-- What a scan for an answer finds. -/
def luL (Y : List Ans) (q : Qn) : Int := ((Y.find? (fun a => decide (a.q = q))).map Ans.lu).getD 0
theorem luL_eq {t : Tr} (h : t.Inv) {Y : List Ans} (hY : SortedA t Y) (q : Qn) : luL Y q = luOf t q := by
  unfold luL luOf
  congr 1
  cases hf : Y.find? (fun a => decide (a.q = q)) with
  | some a =>
    have e1 : a.q = q := by simpa using List.find?_some hf
    obtain ⟨p, hp, e2⟩ := List.mem_map.1 (hY.1.mem_iff.1 (List.mem_of_find?_eq_some hf))
    have e3 := h.rq p hp
    obtain ⟨k, b⟩ := p
    simp only at e2 e3
    subst e2
    rw [e1] at e3
    subst e3
    rw [show MapS.get q t.rec' = some b from (MapS.get_iff (recOf_nd h.nd)).2 hp]
  | none =>
    have hn := List.find?_eq_none.1 hf
    cases hg : MapS.get q t.rec' with
    | none => rfl
    | some a =>
      have hp := (MapS.get_iff (recOf_nd h.nd)).1 hg
      have e3 := h.rq _ hp
      have := hn a (hY.1.mem_iff.2 (List.mem_map.2 ⟨_, hp, rfl⟩))
      simp only at e3
      simp [e3] at this
end Go.Proofs.YtpobepninifenaaGreat

namespace Go.Proofs.YtpobepninifenaaGreat
open Go.RowKit

set_option maxRecDepth 100000 in
set_option maxHeartbeats 2000000 in
theorem lessR_c (w : World) (x y : AnV) : Calls Tryz.prog 118 #[aV x, aV y] w fun e w' => e = .returned (.bool (decide (qlt x.q y.q))) ∧ Keeps [] w w' := by
  obtain ⟨x0, x1, x2, x3, x4, x5, x6, x7, x8, x9⟩ := x
  obtain ⟨y0, y1, y2, y3, y4, y5, y6, y7, y8, y9⟩ := y
  simp only [aV, AnV.v]
  have hkA : Keeps [] w ((w.alloc (.cells #[.int .i64 x0, .int .i64 x1, .int .u64 x2, .int .i64 x3, .bool x4, .bool x5, .int .i64 x6, .slice x7 x8 x9] tA)).alloc (.cells #[.int .i64 y0, .int .i64 y1, .int .u64 y2, .int .i64 y3, .bool y4, .bool y5, .int .i64 y6, .slice y7 y8 y9] tA)) := ((Keeps.refl _ _).alloc _).alloc _
  obtain ⟨r, hr⟩ : ∃ r, decide (qlt (AnV.q ⟨x0, x1, x2, x3, x4, x5, x6, x7, x8, x9⟩) (AnV.q ⟨y0, y1, y2, y3, y4, y5, y6, y7, y8, y9⟩)) = r := ⟨_, rfl⟩
  rw [hr]
  replace hkA := Lib.hid hkA
  by_cases a0 : x0 = y0
  · have b0 : (x0 != y0) = false := by simpa using a0
    by_cases a1 : x1 = y1
    · have b1 : (x1 != y1) = false := by simpa using a1
      have hd : decide ((x2 : Int) < (y2 : Int)) = r := by rw [← hr]; exact decide_eq_decide.2 (by unfold qlt AnV.q; simp only; omega)
      replace hr := Lib.hid hr
      replace a0 := Lib.hid a0
      replace a1 := Lib.hid a1
      go_enter Tryz.func118, Tryz.ntmps118
      go_wp2
      go_ret
      exact ⟨by first | (rw [← hd]; rfl) | (rw [← hd]; simp), hkA.out⟩
    · have b1 : (x1 != y1) = true := by simpa using a1
      have hd : decide (x1 < y1) = r := by rw [← hr]; exact decide_eq_decide.2 (by unfold qlt AnV.q; simp only; omega)
      replace hr := Lib.hid hr
      replace a0 := Lib.hid a0
      go_enter Tryz.func118, Tryz.ntmps118
      go_wp2
      go_ret
      exact ⟨by rw [← hd]; rfl, hkA.out⟩
  · have b0 : (x0 != y0) = true := by simpa using a0
    have hd : decide (x0 < y0) = r := by rw [← hr]; exact decide_eq_decide.2 (by unfold qlt AnV.q; simp only; omega)
    replace hr := Lib.hid hr
    go_enter Tryz.func118, Tryz.ntmps118
    go_wp2
    go_ret
    exact ⟨by rw [← hd]; rfl, hkA.out⟩
/-- A list of answers that is read. -/
def RdA (w : World) (v : Value) (Y : List Ans) : Prop := ∃ X, shA.R w v X ∧ LRd w X Y
theorem RdA.keeps {w w' : World} {v : Value} {Y : List Ans} (h : RdA w v Y) (hk : Keeps [] w w') : RdA w' v Y := by
  obtain ⟨X, h1, h2⟩ := h
  exact ⟨X, h1.keeps hk, h2.keeps hk⟩
theorem RdA.form {w : World} {v : Value} {Y : List Ans} (h : RdA w v Y) : ∃ a c, v = .slice a Y.length c ∧ Y.length ≤ c ∧ c ≤ maxLen := by
  obtain ⟨X, h1, h2⟩ := h
  obtain ⟨a, c, e, e1, e2, _⟩ := h1.form
  rw [h2.1] at e e1
  exact ⟨a, c, e, e1, e2⟩
theorem RdA.elem {w : World} {v : Value} {Y : List Ans} (h : RdA w v Y) {k : Nat} (hk : k < Y.length) : ∃ g o c x, v = .slice (some ⟨g, o, none⟩) Y.length c ∧ InR w x Y[k] ∧ ∀ j u, x.cs[j]? = some u → w.cell? ⟨g, o + k * 8 + j, none⟩ = some u := by
  obtain ⟨X, h1, h2⟩ := h
  have hkX : k < X.length := by rw [h2.1]; exact hk
  obtain ⟨g, o, c, e, he⟩ := h1.elem hkX
  rw [h2.1] at e
  exact ⟨g, o, c, X[k], e, h2.2 k _ _ (List.getElem?_eq_getElem hkX) (List.getElem?_eq_getElem hk), he⟩
theorem luL_at {Y : List Ans} {q : Qn} {k : Nat} (hk : k < Y.length) (hno : ∀ j (hj : j < Y.length), j < k → Y[j].q ≠ q) (hq : Y[k].q = q) : luL Y q = Y[k].lu := by
  unfold luL
  have : Y.find? (fun a => decide (a.q = q)) = some Y[k] := List.find?_eq_some_iff_getElem.2 ⟨by simpa using hq, k, hk, rfl, fun j hj => by simpa using hno j (by omega) hj⟩
  rw [this]; rfl
theorem luL_no {Y : List Ans} {q : Qn} (hno : ∀ j (hj : j < Y.length), Y[j].q ≠ q) : luL Y q = 0 := by
  unfold luL
  have : Y.find? (fun a => decide (a.q = q)) = none := List.find?_eq_none.2 (fun c hc => by
    obtain ⟨j, hj, rfl⟩ := List.mem_iff_getElem.1 hc
    simpa using hno j hj)
  rw [this]; rfl
set_option maxRecDepth 100000 in
set_option maxHeartbeats 2000000 in
theorem lastUseR_c (w : World) (v : Value) (Y : List Ans) (m o' : Int) (n : Nat) (h : RdA w v Y) :
    Calls Tryz.prog 116 #[v, .int .i64 m, .int .i64 o', .int .u64 n] w fun e w' => e = .returned (.int .i64 (luL Y (m, o', n))) ∧ Keeps [] w w' := by
  obtain ⟨a, c, rfl, hlc, hcm⟩ := h.form
  have hel := fun k hk => h.elem (k := k) hk
  obtain ⟨M, hM⟩ : ∃ N, Y.length = N := ⟨_, rfl⟩
  rw [hM] at hlc ⊢
  have hMm : M ≤ 9223372036854775807 := by unfold maxLen at hcm; omega
  obtain ⟨r, hr⟩ : ∃ r, luL Y (m, o', n) = r := ⟨_, rfl⟩
  rw [hr]
  replace hel := Lib.hid hel
  replace hM := Lib.hid hM
  replace hr := Lib.hid hr
  clear h
  go_enter Tryz.func116, Tryz.ntmps116
  go_wp2
  go_loopw [9] (fun i wr => ∃ k : Nat, i = .int .i64 k ∧ k ≤ M ∧ Hid (∀ j (hj : j < Y.length), j < k → Y[j].q ≠ (m, o', n)) ∧ Hid (Keeps [] w wr)) (fun i _ => M - (intOf i).toNat)
  case atStart => exact ⟨0, rfl, by omega, Lib.hid (fun _ _ h => by omega), Lib.hid (Keeps.refl _ _)⟩
  case round =>
    obtain ⟨k, rfl, hk, hno, hkw⟩ := hrel
    by_cases hlt : k < M
    · have hkl : k < Y.length := by rw [hM.out]; exact hlt
      obtain ⟨g, o, c', x, hv, hx, he⟩ := hel.out k hkl
      rw [hM.out] at hv
      cases hv
      have m0 := hx.m
      have m1 := hx.ow
      have m2 := hx.n
      have m6 := hx.lu
      obtain ⟨x0, x1, x2, x3, x4, x5, x6, x7, x8, x9⟩ := x
      have e0 := hkw.out.val (he 0 _ rfl)
      have e1 := hkw.out.val (he 1 _ rfl)
      have e2 := hkw.out.val (he 2 _ rfl)
      have e6 := hkw.out.val (he 6 _ rfl)
      simp only [AnV.v, Nat.add_zero] at e0 e1 e2 e6 m0 m1 m2 m6
      have hno2 : ¬ (x0 = m ∧ x1 = o' ∧ x2 = n) → ∀ j (hj : j < Y.length), j < k + 1 → Y[j].q ≠ (m, o', n) := fun hn j hj hjk => by
        by_cases e : j = k
        · subst e
          intro e2
          unfold Ans.q at e2
          simp only [Prod.mk.injEq] at e2
          exact hn ⟨m0.trans e2.1, m1.trans e2.2.1, m2.trans e2.2.2⟩
        · exact hno.out j hj (by omega)
      replace hno2 := Lib.hid hno2
      replace m0 := Lib.hid m0
      replace m1 := Lib.hid m1
      replace m2 := Lib.hid m2
      replace m6 := Lib.hid m6
      clear he hx
      by_cases a0 : x0 = m
      · have b0 : (x0 == m) = true := by simpa using a0
        by_cases a1 : x1 = o'
        · have b1 : (x1 == o') = true := by simpa using a1
          by_cases a2 : x2 = n
          · have b2 : ((x2 : Int) == (n : Int)) = true := by simp [a2]
            have hd : x6 = r := by
              rw [← hr.out, m6.out]
              exact (luL_at hkl hno.out (by unfold Ans.q; rw [← m0.out, ← m1.out, ← m2.out, a0, a1, a2])).symm
            replace a0 := Lib.hid a0
            replace a1 := Lib.hid a1
            replace a2 := Lib.hid a2
            replace hd := Lib.hid hd
            go_wp2
            go_ret
            exact ⟨by rw [← hd.out]; rfl, hkw.out⟩
          · have b2 : ((x2 : Int) == (n : Int)) = false := by simp; omega
            have h2 := Lib.hid (hno2.out (fun h => a2 h.2.2))
            replace a0 := Lib.hid a0
            replace a1 := Lib.hid a1
            replace a2 := Lib.hid a2
            go_wp2
            go_roundw
            case rel => exact ⟨k + 1, rfl, by omega, h2, hkw⟩
            case measure => simp [intOf]; omega
        · have b1 : (x1 == o') = false := by simpa using a1
          have h2 := Lib.hid (hno2.out (fun h => a1 h.2.1))
          replace a0 := Lib.hid a0
          replace a1 := Lib.hid a1
          go_wp2
          go_roundw
          case rel => exact ⟨k + 1, rfl, by omega, h2, hkw⟩
          case measure => simp [intOf]; omega
      · have b0 : (x0 == m) = false := by simpa using a0
        have h2 := Lib.hid (hno2.out (fun h => a0 h.1))
        replace a0 := Lib.hid a0
        go_wp2
        go_roundw
        case rel => exact ⟨k + 1, rfl, by omega, h2, hkw⟩
        case measure => simp [intOf]; omega
    · have hd : (0 : Int) = r := by rw [← hr.out]; exact (luL_no (fun j hj => hno.out j hj (by rw [hM.out] at hj; omega))).symm
      replace hd := Lib.hid hd
      go_wp2
      go_ret
      exact ⟨by rw [← hd.out]; rfl, hkw.out⟩
def insF (a : Ans) (q : Qn) (x : T3) : Option Int := if a.m = q.1 ∧ x.1 = q.2.1 ∧ x.2.1 = q.2.2 then some x.2.2 else none
theorem outL_def (Y : List Ans) (q : Qn) : outL Y q = Y.findSome? (fun a => a.ins.findSome? (insF a q)) := rfl
theorem findSome_at {α β : Type} {f : α → Option β} {l : List α} {k : Nat} {b : β} (hk : k < l.length) (hno : ∀ j (hj : j < l.length), j < k → f l[j] = none) (hb : f l[k] = some b) : l.findSome? f = some b := by
  induction l generalizing k with
  | nil => simp at hk
  | cons a t ih =>
    cases k with
    | zero => rw [List.findSome?_cons]; simp only [List.getElem_cons_zero] at hb; rw [hb]
    | succ k =>
      have h0 := hno 0 (by simp) (by omega)
      simp only [List.getElem_cons_zero] at h0
      rw [List.findSome?_cons, h0]
      exact ih (k := k) (by simpa using hk) (fun j hj hjk => by have := hno (j + 1) (by simpa using hj) (by omega); simpa using this) (by simpa using hb)
theorem findSome_no {α β : Type} {f : α → Option β} {l : List α} (hno : ∀ j (hj : j < l.length), f l[j] = none) : l.findSome? f = none := by
  rw [List.findSome?_eq_none_iff]
  intro x hx
  obtain ⟨j, hj, rfl⟩ := List.mem_iff_getElem.1 hx
  exact hno j hj
def OutPost (w : World) (r : Option Int) (e : Ending) (w' : World) : Prop := e = .returned (.tuple #[.int .i64 (r.getD 0), .bool r.isSome]) ∧ Keeps [] w w'
set_option maxRecDepth 100000 in
set_option maxHeartbeats 4000000 in
theorem outR_c (w : World) (v : Value) (Y : List Ans) (m cl : Int) (n : Nat) (h : RdA w v Y) :
    Calls Tryz.prog 117 #[v, .int .i64 m, .int .i64 cl, .int .u64 n] w (OutPost w (outL Y (m, cl, n))) := by
  obtain ⟨a, c, rfl, hlc, hcm⟩ := h.form
  have hel := fun k hk => h.elem (k := k) hk
  obtain ⟨M, hM⟩ : ∃ N, Y.length = N := ⟨_, rfl⟩
  rw [hM] at hlc ⊢
  have hMm : M ≤ 9223372036854775807 := by unfold maxLen at hcm; omega
  obtain ⟨r, hr⟩ : ∃ r, outL Y (m, cl, n) = r := ⟨_, rfl⟩
  rw [hr]
  rw [outL_def] at hr
  replace hel := Lib.hid hel
  replace hM := Lib.hid hM
  replace hr := Lib.hid hr
  clear h
  go_enter Tryz.func117, Tryz.ntmps117
  go_wp2
  go_loopw [10] (fun i wr => ∃ k : Nat, i = .int .i64 k ∧ k ≤ M ∧ Hid (∀ j (hj : j < Y.length), j < k → Y[j].ins.findSome? (insF Y[j] (m, cl, n)) = none) ∧ Hid (Keeps [] w wr)) (fun i _ => M - (intOf i).toNat)
  case atStart => exact ⟨0, rfl, by omega, Lib.hid (fun _ _ h => by omega), Lib.hid (Keeps.refl _ _)⟩
  case round =>
    obtain ⟨k, rfl, hk, hno, hkw⟩ := hrel
    by_cases hlt : k < M
    · have hkl : k < Y.length := by rw [hM.out]; exact hlt
      obtain ⟨g, o, c', x, hv, hx, he⟩ := hel.out k hkl
      rw [hM.out] at hv
      cases hv
      have m0 := hx.m
      have hxi := hx.ins
      have hxif := hx.ins.form
      obtain ⟨x0, x1, x2, x3, x4, x5, x6, x7, x8, x9⟩ := x
      simp only [AnV.v] at hxi hxif m0
      have hx8 : Y[k].ins.length = x8 := by obtain ⟨_, _, e, _⟩ := hxif; simp only [Value.slice.injEq] at e; exact e.2.1.symm
      have hx8m : x8 ≤ 9223372036854775807 := by obtain ⟨_, c2, e, h1, h2, _⟩ := hxif; rw [hx8] at h1; unfold maxLen at h2; omega
      obtain ⟨A, hA⟩ : ∃ A, Y[k] = A := ⟨_, rfl⟩
      rw [hA] at hxi m0 hx8
      have he0 := he 0 _ rfl
      have he7 := he 7 _ rfl
      simp only [AnV.v, Nat.add_zero] at he0 he7
      replace m0 := Lib.hid m0
      replace hxi := Lib.hid hxi
      replace hx8 := Lib.hid hx8
      replace he0 := Lib.hid he0
      replace he7 := Lib.hid he7
      replace hA := Lib.hid hA
      clear hxif he hx
      go_wp2
      go_loopw [11] (fun i wl => ∃ j : Nat, i = .int .i64 j ∧ j ≤ x8 ∧ Hid (∀ i (hi : i < A.ins.length), i < j → insF A (m, cl, n) A.ins[i] = none) ∧ Hid (Keeps [] w wl)) (fun i _ => x8 - (intOf i).toNat)
      case atStart => exact ⟨0, rfl, by omega, Lib.hid (fun _ _ h => by omega), hkw⟩
      case round =>
        obtain ⟨j, rfl, hj, hnoj, hkj⟩ := hrel
        have e0 := hkj.out.val he0.out
        have e7 := hkj.out.val he7.out
        by_cases hltj : j < x8
        · have hjl : j < A.ins.length := by rw [hx8.out]; exact hltj
          obtain ⟨g3, o3, c3, hv3, he3⟩ := hxi.out.elem hjl
          rw [hx8.out] at hv3
          cases hv3
          obtain ⟨⟨p0, p1, p2⟩, hp3⟩ : ∃ x, A.ins[j] = x := ⟨_, rfl⟩
          rw [hp3] at he3
          have f0 := hkj.out.val (he3 0 _ rfl)
          have f1 := hkj.out.val (he3 1 _ rfl)
          have f2 := hkj.out.val (he3 2 _ rfl)
          simp only [shT, Nat.add_zero] at f0 f1 f2
          have hlt0 := lt_of_cell e0
          have hkP : Keeps [] w (wr.alloc (.cells #[.int .i64 p0, .int .u64 p1, .int .i64 p2] tI)) := hkj.out.alloc _
          have hno2 : ¬ (x0 = m ∧ p0 = cl ∧ p1 = n) → ∀ i (hi : i < A.ins.length), i < j + 1 → insF A (m, cl, n) A.ins[i] = none := fun hn i hi hij => by
            by_cases e : i = j
            · subst e
              rw [hp3]
              unfold insF
              rw [if_neg (fun h => hn ⟨by rw [m0.out]; exact h.1, h.2.1, h.2.2⟩)]
            · exact hnoj.out i hi (by omega)
          replace hno2 := Lib.hid hno2
          replace hkP := Lib.hid hkP
          replace hp3 := Lib.hid hp3
          clear he3
          by_cases a0 : x0 = m
          · have b0 : (x0 == m) = true := by simpa using a0
            by_cases a1 : p0 = cl
            · have b1 : (p0 == cl) = true := by simpa using a1
              by_cases a2 : p1 = n
              · have b2 : ((p1 : Int) == (n : Int)) = true := by simp [a2]
                have hins : A.ins.findSome? (insF A (m, cl, n)) = some p2 := findSome_at hjl hnoj.out (by rw [hp3.out]; unfold insF; rw [if_pos ⟨by rw [← m0.out]; exact a0, a1, a2⟩])
                have hd : r = some p2 := by
                  rw [← hr.out]
                  exact findSome_at hkl hno.out (by rw [hA.out]; exact hins)
                replace a0 := Lib.hid a0
                replace a1 := Lib.hid a1
                replace a2 := Lib.hid a2
                replace hd := Lib.hid hd
                clear hins
                go_wp2
                go_ret2
                exact ⟨by rw [hd.out]; rfl, hkP.out⟩
              · have b2 : ((p1 : Int) == (n : Int)) = false := by simp; omega
                have h2 := Lib.hid (hno2.out (fun h => a2 h.2.2))
                replace a0 := Lib.hid a0
                replace a1 := Lib.hid a1
                replace a2 := Lib.hid a2
                go_wp2
                go_roundw
                case rel => exact ⟨j + 1, rfl, by omega, h2, hkP⟩
                case measure => simp [intOf]; omega
            · have b1 : (p0 == cl) = false := by simpa using a1
              have h2 := Lib.hid (hno2.out (fun h => a1 h.2.1))
              replace a0 := Lib.hid a0
              replace a1 := Lib.hid a1
              go_wp2
              go_roundw
              case rel => exact ⟨j + 1, rfl, by omega, h2, hkP⟩
              case measure => simp [intOf]; omega
          · have b0 : (x0 == m) = false := by simpa using a0
            have h2 := Lib.hid (hno2.out (fun h => a0 h.1))
            replace a0 := Lib.hid a0
            go_wp2
            go_roundw
            case rel => exact ⟨j + 1, rfl, by omega, h2, hkP⟩
            case measure => simp [intOf]; omega
        · have hno3 : ∀ j (hj : j < Y.length), j < k + 1 → Y[j].ins.findSome? (insF Y[j] (m, cl, n)) = none := fun i hi hik => by
            by_cases e : i = k
            · subst e
              rw [hA.out]
              exact findSome_no (fun i hi => hnoj.out i hi (by rw [hx8.out] at hi; omega))
            · exact hno.out i hi (by omega)
          replace hno3 := Lib.hid hno3
          go_wp2
          go_roundw
          case rel => exact ⟨k + 1, rfl, by omega, hno3, hkj⟩
          case measure => simp [intOf]; omega
    · have hd : r = none := by rw [← hr.out]; exact findSome_no (fun j hj => hno.out j hj (by rw [hM.out] at hj; omega))
      replace hd := Lib.hid hd
      go_wp2
      go_ret2
      exact ⟨by rw [hd.out]; rfl, hkw.out⟩
end Go.Proofs.YtpobepninifenaaGreat

namespace Go.Proofs.YtpobepninifenaaGreat
open Go Go.RowKit

theorem run_append_empty {P : Program} {w : World} (base : Nat) (t ty e : TypeId) (i : TypeInfo) (z : Value) (size bytes : Nat) (ht : P.underlying t = some (.slice e)) (hi : P.info? e = some i) (hz : i.zero = some z)
    (hsize : i.size = size) (hby : i.bytes = bytes) (hzs : z.cells.size = size) (g : Nat) (hg : w.heap[g]? = some (.cells #[] e (0, 0))) (hgb : base ≤ g)
    (v2 : Value) (m : Nat) (ys : List Value) (hsl : Sl w size v2 m ys) (h1 : ∀ u ∈ ys, u.oneCell' = true) (h63 : m ≤ maxLen) (hbytes : m * bytes ≤ 140737488355328) (hbase : base ≤ w.heap.size) :
    ∃ v' w', (Builtin.append_ #[t, t] ty #[.slice (some ⟨g, 0, none⟩) 0 0, v2]).run P w = .ok v' w' ∧ w'.ownsRow base e size v' m ys ∧ w.grownBy w' none := by
  have hown : w.ownsRow base e size (.slice (some ⟨g, 0, none⟩) 0 0) 0 [] := ⟨by simp, .inr ⟨g, 0, #[], rfl, hgb, hg, Nat.le_refl _, by simp [maxLen], by simp, by simp⟩⟩
  subst hsize
  subst hby
  obtain ⟨hl, a, cap, rfl, _, _, h0, hc⟩ := hsl
  cases a with
  | none =>
    have hys : ys = [] := by
      cases ys with
      | nil => rfl
      | cons y r => obtain ⟨g, o, e, _⟩ := hc (by simp); cases e
    subst hys
    have hcap := h0 rfl
    subst hcap
    have hm : m = 0 := by omega
    subst hm
    exact ⟨_, w, run_append_owned_none (P := P) (w := w) base t ty e i i.size ht hi _ 0 [] hown, hown, ⟨rfl, rfl, rfl, Nat.le_refl _, fun _ _ _ => rfl⟩⟩
  | some ad =>
    have hcells : ∀ j u, ys[j]? = some u → w.cell? (ad.add j) = some u := by
      intro j u hj
      have hp : 0 < ys.length := by have := (List.getElem?_eq_some_iff.1 hj).1; omega
      obtain ⟨g, o, e, hc'⟩ := hc hp
      cases e
      rw [Go.WideShapes.add_plain]
      exact hc' j u hj
    by_cases hm : m = 0
    · subst hm
      have hys : ys = [] := List.eq_nil_of_length_eq_zero (by simpa using hl)
      subst hys
      have hr := run_append_room (P := P) w t ty e i ht hi g 0 0 #[] hg ad 0 cap [] (by simp) (by simp) (by simp) (by omega) (by simp)
      have hset := setRow_heap w g #[] (([] : List Value).take (0 * i.size) ++ [] ++ ([] : List Value).drop (0 * i.size + ([] : List Value).length)).toArray e (0, 0) hg
      refine ⟨_, _, hr, ⟨by simp, .inr ⟨g, 0, _, rfl, hgb, hset, Nat.le_refl _, by simp [maxLen], by simp, by simp⟩⟩, ⟨rfl, rfl, rfl, by simp, fun k hk _ => ?_⟩⟩
      by_cases hkg : k = g
      · subst hkg
        rw [hg]
        simpa using hset
      · exact setRow_other w g k _ hkg
    · have hr := run_append_grow (P := P) w t ty e i z ht hi hz ⟨g, 0, none⟩ 0 0 [] (by simp) (by simp) ad m cap ys hl hcells (by omega) (by simp only [maxLen] at h63; omega) (growslice_fits (by omega) (by simpa using hbytes))
      have hge := grownCap_ge w (0 + m) 0 e
      have hcm : grownCap w (0 + m) 0 e ≤ maxLen := grownCap_le_maxLen w (0 + m) 0 e (by omega)
      refine ⟨_, _, hr, ?_, ⟨rfl, rfl, rfl, by simp, fun k hk _ => heap_alloc_old w.drew _ hk⟩⟩
      simp only [Nat.zero_add] at hge hcm ⊢
      refine ⟨hl, .inr ⟨w.heap.size, _, _, rfl, hbase, heap_alloc_new w.drew _, hge, hcm, ?_, ?_⟩⟩
      · simp only [Array.size_append, List.size_toArray, size_zeroCells, hzs, hl, List.length_nil, Nat.zero_add, ← Nat.add_mul]
        congr 1
        omega
      · simp only [Array.toList_append, List.nil_append, List.append_assoc, ← hl]
        exact List.take_left
/-- `append(v, v2...)` onto an empty slice without room: nothing that was there is written. -/
theorem Sh.loud_app0 {α : Type} {P : Program} {o : Oper} {a : Act} {w : World} {R : Value → World → Prop} (s : Sh α) (B : Nat) {e t : TypeId} {z : Value} {by_ : Nat} (hinf : (P.info? e).map (fun i => (i.zero, i.size, i.bytes)) = some (some z, s.sz, by_)) (hz : z.cells.size = s.sz) (ht : P.underlying t = some (.slice e))
    (g : Nat) (v2 : Value) (M : List α) (x y : Operand) (ho : o.op = .call { callee := .builtin .append, args := #[x, y], argTypes := #[t, t] }) (hs : a.eval x = .slice (some ⟨g, 0, none⟩) 0 0) (hx : a.eval y = v2) (hg : w.heap[g]? = some (.cells #[] e (0, 0))) (hgb : B ≤ g) (hsl : s.R w v2 M)
    (hl : M.length * (by_ + 1) ≤ 140737488355328) (hB : B ≤ w.heap.size) (hR : ∀ v' w', s.O w' B e v' M → w.grownBy w' none → R v' w') : Free.Loud P o a w R := by
  obtain ⟨i0, hi, hz0, hz1, hz2⟩ := info_parts hinf
  have h1 : M.length ≤ M.length * (by_ + 1) := Nat.le_mul_of_pos_right _ (by omega)
  have h2 : M.length * by_ ≤ M.length * (by_ + 1) := Nat.mul_le_mul_left _ (by omega)
  obtain ⟨v', w', hr, h3, h4⟩ := run_append_empty (P := P) B t o.type e i0 z s.sz by_ ht hi hz0 hz1 hz2 hz g hg hgb v2 M.length (s.cs M) hsl (Sh.cs_one M) (by unfold maxLen; omega) (by omega) hB
  unfold Free.Loud execOp
  simp only [ho, resolve, invoke, builtin, Sem.run_bind, Sem.run_pure, Result.andThen_ok, List.map_toArray, List.map_cons, List.map_nil, hs, hx, hr]
  exact hR v' w' h3 h4
theorem Sh.loud_app {α : Type} {P : Program} {o : Oper} {a : Act} {w : World} {R : Value → World → Prop} (s : Sh α) (B : Nat) {e t : TypeId} {z : Value} {by_ : Nat} (hinf : (P.info? e).map (fun i => (i.zero, i.size, i.bytes)) = some (some z, s.sz, by_)) (hz : z.cells.size = s.sz) (ht : P.underlying t = some (.slice e))
    (v v2 : Value) (L M : List α) (x y : Operand) (ho : o.op = .call { callee := .builtin .append, args := #[x, y], argTypes := #[t, t] }) (hs : a.eval x = v) (hx : a.eval y = v2) (h : s.O w B e v L) (hsl : s.R w v2 M)
    (hl : (L.length + M.length) * (by_ + 1) ≤ 140737488355328) (hB : B ≤ w.heap.size) (hR : ∀ v' w', s.O w' B e v' (L ++ M) → Grw w w' v v' → R v' w') : Free.Loud P o a w R := by
  obtain ⟨i0, hi, hz0, hz1, hz2⟩ := info_parts hinf
  have h1 : L.length + M.length ≤ (L.length + M.length) * (by_ + 1) := Nat.le_mul_of_pos_right _ (by omega)
  have h2 : (L.length + M.length) * by_ ≤ (L.length + M.length) * (by_ + 1) := Nat.mul_le_mul_left _ (by omega)
  obtain ⟨v', w', hr, h3, h4, _⟩ := run_append_x (P := P) B t o.type e i0 z s.sz by_ ht hi hz0 hz1 hz2 hz s.pos v L.length (s.cs L) h v2 M.length (s.cs M) hsl (Sh.cs_one M) (by unfold maxLen; omega) (by omega) hB
  unfold Free.Loud execOp
  simp only [ho, resolve, invoke, builtin, Sem.run_bind, Sem.run_pure, Result.andThen_ok, List.map_toArray, List.map_cons, List.map_nil, hs, hx, hr]
  refine hR v' w' ?_ h4
  unfold Sh.O
  rw [Sh.cs_append, List.length_append]
  exact h3
theorem Sh.O.keepP {α : Type} {s : Sh α} {w w' : World} {B : Nat} {e : TypeId} {v : Value} {L : List α} {S : Nat → Prop} (h : s.O w B e v L) (hk : Free.KeepsP S w w') (hS : ∀ g, v.ownBlock = some g → ¬ S g) : s.O w' B e v L := by
  refine ⟨h.1, ?_⟩
  rcases h.2 with hn | ⟨g, cap, cur, rfl, hb, hg, rest⟩
  · exact .inl hn
  · exact .inr ⟨g, cap, cur, rfl, hb, (hk.block g (Array.getElem?_eq_some_iff.1 hg).1 (hS g rfl)).trans hg, rest⟩
namespace Ins
variable {α : Type}
/-- What holds behind each operation: 0 makes the empty slice, A appends the first part, M makes the slice of one, A2 appends it, A3 the rest (A3 = A2: there is none). -/
def F (s : Sh α) (A M A2 A3 : Nat) (B0 : Nat) (e : TypeId) (L1 : List α) (x : α) (L2 : List α) (i : Nat) (v : Value) (w : World) : Prop :=
  (i = 0 → ∃ g, v = .slice (some ⟨g, 0, none⟩) 0 0 ∧ B0 ≤ g ∧ w.heap[g]? = some (.cells #[] e (0, 0))) ∧ (i = A → s.O w B0 e v L1) ∧ (i = M → s.R w v [x] ∧ s.O w B0 e v [x]) ∧ (i = A2 → s.O w B0 e v (L1 ++ [x])) ∧ (i = A3 → A3 ≠ A2 → s.O w B0 e v (L1 ++ [x] ++ L2))
def T (A2 A3 B0 : Nat) (k b : Nat) : Prop := (k = A2 ∨ k = A3) ∧ B0 ≤ b
def K (A2 A3 : Nat) (k i : Nat) : Bool := (k == A2 && i != A3 && i != A2) || (k == A3 && i != A3)
theorem keepF {s : Sh α} {A M A2 A3 : Nat} {B0 : Nat} {e : TypeId} {L1 : List α} {x : α} {L2 : List α} {i : Nat} {v : Value} {w w' : World} (h : F s A M A2 A3 B0 e L1 x L2 i v w) (hk : Free.KeepsP (fun _ => False) w w') : F s A M A2 A3 B0 e L1 x L2 i v w' := by
  obtain ⟨h0, h1, h2, h3, h4⟩ := h
  refine ⟨fun hi => ?_, fun hi => (h1 hi).keepP hk (by simp), fun hi => ?_, fun hi => (h3 hi).keepP hk (by simp), fun hi hn => (h4 hi hn).keepP hk (by simp)⟩
  · obtain ⟨g, e1, e2, e3⟩ := h0 hi
    exact ⟨g, e1, e2, (hk.block g (Array.getElem?_eq_some_iff.1 e3).1 (by simp)).trans e3⟩
  · have := (h2 hi).2.keepP hk (by simp)
    exact ⟨this.r, this⟩
theorem stable {s : Sh α} {A M A2 A3 : Nat} {B0 : Nat} {e : TypeId} {L1 : List α} {x : α} {L2 : List α} {ops : Array Oper} {loud : Nat → Bool} (hpre : A3 = A2 ∨ Free.pre ops A2 A3 = true) :
    ∀ i k v w w', loud i = true → i ≠ k → K A2 A3 k i = false → Free.pre ops k i = false → F s A M A2 A3 B0 e L1 x L2 i v w → Free.KeepsP (T A2 A3 B0 k) w w' → F s A M A2 A3 B0 e L1 x L2 i v w' := by
  intro i k v w w' _ hne hK hp hF hk
  by_cases h2 : k = A2
  · subst h2
    by_cases h3 : i = A3
    · subst h3
      rcases hpre with e | e
      · exact absurd e hne
      · rw [hp] at e; cases e
    · exfalso
      unfold K at hK
      simp only [beq_self_eq_true, Bool.true_and, Bool.or_eq_false_iff] at hK
      have h4 := hK.1
      simp [h3, hne] at h4
  · by_cases h3 : k = A3
    · subst h3
      exfalso
      unfold K at hK
      simp [hne] at hK
    · exact keepF hF (hk.mono (fun b hb => by rcases hb.1 with e | e; exact h2 e; exact h3 e))
def Nums (A M A2 A3 : Nat) : Prop := A ≠ 0 ∧ M ≠ 0 ∧ A2 ≠ 0 ∧ A3 ≠ 0 ∧ A ≠ M ∧ A ≠ A2 ∧ A ≠ A3 ∧ M ≠ A2 ∧ M ≠ A3
theorem R_keepP {s : Sh α} {w w' : World} {v : Value} {L : List α} {S : Nat → Prop} (h : s.R w v L) (hk : Free.KeepsP S w w') (hS : ∀ b, S b → w.heap.size ≤ b) : s.R w' v L :=
  Sl.keep h fun b o hb => .inl (hk.cell b o hb (fun h => by have := hS b h; omega))
theorem O_le {s : Sh α} {w : World} {B B' e : Nat} {v : Value} {L : List α} (h : s.O w B e v L) (hb : B' ≤ B) : s.O w B' e v L := by
  refine ⟨h.1, ?_⟩
  rcases h.2 with hn | ⟨g, cap, cur, rfl, h1, rest⟩
  · exact .inl hn
  · exact .inr ⟨g, cap, cur, rfl, Nat.le_trans hb h1, rest⟩
theorem fE {s : Sh α} {A M A2 A3 : Nat} {B0 : Nat} {e : TypeId} {L1 : List α} {x : α} {L2 : List α} (hn : Nums A M A2 A3) {w : World} (hw : B0 ≤ w.heap.size) : F s A M A2 A3 B0 e L1 x L2 0 (.slice (some ⟨w.heap.size, 0, none⟩) 0 0) (w.alloc (.cells #[] e)) ∧ Free.KeepsP (T A2 A3 B0 0) w (w.alloc (.cells #[] e)) := by
  obtain ⟨h1, h2, h3, h4, _⟩ := hn
  exact ⟨⟨fun _ => ⟨_, rfl, hw, heap_alloc_new w _⟩, fun h => absurd h.symm h1, fun h => absurd h.symm h2, fun h => absurd h.symm h3, fun h => absurd h.symm h4⟩, Free.KeepsP.alloc _ _ _⟩
theorem fM {s : Sh α} {A M A2 A3 : Nat} {B0 : Nat} {e : TypeId} {L1 : List α} {x : α} {L2 : List α} (hn : Nums A M A2 A3) {w : World} (hw : B0 ≤ w.heap.size) (xs : Array Value) (hx : xs.toList = s.cf x) : F s A M A2 A3 B0 e L1 x L2 M (.slice (some ⟨w.heap.size, 0, none⟩) 1 1) (w.alloc (.cells xs e)) ∧ Free.KeepsP (T A2 A3 B0 M) w (w.alloc (.cells xs e)) := by
  obtain ⟨h1, h2, h3, h4, h5, h6, h7, h8, h9⟩ := hn
  have hl : xs.size = s.sz := by rw [← Array.length_toList, hx]; exact s.len x
  have hO : s.O (w.alloc (.cells xs e)) B0 e (.slice (some ⟨w.heap.size, 0, none⟩) 1 1) [x] := by
    refine ⟨by simp [Sh.cs, s.len], .inr ⟨w.heap.size, 1, xs, rfl, hw, heap_alloc_new w _, Nat.le_refl _, by simp [maxLen], by simpa using hl, ?_⟩⟩
    rw [List.take_of_length_le (by simp [hl]), hx]
    simp [Sh.cs]
  exact ⟨⟨fun h => absurd h h2, fun h => absurd h.symm h5, fun _ => ⟨hO.r, hO⟩, fun h => absurd h h8, fun h => absurd h h9⟩, Free.KeepsP.alloc _ _ _⟩
section
variable {P : Program} {o : Oper} {a : Act} {w w0 : World} {s : Sh α} {A M A2 A3 : Nat} {e t : TypeId} {L1 : List α} {x : α} {L2 : List α} {z : Value} {by_ : Nat}
theorem lA {S : Nat → Prop} (hn : Nums A M A2 A3) (hinf : (P.info? e).map (fun i => (i.zero, i.size, i.bytes)) = some (some z, s.sz, by_)) (hz : z.cells.size = s.sz) (ht : P.underlying t = some (.slice e)) {v0 v2 : Value} (hk : Free.KeepsP S w0 w) (hS : ∀ b, S b → w0.heap.size ≤ b) (h0 : F s A M A2 A3 w0.heap.size e L1 x L2 0 v0 w) (hR : s.R w0 v2 L1) (p q : Operand)
    (ho : o.op = .call { callee := .builtin .append, args := #[p, q], argTypes := #[t, t] }) (hs : a.eval p = v0) (hx : a.eval q = v2) (hl : L1.length * (by_ + 1) ≤ 140737488355328) : Free.Loud P o a w (fun v w' => F s A M A2 A3 w0.heap.size e L1 x L2 A v w' ∧ Free.KeepsP (T A2 A3 w0.heap.size A) w w') := by
  obtain ⟨h1, h2, h3, h4, h5, h6, h7, h8, h9⟩ := hn
  obtain ⟨g, rfl, hg0, hgc⟩ := h0.1 rfl
  refine Sh.loud_app0 s w0.heap.size hinf hz ht g v2 L1 p q ho hs hx hgc hg0 (R_keepP hR hk hS) hl hk.size ?_
  intro v' w' hO hgr
  exact ⟨⟨fun h => absurd h h1, fun _ => hO, fun h => absurd h h5, fun h => absurd h h6, fun h => absurd h h7⟩, Free.KeepsP.grown hgr (by simp)⟩
theorem lA2 {S : Nat → Prop} (hn : Nums A M A2 A3) (hinf : (P.info? e).map (fun i => (i.zero, i.size, i.bytes)) = some (some z, s.sz, by_)) (hz : z.cells.size = s.sz) (ht : P.underlying t = some (.slice e)) {vA vM : Value} (hk : Free.KeepsP S w0 w) (hA : F s A M A2 A3 w0.heap.size e L1 x L2 A vA w) (hM : F s A M A2 A3 w0.heap.size e L1 x L2 M vM w) (p q : Operand)
    (ho : o.op = .call { callee := .builtin .append, args := #[p, q], argTypes := #[t, t] }) (hs : a.eval p = vA) (hx : a.eval q = vM) (hl : (L1.length + 1) * (by_ + 1) ≤ 140737488355328) : Free.Loud P o a w (fun v w' => F s A M A2 A3 w0.heap.size e L1 x L2 A2 v w' ∧ Free.KeepsP (T A2 A3 w0.heap.size A2) w w') := by
  obtain ⟨h1, h2, h3, h4, h5, h6, h7, h8, h9⟩ := hn
  have hOA := hA.2.1 rfl
  refine Sh.loud_app s w0.heap.size hinf hz ht vA vM L1 [x] p q ho hs hx hOA (hM.2.2.1 rfl).1 hl hk.size ?_
  intro v' w' hO hgr
  exact ⟨⟨fun h => absurd h h3, fun h => absurd h.symm h6, fun h => absurd h.symm h8, fun _ => hO, fun h hne => absurd h.symm hne⟩, Free.KeepsP.grown hgr.grown (fun b hb => ⟨.inl rfl, hOA.ge b hb⟩)⟩
theorem lA3 {S : Nat → Prop} (hn : Nums A M A2 A3) (h23 : A3 ≠ A2) (hinf : (P.info? e).map (fun i => (i.zero, i.size, i.bytes)) = some (some z, s.sz, by_)) (hz : z.cells.size = s.sz) (ht : P.underlying t = some (.slice e)) {vA v2 : Value} (hk : Free.KeepsP S w0 w) (hS : ∀ b, S b → w0.heap.size ≤ b) (hA : F s A M A2 A3 w0.heap.size e L1 x L2 A2 vA w) (hR : s.R w0 v2 L2) (p q : Operand)
    (ho : o.op = .call { callee := .builtin .append, args := #[p, q], argTypes := #[t, t] }) (hs : a.eval p = vA) (hx : a.eval q = v2) (hl : (L1.length + 1 + L2.length) * (by_ + 1) ≤ 140737488355328) : Free.Loud P o a w (fun v w' => F s A M A2 A3 w0.heap.size e L1 x L2 A3 v w' ∧ Free.KeepsP (T A2 A3 w0.heap.size A3) w w') := by
  obtain ⟨h1, h2, h3, h4, h5, h6, h7, h8, h9⟩ := hn
  have hOA := hA.2.2.2.1 rfl
  refine Sh.loud_app s w0.heap.size hinf hz ht vA v2 (L1 ++ [x]) L2 p q ho hs hx hOA (R_keepP hR hk hS) (by rw [List.length_append, List.length_singleton]; exact hl) hk.size ?_
  intro v' w' hO hgr
  exact ⟨⟨fun h => absurd h h4, fun h => absurd h.symm h7, fun h => absurd h.symm h9, fun h => absurd h h23, fun _ _ => hO⟩, Free.KeepsP.grown hgr.grown (fun b hb => ⟨.inr rfl, hOA.ge b hb⟩)⟩
end
theorem low {ops : Array Oper} {A2 A3 B0 i b : Nat} (h : Free.sx ops (T A2 A3 B0) i b) : B0 ≤ b := by obtain ⟨k, _, _, h⟩ := h; exact h.2
theorem lowA {A2 A3 B0 b : Nat} (h : Free.sa (T A2 A3 B0) b) : B0 ≤ b := by obtain ⟨k, h⟩ := h; exact h.2
end Ins
end Go.Proofs.YtpobepninifenaaGreat

namespace Go.Proofs.YtpobepninifenaaGreat
open Go.RowKit

theorem LRd.ins {w : World} {X : List AnV} {Y : List Ans} {x : AnV} {y : Ans} (h : LRd w X Y) (hx : InR w x y) (k : Nat) : LRd w (X.take k ++ [x] ++ X.drop k) (Y.take k ++ y :: Y.drop k) := by
  obtain ⟨hl, hh⟩ := h
  refine ⟨by simp; omega, fun j a b ha hb => ?_⟩
  rw [List.append_assoc, List.singleton_append] at ha
  have htl : (X.take k).length = (Y.take k).length := by simp [hl]
  by_cases h1 : j < (X.take k).length
  · rw [List.getElem?_append_left h1] at ha
    rw [List.getElem?_append_left (by omega)] at hb
    rw [List.getElem?_take] at ha hb
    split at ha
    · rename_i hjk
      rw [if_pos hjk] at hb
      exact hh j a b ha hb
    · cases ha
  · rw [List.getElem?_append_right (by omega)] at ha
    rw [List.getElem?_append_right (by omega)] at hb
    rw [← htl] at hb
    obtain ⟨i, hi⟩ : ∃ i, j - (X.take k).length = i := ⟨_, rfl⟩
    rw [hi] at ha hb
    cases i with
    | zero => simp at ha hb; subst ha hb; exact hx
    | succ i =>
      simp only [List.getElem?_cons_succ, List.getElem?_drop] at ha hb
      exact hh _ a b ha hb
theorem LA.keeps {w w' : World} {X : List AnV} {Y : List Ans} (h : LA w X Y) (hk : Keeps [] w w') : LA w' X Y := h.ki hk.ki0
theorem InA.keeps {w w' : World} {x : AnV} {y : Ans} (h : InA w x y) (hk : Keeps [] w w') : InA w' x y := h.ki hk.ki0
theorem LA.ins {w : World} {X : List AnV} {Y : List Ans} {x : AnV} {y : Ans} (h : LA w X Y) (hx : InA w x y) (k : Nat) : LA w (X.take k ++ [x] ++ X.drop k) (Y.take k ++ y :: Y.drop k) := by
  obtain ⟨hl, hh⟩ := h
  refine ⟨by simp; omega, fun j a b ha hb => ?_⟩
  rw [List.append_assoc, List.singleton_append] at ha
  have htl : (X.take k).length = (Y.take k).length := by simp [hl]
  by_cases h1 : j < (X.take k).length
  · rw [List.getElem?_append_left h1] at ha
    rw [List.getElem?_append_left (by omega)] at hb
    rw [List.getElem?_take] at ha hb
    split at ha
    · rename_i hjk
      rw [if_pos hjk] at hb
      exact hh j a b ha hb
    · cases ha
  · rw [List.getElem?_append_right (by omega)] at ha
    rw [List.getElem?_append_right (by omega)] at hb
    rw [← htl] at hb
    obtain ⟨i, hi⟩ : ∃ i, j - (X.take k).length = i := ⟨_, rfl⟩
    rw [hi] at ha hb
    cases i with
    | zero => simp at ha hb; subst ha hb; exact hx
    | succ i =>
      simp only [List.getElem?_cons_succ, List.getElem?_drop] at ha hb
      exact hh _ a b ha hb
theorem insO_len (l : List Ans) (p : Qn × Option Ans) : (insO l p).length ≤ l.length + 1 := by
  unfold insO
  split
  · rw [(insA_perm _ _).length_eq]; simp
  · omega
def SortPost (w : World) (t : Tr) (e : Ending) (w' : World) : Prop := ∃ v, e = .returned v ∧ RdA w' v (srtOf t.qs) ∧ Keeps [] w w'
def SortOPost (w : World) (t : Tr) (e : Ending) (w' : World) : Prop := ∃ v X, e = .returned v ∧ shA.O w' w.heap.size tA v X ∧ LA w' X (srtOf t.qs) ∧ Keeps [] w w'
set_option maxRecDepth 100000 in
set_option maxHeartbeats 20000000 in
theorem sortedO_c (w : World) (x : RfV) (t : Tr) (h : RfR w x t) (hr : ∀ p ∈ t.rec', p.2.kn = true) (hl : t.qs.length ≤ 1000) :
    Calls Tryz.prog 73 #[rfV x] w (SortOPost w t) := by
  have hans := fun (W : World) (hk : Keeps [] w W) (k : Nat) (hkq : k < t.qs.length) => answeredR_c W x t k (h.keeps hk) hr hkq
  obtain ⟨XA, hXA, hXR⟩ := h.an
  have hO := h.op
  obtain ⟨x0, x1, x2, x3, x4, x5, ⟨x6, x7, x8⟩, ⟨x9, x10, x11⟩, x12, ⟨x13, x14, x15⟩, x16, ⟨x17, x18, x19⟩⟩ := x
  simp only [slv, rfV] at hXA hans hO
  have hx7 : t.qs.length = x7 := by
    obtain ⟨_, _, e, _⟩ := hO.form
    simp only [Value.slice.injEq] at e
    rw [e.2.1]; simp [Tr.op]
  have hx10 : XA.length = x10 := by
    obtain ⟨_, _, e, _⟩ := hXA.form
    simp only [Value.slice.injEq] at e
    exact e.2.1.symm
  have hx1010 : x7 = x10 := by rw [← hx10, hXR.1, hx7]
  subst hx1010
  rw [hx7] at hl
  have hel := fun k hk => hXA.elem (k := k) hk
  have hb0 := ((Keeps.refl [] (w.alloc (.cells #[.int .i64 x0, .int .i64 x1, .int .i64 x2, .int .u64 x3, .int .i64 x4, .int .i64 x5, .slice x6 x7 x8, .slice x9 x7 x11, .int .i64 x12, .slice x13 x14 x15, .bool x16, .slice x17 x18 x19] tR))).alloc (.cells #[] tA)).block _ (by simp) (by simp) |>.trans (heap_alloc_new w (.cells #[.int .i64 x0, .int .i64 x1, .int .i64 x2, .int .u64 x3, .int .i64 x4, .int .i64 x5, .slice x6 x7 x8, .slice x9 x7 x11, .int .i64 x12, .slice x13 x14 x15, .bool x16, .slice x17 x18 x19] tR))
  have hkA : Keeps [] w ((w.alloc (.cells #[.int .i64 x0, .int .i64 x1, .int .i64 x2, .int .u64 x3, .int .i64 x4, .int .i64 x5, .slice x6 x7 x8, .slice x9 x7 x11, .int .i64 x12, .slice x13 x14 x15, .bool x16, .slice x17 x18 x19] tR)).alloc (.cells #[] tA)) := ((Keeps.refl _ _).alloc _).alloc _
  have hfr := Sh.O.fresh shA (w.alloc (.cells #[.int .i64 x0, .int .i64 x1, .int .i64 x2, .int .u64 x3, .int .i64 x4, .int .i64 x5, .slice x6 x7 x8, .slice x9 x7 x11, .int .i64 x12, .slice x13 x14 x15, .bool x16, .slice x17 x18 x19] tR)) w.heap.size tA (by simp)
  rw [show (w.alloc (.cells #[.int .i64 x0, .int .i64 x1, .int .i64 x2, .int .u64 x3, .int .i64 x4, .int .i64 x5, .slice x6 x7 x8, .slice x9 x7 x11, .int .i64 x12, .slice x13 x14 x15, .bool x16, .slice x17 x18 x19] tR)).heap.size = w.heap.size + 1 by simp] at hfr
  replace h := Lib.hid h
  replace hkA := Lib.hid hkA
  replace hb0 := Lib.hid hb0
  replace hfr := Lib.hid hfr
  replace hel := Lib.hid hel
  replace hans := Lib.hid hans
  replace hx7 := Lib.hid hx7
  replace hx10 := Lib.hid hx10
  replace hO := Lib.hid hO
  replace hXA := Lib.hid hXA
  replace hXR := Lib.hid hXR
  clear hr
  simp only [rfV, slv]
  go_enter Tryz.func73, Tryz.ntmps73
  go_wp2
  generalize ((w.alloc (.cells #[.int .i64 x0, .int .i64 x1, .int .i64 x2, .int .u64 x3, .int .i64 x4, .int .i64 x5, .slice x6 x7 x8, .slice x9 x7 x11, .int .i64 x12, .slice x13 x14 x15, .bool x16, .slice x17 x18 x19] tR)).alloc (.cells #[] tA)) = W at *
  go_loopw [3, 4] (fun ov i wr => ∃ (k : Nat) (X : List AnV), i = .int .i64 k ∧ k ≤ x7 ∧ Hid (shA.O wr w.heap.size tA ov X) ∧ Hid (LA wr X ((t.qs.take k).foldl insO [])) ∧ Hid (Keeps [] w wr) ∧ Hid (wr.heap[w.heap.size]? = some (.cells #[.int .i64 x0, .int .i64 x1, .int .i64 x2, .int .u64 x3, .int .i64 x4, .int .i64 x5, .slice x6 x7 x8, .slice x9 x7 x11, .int .i64 x12, .slice x13 x14 x15, .bool x16, .slice x17 x18 x19] tR))) (fun _ i _ => x7 - (intOf i).toNat)
  case atStart => exact ⟨0, [], rfl, by omega, hfr, Lib.hid ⟨rfl, fun k x y h => by simp at h⟩, hkA, hb0⟩
  case round =>
    obtain ⟨k, X, rfl, hk, hOr, hLr, hkr, hbx⟩ := hrel
    obtain ⟨y0, y1, y2, y3, y4, y5, y6, y7, y8, y9, y10, y11, yf, yl⟩ := cells12 hbx.out
    by_cases hlt : k < x7
    · have hkq : k < t.qs.length := by rw [hx7.out]; exact hlt
      have hkX : k < XA.length := by rw [hx10.out]; exact hlt
      have hfold : (t.qs.take (k + 1)).foldl insO [] = insO ((t.qs.take k).foldl insO []) t.qs[k] := by rw [List.take_succ_eq_append_getElem hkq, List.foldl_append]; rfl
      have hYl : ((t.qs.take k).foldl insO []).length ≤ 1000 := by
        have : ∀ (l : List (Qn × Option Ans)) (a : List Ans), (l.foldl insO a).length ≤ a.length + l.length := by
          intro l
          induction l with
          | nil => intro a; simp
          | cons p l ih => intro a; rw [List.foldl_cons]; have := ih (insO a p); have := insO_len a p; simp; omega
        have := this (t.qs.take k) []
        simp at this
        omega
      have hra := hXR.out.2 k _ _ (List.getElem?_eq_getElem hkX) (List.getElem?_eq_getElem hkq)
      obtain ⟨⟨pq, pu⟩, hp⟩ : ∃ p, t.qs[k] = p := ⟨_, rfl⟩
      rw [hp] at hfold hra
      obtain ⟨Y, hY⟩ : ∃ Y, (t.qs.take k).foldl insO [] = Y := ⟨_, rfl⟩
      rw [hY] at hfold hYl hLr
      have hac := hans.out wr hkr.out k hkq
      rw [hp] at hac
      replace hac := Lib.hid hac
      replace hp := Lib.hid hp
      replace hY := Lib.hid hY
      cases pu with
      | none =>
        have hf2 : (t.qs.take (k + 1)).foldl insO [] = Y := by rw [hfold]; rfl
        replace hf2 := Lib.hid hf2
        clear hfold hra
        go_wp2_with fail
        refine hac.out.mono ?_
        rintro e w1 ⟨rfl, hka⟩
        have hO1 := Lib.hid (hOr.out.keeps hka)
        have hL1 : Hid (LA w1 X ((t.qs.take (k + 1)).foldl insO [])) := Lib.hid (by rw [hf2.out]; exact hLr.out.keeps hka)
        have hk1 := Lib.hid (hkr.out.trans hka)
        have hbx1 := Lib.hid ((hka.block _ (lt_of_blk hbx.out) (by simp)).trans hbx.out)
        clear hka
        go_wp2
        go_roundw
        case rel => exact ⟨k + 1, X, rfl, by omega, hO1, hL1, hk1, hbx1⟩
        case measure => simp [intOf]; omega
      | some a =>
        have hfold2 : (t.qs.take (k + 1)).foldl insO [] = insA a Y := by rw [hfold]; rfl
        have hxr : InA w XA[k] a := hra
        have hXl := hLr.out.1
        obtain ⟨oa, oc, rfl⟩ := hOr.out.form
        obtain ⟨N, hN⟩ : ∃ n, X.length = n := ⟨_, rfl⟩
        rw [hN] at hOr hXl ⊢
        have hN1 : N ≤ 1000 := by omega
        obtain ⟨g, o, c', hv, he⟩ := hel.out k hkX
        rw [hx10.out] at hv
        cases hv
        obtain ⟨xa, hxa⟩ : ∃ x, XA[k] = x := ⟨_, rfl⟩
        rw [hxa] at hxr he
        obtain ⟨y0, y1, y2, y3, y4, y5, y6, y7, y8, y9⟩ := xa
        replace hfold := Lib.hid hfold2
        replace hxr := Lib.hid hxr
        replace hN := Lib.hid hN
        replace hxa := Lib.hid hxa
        replace hXl := Lib.hid hXl
        replace he := Lib.hid he
        clear hfold2 hra
        go_wp2_with fail
        refine hac.out.mono ?_
        rintro e w1 ⟨rfl, hka⟩
        have hO1 := hOr.out.keeps hka
        have hL1 := hLr.out.keeps hka
        have hk1 := hkr.out.trans hka
        have hbx1 := (hka.block _ (lt_of_blk hbx.out) (by simp)).trans hbx.out
        have e0 := hk1.val (he.out 0 _ rfl)
        have e1 := hk1.val (he.out 1 _ rfl)
        have e2 := hk1.val (he.out 2 _ rfl)
        have e3 := hk1.val (he.out 3 _ rfl)
        have e4 := hk1.val (he.out 4 _ rfl)
        have e5 := hk1.val (he.out 5 _ rfl)
        have e6 := hk1.val (he.out 6 _ rfl)
        have e7 := hk1.val (he.out 7 _ rfl)
        simp only [shA, AnV.v, Nat.add_zero] at e0 e1 e2 e3 e4 e5 e6 e7
        have z7 := (cells12 hbx1).2.2.2.2.2.2.2.1
        have hxq : AnV.q ⟨y0, y1, y2, y3, y4, y5, y6, y7, y8, y9⟩ = a.q := by
          have hm := hxr.out.m
          have hw := hxr.out.ow
          have hn := hxr.out.n
          unfold AnV.q Ans.q
          simp only at hm hw hn ⊢
          rw [hm, hw, hn]
        replace hO1 := Lib.hid hO1
        replace hL1 := Lib.hid hL1
        replace hk1 := Lib.hid hk1
        replace hbx1 := Lib.hid hbx1
        replace hxq := Lib.hid hxq
        clear hka hac
        (go_upto_region 6 with fail; iterate 8 go_step)
        go_cut [5] from 7 to 51 (fun kv wx => ∃ kk : Nat, kv = .int .i64 kk ∧ kk ≤ N ∧ Hid (∀ j (hj : j < Y.length), j < kk → qlt Y[j].q a.q) ∧ Hid (∀ hj : kk < Y.length, ¬ qlt Y[kk].q a.q) ∧ Hid (Keeps [] w1 wx))
        case first =>
          go_wp2
          go_loopw [5] (fun i wr => ∃ j : Nat, i = .int .i64 j ∧ j ≤ N ∧ Hid (∀ i (hi : i < Y.length), i < j → qlt Y[i].q a.q) ∧ Hid (Keeps [] w1 wr)) (fun i _ => N - (intOf i).toNat)
          case atStart => exact ⟨0, rfl, by omega, Lib.hid (fun _ _ h => by omega), Lib.hid (Keeps.refl _ _)⟩
          case round =>
            obtain ⟨j, rfl, hj, hlow, hkj⟩ := hrel
            by_cases hltj : j < N
            · have hjX : j < X.length := by rw [hN.out]; exact hltj
              have hjY : j < Y.length := by rw [← hXl.out]; exact hltj
              obtain ⟨g3, o3, c3, hv3, he3⟩ := (hO1.out.keeps hkj.out).r.elem hjX
              rw [hN.out] at hv3
              cases hv3
              have hjr := (hL1.out.keeps hkj.out).2 j _ _ (List.getElem?_eq_getElem hjX) (List.getElem?_eq_getElem hjY)
              have hjq : (X[j]).q = Y[j].q := by
                have hm := hjr.m
                have hw := hjr.ow
                have hn := hjr.n
                unfold AnV.q Ans.q
                rw [hm, hw, hn]
              obtain ⟨u, hu⟩ : ∃ u, X[j] = u := ⟨_, rfl⟩
              rw [hu] at he3 hjq
              obtain ⟨u0, u1, u2, u3, u4, u5, u6, u7, u8, u9⟩ := u
              have f0 := he3 0 _ rfl
              have f1 := he3 1 _ rfl
              have f2 := he3 2 _ rfl
              have f3 := he3 3 _ rfl
              have f4 := he3 4 _ rfl
              have f5 := he3 5 _ rfl
              have f6 := he3 6 _ rfl
              have f7 := he3 7 _ rfl
              simp only [shA, AnV.v, Nat.add_zero] at f0 f1 f2 f3 f4 f5 f6 f7
              have d0 := hkj.out.val e0
              have d1 := hkj.out.val e1
              have d2 := hkj.out.val e2
              have d3 := hkj.out.val e3
              have d4 := hkj.out.val e4
              have d5 := hkj.out.val e5
              have d6 := hkj.out.val e6
              have d7 := hkj.out.val e7
              have x7j := hkj.out.val z7
              have hlc := fun w => lessR_c w ⟨u0, u1, u2, u3, u4, u5, u6, u7, u8, u9⟩ ⟨y0, y1, y2, y3, y4, y5, y6, y7, y8, y9⟩
              rw [hjq, hxq.out] at hlc
              simp only [aV, AnV.v] at hlc
              obtain ⟨b, hb⟩ : ∃ b, decide (qlt Y[j].q a.q) = b := ⟨_, rfl⟩
              rw [hb] at hlc
              replace hlc := Lib.hid hlc
              replace hu := Lib.hid hu
              replace hb := Lib.hid hb
              replace hjq := Lib.hid hjq
              clear he3 hjr
              go_wp2
              refine Free.wp_region_chain (fun i => i == 14) (fun i => true) (fun _ _ => False) (by kernel_rfl) (by kernel_rfl) (by kernel_rfl) ?_
              (repeat (first | (apply Free.cw_pureW rfl rfl; (intro w'; go_simp <;> exact rfl); go_frame) | (apply Free.cw_steadyW rfl rfl rfl; (intro w' hS; have q0 := Free.sx_cell hS f0 (fun _ _ hT => hT); have q1 := Free.sx_cell hS f1 (fun _ _ hT => hT); have q2 := Free.sx_cell hS f2 (fun _ _ hT => hT); have q3 := Free.sx_cell hS f3 (fun _ _ hT => hT); have q4 := Free.sx_cell hS f4 (fun _ _ hT => hT); have q5 := Free.sx_cell hS f5 (fun _ _ hT => hT); have q6 := Free.sx_cell hS f6 (fun _ _ hT => hT); have q7 := Free.sx_cell hS f7 (fun _ _ hT => hT); have q8 := Free.sx_cell hS x7j (fun _ _ hT => hT); have q9 := Free.sx_cell hS d0 (fun _ _ hT => hT); have q10 := Free.sx_cell hS d1 (fun _ _ hT => hT); have q11 := Free.sx_cell hS d2 (fun _ _ hT => hT); have q12 := Free.sx_cell hS d3 (fun _ _ hT => hT); have q13 := Free.sx_cell hS d4 (fun _ _ hT => hT); have q14 := Free.sx_cell hS d5 (fun _ _ hT => hT); have q15 := Free.sx_cell hS d6 (fun _ _ hT => hT); have q16 := Free.sx_cell hS d7 (fun _ _ hT => hT); go_simp <;> exact rfl); go_frame) | (refine Free.cw_skip rfl ?_; go_frame)))
              refine Free.cw_loudW rfl rfl (fun K hK => ?_)
              go_wp2_with fail
              refine (hlc.out _).mono ?_
              rintro e w5 ⟨rfl, hk5⟩
              refine hK _ _ rfl (Free.KeepsP.of hk5 (by simp)) ?_
              clear hK K hlc
              (repeat (apply Free.cw_pureW rfl rfl; (intro w'; go_simp <;> exact rfl); go_frame))
              refine Free.cw_nil ?_
              have hkj5 := Lib.hid (hkj.out.trans (((Keeps.refl [] wr).drew).trans hk5))
              clear hk5
              cases b with
              | true =>
                have hlow2 : ∀ i (hi : i < Y.length), i < j + 1 → qlt Y[i].q a.q := fun i hi hij => by
                  by_cases e : i = j
                  · subst e; exact of_decide_eq_true hb.out
                  · exact hlow.out i hi (by omega)
                replace hlow2 := Lib.hid hlow2
                go_wp2
                go_roundw
                case rel => exact ⟨j + 1, rfl, by omega, hlow2, hkj5⟩
                case measure => simp [intOf]; omega
              | false =>
                have hst : Hid (∀ hj : j < Y.length, ¬ qlt Y[j].q a.q) := Lib.hid (fun _ => of_decide_eq_false hb.out)
                go_wp2
                go_meet
                case rel => exact ⟨j, rfl, by omega, hlow, hst, hkj5⟩
            · have hst : Hid (∀ hj : j < Y.length, ¬ qlt Y[j].q a.q) := Lib.hid (fun hj => absurd hj (by rw [← hXl.out]; exact hltj))
              have hdf : decide ((j : Int) < (N : Int)) = false := by simp; omega
              go_wp2
              refine Free.wp_region_chain (fun i => i == 14) (fun i => true) (fun _ _ => False) (by kernel_rfl) (by kernel_rfl) (by kernel_rfl) ?_
              (repeat (first | (apply Free.cw_pureW rfl rfl; (intro w'; go_simp <;> exact rfl); go_frame) | (apply Free.cw_steadyW rfl rfl rfl; (intro w' hS; have q0 := Free.sx_cell hS z7 (fun _ _ hT => hT); go_simp <;> exact rfl); go_frame) | (refine Free.cw_skip rfl ?_; go_frame)))
              refine Free.cw_nil ?_
              go_wp2
              go_meet
              case rel => exact ⟨j, rfl, by omega, hlow, hst, Lib.hid hkj.out.drew⟩
        case rest =>
          obtain ⟨kk, rfl, hkk, hlow, hst, hkc1⟩ := hcut
          have hins : insA a Y = Y.take kk ++ a :: Y.drop kk := insA_at a Y kk (by rw [← hXl.out]; exact hkk) hlow.out hst.out
          have hkc := hk1.out.trans hkc1.out
          have hOc := hO1.out.keeps hkc1.out
          have hLc := hL1.out.keeps hkc1.out
          have hbxc := (hkc1.out.block _ (lt_of_blk hbx1.out) (by simp)).trans hbx1.out
          replace e0 := hkc1.out.val e0
          replace e1 := hkc1.out.val e1
          replace e2 := hkc1.out.val e2
          replace e3 := hkc1.out.val e3
          replace e4 := hkc1.out.val e4
          replace e5 := hkc1.out.val e5
          replace e6 := hkc1.out.val e6
          replace e7 := hkc1.out.val e7
          replace z7 := hkc1.out.val z7
          have hwcs : w.heap.size ≤ wc.drew.heap.size := hkc.size
          obtain ⟨_, _, ev, hNc, hoc, _⟩ := hOc.r.form
          rw [hN.out] at ev hNc
          simp only [Value.slice.injEq] at ev
          have hNc2 : N ≤ oc := by rw [ev.2.2]; exact hNc
          have hoc2 : oc ≤ 9223372036854775807 := by rw [ev.2.2]; unfold maxLen at hoc; omega
          clear ev hNc hoc
          have hT1 := hOc.r.init' kk (by rw [hN.out]; exact hkk)
          have hT2 := hOc.r.tail' kk (by rw [hN.out]; exact hkk)
          rw [hN.out] at hT2
          replace hT2 : shA.R wc (.slice (if oc = kk then oa else oa.map (·.add (kk * 8))) (N - kk) (oc - kk)) (X.drop kk) := hT2
          have f1 : (0 : Int) ≤ (kk : Int) := by omega
          have f2 : (kk : Int) ≤ (oc : Int) := by omega
          have f3 : (kk : Int) ≤ (N : Int) := by omega
          have hlt1 : (X.take kk).length ≤ 1000 := by rw [List.length_take, hN.out]; omega
          have hlt2 : (X.drop kk).length ≤ 1000 := by rw [List.length_drop, hN.out]; omega
          replace hins := Lib.hid hins
          replace hkc := Lib.hid hkc
          replace hOc := Lib.hid hOc
          replace hLc := Lib.hid hLc
          replace hbxc := Lib.hid hbxc
          replace hT1 := Lib.hid hT1
          replace hT2 := Lib.hid hT2
          replace hlt1 := Lib.hid hlt1
          replace hlt2 := Lib.hid hlt2
          clear hkc1 hlow hst
          go_wp2
          have hn : Ins.Nums 4 10 11 15 := by unfold Ins.Nums; decide
          refine Free.wp_region_free (by kernel_rfl) (by kernel_rfl) (fun i => i == 0 || i == 4 || i == 10 || i == 11 || i == 15) (Ins.F shA 4 10 11 15 wc.drew.heap.size tA (X.take kk) (⟨y0, y1, y2, y3, y4, y5, y6, y7, y8, y9⟩ : AnV) (X.drop kk)) (Ins.T 11 15 wc.drew.heap.size) (Ins.K 11 15) (Ins.stable (.inr (by kernel_rfl))) ?_
          apply Free.walk_loud rfl rfl
          · intro w' hg hf; clear hf
            have hwB := hg.size
            go_simp
            exact Ins.fE hn hwB
          intro v0
          (apply Free.walk_quiet rfl rfl; (intro w' hg hf; clear hf; go_simp <;> exact rfl))
          (apply Free.walk_quiet rfl rfl; (intro w' hg hf; clear hf; go_simp <;> exact rfl))
          (apply Free.walk_quiet rfl rfl; (intro w' hg hf; clear hf; go_simp <;> exact rfl))
          apply Free.walk_loud rfl rfl
          · intro w' hg hf
            have hF0 : Ins.F shA 4 10 11 15 wc.drew.heap.size tA (X.take kk) (⟨y0, y1, y2, y3, y4, y5, y6, y7, y8, y9⟩ : AnV) (X.drop kk) 0 v0 w' := by simpa using hf 0 (by decide) (by kernel_rfl)
            clear hf
            exact Ins.lA hn infoA rfl Tryz.underlying67 hg (fun b h => Ins.low h) hF0 (hT1.out.keeps (Keeps.refl [] wc).drew) _ _ rfl (by simp [Act.eval, Act.put]) (by simp [Act.eval, Act.put]) (by have := hlt1.out; omega)
          intro v4
          (apply Free.walk_quiet rfl rfl; (intro w' hg hf; clear hf; go_simp <;> exact rfl))
          apply Free.walk_quiet rfl rfl
          · intro w' hg hf; clear hf
            have r0 := (hg.cell _ _ (lt_of_cell z7) (fun h => Nat.not_le_of_lt (lt_of_cell z7) (Ins.low h))).trans z7
            have r1 := (hg.cell _ _ (lt_of_cell e0) (fun h => Nat.not_le_of_lt (lt_of_cell e0) (Ins.low h))).trans e0
            have r2 := (hg.cell _ _ (lt_of_cell e1) (fun h => Nat.not_le_of_lt (lt_of_cell e1) (Ins.low h))).trans e1
            have r3 := (hg.cell _ _ (lt_of_cell e2) (fun h => Nat.not_le_of_lt (lt_of_cell e2) (Ins.low h))).trans e2
            have r4 := (hg.cell _ _ (lt_of_cell e3) (fun h => Nat.not_le_of_lt (lt_of_cell e3) (Ins.low h))).trans e3
            have r5 := (hg.cell _ _ (lt_of_cell e4) (fun h => Nat.not_le_of_lt (lt_of_cell e4) (Ins.low h))).trans e4
            have r6 := (hg.cell _ _ (lt_of_cell e5) (fun h => Nat.not_le_of_lt (lt_of_cell e5) (Ins.low h))).trans e5
            have r7 := (hg.cell _ _ (lt_of_cell e6) (fun h => Nat.not_le_of_lt (lt_of_cell e6) (Ins.low h))).trans e6
            have r8 := (hg.cell _ _ (lt_of_cell e7) (fun h => Nat.not_le_of_lt (lt_of_cell e7) (Ins.low h))).trans e7
            go_simp <;> exact rfl
          (apply Free.walk_quiet rfl rfl; (intro w' hg hf; clear hf; go_simp <;> exact rfl))
          (apply Free.walk_quiet rfl rfl; (intro w' hg hf; clear hf; go_simp <;> exact rfl))
          apply Free.walk_quiet rfl rfl
          · intro w' hg hf; clear hf
            have r0 := (hg.cell _ _ (lt_of_cell z7) (fun h => Nat.not_le_of_lt (lt_of_cell z7) (Ins.low h))).trans z7
            have r1 := (hg.cell _ _ (lt_of_cell e0) (fun h => Nat.not_le_of_lt (lt_of_cell e0) (Ins.low h))).trans e0
            have r2 := (hg.cell _ _ (lt_of_cell e1) (fun h => Nat.not_le_of_lt (lt_of_cell e1) (Ins.low h))).trans e1
            have r3 := (hg.cell _ _ (lt_of_cell e2) (fun h => Nat.not_le_of_lt (lt_of_cell e2) (Ins.low h))).trans e2
            have r4 := (hg.cell _ _ (lt_of_cell e3) (fun h => Nat.not_le_of_lt (lt_of_cell e3) (Ins.low h))).trans e3
            have r5 := (hg.cell _ _ (lt_of_cell e4) (fun h => Nat.not_le_of_lt (lt_of_cell e4) (Ins.low h))).trans e4
            have r6 := (hg.cell _ _ (lt_of_cell e5) (fun h => Nat.not_le_of_lt (lt_of_cell e5) (Ins.low h))).trans e5
            have r7 := (hg.cell _ _ (lt_of_cell e6) (fun h => Nat.not_le_of_lt (lt_of_cell e6) (Ins.low h))).trans e6
            have r8 := (hg.cell _ _ (lt_of_cell e7) (fun h => Nat.not_le_of_lt (lt_of_cell e7) (Ins.low h))).trans e7
            go_simp <;> exact rfl
          apply Free.walk_loud rfl rfl
          · intro w' hg hf; clear hf
            have hwB := hg.size
            go_simp
            exact Ins.fM hn hwB _ rfl
          intro v10
          apply Free.walk_loud rfl rfl
          · intro w' hg hf
            have hFA : Ins.F shA 4 10 11 15 wc.drew.heap.size tA (X.take kk) (⟨y0, y1, y2, y3, y4, y5, y6, y7, y8, y9⟩ : AnV) (X.drop kk) 4 v4 w' := by simpa using hf 4 (by decide) (by kernel_rfl)
            have hFM : Ins.F shA 4 10 11 15 wc.drew.heap.size tA (X.take kk) (⟨y0, y1, y2, y3, y4, y5, y6, y7, y8, y9⟩ : AnV) (X.drop kk) 10 v10 w' := by simpa using hf 10 (by decide) (by kernel_rfl)
            clear hf
            exact Ins.lA2 hn infoA rfl Tryz.underlying67 hg hFA hFM _ _ rfl (by simp [Act.eval, Act.put]) (by simp [Act.eval, Act.put]) (by have := hlt1.out; omega)
          intro v11
          (apply Free.walk_quiet rfl rfl; (intro w' hg hf; clear hf; go_simp <;> exact rfl))
          (apply Free.walk_quiet rfl rfl; (intro w' hg hf; clear hf; go_simp <;> exact rfl))
          (apply Free.walk_quiet rfl rfl; (intro w' hg hf; clear hf; go_simp <;> exact rfl))
          apply Free.walk_loud rfl rfl
          · intro w' hg hf
            have hFA : Ins.F shA 4 10 11 15 wc.drew.heap.size tA (X.take kk) (⟨y0, y1, y2, y3, y4, y5, y6, y7, y8, y9⟩ : AnV) (X.drop kk) 11 v11 w' := by simpa using hf 11 (by decide) (by kernel_rfl)
            clear hf
            exact Ins.lA3 hn (by decide) infoA rfl Tryz.underlying67 hg (fun b h => Ins.low h) hFA (hT2.out.keeps (Keeps.refl [] wc).drew) _ _ rfl (by simp [Act.eval, Act.put]) (by simp [Act.eval, Act.put]) (by have := hlt1.out; have := hlt2.out; omega)
          intro v15
          (apply Free.walk_quiet rfl rfl; (intro w' hg hf; clear hf; go_simp <;> exact rfl))
          refine Free.walk_nil ?_
          intro wF hg hf
          have hFin : Ins.F shA 4 10 11 15 wc.drew.heap.size tA (X.take kk) (⟨y0, y1, y2, y3, y4, y5, y6, y7, y8, y9⟩ : AnV) (X.drop kk) 15 v15 wF := by simpa using hf 15 (by decide) (by kernel_rfl)
          have hO := Lib.hid (hFin.2.2.2.2 rfl (by decide))
          have hk := Lib.hid (hg.to ((Keeps.refl [] wc).drew) (fun b h => .inr (Ins.lowA h)))
          clear hf hg hFin
          have hOf := Lib.hid (Ins.O_le hO.out hwcs)
          have hkw' := Lib.hid (hkc.out.trans hk.out)
          have hL2 := (hLc.out.keeps hk.out).ins (hxr.out.keeps hkw'.out) kk
          rw [← hins.out, ← hfold.out] at hL2
          have hbx2 := Lib.hid ((hk.out.block _ (lt_of_blk hbxc.out) (by simp)).trans hbxc.out)
          replace hL2 := Lib.hid hL2
          clear hO
          go_wp2
          all_goals
            go_roundw
            case rel => exact ⟨k + 1, _, rfl, by omega, hOf, hL2, hkw', hbx2⟩
            case measure => simp [intOf]; omega
    · have hkx : k = x7 := by omega
      subst hkx
      have hall : (t.qs.take k).foldl insO [] = srtOf t.qs := by rw [← hx7.out, List.take_length]; rfl
      rw [hall] at hLr
      go_wp2
      go_ret
      exact ⟨_, X, rfl, hOr.out, hLr.out, hkr.out⟩
theorem sortedR_c (w : World) (x : RfV) (t : Tr) (h : RfR w x t) (hr : ∀ p ∈ t.rec', p.2.kn = true) (hl : t.qs.length ≤ 1000) :
    Calls Tryz.prog 73 #[rfV x] w (SortPost w t) :=
  (sortedO_c w x t h hr hl).mono fun e w' ⟨v, X, h1, h2, h3, h4⟩ => ⟨v, h1, ⟨X, h2.r, h3.1, fun k a b g1 g2 => (h3.2 k a b g1 g2).r⟩, h4⟩
end Go.Proofs.YtpobepninifenaaGreat
