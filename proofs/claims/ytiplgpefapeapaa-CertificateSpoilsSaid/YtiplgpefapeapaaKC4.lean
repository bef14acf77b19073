/- Texts that the laws lean on, in the order in which they build. A certificate, and what its check says (plain). The comparisons of package certificate; the sort of needs. (Printed by mkctc.py.) Identities, needs and answers among a law's arguments, opened. The specification's trace: its value, what it says; New, answered, index. The specification's less, lastUse, out. The specification's comparisons of needs and of claims. append(append(append([]E{}, ..), x), ..) in one region that draws its order: the facts of its operations. Of whatever program. The specification's Sorted. The specification's put. The specification's ClaimsOf. The specification's ClaimsOf: the walk. The specification's New and Queries. Trace.Claims; StateName. Trace.Claim, pending, Refuse. -/
import Derived.Test.YtiplgpefapeapaaKC3
import Derived.Laws.Rows
import Derived.Deep.CutRange
set_option linter.unusedVariables false
set_option linter.unusedSimpArgs false
namespace Go.Proofs.Ytiplgpefapeapaa
open Go.RowKit

/-- A certificate. -/
structure Ct where
  im : Int
  is : Int
  st : T3
  an : List Ans
  cl : List PCl
def PCl.size (p : PCl) : Nat := p.st.length + p.sc.length + p.ch.length
def Ct.size (c : Ct) : Nat := c.an.length + c.cl.length + (c.an.map (fun a => a.ins.length)).sum + (c.cl.map PCl.size).sum
/-- A trace that has just these answers. -/
def trOf (Y : List Ans) : Tr := { Tr.new 0 0 (0, 0, 0) with qs := Y.map (fun a => (a.q, some a)) }
theorem trOf_rec (Y : List Ans) : (trOf Y).rec' = Y.map (fun a => (a.q, a)) := by
  show recOf (Y.map (fun a => (a.q, some a))) = _
  induction Y with
  | nil => rfl
  | cons a Y ih => rw [List.map_cons, List.map_cons, recOf_some, ih]
abbrev SrtA (Y : List Ans) : Prop := Y.Pairwise (fun x y => qlt x.q y.q)
theorem trOf_sorted {Y : List Ans} (h : SrtA Y) : SortedA (trOf Y) Y := by
  refine ⟨?_, h⟩
  rw [trOf_rec, List.map_map]
  have : ((fun p : Qn × Ans => p.2) ∘ fun a : Ans => (a.q, a)) = id := rfl
  rw [this, List.map_id]
/-- The claims that follow from answers. -/
def clY (Y : List Ans) : List PCl := refOf (trOf Y) (outsOf Y) Y
theorem clY_eq {Y : List Ans} {P : List PCl} (h : SrtA Y) (hP : ClaimsP (trOf Y) Y P) : P = clY Y := ClaimsP.uniq h hP (refOf_claims h)
theorem clY_of {Y : List Ans} {P : List PCl} (hs : SrtA Y) (h1 : P.length = (msOf Y).length) (h2 : ∀ (k : Nat) (h1 : k < P.length) (h2 : k < (msOf Y).length), ClmAt (trOf Y) Y P[k] (msOf Y)[k]) : P = clY Y := clY_eq hs (ClaimsP.of_at hs h1 h2)
theorem luOf_trOf (Y : List Ans) (q : Qn) : luOf (trOf Y) q = luL Y q := by
  unfold luOf luL
  rw [trOf_rec]
  congr 2
  induction Y with
  | nil => rfl
  | cons a Y ih =>
    rw [List.map_cons, List.find?_cons]
    by_cases e : a.q = q
    · subst e; simp [MapS.get]
    · have e' : ¬ q = a.q := fun h => e h.symm
      simp only [MapS.get, e, decide_false]
      first
        | rw [if_neg e]; exact ih
        | rw [if_neg e']; exact ih
        | exact ih
/-! ### well-formed -/
def mach (n : Int) : Bool := decide (1 ≤ n) && decide (n ≤ 8)
def insOk (x : T3) : Bool := mach x.1 && decide (0 ≤ x.2.2)
def ansOk (a : Ans) : Bool := mach a.m && mach a.ow && decide (0 ≤ a.ep) && decide (0 ≤ a.lu) && a.ins.all insOk
def incA : List Ans → Bool
  | a :: b :: r => decide (qlt a.q b.q) && incA (b :: r)
  | _ => true
def incC : List PCl → Bool
  | a :: b :: r => decide (a.m < b.m) && incC (b :: r)
  | _ => true
theorem incA_iff : ∀ {Y : List Ans}, incA Y = true ↔ ∀ j (h : j + 1 < Y.length), qlt (Y[j]'(by omega)).q Y[j + 1].q
  | [] => by simp [incA]
  | [a] => by simp [incA]
  | a :: b :: r => by
    rw [incA, Bool.and_eq_true, decide_eq_true_iff, incA_iff (Y := b :: r)]
    constructor
    · rintro ⟨h1, h2⟩ j hj
      cases j with
      | zero => exact h1
      | succ j => exact h2 j (by simpa using hj)
    · intro h
      exact ⟨h 0 (by simp), fun j hj => h (j + 1) (by simpa using hj)⟩
theorem incC_iff : ∀ {P : List PCl}, incC P = true ↔ ∀ j (h : j + 1 < P.length), (P[j]'(by omega)).m < P[j + 1].m
  | [] => by simp [incC]
  | [a] => by simp [incC]
  | a :: b :: r => by
    rw [incC, Bool.and_eq_true, decide_eq_true_iff, incC_iff (P := b :: r)]
    constructor
    · rintro ⟨h1, h2⟩ j hj
      cases j with
      | zero => exact h1
      | succ j => exact h2 j (by simpa using hj)
    · intro h
      exact ⟨h 0 (by simp), fun j hj => h (j + 1) (by simpa using hj)⟩
theorem incA_srt : ∀ {Y : List Ans}, incA Y = true → SrtA Y
  | [], _ => List.Pairwise.nil
  | [a], _ => by simp
  | a :: b :: r, h => by
    rw [incA, Bool.and_eq_true, decide_eq_true_iff] at h
    have ih := incA_srt h.2
    refine List.pairwise_cons.2 ⟨fun x hx => ?_, ih⟩
    rcases List.mem_cons.1 hx with rfl | hx
    · exact h.1
    · exact qlt_trans h.1 ((List.pairwise_cons.1 ih).1 x hx)
theorem srt_incA {Y : List Ans} (h : SrtA Y) : incA Y = true := incA_iff.2 (fun j hj => List.pairwise_iff_getElem.1 h j (j + 1) (by omega) hj (by omega))
def wf (c : Ct) : Bool := mach c.im && decide (1 ≤ c.is) && mach c.st.1 && incA c.an && incC c.cl && c.an.all ansOk
/-! ### good -/
def kq (c : Ct) : Qn := (c.im, c.st.1, c.st.2.1)
def hasA (Y : List Ans) (q : Qn) : Bool := Y.any (fun a => decide (a.q = q))
def epB (Y : List Ans) : Bool := Y.all (fun a => Y.all (fun b => decide (a.m = b.m → a.ep = b.ep)))
def insB (Y : List Ans) (m : Int) (x : T3) : Bool := decide (MapS.get (m, x.1, x.2.1) (outsOf Y) = some x.2.2) && hasA Y (x.1, m, x.2.1)
def ansB (Y : List Ans) (a : Ans) : Bool := a.kn && !a.rt && a.ins.all (insB Y a.m)
def goodB (c : Ct) : Bool := hasA c.an (kq c) && epB c.an && c.an.all (ansB c.an) && decide (c.cl = clY c.an)
/-- What the check says: 1 for a certificate that is not well-formed, 15 for one that is rejected. -/
def chk (c : Ct) : Int := if wf c = true then (if goodB c = true then 0 else 15) else 1
theorem hasA_iff {Y : List Ans} {q : Qn} : hasA Y q = true ↔ ∃ a ∈ Y, a.q = q := by unfold hasA; simp
theorem epB_iff {Y : List Ans} : epB Y = true ↔ ∀ a ∈ Y, ∀ b ∈ Y, a.m = b.m → a.ep = b.ep := by unfold epB; simp only [List.all_eq_true, decide_eq_true_eq]
/-! ### the specification -/
/-- The scions of a machine, in order, each with its first Out. -/
def ofA (m : Int) (l : List T3) (a : Ans) : List T3 := if a.m = m then a.ins.foldl (fun l x => putN x l) l else l
def ofL (Y : List Ans) (m : Int) : List T3 := Y.foldl (ofA m) []
/-- A number is put in its place, if it is not there. -/
def putZ (n : Int) : List Int → List Int
  | [] => [n]
  | x :: r => if x < n then x :: putZ n r else if x = n then x :: r else n :: x :: r
def mR (Y : List Ans) : List Int := Y.foldl (fun l a => putZ a.m l) []
/-- A need is put in its place. -/
def insN (n : T3) : List T3 → List T3
  | [] => [n]
  | x :: r => if tlt x n then x :: insN n r else n :: x :: r
def outR (Y : List Ans) (q : Qn) : Option Int := ((ofL Y q.1).find? (fun x => decide (x.1 = q.2.1 ∧ x.2.1 = q.2.2))).map (fun x => x.2.2)
def scnR (Y : List Ans) (m : Int) (l : List T3) (x : T3) : List T3 := insN (x.1, x.2.1, luL Y (x.1, m, x.2.1)) l
def clmA (Y : List Ans) (m : Int) (p : PCl) (a : Ans) : PCl :=
  if a.m = m then (match outR Y (a.ow, m, a.n) with
    | some n => { p with ep := a.ep, st := insN (a.ow, a.n, n) p.st }
    | none => { p with ep := a.ep, ch := insN (a.ow, a.n, 0) p.ch }) else p
def clmR (Y : List Ans) (m : Int) : PCl := Y.foldl (clmA Y m) ⟨m, 0, [], (ofL Y m).foldl (scnR Y m) [], []⟩
theorem putN_find {n : T3} {k : Int × Nat} : ∀ {l : List T3}, l.Pairwise tlt → (putN n l).find? (fun x => decide (x.1 = k.1 ∧ x.2.1 = k.2)) = (l.find? (fun x => decide (x.1 = k.1 ∧ x.2.1 = k.2))).or (if n.1 = k.1 ∧ n.2.1 = k.2 then some n else none)
  | [], _ => by
    unfold putN
    rw [List.find?_cons]
    by_cases e : n.1 = k.1 ∧ n.2.1 = k.2 <;> simp [e]
  | x :: r, h => by
    obtain ⟨h1, h2⟩ := List.pairwise_cons.1 h
    unfold putN
    by_cases c1 : tlt x n
    · rw [if_pos c1, List.find?_cons, List.find?_cons, putN_find h2]
      by_cases e : x.1 = k.1 ∧ x.2.1 = k.2 <;> simp [e]
    · rw [if_neg c1]
      by_cases c2 : x.1 = n.1 ∧ x.2.1 = n.2.1
      · rw [if_pos c2, List.find?_cons]
        by_cases e : x.1 = k.1 ∧ x.2.1 = k.2
        · simp [e]
        · have e2 : ¬ (n.1 = k.1 ∧ n.2.1 = k.2) := fun h => e ⟨c2.1.trans h.1, c2.2.trans h.2⟩
          rw [if_neg e2]
          simp
      · rw [if_neg c2, List.find?_cons]
        by_cases e : n.1 = k.1 ∧ n.2.1 = k.2
        · have hnone : (x :: r).find? (fun x => decide (x.1 = k.1 ∧ x.2.1 = k.2)) = none := by
            refine List.find?_eq_none.2 (fun y hy => ?_)
            have hny : tlt n y := by
              have hnx : tlt n x := by unfold tlt at c1 ⊢; omega
              rcases List.mem_cons.1 hy with rfl | hy
              · exact hnx
              · exact tlt_trans hnx (h1 y hy)
            simp only [decide_eq_true_eq]
            intro hh
            unfold tlt at hny
            omega
          rw [hnone]
          simp [e]
        · simp [e]
theorem ofA_srt {m : Int} {l : List T3} (a : Ans) (h : l.Pairwise tlt) : (ofA m l a).Pairwise tlt := by
  unfold ofA
  split
  · generalize a.ins = xs
    induction xs generalizing l with
    | nil => exact h
    | cons x r ih => exact ih (putN_sorted h)
  · exact h
theorem ofL_srt (Y : List Ans) (m : Int) : (ofL Y m).Pairwise tlt := by
  unfold ofL
  suffices h : ∀ (Y : List Ans) (l : List T3), l.Pairwise tlt → (Y.foldl (ofA m) l).Pairwise tlt from h Y [] List.Pairwise.nil
  intro Y
  induction Y with
  | nil => exact fun l h => h
  | cons a Y ih => exact fun l h => ih _ (ofA_srt a h)
theorem ins_find (k : Int × Nat) : ∀ (xs : List T3) (l : List T3), l.Pairwise tlt → ((xs.foldl (fun l x => putN x l) l).find? (fun x => decide (x.1 = k.1 ∧ x.2.1 = k.2))) = (l.find? (fun x => decide (x.1 = k.1 ∧ x.2.1 = k.2))).or (xs.find? (fun x => decide (x.1 = k.1 ∧ x.2.1 = k.2)))
  | [], l, _ => by simp
  | x :: r, l, h => by
    rw [List.foldl_cons, ins_find k r _ (putN_sorted h), putN_find h, List.find?_cons, Option.or_assoc]
    congr 1
    by_cases e : x.1 = k.1 ∧ x.2.1 = k.2 <;> simp [e]
theorem find_map_some {α β : Type} (p : α → Bool) (g : α → β) : ∀ l : List α, (l.find? p).map g = l.findSome? (fun x => if p x = true then some (g x) else none)
  | [] => rfl
  | x :: r => by
    rw [List.find?_cons, List.findSome?_cons]
    cases hp : p x with
    | true => simp
    | false => simp [find_map_some p g r]
/-- The specification finds the same Out. -/
theorem outR_eq (Y : List Ans) (q : Qn) : outR Y q = MapS.get q (outsOf Y) := by
  rw [outsOf_get]
  obtain ⟨m, c, n⟩ := q
  unfold outR ofL outL
  simp only
  suffices h : ∀ (Y : List Ans) (l : List T3), l.Pairwise tlt → ((Y.foldl (ofA m) l).find? (fun x => decide (x.1 = c ∧ x.2.1 = n))).map (fun x => x.2.2) = ((l.find? (fun x => decide (x.1 = c ∧ x.2.1 = n))).map (fun x => x.2.2)).or (Y.findSome? (fun a => a.ins.findSome? (fun x => if a.m = m ∧ x.1 = c ∧ x.2.1 = n then some x.2.2 else none))) by
    rw [h Y [] List.Pairwise.nil]
    simp
  intro Y
  induction Y with
  | nil => intro l _; simp
  | cons a Y ih =>
    intro l hl
    rw [List.foldl_cons, ih _ (ofA_srt a hl), List.findSome?_cons]
    unfold ofA
    by_cases e : a.m = m
    · rw [if_pos e, ins_find (c, n) a.ins l hl]
      have e2 : (fun x : T3 => if a.m = m ∧ x.1 = c ∧ x.2.1 = n then some x.2.2 else none) = (fun x : T3 => if decide (x.1 = c ∧ x.2.1 = n) = true then some x.2.2 else none) := by
        funext x
        simp [e]
      rw [e2, ← find_map_some]
      cases l.find? (fun x => decide (x.1 = c ∧ x.2.1 = n)) with
      | some y => simp
      | none =>
        simp only [Option.none_or, Option.map_none]
        cases a.ins.find? (fun x => decide (x.1 = c ∧ x.2.1 = n)) with
        | some y => simp
        | none => simp
    · rw [if_neg e]
      have e2 : a.ins.findSome? (fun x => if a.m = m ∧ x.1 = c ∧ x.2.1 = n then some x.2.2 else none) = none := List.findSome?_eq_none_iff.2 (fun x _ => by rw [if_neg (fun h => e h.1)])
      rw [e2]
/-! #### the machines -/
theorem putZ_end {n : Int} : ∀ {l : List Int}, l.Pairwise (· < ·) → (∀ x ∈ l, x ≤ n) → putZ n l = if l.getLast? = some n then l else l ++ [n]
  | [], _, _ => by simp [putZ]
  | [x], _, h => by
    have := h x (by simp)
    unfold putZ
    by_cases e : x = n
    · subst e; simp
    · rw [if_pos (by omega)]; simp [putZ, e]
  | x :: y :: r, hs, h => by
    obtain ⟨h1, h2⟩ := List.pairwise_cons.1 hs
    have h3 := h1 y (by simp)
    have h4 := h y (by simp)
    unfold putZ
    rw [if_pos (by omega), putZ_end h2 (fun z hz => h z (by simp [hz])), List.getLast?_cons_cons]
    split <;> simp
theorem mR_eq {Y : List Ans} : SrtA Y → mR Y = msOf Y := by
  induction Y using snoc_ind with
  | h0 => exact fun _ => rfl
  | hs Y a ih =>
    intro hs
    obtain ⟨hs1, _, hs2⟩ := List.pairwise_append.1 hs
    have hle : ∀ b ∈ Y, b.m ≤ a.m := fun b hb => by have := hs2 b hb a (by simp); unfold qlt Ans.q at this; simp only at this; omega
    obtain ⟨_, i2, i3⟩ := rawOf_eq (trOf Y) [] Y hs1
    have e1 : mR (Y ++ [a]) = putZ a.m (mR Y) := by unfold mR; rw [List.foldl_append]; rfl
    have e2 : msOf (Y ++ [a]) = msA (msOf Y) a := by unfold msOf; rw [List.foldl_append]; rfl
    rw [e1, e2, ih hs1, putZ_end i2 (fun x hx => by obtain ⟨b, hb, e⟩ := (i3 x).1 hx; have := hle b hb; omega)]
    rfl
/-! #### the claims -/
theorem insN_perm (n : T3) : ∀ l : List T3, (insN n l).Perm (n :: l)
  | [] => by simp [insN]
  | x :: r => by
    unfold insN
    split
    · exact ((insN_perm n r).cons x).trans (List.Perm.swap _ _ _)
    · exact List.Perm.refl _
theorem insN_srt {n : T3} : ∀ {l : List T3}, l.Pairwise (fun x y => ¬ tlt y x) → (insN n l).Pairwise (fun x y => ¬ tlt y x)
  | [], _ => by simp [insN]
  | x :: r, h => by
    obtain ⟨h1, h2⟩ := List.pairwise_cons.1 h
    unfold insN
    split
    · rename_i hx
      refine List.pairwise_cons.2 ⟨fun e he => ?_, insN_srt h2⟩
      rcases List.mem_cons.1 ((insN_perm n r).mem_iff.1 he) with rfl | he
      · unfold tlt at *; omega
      · exact h1 e he
    · rename_i hx
      refine List.pairwise_cons.2 ⟨fun e he => ?_, h⟩
      rcases List.mem_cons.1 he with rfl | he
      · exact hx
      · have := h1 e he
        unfold tlt at *; omega
theorem ins_fold {α : Type} (g : α → T3) : ∀ (xs : List α) (l : List T3), l.Pairwise (fun x y => ¬ tlt y x) → (xs.foldl (fun l x => insN (g x) l) l).Perm (l ++ xs.map g) ∧ (xs.foldl (fun l x => insN (g x) l) l).Pairwise (fun x y => ¬ tlt y x)
  | [], l, h => by simpa using h
  | x :: r, l, h => by
    obtain ⟨h1, h2⟩ := ins_fold g r (insN (g x) l) (insN_srt h)
    refine ⟨?_, h2⟩
    rw [List.foldl_cons]
    refine h1.trans ?_
    rw [List.map_cons]
    exact ((insN_perm (g x) l).append_right _).trans (by simpa using (List.perm_middle (a := g x) (l₁ := l) (l₂ := r.map g)).symm)
theorem ofL_mem (Y : List Ans) (m : Int) (x : T3) : x ∈ ofL Y m ↔ outR Y (m, x.1, x.2.1) = some x.2.2 := by
  have hs := ofL_srt Y m
  unfold outR
  simp only
  constructor
  · intro hx
    cases hf : (ofL Y m).find? (fun y => decide (y.1 = x.1 ∧ y.2.1 = x.2.1)) with
    | none =>
      have := List.find?_eq_none.1 hf x hx
      simp at this
    | some y =>
      have h1 := List.find?_some hf
      have h2 := List.mem_of_find?_eq_some hf
      simp only [decide_eq_true_eq] at h1
      have : y = x := by
        obtain ⟨i, hi, rfl⟩ := List.getElem_of_mem hx
        obtain ⟨j, hj, rfl⟩ := List.getElem_of_mem h2
        rcases Nat.lt_trichotomy i j with e | e | e
        · have := List.pairwise_iff_getElem.1 hs i j hi hj e
          unfold tlt at this; omega
        · subst e; rfl
        · have := List.pairwise_iff_getElem.1 hs j i hj hi e
          unfold tlt at this; omega
      rw [this]; rfl
  · intro h
    cases hf : (ofL Y m).find? (fun y => decide (y.1 = x.1 ∧ y.2.1 = x.2.1)) with
    | none => rw [hf] at h; cases h
    | some y =>
      rw [hf] at h
      have h1 := List.find?_some hf
      have h2 := List.mem_of_find?_eq_some hf
      simp only [decide_eq_true_eq] at h1
      simp only [Option.map_some, Option.some.injEq] at h
      have : y = x := Prod.ext h1.1 (Prod.ext h1.2 h)
      rw [← this]; exact h2
theorem scOf_nd (t : Tr) (Y : List Ans) (m : Int) : (scOf t Y m).Nodup := by
  unfold scOf
  suffices h : ∀ (Y : List Ans) (l : List T3), l.Nodup → (Y.foldl (scA t m) l).Nodup from h Y [] List.nodup_nil
  intro Y
  induction Y with
  | nil => exact fun l h => h
  | cons a Y ih =>
    refine fun l h => ih _ ?_
    unfold scA
    split
    · generalize a.ins = xs
      induction xs generalizing l with
      | nil => exact h
      | cons x r ih2 =>
        refine ih2 _ ?_
        unfold scS addN
        split
        · exact h
        · rename_i hn
          rw [List.nodup_append]
          exact ⟨h, by simp, fun a ha b hb e => by simp at hb; subst hb; subst e; exact hn ha⟩
    · exact h
theorem scs_perm (Y : List Ans) (m : Int) : ((ofL Y m).map (fun x => (x.1, x.2.1, luL Y (x.1, m, x.2.1)))).Perm (scOf (trOf Y) Y m) := by
  have hs := ofL_srt Y m
  refine (List.perm_ext_iff_of_nodup ?_ (scOf_nd _ _ _)).2 (fun e => ?_)
  · rw [List.Nodup, List.pairwise_map]
    exact hs.imp (fun h e => by simp only [Prod.mk.injEq] at e; unfold tlt at h; omega)
  · rw [scOf_mem, List.mem_map]
    constructor
    · rintro ⟨x, hx, rfl⟩
      rw [ofL_mem, outR_eq] at hx
      obtain ⟨a, ha, y, hy, e⟩ := (outsOf_some Y (m, x.1, x.2.1)).1 (by rw [hx]; rfl)
      simp only [Prod.mk.injEq] at e
      obtain ⟨e1, e2, e3⟩ := e
      refine ⟨a, ha, e1.symm, y, hy, ?_⟩
      unfold scN
      rw [luOf_trOf, e2, e3]
    · rintro ⟨a, ha, hm, y, hy, rfl⟩
      have h1 := (outsOf_some Y (m, y.1, y.2.1)).2 ⟨a, ha, y, hy, by rw [hm]⟩
      obtain ⟨o, ho⟩ := Option.isSome_iff_exists.1 h1
      refine ⟨(y.1, y.2.1, o), (ofL_mem Y m _).2 (by rw [outR_eq]; exact ho), ?_⟩
      unfold scN
      rw [luOf_trOf]
theorem stOf_cons (O : List (Qn × Int)) (a : Ans) (Y : List Ans) (m : Int) : stOf O (a :: Y) m = (stA O m a).toList ++ stOf O Y m := by
  unfold stOf
  rw [List.filterMap_cons]
  cases stA O m a <;> rfl
theorem chOf_cons (O : List (Qn × Int)) (a : Ans) (Y : List Ans) (m : Int) : chOf O (a :: Y) m = (chA O m a).toList ++ chOf O Y m := by
  unfold chOf
  rw [List.filterMap_cons]
  cases chA O m a <;> rfl
theorem insN_app (n : T3) (l r : List T3) : (insN n l ++ r).Perm (l ++ ([n] ++ r)) :=
  ((insN_perm n l).append_right r).trans (by simpa using (List.perm_middle (a := n) (l₁ := l) (l₂ := r)).symm)
theorem clm_fold (Y0 : List Ans) (m : Int) : ∀ (Y : List Ans) (p : PCl), p.st.Pairwise (fun x y => ¬ tlt y x) → p.ch.Pairwise (fun x y => ¬ tlt y x) →
    (Y.foldl (clmA Y0 m) p).m = p.m ∧ (Y.foldl (clmA Y0 m) p).sc = p.sc ∧ (Y.foldl (clmA Y0 m) p).st.Perm (p.st ++ stOf (outsOf Y0) Y m) ∧ (Y.foldl (clmA Y0 m) p).st.Pairwise (fun x y => ¬ tlt y x) ∧
    (Y.foldl (clmA Y0 m) p).ch.Perm (p.ch ++ chOf (outsOf Y0) Y m) ∧ (Y.foldl (clmA Y0 m) p).ch.Pairwise (fun x y => ¬ tlt y x) ∧ (((Y.foldl (clmA Y0 m) p).ep = p.ep ∧ ∀ a ∈ Y, a.m ≠ m) ∨ ∃ a ∈ Y, a.m = m ∧ (Y.foldl (clmA Y0 m) p).ep = a.ep)
  | [], p, h1, h2 => by simpa [stOf, chOf] using ⟨h1, h2⟩
  | a :: Y, p, h1, h2 => by
    rw [List.foldl_cons]
    by_cases e : a.m = m
    · cases ho : outR Y0 (a.ow, m, a.n) with
      | some n =>
        have hc : clmA Y0 m p a = { p with ep := a.ep, st := insN (a.ow, a.n, n) p.st } := by unfold clmA; rw [if_pos e, ho]
        obtain ⟨g1, g2, g3, g4, g5, g6, g7⟩ := clm_fold Y0 m Y (clmA Y0 m p a) (by rw [hc]; exact insN_srt h1) (by rw [hc]; exact h2)
        have hst : stA (outsOf Y0) m a = some (a.ow, a.n, n) := by unfold stA; rw [if_pos e, e, ← outR_eq, ho]; rfl
        have hch : chA (outsOf Y0) m a = none := by unfold chA; rw [if_neg (fun h => by rw [e, ← outR_eq, ho] at h; cases h.2)]
        refine ⟨by rw [g1, hc], by rw [g2, hc], ?_, g4, ?_, g6, .inr ?_⟩
        · rw [stOf_cons, hst]
          rw [hc] at g3
          rw [hc]
          exact g3.trans (insN_app _ _ _)
        · rw [chOf_cons, hch]
          rw [hc] at g5
          rw [hc]
          exact g5
        · rcases g7 with ⟨g7, _⟩ | ⟨b, hb, hm, g7⟩
          · exact ⟨a, by simp, e, by rw [g7, hc]⟩
          · exact ⟨b, by simp [hb], hm, g7⟩
      | none =>
        have hc : clmA Y0 m p a = { p with ep := a.ep, ch := insN (a.ow, a.n, 0) p.ch } := by unfold clmA; rw [if_pos e, ho]
        obtain ⟨g1, g2, g3, g4, g5, g6, g7⟩ := clm_fold Y0 m Y (clmA Y0 m p a) (by rw [hc]; exact h1) (by rw [hc]; exact insN_srt h2)
        have hst : stA (outsOf Y0) m a = none := by unfold stA; rw [if_pos e, e, ← outR_eq, ho]; rfl
        have hch : chA (outsOf Y0) m a = some (a.ow, a.n, 0) := by unfold chA; rw [if_pos ⟨e, by rw [e, ← outR_eq, ho]⟩]
        refine ⟨by rw [g1, hc], by rw [g2, hc], ?_, g4, ?_, g6, .inr ?_⟩
        · rw [stOf_cons, hst]
          rw [hc] at g3
          rw [hc]
          exact g3
        · rw [chOf_cons, hch]
          rw [hc] at g5
          rw [hc]
          exact g5.trans (insN_app _ _ _)
        · rcases g7 with ⟨g7, _⟩ | ⟨b, hb, hm, g7⟩
          · exact ⟨a, by simp, e, by rw [g7, hc]⟩
          · exact ⟨b, by simp [hb], hm, g7⟩
    · have hc : clmA Y0 m p a = p := by unfold clmA; rw [if_neg e]
      rw [hc]
      obtain ⟨g1, g2, g3, g4, g5, g6, g7⟩ := clm_fold Y0 m Y p h1 h2
      have hst : stA (outsOf Y0) m a = none := by unfold stA; rw [if_neg e]
      have hch : chA (outsOf Y0) m a = none := by unfold chA; rw [if_neg (fun h => e h.1)]
      refine ⟨g1, g2, by rw [stOf_cons, hst]; exact g3, g4, by rw [chOf_cons, hch]; exact g5, g6, ?_⟩
      rcases g7 with ⟨g7, g8⟩ | ⟨b, hb, hm, g7⟩
      · exact .inl ⟨g7, fun b hb => by
          rcases List.mem_cons.1 hb with rfl | hb
          · exact e
          · exact g8 b hb⟩
      · exact .inr ⟨b, by simp [hb], hm, g7⟩
theorem epOf_eq {Y : List Ans} (he : epB Y = true) {a : Ans} (ha : a ∈ Y) : epOf Y a.m = a.ep := by
  unfold epOf
  cases hf : Y.find? (fun b => b.m == a.m) with
  | none =>
    have := List.find?_eq_none.1 hf a ha
    simp at this
  | some b =>
    have h1 := List.find?_some hf
    have h2 := List.mem_of_find?_eq_some hf
    exact epB_iff.1 he b h2 a ha (by simpa using h1)
theorem clmR_at {Y : List Ans} (he : epB Y = true) {m : Int} (hm : ∃ a ∈ Y, a.m = m) : ClmAt (trOf Y) Y (clmR Y m) m := by
  obtain ⟨i1, i2⟩ := ins_fold (fun x : T3 => (x.1, x.2.1, luL Y (x.1, m, x.2.1))) (ofL Y m) [] List.Pairwise.nil
  obtain ⟨g1, g2, g3, g4, g5, g6, g7⟩ := clm_fold Y m Y ⟨m, 0, [], (ofL Y m).foldl (scnR Y m) [], []⟩ List.Pairwise.nil List.Pairwise.nil
  have hsc : (clmR Y m).sc = (ofL Y m).foldl (fun l x => insN (x.1, x.2.1, luL Y (x.1, m, x.2.1)) l) [] := g2
  refine ⟨g1, ?_, fun j hj => ?_⟩
  · rcases g7 with ⟨_, g8⟩ | ⟨b, hb, hbm, g7⟩
    · obtain ⟨a, ha, e⟩ := hm
      exact absurd e (g8 a ha)
    · have := epOf_eq he hb
      rw [hbm] at this
      rw [this]
      exact g7
  · match j, hj with
    | 0, _ => exact ⟨g3, g4⟩
    | 1, _ =>
      show (clmR Y m).sc.Perm (scOf (trOf Y) Y m) ∧ (clmR Y m).sc.Pairwise _
      rw [hsc]
      exact ⟨(i1.trans (by simp)).trans (scs_perm Y m), i2⟩
    | 2, _ => exact ⟨g5, g6⟩
/-- The specification's claims are those that follow. -/
theorem clmsR_eq {Y : List Ans} (hs : SrtA Y) (he : epB Y = true) : (mR Y).map (clmR Y) = clY Y := by
  have hm := mR_eq hs
  obtain ⟨_, _, i3⟩ := rawOf_eq (trOf Y) [] Y hs
  refine clY_of hs (by rw [List.length_map, hm]) (fun k h1 h2 => ?_)
  have hk : k < (mR Y).length := by rw [hm]; exact h2
  rw [List.getElem_map]
  have e : (mR Y)[k] = (msOf Y)[k] := by simp only [hm]
  rw [e]
  exact clmR_at he ((i3 _).1 (List.getElem_mem h2))
end Go.Proofs.Ytiplgpefapeapaa

namespace Go.Proofs.Ytiplgpefapeapaa
open Go.RowKit Go.Sort Go.Shelf Go.Proofs

theorem keeps_grow (w : World) (q : Nat) (os : Array Obj) : Keeps [] w (Sort.grow (w.drewN q) os) := by
  refine ⟨rfl, rfl, rfl, ?_, fun k hk _ => ?_⟩
  · simp [Sort.grow]
  · simp only [Sort.grow]
    rw [Array.getElem?_append_left (by simpa using hk)]
    rfl
set_option maxRecDepth 100000 in
set_option maxHeartbeats 2000000 in
theorem cmpN_c (x y : T3) (w : World) : Calls Try.prog 46 #[tV x, tV y] w fun e w' => e = .returned (.int .i64 (cfT x y)) ∧ ∃ q os, w' = grow (w.drewN q) os := by
  obtain ⟨x0, x1, x2⟩ := x
  obtain ⟨y0, y1, y2⟩ := y
  obtain ⟨r, hr⟩ : ∃ r, cfT (x0, x1, x2) (y0, y1, y2) = r := ⟨_, rfl⟩
  rw [hr]
  replace hr := Lib.hid hr
  have hk2 : Keeps [] (w.alloc (.cells #[.int .i64 x0, .int .u64 x1, .int .i64 x2] tN)) ((w.alloc (.cells #[.int .i64 x0, .int .u64 x1, .int .i64 x2] tN)).alloc (.cells #[.int .i64 y0, .int .u64 y1, .int .i64 y2] tN)) := (Keeps.refl _ _).alloc _
  have b1 := (hk2.block w.heap.size (by simp) (by simp)).trans (heap_alloc_new w (.cells #[.int .i64 x0, .int .u64 x1, .int .i64 x2] tN))
  have b2 := heap_alloc_new (w.alloc (.cells #[.int .i64 x0, .int .u64 x1, .int .i64 x2] tN)) (.cells #[.int .i64 y0, .int .u64 y1, .int .i64 y2] tN)
  rw [show (w.alloc (.cells #[.int .i64 x0, .int .u64 x1, .int .i64 x2] tN)).heap.size = w.heap.size + 1 by simp] at b2
  have hgr : (w.alloc (.cells #[.int .i64 x0, .int .u64 x1, .int .i64 x2] tN)).alloc (.cells #[.int .i64 y0, .int .u64 y1, .int .i64 y2] tN) = grow w #[.cells #[.int .i64 x0, .int .u64 x1, .int .i64 x2] tN, .cells #[.int .i64 y0, .int .u64 y1, .int .i64 y2] tN] := by
    rw [alloc_eq_grow, alloc_eq_grow, grow_grow]; rfl
  replace hgr := Lib.hid hgr
  go_enter Try.func46, Try.ntmps46
  go_wp2
  generalize (w.alloc (.cells #[.int .i64 x0, .int .u64 x1, .int .i64 x2] tN)).alloc (.cells #[.int .i64 y0, .int .u64 y1, .int .i64 y2] tN) = W at *
  obtain ⟨p0, p1, _⟩ := cells3t b1
  obtain ⟨s0, s1, _⟩ := cells3t b2
  clear b1 b2 hk2
  refine Free.wp_region_chain (fun i => i == 4 || i == 9 || i == 10 || i == 11) (fun i => true) (fun _ _ => False) (by kernel_rfl) (by kernel_rfl) (by kernel_rfl) ?_
  (repeat (first | (apply Free.cw_pure rfl rfl; (intro w'; go_simp <;> exact rfl); go_frame) | (apply Free.cw_steady rfl rfl rfl; (intro w' hS; have q0 := Free.sx_cell hS p0 (fun _ _ hT => hT); have q1 := Free.sx_cell hS p1 (fun _ _ hT => hT); have q2 := Free.sx_cell hS s0 (fun _ _ hT => hT); have q3 := Free.sx_cell hS s1 (fun _ _ hT => hT); go_simp <;> exact rfl); go_frame) | (refine Free.cw_skip rfl ?_; go_frame)))
  refine Free.cw_loud rfl rfl (fun K hK => ?_)
  go_wp2_with fail
  refine (compareI_c x0 y0 _).mono ?_
  rintro e _ ⟨rfl, rfl⟩
  refine hK _ _ rfl (Free.KeepsP.refl _ _) ?_
  clear hK K
  (repeat (first | (apply Free.cw_pure rfl rfl; (intro w'; go_simp <;> exact rfl); go_frame) | (apply Free.cw_steady rfl rfl rfl; (intro w' hS; have q0 := Free.sx_cell hS p0 (fun _ _ hT => hT); have q1 := Free.sx_cell hS p1 (fun _ _ hT => hT); have q2 := Free.sx_cell hS s0 (fun _ _ hT => hT); have q3 := Free.sx_cell hS s1 (fun _ _ hT => hT); go_simp <;> exact rfl); go_frame) | (refine Free.cw_skip rfl ?_; go_frame)))
  refine Free.cw_loud rfl rfl (fun K hK => ?_)
  go_wp2_with fail
  refine (compareU_c x1 y1 _).mono ?_
  rintro e _ ⟨rfl, rfl⟩
  refine hK _ _ rfl (Free.KeepsP.refl _ _) ?_
  clear hK K
  (repeat (first | (apply Free.cw_pure rfl rfl; (intro w'; go_simp <;> exact rfl); go_frame) | (apply Free.cw_steady rfl rfl rfl; (intro w' hS; have q0 := Free.sx_cell hS p0 (fun _ _ hT => hT); have q1 := Free.sx_cell hS p1 (fun _ _ hT => hT); have q2 := Free.sx_cell hS s0 (fun _ _ hT => hT); have q3 := Free.sx_cell hS s1 (fun _ _ hT => hT); go_simp <;> exact rfl); go_frame) | (refine Free.cw_skip rfl ?_; go_frame)))
  refine Free.cw_loud rfl rfl (fun K hK => ?_)
  go_wp2
  refine hK _ _ rfl (Free.KeepsP.alloc _ _ _) ?_
  clear hK K
  (repeat (apply Free.cw_pure rfl rfl; (intro w'; go_simp <;> exact rfl); go_frame))
  refine Free.cw_loud rfl rfl (fun K hK => ?_)
  go_wp2_with fail
  refine (or_c _ _ _ ((shZ_of2 W (cI x0 y0) (cI x1 y1) 3).keeps ((Keeps.refl [] _).drew))).mono ?_
  rintro e _ ⟨rfl, rfl⟩
  refine hK _ _ rfl (Free.KeepsP.refl _ _) ?_
  clear hK K
  (repeat (apply Free.cw_pure rfl rfl; (intro w'; go_simp <;> exact rfl); go_frame))
  refine Free.cw_nil ?_
  go_wp2
  go_ret
  exact ⟨by rw [← hr.out]; rfl, 1, _, by rw [hgr.out, alloc_eq_grow, grow_grow]; rfl⟩
set_option maxRecDepth 100000 in
set_option maxHeartbeats 2000000 in
theorem cmpB_c (x y : AnV) (w : World) : Calls Try.prog 40 #[aV x, aV y] w fun e w' => e = .returned (.int .i64 (cfA x y)) ∧ ∃ q os, w' = grow (w.drewN q) os := by
  obtain ⟨r, hr⟩ : ∃ r, cfA x y = r := ⟨_, rfl⟩
  rw [hr]
  obtain ⟨x0, x1, x2, x3, x4, x5, x6, x7, x8, x9⟩ := x
  obtain ⟨y0, y1, y2, y3, y4, y5, y6, y7, y8, y9⟩ := y
  replace hr := Lib.hid hr
  have hk2 : Keeps [] (w.alloc (.cells #[.int .i64 x0, .int .i64 x1, .int .u64 x2, .int .i64 x3, .bool x4, .bool x5, .int .i64 x6, .slice x7 x8 x9] tA)) ((w.alloc (.cells #[.int .i64 x0, .int .i64 x1, .int .u64 x2, .int .i64 x3, .bool x4, .bool x5, .int .i64 x6, .slice x7 x8 x9] tA)).alloc (.cells #[.int .i64 y0, .int .i64 y1, .int .u64 y2, .int .i64 y3, .bool y4, .bool y5, .int .i64 y6, .slice y7 y8 y9] tA)) := (Keeps.refl _ _).alloc _
  have b1 := (hk2.block w.heap.size (by simp) (by simp)).trans (heap_alloc_new w (.cells #[.int .i64 x0, .int .i64 x1, .int .u64 x2, .int .i64 x3, .bool x4, .bool x5, .int .i64 x6, .slice x7 x8 x9] tA))
  have b2 := heap_alloc_new (w.alloc (.cells #[.int .i64 x0, .int .i64 x1, .int .u64 x2, .int .i64 x3, .bool x4, .bool x5, .int .i64 x6, .slice x7 x8 x9] tA)) (.cells #[.int .i64 y0, .int .i64 y1, .int .u64 y2, .int .i64 y3, .bool y4, .bool y5, .int .i64 y6, .slice y7 y8 y9] tA)
  rw [show (w.alloc (.cells #[.int .i64 x0, .int .i64 x1, .int .u64 x2, .int .i64 x3, .bool x4, .bool x5, .int .i64 x6, .slice x7 x8 x9] tA)).heap.size = w.heap.size + 1 by simp] at b2
  have hgr : (w.alloc (.cells #[.int .i64 x0, .int .i64 x1, .int .u64 x2, .int .i64 x3, .bool x4, .bool x5, .int .i64 x6, .slice x7 x8 x9] tA)).alloc (.cells #[.int .i64 y0, .int .i64 y1, .int .u64 y2, .int .i64 y3, .bool y4, .bool y5, .int .i64 y6, .slice y7 y8 y9] tA) = grow w #[.cells #[.int .i64 x0, .int .i64 x1, .int .u64 x2, .int .i64 x3, .bool x4, .bool x5, .int .i64 x6, .slice x7 x8 x9] tA, .cells #[.int .i64 y0, .int .i64 y1, .int .u64 y2, .int .i64 y3, .bool y4, .bool y5, .int .i64 y6, .slice y7 y8 y9] tA] := by
    rw [alloc_eq_grow, alloc_eq_grow, grow_grow]; rfl
  replace hgr := Lib.hid hgr
  simp only [aV, AnV.v]
  go_enter Try.func40, Try.ntmps40
  go_wp2
  generalize (w.alloc (.cells #[.int .i64 x0, .int .i64 x1, .int .u64 x2, .int .i64 x3, .bool x4, .bool x5, .int .i64 x6, .slice x7 x8 x9] tA)).alloc (.cells #[.int .i64 y0, .int .i64 y1, .int .u64 y2, .int .i64 y3, .bool y4, .bool y5, .int .i64 y6, .slice y7 y8 y9] tA) = W at *
  obtain ⟨p0, p1, p2⟩ := cells8t b1
  obtain ⟨s0, s1, s2⟩ := cells8t b2
  clear b1 b2 hk2
  refine Free.wp_region_chain (fun i => i == 4 || i == 9 || i == 14 || i == 15 || i == 16) (fun i => true) (fun _ _ => False) (by kernel_rfl) (by kernel_rfl) (by kernel_rfl) ?_
  (repeat (first | (apply Free.cw_pure rfl rfl; (intro w'; go_simp <;> exact rfl); go_frame) | (apply Free.cw_steady rfl rfl rfl; (intro w' hS; have q0 := Free.sx_cell hS p0 (fun _ _ hT => hT); have q1 := Free.sx_cell hS p1 (fun _ _ hT => hT); have q2 := Free.sx_cell hS p2 (fun _ _ hT => hT); have q3 := Free.sx_cell hS s0 (fun _ _ hT => hT); have q4 := Free.sx_cell hS s1 (fun _ _ hT => hT); have q5 := Free.sx_cell hS s2 (fun _ _ hT => hT); go_simp <;> exact rfl); go_frame) | (refine Free.cw_skip rfl ?_; go_frame)))
  refine Free.cw_loud rfl rfl (fun K hK => ?_)
  go_wp2_with fail
  refine (compareI_c x0 y0 _).mono ?_
  rintro e _ ⟨rfl, rfl⟩
  refine hK _ _ rfl (Free.KeepsP.refl _ _) ?_
  clear hK K
  (repeat (first | (apply Free.cw_pure rfl rfl; (intro w'; go_simp <;> exact rfl); go_frame) | (apply Free.cw_steady rfl rfl rfl; (intro w' hS; have q0 := Free.sx_cell hS p0 (fun _ _ hT => hT); have q1 := Free.sx_cell hS p1 (fun _ _ hT => hT); have q2 := Free.sx_cell hS p2 (fun _ _ hT => hT); have q3 := Free.sx_cell hS s0 (fun _ _ hT => hT); have q4 := Free.sx_cell hS s1 (fun _ _ hT => hT); have q5 := Free.sx_cell hS s2 (fun _ _ hT => hT); go_simp <;> exact rfl); go_frame) | (refine Free.cw_skip rfl ?_; go_frame)))
  refine Free.cw_loud rfl rfl (fun K hK => ?_)
  go_wp2_with fail
  refine (compareI_c x1 y1 _).mono ?_
  rintro e _ ⟨rfl, rfl⟩
  refine hK _ _ rfl (Free.KeepsP.refl _ _) ?_
  clear hK K
  (repeat (first | (apply Free.cw_pure rfl rfl; (intro w'; go_simp <;> exact rfl); go_frame) | (apply Free.cw_steady rfl rfl rfl; (intro w' hS; have q0 := Free.sx_cell hS p0 (fun _ _ hT => hT); have q1 := Free.sx_cell hS p1 (fun _ _ hT => hT); have q2 := Free.sx_cell hS p2 (fun _ _ hT => hT); have q3 := Free.sx_cell hS s0 (fun _ _ hT => hT); have q4 := Free.sx_cell hS s1 (fun _ _ hT => hT); have q5 := Free.sx_cell hS s2 (fun _ _ hT => hT); go_simp <;> exact rfl); go_frame) | (refine Free.cw_skip rfl ?_; go_frame)))
  refine Free.cw_loud rfl rfl (fun K hK => ?_)
  go_wp2_with fail
  refine (compareU_c x2 y2 _).mono ?_
  rintro e _ ⟨rfl, rfl⟩
  refine hK _ _ rfl (Free.KeepsP.refl _ _) ?_
  clear hK K
  (repeat (apply Free.cw_pure rfl rfl; (intro w'; go_simp <;> exact rfl); go_frame))
  refine Free.cw_loud rfl rfl (fun K hK => ?_)
  go_wp2
  refine hK _ _ rfl (Free.KeepsP.alloc _ _ _) ?_
  clear hK K
  (repeat (apply Free.cw_pure rfl rfl; (intro w'; go_simp <;> exact rfl); go_frame))
  refine Free.cw_loud rfl rfl (fun K hK => ?_)
  go_wp2_with fail
  refine (or_c _ _ _ ((shZ_of3 W (cI x0 y0) (cI x1 y1) (cI x2 y2) 3).keeps ((Keeps.refl [] _).drew))).mono ?_
  rintro e _ ⟨rfl, rfl⟩
  refine hK _ _ rfl (Free.KeepsP.refl _ _) ?_
  clear hK K
  (repeat (apply Free.cw_pure rfl rfl; (intro w'; go_simp <;> exact rfl); go_frame))
  refine Free.cw_nil ?_
  go_wp2
  go_ret
  exact ⟨by rw [← hr.out]; rfl, 1, _, by rw [hgr.out, alloc_eq_grow, grow_grow]; rfl⟩
/-- slices.SortFunc over needs. -/
theorem sortN_c (w : World) (B : Nat) (v : Value) (L : List T3) (h : shT.O w B tN v L) (hl : L.length ≤ 1000000000000) :
    Calls Try.prog 45 #[v, .func (.func 46) #[] #[]] w fun e w' => e = .returned (.tuple #[]) ∧ ∃ L', L'.Perm L ∧ L'.Pairwise (fun x y => ¬ tlt y x) ∧ shT.O w' B tN v L' ∧ Keeps v.ownBlock.toList w w' := by
  obtain ⟨_, h2⟩ := id h
  rcases h2 with ⟨rfl, h0⟩ | ⟨g, cap, cur, rfl, hb, hg, _⟩
  · have hL : L = [] := by
      cases L with
      | nil => rfl
      | cons x t => simp [Sh.cs, shT] at h0
    subst hL
    refine (AnyF.slices_SortFunc_none Try.sortNeed none 0 (.func (.func 46) #[] #[]) w).mono ?_
    rintro e w' ⟨rfl, rfl⟩
    exact ⟨rfl, [], List.Perm.refl _, List.Pairwise.nil, h, Keeps.refl _ _⟩
  · have hgl : g < w.heap.size := (Array.getElem?_eq_some_iff.1 hg).1
    have eg : ∀ args w, (callFunc 46 args).run Try.prog w = .ok (.enter 46 args) w := enters_of Try.func46 (by kernel_rfl) rfl
    have hcmp : CmpLays Try.prog 46 #[] shT.cf 3 cfT g 0 L.toArray.size w := fun m os dk hs x y => cmpN_c x y _
    have hcon := AnyQ.slices_SortFunc Try.sortNeed 3 (fun w => by kernel_rfl) (fun w => by kernel_rfl) shT.cf shT.len shT.one cfT swoT 46 #[] g 0 cap L.toArray w eg hcmp h.holds hgl (by simp; omega)
    simp only [List.size_toArray] at hcon
    refine hcon.mono ?_
    rintro e w' ⟨rfl, d', m, os, hp, hs, rfl⟩
    have hp' : PermIn 0 L.toArray.size L.toArray d' := by simpa using hp
    obtain ⟨hd, hpl⟩ := Sh.perm_of_permIn hp'
    have hd2 : d'.size = L.length := by simpa using hd
    rw [← hd2] at hs
    have hpw := Sh.pairwise_of_sortedIn hs
    obtain ⟨h3, h4⟩ := Sh.O.sorted (m := m) (os := os) h hd2
    exact ⟨rfl, d'.toList, by simpa using hpl, hpw.imp (fun h => by rw [ltT_iff] at h; exact of_decide_eq_false h), h3, h4⟩
set_option maxRecDepth 100000 in
set_option maxHeartbeats 2000000 in
theorem cmpC_c (x y : ClV) (w : World) : Calls Try.prog 42 #[.agg #[.int .i64 x.m, .int .i64 x.ep, slv x.v1, slv x.v2, slv x.v3], .agg #[.int .i64 y.m, .int .i64 y.ep, slv y.v1, slv y.v2, slv y.v3]] w fun e w' => e = .returned (.int .i64 (cI x.m y.m)) ∧ Keeps [] w w' := by
  obtain ⟨x0, x1, ⟨x2, x3, x4⟩, ⟨x5, x6, x7⟩, ⟨x8, x9, x10⟩⟩ := x
  obtain ⟨y0, y1, ⟨y2, y3, y4⟩, ⟨y5, y6, y7⟩, ⟨y8, y9, y10⟩⟩ := y
  simp only [slv]
  have hkA : Keeps [] w ((w.alloc (.cells #[.int .i64 x0, .int .i64 x1, .slice x2 x3 x4, .slice x5 x6 x7, .slice x8 x9 x10] tC)).alloc (.cells #[.int .i64 y0, .int .i64 y1, .slice y2 y3 y4, .slice y5 y6 y7, .slice y8 y9 y10] tC)) := ((Keeps.refl [] w).alloc _).alloc _
  replace hkA := Lib.hid hkA
  go_enter Try.func42, Try.ntmps42
  go_wp2_with fail
  refine (compareI_c x0 y0 _).mono ?_
  rintro e _ ⟨rfl, rfl⟩
  go_wp2
  go_ret
  exact ⟨rfl, hkA.out⟩
set_option maxRecDepth 100000 in
set_option maxHeartbeats 1000000 in
theorem mach_c (n : Int) (w : World) : Calls Try.prog 37 #[.int .i64 n] w fun e w' => e = .returned (.bool (mach n)) ∧ w = w' := by
  obtain ⟨r, hr⟩ : ∃ r, mach n = r := ⟨_, rfl⟩
  rw [hr]
  unfold mach at hr
  by_cases h1 : 1 ≤ n
  · have h1d : decide (1 ≤ n) = true := by simpa using h1
    have hd : decide (n ≤ 8) = r := by rw [← hr, h1d]; rfl
    replace hr := Lib.hid hr
    go_enter Try.func37, Try.ntmps37
    go_wp2
    go_ret
    exact ⟨by rw [← hd]; rfl, rfl⟩
  · have h1d : decide (1 ≤ n) = false := by simpa using h1
    have hd : false = r := by rw [← hr, h1d]; rfl
    replace hr := Lib.hid hr
    replace hd := Lib.hid hd
    go_enter Try.func37, Try.ntmps37
    go_wp2
    go_ret
    exact ⟨by rw [← hd.out]; rfl, rfl⟩
set_option maxRecDepth 100000 in
set_option maxHeartbeats 1000000 in
theorem machR_c (n : Int) (w : World) : Calls Try.prog 48 #[.int .i64 n] w fun e w' => e = .returned (.bool (mach n)) ∧ w = w' := by
  obtain ⟨r, hr⟩ : ∃ r, mach n = r := ⟨_, rfl⟩
  rw [hr]
  unfold mach at hr
  by_cases h1 : 1 ≤ n
  · have h1d : decide (1 ≤ n) = true := by simpa using h1
    have hd : decide (n ≤ 8) = r := by rw [← hr, h1d]; rfl
    replace hr := Lib.hid hr
    go_enter Try.func48, Try.ntmps48
    go_wp2
    go_ret
    exact ⟨by rw [← hd]; rfl, rfl⟩
  · have h1d : decide (1 ≤ n) = false := by simpa using h1
    have hd : false = r := by rw [← hr, h1d]; rfl
    replace hr := Lib.hid hr
    replace hd := Lib.hid hd
    go_enter Try.func48, Try.ntmps48
    go_wp2
    go_ret
    exact ⟨by rw [← hd.out]; rfl, rfl⟩
end Go.Proofs.Ytiplgpefapeapaa

namespace Go.Proofs.Ytiplgpefapeapaa
open Go.ChangeShapes Go.WideShapes Go.ChangeAt Go.RowKit

/-- Numbers that fit. -/
structure Ans.Fit (a : Ans) : Prop where
  q : qOk a.q
  ep : W64 a.ep
  lu : W64 a.lu
  ins : ∀ x ∈ a.ins, W64 x.1 ∧ x.2.1 < 18446744073709551616 ∧ W64 x.2.2
theorem Ans.Fit.ok {a : Ans} (h : a.Fit) (hl : a.ins.length ≤ 100000) : a.Ok := ⟨h.q, h.ep, h.lu, h.ins, hl⟩
/-- The cells of an answer. -/
def AnC (w : World) (cs : List Value) (y : Ans) : Prop := ∃ x : AnV, cs = x.cs ∧ InR w x y ∧ y.Fit
theorem AnC.keeps {w w' : World} {cs : List Value} {y : Ans} (h : AnC w cs y) (hk : Keeps [] w w') : AnC w' cs y := by
  obtain ⟨x, h1, h2, h3⟩ := h
  exact ⟨x, h1, h2.keep hk (by simp), h3⟩
/-- A list of answers that is read. -/
def LT (w : World) (v : Value) (T : List Ans) : Prop := Gen.SlR AnC 8 w v T
theorem LT.keeps {w w' : World} {v : Value} {T : List Ans} (h : LT w v T) (hk : Keeps [] w w') : LT w' v T := Gen.SlR.keeps h hk (fun _ _ h => h.keeps hk)
theorem LT.elem {w : World} {v : Value} {T : List Ans} (h : LT w v T) {k : Nat} (hk : k < T.length) : ∃ g o c x, v = .slice (some ⟨g, o, none⟩) T.length c ∧ InR w x T[k] ∧ T[k].Fit ∧ ∀ j u, x.cs[j]? = some u → w.cell? ⟨g, o + k * 8 + j, none⟩ = some u := by
  obtain ⟨g, o, c, xs, h1, h2, ⟨x, e, h3, h4⟩, h5⟩ := Gen.SlR.elem h (by decide) hk
  subst e
  exact ⟨g, o, c, x, h1, h3, h4, h5⟩
theorem u64_wf {z : Int} (h : (Lit.int .u64 z).wf = true) : ∃ n : Nat, z = n ∧ n < 18446744073709551616 := by
  have hb : 0 ≤ z ∧ z ≤ 18446744073709551615 := by simpa [Lit.wf, IntKind.min, IntKind.max, IntKind.signed, IntKind.bits] using h
  exact ⟨z.toNat, by omega, by omega⟩
theorem w64_wf {x : Int} (h : (Lit.int .i64 x).wf = true) : W64 x := by simpa [W64, Lit.wf, IntKind.min, IntKind.max, IntKind.signed, IntKind.bits] using h
set_option maxRecDepth 100000 in
set_option maxHeartbeats 1000000 in
theorem cs_tid {w : World} {cs : List Value} (h : Gen.Cs Try.prog w 23 cs) : ∃ a s, cs = [.int .i64 a, .int .i64 s] ∧ W64 a ∧ W64 s := by
  obtain ⟨hl, hall⟩ := Gen.Cs.struct Try.underlying23 h
  rw [show Try.prog.cellsOf 23 = 2 by kernel_rfl] at hl
  obtain ⟨a, b, rfl⟩ : ∃ a b, cs = [a, b] := by
    match cs, hl with
    | [a, b], _ => exact ⟨a, b, rfl⟩
  have h0 := hall 0 _ rfl
  have h1 := hall 1 _ rfl
  replace h0 : Gen.Cs Try.prog w 3 (([a, b].drop 0).take (Try.prog.cellsOf 3)) := h0
  replace h1 : Gen.Cs Try.prog w 3 (([a, b].drop 1).take (Try.prog.cellsOf 3)) := h1
  rw [show Try.prog.cellsOf 3 = 1 by kernel_rfl] at h0 h1
  obtain ⟨k, hk, wk⟩ := Gen.Cs.int Try.underlying3 h0
  obtain ⟨n, hn, wn⟩ := Gen.Cs.int Try.underlying3 h1
  simp at hk hn
  subst hk hn
  exact ⟨k, n, rfl, w64_wf wk, w64_wf wn⟩
set_option maxRecDepth 100000 in
set_option maxHeartbeats 1000000 in
theorem cs_t3 {w : World} {t : TypeId} {fs : Array Field} (ht : Try.prog.underlying t = some (.struct fs)) (hc : Try.prog.cellsOf t = 3) (hf : fs.toList.map (fun f => (f.type, f.offset)) = [(3, 0), (24, 1), (3, 2)]) {cs : List Value} (h : Gen.Cs Try.prog w t cs) :
    ∃ (x : T3), cs = shT.cf x ∧ W64 x.1 ∧ x.2.1 < 18446744073709551616 ∧ W64 x.2.2 := by
  obtain ⟨hl, hall⟩ := Gen.Cs.struct ht h
  rw [hc] at hl
  obtain ⟨f0, f1, f2, hfs⟩ : ∃ f0 f1 f2, fs = #[f0, f1, f2] := by
    obtain ⟨l⟩ := fs
    have hl := congrArg List.length hf
    simp only [List.length_map, List.length_cons, List.length_nil] at hl
    match l, hl with
    | [f0, f1, f2], _ => exact ⟨f0, f1, f2, rfl⟩
  subst hfs
  simp only [List.map_cons, List.map_nil, List.cons.injEq, Prod.mk.injEq, and_true] at hf
  obtain ⟨⟨t0, o0⟩, ⟨t1, o1⟩, t2, o2⟩ := hf
  obtain ⟨a, b, c, rfl⟩ : ∃ a b c, cs = [a, b, c] := by
    match cs, hl with
    | [a, b, c], _ => exact ⟨a, b, c, rfl⟩
  have h0 := hall 0 f0 rfl
  have h1 := hall 1 f1 rfl
  have h2 := hall 2 f2 rfl
  rw [t0, o0, show Try.prog.cellsOf 3 = 1 by kernel_rfl] at h0
  rw [t1, o1, show Try.prog.cellsOf 24 = 1 by kernel_rfl] at h1
  rw [t2, o2, show Try.prog.cellsOf 3 = 1 by kernel_rfl] at h2
  obtain ⟨k, hk, wk⟩ := Gen.Cs.int Try.underlying3 h0
  obtain ⟨n, hn, wn⟩ := Gen.Cs.int Try.underlying24 h1
  obtain ⟨m, hm, wm⟩ := Gen.Cs.int Try.underlying3 h2
  obtain ⟨n2, en, wn2⟩ := u64_wf wn
  rw [en] at hn
  simp at hk hn hm
  subst hk hn hm
  exact ⟨(k, n2, m), rfl, w64_wf wk, wn2, w64_wf wm⟩
set_option maxRecDepth 100000 in
set_option maxHeartbeats 1000000 in
theorem cs_need {w : World} {cs : List Value} (h : Gen.Cs Try.prog w tN cs) : ∃ (x : T3), cs = shT.cf x ∧ W64 x.1 ∧ x.2.1 < 18446744073709551616 ∧ W64 x.2.2 := cs_t3 Try.underlying26 (by kernel_rfl) rfl h
set_option maxRecDepth 100000 in
set_option maxHeartbeats 1000000 in
theorem cs_ins {w : World} {cs : List Value} (h : Gen.Cs Try.prog w tI cs) : ∃ (x : T3), cs = shT.cf x ∧ W64 x.1 ∧ x.2.1 < 18446744073709551616 ∧ W64 x.2.2 := cs_t3 Try.underlying43 (by kernel_rfl) rfl h
set_option maxRecDepth 100000 in
set_option maxHeartbeats 1000000 in
theorem cs_inset {w : World} {v : Value} (h : Gen.Cs Try.prog w 39 [v]) : ∃ L : List T3, shT.R w v L ∧ ∀ x ∈ L, W64 x.1 ∧ x.2.1 < 18446744073709551616 ∧ W64 x.2.2 := by
  obtain ⟨L, hL, _⟩ := Gen.SlR.open (R := fun _ cs (x : T3) => cs = shT.cf x ∧ W64 x.1 ∧ x.2.1 < 18446744073709551616 ∧ W64 x.2.2) Try.underlying39 (show Try.prog.cellsOf tI = 3 by kernel_rfl) (by decide) (fun cs hcs => cs_ins hcs) h
  refine ⟨L, Sh.R.of_slR (s := shT) (fun cs x h => h.1) hL, fun x hx => ?_⟩
  obtain ⟨k, hk, rfl⟩ := List.mem_iff_getElem.1 hx
  obtain ⟨cs, _, h2⟩ := hL
  exact (h2 k hk).2
set_option maxRecDepth 100000 in
set_option maxHeartbeats 1000000 in
theorem cs_ans {w : World} {cs : List Value} (h : Gen.Cs Try.prog w tA cs) : ∃ y, AnC w cs y := by
  obtain ⟨hl, hall⟩ := Gen.Cs.struct Try.underlying41 h
  rw [show Try.prog.cellsOf tA = 8 by kernel_rfl] at hl
  obtain ⟨a, b, c, d, e, f, g, i, rfl⟩ : ∃ a b c d e f g i, cs = [a, b, c, d, e, f, g, i] := by
    match cs, hl with
    | [a, b, c, d, e, f, g, i], _ => exact ⟨a, b, c, d, e, f, g, i, rfl⟩
  have h0 := hall 0 _ rfl
  have h1 := hall 1 _ rfl
  have h2 := hall 2 _ rfl
  have h3 := hall 3 _ rfl
  have h4 := hall 4 _ rfl
  have h5 := hall 5 _ rfl
  have h6 := hall 6 _ rfl
  have h7 := hall 7 _ rfl
  replace h0 : Gen.Cs Try.prog w 3 (([a, b, c, d, e, f, g, i].drop 0).take (Try.prog.cellsOf 3)) := h0
  replace h1 : Gen.Cs Try.prog w 3 (([a, b, c, d, e, f, g, i].drop 1).take (Try.prog.cellsOf 3)) := h1
  replace h2 : Gen.Cs Try.prog w 24 (([a, b, c, d, e, f, g, i].drop 2).take (Try.prog.cellsOf 24)) := h2
  replace h3 : Gen.Cs Try.prog w 3 (([a, b, c, d, e, f, g, i].drop 3).take (Try.prog.cellsOf 3)) := h3
  replace h4 : Gen.Cs Try.prog w 4 (([a, b, c, d, e, f, g, i].drop 4).take (Try.prog.cellsOf 4)) := h4
  replace h5 : Gen.Cs Try.prog w 4 (([a, b, c, d, e, f, g, i].drop 5).take (Try.prog.cellsOf 4)) := h5
  replace h6 : Gen.Cs Try.prog w 3 (([a, b, c, d, e, f, g, i].drop 6).take (Try.prog.cellsOf 3)) := h6
  replace h7 : Gen.Cs Try.prog w 39 (([a, b, c, d, e, f, g, i].drop 7).take (Try.prog.cellsOf 39)) := h7
  rw [show Try.prog.cellsOf 3 = 1 by kernel_rfl] at h0 h1 h3 h6
  rw [show Try.prog.cellsOf 24 = 1 by kernel_rfl] at h2
  rw [show Try.prog.cellsOf 4 = 1 by kernel_rfl] at h4 h5
  rw [show Try.prog.cellsOf 39 = 1 by kernel_rfl] at h7
  obtain ⟨z0, e0, w0⟩ := Gen.Cs.int Try.underlying3 h0
  obtain ⟨z1, e1, w1⟩ := Gen.Cs.int Try.underlying3 h1
  obtain ⟨z2, e2, w2⟩ := Gen.Cs.int Try.underlying24 h2
  obtain ⟨z3, e3, w3⟩ := Gen.Cs.int Try.underlying3 h3
  obtain ⟨z4, e4⟩ := Gen.Cs.bool Try.underlying4 h4
  obtain ⟨z5, e5⟩ := Gen.Cs.bool Try.underlying4 h5
  obtain ⟨z6, e6, w6⟩ := Gen.Cs.int Try.underlying3 h6
  obtain ⟨y2, ey2, wy2⟩ := u64_wf w2
  rw [ey2] at e2
  simp at e0 e1 e2 e3 e4 e5 e6 h7
  subst e0 e1 e2 e3 e4 e5 e6
  obtain ⟨L, hL, hLf⟩ := cs_inset h7
  obtain ⟨x, k, rfl, _⟩ := hL.form
  exact ⟨⟨z0, z1, y2, z3, z4, z5, z6, L⟩, ⟨z0, z1, y2, z3, z4, z5, z6, x, L.length, k⟩, rfl, ⟨rfl, rfl, rfl, rfl, rfl, rfl, rfl, hL⟩, ⟨⟨w64_wf w0, w64_wf w1, wy2⟩, w64_wf w3, w64_wf w6, hLf⟩⟩
set_option maxRecDepth 100000 in
set_option maxHeartbeats 1000000 in
theorem open_tid {H : Type} {enc : TypeId × Value → H} {W : World} {base : Nat} {r : Reach} {v : Value} {d : DataW H} {ps : List MemPlace} (hv : Value.okWide Try.prog W r base 23 v)
    (h : DataW.Trod enc Try.prog W 0 (fun _ => true) true 23 v d ps) : ∃ (a s : Int), v = .agg #[.int .i64 a, .int .i64 s] ∧ W64 a ∧ W64 s := by
  obtain ⟨a, s, hc, ha, hs⟩ := cs_tid (Gen.Cs.of_agg h)
  obtain ⟨cs, rfl, _⟩ := okWide_struct Try.underlying23 hv
  refine ⟨a, s, ?_, ha, hs⟩
  have : cs.toList = [.int .i64 a, .int .i64 s] := hc
  rw [← Array.toArray_toList (xs := cs), this]
set_option maxRecDepth 100000 in
set_option maxHeartbeats 1000000 in
theorem open_need {H : Type} {enc : TypeId × Value → H} {W : World} {base : Nat} {r : Reach} {v : Value} {d : DataW H} {ps : List MemPlace} (hv : Value.okWide Try.prog W r base 26 v)
    (h : DataW.Trod enc Try.prog W 0 (fun _ => true) true 26 v d ps) : ∃ x : T3, v = tV x ∧ W64 x.1 ∧ x.2.1 < 18446744073709551616 ∧ W64 x.2.2 := by
  obtain ⟨x, hc, hw⟩ := cs_need (Gen.Cs.of_agg h)
  obtain ⟨cs, rfl, _⟩ := okWide_struct Try.underlying26 hv
  refine ⟨x, ?_, hw⟩
  have : cs.toList = shT.cf x := hc
  rw [← Array.toArray_toList (xs := cs), this]
  rfl
set_option maxRecDepth 100000 in
set_option maxHeartbeats 1000000 in
theorem open_table {H : Type} {enc : TypeId × Value → H} {W : World} {base : Nat} {r : Reach} {v : Value} {d : DataW H} {ps : List MemPlace} (hv : Value.okWide Try.prog W r base 27 v)
    (h : DataW.Trod enc Try.prog W 0 (fun _ => true) true 27 v d ps) : ∃ T : List Ans, LT W v T := by
  obtain ⟨a0, n0, c0, rfl⟩ := okWide_slice Try.underlying27 hv
  obtain ⟨L, hL, _⟩ := Gen.SlR.open (R := AnC) Try.underlying27 (show Try.prog.cellsOf tA = 8 by kernel_rfl) (by decide) (fun cs hcs => cs_ans hcs) (Gen.Cs.of_trod rfl h)
  exact ⟨L, hL⟩
def shB : Sh UInt8 := ⟨1, fun x => [.int .u8 x.toNat], fun _ => rfl, by decide, fun x u hu => by simp at hu; rw [hu]; rfl⟩
set_option maxRecDepth 100000 in
set_option maxHeartbeats 1000000 in
theorem open_picks {H : Type} {enc : TypeId × Value → H} {W : World} {base : Nat} {r : Reach} {v : Value} {d : DataW H} {ps : List MemPlace} (hv : Value.okWide Try.prog W r base 46 v)
    (h : DataW.Trod enc Try.prog W 0 (fun _ => true) true 46 v d ps) : ∃ l : List UInt8, shB.R W v l := by
  obtain ⟨a0, n0, c0, rfl⟩ := okWide_slice Try.underlying46 hv
  obtain ⟨L, hL, _⟩ := Gen.SlR.open (R := fun _ cs (x : UInt8) => cs = shB.cf x) Try.underlying46 (show Try.prog.cellsOf 5 = 1 by kernel_rfl) (by decide) (fun cs hcs => by
    obtain ⟨n, rfl, hw⟩ := Gen.Cs.int Try.underlying5 hcs
    have hb : 0 ≤ n ∧ n ≤ 255 := by simpa [Lit.wf, IntKind.min, IntKind.max, IntKind.signed, IntKind.bits] using hw
    refine ⟨UInt8.ofNat n.toNat, ?_⟩
    show [Value.int .u8 n] = [.int .u8 ((UInt8.ofNat n.toNat).toNat : Int)]
    congr 2
    simp; omega) (Gen.Cs.of_trod rfl h)
  exact ⟨L, Sh.R.of_slR (s := shB) (fun _ _ h => h) hL⟩
end Go.Proofs.Ytiplgpefapeapaa

namespace Go.Proofs.Ytiplgpefapeapaa
open Go.RowKit

structure RfV where
  im : Int
  is : Int
  s0 : Int
  s1 : Nat
  s2 : Int
  st : Int
  vo : Option Addr × Nat × Nat
  va : Option Addr × Nat × Nat
  told : Int
  vg : Option Addr × Nat × Nat
  rf : Bool
  vh : Option Addr × Nat × Nat
def RfV.cs (x : RfV) : List Value := [.int .i64 x.im, .int .i64 x.is, .int .i64 x.s0, .int .u64 x.s1, .int .i64 x.s2, .int .i64 x.st, slv x.vo, slv x.va, .int .i64 x.told, slv x.vg, .bool x.rf, slv x.vh]
def rfV (x : RfV) : Value := .agg #[.int .i64 x.im, .int .i64 x.is, .int .i64 x.s0, .int .u64 x.s1, .int .i64 x.s2, .int .i64 x.st, slv x.vo, slv x.va, .int .i64 x.told, slv x.vg, .bool x.rf, slv x.vh]
/-- A question as the specification's need. -/
def ndq (q : Qn) : T3 := (q.1, q.2.2, q.2.1)
theorem ndq_inj {p q : Qn} (h : ndq p = ndq q) : p = q := by
  obtain ⟨a, b, c⟩ := p
  obtain ⟨a', b', c'⟩ := q
  simp [ndq] at h
  obtain ⟨h1, h2, h3⟩ := h
  rw [h1, h2, h3]
def RA1 (w : World) (x : AnV) : Option Ans → Prop
  | some a => InA w x a
  | none => x.kn = false
theorem InR.keeps {w w' : World} {x : AnV} {y : Ans} (h : InR w x y) (hk : Keeps [] w w') : InR w' x y := h.keep hk (by simp)
theorem InA.r {w : World} {x : AnV} {y : Ans} (h : InA w x y) : InR w x y := ⟨h.m, h.ow, h.n, h.ep, h.kn, h.rt, h.lu, h.ins.r⟩
theorem RA1.keeps {w w' : World} {x : AnV} {u : Option Ans} (h : RA1 w x u) (hk : Keeps [] w w') : RA1 w' x u := by
  cases u with
  | some a => exact InA.ki h hk.ki0
  | none => exact h
def RA (w : World) (X : List AnV) (qs : Qs) : Prop := X.length = qs.length ∧ ∀ (k : Nat) (x : AnV) (p : Qn × Option Ans), X[k]? = some x → qs[k]? = some p → RA1 w x p.2
theorem RA.keeps {w w' : World} {X : List AnV} {qs : Qs} (h : RA w X qs) (hk : Keeps [] w w') : RA w' X qs := ⟨h.1, fun k x p h1 h2 => (h.2 k x p h1 h2).keeps hk⟩
def LRd (w : World) (X : List AnV) (Y : List Ans) : Prop := X.length = Y.length ∧ ∀ (k : Nat) (x : AnV) (y : Ans), X[k]? = some x → Y[k]? = some y → InR w x y
theorem LRd.keeps {w w' : World} {X : List AnV} {Y : List Ans} (h : LRd w X Y) (hk : Keeps [] w w') : LRd w' X Y := ⟨h.1, fun k x p h1 h2 => (h.2 k x p h1 h2).keeps hk⟩
/-- The value says this trace. -/
structure RfR (w : World) (x : RfV) (t : Tr) : Prop where
  im : x.im = t.im
  is : x.is = t.is
  s0 : x.s0 = t.st.1
  s1 : x.s1 = t.st.2.1
  s2 : x.s2 = t.st.2.2
  st : x.st = t.state
  told : x.told = t.told
  rf : x.rf = t.rf
  op : shT.R w (slv x.vo) (t.op.map ndq)
  an : ∃ X, shA.R w (slv x.va) X ∧ RA w X t.qs
  ag : shZ.R w (slv x.vg) t.ag
  hi : ∃ X, shA.R w (slv x.vh) X ∧ LA w X t.hist
theorem RfR.keeps {w w' : World} {x : RfV} {t : Tr} (h : RfR w x t) (hk : Keeps [] w w') : RfR w' x t := by
  obtain ⟨X, hX, hXR⟩ := h.an
  obtain ⟨Z, hZ, hZR⟩ := h.hi
  exact ⟨h.im, h.is, h.s0, h.s1, h.s2, h.st, h.told, h.rf, h.op.keeps hk, ⟨X, hX.keeps hk, hXR.keeps hk⟩, h.ag.keeps hk, ⟨Z, hZ.keeps hk, hZR.ki hk.ki0⟩⟩
/-- The blocks of a value's lists. -/
def blks (x : RfV) : List Nat := (slv x.vo).ownBlock.toList ++ ((slv x.va).ownBlock.toList ++ ((slv x.vg).ownBlock.toList ++ (slv x.vh).ownBlock.toList))
/-- The new value's lists lie where the old one's lay, or in new blocks. -/
def Fsh (w w' : World) (x x' : RfV) : Prop := ∀ b ∈ blks x', b ∈ blks x ∨ (w.heap.size ≤ b ∧ b < w'.heap.size)
theorem mem_blks {x : RfV} {b : Nat} : b ∈ blks x ↔ (slv x.vo).ownBlock = some b ∨ (slv x.va).ownBlock = some b ∨ (slv x.vg).ownBlock = some b ∨ (slv x.vh).ownBlock = some b := by simp [blks]
theorem cells12 {w : World} {b : Nat} {x0 x1 x2 x3 x4 x5 x6 x7 x8 x9 x10 x11 : Value} {t : TypeId} (h : w.heap[b]? = some (.cells #[x0, x1, x2, x3, x4, x5, x6, x7, x8, x9, x10, x11] t (0, 0))) :
    w.cell? ⟨b, 0, none⟩ = some x0 ∧ w.cell? ⟨b, 1, none⟩ = some x1 ∧ w.cell? ⟨b, 2, none⟩ = some x2 ∧ w.cell? ⟨b, 3, none⟩ = some x3 ∧ w.cell? ⟨b, 4, none⟩ = some x4 ∧ w.cell? ⟨b, 5, none⟩ = some x5 ∧ w.cell? ⟨b, 6, none⟩ = some x6 ∧ w.cell? ⟨b, 7, none⟩ = some x7 ∧
    w.cell? ⟨b, 8, none⟩ = some x8 ∧ w.cell? ⟨b, 9, none⟩ = some x9 ∧ w.cell? ⟨b, 10, none⟩ = some x10 ∧ w.cell? ⟨b, 11, none⟩ = some x11 ∧ (∀ o, w.frozen? ⟨b, o, none⟩ = false) ∧ b < w.heap.size := by
  refine ⟨?_, ?_, ?_, ?_, ?_, ?_, ?_, ?_, ?_, ?_, ?_, ?_, fun o => ?_, lt_of_blk h⟩ <;> simp [World.cell?, World.frozen?, h]
theorem RA.kn {w : World} {X : List AnV} {t : Tr} (h : RA w X t.qs) (hr : ∀ p ∈ t.rec', p.2.kn = true) {k : Nat} (hk : k < t.qs.length) : ∃ hx : k < X.length, X[k].kn = t.qs[k].2.isSome := by
  have hx : k < X.length := by rw [h.1]; exact hk
  refine ⟨hx, ?_⟩
  have h1 := h.2 k _ _ (List.getElem?_eq_getElem hx) (List.getElem?_eq_getElem hk)
  obtain ⟨⟨q, u⟩, hq⟩ : ∃ p, t.qs[k] = p := ⟨_, rfl⟩
  rw [hq] at h1 ⊢
  cases u with
  | none => exact h1
  | some a =>
    have h2 : InA w X[k] a := h1
    rw [h2.kn]
    exact hr (q, a) (recOf_keys.2 (hq ▸ List.getElem_mem hk))
/-- Where a question lies. -/
def IdxPost (t : Tr) (q : Qn) (i : Int) : Prop := (∃ k : Nat, ∃ hk : k < t.qs.length, i = k ∧ t.qs[k].1 = q) ∨ (i = -1 ∧ q ∉ t.op)
end Go.Proofs.Ytiplgpefapeapaa

namespace Go.Proofs.Ytiplgpefapeapaa
open Go.RowKit

/-- A list of answers that is read. -/
def RdA (w : World) (v : Value) (Y : List Ans) : Prop := ∃ X, shA.R w v X ∧ LRd w X Y
theorem RdA.keeps {w w' : World} {v : Value} {Y : List Ans} (h : RdA w v Y) (hk : Keeps [] w w') : RdA w' v Y := by
  obtain ⟨X, h1, h2⟩ := h
  exact ⟨X, h1.keeps hk, h2.keeps hk⟩
theorem RdA.form {w : World} {v : Value} {Y : List Ans} (h : RdA w v Y) : ∃ a c, v = .slice a Y.length c ∧ Y.length ≤ c ∧ c ≤ maxLen := by
  obtain ⟨X, h1, h2⟩ := h
  obtain ⟨a, c, e, e1, e2, _⟩ := h1.form
  rw [h2.1] at e e1
  exact ⟨a, c, e, e1, e2⟩
theorem RdA.elem {w : World} {v : Value} {Y : List Ans} (h : RdA w v Y) {k : Nat} (hk : k < Y.length) : ∃ g o c x, v = .slice (some ⟨g, o, none⟩) Y.length c ∧ InR w x Y[k] ∧ ∀ j u, x.cs[j]? = some u → w.cell? ⟨g, o + k * 8 + j, none⟩ = some u := by
  obtain ⟨X, h1, h2⟩ := h
  have hkX : k < X.length := by rw [h2.1]; exact hk
  obtain ⟨g, o, c, e, he⟩ := h1.elem hkX
  rw [h2.1] at e
  exact ⟨g, o, c, X[k], e, h2.2 k _ _ (List.getElem?_eq_getElem hkX) (List.getElem?_eq_getElem hk), he⟩
theorem luL_at {Y : List Ans} {q : Qn} {k : Nat} (hk : k < Y.length) (hno : ∀ j (hj : j < Y.length), j < k → Y[j].q ≠ q) (hq : Y[k].q = q) : luL Y q = Y[k].lu := by
  unfold luL
  have : Y.find? (fun a => decide (a.q = q)) = some Y[k] := List.find?_eq_some_iff_getElem.2 ⟨by simpa using hq, k, hk, rfl, fun j hj => by simpa using hno j (by omega) hj⟩
  rw [this]; rfl
theorem luL_no {Y : List Ans} {q : Qn} (hno : ∀ j (hj : j < Y.length), Y[j].q ≠ q) : luL Y q = 0 := by
  unfold luL
  have : Y.find? (fun a => decide (a.q = q)) = none := List.find?_eq_none.2 (fun c hc => by
    obtain ⟨j, hj, rfl⟩ := List.mem_iff_getElem.1 hc
    simpa using hno j hj)
  rw [this]; rfl
def insF (a : Ans) (q : Qn) (x : T3) : Option Int := if a.m = q.1 ∧ x.1 = q.2.1 ∧ x.2.1 = q.2.2 then some x.2.2 else none
theorem outL_def (Y : List Ans) (q : Qn) : outL Y q = Y.findSome? (fun a => a.ins.findSome? (insF a q)) := rfl
theorem findSome_at {α β : Type} {f : α → Option β} {l : List α} {k : Nat} {b : β} (hk : k < l.length) (hno : ∀ j (hj : j < l.length), j < k → f l[j] = none) (hb : f l[k] = some b) : l.findSome? f = some b := by
  induction l generalizing k with
  | nil => simp at hk
  | cons a t ih =>
    cases k with
    | zero => rw [List.findSome?_cons]; simp only [List.getElem_cons_zero] at hb; rw [hb]
    | succ k =>
      have h0 := hno 0 (by simp) (by omega)
      simp only [List.getElem_cons_zero] at h0
      rw [List.findSome?_cons, h0]
      exact ih (k := k) (by simpa using hk) (fun j hj hjk => by have := hno (j + 1) (by simpa using hj) (by omega); simpa using this) (by simpa using hb)
theorem findSome_no {α β : Type} {f : α → Option β} {l : List α} (hno : ∀ j (hj : j < l.length), f l[j] = none) : l.findSome? f = none := by
  rw [List.findSome?_eq_none_iff]
  intro x hx
  obtain ⟨j, hj, rfl⟩ := List.mem_iff_getElem.1 hx
  exact hno j hj
def OutPost (w : World) (r : Option Int) (e : Ending) (w' : World) : Prop := e = .returned (.tuple #[.int .i64 (r.getD 0), .bool r.isSome]) ∧ Keeps [] w w'
end Go.Proofs.Ytiplgpefapeapaa

namespace Go.Proofs.Ytiplgpefapeapaa
open Go.RowKit

def clV (x : ClV) : Value := .agg #[.int .i64 x.m, .int .i64 x.ep, slv x.v1, slv x.v2, slv x.v3]
/-- The cells of a claim say this claim. -/
structure CR (w : World) (x : ClV) (p : PCl) : Prop where
  m : x.m = p.m
  ep : x.ep = p.ep
  st : shT.R w (slv x.v1) p.st
  sc : shT.R w (slv x.v2) p.sc
  ch : shT.R w (slv x.v3) p.ch
theorem CR.keeps {w w' : World} {x : ClV} {p : PCl} (h : CR w x p) (hk : Keeps [] w w') : CR w' x p := ⟨h.m, h.ep, h.st.keeps hk, h.sc.keeps hk, h.ch.keeps hk⟩
theorem decide_pcl (p q : PCl) : decide (p = q) = (p.m == q.m && (p.ep == q.ep && (decide (p.st = q.st) && (decide (p.sc = q.sc) && decide (p.ch = q.ch))))) := by
  obtain ⟨a, b, c, d, e⟩ := p
  obtain ⟨a', b', c', d', e'⟩ := q
  simp only [PCl.mk.injEq, Bool.decide_and]
  rfl
theorem cells5 {w : World} {b : Nat} {x0 x1 x2 x3 x4 : Value} {t : TypeId} {f : Nat × Nat} (h : w.heap[b]? = some (.cells #[x0, x1, x2, x3, x4] t f)) : w.cell? ⟨b, 0, none⟩ = some x0 ∧ w.cell? ⟨b, 1, none⟩ = some x1 ∧ w.cell? ⟨b, 2, none⟩ = some x2 ∧ w.cell? ⟨b, 3, none⟩ = some x3 ∧ w.cell? ⟨b, 4, none⟩ = some x4 ∧ b < w.heap.size := by
  refine ⟨?_, ?_, ?_, ?_, ?_, lt_of_blk h⟩ <;> simp [World.cell?, h]
/-- A list of claims that is read. -/
def LC (w : World) (v : Value) (P : List PCl) : Prop := ∃ C, shC.R w v C ∧ C.length = P.length ∧ ∀ (k : Nat) (x : ClV) (p : PCl), C[k]? = some x → P[k]? = some p → CR w x p
theorem LC.keeps {w w' : World} {v : Value} {P : List PCl} (h : LC w v P) (hk : Keeps [] w w') : LC w' v P := by
  obtain ⟨C, h1, h2, h3⟩ := h
  exact ⟨C, h1.keeps hk, h2, fun k x p hx hp => (h3 k x p hx hp).keeps hk⟩
theorem LC.nil (w : World) : LC w (.slice none 0 0) [] := ⟨[], Sh.R.nil _ _, rfl, fun k x p h => by simp at h⟩
theorem LC.form {w : World} {v : Value} {P : List PCl} (h : LC w v P) : ∃ a c, v = .slice a P.length c ∧ P.length ≤ c ∧ c ≤ maxLen := by
  obtain ⟨C, h1, h2, h3⟩ := h
  obtain ⟨a, c, e, h4, h5, _⟩ := h1.form
  exact ⟨a, c, by rw [← h2]; exact e, by omega, h5⟩
theorem LC.elem {w : World} {v : Value} {P : List PCl} (h : LC w v P) {k : Nat} (hk : k < P.length) : ∃ g o c x, v = .slice (some ⟨g, o, none⟩) P.length c ∧ CR w x P[k] ∧ w.cell? ⟨g, o + k * 5, none⟩ = some (.int .i64 x.m) ∧ w.cell? ⟨g, o + k * 5 + 1, none⟩ = some (.int .i64 x.ep) ∧
    w.cell? ⟨g, o + k * 5 + 2, none⟩ = some (slv x.v1) ∧ w.cell? ⟨g, o + k * 5 + 3, none⟩ = some (slv x.v2) ∧ w.cell? ⟨g, o + k * 5 + 4, none⟩ = some (slv x.v3) := by
  obtain ⟨C, h1, h2, h3⟩ := h
  have hkC : k < C.length := by omega
  obtain ⟨g, o, c, e, he⟩ := h1.elem hkC
  refine ⟨g, o, c, C[k], by rw [← h2]; exact e, h3 k _ _ (List.getElem?_eq_getElem _) (List.getElem?_eq_getElem _), ?_, ?_, ?_, ?_, ?_⟩
  · simpa [shC] using he 0 _ rfl
  · simpa [shC] using he 1 _ rfl
  · simpa [shC] using he 2 _ rfl
  · simpa [shC] using he 3 _ rfl
  · simpa [shC] using he 4 _ rfl
theorem CL.lc {w : World} {B : Nat} {vc : Value} {P : List PCl} {V : Nat → Nat → SlT} (h : CL w B vc P V) : LC w vc P := by
  refine ⟨_, h.c.r, rowsC_len P V, fun k x p hx hp => ?_⟩
  obtain ⟨hk, rfl⟩ := List.getElem?_eq_some_iff.1 hp
  obtain ⟨hk2, rfl⟩ := List.getElem?_eq_some_iff.1 hx
  rw [rowsC_get P V k hk]
  exact ⟨rfl, rfl, (h.o k 0 hk (by omega)).r, (h.o k 1 hk (by omega)).r, (h.o k 2 hk (by omega)).r⟩
end Go.Proofs.Ytiplgpefapeapaa

namespace Go.Proofs.Ytiplgpefapeapaa
open Go Go.RowKit

theorem run_append_empty {P : Program} {w : World} (base : Nat) (t ty e : TypeId) (i : TypeInfo) (z : Value) (size bytes : Nat) (ht : P.underlying t = some (.slice e)) (hi : P.info? e = some i) (hz : i.zero = some z)
    (hsize : i.size = size) (hby : i.bytes = bytes) (hzs : z.cells.size = size) (g : Nat) (hg : w.heap[g]? = some (.cells #[] e (0, 0))) (hgb : base ≤ g)
    (v2 : Value) (m : Nat) (ys : List Value) (hsl : Sl w size v2 m ys) (h1 : ∀ u ∈ ys, u.oneCell' = true) (h63 : m ≤ maxLen) (hbytes : m * bytes ≤ 140737488355328) (hbase : base ≤ w.heap.size) :
    ∃ v' w', (Builtin.append_ #[t, t] ty #[.slice (some ⟨g, 0, none⟩) 0 0, v2]).run P w = .ok v' w' ∧ w'.ownsRow base e size v' m ys ∧ w.grownBy w' none := by
  have hown : w.ownsRow base e size (.slice (some ⟨g, 0, none⟩) 0 0) 0 [] := ⟨by simp, .inr ⟨g, 0, #[], rfl, hgb, hg, Nat.le_refl _, by simp [maxLen], by simp, by simp⟩⟩
  subst hsize
  subst hby
  obtain ⟨hl, a, cap, rfl, _, _, h0, hc⟩ := hsl
  cases a with
  | none =>
    have hys : ys = [] := by
      cases ys with
      | nil => rfl
      | cons y r => obtain ⟨g, o, e, _⟩ := hc (by simp); cases e
    subst hys
    have hcap := h0 rfl
    subst hcap
    have hm : m = 0 := by omega
    subst hm
    exact ⟨_, w, run_append_owned_none (P := P) (w := w) base t ty e i i.size ht hi _ 0 [] hown, hown, ⟨rfl, rfl, rfl, Nat.le_refl _, fun _ _ _ => rfl⟩⟩
  | some ad =>
    have hcells : ∀ j u, ys[j]? = some u → w.cell? (ad.add j) = some u := by
      intro j u hj
      have hp : 0 < ys.length := by have := (List.getElem?_eq_some_iff.1 hj).1; omega
      obtain ⟨g, o, e, hc'⟩ := hc hp
      cases e
      rw [Go.WideShapes.add_plain]
      exact hc' j u hj
    by_cases hm : m = 0
    · subst hm
      have hys : ys = [] := List.eq_nil_of_length_eq_zero (by simpa using hl)
      subst hys
      have hr := run_append_room (P := P) w t ty e i ht hi g 0 0 #[] hg ad 0 cap [] (by simp) (by simp) (by simp) (by omega) (by simp)
      have hset := setRow_heap w g #[] (([] : List Value).take (0 * i.size) ++ [] ++ ([] : List Value).drop (0 * i.size + ([] : List Value).length)).toArray e (0, 0) hg
      refine ⟨_, _, hr, ⟨by simp, .inr ⟨g, 0, _, rfl, hgb, hset, Nat.le_refl _, by simp [maxLen], by simp, by simp⟩⟩, ⟨rfl, rfl, rfl, by simp, fun k hk _ => ?_⟩⟩
      by_cases hkg : k = g
      · subst hkg
        rw [hg]
        simpa using hset
      · exact setRow_other w g k _ hkg
    · have hr := run_append_grow (P := P) w t ty e i z ht hi hz ⟨g, 0, none⟩ 0 0 [] (by simp) (by simp) ad m cap ys hl hcells (by omega) (by simp only [maxLen] at h63; omega) (growslice_fits (by omega) (by simpa using hbytes))
      have hge := grownCap_ge w (0 + m) 0 e
      have hcm : grownCap w (0 + m) 0 e ≤ maxLen := grownCap_le_maxLen w (0 + m) 0 e (by omega)
      refine ⟨_, _, hr, ?_, ⟨rfl, rfl, rfl, by simp, fun k hk _ => heap_alloc_old w.drew _ hk⟩⟩
      simp only [Nat.zero_add] at hge hcm ⊢
      refine ⟨hl, .inr ⟨w.heap.size, _, _, rfl, hbase, heap_alloc_new w.drew _, hge, hcm, ?_, ?_⟩⟩
      · simp only [Array.size_append, List.size_toArray, size_zeroCells, hzs, hl, List.length_nil, Nat.zero_add, ← Nat.add_mul]
        congr 1
        omega
      · simp only [Array.toList_append, List.nil_append, List.append_assoc, ← hl]
        exact List.take_left
/-- `append(v, v2...)` onto an empty slice without room: nothing that was there is written. -/
theorem Sh.loud_app0 {α : Type} {P : Program} {o : Oper} {a : Act} {w : World} {R : Value → World → Prop} (s : Sh α) (B : Nat) {e t : TypeId} {z : Value} {by_ : Nat} (hinf : (P.info? e).map (fun i => (i.zero, i.size, i.bytes)) = some (some z, s.sz, by_)) (hz : z.cells.size = s.sz) (ht : P.underlying t = some (.slice e))
    (g : Nat) (v2 : Value) (M : List α) (x y : Operand) (ho : o.op = .call { callee := .builtin .append, args := #[x, y], argTypes := #[t, t] }) (hs : a.eval x = .slice (some ⟨g, 0, none⟩) 0 0) (hx : a.eval y = v2) (hg : w.heap[g]? = some (.cells #[] e (0, 0))) (hgb : B ≤ g) (hsl : s.R w v2 M)
    (hl : M.length * (by_ + 1) ≤ 140737488355328) (hB : B ≤ w.heap.size) (hR : ∀ v' w', s.O w' B e v' M → w.grownBy w' none → R v' w') : Free.Loud P o a w R := by
  obtain ⟨i0, hi, hz0, hz1, hz2⟩ := info_parts hinf
  have h1 : M.length ≤ M.length * (by_ + 1) := Nat.le_mul_of_pos_right _ (by omega)
  have h2 : M.length * by_ ≤ M.length * (by_ + 1) := Nat.mul_le_mul_left _ (by omega)
  obtain ⟨v', w', hr, h3, h4⟩ := run_append_empty (P := P) B t o.type e i0 z s.sz by_ ht hi hz0 hz1 hz2 hz g hg hgb v2 M.length (s.cs M) hsl (Sh.cs_one M) (by unfold maxLen; omega) (by omega) hB
  unfold Free.Loud execOp
  simp only [ho, resolve, invoke, builtin, Sem.run_bind, Sem.run_pure, Result.andThen_ok, List.map_toArray, List.map_cons, List.map_nil, hs, hx, hr]
  exact hR v' w' h3 h4
theorem Sh.loud_app {α : Type} {P : Program} {o : Oper} {a : Act} {w : World} {R : Value → World → Prop} (s : Sh α) (B : Nat) {e t : TypeId} {z : Value} {by_ : Nat} (hinf : (P.info? e).map (fun i => (i.zero, i.size, i.bytes)) = some (some z, s.sz, by_)) (hz : z.cells.size = s.sz) (ht : P.underlying t = some (.slice e))
    (v v2 : Value) (L M : List α) (x y : Operand) (ho : o.op = .call { callee := .builtin .append, args := #[x, y], argTypes := #[t, t] }) (hs : a.eval x = v) (hx : a.eval y = v2) (h : s.O w B e v L) (hsl : s.R w v2 M)
    (hl : (L.length + M.length) * (by_ + 1) ≤ 140737488355328) (hB : B ≤ w.heap.size) (hR : ∀ v' w', s.O w' B e v' (L ++ M) → Grw w w' v v' → R v' w') : Free.Loud P o a w R := by
  obtain ⟨i0, hi, hz0, hz1, hz2⟩ := info_parts hinf
  have h1 : L.length + M.length ≤ (L.length + M.length) * (by_ + 1) := Nat.le_mul_of_pos_right _ (by omega)
  have h2 : (L.length + M.length) * by_ ≤ (L.length + M.length) * (by_ + 1) := Nat.mul_le_mul_left _ (by omega)
  obtain ⟨v', w', hr, h3, h4, _⟩ := run_append_x (P := P) B t o.type e i0 z s.sz by_ ht hi hz0 hz1 hz2 hz s.pos v L.length (s.cs L) h v2 M.length (s.cs M) hsl (Sh.cs_one M) (by unfold maxLen; omega) (by omega) hB
  unfold Free.Loud execOp
  simp only [ho, resolve, invoke, builtin, Sem.run_bind, Sem.run_pure, Result.andThen_ok, List.map_toArray, List.map_cons, List.map_nil, hs, hx, hr]
  refine hR v' w' ?_ h4
  unfold Sh.O
  rw [Sh.cs_append, List.length_append]
  exact h3
theorem Sh.O.keepP {α : Type} {s : Sh α} {w w' : World} {B : Nat} {e : TypeId} {v : Value} {L : List α} {S : Nat → Prop} (h : s.O w B e v L) (hk : Free.KeepsP S w w') (hS : ∀ g, v.ownBlock = some g → ¬ S g) : s.O w' B e v L := by
  refine ⟨h.1, ?_⟩
  rcases h.2 with hn | ⟨g, cap, cur, rfl, hb, hg, rest⟩
  · exact .inl hn
  · exact .inr ⟨g, cap, cur, rfl, hb, (hk.block g (Array.getElem?_eq_some_iff.1 hg).1 (hS g rfl)).trans hg, rest⟩
namespace Ins
variable {α : Type}
/-- What holds behind each operation: 0 makes the empty slice, A appends the first part, M makes the slice of one, A2 appends it, A3 the rest (A3 = A2: there is none). -/
def F (s : Sh α) (A M A2 A3 : Nat) (B0 : Nat) (e : TypeId) (L1 : List α) (x : α) (L2 : List α) (i : Nat) (v : Value) (w : World) : Prop :=
  (i = 0 → ∃ g, v = .slice (some ⟨g, 0, none⟩) 0 0 ∧ B0 ≤ g ∧ w.heap[g]? = some (.cells #[] e (0, 0))) ∧ (i = A → s.O w B0 e v L1) ∧ (i = M → s.R w v [x] ∧ s.O w B0 e v [x]) ∧ (i = A2 → s.O w B0 e v (L1 ++ [x])) ∧ (i = A3 → A3 ≠ A2 → s.O w B0 e v (L1 ++ [x] ++ L2))
def T (A2 A3 B0 : Nat) (k b : Nat) : Prop := (k = A2 ∨ k = A3) ∧ B0 ≤ b
def K (A2 A3 : Nat) (k i : Nat) : Bool := (k == A2 && i != A3 && i != A2) || (k == A3 && i != A3)
theorem keepF {s : Sh α} {A M A2 A3 : Nat} {B0 : Nat} {e : TypeId} {L1 : List α} {x : α} {L2 : List α} {i : Nat} {v : Value} {w w' : World} (h : F s A M A2 A3 B0 e L1 x L2 i v w) (hk : Free.KeepsP (fun _ => False) w w') : F s A M A2 A3 B0 e L1 x L2 i v w' := by
  obtain ⟨h0, h1, h2, h3, h4⟩ := h
  refine ⟨fun hi => ?_, fun hi => (h1 hi).keepP hk (by simp), fun hi => ?_, fun hi => (h3 hi).keepP hk (by simp), fun hi hn => (h4 hi hn).keepP hk (by simp)⟩
  · obtain ⟨g, e1, e2, e3⟩ := h0 hi
    exact ⟨g, e1, e2, (hk.block g (Array.getElem?_eq_some_iff.1 e3).1 (by simp)).trans e3⟩
  · have := (h2 hi).2.keepP hk (by simp)
    exact ⟨this.r, this⟩
theorem stable {s : Sh α} {A M A2 A3 : Nat} {B0 : Nat} {e : TypeId} {L1 : List α} {x : α} {L2 : List α} {ops : Array Oper} {loud : Nat → Bool} (hpre : A3 = A2 ∨ Free.pre ops A2 A3 = true) :
    ∀ i k v w w', loud i = true → i ≠ k → K A2 A3 k i = false → Free.pre ops k i = false → F s A M A2 A3 B0 e L1 x L2 i v w → Free.KeepsP (T A2 A3 B0 k) w w' → F s A M A2 A3 B0 e L1 x L2 i v w' := by
  intro i k v w w' _ hne hK hp hF hk
  by_cases h2 : k = A2
  · subst h2
    by_cases h3 : i = A3
    · subst h3
      rcases hpre with e | e
      · exact absurd e hne
      · rw [hp] at e; cases e
    · exfalso
      unfold K at hK
      simp only [beq_self_eq_true, Bool.true_and, Bool.or_eq_false_iff] at hK
      have h4 := hK.1
      simp [h3, hne] at h4
  · by_cases h3 : k = A3
    · subst h3
      exfalso
      unfold K at hK
      simp [hne] at hK
    · exact keepF hF (hk.mono (fun b hb => by rcases hb.1 with e | e; exact h2 e; exact h3 e))
def Nums (A M A2 A3 : Nat) : Prop := A ≠ 0 ∧ M ≠ 0 ∧ A2 ≠ 0 ∧ A3 ≠ 0 ∧ A ≠ M ∧ A ≠ A2 ∧ A ≠ A3 ∧ M ≠ A2 ∧ M ≠ A3
theorem R_keepP {s : Sh α} {w w' : World} {v : Value} {L : List α} {S : Nat → Prop} (h : s.R w v L) (hk : Free.KeepsP S w w') (hS : ∀ b, S b → w.heap.size ≤ b) : s.R w' v L :=
  Sl.keep h fun b o hb => .inl (hk.cell b o hb (fun h => by have := hS b h; omega))
theorem O_le {s : Sh α} {w : World} {B B' e : Nat} {v : Value} {L : List α} (h : s.O w B e v L) (hb : B' ≤ B) : s.O w B' e v L := by
  refine ⟨h.1, ?_⟩
  rcases h.2 with hn | ⟨g, cap, cur, rfl, h1, rest⟩
  · exact .inl hn
  · exact .inr ⟨g, cap, cur, rfl, Nat.le_trans hb h1, rest⟩
theorem fE {s : Sh α} {A M A2 A3 : Nat} {B0 : Nat} {e : TypeId} {L1 : List α} {x : α} {L2 : List α} (hn : Nums A M A2 A3) {w : World} (hw : B0 ≤ w.heap.size) : F s A M A2 A3 B0 e L1 x L2 0 (.slice (some ⟨w.heap.size, 0, none⟩) 0 0) (w.alloc (.cells #[] e)) ∧ Free.KeepsP (T A2 A3 B0 0) w (w.alloc (.cells #[] e)) := by
  obtain ⟨h1, h2, h3, h4, _⟩ := hn
  exact ⟨⟨fun _ => ⟨_, rfl, hw, heap_alloc_new w _⟩, fun h => absurd h.symm h1, fun h => absurd h.symm h2, fun h => absurd h.symm h3, fun h => absurd h.symm h4⟩, Free.KeepsP.alloc _ _ _⟩
theorem fM {s : Sh α} {A M A2 A3 : Nat} {B0 : Nat} {e : TypeId} {L1 : List α} {x : α} {L2 : List α} (hn : Nums A M A2 A3) {w : World} (hw : B0 ≤ w.heap.size) (xs : Array Value) (hx : xs.toList = s.cf x) : F s A M A2 A3 B0 e L1 x L2 M (.slice (some ⟨w.heap.size, 0, none⟩) 1 1) (w.alloc (.cells xs e)) ∧ Free.KeepsP (T A2 A3 B0 M) w (w.alloc (.cells xs e)) := by
  obtain ⟨h1, h2, h3, h4, h5, h6, h7, h8, h9⟩ := hn
  have hl : xs.size = s.sz := by rw [← Array.length_toList, hx]; exact s.len x
  have hO : s.O (w.alloc (.cells xs e)) B0 e (.slice (some ⟨w.heap.size, 0, none⟩) 1 1) [x] := by
    refine ⟨by simp [Sh.cs, s.len], .inr ⟨w.heap.size, 1, xs, rfl, hw, heap_alloc_new w _, Nat.le_refl _, by simp [maxLen], by simpa using hl, ?_⟩⟩
    rw [List.take_of_length_le (by simp [hl]), hx]
    simp [Sh.cs]
  exact ⟨⟨fun h => absurd h h2, fun h => absurd h.symm h5, fun _ => ⟨hO.r, hO⟩, fun h => absurd h h8, fun h => absurd h h9⟩, Free.KeepsP.alloc _ _ _⟩
section
variable {P : Program} {o : Oper} {a : Act} {w w0 : World} {s : Sh α} {A M A2 A3 : Nat} {e t : TypeId} {L1 : List α} {x : α} {L2 : List α} {z : Value} {by_ : Nat}
theorem lA {S : Nat → Prop} (hn : Nums A M A2 A3) (hinf : (P.info? e).map (fun i => (i.zero, i.size, i.bytes)) = some (some z, s.sz, by_)) (hz : z.cells.size = s.sz) (ht : P.underlying t = some (.slice e)) {v0 v2 : Value} (hk : Free.KeepsP S w0 w) (hS : ∀ b, S b → w0.heap.size ≤ b) (h0 : F s A M A2 A3 w0.heap.size e L1 x L2 0 v0 w) (hR : s.R w0 v2 L1) (p q : Operand)
    (ho : o.op = .call { callee := .builtin .append, args := #[p, q], argTypes := #[t, t] }) (hs : a.eval p = v0) (hx : a.eval q = v2) (hl : L1.length * (by_ + 1) ≤ 140737488355328) : Free.Loud P o a w (fun v w' => F s A M A2 A3 w0.heap.size e L1 x L2 A v w' ∧ Free.KeepsP (T A2 A3 w0.heap.size A) w w') := by
  obtain ⟨h1, h2, h3, h4, h5, h6, h7, h8, h9⟩ := hn
  obtain ⟨g, rfl, hg0, hgc⟩ := h0.1 rfl
  refine Sh.loud_app0 s w0.heap.size hinf hz ht g v2 L1 p q ho hs hx hgc hg0 (R_keepP hR hk hS) hl hk.size ?_
  intro v' w' hO hgr
  exact ⟨⟨fun h => absurd h h1, fun _ => hO, fun h => absurd h h5, fun h => absurd h h6, fun h => absurd h h7⟩, Free.KeepsP.grown hgr (by simp)⟩
theorem lA2 {S : Nat → Prop} (hn : Nums A M A2 A3) (hinf : (P.info? e).map (fun i => (i.zero, i.size, i.bytes)) = some (some z, s.sz, by_)) (hz : z.cells.size = s.sz) (ht : P.underlying t = some (.slice e)) {vA vM : Value} (hk : Free.KeepsP S w0 w) (hA : F s A M A2 A3 w0.heap.size e L1 x L2 A vA w) (hM : F s A M A2 A3 w0.heap.size e L1 x L2 M vM w) (p q : Operand)
    (ho : o.op = .call { callee := .builtin .append, args := #[p, q], argTypes := #[t, t] }) (hs : a.eval p = vA) (hx : a.eval q = vM) (hl : (L1.length + 1) * (by_ + 1) ≤ 140737488355328) : Free.Loud P o a w (fun v w' => F s A M A2 A3 w0.heap.size e L1 x L2 A2 v w' ∧ Free.KeepsP (T A2 A3 w0.heap.size A2) w w') := by
  obtain ⟨h1, h2, h3, h4, h5, h6, h7, h8, h9⟩ := hn
  have hOA := hA.2.1 rfl
  refine Sh.loud_app s w0.heap.size hinf hz ht vA vM L1 [x] p q ho hs hx hOA (hM.2.2.1 rfl).1 hl hk.size ?_
  intro v' w' hO hgr
  exact ⟨⟨fun h => absurd h h3, fun h => absurd h.symm h6, fun h => absurd h.symm h8, fun _ => hO, fun h hne => absurd h.symm hne⟩, Free.KeepsP.grown hgr.grown (fun b hb => ⟨.inl rfl, hOA.ge b hb⟩)⟩
theorem lA3 {S : Nat → Prop} (hn : Nums A M A2 A3) (h23 : A3 ≠ A2) (hinf : (P.info? e).map (fun i => (i.zero, i.size, i.bytes)) = some (some z, s.sz, by_)) (hz : z.cells.size = s.sz) (ht : P.underlying t = some (.slice e)) {vA v2 : Value} (hk : Free.KeepsP S w0 w) (hS : ∀ b, S b → w0.heap.size ≤ b) (hA : F s A M A2 A3 w0.heap.size e L1 x L2 A2 vA w) (hR : s.R w0 v2 L2) (p q : Operand)
    (ho : o.op = .call { callee := .builtin .append, args := #[p, q], argTypes := #[t, t] }) (hs : a.eval p = vA) (hx : a.eval q = v2) (hl : (L1.length + 1 + L2.length) * (by_ + 1) ≤ 140737488355328) : Free.Loud P o a w (fun v w' => F s A M A2 A3 w0.heap.size e L1 x L2 A3 v w' ∧ Free.KeepsP (T A2 A3 w0.heap.size A3) w w') := by
  obtain ⟨h1, h2, h3, h4, h5, h6, h7, h8, h9⟩ := hn
  have hOA := hA.2.2.2.1 rfl
  refine Sh.loud_app s w0.heap.size hinf hz ht vA v2 (L1 ++ [x]) L2 p q ho hs hx hOA (R_keepP hR hk hS) (by rw [List.length_append, List.length_singleton]; exact hl) hk.size ?_
  intro v' w' hO hgr
  exact ⟨⟨fun h => absurd h h4, fun h => absurd h.symm h7, fun h => absurd h.symm h9, fun h => absurd h h23, fun _ _ => hO⟩, Free.KeepsP.grown hgr.grown (fun b hb => ⟨.inr rfl, hOA.ge b hb⟩)⟩
end
theorem low {ops : Array Oper} {A2 A3 B0 i b : Nat} (h : Free.sx ops (T A2 A3 B0) i b) : B0 ≤ b := by obtain ⟨k, _, _, h⟩ := h; exact h.2
theorem lowA {A2 A3 B0 b : Nat} (h : Free.sa (T A2 A3 B0) b) : B0 ≤ b := by obtain ⟨k, h⟩ := h; exact h.2
end Ins
end Go.Proofs.Ytiplgpefapeapaa

namespace Go.Proofs.Ytiplgpefapeapaa
open Go.RowKit

theorem LRd.ins {w : World} {X : List AnV} {Y : List Ans} {x : AnV} {y : Ans} (h : LRd w X Y) (hx : InR w x y) (k : Nat) : LRd w (X.take k ++ [x] ++ X.drop k) (Y.take k ++ y :: Y.drop k) := by
  obtain ⟨hl, hh⟩ := h
  refine ⟨by simp; omega, fun j a b ha hb => ?_⟩
  rw [List.append_assoc, List.singleton_append] at ha
  have htl : (X.take k).length = (Y.take k).length := by simp [hl]
  by_cases h1 : j < (X.take k).length
  · rw [List.getElem?_append_left h1] at ha
    rw [List.getElem?_append_left (by omega)] at hb
    rw [List.getElem?_take] at ha hb
    split at ha
    · rename_i hjk
      rw [if_pos hjk] at hb
      exact hh j a b ha hb
    · cases ha
  · rw [List.getElem?_append_right (by omega)] at ha
    rw [List.getElem?_append_right (by omega)] at hb
    rw [← htl] at hb
    obtain ⟨i, hi⟩ : ∃ i, j - (X.take k).length = i := ⟨_, rfl⟩
    rw [hi] at ha hb
    cases i with
    | zero => simp at ha hb; subst ha hb; exact hx
    | succ i =>
      simp only [List.getElem?_cons_succ, List.getElem?_drop] at ha hb
      exact hh _ a b ha hb
theorem insO_len (l : List Ans) (p : Qn × Option Ans) : (insO l p).length ≤ l.length + 1 := by
  unfold insO
  split
  · rw [(insA_perm _ _).length_eq]; simp
  · omega
def SortPost (w : World) (t : Tr) (e : Ending) (w' : World) : Prop := ∃ v, e = .returned v ∧ RdA w' v (srtOf t.qs) ∧ Keeps [] w w'
end Go.Proofs.Ytiplgpefapeapaa

namespace Go.Proofs.Ytiplgpefapeapaa
open Go.RowKit

end Go.Proofs.Ytiplgpefapeapaa

namespace Go.Proofs.Ytiplgpefapeapaa
open Go.RowKit

/-- A list of needs, in a block of needs. -/
def Nd (w : World) (v : Value) (L : List T3) : Prop := shT.R w v L ∧ ∀ b, v.ownBlock = some b → ∃ (cs : Array Value) (f : Nat × Nat), w.heap[b]? = some (Obj.cells cs tN f)
theorem Nd.nil (w : World) : Nd w (.slice none 0 0) [] := ⟨Sh.R.nil _ _, fun b h => by simp [Value.ownBlock] at h⟩
theorem Nd.of_O {w : World} {B : Nat} {v : Value} {L : List T3} (h : shT.O w B tN v L) : Nd w v L := ⟨h.r, fun b hb => by obtain ⟨cs, hc⟩ := h.tag b hb; exact ⟨cs, _, hc⟩⟩
theorem Nd.keepS {w w' : World} {v : Value} {L : List T3} {S : List Nat} (h : Nd w v L) (hk : Keeps S w w') (hS : ∀ b ∈ S, ∀ (cs : Array Value) (f : Nat × Nat), w.heap[b]? ≠ some (Obj.cells cs tN f)) : Nd w' v L := by
  refine ⟨h.1.keepS hk (fun b hb e => ?_), fun b hb => ?_⟩
  · obtain ⟨cs, f, hc⟩ := h.2 b e
    exact hS b hb cs f hc
  · obtain ⟨cs, f, hc⟩ := h.2 b hb
    exact ⟨cs, f, (hk.block b (lt_of_blk' hc) (fun hm => hS b hm cs f hc)).trans hc⟩
theorem Nd.keeps {w w' : World} {v : Value} {L : List T3} (h : Nd w v L) (hk : Keeps [] w w') : Nd w' v L := h.keepS hk (by simp)
theorem Nd.put {w w' : World} {v v' : Value} {L : List T3} {n : T3} (h : Nd w v L) (hk : Keeps [] w w') (hp : (v' = v ∧ putN n L = L) ∨ shT.O w' w.heap.size tN v' (putN n L)) : Nd w' v' (putN n L) := by
  rcases hp with ⟨rfl, e⟩ | hO
  · rw [e]; exact h.keeps hk
  · exact Nd.of_O hO
structure CRt (w : World) (x : ClV) (p : PCl) : Prop where
  m : x.m = p.m
  ep : x.ep = p.ep
  st : Nd w (slv x.v1) p.st
  sc : Nd w (slv x.v2) p.sc
  ch : Nd w (slv x.v3) p.ch
theorem CRt.keepS {w w' : World} {x : ClV} {p : PCl} {S : List Nat} (h : CRt w x p) (hk : Keeps S w w') (hS : ∀ b ∈ S, ∀ (cs : Array Value) (f : Nat × Nat), w.heap[b]? ≠ some (Obj.cells cs tN f)) : CRt w' x p := ⟨h.m, h.ep, h.st.keepS hk hS, h.sc.keepS hk hS, h.ch.keepS hk hS⟩
def Rows' (w : World) (C : List ClV) (P : List PCl) : Prop := C.length = P.length ∧ ∀ (j : Nat) (x : ClV) (p : PCl), C[j]? = some x → P[j]? = some p → CRt w x p
theorem Rows'.keepS {w w' : World} {C : List ClV} {P : List PCl} {S : List Nat} (h : Rows' w C P) (hk : Keeps S w w') (hS : ∀ b ∈ S, ∀ (cs : Array Value) (f : Nat × Nat), w.heap[b]? ≠ some (Obj.cells cs tN f)) : Rows' w' C P := ⟨h.1, fun j x p h1 h2 => (h.2 j x p h1 h2).keepS hk hS⟩
theorem Rows'.keeps {w w' : World} {C : List ClV} {P : List PCl} (h : Rows' w C P) (hk : Keeps [] w w') : Rows' w' C P := h.keepS hk (by simp)
theorem Rows'.snoc {w : World} {C : List ClV} {P : List PCl} {x : ClV} {p : PCl} (h : Rows' w C P) (hx : CRt w x p) : Rows' w (C ++ [x]) (P ++ [p]) := by
  obtain ⟨hl, hh⟩ := h
  refine ⟨by simp [hl], fun j a b ha hb => ?_⟩
  by_cases e : j < C.length
  · rw [List.getElem?_append_left e] at ha
    rw [List.getElem?_append_left (by omega)] at hb
    exact hh j a b ha hb
  · rw [List.getElem?_append_right (by omega)] at ha
    rw [List.getElem?_append_right (by omega), ← hl] at hb
    obtain ⟨i, hi⟩ : ∃ i, j - C.length = i := ⟨_, rfl⟩
    rw [hi] at ha hb
    cases i with
    | zero => simp at ha hb; subst ha hb; exact hx
    | succ i => simp at ha
theorem Rows'.setL {w : World} {C : List ClV} {R : List PCl} {c d : PCl} {y : ClV} {n : Nat} (h : Rows' w C (R ++ [c])) (hn : R.length = n) (hy : CRt w y d) : Rows' w (C.set n y) (R ++ [d]) := by
  obtain ⟨hl, hh⟩ := h
  refine ⟨by simpa using hl, fun j a b ha hb => ?_⟩
  rw [List.getElem?_set] at ha
  by_cases e : n = j
  · subst e
    rw [← hn, List.getElem?_append_right (Nat.le_refl _)] at hb
    simp at hb
    subst hb
    rw [if_pos rfl] at ha
    split at ha
    · cases ha; exact hy
    · cases ha
  · rw [if_neg e] at ha
    by_cases e2 : j < R.length
    · rw [List.getElem?_append_left e2] at hb
      exact hh j a b ha (by rw [List.getElem?_append_left e2]; exact hb)
    · have : j < C.length := (List.getElem?_eq_some_iff.1 ha).1
      simp at hl
      omega
theorem Rows'.lc {w : World} {v : Value} {C : List ClV} {P : List PCl} (h : Rows' w C P) (hR : shC.R w v C) : LC w v P := ⟨C, hR, h.1, fun k x p h1 h2 => by
  have := h.2 k x p h1 h2
  exact ⟨this.m, this.ep, this.st.1, this.sc.1, this.ch.1⟩⟩
theorem putN_len (n : T3) : ∀ l : List T3, (putN n l).length ≤ l.length + 1
  | [] => by simp [putN]
  | x :: r => by
    unfold putN
    split
    · have := putN_len n r; simp; omega
    · split
      · simp
      · simp
theorem scR_fold_len (t : Tr) (m : Int) : ∀ (l acc : List T3), (l.foldl (scR t m) acc).length ≤ acc.length + l.length
  | [], acc => by simp
  | x :: r, acc => by
    rw [List.foldl_cons]
    have h1 := scR_fold_len t m r (scR t m acc x)
    have h2 := putN_len (scN t m x) acc
    unfold scR at h1 h2 ⊢
    simp; omega
theorem refOf_len (t : Tr) (O : List (Qn × Int)) (Y : List Ans) (hY : ∀ a ∈ Y, a.ins.length ≤ 100000) : LenLe (refOf t O Y) (Y.length * 100001) := by
  induction Y using snoc_ind with
  | h0 => intro k hk; simp [refOf] at hk
  | hs Y a ih =>
    have ih := ih (fun b hb => hY b (by simp [hb]))
    have ha := hY a (by simp)
    have e : refOf t O (Y ++ [a]) = refC t O (refOf t O Y) a := by unfold refOf; rw [List.foldl_append]; rfl
    rw [e]
    have hb : (Y ++ [a]).length * 100001 = Y.length * 100001 + 100001 := by rw [List.length_append, List.length_singleton, Nat.add_mul, Nat.one_mul]
    rw [hb]
    obtain ⟨K, hK⟩ : ∃ K, Y.length * 100001 = K := ⟨_, rfl⟩
    rw [hK] at ih ⊢
    clear hK hb
    have h1 := ih.openC a
    obtain ⟨n, hn, _⟩ := openC_pos (refOf t O Y) a
    rcases nil_or_snoc (openC (refOf t O Y) a) with h | ⟨R, c, h⟩
    · rw [h] at hn; simp at hn
    · rw [refC_at h]
      rw [h] at h1
      have hR : ∀ k (hk : k < R.length) (j : Nat), j < 3 → (R[k].at j).length ≤ K := fun k hk j hj => by
        have := h1 k (by simp; omega) j hj
        rw [List.getElem_append_left hk] at this; exact this
      have hc : ∀ j, j < 3 → (c.at j).length ≤ K := fun j hj => by
        have := h1 R.length (by simp) j hj
        rw [List.getElem_append_right (Nat.le_refl _)] at this; simpa using this
      intro k hk j hj
      by_cases e2 : k < R.length
      · rw [List.getElem_append_left e2]; have := hR k e2 j hj; omega
      · have hkk : k = R.length := by simp at hk; omega
        subst hkk
        rw [List.getElem_append_right (Nat.le_refl _)]
        simp only [Nat.sub_self, List.getElem_cons_zero]
        match j, hj with
        | 0, _ =>
          have := hc 0 (by omega)
          simp only [PCl.at] at this
          show (stR O a c.st).length ≤ _
          unfold stR
          split
          · have := putN_len (a.ow, a.n, ‹Int›) c.st; omega
          · omega
        | 1, _ =>
          have := hc 1 (by omega)
          simp only [PCl.at] at this
          show (a.ins.foldl (scR t a.m) c.sc).length ≤ _
          have := scR_fold_len t a.m a.ins c.sc
          omega
        | 2, _ =>
          have := hc 2 (by omega)
          simp only [PCl.at] at this
          show (chR O a c.ch).length ≤ _
          unfold chR
          split
          · omega
          · have := putN_len (a.ow, a.n, 0) c.ch; omega
/-- Five cells of a row are stored. -/
theorem setRow5 {w : World} {B g n c : Nat} {L : List ClV} (h : shC.O w B tC (.slice (some ⟨g, 0, none⟩) n c) L) {k : Nat} (hk : k < L.length) (y : ClV) :
    shC.O (((((w.setCell ⟨g, k * 5, none⟩ (.int .i64 y.m)).setCell ⟨g, k * 5 + 1, none⟩ (.int .i64 y.ep)).setCell ⟨g, k * 5 + 2, none⟩ (slv y.v1)).setCell ⟨g, k * 5 + 3, none⟩ (slv y.v2)).setCell ⟨g, k * 5 + 4, none⟩ (slv y.v3)) B tC (.slice (some ⟨g, 0, none⟩) n c) (L.set k y) := by
  obtain ⟨z, hz⟩ : ∃ z, L[k] = z := ⟨_, rfl⟩
  have h1 := h.set hk { z with m := y.m } 0 (.int .i64 y.m) (by rw [hz]; rfl) (by decide) rfl
  have hk1 : k < (L.set k { z with m := y.m }).length := by simpa using hk
  have h2 := h1.set hk1 { z with m := y.m, ep := y.ep } 1 (.int .i64 y.ep) (by simp [shC, ClV.cs]) (by decide) rfl
  rw [List.set_set] at h2
  have h3 := h2.set (by simpa using hk) { z with m := y.m, ep := y.ep, v1 := y.v1 } 2 (slv y.v1) (by simp [shC, ClV.cs]) (by decide) rfl
  rw [List.set_set] at h3
  have h4 := h3.set (by simpa using hk) { z with m := y.m, ep := y.ep, v1 := y.v1, v2 := y.v2 } 3 (slv y.v2) (by simp [shC, ClV.cs]) (by decide) rfl
  rw [List.set_set] at h4
  have h5 := h4.set (by simpa using hk) y 4 (slv y.v3) (by simp [shC, ClV.cs]) (by decide) rfl
  rw [List.set_set] at h5
  exact h5
end Go.Proofs.Ytiplgpefapeapaa

namespace Go.Proofs.Ytiplgpefapeapaa
open Go.RowKit

/-- A list of claims that is read, its needs in blocks of needs. -/
def LCt (w : World) (v : Value) (P : List PCl) : Prop := ∃ C, shC.R w v C ∧ Rows' w C P
theorem LCt.lc {w : World} {v : Value} {P : List PCl} (h : LCt w v P) : LC w v P := by obtain ⟨C, h1, h2⟩ := h; exact h2.lc h1
theorem LCt.keeps {w w' : World} {v : Value} {P : List PCl} (h : LCt w v P) (hk : Keeps [] w w') : LCt w' v P := by obtain ⟨C, h1, h2⟩ := h; exact ⟨C, h1.keeps hk, h2.keeps hk⟩
theorem LCt.elem {w : World} {v : Value} {P : List PCl} (h : LCt w v P) {k : Nat} (hk : k < P.length) : ∃ g o c x, v = .slice (some ⟨g, o, none⟩) P.length c ∧ CRt w x P[k] ∧ w.cell? ⟨g, o + k * 5, none⟩ = some (.int .i64 x.m) ∧ w.cell? ⟨g, o + k * 5 + 1, none⟩ = some (.int .i64 x.ep) ∧
    w.cell? ⟨g, o + k * 5 + 2, none⟩ = some (slv x.v1) ∧ w.cell? ⟨g, o + k * 5 + 3, none⟩ = some (slv x.v2) ∧ w.cell? ⟨g, o + k * 5 + 4, none⟩ = some (slv x.v3) := by
  obtain ⟨C, h1, h2⟩ := h
  have hkC : k < C.length := by rw [h2.1]; exact hk
  obtain ⟨g, o, c, e, he⟩ := h1.elem hkC
  rw [h2.1] at e
  refine ⟨g, o, c, C[k], e, h2.2 k _ _ (List.getElem?_eq_getElem hkC) (List.getElem?_eq_getElem hk), ?_, ?_, ?_, ?_, ?_⟩
  · simpa [shC] using he 0 _ rfl
  · simpa [shC] using he 1 _ rfl
  · simpa [shC] using he 2 _ rfl
  · simpa [shC] using he 3 _ rfl
  · simpa [shC] using he 4 _ rfl
def ClmsR (w : World) (t : Tr) (Y : List Ans) (e : Ending) (w' : World) : Prop := ∃ v, e = .returned v ∧ LCt w' v (refOf t (outsOf Y) Y) ∧ Keeps [] w w'
theorem tag_C {w : World} {b : Nat} {cs : Array Value} {f : Nat × Nat} (h : w.heap[b]? = some (Obj.cells cs tC f)) : ∀ (cs' : Array Value) (f' : Nat × Nat), w.heap[b]? ≠ some (Obj.cells cs' tN f') := fun cs' f' e => by rw [h] at e; cases e
theorem crow5 {w : World} {gc n : Nat} {C1 : List ClV} {cc : Nat} (h : shC.R w (.slice (some ⟨gc, 0, none⟩) (n + 1) cc) C1) (hn : n < C1.length) :
    w.cell? ⟨gc, n * 5, none⟩ = some (.int .i64 C1[n].m) ∧ w.cell? ⟨gc, n * 5 + 1, none⟩ = some (.int .i64 C1[n].ep) ∧ w.cell? ⟨gc, n * 5 + 2, none⟩ = some (slv C1[n].v1) ∧ w.cell? ⟨gc, n * 5 + 3, none⟩ = some (slv C1[n].v2) ∧ w.cell? ⟨gc, n * 5 + 4, none⟩ = some (slv C1[n].v3) := by
  obtain ⟨g', o', c', e, he⟩ := h.elem hn
  simp only [Value.slice.injEq, Option.some.injEq, Addr.mk.injEq] at e
  obtain ⟨⟨rfl, rfl, _⟩, _, _⟩ := e
  refine ⟨?_, ?_, ?_, ?_, ?_⟩
  · simpa [shC] using he 0 _ rfl
  · simpa [shC] using he 1 _ rfl
  · simpa [shC] using he 2 _ rfl
  · simpa [shC] using he 3 _ rfl
  · simpa [shC] using he 4 _ rfl
theorem st5k {w : World} {g k : Nat} {t : TypeId} {cs : Array Value} {f : Nat × Nat} (x0 x1 x2 x3 x4 : Value) (h : w.heap[g]? = some (.cells cs t f)) :
    Keeps [g] w (((((w.setCell ⟨g, k * 5, none⟩ x0).setCell ⟨g, k * 5 + 1, none⟩ x1).setCell ⟨g, k * 5 + 2, none⟩ x2).setCell ⟨g, k * 5 + 3, none⟩ x3).setCell ⟨g, k * 5 + 4, none⟩ x4) := by
  refine (((((Keeps.refl _ w).setCell ?_ _).setCell ?_ _).setCell ?_ _).setCell ?_ _).setCell ?_ _ <;> exact .inr (by simp)
end Go.Proofs.Ytiplgpefapeapaa

namespace Go.Proofs.Ytiplgpefapeapaa
open Go.RowKit

/-- Twelve cells are stored. -/
theorem st12 {w : World} {X : Nat} {t : TypeId} {x0 x1 x2 x3 x4 x5 x6 x7 x8 x9 x10 x11 u0 u1 u2 u3 u4 u5 u6 u7 u8 u9 u10 u11 : Value} (h2 : w.heap[X]? = some (.cells #[u0, u1, u2, u3, u4, u5, u6, u7, u8, u9, u10, u11] t (0, 0))) :
    ((((((((((((w.setCell ⟨X, 0, none⟩ x0).setCell ⟨X, 1, none⟩ x1).setCell ⟨X, 2, none⟩ x2).setCell ⟨X, 3, none⟩ x3).setCell ⟨X, 4, none⟩ x4).setCell ⟨X, 5, none⟩ x5).setCell ⟨X, 6, none⟩ x6).setCell ⟨X, 7, none⟩ x7).setCell ⟨X, 8, none⟩ x8).setCell ⟨X, 9, none⟩ x9).setCell ⟨X, 10, none⟩ x10).setCell ⟨X, 11, none⟩ x11).heap[X]? = some (.cells #[x0, x1, x2, x3, x4, x5, x6, x7, x8, x9, x10, x11] t (0, 0)) ∧
    Keeps [X] w ((((((((((((w.setCell ⟨X, 0, none⟩ x0).setCell ⟨X, 1, none⟩ x1).setCell ⟨X, 2, none⟩ x2).setCell ⟨X, 3, none⟩ x3).setCell ⟨X, 4, none⟩ x4).setCell ⟨X, 5, none⟩ x5).setCell ⟨X, 6, none⟩ x6).setCell ⟨X, 7, none⟩ x7).setCell ⟨X, 8, none⟩ x8).setCell ⟨X, 9, none⟩ x9).setCell ⟨X, 10, none⟩ x10).setCell ⟨X, 11, none⟩ x11) := by
  have hk : Keeps [X] w ((((((((((((w.setCell ⟨X, 0, none⟩ x0).setCell ⟨X, 1, none⟩ x1).setCell ⟨X, 2, none⟩ x2).setCell ⟨X, 3, none⟩ x3).setCell ⟨X, 4, none⟩ x4).setCell ⟨X, 5, none⟩ x5).setCell ⟨X, 6, none⟩ x6).setCell ⟨X, 7, none⟩ x7).setCell ⟨X, 8, none⟩ x8).setCell ⟨X, 9, none⟩ x9).setCell ⟨X, 10, none⟩ x10).setCell ⟨X, 11, none⟩ x11) := by
    refine ((((((((((((Keeps.refl _ w).setCell ?_ _).setCell ?_ _).setCell ?_ _).setCell ?_ _).setCell ?_ _).setCell ?_ _).setCell ?_ _).setCell ?_ _).setCell ?_ _).setCell ?_ _).setCell ?_ _).setCell ?_ _ <;> exact .inr (by simp)
  refine ⟨?_, hk⟩
  clear hk
  have s1 := setCs h2 0 x0
  generalize w.setCell ⟨X, 0, none⟩ x0 = w1 at s1 ⊢
  have s2 := setCs s1 1 x1
  generalize w1.setCell ⟨X, 1, none⟩ x1 = w2 at s2 ⊢
  have s3 := setCs s2 2 x2
  generalize w2.setCell ⟨X, 2, none⟩ x2 = w3 at s3 ⊢
  have s4 := setCs s3 3 x3
  generalize w3.setCell ⟨X, 3, none⟩ x3 = w4 at s4 ⊢
  have s5 := setCs s4 4 x4
  generalize w4.setCell ⟨X, 4, none⟩ x4 = w5 at s5 ⊢
  have s6 := setCs s5 5 x5
  generalize w5.setCell ⟨X, 5, none⟩ x5 = w6 at s6 ⊢
  have s7 := setCs s6 6 x6
  generalize w6.setCell ⟨X, 6, none⟩ x6 = w7 at s7 ⊢
  have s8 := setCs s7 7 x7
  generalize w7.setCell ⟨X, 7, none⟩ x7 = w8 at s8 ⊢
  have s9 := setCs s8 8 x8
  generalize w8.setCell ⟨X, 8, none⟩ x8 = w9 at s9 ⊢
  have s10 := setCs s9 9 x9
  generalize w9.setCell ⟨X, 9, none⟩ x9 = w10 at s10 ⊢
  have s11 := setCs s10 10 x10
  generalize w10.setCell ⟨X, 10, none⟩ x10 = w11 at s11 ⊢
  have s12 := setCs s11 11 x11
  simpa using s12
theorem shA_zero : shA.cf AnV.zero = [.int .i64 0, .int .i64 0, .int .u64 (0 : Nat), .int .i64 0, .bool false, .bool false, .int .i64 0, .slice none 0 0] := rfl
def QsRPost (w : World) (x0 : RfV) (r : Tr × List T3) (e : Ending) (w' : World) : Prop := ∃ x v, e = .returned (.tuple #[rfV x, v]) ∧ RfR w' x r.1 ∧ shT.O w' w.heap.size tN v r.2 ∧ Keeps [] w w' ∧ Fsh w w' x0 x
end Go.Proofs.Ytiplgpefapeapaa

namespace Go.Proofs.Ytiplgpefapeapaa
open Go.RowKit

def Tr.shown (t : Tr) : Bool := t.state == 1 || (t.state == 2 || t.rf)
/-- What a trace claims. -/
def ClaimsV (w : World) (t : Tr) (v : Value) : Prop :=
  (t.shown = false ∧ v = .slice none 0 0) ∨ (t.shown = true ∧ ∃ P Y, LC w v P ∧ SortedA t Y ∧ ClaimsP t Y P)
def ClaimsPost (w : World) (t : Tr) (e : Ending) (w' : World) : Prop := ∃ v, e = .returned v ∧ ClaimsV w' t v ∧ Keeps [] w w'
end Go.Proofs.Ytiplgpefapeapaa

namespace Go.Proofs.Ytiplgpefapeapaa
open Go.RowKit

theorem sizeC : (Try.prog.info? tC).map (·.size) = some 5 := by kernel_rfl
theorem load_clm (w : World) (g : Nat) (t : TypeId) (x0 x1 x2 x3 x4 : Value) (f : Nat × Nat) (hg : w.heap[g]? = some (.cells #[x0, x1, x2, x3, x4] t f)) : (loadVar tC ⟨g, 0, none⟩).run Try.prog w = .ok (.agg #[x0, x1, x2, x3, x4]) w :=
  run_loadVar_row w g t tC #[x0, x1, x2, x3, x4] f _ hg Try.underlying37 rfl sizeC
theorem results_clm {fn : Func} {p u : Tmp} (h : fn.results = #[.cell p tC, .tmp u]) (tmps : Array Value) (w : World) (g : Nat) (t : TypeId) (x0 x1 x2 x3 x4 : Value) (f : Nat × Nat) (hp : tmps.getD p undef = .pointer (some ⟨g, 0, none⟩))
    (hg : w.heap[g]? = some (.cells #[x0, x1, x2, x3, x4] t f)) : (results fn tmps).run Try.prog w = .ok (.tuple #[.agg #[x0, x1, x2, x3, x4], tmps.getD u undef]) w := by
  have hp' : tmps[p]?.getD undef = .pointer (some ⟨g, 0, none⟩) := by simpa using hp
  simp [results, h, hp', asAddr, load_clm w g t x0 x1 x2 x3 x4 f hg]
def ClV.zero : ClV := ⟨0, 0, nilT, nilT, nilT⟩
def PCl.zero : PCl := ⟨0, 0, [], [], []⟩
def ClaimPost (w : World) (t : Tr) (e : Ending) (w' : World) : Prop :=
  ∃ (x : ClV) (p : PCl), e = .returned (.tuple #[clV x, .bool (t.state == 1)]) ∧ CR w' x p ∧ Keeps [] w w' ∧
    ((t.state ≠ 1 ∧ p = PCl.zero) ∨ (t.state = 1 ∧ ∃ P Y, SortedA t Y ∧ ClaimsP t Y P ∧ P[t.ag.length]? = some p))
end Go.Proofs.Ytiplgpefapeapaa
