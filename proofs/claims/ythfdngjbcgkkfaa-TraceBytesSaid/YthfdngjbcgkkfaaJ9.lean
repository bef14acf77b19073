/- Texts that the laws lean on, in the order in which they build. A trace that is answered out of a table: the plain laws. The claims of a trace whose questions are all answered are closed. Looking for a need with a peer and a number; a machine's claim. The specification's Claims and Claim. The specification's Agree and Refuse. Trace.Agree. Identities, needs and answers among a law's arguments, opened. An element of eight cells is stored into an owned list. The lists of the specification's Answer: an answer recorded, a question opened; answers and history. -/
import Derived.Test.YthfdngjbcgkkfaaJ8
set_option linter.unusedVariables false
set_option linter.unusedSimpArgs false
namespace Go.Proofs.Ythfdngjbcgkkfaa
open Go.RowKit

/-- The first answer of a table to a question. -/
def lookA (T : List Ans) (q : Qn) : Option Ans := T.find? (fun a => decide (a.q = q))
def ansOf (T : List Ans) (q : Qn) : Ans := (lookA T q).getD ⟨q.1, q.2.1, q.2.2, 0, false, false, 0, []⟩
theorem lookA_some {T : List Ans} {q : Qn} {a : Ans} (h : lookA T q = some a) : a ∈ T ∧ a.q = q := by
  unfold lookA at h
  exact ⟨List.mem_of_find?_eq_some h, by simpa using List.find?_some h⟩
theorem ansOf_q (T : List Ans) (q : Qn) : (ansOf T q).q = q := by
  unfold ansOf
  cases h : lookA T q with
  | none => rfl
  | some a => exact (lookA_some h).2
/-- The questions that lead on from the start. -/
inductive Rch (T : List Ans) (s : Qn) : Qn → Prop
  | start : Rch T s s
  | step {q : Qn} {a : Ans} {x : T3} : Rch T s q → lookA T q = some a → a.kn = true → a.rt = false → x ∈ a.ins → Rch T s (x.1, a.m, x.2.1)
def askq (q : Qn) : T3 := (q.1, q.2.2, q.2.1)
def qask (e : T3) : Qn := (e.1, e.2.2, e.2.1)
theorem qask_askq (q : Qn) : qask (askq q) = q := rfl
theorem askOf_none (q : Qn) : askOf (q, none) = some (askq q) := rfl
theorem askOf_some (q : Qn) (a : Ans) : askOf (q, some a) = none := rfl
theorem ask_setQ {q : Qn} {a : Ans} : ∀ {qs : Qs}, (qs.map (·.1)).Nodup → (q, none) ∈ qs → (qs.filterMap askOf).Perm (askq q :: (setQ q a qs).filterMap askOf)
  | [], _, h => by simp at h
  | (x, u) :: r, hn, h => by
    obtain ⟨h1, h2⟩ := List.nodup_cons.1 hn
    rw [setQ_cons]
    rcases List.mem_cons.1 h with e | hm
    · cases e
      rw [if_pos rfl, setQ_same h1, List.filterMap_cons_some (askOf_none q), List.filterMap_cons_none (askOf_some q a)]
    · have hx : x ≠ q := fun e => h1 (List.mem_map.2 ⟨(q, none), hm, e.symm⟩)
      have ih := ask_setQ (a := a) h2 hm
      rw [if_neg hx]
      cases u with
      | none =>
        rw [List.filterMap_cons_some (askOf_none x), List.filterMap_cons_some (askOf_none x)]
        exact (ih.cons _).trans (List.Perm.swap _ _ _)
      | some b => rw [List.filterMap_cons_none (askOf_some x b), List.filterMap_cons_none (askOf_some x b)]; exact ih
theorem ask_mem {qs : Qs} {e : T3} (h : e ∈ qs.filterMap askOf) : (qask e, none) ∈ qs := by
  obtain ⟨⟨q, u⟩, h1, h2⟩ := List.mem_filterMap.1 h
  cases u with
  | none => rw [askOf_none] at h2; cases h2; exact h1
  | some a => rw [askOf_some] at h2; cases h2
theorem ask_nil {qs : Qs} (h : qs.filterMap askOf = []) : allQ qs = true := by
  unfold allQ
  rw [List.all_eq_true]
  rintro ⟨q, u⟩ hp
  cases u with
  | none =>
    have := List.filterMap_eq_nil_iff.1 h _ hp
    rw [askOf_none] at this; cases this
  | some a => rfl
theorem fold_app (m : Int) : ∀ (l : List T3) (qs : Qs), ∃ N, l.foldl (openQ m) qs = qs ++ N ∧ (∀ p ∈ N, p.2 = none ∧ ∃ x ∈ l, p.1 = (x.1, m, x.2.1)) ∧ N.length ≤ l.length ∧ ∀ x ∈ l, (x.1, m, x.2.1) ∈ (qs ++ N).map (·.1)
  | [], qs => ⟨[], by simp, by simp, by simp, by simp⟩
  | x :: r, qs => by
    rw [List.foldl_cons]
    obtain ⟨N, h1, h2, h3, h4⟩ := fold_app m r (openQ m qs x)
    rw [h1]
    unfold openQ at h4 ⊢
    split
    · rename_i h
      rw [if_pos h] at h4
      refine ⟨N, rfl, fun p hp => ⟨(h2 p hp).1, ?_⟩, by simp; omega, fun y hy => ?_⟩
      · obtain ⟨y, hy, e⟩ := (h2 p hp).2
        exact ⟨y, by simp [hy], e⟩
      · rcases List.mem_cons.1 hy with rfl | hy
        · rw [List.map_append]; exact List.mem_append_left _ h
        · exact h4 y hy
    · rename_i h
      rw [if_neg h] at h4
      refine ⟨((x.1, m, x.2.1), none) :: N, by simp, fun p hp => ?_, by simp; omega, fun y hy => ?_⟩
      · rcases List.mem_cons.1 hp with rfl | hp
        · exact ⟨rfl, x, by simp, rfl⟩
        · obtain ⟨y, hy, e⟩ := (h2 p hp).2
          exact ⟨(h2 p hp).1, y, by simp [hy], e⟩
      · rcases List.mem_cons.1 hy with rfl | hy
        · simp
        · have := h4 y hy
          simpa using this
/-- Some question that leads on is not answered well. -/
def BadQ (T : List Ans) (s : Qn) : Prop := ∃ q, Rch T s q ∧ ∀ a, lookA T q = some a → a.kn = false ∨ a.rt = true ∨ ∃ b ∈ T, b.m = a.m ∧ b.ep ≠ a.ep
structure FinI (T : List Ans) (s : Qn) (t : Tr) : Prop where
  rch : ∀ q ∈ t.op, Rch T s q
  rc : ∀ p ∈ t.rec', lookA T p.1 = some p.2 ∧ p.2.kn = true ∧ p.2.rt = false
  cl : ∀ p ∈ t.rec', ∀ x ∈ p.2.ins, (x.1, p.2.m, x.2.1) ∈ t.op
  opn : ∀ q ∈ t.op, q = s ∨ ∃ p ∈ t.rec', ∃ x ∈ p.2.ins, q = (x.1, p.2.m, x.2.1)
  hs : s ∈ t.op
  hist : t.state = 0 → ∀ a ∈ t.hist, a ∈ T
  st : (t.state = 0 ∧ allQ t.qs = false) ∨ (t.state = 1 ∧ allQ t.qs = true) ∨ ((t.state = 3 ∨ t.state = 4) ∧ BadQ T s)
  len : t.qs.length ≤ 1 + 5 * t.rec'.length
  hl : t.hist.length ≤ t.rec'.length + 1
  hl0 : t.state = 0 → t.hist.length = t.rec'.length
  ag : t.ag = []
  rf : t.rf = false
  nd : t.op.Nodup
def FinO (t : Tr) (o : List T3) : Prop := ∃ tn : Nat, t.told = tn ∧ tn ≤ t.qs.length ∧ o.Perm ((t.qs.take tn).filterMap askOf)
theorem FinI.new (T : List Ans) (im is : Int) (st : T3) : FinI T (im, st.1, st.2.1) (Tr.new im is st) :=
  ⟨fun q hq => by simp [Tr.op, Tr.new] at hq; subst hq; exact .start, by simp [Tr.rec', Tr.new, recOf], by simp [Tr.rec', Tr.new, recOf], fun q hq => by simp [Tr.op, Tr.new] at hq; exact .inl hq, by simp [Tr.op, Tr.new],
    by simp [Tr.new], .inl ⟨rfl, rfl⟩, by simp [Tr.new], by simp [Tr.new], by simp [Tr.new, Tr.rec', recOf], rfl, rfl, by simp [Tr.op, Tr.new]⟩
theorem FinO.new (im is : Int) (st : T3) : FinO (Tr.new im is st) [] := ⟨0, rfl, by simp, by simp⟩
/-- Behind the queries. -/
theorem FinO.ask {t : Tr} {o : List T3} (h : FinO t o) (h0 : t.state = 0) : (o ++ t.queries.2).Perm (t.qs.filterMap askOf) ∧ t.queries.1 = { t with told := t.qs.length } := by
  obtain ⟨tn, h1, h2, h3⟩ := h
  have hq : t.queries = ({ t with told := t.qs.length }, (t.qs.drop tn).filterMap askOf) := by unfold Tr.queries; rw [if_neg (by simp [h0]), h1]; rfl
  rw [hq]
  refine ⟨?_, rfl⟩
  have : t.qs.filterMap askOf = (t.qs.take tn).filterMap askOf ++ (t.qs.drop tn).filterMap askOf := by rw [← List.filterMap_append, List.take_append_drop]
  rw [this]
  exact h3.append_right _
theorem FinI.told {T : List Ans} {s : Qn} {t : Tr} (h : FinI T s t) (n : Int) : FinI T s { t with told := n } := ⟨h.rch, h.rc, h.cl, h.opn, h.hs, h.hist, h.st, h.len, h.hl, h.hl0, h.ag, h.rf, h.nd⟩
theorem FinI.ask {T : List Ans} {s : Qn} {t : Tr} (h : FinI T s t) : FinI T s t.queries.1 := by
  unfold Tr.queries
  split
  · exact h
  · exact h.told _
theorem FinI.open_ne {T : List Ans} {s : Qn} {t : Tr} (h : FinI T s t) (h0 : t.state = 0) {o : List T3} (ho : o.Perm (t.qs.filterMap askOf)) : o ≠ [] := fun e => by
  subst e
  have := ask_nil (List.nil_perm.1 ho)
  rcases h.st with ⟨_, h1⟩ | ⟨h1, _⟩ | ⟨h1, _⟩
  · rw [this] at h1; cases h1
  · omega
  · omega
theorem split_at {α : Type} (o : List α) (k : Nat) (hk : k < o.length) : o = o.take k ++ o[k] :: o.drop (k + 1) := by
  rw [← List.drop_eq_getElem_cons hk, List.take_append_drop]
/-- One round. -/
theorem FinI.round {T : List Ans} {s : Qn} {t : Tr} (h : FinI T s t) (h0 : t.state = 0) {o : List T3} (ho : o.Perm (t.qs.filterMap askOf)) (hT : ∀ a ∈ T, a.ins.length ≤ 5) (k : Nat) (hk : k < o.length) (htold : t.told = t.qs.length) :
    isOpen (qask o[k]) t.qs = true ∧ FinI T s (t.answer (ansOf T (qask o[k]))).1 ∧ ((t.answer (ansOf T (qask o[k]))).1.state = 0 → FinO (t.answer (ansOf T (qask o[k]))).1 (o.take k ++ o.drop (k + 1)) ∧ (t.answer (ansOf T (qask o[k]))).1.rec'.length = t.rec'.length + 1) := by
  obtain ⟨q, hq⟩ : ∃ q, qask o[k] = q := ⟨_, rfl⟩
  have hmem : (q, none) ∈ t.qs := by rw [← hq]; exact ask_mem (ho.mem_iff.1 (List.getElem_mem hk))
  have hop : isOpen q t.qs = true := isOpen_mem.2 hmem
  have hqo : q ∈ t.op := List.mem_map.2 ⟨_, hmem, rfl⟩
  have hr := h.rch q hqo
  rw [hq]
  refine ⟨hop, ?_⟩
  obtain ⟨a, ha⟩ : ∃ a, ansOf T q = a := ⟨_, rfl⟩
  have haq : a.q = q := by rw [← ha]; exact ansOf_q T q
  rw [ha]
  unfold Tr.answer
  rw [if_neg (by simp [h0]), haq, if_neg (by simp [hop])]
  have stop : ∀ (sx : Int), sx = 3 ∨ sx = 4 → BadQ T s → FinI T s { t.take a with state := sx } := fun sx hsx hb =>
    ⟨h.rch, h.rc, h.cl, h.opn, h.hs, fun e => by simp at e; omega, .inr (.inr ⟨hsx, hb⟩), h.len, by have := h.hl0 h0; simp [Tr.take, Tr.rec'] at this ⊢; omega, fun e => by simp at e; omega, h.ag, h.rf, h.nd⟩
  have hlook : ∀ b, lookA T q = some b → b = a := fun b hb => by rw [← ha]; unfold ansOf; rw [hb]; rfl
  by_cases hkn : a.kn = false
  · rw [if_pos hkn]
    exact ⟨stop 4 (.inr rfl) ⟨q, hr, fun b hb => .inl (by rw [hlook b hb]; exact hkn)⟩, fun e => by simp at e⟩
  rw [if_neg hkn]
  have hkn : a.kn = true := by simpa using hkn
  by_cases hrt : a.rt = true
  · rw [if_pos hrt]
    exact ⟨stop 3 (.inl rfl) ⟨q, hr, fun b hb => .inr (.inl (by rw [hlook b hb]; exact hrt))⟩, fun e => by simp at e⟩
  rw [if_neg hrt]
  have hrt : a.rt = false := by simpa using hrt
  have hla : lookA T q = some a := by
    unfold ansOf at ha
    cases e : lookA T q with
    | some b => rw [e] at ha; simp at ha; rw [ha]
    | none => rw [e] at ha; simp at ha; rw [← ha] at hkn; simp at hkn
  have haT := (lookA_some hla).1
  by_cases hodd : (t.hist ++ [a]).any (Ans.odd a.m a.ep) = true
  · rw [if_pos hodd]
    refine ⟨stop 4 (.inr rfl) ⟨q, hr, fun b hb => ?_⟩, fun e => by simp at e⟩
    rw [hlook b hb]
    obtain ⟨c, hc, hod⟩ := List.any_eq_true.1 hodd
    have hcT : c ∈ T := by
      rcases List.mem_append.1 hc with hc | hc
      · exact h.hist h0 c hc
      · simp at hc; subst hc; exact haT
    unfold Ans.odd at hod
    simp at hod
    exact .inr (.inr ⟨c, hcT, hod.1, hod.2⟩)
  rw [if_neg hodd]
  obtain ⟨N, n1, n2, n3, n4⟩ := fold_app a.m a.ins (setQ a.q a t.qs)
  have hqs : ((t.take a).put a).qs = setQ a.q a t.qs ++ N := n1
  have hrec : recOf (setQ a.q a t.qs ++ N) = recOf (setQ a.q a t.qs) := by rw [← n1]; exact fold_rec _ _ _
  have hqn : ∀ b, (b ∈ (setQ a.q a t.qs ++ N).map (·.1)) ↔ b ∈ t.op ∨ b ∈ N.map (·.1) := fun b => by rw [List.map_append, setQ_keys, List.mem_append]; rfl
  have hq2 : a.q ∈ t.qs.map (·.1) := by rw [haq]; exact hqo
  have hmemr : ∀ p, p ∈ recOf (setQ a.q a t.qs) ↔ (p.1 = a.q ∧ p.2 = a) ∨ (p.1 ≠ a.q ∧ p ∈ t.rec') := fun ⟨k, b⟩ => by
    rw [recOf_keys, setQ_mem hq2]
    simp only [Option.some.injEq]
    unfold Tr.rec'
    rw [recOf_keys]
  have hlen := setQ_len (a := a) h.nd (show (a.q, none) ∈ t.qs by rw [haq]; exact hmem)
  have hnew : ∀ b ∈ N.map (·.1), ∃ x ∈ a.ins, b = (x.1, a.m, x.2.1) := fun b hb => by
    obtain ⟨p, hp, rfl⟩ := List.mem_map.1 hb
    exact (n2 p hp).2
  have hold : ∀ p ∈ t.rec', p ∈ recOf (setQ a.q a t.qs) := fun p hp => by
    refine (hmemr p).2 (.inr ⟨fun e => ?_, hp⟩)
    obtain ⟨k, b⟩ := p
    have h1 := recOf_keys.1 hp
    simp only at e
    subst e
    have h2 : (a.q, none) ∈ t.qs := by rw [haq]; exact hmem
    have := nd_val h.nd h1 h2
    cases this
  have hself : (a.q, a) ∈ recOf (setQ a.q a t.qs) := (hmemr _).2 (.inl ⟨rfl, rfl⟩)
  have hrl : (setQ a.q a t.qs).length = t.qs.length := by unfold setQ; simp
  have hgen : ∀ (t' : Tr), t'.qs = setQ a.q a t.qs ++ N → t'.hist = t.hist ++ [a] → t'.ag = t.ag → t'.rf = t.rf → ((t'.state = 0 ∧ allQ t'.qs = false) ∨ (t'.state = 1 ∧ allQ t'.qs = true)) → FinI T s t' := by
    intro t' e1 e2 e3 e4 e5
    have hr' : t'.rec' = recOf (setQ a.q a t.qs) := by unfold Tr.rec'; rw [e1, hrec]
    have ho' : ∀ b, b ∈ t'.op ↔ b ∈ t.op ∨ b ∈ N.map (·.1) := fun b => by unfold Tr.op; rw [e1]; exact hqn b
    refine ⟨fun b hb => ?_, fun p hp => ?_, fun p hp x hx => ?_, fun b hb => ?_, ?_, fun _ b hb => ?_, ?_, ?_, ?_, fun _ => ?_, e3.trans h.ag, e4.trans h.rf, ?_⟩
    · rcases (ho' b).1 hb with hb | hb
      · exact h.rch b hb
      · obtain ⟨x, hx, rfl⟩ := hnew b hb
        exact .step hr hla hkn hrt hx
    · rw [hr'] at hp
      rcases (hmemr p).1 hp with ⟨h1, h2⟩ | ⟨_, h2⟩
      · rw [h1, h2, haq]; exact ⟨hla, hkn, hrt⟩
      · exact h.rc p h2
    · rw [hr'] at hp
      refine (ho' _).2 ?_
      rcases (hmemr p).1 hp with ⟨h1, h2⟩ | ⟨_, h2⟩
      · rw [h2] at hx ⊢
        exact (hqn _).1 (n4 x hx)
      · exact .inl (h.cl p h2 x hx)
    · rw [hr']
      rcases (ho' b).1 hb with hb | hb
      · rcases h.opn b hb with e | ⟨p, hp, x, hx, e⟩
        · exact .inl e
        · exact .inr ⟨p, hold p hp, x, hx, e⟩
      · obtain ⟨x, hx, rfl⟩ := hnew b hb
        exact .inr ⟨(a.q, a), hself, x, hx, rfl⟩
    · exact (ho' s).2 (.inl h.hs)
    · rw [e2] at hb
      rcases List.mem_append.1 hb with hb | hb
      · exact h.hist h0 b hb
      · simp at hb; subst hb; exact haT
    · rcases e5 with e5 | e5
      · exact .inl e5
      · exact .inr (.inl e5)
    · rw [hr', hlen, e1, List.length_append, hrl]
      have := h.len
      have := hT a haT
      simp only [Tr.rec'] at *
      omega
    · rw [hr', hlen, e2, List.length_append]
      have := h.hl0 h0
      simp only [Tr.rec'] at *
      simp; omega
    · rw [hr', hlen, e2, List.length_append]
      have := h.hl0 h0
      simp only [Tr.rec'] at *
      simp; omega
    · have : t'.op = (a.ins.foldl (openQ a.m) (setQ a.q a t.qs)).map (·.1) := by unfold Tr.op; rw [e1, n1]
      rw [this]
      exact fold_nd _ _ _ (by rw [setQ_keys]; exact h.nd)
  unfold Tr.close
  by_cases hall : allQ ((t.take a).put a).qs = true
  · rw [if_pos hall]
    exact ⟨hgen _ hqs rfl rfl rfl (.inr ⟨rfl, hall⟩), fun e => by simp at e⟩
  · rw [if_neg hall]
    refine ⟨hgen _ hqs rfl rfl rfl (.inl ⟨h0, by simpa using hall⟩), fun _ => ⟨⟨t.qs.length, htold, by rw [hqs]; simp [hrl], ?_⟩, ?_⟩⟩
    · rw [hqs, ← hrl, List.take_left]
      have p1 := ask_setQ (a := a) h.nd (show (a.q, none) ∈ t.qs by rw [haq]; exact hmem)
      have p2 : o.Perm (o[k] :: (o.take k ++ o.drop (k + 1))) := by
        have := split_at o k hk
        exact (List.Perm.of_eq this).trans List.perm_middle
      have hoq : o[k] = askq a.q := by rw [haq, ← hq]; rfl
      rw [hoq] at p2
      exact (List.perm_cons _).1 ((p2.symm.trans ho).trans p1)
    · show (recOf ((t.take a).put a).qs).length = _
      rw [hqs, hrec, hlen]; rfl
/-- No more answers than the table has. -/
theorem nodup_sub_len {α : Type} [DecidableEq α] : ∀ {l m : List α}, l.Nodup → (∀ x ∈ l, x ∈ m) → l.length ≤ m.length
  | [], _, _, _ => by simp
  | x :: l, m, hn, hs => by
    obtain ⟨h1, h2⟩ := List.nodup_cons.1 hn
    have hx := hs x (by simp)
    have := nodup_sub_len (l := l) (m := m.erase x) h2 (fun y hy => (List.mem_erase_of_ne (fun e => h1 (by rw [← e]; exact hy))).2 (hs y (by simp [hy])))
    have h3 := List.length_erase_of_mem hx
    have h4 := List.length_pos_of_mem hx
    simp; omega
theorem FinI.recLen {T : List Ans} {s : Qn} {t : Tr} (h : FinI T s t) : t.rec'.length ≤ T.length := by
  have h1 : (t.rec'.map (·.1)).Nodup := recOf_nd h.nd
  have h2 := nodup_sub_len (m := T.map Ans.q) h1 (fun q hq => by
    obtain ⟨p, hp, rfl⟩ := List.mem_map.1 hq
    obtain ⟨e1, e2⟩ := lookA_some (h.rc p hp).1
    exact List.mem_map.2 ⟨p.2, e1, e2⟩)
  simpa using h2
/-- What finish gives. -/
structure FinE (T : List Ans) (s : Qn) (t : Tr) : Prop where
  i : FinI T s t
  n0 : t.state ≠ 0
theorem FinE.mem1 {T : List Ans} {s : Qn} {t : Tr} (h : FinE T s t) (h1 : t.state = 1) {q : Qn} (hq : q ∈ t.op) : ∃ a, (q, a) ∈ t.rec' := by
  have hall : allQ t.qs = true := by
    rcases h.i.st with ⟨e, _⟩ | ⟨_, e⟩ | ⟨e, _⟩
    · omega
    · exact e
    · omega
  obtain ⟨⟨q', u⟩, hp, e⟩ := List.mem_map.1 hq
  simp only at e
  subst e
  have := List.all_eq_true.1 hall _ hp
  obtain ⟨a, ha⟩ := Option.isSome_iff_exists.1 this
  simp only at ha
  exact ⟨a, recOf_keys.2 (by rw [← ha]; exact hp)⟩
def Good (T : List Ans) (s : Qn) : Prop := ∀ q, Rch T s q → ∃ a, lookA T q = some a ∧ a.kn = true ∧ a.rt = false
theorem FinE.rch {T : List Ans} {s : Qn} {t : Tr} (h : FinE T s t) (h1 : t.state = 1) : ∀ q, Rch T s q → q ∈ t.op := fun q hq => by
  induction hq with
  | start => exact h.i.hs
  | step hr hl hk hrt hx ih =>
    obtain ⟨b, hb⟩ := h.mem1 h1 ih
    have := (h.i.rc _ hb).1
    rw [hl] at this
    cases this
    exact h.i.cl _ hb _ hx
theorem FinE.good {T : List Ans} {s : Qn} {t : Tr} (h : FinE T s t) (he : ∀ x ∈ T, ∀ y ∈ T, x.m = y.m → x.ep = y.ep) : t.state = 1 ↔ Good T s := by
  constructor
  · intro h1 q hq
    obtain ⟨a, ha⟩ := h.mem1 h1 (h.rch h1 q hq)
    exact ⟨a, h.i.rc _ ha⟩
  · intro hg
    rcases h.i.st with ⟨e, _⟩ | ⟨e, _⟩ | ⟨_, q, hq, hb⟩
    · exact absurd e h.n0
    · exact e
    · obtain ⟨a, h1, h2, h3⟩ := hg q hq
      rcases hb a h1 with e | e | ⟨b, hb, e1, e2⟩
      · rw [h2] at e; cases e
      · rw [h3] at e; cases e
      · exact absurd (he b hb a (lookA_some h1).1 e1) e2
/-- Two orders: the same recorded answers. -/
theorem FinE.perm {T : List Ans} {s : Qn} {t u : Tr} (h : FinE T s t) (g : FinE T s u) (h1 : t.state = 1) (g1 : u.state = 1) : t.rec'.Perm u.rec' := by
  have sub : ∀ {t u : Tr}, FinE T s t → FinE T s u → t.state = 1 → u.state = 1 → ∀ p ∈ t.rec', p ∈ u.rec' := by
    intro t u h g h1 g1 ⟨q, a⟩ hp
    have hq : q ∈ t.op := (recOf_sub t.qs).mem (List.mem_map.2 ⟨_, hp, rfl⟩)
    obtain ⟨b, hb⟩ := g.mem1 g1 (g.rch g1 q (h.i.rch q hq))
    have e1 := (h.i.rc _ hp).1
    have e2 := (g.i.rc _ hb).1
    simp only at e1 e2
    rw [e1] at e2; cases e2
    exact hb
  have n1 : t.rec'.Nodup := (List.pairwise_map.1 (recOf_nd h.i.nd)).imp (fun hne e => hne (by rw [e]))
  have n2 : u.rec'.Nodup := (List.pairwise_map.1 (recOf_nd g.i.nd)).imp (fun hne e => hne (by rw [e]))
  exact (List.perm_ext_iff_of_nodup n1 n2).2 (fun p => ⟨sub h g h1 g1 p, sub g h g1 h1 p⟩)
theorem FinE.claims {T : List Ans} {s : Qn} {t u : Tr} (h : FinE T s t) (g : FinE T s u) (h1 : t.state = 1) (g1 : u.state = 1) {Y Z : List Ans} {P Q : List PCl} (hY : SortedA t Y) (hZ : SortedA u Z) (hP : ClaimsP t Y P) (hQ : ClaimsP u Z Q) : P = Q := by
  have hp := h.perm g h1 g1
  have hZ' : SortedA t Z := ⟨hZ.1.trans (hp.symm.map _), hZ.2⟩
  obtain rfl := hY.uniq hZ'
  refine ClaimsP.uniq hY.2 hP (hQ.congr ?_)
  funext q
  unfold luOf
  rw [show MapS.get q u.rec' = MapS.get q t.rec' from MapS.get_perm (recOf_nd h.i.nd) hp]
end Go.Proofs.Ythfdngjbcgkkfaa

namespace Go.Proofs.Ythfdngjbcgkkfaa
open Go.RowKit

def findP (P : List PCl) (m : Int) : PCl := (P.find? (fun c => c.m == m)).getD ⟨0, 0, [], [], []⟩
def hasP (l : List T3) (p : Int) (n : Nat) : Bool := l.any (fun x => x.1 == p && x.2.1 == n)
structure Closed (im : Int) (zz : T3) (P : List PCl) : Prop where
  pos : 0 < P.length
  asc : ∀ k (h1 : k < P.length) (h2 : k + 1 < P.length), P[k].m < P[k + 1].m
  sc : ∀ c ∈ P, ∀ x ∈ c.sc, hasP (findP P x.1).st c.m x.2.1 = true
  st : ∀ c ∈ P, ∀ x ∈ c.st, hasP (findP P x.1).sc c.m x.2.1 = true
  ch : ∀ c ∈ P, ∀ x ∈ c.ch, c.m = im ∧ x.1 = zz.1 ∧ x.2.1 = zz.2.1 ∧ x.2.2 = 0
theorem ClmAt.mem {t : Tr} {Y : List Ans} {c : PCl} {m : Int} (h : ClmAt t Y c m) (e : T3) : (e ∈ c.st ↔ e ∈ stOf (outsOf Y) Y m) ∧ (e ∈ c.sc ↔ e ∈ scOf t Y m) ∧ (e ∈ c.ch ↔ e ∈ chOf (outsOf Y) Y m) :=
  ⟨(h.at' 0 (by omega)).1.mem_iff, (h.at' 1 (by omega)).1.mem_iff, (h.at' 2 (by omega)).1.mem_iff⟩
theorem closedP {T : List Ans} {im : Int} {st : T3} {t : Tr} (h : FinE T (im, st.1, st.2.1) t) (h1 : t.state = 1) {Y : List Ans} {P : List PCl} (hY : SortedA t Y) (hP : ClaimsP t Y P) : Closed im st P := by
  obtain ⟨_, ms1, ms2⟩ := rawOf_eq t (outsOf Y) Y hY.2
  obtain ⟨hl, hat⟩ := hP.at' hY.2
  have hYr : ∀ a, a ∈ Y ↔ (a.q, a) ∈ t.rec' := fun a => by
    rw [hY.1.mem_iff]
    constructor
    · intro ha
      obtain ⟨p, hp, rfl⟩ := List.mem_map.1 ha
      have := (lookA_some (h.i.rc p hp).1).2
      rw [this]; exact hp
    · exact fun ha => List.mem_map.2 ⟨_, ha, rfl⟩
  have hget : ∀ c ∈ P, ClmAt t Y c c.m := fun c hc => by
    obtain ⟨k, hk, rfl⟩ := List.mem_iff_getElem.1 hc
    have := hat k hk (by omega)
    rw [this.m]; exact this
  have hrec : ∀ q ∈ t.op, ∃ b ∈ Y, b.q = q := fun q hq => by
    obtain ⟨b, hb⟩ := h.mem1 h1 hq
    have e := (lookA_some (h.i.rc _ hb).1).2
    simp only at e
    exact ⟨b, (hYr b).2 (by rw [e]; exact hb), e⟩
  have hfind : ∀ a ∈ Y, ClmAt t Y (findP P a.m) a.m := fun a ha => by
    obtain ⟨k, hk, hm⟩ := List.mem_iff_getElem.1 ((ms2 a.m).2 ⟨a, ha, rfl⟩)
    have hc := hat k (by omega) hk
    have hcm : (P[k]'(by omega)).m = a.m := hc.m.trans hm
    unfold findP
    cases hf : P.find? (fun c => c.m == a.m) with
    | none =>
      have := List.find?_eq_none.1 hf _ (List.getElem_mem (by omega : k < P.length))
      simp [hcm] at this
    | some c =>
      have e1 : c.m = a.m := by simpa using List.find?_some hf
      have := hget c (List.mem_of_find?_eq_some hf)
      rw [e1] at this; exact this
  refine ⟨?_, fun k k1 k2 => ?_, fun c hc x hx => ?_, fun c hc x hx => ?_, fun c hc x hx => ?_⟩
  · obtain ⟨b, hb, _⟩ := hrec _ h.i.hs
    have := (ms2 b.m).2 ⟨b, hb, rfl⟩
    rw [hl]
    exact List.length_pos_of_mem this
  · rw [(hat k k1 (by omega)).m, (hat (k + 1) k2 (by omega)).m]
    exact List.pairwise_iff_getElem.1 ms1 _ _ _ _ (by omega)
  · obtain ⟨a, ha, hm, u, hu, rfl⟩ := (scOf_mem _ _ _ _).1 (((hget c hc).mem x).2.1.1 hx)
    obtain ⟨b, hb, hbq⟩ := hrec _ (h.i.cl _ ((hYr a).1 ha) u hu)
    simp only [Ans.q, Prod.mk.injEq] at hbq
    obtain ⟨q1, q2, q3⟩ := hbq
    have hf := hfind b hb
    rw [q1] at hf
    obtain ⟨o, ho⟩ := Option.isSome_iff_exists.1 ((outsOf_some Y (a.m, u.1, u.2.1)).2 ⟨a, ha, u, hu, rfl⟩)
    have : (a.m, u.2.1, o) ∈ (findP P u.1).st := ((hf.mem _).1).2 ((stOf_mem _ _ _ _).2 ⟨b, hb, q1, o, by rw [q2, q3]; exact ho, by rw [q2, q3]⟩)
    unfold hasP
    rw [List.any_eq_true]
    exact ⟨_, this, by simp [scN, hm]⟩
  · obtain ⟨a, ha, hm, o, ho, rfl⟩ := (stOf_mem _ _ _ _).1 (((hget c hc).mem x).1.1 hx)
    obtain ⟨b, hb, u, hu, hk⟩ := (outsOf_some Y _).1 (show (MapS.get (a.ow, c.m, a.n) (outsOf Y)).isSome = true by rw [ho]; rfl)
    simp only [Prod.mk.injEq] at hk
    obtain ⟨q1, q2, q3⟩ := hk
    have hf := hfind b hb
    rw [← q1] at hf
    have : scN t a.ow u ∈ (findP P a.ow).sc := ((hf.mem _).2.1).2 ((scOf_mem _ _ _ _).2 ⟨b, hb, q1.symm, u, hu, rfl⟩)
    unfold hasP
    rw [List.any_eq_true]
    exact ⟨_, this, by simp [scN, q2, q3]⟩
  · obtain ⟨a, ha, hm, hn, rfl⟩ := (chOf_mem _ _ _ _).1 (((hget c hc).mem x).2.2.1 hx)
    have hq : a.q ∈ t.op := (recOf_sub t.qs).mem (List.mem_map.2 ⟨_, (hYr a).1 ha, rfl⟩)
    rcases h.i.opn _ hq with e | ⟨p, hp, u, hu, e⟩
    · simp only [Ans.q, Prod.mk.injEq] at e
      exact ⟨by rw [← hm]; exact e.1, e.2.1, e.2.2, rfl⟩
    · exfalso
      simp only [Ans.q, Prod.mk.injEq] at e
      have hpY : p.2 ∈ Y := hY.1.mem_iff.2 (List.mem_map.2 ⟨_, hp, rfl⟩)
      have := (outsOf_some Y (a.ow, c.m, a.n)).2 ⟨p.2, hpY, u, hu, by rw [← hm, e.1, e.2.1, e.2.2]⟩
      rw [hn] at this; cases this
end Go.Proofs.Ythfdngjbcgkkfaa

namespace Go.Proofs.Ythfdngjbcgkkfaa
open Go.RowKit

theorem hasP_no {L : List T3} {p : Int} {n : Nat} (h : ∀ j (hj : j < L.length), ¬ (L[j].1 = p ∧ L[j].2.1 = n)) : hasP L p n = false := by
  unfold hasP
  rw [List.any_eq_false]
  intro x hx
  obtain ⟨j, hj, rfl⟩ := List.mem_iff_getElem.1 hx
  simpa using h j hj
theorem hasP_yes {L : List T3} {p : Int} {n : Nat} {k : Nat} (hk : k < L.length) (h1 : L[k].1 = p) (h2 : L[k].2.1 = n) : hasP L p n = true := by
  unfold hasP
  rw [List.any_eq_true]
  exact ⟨_, List.getElem_mem hk, by simp [h1, h2]⟩
set_option maxRecDepth 100000 in
set_option maxHeartbeats 2000000 in
theorem has_c (w : World) (v : Value) (L : List T3) (p : Int) (n : Nat) (h : shT.R w v L) :
    Calls Try.prog 15 #[v, .int .i64 p, .int .u64 n] w fun e w' => e = .returned (.bool (hasP L p n)) ∧ Keeps [] w w' := by
  obtain ⟨a, c, rfl, hlc, hcm, _⟩ := h.form
  have hel := fun k hk => h.elem (k := k) hk
  obtain ⟨M, hM⟩ : ∃ N, L.length = N := ⟨_, rfl⟩
  rw [hM] at hlc ⊢
  have hMm : M ≤ 9223372036854775807 := by unfold maxLen at hcm; omega
  obtain ⟨hb, hhb⟩ : ∃ b, hasP L p n = b := ⟨_, rfl⟩
  rw [hhb]
  replace hel := Lib.hid hel
  replace hM := Lib.hid hM
  replace hhb := Lib.hid hhb
  clear h
  go_enter Try.func15, Try.ntmps15
  go_wp2
  go_loopw [11] (fun i wr => ∃ k : Nat, i = .int .i64 k ∧ k ≤ M ∧ Hid (∀ j (hj : j < L.length), j < k → ¬ (L[j].1 = p ∧ L[j].2.1 = n)) ∧ Hid (Keeps [] w wr)) (fun i _ => M - (intOf i).toNat)
  case atStart => exact ⟨0, rfl, by omega, Lib.hid (fun _ _ h => by omega), Lib.hid (Keeps.refl _ _)⟩
  case round =>
    obtain ⟨k, rfl, hk, hno, hkw⟩ := hrel
    by_cases hlt : k < M
    · have hkl : k < L.length := by rw [hM.out]; exact hlt
      obtain ⟨g, o, c', hv, he⟩ := hel.out k hkl
      cases hv
      obtain ⟨⟨x0, x1, x2⟩, hx⟩ : ∃ x, L[k] = x := ⟨_, rfl⟩
      rw [hx] at he
      have e0 := hkw.out.val (he 0 _ rfl)
      have e1 := hkw.out.val (he 1 _ rfl)
      have e2 := hkw.out.val (he 2 _ rfl)
      simp only [shT, Nat.add_zero] at e0 e1 e2
      have hkA : Keeps [] w (wr.alloc (.cells #[.int .i64 x0, .int .u64 x1, .int .i64 x2] tN)) := hkw.out.alloc _
      have hno2 : ¬ (x0 = p ∧ x1 = n) → ∀ j (hj : j < L.length), j < k + 1 → ¬ (L[j].1 = p ∧ L[j].2.1 = n) := fun hn j hj hjk => by
        by_cases e : j = k
        · subst e; rw [hx]; exact hn
        · exact hno.out j hj (by omega)
      replace hkA := Lib.hid hkA
      replace hx := Lib.hid hx
      replace hno2 := Lib.hid hno2
      clear he
      by_cases a1 : x0 = p
      · have b1 : (x0 == p) = true := by simpa using a1
        by_cases a2 : x1 = n
        · have b2 : ((x1 : Int) == (n : Int)) = true := by simp [a2]
          have hr : hb = true := by rw [← hhb.out]; exact hasP_yes hkl (by rw [hx.out]; exact a1) (by rw [hx.out]; exact a2)
          replace a1 := Lib.hid a1
          replace a2 := Lib.hid a2
          replace hr := Lib.hid hr
          go_wp2
          go_ret
          exact ⟨by rw [hr.out]; rfl, hkA.out⟩
        · have b2 : ((x1 : Int) == (n : Int)) = false := by simp; omega
          have h2 := Lib.hid (hno2.out (fun h => a2 h.2))
          replace a1 := Lib.hid a1
          replace a2 := Lib.hid a2
          go_wp2
          go_roundw
          case rel => exact ⟨k + 1, rfl, by omega, h2, hkA⟩
          case measure => simp [intOf]; omega
      · have b1 : (x0 == p) = false := by simpa using a1
        have h2 := Lib.hid (hno2.out (fun h => a1 h.1))
        replace a1 := Lib.hid a1
        go_wp2
        go_roundw
        case rel => exact ⟨k + 1, rfl, by omega, h2, hkA⟩
        case measure => simp [intOf]; omega
    · have hr : hb = false := by rw [← hhb.out]; exact hasP_no (fun j hj => hno.out j hj (by rw [hM.out] at hj; omega))
      replace hr := Lib.hid hr
      go_wp2
      go_ret
      exact ⟨by rw [hr.out]; rfl, hkw.out⟩
theorem st5 {w : World} {X : Nat} {t : TypeId} {x0 x1 x2 x3 x4 u0 u1 u2 u3 u4 : Value} (h2 : w.heap[X]? = some (.cells #[u0, u1, u2, u3, u4] t (0, 0))) :
    (((((w.setCell ⟨X, 0, none⟩ x0).setCell ⟨X, 1, none⟩ x1).setCell ⟨X, 2, none⟩ x2).setCell ⟨X, 3, none⟩ x3).setCell ⟨X, 4, none⟩ x4).heap[X]? = some (.cells #[x0, x1, x2, x3, x4] t (0, 0)) ∧
    Keeps [X] w (((((w.setCell ⟨X, 0, none⟩ x0).setCell ⟨X, 1, none⟩ x1).setCell ⟨X, 2, none⟩ x2).setCell ⟨X, 3, none⟩ x3).setCell ⟨X, 4, none⟩ x4) := by
  refine ⟨?_, ?_⟩
  · have := setCs (setCs (setCs (setCs (setCs h2 0 x0) 1 x1) 2 x2) 3 x3) 4 x4
    simpa using this
  · refine (((((Keeps.refl _ w).setCell ?_ _).setCell ?_ _).setCell ?_ _).setCell ?_ _).setCell ?_ _ <;> exact .inr (by simp)
theorem findP_at {P : List PCl} {m : Int} {k : Nat} (hk : k < P.length) (hno : ∀ j (hj : j < P.length), j < k → P[j].m ≠ m) (hm : P[k].m = m) : findP P m = P[k] := by
  unfold findP
  have : P.find? (fun c => c.m == m) = some P[k] := List.find?_eq_some_iff_getElem.2 ⟨by simpa using hm, k, hk, rfl, fun j hj => by simpa using hno j (by omega) hj⟩
  rw [this]; rfl
theorem findP_no {P : List PCl} {m : Int} (hno : ∀ j (hj : j < P.length), P[j].m ≠ m) : findP P m = PCl.zero := by
  unfold findP
  have : P.find? (fun c => c.m == m) = none := List.find?_eq_none.2 (fun c hc => by
    obtain ⟨j, hj, rfl⟩ := List.mem_iff_getElem.1 hc
    simpa using hno j hj)
  rw [this]; rfl
def FindPost (w : World) (P : List PCl) (m : Int) (e : Ending) (w' : World) : Prop := ∃ x, e = .returned (clV x) ∧ CR w' x (findP P m) ∧ Keeps [] w w'
set_option maxRecDepth 100000 in
set_option maxHeartbeats 2000000 in
theorem find_c (w : World) (bl : Nat) (v : Value) (P : List PCl) (m : Int) (h : LC w v P) (h0 : w.cell? ⟨bl, 0, none⟩ = some v) :
    Calls Try.prog 14 #[.int .i64 m, .pointer (some ⟨bl, 0, none⟩)] w (FindPost w P m) := by
  obtain ⟨a, c, rfl, hlc, hcm⟩ := h.form
  obtain ⟨M, hM⟩ : ∃ N, P.length = N := ⟨_, rfl⟩
  rw [hM] at h0 hlc h
  have hMm : M ≤ 9223372036854775807 := by unfold maxLen at hcm; omega
  have hb0 := heap_alloc_new w (.cells #[.int .i64 0, .int .i64 0, .slice none 0 0, .slice none 0 0, .slice none 0 0] tC)
  have hkA : Keeps [] w (w.alloc (.cells #[.int .i64 0, .int .i64 0, .slice none 0 0, .slice none 0 0, .slice none 0 0] tC)) := (Keeps.refl _ _).alloc _
  have hlt := lt_of_cell h0
  replace hM := Lib.hid hM
  replace h := Lib.hid h
  replace hkA := Lib.hid hkA
  replace hb0 := Lib.hid hb0
  go_enter Try.func14, Try.ntmps14
  go_wp2
  generalize (w.alloc (.cells #[.int .i64 0, .int .i64 0, .slice none 0 0, .slice none 0 0, .slice none 0 0] tC)) = W at *
  obtain ⟨X, hX⟩ : ∃ X, w.heap.size = X := ⟨_, rfl⟩
  rw [hX] at hb0 hlt ⊢
  replace hX := Lib.hid hX
  go_loopw [8] (fun i wr => ∃ k : Nat, i = .int .i64 k ∧ k ≤ M ∧ Hid (∀ j (hj : j < P.length), j < k → P[j].m ≠ m) ∧ Hid (Keeps [] W wr)) (fun i _ => M - (intOf i).toNat)
  case atStart => exact ⟨0, rfl, by omega, Lib.hid (fun _ _ h => by omega), Lib.hid (Keeps.refl _ _)⟩
  case round =>
    obtain ⟨k, rfl, hk, hno, hkw⟩ := hrel
    have hkr := hkA.out.trans hkw.out
    have hbr := (hkw.out.block X (lt_of_blk hb0.out) (by simp)).trans hb0.out
    have hXr := lt_of_blk hbr
    obtain ⟨c0, c1, c2, c3, c4, _⟩ := cells5 hbr
    have hfr : ∀ o, wr.frozen? ⟨X, o, none⟩ = false := fun o => by simp [World.frozen?, hbr]
    have hgo : X = w.heap.size := hX.out.symm
    replace hgo := Lib.hid hgo
    by_cases hlt2 : k < M
    · have hkl : k < P.length := by rw [hM.out]; exact hlt2
      obtain ⟨g, o, c', x, hv, hxr, e0, e1, e2, e3, e4⟩ := h.out.elem hkl
      rw [hM.out] at hv
      cases hv
      obtain ⟨x0, x1, ⟨x2, x3, x4⟩, ⟨x5, x6, x7⟩, ⟨x8, x9, x10⟩⟩ := x
      replace e0 := hkr.val e0
      replace e1 := hkr.val e1
      replace e2 := hkr.val e2
      replace e3 := hkr.val e3
      replace e4 := hkr.val e4
      simp only [slv] at e0 e1 e2 e3 e4
      have hkB := (Keeps.refl [] wr).alloc (.cells #[.int .i64 x0, .int .i64 x1, .slice x2 x3 x4, .slice x5 x6 x7, .slice x8 x9 x10] tC)
      have hbB := (hkB.block X hXr (by simp)).trans hbr
      have hxm : x0 = P[k].m := hxr.m
      have hno2 : ¬ (x0 = m) → ∀ j (hj : j < P.length), j < k + 1 → P[j].m ≠ m := fun hn j hj hjk => by
        by_cases e : j = k
        · subst e; rw [← hxm]; exact hn
        · exact hno.out j hj (by omega)
      replace hkB := Lib.hid hkB
      replace hbB := Lib.hid hbB
      replace hbr := Lib.hid hbr
      replace hkr := Lib.hid hkr
      replace hno2 := Lib.hid hno2
      replace hxr := Lib.hid hxr
      replace hxm := Lib.hid hxm
      by_cases a1 : x0 = m
      · have b1 : (x0 == m) = true := by simpa using a1
        have hf := findP_at hkl hno.out (hxm.out.symm.trans a1)
        replace a1 := Lib.hid a1
        replace hf := Lib.hid hf
        go_wp2
        obtain ⟨s1, s2⟩ := st5 (x0 := .int .i64 x0) (x1 := .int .i64 x1) (x2 := .slice x2 x3 x4) (x3 := .slice x5 x6 x7) (x4 := .slice x8 x9 x10) hbr.out
        have hkC := (Keeps.refl [] _).alloc (w := ((((wr.setCell ⟨X, 0, none⟩ (.int .i64 x0)).setCell ⟨X, 1, none⟩ (.int .i64 x1)).setCell ⟨X, 2, none⟩ (.slice x2 x3 x4)).setCell ⟨X, 3, none⟩ (.slice x5 x6 x7)).setCell ⟨X, 4, none⟩ (.slice x8 x9 x10)) (.cells #[.int .i64 x0, .int .i64 x1, .slice x2 x3 x4, .slice x5 x6 x7, .slice x8 x9 x10] tC)
        refine bodyPost_ret (results_cell_row rfl _ _ _ _ _ _ _ rfl ((hkC.block X (lt_of_blk s1) (by simp)).trans s1) Try.underlying44 rfl (by kernel_rfl)) ?_ ?_
        · rfl
        have hK : Keeps [] w _ := (hkr.out.fresh s2 (fun b hb => by simp at hb; subst hb; exact .inr (by rw [hgo.out]; exact Nat.le_refl _))).trans hkC
        refine ⟨⟨x0, x1, (x2, x3, x4), (x5, x6, x7), (x8, x9, x10)⟩, rfl, ?_, hK⟩
        rw [hf.out]
        exact hxr.out.keeps hK
      · have b1 : (x0 == m) = false := by simpa using a1
        have h2 := Lib.hid (hno2.out a1)
        have hkC := Lib.hid (hkw.out.trans hkB.out)
        replace a1 := Lib.hid a1
        go_wp2
        go_roundw
        case rel => exact ⟨k + 1, rfl, by omega, h2, hkC⟩
        case measure => simp [intOf]; omega
    · have hf := findP_no (P := P) (m := m) (fun j hj => hno.out j hj (by rw [hM.out] at hj; omega))
      replace hf := Lib.hid hf
      replace hkr := Lib.hid hkr
      replace hbr := Lib.hid hbr
      go_wp2
      obtain ⟨s1, s2⟩ := st5 (x0 := .int .i64 0) (x1 := .int .i64 0) (x2 := .slice none 0 0) (x3 := .slice none 0 0) (x4 := .slice none 0 0) hbr.out
      refine bodyPost_ret (results_cell_row rfl _ _ _ _ _ _ _ rfl s1 Try.underlying44 rfl (by kernel_rfl)) ?_ ?_
      · rfl
      have hK : Keeps [] w _ := hkr.out.fresh s2 (fun b hb => by simp at hb; subst hb; exact .inr (by rw [hgo.out]; exact Nat.le_refl _))
      refine ⟨ClV.zero, rfl, ?_, hK⟩
      rw [hf.out]
      exact ⟨rfl, rfl, Sh.R.nil _ _, Sh.R.nil _ _, Sh.R.nil _ _⟩
end Go.Proofs.Ythfdngjbcgkkfaa

namespace Go.Proofs.Ythfdngjbcgkkfaa
open Go.RowKit

/-- The claims of a trace. -/
def Tr.clm (t : Tr) : List PCl := refOf t (outsOf (srtOf t.qs)) (srtOf t.qs)
theorem Tr.clm_eq {t : Tr} (h : t.Inv) {Y : List Ans} {P : List PCl} (hY : SortedA t Y) (hP : ClaimsP t Y P) : P = t.clm := by
  obtain rfl := hY.uniq (srtOf_sorted h)
  exact ClaimsP.uniq hY.2 hP (refOf_claims hY.2)
theorem srtOf_mem {t : Tr} (h : t.Inv) {a : Ans} (ha : a ∈ srtOf t.qs) : a.Ok := by
  obtain ⟨p, hp, rfl⟩ := List.mem_map.1 ((srtOf_sorted h).1.mem_iff.1 ha)
  exact h.ro p hp
theorem srtOf_len {t : Tr} (h : t.Inv) : (srtOf t.qs).length ≤ t.qs.length := by
  rw [(srtOf_sorted h).1.length_eq, List.length_map]
  exact (rec_len t.qs).1
theorem clmOf_c (w : World) (v : Value) (t : Tr) (h : t.Inv) (hl : t.qs.length ≤ 1000) (hv : RdA w v (srtOf t.qs)) :
    Calls Try.prog 23 #[v] w fun e w' => ∃ v', e = .returned v' ∧ LCt w' v' t.clm ∧ Keeps [] w w' :=
  claimsOfR_c w v (srtOf t.qs) t hv (fun q => luL_eq h (srtOf_sorted h) q) (Nat.le_trans (srtOf_len h) hl) (fun a ha => (srtOf_mem h ha).len)
def Tr.clms (t : Tr) : List PCl := if t.shown then t.clm else []
set_option maxRecDepth 100000 in
set_option maxHeartbeats 4000000 in
theorem claimsR_c (w : World) (x : RfV) (t : Tr) (h : RfR w x t) (hi : t.Inv) (hl : t.qs.length ≤ 1000) (hrf : t.rf = true → t.state = 4) :
    Calls Try.prog 53 #[rfV x] w fun e w' => ∃ v, e = .returned v ∧ LC w' v t.clms ∧ Keeps [] w w' := by
  have hsc := fun (W : World) (hk : Keeps [] w W) => sortedR_c W x t (h.keeps hk) hi.rk hl
  have hst := h.st
  have hxf := h.rf
  obtain ⟨x0, x1, x2, x3, x4, x5, ⟨x6, x7, x8⟩, ⟨x9, x10, x11⟩, x12, ⟨x13, x14, x15⟩, x16, ⟨x17, x18, x19⟩⟩ := x
  simp only [slv, rfV] at hst hsc hxf ⊢
  have hkA : Keeps [] w (w.alloc (.cells #[.int .i64 x0, .int .i64 x1, .int .i64 x2, .int .u64 x3, .int .i64 x4, .int .i64 x5, .slice x6 x7 x8, .slice x9 x10 x11, .int .i64 x12, .slice x13 x14 x15, .bool x16, .slice x17 x18 x19] tR)) := (Keeps.refl _ _).alloc _
  have hb0 := heap_alloc_new w (.cells #[.int .i64 x0, .int .i64 x1, .int .i64 x2, .int .u64 x3, .int .i64 x4, .int .i64 x5, .slice x6 x7 x8, .slice x9 x10 x11, .int .i64 x12, .slice x13 x14 x15, .bool x16, .slice x17 x18 x19] tR)
  have yes : t.shown = true → ∀ (W : World) (v : Value), Keeps [] w W → RdA W v (srtOf t.qs) → Calls Try.prog 23 #[v] W fun e w' => ∃ v', e = .returned v' ∧ Hid (LC w' v' t.clms ∧ Keeps [] w w') := fun hs W v hk hv =>
    (clmOf_c W v t hi hl hv).mono fun e w' ⟨v', h1, h2, h3⟩ => ⟨v', h1, Lib.hid ⟨by unfold Tr.clms; rw [if_pos hs]; exact h2.lc, hk.trans h3⟩⟩
  replace hkA := Lib.hid hkA
  replace hsc := Lib.hid hsc
  replace hb0 := Lib.hid hb0
  replace hi := Lib.hid hi
  replace hxf := Lib.hid hxf
  clear h
  by_cases s1 : x5 = 1
  · have hsh := Lib.hid (yes (by unfold Tr.shown; rw [← hst, s1]; rfl))
    subst s1
    clear yes hrf
    replace hst := Lib.hid hst
    go_enter Try.func53, Try.ntmps53
    go_wp2_with fail
    refine (hsc.out _ hkA.out).mono ?_
    rintro e w1 ⟨v1, rfl, hv1, hk1⟩
    have hc := hsh.out _ _ (hkA.out.trans hk1) hv1
    replace hc := Lib.hid hc
    clear hv1 hk1
    go_wp2_with fail
    refine hc.out.mono ?_
    rintro e w2 ⟨v2, rfl, hf⟩
    go_wp2
    go_ret
    exact ⟨_, rfl, hf.out⟩
  · have b1 : (x5 == 1) = false := by simpa using s1
    by_cases s2 : x5 = 2
    · have hsh := Lib.hid (yes (by unfold Tr.shown; rw [← hst, s2]; rfl))
      subst s2
      clear yes hrf
      replace hst := Lib.hid hst
      replace s1 := Lib.hid s1
      go_enter Try.func53, Try.ntmps53
      go_wp2_with fail
      refine (hsc.out _ hkA.out).mono ?_
      rintro e w1 ⟨v1, rfl, hv1, hk1⟩
      have hc := hsh.out _ _ (hkA.out.trans hk1) hv1
      replace hc := Lib.hid hc
      clear hv1 hk1
      go_wp2_with fail
      refine hc.out.mono ?_
      rintro e w2 ⟨v2, rfl, hf⟩
      go_wp2
      go_ret
      exact ⟨_, rfl, hf.out⟩
    · have b2 : (x5 == 2) = false := by simpa using s2
      by_cases s4 : x16 = true
      · have hx5 : x5 = 4 := by rw [hst]; exact hrf (by rw [← hxf.out]; exact s4)
        have hsh := Lib.hid (yes (by unfold Tr.shown; rw [← hxf.out, s4]; simp))
        subst hx5
        subst s4
        clear yes hrf
        replace hst := Lib.hid hst
        replace s1 := Lib.hid s1
        replace s2 := Lib.hid s2
        go_enter Try.func53, Try.ntmps53
        go_wp2_with fail
        refine (hsc.out _ hkA.out).mono ?_
        rintro e w1 ⟨v1, rfl, hv1, hk1⟩
        have hc := hsh.out _ _ (hkA.out.trans hk1) hv1
        replace hc := Lib.hid hc
        clear hv1 hk1
        go_wp2_with fail
        refine hc.out.mono ?_
        rintro e w2 ⟨v2, rfl, hf⟩
        go_wp2
        go_ret
        exact ⟨_, rfl, hf.out⟩
      · have hx16 : x16 = false := by simpa using s4
        subst hx16
        have hno : t.clms = [] := by
          unfold Tr.clms Tr.shown
          rw [← hst, ← hxf.out, b1, b2]; rfl
        replace hst := Lib.hid hst
        replace hno := Lib.hid hno
        replace s1 := Lib.hid s1
        replace s2 := Lib.hid s2
        replace s4 := Lib.hid s4
        clear yes hrf
        by_cases s5 : x5 = 4
        · subst s5
          go_enter Try.func53, Try.ntmps53
          go_wp2
          go_ret
          exact ⟨_, rfl, by rw [hno.out]; exact LC.nil _, hkA.out⟩
        · have b4 : (x5 == 4) = false := by simpa using s5
          go_enter Try.func53, Try.ntmps53
          go_wp2
          go_ret
          exact ⟨_, rfl, by rw [hno.out]; exact LC.nil _, hkA.out⟩
def ClaimRP (w : World) (t : Tr) (e : Ending) (w' : World) : Prop :=
  ∃ (x : ClV) (p : PCl), e = .returned (.tuple #[clV x, .bool (t.state == 1)]) ∧ CR w' x p ∧ Keeps [] w w' ∧ ((t.state ≠ 1 ∧ p = PCl.zero) ∨ (t.state = 1 ∧ t.clm[t.ag.length]? = some p))
set_option maxRecDepth 100000 in
set_option maxHeartbeats 8000000 in
theorem claimR_c (w : World) (x : RfV) (t : Tr) (h : RfR w x t) (hi : t.Inv) (hl : t.qs.length ≤ 1000) (hag : t.state = 1 → t.ag.length < t.clm.length) :
    Calls Try.prog 34 #[rfV x] w (ClaimRP w t) := by
  have hsc := fun (W : World) (hk : Keeps [] w W) => sortedR_c W x t (h.keeps hk) hi.rk hl
  have hst := h.st
  have hga := h.ag
  obtain ⟨x0, x1, x2, x3, x4, x5, ⟨x6, x7, x8⟩, ⟨x9, x10, x11⟩, x12, ⟨x13, x14, x15⟩, x16, ⟨x17, x18, x19⟩⟩ := x
  simp only [slv, rfV] at hst hsc hga ⊢
  have hb1 := heap_alloc_new (w.alloc (.cells #[.int .i64 x0, .int .i64 x1, .int .i64 x2, .int .u64 x3, .int .i64 x4, .int .i64 x5, .slice x6 x7 x8, .slice x9 x10 x11, .int .i64 x12, .slice x13 x14 x15, .bool x16, .slice x17 x18 x19] tR)) (.cells #[.int .i64 0, .int .i64 0, .slice none 0 0, .slice none 0 0, .slice none 0 0] tC)
  rw [show (w.alloc (.cells #[.int .i64 x0, .int .i64 x1, .int .i64 x2, .int .u64 x3, .int .i64 x4, .int .i64 x5, .slice x6 x7 x8, .slice x9 x10 x11, .int .i64 x12, .slice x13 x14 x15, .bool x16, .slice x17 x18 x19] tR)).heap.size = w.heap.size + 1 by simp] at hb1
  have hkA : Keeps [] w ((w.alloc (.cells #[.int .i64 x0, .int .i64 x1, .int .i64 x2, .int .u64 x3, .int .i64 x4, .int .i64 x5, .slice x6 x7 x8, .slice x9 x10 x11, .int .i64 x12, .slice x13 x14 x15, .bool x16, .slice x17 x18 x19] tR)).alloc (.cells #[.int .i64 0, .int .i64 0, .slice none 0 0, .slice none 0 0, .slice none 0 0] tC)) := ((Keeps.refl _ _).alloc _).alloc _
  have hb0 := ((Keeps.refl [] (w.alloc (.cells #[.int .i64 x0, .int .i64 x1, .int .i64 x2, .int .u64 x3, .int .i64 x4, .int .i64 x5, .slice x6 x7 x8, .slice x9 x10 x11, .int .i64 x12, .slice x13 x14 x15, .bool x16, .slice x17 x18 x19] tR))).alloc (.cells #[.int .i64 0, .int .i64 0, .slice none 0 0, .slice none 0 0, .slice none 0 0] tC)).block _ (by simp) (by simp) |>.trans (heap_alloc_new w (.cells #[.int .i64 x0, .int .i64 x1, .int .i64 x2, .int .u64 x3, .int .i64 x4, .int .i64 x5, .slice x6 x7 x8, .slice x9 x10 x11, .int .i64 x12, .slice x13 x14 x15, .bool x16, .slice x17 x18 x19] tR))
  replace hkA := Lib.hid hkA
  replace hsc := Lib.hid hsc
  replace hb1 := Lib.hid hb1
  replace hb0 := Lib.hid hb0
  by_cases s1 : x5 = 1
  case neg =>
    have b1 : (x5 != 1) = true := by simpa using s1
    have hbf : (t.state == 1) = false := by rw [← hst]; simpa using s1
    have hnf : t.state ≠ 1 := by rw [← hst]; exact s1
    replace hi := Lib.hid hi
    replace hst := Lib.hid hst
    replace hga := Lib.hid hga
    clear h
    go_enter Try.func34, Try.ntmps34
    go_wp2
    refine bodyPost_ret (results_clm rfl _ _ _ _ _ _ _ _ _ _ rfl hb1.out) ?_ ?_
    · rfl
    · exact ⟨ClV.zero, PCl.zero, by rw [hbf]; rfl, ⟨rfl, rfl, Sh.R.nil _ _, Sh.R.nil _ _, Sh.R.nil _ _⟩, hkA.out, .inl ⟨hnf, rfl⟩⟩
  case pos =>
    subst s1
    have hst1 : t.state = 1 := hst.symm
    have hlt := hag hst1
    have hx14 : t.ag.length = x14 := by
      obtain ⟨_, _, e, _⟩ := hga.form
      simp only [Value.slice.injEq] at e
      exact e.2.1.symm
    rw [hx14] at hlt
    replace hst := Lib.hid hst
    replace hst1 := Lib.hid hst1
    replace hx14 := Lib.hid hx14
    replace hi := Lib.hid hi
    clear h hga hag
    go_enter Try.func34, Try.ntmps34
    go_wp2
    generalize ((w.alloc (.cells #[.int .i64 x0, .int .i64 x1, .int .i64 x2, .int .u64 x3, .int .i64 x4, .int .i64 1, .slice x6 x7 x8, .slice x9 x10 x11, .int .i64 x12, .slice x13 x14 x15, .bool x16, .slice x17 x18 x19] tR)).alloc (.cells #[.int .i64 0, .int .i64 0, .slice none 0 0, .slice none 0 0, .slice none 0 0] tC)) = WA at *
    obtain ⟨y0, y1, y2, y3, y4, y5, y6, y7, y8, y9, y10, y11, yf, yl⟩ := cells12 hb0.out
    refine Free.wp_region_chain (fun i => i == 1 || i == 2 || i == 7 || i == 8) (fun i => true) (fun j b => j = 8 ∧ b = w.heap.size + 1) (by kernel_rfl) (by kernel_rfl) (by kernel_rfl) ?_
    (repeat (first | (apply Free.cw_pure rfl rfl; (intro w'; go_simp <;> exact rfl); go_frame) | (apply Free.cw_steady rfl rfl rfl; (intro w' hS; have q0 := Free.sx_cell hS y0 (fun _ _ hT => by have := hT.2; omega); have q1 := Free.sx_cell hS y1 (fun _ _ hT => by have := hT.2; omega); have q2 := Free.sx_cell hS y2 (fun _ _ hT => by have := hT.2; omega); have q3 := Free.sx_cell hS y3 (fun _ _ hT => by have := hT.2; omega); have q4 := Free.sx_cell hS y4 (fun _ _ hT => by have := hT.2; omega); have q5 := Free.sx_cell hS y5 (fun _ _ hT => by have := hT.2; omega); have q6 := Free.sx_cell hS y6 (fun _ _ hT => by have := hT.2; omega); have q7 := Free.sx_cell hS y7 (fun _ _ hT => by have := hT.2; omega); have q8 := Free.sx_cell hS y8 (fun _ _ hT => by have := hT.2; omega); have q9 := Free.sx_cell hS y9 (fun _ _ hT => by have := hT.2; omega); have q10 := Free.sx_cell hS y10 (fun _ _ hT => by have := hT.2; omega); have q11 := Free.sx_cell hS y11 (fun _ _ hT => by have := hT.2; omega); go_simp <;> exact rfl); go_frame) | (refine Free.cw_skip rfl ?_; go_frame)))
    refine Free.cw_loud rfl rfl (fun K hK => ?_)
    go_wp2_with fail
    refine (hsc.out _ (hkA.out.drew)).mono ?_
    rintro e w1 ⟨v1, rfl, hv1, hk1⟩
    refine hK _ _ rfl (Free.KeepsP.of hk1 (by simp)) ?_
    clear hK K
    have hk1d := ((Keeps.refl [] WA).drew).trans hk1
    have hcl := clmOf_c w1 v1 t hi.out hl hv1
    replace hcl := Lib.hid hcl
    replace hk1d := Lib.hid hk1d
    clear hv1 hk1
    (repeat (apply Free.cw_pure rfl rfl; (intro w'; go_simp <;> exact rfl); go_frame))
    refine Free.cw_loud rfl rfl (fun K hK => ?_)
    go_wp2_with fail
    refine hcl.out.mono ?_
    rintro e w2 ⟨v2, rfl, hLC, hk2⟩
    refine hK _ _ rfl (Free.KeepsP.of hk2 (by simp)) ?_
    clear hK K hcl
    have hk2d := hk1d.out.trans hk2
    obtain ⟨g, o, c', cx, hv, hcr, e0, e1, e2, e3, e4⟩ := hLC.elem hlt
    obtain ⟨NC, hNC⟩ : ∃ n, t.clm.length = n := ⟨_, rfl⟩
    have hNCm : NC ≤ 9223372036854775807 := by obtain ⟨_, c3, _, h1, h2⟩ := hLC.lc.form; rw [hNC] at h1; unfold maxLen at h2; omega
    rw [hNC] at hlt
    rw [hNC] at hv
    subst hv
    have hget : t.clm[x14]? = some (t.clm[x14]'(by omega)) := List.getElem?_eq_getElem _
    obtain ⟨p, hp⟩ : ∃ p, t.clm[x14]'(by omega) = p := ⟨_, rfl⟩
    rw [hp] at hcr hget
    obtain ⟨c0, c1, ⟨c2, c3, c4⟩, ⟨c5, c6, c7⟩, ⟨c8, c9, c10⟩⟩ := cx
    simp only [slv] at e0 e1 e2 e3 e4
    have hbR := (hk2d.block _ (lt_of_blk hb1.out) (by simp)).trans hb1.out
    obtain ⟨z0, z1, z2, z3, z4, zl⟩ := cells5 hbR
    have zf : ∀ o, w2.frozen? ⟨w.heap.size + 1, o, none⟩ = false := fun o => by simp [World.frozen?, hbR]
    have hgl := lt_of_cell e0
    replace hbR := Lib.hid hbR
    replace hk2d := Lib.hid hk2d
    replace hp := Lib.hid hp
    replace hget := Lib.hid hget
    replace hNC := Lib.hid hNC
    replace hcr := Lib.hid hcr
    replace hLC := Lib.hid hLC
    clear hk2
    (repeat (first | (apply Free.cw_pure rfl rfl; (intro w'; go_simp <;> exact rfl); go_frame) | (apply Free.cw_steady rfl rfl rfl; (intro w' hS; have q0 := Free.sx_cell hS y9 (fun _ _ hT => by have := hT.2; omega); go_simp <;> exact rfl); go_frame) | (refine Free.cw_skip rfl ?_; go_frame)))
    refine Free.cw_loud rfl rfl (fun K hK => ?_)
    go_wp2
    refine hK _ _ rfl (Free.KeepsP.refl _ _) ?_
    clear hK K
    (repeat (apply Free.cw_pure rfl rfl; (intro w'; go_simp <;> exact rfl); go_frame))
    refine Free.cw_loud rfl rfl (fun K hK => ?_)
    go_wp2
    obtain ⟨hbS, hkS⟩ := st5 (x0 := .int .i64 c0) (x1 := .int .i64 c1) (x2 := .slice c2 c3 c4) (x3 := .slice c5 c6 c7) (x4 := .slice c8 c9 c10) hbR.out
    refine hK _ _ rfl (Free.KeepsP.of hkS (fun b hb => ⟨trivial, by simpa using hb⟩)) ?_
    clear hK K
    have hR : ∀ b ∈ [w.heap.size + 1], ∀ (cs : Array Value) (f : Nat × Nat), w2.heap[b]? ≠ some (Obj.cells cs tN f) := fun b hb => by simp at hb; subst hb; exact tag_C hbR.out
    have hcS := hcr.out.keepS hkS hR
    have hkf := (hkA.out.trans hk2d.out).fresh hkS (fun b hb => by simp at hb; subst hb; exact .inr (by omega))
    replace hbS := Lib.hid hbS
    replace hcS := Lib.hid hcS
    replace hkf := Lib.hid hkf
    clear hR hkS
    (repeat (apply Free.cw_pure rfl rfl; (intro w'; go_simp <;> exact rfl); go_frame))
    refine Free.cw_nil ?_
    go_wp2
    refine bodyPost_ret (results_clm rfl _ _ _ _ _ _ _ _ _ _ rfl hbS.out) ?_ ?_
    · rfl
    · exact ⟨⟨c0, c1, (c2, c3, c4), (c5, c6, c7), (c8, c9, c10)⟩, p, by rw [hst1.out]; rfl, ⟨hcS.out.m, hcS.out.ep, hcS.out.st.1, hcS.out.sc.1, hcS.out.ch.1⟩, hkf.out, .inr ⟨hst1.out, by rw [hx14.out]; exact hget.out⟩⟩
end Go.Proofs.Ythfdngjbcgkkfaa

namespace Go.Proofs.Ythfdngjbcgkkfaa
open Go.RowKit

def Tr.agreeT (t : Tr) (m : Int) : Tr × Int :=
  if t.state ≠ 1 then (t, 9) else match t.clm[t.ag.length]? with
  | some p => if p.m ≠ m then (t, 1) else ({ t with ag := t.ag ++ [m], state := if t.ag.length + 1 = t.clm.length then 2 else t.state }, 0)
  | none => (t, 0)
def Tr.refuseT (t : Tr) (m : Int) : Tr × Int :=
  if t.state ≠ 1 then (t, 9) else match t.clm[t.ag.length]? with
  | some p => if p.m ≠ m then (t, 1) else ({ t with state := 4, rf := true }, 0)
  | none => (t, 0)
def RPost (w : World) (x0 : RfV) (r : Tr × Int) (e : Ending) (w' : World) : Prop := ∃ x, e = .returned (.tuple #[rfV x, .int .i64 r.2]) ∧ RfR w' x r.1 ∧ Keeps [] w w' ∧ Fsh w w' x0 x
theorem Fsh_ag {w w' : World} {x x' : RfV} (h1 : x'.vo = x.vo) (h2 : x'.va = x.va) (h4 : x'.vh = x.vh) (h3 : ∀ b, (slv x'.vg).ownBlock = some b → w.heap.size ≤ b ∧ b < w'.heap.size) : Fsh w w' x x' := fun b hb => by
  rcases mem_blks.1 hb with e | e | e | e
  · exact .inl (mem_blks.2 (.inl (h1 ▸ e)))
  · exact .inl (mem_blks.2 (.inr (.inl (h2 ▸ e))))
  · exact .inr (h3 b e)
  · exact .inl (mem_blks.2 (.inr (.inr (.inr (h4 ▸ e)))))
theorem RPost.same {w W : World} {x : RfV} {t : Tr} {r : Tr × Int} {n : Int} (hr : r = (t, n)) (hR : RfR W x t) (hk : Keeps [] w W) : RPost w x r (.returned (.tuple #[rfV x, .int .i64 n])) W := by
  subst hr
  exact ⟨x, rfl, hR, hk, fun b hb => .inl hb⟩
set_option maxRecDepth 100000 in
set_option maxHeartbeats 8000000 in
theorem refuseR_c (w : World) (x : RfV) (t : Tr) (m : Int) (h : RfR w x t) (hi : t.Inv) (hl : t.qs.length ≤ 1000) (hag : t.state = 1 → t.ag.length < t.clm.length) :
    Calls Try.prog 41 #[rfV x, .int .i64 m] w (RPost w x (t.refuseT m)) := by
  have hcl := fun (W : World) (hk : Keeps [] w W) => claimR_c W x t (h.keeps hk) hi hl hag
  have hst := h.st
  have hga := h.ag
  obtain ⟨x0, x1, x2, x3, x4, x5, ⟨x6, x7, x8⟩, ⟨x9, x10, x11⟩, x12, ⟨x13, x14, x15⟩, x16, ⟨x17, x18, x19⟩⟩ := x
  simp only [slv, rfV] at hst hcl hga ⊢
  have hb1 := heap_alloc_new (w.alloc (.cells #[.int .i64 x0, .int .i64 x1, .int .i64 x2, .int .u64 x3, .int .i64 x4, .int .i64 x5, .slice x6 x7 x8, .slice x9 x10 x11, .int .i64 x12, .slice x13 x14 x15, .bool x16, .slice x17 x18 x19] tR)) (.cells #[.int .i64 0, .int .i64 0, .int .i64 0, .int .u64 0, .int .i64 0, .int .i64 0, .slice none 0 0, .slice none 0 0, .int .i64 0, .slice none 0 0, .bool false, .slice none 0 0] tR)
  rw [show (w.alloc (.cells #[.int .i64 x0, .int .i64 x1, .int .i64 x2, .int .u64 x3, .int .i64 x4, .int .i64 x5, .slice x6 x7 x8, .slice x9 x10 x11, .int .i64 x12, .slice x13 x14 x15, .bool x16, .slice x17 x18 x19] tR)).heap.size = w.heap.size + 1 by simp] at hb1
  have hkA : Keeps [] w ((w.alloc (.cells #[.int .i64 x0, .int .i64 x1, .int .i64 x2, .int .u64 x3, .int .i64 x4, .int .i64 x5, .slice x6 x7 x8, .slice x9 x10 x11, .int .i64 x12, .slice x13 x14 x15, .bool x16, .slice x17 x18 x19] tR)).alloc (.cells #[.int .i64 0, .int .i64 0, .int .i64 0, .int .u64 0, .int .i64 0, .int .i64 0, .slice none 0 0, .slice none 0 0, .int .i64 0, .slice none 0 0, .bool false, .slice none 0 0] tR)) := ((Keeps.refl _ _).alloc _).alloc _
  have hb0 := ((Keeps.refl [] (w.alloc (.cells #[.int .i64 x0, .int .i64 x1, .int .i64 x2, .int .u64 x3, .int .i64 x4, .int .i64 x5, .slice x6 x7 x8, .slice x9 x10 x11, .int .i64 x12, .slice x13 x14 x15, .bool x16, .slice x17 x18 x19] tR))).alloc (.cells #[.int .i64 0, .int .i64 0, .int .i64 0, .int .u64 0, .int .i64 0, .int .i64 0, .slice none 0 0, .slice none 0 0, .int .i64 0, .slice none 0 0, .bool false, .slice none 0 0] tR)).block _ (by simp) (by simp) |>.trans (heap_alloc_new w (.cells #[.int .i64 x0, .int .i64 x1, .int .i64 x2, .int .u64 x3, .int .i64 x4, .int .i64 x5, .slice x6 x7 x8, .slice x9 x10 x11, .int .i64 x12, .slice x13 x14 x15, .bool x16, .slice x17 x18 x19] tR))
  replace hkA := Lib.hid hkA
  replace hcl := Lib.hid hcl
  replace hb1 := Lib.hid hb1
  replace hb0 := Lib.hid hb0
  replace h := Lib.hid h
  replace hst := Lib.hid hst
  replace hi := Lib.hid hi
  replace hga := Lib.hid hga
  replace hag := Lib.hid hag
  go_enter Try.func41, Try.ntmps41
  go_wp2_with fail
  generalize ((w.alloc (.cells #[.int .i64 x0, .int .i64 x1, .int .i64 x2, .int .u64 x3, .int .i64 x4, .int .i64 x5, .slice x6 x7 x8, .slice x9 x10 x11, .int .i64 x12, .slice x13 x14 x15, .bool x16, .slice x17 x18 x19] tR)).alloc (.cells #[.int .i64 0, .int .i64 0, .int .i64 0, .int .u64 0, .int .i64 0, .int .i64 0, .slice none 0 0, .slice none 0 0, .int .i64 0, .slice none 0 0, .bool false, .slice none 0 0] tR)) = WA at *
  refine (hcl.out _ hkA.out).mono ?_
  rintro e w1 ⟨cx, p, rfl, hcr, hk1, hcase⟩
  obtain ⟨c0, c1, ⟨c2, c3, c4⟩, ⟨c5, c6, c7⟩, ⟨c8, c9, c10⟩⟩ := cx
  simp only [clV, slv]
  have hkM := (Keeps.refl [] w1).alloc (.cells #[.int .i64 c0, .int .i64 c1, .slice c2 c3 c4, .slice c5 c6 c7, .slice c8 c9 c10] tC)
  have hbC := heap_alloc_new w1 (.cells #[.int .i64 c0, .int .i64 c1, .slice c2 c3 c4, .slice c5 c6 c7, .slice c8 c9 c10] tC)
  have hk1M := hk1.trans hkM
  have hbx := (hk1M.block _ (lt_of_blk hb0.out) (by simp)).trans hb0.out
  have hbz := (hk1M.block _ (lt_of_blk hb1.out) (by simp)).trans hb1.out
  have hkw := hkA.out.trans hk1M
  have hcm := hcr.m
  simp only at hcm
  obtain ⟨sb, hsb⟩ : ∃ b, (t.state == 1) = b := ⟨_, rfl⟩
  rw [hsb]
  replace hbx := Lib.hid hbx
  replace hbz := Lib.hid hbz
  replace hkw := Lib.hid hkw
  replace hcase := Lib.hid hcase
  replace hcm := Lib.hid hcm
  replace hbC := Lib.hid hbC
  clear hk1 hkM hk1M hcr hcl
  go_upto_if 14 with fail
  generalize (w1.alloc (.cells #[.int .i64 c0, .int .i64 c1, .slice c2 c3 c4, .slice c5 c6 c7, .slice c8 c9 c10] tC)) = W2 at *
  obtain ⟨XC, hXC⟩ : ∃ X, w1.heap.size = X := ⟨_, rfl⟩
  rw [hXC] at hbC ⊢
  replace hXC := Lib.hid hXC
  obtain ⟨y0, y1, y2, y3, y4, y5, y6, y7, y8, y9, y10, y11, yf, yl⟩ := cells12 hbx.out
  obtain ⟨z0, z1, z2, z3, z4, z5, z6, z7, z8, z9, z10, z11, zf, zl⟩ := cells12 hbz.out
  obtain ⟨k0, k1, k2, k3, k4, kl⟩ := cells5 hbC.out
  cases sb with
  | false =>
    have hs : t.state ≠ 1 := by simpa using hsb
    have hr : t.refuseT m = (t, 9) := by unfold Tr.refuseT; rw [if_pos hs]
    replace hr := Lib.hid hr
    replace hs := Lib.hid hs
    replace hsb := Lib.hid hsb
    go_wp2
    obtain ⟨s1, s2⟩ := st12 (x0 := .int .i64 x0) (x1 := .int .i64 x1) (x2 := .int .i64 x2) (x3 := .int .u64 x3) (x4 := .int .i64 x4) (x5 := .int .i64 x5) (x6 := .slice x6 x7 x8) (x7 := .slice x9 x10 x11) (x8 := .int .i64 x12) (x9 := .slice x13 x14 x15) (x10 := .bool x16) (x11 := .slice x17 x18 x19) hbz.out
    have hkf := hkw.out.fresh s2 (fun b hb => by simp at hb; subst hb; exact .inr (by omega))
    refine bodyPost_ret (results_rf rfl _ _ _ _ _ _ _ _ _ _ _ _ _ _ _ _ _ rfl s1) ?_ ?_
    · rfl
    · exact RPost.same (x := ⟨x0, x1, x2, x3, x4, x5, (x6, x7, x8), (x9, x10, x11), x12, (x13, x14, x15), x16, (x17, x18, x19)⟩) hr.out (h.out.keeps hkf) hkf
  | true =>
    have hs : t.state = 1 := by simpa using hsb
    have hget : t.clm[t.ag.length]? = some p := by
      rcases hcase.out with ⟨e, _⟩ | ⟨_, e⟩
      · exact absurd hs e
      · exact e
    by_cases hm : c0 = m
    case neg =>
      have hmb : (c0 != m) = true := by simpa using hm
      have hr : t.refuseT m = (t, 1) := by unfold Tr.refuseT; rw [if_neg (by simp [hs]), hget]; simp only; rw [if_pos (by rw [← hcm.out]; exact hm)]
      replace hr := Lib.hid hr
      replace hs := Lib.hid hs
      replace hsb := Lib.hid hsb
      replace hm := Lib.hid hm
      replace hget := Lib.hid hget
      go_wp2
      obtain ⟨s1, s2⟩ := st12 (x0 := .int .i64 x0) (x1 := .int .i64 x1) (x2 := .int .i64 x2) (x3 := .int .u64 x3) (x4 := .int .i64 x4) (x5 := .int .i64 x5) (x6 := .slice x6 x7 x8) (x7 := .slice x9 x10 x11) (x8 := .int .i64 x12) (x9 := .slice x13 x14 x15) (x10 := .bool x16) (x11 := .slice x17 x18 x19) hbz.out
      have hkf := hkw.out.fresh s2 (fun b hb => by simp at hb; subst hb; exact .inr (by omega))
      refine bodyPost_ret (results_rf rfl _ _ _ _ _ _ _ _ _ _ _ _ _ _ _ _ _ rfl s1) ?_ ?_
      · rfl
      · exact RPost.same (x := ⟨x0, x1, x2, x3, x4, x5, (x6, x7, x8), (x9, x10, x11), x12, (x13, x14, x15), x16, (x17, x18, x19)⟩) hr.out (h.out.keeps hkf) hkf
    case pos =>
      have hmb : (c0 != m) = false := by simpa using hm
      have hx5 : x5 = 1 := hst.out.trans hs
      subst hx5
      have hr : t.refuseT m = ({ t with state := 4, rf := true }, 0) := by unfold Tr.refuseT; rw [if_neg (by simp [hs]), hget]; simp only; rw [if_neg (by rw [← hcm.out, hm]; simp)]
      replace hr := Lib.hid hr
      replace hs := Lib.hid hs
      replace hsb := Lib.hid hsb
      replace hm := Lib.hid hm
      replace hget := Lib.hid hget
      go_wp2
      have hkb := ((Keeps.refl [w.heap.size] W2).setCell (p := ⟨w.heap.size, 5, none⟩) (.inr (by simp)) (.int .i64 4)).setCell (p := ⟨w.heap.size, 10, none⟩) (.inr (by simp)) (.bool true)
      have hbz2 := (hkb.block _ zl (by simp)).trans hbz.out
      obtain ⟨u1, u2⟩ := st12 (x0 := .int .i64 x0) (x1 := .int .i64 x1) (x2 := .int .i64 x2) (x3 := .int .u64 x3) (x4 := .int .i64 x4) (x5 := .int .i64 4) (x6 := .slice x6 x7 x8) (x7 := .slice x9 x10 x11) (x8 := .int .i64 x12) (x9 := .slice x13 x14 x15) (x10 := .bool true) (x11 := .slice x17 x18 x19) hbz2
      have hkf := (hkw.out.fresh hkb (fun b hb => by simp at hb; subst hb; exact .inr (Nat.le_refl _))).fresh u2 (fun b hb => by simp at hb; subst hb; exact .inr (by omega))
      have hE := h.out.keeps hkf
      refine bodyPost_ret (results_rf rfl _ _ _ _ _ _ _ _ _ _ _ _ _ _ _ _ _ rfl u1) ?_ ?_
      · rfl
      · rw [hr.out]
        exact ⟨⟨x0, x1, x2, x3, x4, 4, (x6, x7, x8), (x9, x10, x11), x12, (x13, x14, x15), true, (x17, x18, x19)⟩, rfl, ⟨hE.im, hE.is, hE.s0, hE.s1, hE.s2, rfl, hE.told, rfl, hE.op, hE.an, hE.ag, hE.hi⟩, hkf, fun b hb => .inl hb⟩
set_option maxRecDepth 100000 in
set_option maxHeartbeats 8000000 in
theorem agreeR_c (w : World) (x : RfV) (t : Tr) (m : Int) (h : RfR w x t) (hi : t.Inv) (hl : t.qs.length ≤ 1000) (hl2 : t.ag.length ≤ 1000) (hag : t.state = 1 → t.ag.length < t.clm.length) :
    Calls Try.prog 39 #[rfV x, .int .i64 m] w (RPost w x (t.agreeT m)) := by
  have hcl := fun (W : World) (hk : Keeps [] w W) => claimR_c W x t (h.keeps hk) hi hl hag
  have hst := h.st
  have hga := h.ag
  obtain ⟨x0, x1, x2, x3, x4, x5, ⟨x6, x7, x8⟩, ⟨x9, x10, x11⟩, x12, ⟨x13, x14, x15⟩, x16, ⟨x17, x18, x19⟩⟩ := x
  simp only [slv, rfV] at hst hcl hga ⊢
  have hb1 := heap_alloc_new (w.alloc (.cells #[.int .i64 x0, .int .i64 x1, .int .i64 x2, .int .u64 x3, .int .i64 x4, .int .i64 x5, .slice x6 x7 x8, .slice x9 x10 x11, .int .i64 x12, .slice x13 x14 x15, .bool x16, .slice x17 x18 x19] tR)) (.cells #[.int .i64 0, .int .i64 0, .int .i64 0, .int .u64 0, .int .i64 0, .int .i64 0, .slice none 0 0, .slice none 0 0, .int .i64 0, .slice none 0 0, .bool false, .slice none 0 0] tR)
  rw [show (w.alloc (.cells #[.int .i64 x0, .int .i64 x1, .int .i64 x2, .int .u64 x3, .int .i64 x4, .int .i64 x5, .slice x6 x7 x8, .slice x9 x10 x11, .int .i64 x12, .slice x13 x14 x15, .bool x16, .slice x17 x18 x19] tR)).heap.size = w.heap.size + 1 by simp] at hb1
  have hkA : Keeps [] w ((w.alloc (.cells #[.int .i64 x0, .int .i64 x1, .int .i64 x2, .int .u64 x3, .int .i64 x4, .int .i64 x5, .slice x6 x7 x8, .slice x9 x10 x11, .int .i64 x12, .slice x13 x14 x15, .bool x16, .slice x17 x18 x19] tR)).alloc (.cells #[.int .i64 0, .int .i64 0, .int .i64 0, .int .u64 0, .int .i64 0, .int .i64 0, .slice none 0 0, .slice none 0 0, .int .i64 0, .slice none 0 0, .bool false, .slice none 0 0] tR)) := ((Keeps.refl _ _).alloc _).alloc _
  have hb0 := ((Keeps.refl [] (w.alloc (.cells #[.int .i64 x0, .int .i64 x1, .int .i64 x2, .int .u64 x3, .int .i64 x4, .int .i64 x5, .slice x6 x7 x8, .slice x9 x10 x11, .int .i64 x12, .slice x13 x14 x15, .bool x16, .slice x17 x18 x19] tR))).alloc (.cells #[.int .i64 0, .int .i64 0, .int .i64 0, .int .u64 0, .int .i64 0, .int .i64 0, .slice none 0 0, .slice none 0 0, .int .i64 0, .slice none 0 0, .bool false, .slice none 0 0] tR)).block _ (by simp) (by simp) |>.trans (heap_alloc_new w (.cells #[.int .i64 x0, .int .i64 x1, .int .i64 x2, .int .u64 x3, .int .i64 x4, .int .i64 x5, .slice x6 x7 x8, .slice x9 x10 x11, .int .i64 x12, .slice x13 x14 x15, .bool x16, .slice x17 x18 x19] tR))
  replace hkA := Lib.hid hkA
  replace hcl := Lib.hid hcl
  replace hb1 := Lib.hid hb1
  replace hb0 := Lib.hid hb0
  replace h := Lib.hid h
  replace hst := Lib.hid hst
  replace hi := Lib.hid hi
  replace hga := Lib.hid hga
  replace hag := Lib.hid hag
  go_enter Try.func39, Try.ntmps39
  go_wp2_with fail
  generalize ((w.alloc (.cells #[.int .i64 x0, .int .i64 x1, .int .i64 x2, .int .u64 x3, .int .i64 x4, .int .i64 x5, .slice x6 x7 x8, .slice x9 x10 x11, .int .i64 x12, .slice x13 x14 x15, .bool x16, .slice x17 x18 x19] tR)).alloc (.cells #[.int .i64 0, .int .i64 0, .int .i64 0, .int .u64 0, .int .i64 0, .int .i64 0, .slice none 0 0, .slice none 0 0, .int .i64 0, .slice none 0 0, .bool false, .slice none 0 0] tR)) = WA at *
  refine (hcl.out _ hkA.out).mono ?_
  rintro e w1 ⟨cx, p, rfl, hcr, hk1, hcase⟩
  obtain ⟨c0, c1, ⟨c2, c3, c4⟩, ⟨c5, c6, c7⟩, ⟨c8, c9, c10⟩⟩ := cx
  simp only [clV, slv]
  have hkM := (Keeps.refl [] w1).alloc (.cells #[.int .i64 c0, .int .i64 c1, .slice c2 c3 c4, .slice c5 c6 c7, .slice c8 c9 c10] tC)
  have hbC := heap_alloc_new w1 (.cells #[.int .i64 c0, .int .i64 c1, .slice c2 c3 c4, .slice c5 c6 c7, .slice c8 c9 c10] tC)
  have hk1M := hk1.trans hkM
  have hbx := (hk1M.block _ (lt_of_blk hb0.out) (by simp)).trans hb0.out
  have hbz := (hk1M.block _ (lt_of_blk hb1.out) (by simp)).trans hb1.out
  have hkw := hkA.out.trans hk1M
  have hcm := hcr.m
  simp only at hcm
  obtain ⟨sb, hsb⟩ : ∃ b, (t.state == 1) = b := ⟨_, rfl⟩
  rw [hsb]
  replace hbx := Lib.hid hbx
  replace hbz := Lib.hid hbz
  replace hkw := Lib.hid hkw
  replace hcase := Lib.hid hcase
  replace hcm := Lib.hid hcm
  replace hbC := Lib.hid hbC
  clear hk1 hkM hk1M hcr hcl
  go_upto_if 14 with fail
  generalize (w1.alloc (.cells #[.int .i64 c0, .int .i64 c1, .slice c2 c3 c4, .slice c5 c6 c7, .slice c8 c9 c10] tC)) = W2 at *
  obtain ⟨XC, hXC⟩ : ∃ X, w1.heap.size = X := ⟨_, rfl⟩
  rw [hXC] at hbC ⊢
  replace hXC := Lib.hid hXC
  obtain ⟨y0, y1, y2, y3, y4, y5, y6, y7, y8, y9, y10, y11, yf, yl⟩ := cells12 hbx.out
  obtain ⟨z0, z1, z2, z3, z4, z5, z6, z7, z8, z9, z10, z11, zf, zl⟩ := cells12 hbz.out
  obtain ⟨k0, k1, k2, k3, k4, kl⟩ := cells5 hbC.out
  cases sb with
  | false =>
    have hs : t.state ≠ 1 := by simpa using hsb
    have hr : t.agreeT m = (t, 9) := by unfold Tr.agreeT; rw [if_pos hs]
    replace hr := Lib.hid hr
    replace hs := Lib.hid hs
    replace hsb := Lib.hid hsb
    go_wp2
    obtain ⟨s1, s2⟩ := st12 (x0 := .int .i64 x0) (x1 := .int .i64 x1) (x2 := .int .i64 x2) (x3 := .int .u64 x3) (x4 := .int .i64 x4) (x5 := .int .i64 x5) (x6 := .slice x6 x7 x8) (x7 := .slice x9 x10 x11) (x8 := .int .i64 x12) (x9 := .slice x13 x14 x15) (x10 := .bool x16) (x11 := .slice x17 x18 x19) hbz.out
    have hkf := hkw.out.fresh s2 (fun b hb => by simp at hb; subst hb; exact .inr (by omega))
    refine bodyPost_ret (results_rf rfl _ _ _ _ _ _ _ _ _ _ _ _ _ _ _ _ _ rfl s1) ?_ ?_
    · rfl
    · exact RPost.same (x := ⟨x0, x1, x2, x3, x4, x5, (x6, x7, x8), (x9, x10, x11), x12, (x13, x14, x15), x16, (x17, x18, x19)⟩) hr.out (h.out.keeps hkf) hkf
  | true =>
    have hs : t.state = 1 := by simpa using hsb
    have hget : t.clm[t.ag.length]? = some p := by
      rcases hcase.out with ⟨e, _⟩ | ⟨_, e⟩
      · exact absurd hs e
      · exact e
    by_cases hm : c0 = m
    case neg =>
      have hmb : (c0 != m) = true := by simpa using hm
      have hr : t.agreeT m = (t, 1) := by unfold Tr.agreeT; rw [if_neg (by simp [hs]), hget]; simp only; rw [if_pos (by rw [← hcm.out]; exact hm)]
      replace hr := Lib.hid hr
      replace hs := Lib.hid hs
      replace hsb := Lib.hid hsb
      replace hm := Lib.hid hm
      replace hget := Lib.hid hget
      go_wp2
      obtain ⟨s1, s2⟩ := st12 (x0 := .int .i64 x0) (x1 := .int .i64 x1) (x2 := .int .i64 x2) (x3 := .int .u64 x3) (x4 := .int .i64 x4) (x5 := .int .i64 x5) (x6 := .slice x6 x7 x8) (x7 := .slice x9 x10 x11) (x8 := .int .i64 x12) (x9 := .slice x13 x14 x15) (x10 := .bool x16) (x11 := .slice x17 x18 x19) hbz.out
      have hkf := hkw.out.fresh s2 (fun b hb => by simp at hb; subst hb; exact .inr (by omega))
      refine bodyPost_ret (results_rf rfl _ _ _ _ _ _ _ _ _ _ _ _ _ _ _ _ _ rfl s1) ?_ ?_
      · rfl
      · exact RPost.same (x := ⟨x0, x1, x2, x3, x4, x5, (x6, x7, x8), (x9, x10, x11), x12, (x13, x14, x15), x16, (x17, x18, x19)⟩) hr.out (h.out.keeps hkf) hkf
    case pos =>
      have hmb : (c0 != m) = false := by simpa using hm
      have hx5 : x5 = 1 := hst.out.trans hs
      subst hx5
      have hr : t.agreeT m = ({ t with ag := t.ag ++ [m], state := if t.ag.length + 1 = t.clm.length then 2 else t.state }, 0) := by unfold Tr.agreeT; rw [if_neg (by simp [hs]), hget]; simp only; rw [if_neg (by rw [← hcm.out, hm]; simp)]
      replace hr := Lib.hid hr
      have hx14 : t.ag.length = x14 := by
        obtain ⟨_, _, e, _⟩ := hga.out.form
        simp only [Value.slice.injEq] at e
        exact e.2.1.symm
      rw [hx14] at hl2 hget
      have hgaW := hga.out.keeps hkw.out
      have hfr := Sh.O.fresh shZ W2 W2.heap.size 3 (Nat.le_refl _)
      have hkE := (Keeps.refl [] W2).alloc (.cells #[] 3)
      have hsE : W2.heap.size ≤ (W2.alloc (.cells #[] 3)).heap.size := by simp
      replace hgaW := Lib.hid hgaW
      replace hfr := Lib.hid hfr
      replace hkE := Lib.hid hkE
      replace hs := Lib.hid hs
      replace hsb := Lib.hid hsb
      replace hm := Lib.hid hm
      replace hget := Lib.hid hget
      replace hx14 := Lib.hid hx14
      go_wp2_with (first
        | (at_builtin; (refine Sh.wpl_app shZ W2.heap.size infoZ rfl Try.underlying54 (.slice (some ⟨W2.heap.size, 0, none⟩) 0 0) (.slice x13 x14 x15) [] t.ag rfl _ _ rfl rfl rfl hfr.out (hgaW.out.keeps hkE.out) (by rw [hx14.out]; simp only [List.length_nil]; omega) hsE ?_; intro v5 w5 hO5 hG5; rw [List.nil_append] at hO5; have hk5 := hG5.keeps (a := W2) hkE.out (fun b hb => by simp [Value.ownBlock] at hb; omega); have hm5 := Sh.R.made shZ w5 [m] #[.int .i64 m] 3 rfl (by simp [maxLen]) 1 rfl; have hkm := (Keeps.refl [] w5).alloc (.cells #[.int .i64 m] 3); have hO5a := Lib.hid (hO5.keeps hkm); have hk5a := Lib.hid (hk5.trans hkm); have hs5 : W2.heap.size ≤ (w5.alloc (.cells #[.int .i64 m] 3)).heap.size := hk5a.out.size; replace hm5 := Lib.hid hm5; clear hO5 hk5 hG5 hkm))
        | (at_builtin; (refine Sh.wpl_app shZ W2.heap.size infoZ rfl Try.underlying54 v5 (.slice (some ⟨w5.heap.size, 0, none⟩) 1 1) t.ag [m] rfl _ _ rfl rfl rfl hO5a.out hm5.out (by rw [hx14.out]; simp only [List.length_singleton]; omega) hs5 ?_; intro v6 w6 hO6 hG6; have hk6 := Sh.O.grew hk5a.out hO5a.out hG6 (Nat.le_refl _); obtain ⟨va, vc, rfl⟩ := hO6.form; obtain ⟨N6, hN6⟩ : ∃ n, (t.ag ++ [m]).length = n := ⟨_, rfl⟩; rw [hN6] at hO6 ⊢; have hbx6 := Lib.hid ((hk6.block _ yl (by simp)).trans hbx.out); have hbz6 := Lib.hid ((hk6.block _ zl (by simp)).trans hbz.out); obtain ⟨y0, y1, y2, y3, y4, y5, y6, y7, y8, y9, y10, y11, yf, yl6⟩ := cells12 hbx6.out; have hkw6 := Lib.hid (hkw.out.trans hk6); replace hO6 := Lib.hid hO6; replace hN6 := Lib.hid hN6; clear hG6 hk6))
        | fail)
      have hkS : Keeps [w.heap.size] w6 (w6.setCell ⟨w.heap.size, 9, none⟩ (.slice va N6 vc)) := (Keeps.refl _ _).setCell (.inr (by simp)) _
      have hbx7 := setCs hbx6.out 9 (.slice va N6 vc)
      have hbz7 := (hkS.block _ (lt_of_blk hbz6.out) (by simp)).trans hbz6.out
      have hkw7 := hkw6.out.fresh hkS (fun b hb => by simp at hb; subst hb; exact .inr (Nat.le_refl _))
      have hO7 := hO6.out.keepS hkS (fun b hb e => by
        simp at hb; subst hb
        obtain ⟨cs, hc⟩ := hO6.out.tag _ e
        exact tag_ne hbx6.out hc (by decide) rfl)
      have hE7 := h.out.keeps hkw7
      have hR7 : RfR (w6.setCell ⟨w.heap.size, 9, none⟩ (.slice va N6 vc)) ⟨x0, x1, x2, x3, x4, 1, (x6, x7, x8), (x9, x10, x11), x12, (va, N6, vc), x16, (x17, x18, x19)⟩ { t with ag := t.ag ++ [m] } := ⟨hE7.im, hE7.is, hE7.s0, hE7.s1, hE7.s2, hE7.st, hE7.told, hE7.rf, hE7.op, hE7.an, hO7.r, hE7.hi⟩
      have hN6' : N6 = x14 + 1 := by rw [← hN6.out, List.length_append, hx14.out]; rfl
      replace hN6' := Lib.hid hN6'
      have hsc := fun (W : World) (hk : Keeps [] (w6.setCell ⟨w.heap.size, 9, none⟩ (.slice va N6 vc)) W) => sortedR_c W _ { t with ag := t.ag ++ [m] } (hR7.keeps hk) hi.out.rk hl
      simp only [rfV, slv] at hsc
      replace hbx7 : (w6.setCell ⟨w.heap.size, 9, none⟩ (.slice va N6 vc)).heap[w.heap.size]? = some (.cells #[.int .i64 x0, .int .i64 x1, .int .i64 x2, .int .u64 x3, .int .i64 x4, .int .i64 1, .slice x6 x7 x8, .slice x9 x10 x11, .int .i64 x12, .slice va N6 vc, .bool x16, .slice x17 x18 x19] tR) := by simpa using hbx7
      replace hbx7 := Lib.hid hbx7
      replace hbz7 := Lib.hid hbz7
      replace hkw7 := Lib.hid hkw7
      replace hR7 := Lib.hid hR7
      replace hO7 := Lib.hid hO7
      replace hsc := Lib.hid hsc
      clear hkS hE7 hO6 hkw6 hbx6 hbz6
      generalize (w6.setCell ⟨w.heap.size, 9, none⟩ (.slice va N6 vc)) = w7 at *
      clear y0 y1 y2 y3 y4 y5 y6 y7 y8 y9 y10 y11 yf yl6 z0 z1 z2 z3 z4 z5 z6 z7 z8 z9 z10 z11 zf
      obtain ⟨y0, y1, y2, y3, y4, y5, y6, y7, y8, y9, y10, y11, yf, yl7⟩ := cells12 hbx7.out
      refine Free.wp_region_chain (fun i => i == 4 || i == 5) (fun i => true) (fun _ _ => False) (by kernel_rfl) (by kernel_rfl) (by kernel_rfl) ?_
      (repeat (first | (apply Free.cw_pure rfl rfl; (intro w'; go_simp <;> exact rfl); go_frame) | (apply Free.cw_steady rfl rfl rfl; (intro w' hS; have q0 := Free.sx_cell hS y0 (fun _ _ hT => hT); have q1 := Free.sx_cell hS y1 (fun _ _ hT => hT); have q2 := Free.sx_cell hS y2 (fun _ _ hT => hT); have q3 := Free.sx_cell hS y3 (fun _ _ hT => hT); have q4 := Free.sx_cell hS y4 (fun _ _ hT => hT); have q5 := Free.sx_cell hS y5 (fun _ _ hT => hT); have q6 := Free.sx_cell hS y6 (fun _ _ hT => hT); have q7 := Free.sx_cell hS y7 (fun _ _ hT => hT); have q8 := Free.sx_cell hS y8 (fun _ _ hT => hT); have q9 := Free.sx_cell hS y9 (fun _ _ hT => hT); have q10 := Free.sx_cell hS y10 (fun _ _ hT => hT); have q11 := Free.sx_cell hS y11 (fun _ _ hT => hT); go_simp <;> exact rfl); go_frame) | (refine Free.cw_skip rfl ?_; go_frame)))
      refine Free.cw_loud rfl rfl (fun K hK => ?_)
      go_wp2_with fail
      refine (hsc.out _ ((Keeps.refl [] w7).drew)).mono ?_
      rintro e w8 ⟨v8, rfl, hv8, hk8⟩
      refine hK _ _ rfl (Free.KeepsP.of hk8 (by simp)) ?_
      clear hK K
      have hcl := clmOf_c w8 v8 t hi.out hl hv8
      have hk8d := ((Keeps.refl [] w7).drew).trans hk8
      replace hcl := Lib.hid hcl
      replace hk8d := Lib.hid hk8d
      clear hv8 hk8
      (repeat (apply Free.cw_pure rfl rfl; (intro w'; go_simp <;> exact rfl); go_frame))
      refine Free.cw_loud rfl rfl (fun K hK => ?_)
      go_wp2_with fail
      refine hcl.out.mono ?_
      rintro e w9 ⟨v9, rfl, hLC, hk9⟩
      refine hK _ _ rfl (Free.KeepsP.of hk9 (by simp)) ?_
      clear hK K hcl
      obtain ⟨la, lc, rfl, _, _⟩ := hLC.lc.form
      obtain ⟨NC, hNC⟩ : ∃ n, t.clm.length = n := ⟨_, rfl⟩
      rw [hNC]
      have hk79 := hk8d.out.trans hk9
      have hbx9 := (hk79.block _ (lt_of_blk hbx7.out) (by simp)).trans hbx7.out
      have hbz9 := (hk79.block _ (lt_of_blk hbz7.out) (by simp)).trans hbz7.out
      have hkw9 := hkw7.out.trans hk79
      have hR9 := hR7.out.keeps hk79
      have hO9 := hO7.out.keeps hk79
      replace hNC := Lib.hid hNC
      replace hbx9 := Lib.hid hbx9
      replace hbz9 := Lib.hid hbz9
      replace hkw9 := Lib.hid hkw9
      replace hR9 := Lib.hid hR9
      replace hO9 := Lib.hid hO9
      clear hk9 hk79 hLC hO7 hR7
      (repeat (apply Free.cw_pure rfl rfl; (intro w'; go_simp <;> exact rfl); go_frame))
      refine Free.cw_nil ?_
      obtain ⟨y0, y1, y2, y3, y4, y5, y6, y7, y8, y9, y10, y11, yf, yl9⟩ := cells12 hbx9.out
      obtain ⟨z0, z1, z2, z3, z4, z5, z6, z7, z8, z9, z10, z11, zf, zl9⟩ := cells12 hbz9.out
      by_cases hfin : N6 = NC
      · have hfb : ((N6 : Int) == (NC : Int)) = true := by simp [hfin]
        replace hfin := Lib.hid hfin
        go_wp2
        have hkb := (Keeps.refl [w.heap.size] w9).setCell (p := ⟨w.heap.size, 5, none⟩) (.inr (by simp)) (.int .i64 2)
        have hbz2 := (hkb.block _ zl9 (by simp)).trans hbz9.out
        obtain ⟨u1, u2⟩ := st12 (x0 := .int .i64 x0) (x1 := .int .i64 x1) (x2 := .int .i64 x2) (x3 := .int .u64 x3) (x4 := .int .i64 x4) (x5 := .int .i64 2) (x6 := .slice x6 x7 x8) (x7 := .slice x9 x10 x11) (x8 := .int .i64 x12) (x9 := .slice va N6 vc) (x10 := .bool x16) (x11 := .slice x17 x18 x19) hbz2
        have hks := (hkb.mono (T := [w.heap.size, w.heap.size + 1]) (by simp)).trans (u2.mono (by simp))
        have hkf := (hkw9.out.fresh hkb (fun b hb => by simp at hb; subst hb; exact .inr (Nat.le_refl _))).fresh u2 (fun b hb => by simp at hb; subst hb; exact .inr (by omega))
        have hE := h.out.keeps hkf
        have hOE := hO9.out.keepS hks (fun b hb e => by
          obtain ⟨cs, hc⟩ := hO9.out.tag _ e
          simp at hb
          rcases hb with hb | hb
          · subst hb; exact tag_ne hbx9.out hc (by decide) rfl
          · subst hb; exact tag_ne hbz9.out hc (by decide) rfl)
        refine bodyPost_ret (results_rf rfl _ _ _ _ _ _ _ _ _ _ _ _ _ _ _ _ _ rfl u1) ?_ ?_
        · rfl
        · rw [hr.out, if_pos (by rw [hNC.out, hx14.out, ← hfin.out, hN6'.out])]
          exact ⟨⟨x0, x1, x2, x3, x4, 2, (x6, x7, x8), (x9, x10, x11), x12, (va, N6, vc), x16, (x17, x18, x19)⟩, rfl, ⟨hE.im, hE.is, hE.s0, hE.s1, hE.s2, rfl, hE.told, hE.rf, hE.op, hE.an, hOE.r, hE.hi⟩, hkf, Fsh_ag rfl rfl rfl (fun b hb => ⟨by have := hOE.ge b hb; omega, hOE.lt b hb⟩)⟩
      · have hfb : ((N6 : Int) == (NC : Int)) = false := by simp; omega
        replace hfin := Lib.hid hfin
        go_wp2
        obtain ⟨u1, u2⟩ := st12 (x0 := .int .i64 x0) (x1 := .int .i64 x1) (x2 := .int .i64 x2) (x3 := .int .u64 x3) (x4 := .int .i64 x4) (x5 := .int .i64 1) (x6 := .slice x6 x7 x8) (x7 := .slice x9 x10 x11) (x8 := .int .i64 x12) (x9 := .slice va N6 vc) (x10 := .bool x16) (x11 := .slice x17 x18 x19) hbz9.out
        have hkf := hkw9.out.fresh u2 (fun b hb => by simp at hb; subst hb; exact .inr (by omega))
        have hE := h.out.keeps hkf
        have hOE := hO9.out.keepS u2 (fun b hb e => by
          obtain ⟨cs, hc⟩ := hO9.out.tag _ e
          simp at hb
          subst hb; exact tag_ne hbz9.out hc (by decide) rfl)
        refine bodyPost_ret (results_rf rfl _ _ _ _ _ _ _ _ _ _ _ _ _ _ _ _ _ rfl u1) ?_ ?_
        · rfl
        · rw [hr.out, if_neg (by rw [hNC.out, hx14.out, ← hN6'.out]; exact hfin.out)]
          exact ⟨⟨x0, x1, x2, x3, x4, 1, (x6, x7, x8), (x9, x10, x11), x12, (va, N6, vc), x16, (x17, x18, x19)⟩, rfl, ⟨hE.im, hE.is, hE.s0, hE.s1, hE.s2, hE.st, hE.told, hE.rf, hE.op, hE.an, hOE.r, hE.hi⟩, hkf, Fsh_ag rfl rfl rfl (fun b hb => ⟨by have := hOE.ge b hb; omega, hOE.lt b hb⟩)⟩
end Go.Proofs.Ythfdngjbcgkkfaa

namespace Go.Proofs.Ythfdngjbcgkkfaa
open Go.RowKit
namespace TrM
variable {w w' : World} {B bt bm : Nat} {vo vh vg : Value} {t : Tr}
theorem setAg (h : TrM w B bt bm vo vh vg t) {vg' : Value} {m : Int} (hG : Grw w w' vg vg') (hO : shZ.O w' B 3 vg' (t.ag ++ [m])) :
    TrM (w'.setCell ⟨bt, 10, none⟩ vg') B bt bm vo vh vg' { t with ag := t.ag ++ [m] } ∧ Keeps [bt] w' (w'.setCell ⟨bt, 10, none⟩ vg') ∧ KI w w' ∧ KI w' (w'.setCell ⟨bt, 10, none⟩ vg') := by
  obtain ⟨n1, n2, n3, n4⟩ := h.ne_bt
  obtain ⟨X0, hX0, hX0L⟩ := h.hi
  obtain ⟨R, hR, hRL⟩ := h.mp
  have hk := hG.keepsO
  have hi : KI w w' := hk.ki (fun b hb cs f e => by
    obtain ⟨cs', hc⟩ := h.ag.tag b (by simpa using hb)
    exact tag_ne hc e (by decide) rfl)
  have hne : ∀ (e : TypeId) (b : Nat) (cs : Array Value), w.heap[b]? = some (Obj.cells cs e (0, 0)) → 3 ≠ e → b ∉ vg.ownBlock.toList := fun e b cs hb hn hm => by
    obtain ⟨cs', hc⟩ := h.ag.tag b (by simpa using hm)
    exact tag_ne hc hb hn rfl
  have hblk : w'.heap[bt]? = _ := (hk.block bt h.lt.1 (hne _ _ _ h.blk (by decide))).trans h.blk
  have hhi : shA.O w' B tA vh X0 := hX0.keepS hk (fun b hb e => by obtain ⟨cs, hc⟩ := hX0.tag b e; exact hne _ _ _ hc (by decide) hb)
  have hop : shQ.O w' B tQ vo t.op := h.op.keepS hk (fun b hb e => by obtain ⟨cs, hc⟩ := h.op.tag b e; exact hne _ _ _ hc (by decide) hb)
  have hR' : MapS.M ktQ aV w' bm R := hR.kept ktQ hk (fun hm => by
    obtain ⟨cs', hc⟩ := h.ag.tag bm (by simpa using hm)
    obtain ⟨es, c, hmm⟩ := hR.isMap
    rw [hc] at hmm; cases hmm)
  obtain ⟨hk2, hi2⟩ := Keeps.setT (o := 10) hblk vg'
  have hnv : vg'.ownBlock ≠ some bt := fun e => by
    obtain ⟨cs, hc⟩ := hO.tag bt e
    exact tag_ne hblk hc (by decide) rfl
  refine ⟨⟨?_, hop.keepS hk2 (by simpa using n2), ⟨X0, hhi.keepS hk2 (by simpa using n3), (hX0L.ki hi).ki hi2⟩, hO.keepS hk2 (by simpa using hnv), ⟨R, hR'.kept ktQ hk2 (by simpa using n1), (hRL.ki hi).ki hi2⟩, ⟨h.inv.ok, h.inv.nd, h.inv.rq, h.inv.rk, h.inv.hi, h.inv.ro⟩, h.bB⟩, hk2, hi, hi2⟩
  have := setCs hblk 10 vg'
  simpa using this
theorem mvAg {vg' : Value} {m : Int} (h : TrM w B bt bm vo vh vg t) (hG : Grw w w' vg vg') (hO : shZ.O w' B 3 vg' (t.ag ++ [m])) :
    Mv (ownT bt bm vo vh vg) (ownT bt bm vo vh vg') w (w'.setCell ⟨bt, 10, none⟩ vg') := by
  obtain ⟨_, hk, hi, hi2⟩ := h.setAg hG hO
  refine ⟨(hG.keepsO.mono (fun b hb => mem_ownT.2 (.inr (.inr (.inr (.inr (by simpa using hb))))))).trans (hk.mono (fun b hb => by simp at hb; subst hb; exact mem_ownT.2 (.inl rfl))), hi.trans hi2, fun b hb => ?_⟩
  rcases mem_ownT.1 hb with e | e | e | e | e
  · exact .inl (mem_ownT.2 (.inl e))
  · exact .inl (mem_ownT.2 (.inr (.inl e)))
  · exact .inl (mem_ownT.2 (.inr (.inr (.inl e))))
  · exact .inl (mem_ownT.2 (.inr (.inr (.inr (.inl e)))))
  · rcases hG.own with e2 | ⟨k, e2, hle⟩
    · exact .inl (mem_ownT.2 (.inr (.inr (.inr (.inr (e2 ▸ e))))))
    · rw [e2] at e; cases e; exact .inr hle
end TrM
/-- What agreeing leaves. -/
def AgrPost (w : World) (B bt bm : Nat) (vo vh vg : Value) (t : Tr) (m : Int) (e : Ending) (w' : World) : Prop :=
  ∃ vg', e = .returned (.int .i64 (t.agreeT m).2) ∧ TrM w' B bt bm vo vh vg' (t.agreeT m).1 ∧ Mv (ownT bt bm vo vh vg) (ownT bt bm vo vh vg') w w'
theorem AgrPost.of {w w' : World} {B bt bm : Nat} {vo vh vg vg' : Value} {t t' : Tr} {m r : Int} (he : t.agreeT m = (t', r)) (hT : TrM w' B bt bm vo vh vg' t') (hM : Mv (ownT bt bm vo vh vg) (ownT bt bm vo vh vg') w w') : AgrPost w B bt bm vo vh vg t m (.returned (.int .i64 r)) w' := by
  unfold AgrPost
  rw [he]
  exact ⟨vg', rfl, hT, hM⟩
set_option maxRecDepth 100000 in
set_option maxHeartbeats 4000000 in
theorem agree_c (w : World) (B bt bm : Nat) (vo vh vg : Value) (t : Tr) (m : Int) (h : TrM w B bt bm vo vh vg t) (hl : t.qs.length ≤ 1000) (hl2 : t.ag.length ≤ 1000) (hag : t.state = 1 → t.ag.length < t.clm.length) :
    Calls Try.prog 40 #[.pointer (some ⟨bt, 0, none⟩), .int .i64 m] w (AgrPost w B bt bm vo vh vg t m) := by
  have hc := pending_c w B bt bm vo vh vg t m h hl (fun hs P Y hY hP => by rw [Tr.clm_eq h.inv hY hP]; exact hag hs)
  have hinv := h.inv
  replace hc := Lib.hid hc
  replace h := Lib.hid h
  clear hag
  go_enter Try.func40, Try.ntmps40
  go_wp2_with fail
  refine hc.out.mono ?_
  rintro e w1 ⟨r, rfl, hk, hcase⟩
  have hT := h.out.keeps hk
  by_cases hr : r = 0
  · have hc2 : t.state = 1 ∧ ∃ p, t.clm[t.ag.length]? = some p ∧ p.m = m := by
      rcases hcase with ⟨_, h2⟩ | ⟨h1, P, Y, p, h2, h3, h4, h5⟩
      · omega
      · refine ⟨h1, p, ?_, ?_⟩
        · rw [← Tr.clm_eq hinv h2 h3]; exact h4
        · by_cases e : p.m = m
          · exact e
          · rw [if_neg e] at h5; omega
    obtain ⟨h1, p, h4, h5⟩ := hc2
    have hres : t.agreeT m = ({ t with ag := t.ag ++ [m], state := if t.ag.length + 1 = t.clm.length then 2 else t.state }, 0) := by
      unfold Tr.agreeT
      rw [if_neg (by simp [h1]), h4]
      simp only
      rw [if_neg (by simp [h5])]
    subst hr
    obtain ⟨ga, gc, rfl⟩ := hT.ag.form
    obtain ⟨LG, hLG⟩ : ∃ n, t.ag.length = n := ⟨_, rfl⟩
    rw [hLG] at hT ⊢
    have d10 := hT.cells.2.2.2.2.2.2.2.2.2.2.1
    have hfr := hT.free
    have hlt := hT.lt
    have hbB := hT.bB
    have hkA := (Keeps.refl [] w1).alloc (.cells #[.int .i64 m] 3)
    have hTA := hT.keeps hkA
    have hm1 := Sh.R.made shZ w1 [m] #[.int .i64 m] 3 rfl (by simp [maxLen]) 1 rfl
    have hsA : B ≤ (w1.alloc (.cells #[.int .i64 m] 3)).heap.size := by simp; omega
    have hOA := hTA.ag
    replace hTA := Lib.hid hTA
    replace hm1 := Lib.hid hm1
    replace hOA := Lib.hid hOA
    have hkw := Lib.hid (hk.trans hkA)
    replace hres := Lib.hid hres
    replace h1 := Lib.hid h1
    replace hLG := Lib.hid hLG
    clear hcase hT h4 h5 hk hkA hc
    go_upto_region 5 with (at_builtin; go_loud (refine Sh.wpl_app shZ B infoZ rfl Try.underlying54 (.slice ga LG gc) (.slice (some ⟨w1.heap.size, 0, none⟩) 1 1) t.ag [m] rfl _ _ rfl rfl rfl hOA.out hm1.out (by simp only [List.length_singleton]; omega) hsA ?_; intro v2 w2 hO2 hG2; have hS := hTA.out.setAg hG2 hO2; have hMv := hTA.out.mvAg hG2 hO2; have hb2 := (hG2.keepsO.block bt hTA.out.lt.1 (fun hm => by obtain ⟨cs', hc⟩ := hOA.out.tag bt (by simpa using hm); exact tag_ne hc hTA.out.blk (by decide) rfl)).trans hTA.out.blk; have d2 := (show w2.cell? ⟨bt, 10, none⟩ = some (.slice ga LG gc) by simp [World.cell?, hb2]); have hf2 := (show ∀ o, w2.frozen? ⟨bt, o, none⟩ = false by intro o; simp [World.frozen?, hb2]); have hl2' := lt_of_blk hb2; obtain ⟨g2, c2, rfl⟩ := hO2.form; obtain ⟨L2, hL2⟩ : ∃ n, (t.ag ++ [m]).length = n := ⟨_, rfl⟩; rw [hL2] at hO2 hS hMv ⊢; replace hS := Lib.hid hS; replace hMv := Lib.hid hMv; clear hO2 hG2 hb2 d10))
    have hT3 := hS.out.1
    have hMv3 := (Mv.nil hkw.out).trans hMv.out
    generalize w2.setCell ⟨bt, 10, none⟩ (.slice g2 L2 c2) = w3 at *
    have hcl := claims_c w3.drew B bt bm vo vh _ _ (hT3.keeps ((Keeps.refl [] w3).drew)) hl
    have d10 := hT3.cells.2.2.2.2.2.2.2.2.2.2.1
    have hfr := hT3.free
    have hlt := hT3.lt
    replace hT3 := Lib.hid hT3
    replace hMv3 := Lib.hid hMv3
    replace hcl := Lib.hid hcl
    clear hS hMv hkw hTA hm1 hOA d2 hf2 hl2'
    go_wp2
    refine Free.wp_region_chain (fun i => i == 6) (fun i => true) (fun _ _ => False) (by kernel_rfl) (by kernel_rfl) (by kernel_rfl) ?_
    (repeat (first | (apply Free.cw_pure rfl rfl; (intro w'; go_simp <;> exact rfl); go_frame) | (apply Free.cw_steady rfl rfl rfl; (intro w' hS; have q0 := Free.sx_cell hS d10 (fun _ _ hT => hT); go_simp <;> exact rfl); go_frame) | (refine Free.cw_skip rfl ?_; go_frame)))
    refine Free.cw_loud rfl rfl (fun K hK => ?_)
    go_wp2_with fail
    refine hcl.out.mono ?_
    rintro e w4 ⟨v4, P, V, Bc, Y, rfl, _, hCL, hY, hP, k4⟩
    refine hK _ _ rfl (Free.KeepsP.of k4 (by simp)) ?_
    clear hK K hcl
    obtain ⟨a4, c4, rfl⟩ := hCL.c.form
    have hPe : P = t.clm := by
      have := Tr.clm_eq (t := { t with ag := t.ag ++ [m] }) hT3.out.inv hY hP
      rw [this]; rfl
    obtain ⟨LP, hLP⟩ : ∃ n, (rowsC P V).length = n := ⟨_, rfl⟩
    have hLP2 : LP = t.clm.length := by rw [← hLP, ← hPe]; simp [rowsC]
    rw [hLP]
    have hT4 := hT3.out.keeps (((Keeps.refl [] w3).drew).trans k4)
    have hMv4 := hMv3.out.trans (Mv.nil (((Keeps.refl [] w3).drew).trans k4))
    have hfr4 := hT4.free
    have d9 := hT4.cells.2.2.2.2.2.2.2.2.2.1
    have hL2g : L2 = t.ag.length + 1 := by rw [← hL2]; simp
    replace hLP := Lib.hid hLP
    replace hL2 := Lib.hid hL2
    replace hT4 := Lib.hid hT4
    replace hMv4 := Lib.hid hMv4
    clear hCL hPe k4 hT3 hMv3
    by_cases heq : t.ag.length + 1 = t.clm.length
    · have hb : L2 = LP := by omega
      rw [if_pos heq] at hres
      have hb2 : ((L2 : Int) == (LP : Int)) = true := by simp [hb]
      replace hb := Lib.hid hb
      replace heq := Lib.hid heq
      replace hLP2 := Lib.hid hLP2
      replace hL2g := Lib.hid hL2g
      (repeat (apply Free.cw_pure rfl rfl; (intro w'; go_simp <;> exact rfl); go_frame))
      refine Free.cw_nil ?_
      clear d10
      go_wp2
      go_ret
      rw [hLG.out]
      exact AgrPost.of hres.out (hT4.out.setState 2) (hMv4.out.trans (hT4.out.mvSet 9 _))
    · have hb : ¬ L2 = LP := by omega
      rw [if_neg heq] at hres
      have hb2 : ((L2 : Int) == (LP : Int)) = false := by simp; omega
      replace hb := Lib.hid hb
      replace heq := Lib.hid heq
      replace hLP2 := Lib.hid hLP2
      replace hL2g := Lib.hid hL2g
      (repeat (apply Free.cw_pure rfl rfl; (intro w'; go_simp <;> exact rfl); go_frame))
      refine Free.cw_nil ?_
      clear d10
      go_wp2
      go_ret
      rw [hLG.out]
      exact AgrPost.of hres.out hT4.out hMv4.out
  · have br : (r != 0) = true := by simpa using hr
    have hres : t.agreeT m = (t, r) := by
      rcases hcase with ⟨h1, h2⟩ | ⟨h1, P, Y, p, h2, h3, h4, h5⟩
      · unfold Tr.agreeT; rw [if_pos h1, h2]
      · rw [Tr.clm_eq hinv h2 h3] at h4
        by_cases e : p.m = m
        · rw [if_pos e] at h5; exact absurd h5 hr
        · rw [if_neg e] at h5
          unfold Tr.agreeT
          rw [if_neg (by simp [h1]), h4]
          simp only
          rw [if_pos e, h5]
    replace hT := Lib.hid hT
    replace hk := Lib.hid hk
    replace hres := Lib.hid hres
    clear hcase
    go_wp2
    go_ret
    exact AgrPost.of hres.out hT.out (Mv.nil hk.out)
end Go.Proofs.Ythfdngjbcgkkfaa

namespace Go.Proofs.Ythfdngjbcgkkfaa
open Go.ChangeShapes Go.WideShapes Go.ChangeAt Go.RowKit

/-- Numbers that fit. -/
structure Ans.Fit (a : Ans) : Prop where
  q : qOk a.q
  ep : W64 a.ep
  lu : W64 a.lu
  ins : ∀ x ∈ a.ins, W64 x.1 ∧ x.2.1 < 18446744073709551616 ∧ W64 x.2.2
theorem Ans.Fit.ok {a : Ans} (h : a.Fit) (hl : a.ins.length ≤ 100000) : a.Ok := ⟨h.q, h.ep, h.lu, h.ins, hl⟩
/-- The cells of an answer. -/
def AnC (w : World) (cs : List Value) (y : Ans) : Prop := ∃ x : AnV, cs = x.cs ∧ InR w x y ∧ y.Fit
theorem AnC.keeps {w w' : World} {cs : List Value} {y : Ans} (h : AnC w cs y) (hk : Keeps [] w w') : AnC w' cs y := by
  obtain ⟨x, h1, h2, h3⟩ := h
  exact ⟨x, h1, h2.keep hk (by simp), h3⟩
/-- A list of answers that is read. -/
def LT (w : World) (v : Value) (T : List Ans) : Prop := Gen.SlR AnC 8 w v T
theorem LT.keeps {w w' : World} {v : Value} {T : List Ans} (h : LT w v T) (hk : Keeps [] w w') : LT w' v T := Gen.SlR.keeps h hk (fun _ _ h => h.keeps hk)
theorem LT.elem {w : World} {v : Value} {T : List Ans} (h : LT w v T) {k : Nat} (hk : k < T.length) : ∃ g o c x, v = .slice (some ⟨g, o, none⟩) T.length c ∧ InR w x T[k] ∧ T[k].Fit ∧ ∀ j u, x.cs[j]? = some u → w.cell? ⟨g, o + k * 8 + j, none⟩ = some u := by
  obtain ⟨g, o, c, xs, h1, h2, ⟨x, e, h3, h4⟩, h5⟩ := Gen.SlR.elem h (by decide) hk
  subst e
  exact ⟨g, o, c, x, h1, h3, h4, h5⟩
theorem u64_wf {z : Int} (h : (Lit.int .u64 z).wf = true) : ∃ n : Nat, z = n ∧ n < 18446744073709551616 := by
  have hb : 0 ≤ z ∧ z ≤ 18446744073709551615 := by simpa [Lit.wf, IntKind.min, IntKind.max, IntKind.signed, IntKind.bits] using h
  exact ⟨z.toNat, by omega, by omega⟩
theorem w64_wf {x : Int} (h : (Lit.int .i64 x).wf = true) : W64 x := by simpa [W64, Lit.wf, IntKind.min, IntKind.max, IntKind.signed, IntKind.bits] using h
set_option maxRecDepth 100000 in
set_option maxHeartbeats 1000000 in
theorem cs_tid {w : World} {cs : List Value} (h : Gen.Cs Try.prog w 23 cs) : ∃ a s, cs = [.int .i64 a, .int .i64 s] ∧ W64 a ∧ W64 s := by
  obtain ⟨hl, hall⟩ := Gen.Cs.struct Try.underlying23 h
  rw [show Try.prog.cellsOf 23 = 2 by kernel_rfl] at hl
  obtain ⟨a, b, rfl⟩ : ∃ a b, cs = [a, b] := by
    match cs, hl with
    | [a, b], _ => exact ⟨a, b, rfl⟩
  have h0 := hall 0 _ rfl
  have h1 := hall 1 _ rfl
  replace h0 : Gen.Cs Try.prog w 3 (([a, b].drop 0).take (Try.prog.cellsOf 3)) := h0
  replace h1 : Gen.Cs Try.prog w 3 (([a, b].drop 1).take (Try.prog.cellsOf 3)) := h1
  rw [show Try.prog.cellsOf 3 = 1 by kernel_rfl] at h0 h1
  obtain ⟨k, hk, wk⟩ := Gen.Cs.int Try.underlying3 h0
  obtain ⟨n, hn, wn⟩ := Gen.Cs.int Try.underlying3 h1
  simp at hk hn
  subst hk hn
  exact ⟨k, n, rfl, w64_wf wk, w64_wf wn⟩
set_option maxRecDepth 100000 in
set_option maxHeartbeats 1000000 in
theorem cs_t3 {w : World} {t : TypeId} {fs : Array Field} (ht : Try.prog.underlying t = some (.struct fs)) (hc : Try.prog.cellsOf t = 3) (hf : fs.toList.map (fun f => (f.type, f.offset)) = [(3, 0), (24, 1), (3, 2)]) {cs : List Value} (h : Gen.Cs Try.prog w t cs) :
    ∃ (x : T3), cs = shT.cf x ∧ W64 x.1 ∧ x.2.1 < 18446744073709551616 ∧ W64 x.2.2 := by
  obtain ⟨hl, hall⟩ := Gen.Cs.struct ht h
  rw [hc] at hl
  obtain ⟨f0, f1, f2, hfs⟩ : ∃ f0 f1 f2, fs = #[f0, f1, f2] := by
    obtain ⟨l⟩ := fs
    have hl := congrArg List.length hf
    simp only [List.length_map, List.length_cons, List.length_nil] at hl
    match l, hl with
    | [f0, f1, f2], _ => exact ⟨f0, f1, f2, rfl⟩
  subst hfs
  simp only [List.map_cons, List.map_nil, List.cons.injEq, Prod.mk.injEq, and_true] at hf
  obtain ⟨⟨t0, o0⟩, ⟨t1, o1⟩, t2, o2⟩ := hf
  obtain ⟨a, b, c, rfl⟩ : ∃ a b c, cs = [a, b, c] := by
    match cs, hl with
    | [a, b, c], _ => exact ⟨a, b, c, rfl⟩
  have h0 := hall 0 f0 rfl
  have h1 := hall 1 f1 rfl
  have h2 := hall 2 f2 rfl
  rw [t0, o0, show Try.prog.cellsOf 3 = 1 by kernel_rfl] at h0
  rw [t1, o1, show Try.prog.cellsOf 24 = 1 by kernel_rfl] at h1
  rw [t2, o2, show Try.prog.cellsOf 3 = 1 by kernel_rfl] at h2
  obtain ⟨k, hk, wk⟩ := Gen.Cs.int Try.underlying3 h0
  obtain ⟨n, hn, wn⟩ := Gen.Cs.int Try.underlying24 h1
  obtain ⟨m, hm, wm⟩ := Gen.Cs.int Try.underlying3 h2
  obtain ⟨n2, en, wn2⟩ := u64_wf wn
  rw [en] at hn
  simp at hk hn hm
  subst hk hn hm
  exact ⟨(k, n2, m), rfl, w64_wf wk, wn2, w64_wf wm⟩
set_option maxRecDepth 100000 in
set_option maxHeartbeats 1000000 in
theorem cs_need {w : World} {cs : List Value} (h : Gen.Cs Try.prog w tN cs) : ∃ (x : T3), cs = shT.cf x ∧ W64 x.1 ∧ x.2.1 < 18446744073709551616 ∧ W64 x.2.2 := cs_t3 Try.underlying26 (by kernel_rfl) rfl h
set_option maxRecDepth 100000 in
set_option maxHeartbeats 1000000 in
theorem cs_ins {w : World} {cs : List Value} (h : Gen.Cs Try.prog w tI cs) : ∃ (x : T3), cs = shT.cf x ∧ W64 x.1 ∧ x.2.1 < 18446744073709551616 ∧ W64 x.2.2 := cs_t3 Try.underlying34 (by kernel_rfl) rfl h
set_option maxRecDepth 100000 in
set_option maxHeartbeats 1000000 in
theorem cs_inset {w : World} {v : Value} (h : Gen.Cs Try.prog w 30 [v]) : ∃ L : List T3, shT.R w v L ∧ ∀ x ∈ L, W64 x.1 ∧ x.2.1 < 18446744073709551616 ∧ W64 x.2.2 := by
  obtain ⟨L, hL, _⟩ := Gen.SlR.open (R := fun _ cs (x : T3) => cs = shT.cf x ∧ W64 x.1 ∧ x.2.1 < 18446744073709551616 ∧ W64 x.2.2) Try.underlying30 (show Try.prog.cellsOf tI = 3 by kernel_rfl) (by decide) (fun cs hcs => cs_ins hcs) h
  refine ⟨L, Sh.R.of_slR (s := shT) (fun cs x h => h.1) hL, fun x hx => ?_⟩
  obtain ⟨k, hk, rfl⟩ := List.mem_iff_getElem.1 hx
  obtain ⟨cs, _, h2⟩ := hL
  exact (h2 k hk).2
set_option maxRecDepth 100000 in
set_option maxHeartbeats 1000000 in
theorem cs_ans {w : World} {cs : List Value} (h : Gen.Cs Try.prog w tA cs) : ∃ y, AnC w cs y := by
  obtain ⟨hl, hall⟩ := Gen.Cs.struct Try.underlying32 h
  rw [show Try.prog.cellsOf tA = 8 by kernel_rfl] at hl
  obtain ⟨a, b, c, d, e, f, g, i, rfl⟩ : ∃ a b c d e f g i, cs = [a, b, c, d, e, f, g, i] := by
    match cs, hl with
    | [a, b, c, d, e, f, g, i], _ => exact ⟨a, b, c, d, e, f, g, i, rfl⟩
  have h0 := hall 0 _ rfl
  have h1 := hall 1 _ rfl
  have h2 := hall 2 _ rfl
  have h3 := hall 3 _ rfl
  have h4 := hall 4 _ rfl
  have h5 := hall 5 _ rfl
  have h6 := hall 6 _ rfl
  have h7 := hall 7 _ rfl
  replace h0 : Gen.Cs Try.prog w 3 (([a, b, c, d, e, f, g, i].drop 0).take (Try.prog.cellsOf 3)) := h0
  replace h1 : Gen.Cs Try.prog w 3 (([a, b, c, d, e, f, g, i].drop 1).take (Try.prog.cellsOf 3)) := h1
  replace h2 : Gen.Cs Try.prog w 24 (([a, b, c, d, e, f, g, i].drop 2).take (Try.prog.cellsOf 24)) := h2
  replace h3 : Gen.Cs Try.prog w 3 (([a, b, c, d, e, f, g, i].drop 3).take (Try.prog.cellsOf 3)) := h3
  replace h4 : Gen.Cs Try.prog w 4 (([a, b, c, d, e, f, g, i].drop 4).take (Try.prog.cellsOf 4)) := h4
  replace h5 : Gen.Cs Try.prog w 4 (([a, b, c, d, e, f, g, i].drop 5).take (Try.prog.cellsOf 4)) := h5
  replace h6 : Gen.Cs Try.prog w 3 (([a, b, c, d, e, f, g, i].drop 6).take (Try.prog.cellsOf 3)) := h6
  replace h7 : Gen.Cs Try.prog w 30 (([a, b, c, d, e, f, g, i].drop 7).take (Try.prog.cellsOf 30)) := h7
  rw [show Try.prog.cellsOf 3 = 1 by kernel_rfl] at h0 h1 h3 h6
  rw [show Try.prog.cellsOf 24 = 1 by kernel_rfl] at h2
  rw [show Try.prog.cellsOf 4 = 1 by kernel_rfl] at h4 h5
  rw [show Try.prog.cellsOf 30 = 1 by kernel_rfl] at h7
  obtain ⟨z0, e0, w0⟩ := Gen.Cs.int Try.underlying3 h0
  obtain ⟨z1, e1, w1⟩ := Gen.Cs.int Try.underlying3 h1
  obtain ⟨z2, e2, w2⟩ := Gen.Cs.int Try.underlying24 h2
  obtain ⟨z3, e3, w3⟩ := Gen.Cs.int Try.underlying3 h3
  obtain ⟨z4, e4⟩ := Gen.Cs.bool Try.underlying4 h4
  obtain ⟨z5, e5⟩ := Gen.Cs.bool Try.underlying4 h5
  obtain ⟨z6, e6, w6⟩ := Gen.Cs.int Try.underlying3 h6
  obtain ⟨y2, ey2, wy2⟩ := u64_wf w2
  rw [ey2] at e2
  simp at e0 e1 e2 e3 e4 e5 e6 h7
  subst e0 e1 e2 e3 e4 e5 e6
  obtain ⟨L, hL, hLf⟩ := cs_inset h7
  obtain ⟨x, k, rfl, _⟩ := hL.form
  exact ⟨⟨z0, z1, y2, z3, z4, z5, z6, L⟩, ⟨z0, z1, y2, z3, z4, z5, z6, x, L.length, k⟩, rfl, ⟨rfl, rfl, rfl, rfl, rfl, rfl, rfl, hL⟩, ⟨⟨w64_wf w0, w64_wf w1, wy2⟩, w64_wf w3, w64_wf w6, hLf⟩⟩
set_option maxRecDepth 100000 in
set_option maxHeartbeats 1000000 in
theorem open_tid {H : Type} {enc : TypeId × Value → H} {W : World} {base : Nat} {r : Reach} {v : Value} {d : DataW H} {ps : List MemPlace} (hv : Value.okWide Try.prog W r base 23 v)
    (h : DataW.Trod enc Try.prog W 0 (fun _ => true) true 23 v d ps) : ∃ (a s : Int), v = .agg #[.int .i64 a, .int .i64 s] ∧ W64 a ∧ W64 s := by
  obtain ⟨a, s, hc, ha, hs⟩ := cs_tid (Gen.Cs.of_agg h)
  obtain ⟨cs, rfl, _⟩ := okWide_struct Try.underlying23 hv
  refine ⟨a, s, ?_, ha, hs⟩
  have : cs.toList = [.int .i64 a, .int .i64 s] := hc
  rw [← Array.toArray_toList (xs := cs), this]
set_option maxRecDepth 100000 in
set_option maxHeartbeats 1000000 in
theorem open_need {H : Type} {enc : TypeId × Value → H} {W : World} {base : Nat} {r : Reach} {v : Value} {d : DataW H} {ps : List MemPlace} (hv : Value.okWide Try.prog W r base 26 v)
    (h : DataW.Trod enc Try.prog W 0 (fun _ => true) true 26 v d ps) : ∃ x : T3, v = tV x ∧ W64 x.1 ∧ x.2.1 < 18446744073709551616 ∧ W64 x.2.2 := by
  obtain ⟨x, hc, hw⟩ := cs_need (Gen.Cs.of_agg h)
  obtain ⟨cs, rfl, _⟩ := okWide_struct Try.underlying26 hv
  refine ⟨x, ?_, hw⟩
  have : cs.toList = shT.cf x := hc
  rw [← Array.toArray_toList (xs := cs), this]
  rfl
set_option maxRecDepth 100000 in
set_option maxHeartbeats 1000000 in
theorem open_table {H : Type} {enc : TypeId × Value → H} {W : World} {base : Nat} {r : Reach} {v : Value} {d : DataW H} {ps : List MemPlace} (hv : Value.okWide Try.prog W r base 27 v)
    (h : DataW.Trod enc Try.prog W 0 (fun _ => true) true 27 v d ps) : ∃ T : List Ans, LT W v T := by
  obtain ⟨a0, n0, c0, rfl⟩ := okWide_slice Try.underlying27 hv
  obtain ⟨L, hL, _⟩ := Gen.SlR.open (R := AnC) Try.underlying27 (show Try.prog.cellsOf tA = 8 by kernel_rfl) (by decide) (fun cs hcs => cs_ans hcs) (Gen.Cs.of_trod rfl h)
  exact ⟨L, hL⟩
def shB : Sh UInt8 := ⟨1, fun x => [.int .u8 x.toNat], fun _ => rfl, by decide, fun x u hu => by simp at hu; rw [hu]; rfl⟩
set_option maxRecDepth 100000 in
set_option maxHeartbeats 1000000 in
theorem open_picks {H : Type} {enc : TypeId × Value → H} {W : World} {base : Nat} {r : Reach} {v : Value} {d : DataW H} {ps : List MemPlace} (hv : Value.okWide Try.prog W r base 28 v)
    (h : DataW.Trod enc Try.prog W 0 (fun _ => true) true 28 v d ps) : ∃ l : List UInt8, shB.R W v l := by
  obtain ⟨a0, n0, c0, rfl⟩ := okWide_slice Try.underlying28 hv
  obtain ⟨L, hL, _⟩ := Gen.SlR.open (R := fun _ cs (x : UInt8) => cs = shB.cf x) Try.underlying28 (show Try.prog.cellsOf 5 = 1 by kernel_rfl) (by decide) (fun cs hcs => by
    obtain ⟨n, rfl, hw⟩ := Gen.Cs.int Try.underlying5 hcs
    have hb : 0 ≤ n ∧ n ≤ 255 := by simpa [Lit.wf, IntKind.min, IntKind.max, IntKind.signed, IntKind.bits] using hw
    refine ⟨UInt8.ofNat n.toNat, ?_⟩
    show [Value.int .u8 n] = [.int .u8 ((UInt8.ofNat n.toNat).toNat : Int)]
    congr 2
    simp; omega) (Gen.Cs.of_trod rfl h)
  exact ⟨L, Sh.R.of_slR (s := shB) (fun _ _ h => h) hL⟩
end Go.Proofs.Ythfdngjbcgkkfaa

namespace Go.Proofs.Ythfdngjbcgkkfaa
open Go Go.RowKit

theorem ownsRow_set {w : World} {base e size n : Nat} {ys : List Value} {g cap : Nat} (h : w.ownsRow base e size (.slice (some ⟨g, 0, none⟩) n cap) n ys) (i : Nat) (c : Value) :
    (w.setCell ⟨g, i, none⟩ c).ownsRow base e size (.slice (some ⟨g, 0, none⟩) n cap) n (ys.set i c) := by
  obtain ⟨hl, h2⟩ := h
  rcases h2 with ⟨e, _⟩ | ⟨g', cap', cur, e, hb, hg, hle, hm, hsz, ht⟩
  · cases e
  · cases e
    refine ⟨by simpa using hl, .inr ⟨g, cap, cur.setIfInBounds i c, rfl, hb, setCs hg i c, hle, hm, by simpa using hsz, ?_⟩⟩
    rw [Array.toList_setIfInBounds, List.take_set, ht]
theorem set8_list {A C : List Value} {x0 x1 x2 x3 x4 x5 x6 x7 y0 y1 y2 y3 y4 y5 y6 y7 : Value} {m : Nat} (hm : A.length = m) :
    ((((((((A ++ ([x0, x1, x2, x3, x4, x5, x6, x7] ++ C)).set m y0).set (m + 1) y1).set (m + 2) y2).set (m + 3) y3).set (m + 4) y4).set (m + 5) y5).set (m + 6) y6).set (m + 7) y7 = A ++ ([y0, y1, y2, y3, y4, y5, y6, y7] ++ C) := by
  subst hm
  repeat rw [List.set_append_right (by omega)]
  simp
theorem cs_split (L : List AnV) (k : Nat) (hk : k < L.length) (y : AnV) : shA.cs L = shA.cs (L.take k) ++ (shA.cf L[k] ++ shA.cs (L.drop (k + 1))) ∧ shA.cs (L.set k y) = shA.cs (L.take k) ++ (shA.cf y ++ shA.cs (L.drop (k + 1))) := by
  refine ⟨?_, ?_⟩
  · have h : L = L.take k ++ (L[k] :: L.drop (k + 1)) := by rw [List.getElem_cons_drop, List.take_append_drop]
    rw [congrArg shA.cs h, Sh.cs_append]
    rfl
  · rw [List.set_eq_take_append_cons_drop, if_pos hk, Sh.cs_append]
    rfl
theorem O_set8 {w : World} {B e n c g : Nat} {L : List AnV} (h : shA.O w B e (.slice (some ⟨g, 0, none⟩) n c) L) (hn : L.length = n) (k : Nat) (hk : k < L.length) (y : AnV) :
    shA.O ((((((((w.setCell ⟨g, k * 8, none⟩ (.int .i64 y.m)).setCell ⟨g, k * 8 + 1, none⟩ (.int .i64 y.ow)).setCell ⟨g, k * 8 + 2, none⟩ (.int .u64 y.n)).setCell ⟨g, k * 8 + 3, none⟩ (.int .i64 y.ep)).setCell ⟨g, k * 8 + 4, none⟩ (.bool y.kn)).setCell ⟨g, k * 8 + 5, none⟩ (.bool y.rt)).setCell ⟨g, k * 8 + 6, none⟩ (.int .i64 y.lu)).setCell ⟨g, k * 8 + 7, none⟩ y.v) B e (.slice (some ⟨g, 0, none⟩) n c) (L.set k y) := by
  unfold Sh.O at h ⊢
  rw [hn] at h
  rw [List.length_set, hn]
  have h8 := ownsRow_set (ownsRow_set (ownsRow_set (ownsRow_set (ownsRow_set (ownsRow_set (ownsRow_set (ownsRow_set h (k * 8) (.int .i64 y.m)) (k * 8 + 1) (.int .i64 y.ow)) (k * 8 + 2) (.int .u64 y.n)) (k * 8 + 3) (.int .i64 y.ep)) (k * 8 + 4) (.bool y.kn)) (k * 8 + 5) (.bool y.rt)) (k * 8 + 6) (.int .i64 y.lu)) (k * 8 + 7) y.v
  obtain ⟨e1, e2⟩ := cs_split L k hk y
  have hA : (shA.cs (L.take k)).length = k * 8 := by
    rw [Sh.cs_len, List.length_take, Nat.min_eq_left (by omega)]
    rfl
  rw [e1, show shA.cf L[k] = [.int .i64 L[k].m, .int .i64 L[k].ow, .int .u64 L[k].n, .int .i64 L[k].ep, .bool L[k].kn, .bool L[k].rt, .int .i64 L[k].lu, L[k].v] from rfl, set8_list hA] at h8
  rw [e2]
  exact h8
theorem keeps8 (w : World) (g m : Nat) (x0 x1 x2 x3 x4 x5 x6 x7 : Value) : Keeps [g] w ((((((((w.setCell ⟨g, m, none⟩ x0).setCell ⟨g, m + 1, none⟩ x1).setCell ⟨g, m + 2, none⟩ x2).setCell ⟨g, m + 3, none⟩ x3).setCell ⟨g, m + 4, none⟩ x4).setCell ⟨g, m + 5, none⟩ x5).setCell ⟨g, m + 6, none⟩ x6).setCell ⟨g, m + 7, none⟩ x7) := by
  refine ((((((((Keeps.refl _ w).setCell ?_ _).setCell ?_ _).setCell ?_ _).setCell ?_ _).setCell ?_ _).setCell ?_ _).setCell ?_ _).setCell ?_ _ <;> exact .inr (by simp)
end Go.Proofs.Ythfdngjbcgkkfaa

namespace Go.Proofs.Ythfdngjbcgkkfaa
open Go.RowKit

theorem RA.set {w : World} {X : List AnV} {qs : Qs} {k : Nat} {y : AnV} {q : Qn} {a : Ans} (h : RA w X qs) (hy : InA w y a) : RA w (X.set k y) (qs.set k (q, some a)) := by
  obtain ⟨hl, hh⟩ := h
  refine ⟨by simp [hl], fun j u p hu hp => ?_⟩
  rw [List.getElem?_set] at hu hp
  by_cases hj : k = j
  · rw [if_pos hj] at hu hp
    split at hu
    · split at hp
      · cases hu; cases hp; exact hy
      · cases hp
    · cases hu
  · rw [if_neg hj] at hu hp
    exact hh j u p hu hp
theorem RA.open {w : World} {X : List AnV} {qs : Qs} {q : Qn} (h : RA w X qs) : RA w (X ++ [AnV.zero]) (qs ++ [(q, none)]) := by
  obtain ⟨hl, hh⟩ := h
  refine ⟨by simp [hl], fun j u p hu hp => ?_⟩
  by_cases hj : j < X.length
  · rw [List.getElem?_append_left hj] at hu
    rw [List.getElem?_append_left (by omega)] at hp
    exact hh j u p hu hp
  · rw [List.getElem?_append_right (by omega)] at hu hp
    rw [← hl] at hp
    obtain ⟨i, hi⟩ : ∃ i, j - X.length = i := ⟨_, rfl⟩
    rw [hi] at hu hp
    cases i with
    | zero => simp at hu hp; subst hu hp; rfl
    | succ i => simp at hu
theorem RA.all {w w' : World} {X : List AnV} {qs : Qs} (h : RA w X qs) (hk : ∀ (x : AnV) (b : Ans), InA w x b → InA w' x b) : RA w' X qs := by
  refine ⟨h.1, fun j u p hu hp => ?_⟩
  have h1 := h.2 j u p hu hp
  obtain ⟨q, v⟩ := p
  cases v with
  | some b => exact hk u b h1
  | none => exact h1
def Tr.answerR (t : Tr) (a : Ans) : Tr × Int :=
  if t.state ≠ 0 then (t, 9) else if isOpen a.q t.qs = false then (t, 6) else
  if a.kn = false then ({ t.take a with state := 4 }, 0) else if a.rt = true then ({ t.take a with state := 3 }, 0) else
  if t.rec'.any (fun p => Ans.odd a.m a.ep p.2) then ({ t.take a with state := 4 }, 0) else (((t.take a).put a).close, 0)
def oddAt (a : Ans) (p : Qn × Option Ans) : Bool := match p.2 with | some b => Ans.odd a.m a.ep b | none => false
theorem rec_odd (a : Ans) : ∀ qs : Qs, (recOf qs).any (fun p => Ans.odd a.m a.ep p.2) = qs.any (oddAt a)
  | [] => rfl
  | (x, none) :: r => by rw [recOf_none, List.any_cons, rec_odd a r]; rfl
  | (x, some b) :: r => by rw [recOf_some, List.any_cons, List.any_cons, rec_odd a r]; rfl
theorem odd_none {a : Ans} {qs : Qs} (h : ∀ j (hj : j < qs.length), oddAt a qs[j] = false) : (recOf qs).any (fun p => Ans.odd a.m a.ep p.2) = false := by
  rw [rec_odd, List.any_eq_false]
  intro p hp
  obtain ⟨j, hj, rfl⟩ := List.getElem_of_mem hp
  rw [h j hj]
  decide
theorem odd_some {a : Ans} {qs : Qs} {j : Nat} (hj : j < qs.length) (h : oddAt a qs[j] = true) : (recOf qs).any (fun p => Ans.odd a.m a.ep p.2) = true := by
  rw [rec_odd, List.any_eq_true]
  exact ⟨_, List.getElem_mem hj, h⟩
theorem setQ_set {q : Qn} {a : Ans} : ∀ {qs : Qs} (_ : (qs.map (·.1)).Nodup) (k : Nat) (hk : k < qs.length), qs[k].1 = q → setQ q a qs = qs.set k (q, some a)
  | [], _, _, h, _ => by simp at h
  | (x, u) :: r, hn, 0, _, e => by
    obtain ⟨h1, h2⟩ := List.nodup_cons.1 hn
    simp only [List.getElem_cons_zero] at e
    subst e
    rw [setQ_cons, if_pos rfl, setQ_same h1]
    rfl
  | (x, u) :: r, hn, k + 1, hk, e => by
    obtain ⟨h1, h2⟩ := List.nodup_cons.1 hn
    have hk' : k < r.length := by simpa using hk
    simp only [List.getElem_cons_succ] at e
    have hx : x ≠ q := fun e2 => h1 (by rw [e2, ← e]; exact List.mem_map.2 ⟨_, List.getElem_mem hk', rfl⟩)
    rw [setQ_cons, if_neg hx, setQ_set h2 k hk' e]
    rfl
theorem isOpen_at {t : Tr} (h : t.Inv) {q : Qn} {k : Nat} (hk : k < t.qs.length) (e : t.qs[k].1 = q) : isOpen q t.qs = !t.qs[k].2.isSome := by
  have hm := List.getElem_mem hk
  obtain ⟨⟨q', u⟩, hp⟩ : ∃ p, t.qs[k] = p := ⟨_, rfl⟩
  rw [hp] at hm e ⊢
  simp only at e
  subst e
  cases u with
  | none => exact isOpen_mem.2 hm
  | some b =>
    unfold isOpen
    simp only [Option.isSome_some, Bool.not_true, decide_eq_false_iff_not]
    intro h2
    have := nd_val h.nd hm h2
    cases this
theorem isOpen_not {t : Tr} {q : Qn} (h : q ∉ t.op) : isOpen q t.qs = false := by
  unfold isOpen
  simp only [decide_eq_false_iff_not]
  exact fun h2 => h (List.mem_map.2 ⟨_, h2, rfl⟩)
theorem LRd.snoc {w : World} {X : List AnV} {Y : List Ans} {x : AnV} {y : Ans} (h : LRd w X Y) (hx : InR w x y) : LRd w (X ++ [x]) (Y ++ [y]) := by
  obtain ⟨hl, hh⟩ := h
  refine ⟨by simp [hl], fun k u v hu hv => ?_⟩
  by_cases hk : k < X.length
  · rw [List.getElem?_append_left hk] at hu
    rw [List.getElem?_append_left (by omega)] at hv
    exact hh k u v hu hv
  · rw [List.getElem?_append_right (by omega)] at hu hv
    rw [← hl] at hv
    obtain ⟨j, hj⟩ : ∃ j, k - X.length = j := ⟨_, rfl⟩
    rw [hj] at hu hv
    cases j with
    | zero => simp at hu hv; subst hu hv; exact hx
    | succ j => simp at hu
theorem ans_end {w W wE : World} {X B N : Nat} {v8 : Value} {XH : List AnV} {va : Option Addr} {vc : Nat} {a : Ans} {H : List Ans} {u0 u2 : Array Value} (hks : Keeps [X, X + 1 + 1] W wE) (hkf : Keeps [] w wE) (hl : LA w XH H) (hOI : shT.O W B tI (.slice va N vc) a.ins)
    (hO8 : shA.O W B tA v8 (XH ++ [⟨a.m, a.ow, a.n, a.ep, a.kn, a.rt, a.lu, va, N, vc⟩])) (h0 : W.heap[X]? = some (.cells u0 tR (0, 0))) (h2 : W.heap[X + 1 + 1]? = some (.cells u2 tR (0, 0))) : ∃ Z, shA.R wE v8 Z ∧ LA wE Z (H ++ [a]) := by
  have k1 : ∀ (e : TypeId) (v : Value), e ≠ tR → (∀ b, v.ownBlock = some b → ∃ (cs : Array Value), W.heap[b]? = some (Obj.cells cs e (0, 0))) → ∀ b ∈ [X, X + 1 + 1], v.ownBlock ≠ some b := fun e v he ht b hb hv => by
    obtain ⟨cs, hc⟩ := ht b hv
    simp at hb
    rcases hb with rfl | rfl
    · exact tag_ne h0 hc (Ne.symm he) rfl
    · exact tag_ne h2 hc (Ne.symm he) rfl
  have hI := hOI.keepS hks (k1 tI _ (by decide) hOI.tag)
  have h8 := (hO8.keepS hks (k1 tA _ (by decide) hO8.tag)).r
  exact ⟨_, h8, (hl.ki hkf.ki0).snoc ⟨rfl, rfl, rfl, rfl, rfl, rfl, rfl, ⟨_, hI⟩⟩⟩
theorem O_some {α : Type} {s : Sh α} {w : World} {B e : Nat} {v : Value} {L : List α} (h : s.O w B e v L) (hl : 0 < L.length) : ∃ g cap cur, v = .slice (some ⟨g, 0, none⟩) L.length cap ∧ B ≤ g ∧ w.heap[g]? = some (.cells cur e (0, 0)) ∧ L.length ≤ cap ∧ cur.size = cap * s.sz := by
  rcases h.2 with ⟨_, e⟩ | ⟨g, cap, cur, rfl, h1, h2, h3, _, h5, _⟩
  · omega
  · exact ⟨g, cap, cur, rfl, h1, h2, h3, h5⟩
theorem cells8f {w : World} {b : Nat} {x0 x1 x2 x3 x4 x5 x6 x7 : Value} {t : TypeId} (h : w.heap[b]? = some (.cells #[x0, x1, x2, x3, x4, x5, x6, x7] t (0, 0))) :
    w.cell? ⟨b, 0, none⟩ = some x0 ∧ w.cell? ⟨b, 1, none⟩ = some x1 ∧ w.cell? ⟨b, 2, none⟩ = some x2 ∧ w.cell? ⟨b, 3, none⟩ = some x3 ∧ w.cell? ⟨b, 4, none⟩ = some x4 ∧ w.cell? ⟨b, 5, none⟩ = some x5 ∧ w.cell? ⟨b, 6, none⟩ = some x6 ∧ w.cell? ⟨b, 7, none⟩ = some x7 ∧ (∀ o, w.frozen? ⟨b, o, none⟩ = false) ∧ b < w.heap.size := by
  refine ⟨?_, ?_, ?_, ?_, ?_, ?_, ?_, ?_, fun o => ?_, lt_of_blk h⟩ <;> simp [World.cell?, World.frozen?, h]
/-- While a trace gathers, its history are the recorded answers. -/
def Tr.HistOk (t : Tr) : Prop := t.state = 0 → ∀ b, b ∈ t.hist ↔ ∃ p ∈ t.rec', p.2 = b
theorem Tr.answerR_eq {t : Tr} {a : Ans} (h : t.HistOk) : t.answerR a = t.answer a := by
  unfold Tr.answerR Tr.answer
  by_cases hs : t.state = 0
  · have he : (t.rec'.any fun p => Ans.odd a.m a.ep p.2) = (t.hist ++ [a]).any (Ans.odd a.m a.ep) := by
      rw [Bool.eq_iff_iff, List.any_eq_true, List.any_eq_true]
      constructor
      · rintro ⟨p, hp, ho⟩
        exact ⟨p.2, List.mem_append_left _ ((h hs p.2).2 ⟨p, hp, rfl⟩), ho⟩
      · rintro ⟨b, hb, ho⟩
        rcases List.mem_append.1 hb with hb | hb
        · obtain ⟨p, hp, rfl⟩ := (h hs b).1 hb
          exact ⟨p, hp, ho⟩
        · rw [List.mem_singleton.1 hb] at ho
          simp [Ans.odd] at ho
    rw [he]
  · rw [if_pos hs, if_pos hs]
end Go.Proofs.Ythfdngjbcgkkfaa
