/- Texts that the laws lean on, in the order in which they build. A trace that is answered out of a table: the plain laws. The claims of a trace whose questions are all answered are closed. Looking for a need with a peer and a number; a machine's claim. The specification's Claims and Claim. The cells of a block; blocks made one after the other. Trace.Certificate. (Printed by mktrcert.py.) A certificate among a law's arguments, opened. Package certificate: increasing, at answers and at claims. Package certificate: increasing at claims, short. Package certificate: formed. The keys of package certificate: stubs, scions, numbers. (Printed by mkctt.py.) The claims that follow from answers, as certificate.claims gathers them (plain). -/
import Derived.Test.YtiplgpefapeapaaKC4
set_option linter.unusedVariables false
set_option linter.unusedSimpArgs false
namespace Go.Proofs.Ytiplgpefapeapaa
open Go.RowKit

/-- The first answer of a table to a question. -/
def lookA (T : List Ans) (q : Qn) : Option Ans := T.find? (fun a => decide (a.q = q))
def ansOf (T : List Ans) (q : Qn) : Ans := (lookA T q).getD ⟨q.1, q.2.1, q.2.2, 0, false, false, 0, []⟩
theorem lookA_some {T : List Ans} {q : Qn} {a : Ans} (h : lookA T q = some a) : a ∈ T ∧ a.q = q := by
  unfold lookA at h
  exact ⟨List.mem_of_find?_eq_some h, by simpa using List.find?_some h⟩
theorem ansOf_q (T : List Ans) (q : Qn) : (ansOf T q).q = q := by
  unfold ansOf
  cases h : lookA T q with
  | none => rfl
  | some a => exact (lookA_some h).2
/-- The questions that lead on from the start. -/
inductive Rch (T : List Ans) (s : Qn) : Qn → Prop
  | start : Rch T s s
  | step {q : Qn} {a : Ans} {x : T3} : Rch T s q → lookA T q = some a → a.kn = true → a.rt = false → x ∈ a.ins → Rch T s (x.1, a.m, x.2.1)
def askq (q : Qn) : T3 := (q.1, q.2.2, q.2.1)
def qask (e : T3) : Qn := (e.1, e.2.2, e.2.1)
theorem qask_askq (q : Qn) : qask (askq q) = q := rfl
theorem askOf_none (q : Qn) : askOf (q, none) = some (askq q) := rfl
theorem askOf_some (q : Qn) (a : Ans) : askOf (q, some a) = none := rfl
theorem ask_setQ {q : Qn} {a : Ans} : ∀ {qs : Qs}, (qs.map (·.1)).Nodup → (q, none) ∈ qs → (qs.filterMap askOf).Perm (askq q :: (setQ q a qs).filterMap askOf)
  | [], _, h => by simp at h
  | (x, u) :: r, hn, h => by
    obtain ⟨h1, h2⟩ := List.nodup_cons.1 hn
    rw [setQ_cons]
    rcases List.mem_cons.1 h with e | hm
    · cases e
      rw [if_pos rfl, setQ_same h1, List.filterMap_cons_some (askOf_none q), List.filterMap_cons_none (askOf_some q a)]
    · have hx : x ≠ q := fun e => h1 (List.mem_map.2 ⟨(q, none), hm, e.symm⟩)
      have ih := ask_setQ (a := a) h2 hm
      rw [if_neg hx]
      cases u with
      | none =>
        rw [List.filterMap_cons_some (askOf_none x), List.filterMap_cons_some (askOf_none x)]
        exact (ih.cons _).trans (List.Perm.swap _ _ _)
      | some b => rw [List.filterMap_cons_none (askOf_some x b), List.filterMap_cons_none (askOf_some x b)]; exact ih
theorem ask_mem {qs : Qs} {e : T3} (h : e ∈ qs.filterMap askOf) : (qask e, none) ∈ qs := by
  obtain ⟨⟨q, u⟩, h1, h2⟩ := List.mem_filterMap.1 h
  cases u with
  | none => rw [askOf_none] at h2; cases h2; exact h1
  | some a => rw [askOf_some] at h2; cases h2
theorem ask_nil {qs : Qs} (h : qs.filterMap askOf = []) : allQ qs = true := by
  unfold allQ
  rw [List.all_eq_true]
  rintro ⟨q, u⟩ hp
  cases u with
  | none =>
    have := List.filterMap_eq_nil_iff.1 h _ hp
    rw [askOf_none] at this; cases this
  | some a => rfl
theorem fold_app (m : Int) : ∀ (l : List T3) (qs : Qs), ∃ N, l.foldl (openQ m) qs = qs ++ N ∧ (∀ p ∈ N, p.2 = none ∧ ∃ x ∈ l, p.1 = (x.1, m, x.2.1)) ∧ N.length ≤ l.length ∧ ∀ x ∈ l, (x.1, m, x.2.1) ∈ (qs ++ N).map (·.1)
  | [], qs => ⟨[], by simp, by simp, by simp, by simp⟩
  | x :: r, qs => by
    rw [List.foldl_cons]
    obtain ⟨N, h1, h2, h3, h4⟩ := fold_app m r (openQ m qs x)
    rw [h1]
    unfold openQ at h4 ⊢
    split
    · rename_i h
      rw [if_pos h] at h4
      refine ⟨N, rfl, fun p hp => ⟨(h2 p hp).1, ?_⟩, by simp; omega, fun y hy => ?_⟩
      · obtain ⟨y, hy, e⟩ := (h2 p hp).2
        exact ⟨y, by simp [hy], e⟩
      · rcases List.mem_cons.1 hy with rfl | hy
        · rw [List.map_append]; exact List.mem_append_left _ h
        · exact h4 y hy
    · rename_i h
      rw [if_neg h] at h4
      refine ⟨((x.1, m, x.2.1), none) :: N, by simp, fun p hp => ?_, by simp; omega, fun y hy => ?_⟩
      · rcases List.mem_cons.1 hp with rfl | hp
        · exact ⟨rfl, x, by simp, rfl⟩
        · obtain ⟨y, hy, e⟩ := (h2 p hp).2
          exact ⟨(h2 p hp).1, y, by simp [hy], e⟩
      · rcases List.mem_cons.1 hy with rfl | hy
        · simp
        · have := h4 y hy
          simpa using this
/-- Some question that leads on is not answered well. -/
def BadQ (T : List Ans) (s : Qn) : Prop := ∃ q, Rch T s q ∧ ∀ a, lookA T q = some a → a.kn = false ∨ a.rt = true ∨ ∃ b ∈ T, b.m = a.m ∧ b.ep ≠ a.ep
structure FinI (T : List Ans) (s : Qn) (t : Tr) : Prop where
  rch : ∀ q ∈ t.op, Rch T s q
  rc : ∀ p ∈ t.rec', lookA T p.1 = some p.2 ∧ p.2.kn = true ∧ p.2.rt = false
  cl : ∀ p ∈ t.rec', ∀ x ∈ p.2.ins, (x.1, p.2.m, x.2.1) ∈ t.op
  opn : ∀ q ∈ t.op, q = s ∨ ∃ p ∈ t.rec', ∃ x ∈ p.2.ins, q = (x.1, p.2.m, x.2.1)
  hs : s ∈ t.op
  hist : t.state = 0 → ∀ a ∈ t.hist, a ∈ T
  st : (t.state = 0 ∧ allQ t.qs = false) ∨ (t.state = 1 ∧ allQ t.qs = true) ∨ ((t.state = 3 ∨ t.state = 4) ∧ BadQ T s)
  len : t.qs.length ≤ 1 + 5 * t.rec'.length
  hl : t.hist.length ≤ t.rec'.length + 1
  hl0 : t.state = 0 → t.hist.length = t.rec'.length
  ag : t.ag = []
  rf : t.rf = false
  nd : t.op.Nodup
def FinO (t : Tr) (o : List T3) : Prop := ∃ tn : Nat, t.told = tn ∧ tn ≤ t.qs.length ∧ o.Perm ((t.qs.take tn).filterMap askOf)
theorem FinI.new (T : List Ans) (im is : Int) (st : T3) : FinI T (im, st.1, st.2.1) (Tr.new im is st) :=
  ⟨fun q hq => by simp [Tr.op, Tr.new] at hq; subst hq; exact .start, by simp [Tr.rec', Tr.new, recOf], by simp [Tr.rec', Tr.new, recOf], fun q hq => by simp [Tr.op, Tr.new] at hq; exact .inl hq, by simp [Tr.op, Tr.new],
    by simp [Tr.new], .inl ⟨rfl, rfl⟩, by simp [Tr.new], by simp [Tr.new], by simp [Tr.new, Tr.rec', recOf], rfl, rfl, by simp [Tr.op, Tr.new]⟩
theorem FinO.new (im is : Int) (st : T3) : FinO (Tr.new im is st) [] := ⟨0, rfl, by simp, by simp⟩
/-- Behind the queries. -/
theorem FinO.ask {t : Tr} {o : List T3} (h : FinO t o) (h0 : t.state = 0) : (o ++ t.queries.2).Perm (t.qs.filterMap askOf) ∧ t.queries.1 = { t with told := t.qs.length } := by
  obtain ⟨tn, h1, h2, h3⟩ := h
  have hq : t.queries = ({ t with told := t.qs.length }, (t.qs.drop tn).filterMap askOf) := by unfold Tr.queries; rw [if_neg (by simp [h0]), h1]; rfl
  rw [hq]
  refine ⟨?_, rfl⟩
  have : t.qs.filterMap askOf = (t.qs.take tn).filterMap askOf ++ (t.qs.drop tn).filterMap askOf := by rw [← List.filterMap_append, List.take_append_drop]
  rw [this]
  exact h3.append_right _
theorem FinI.told {T : List Ans} {s : Qn} {t : Tr} (h : FinI T s t) (n : Int) : FinI T s { t with told := n } := ⟨h.rch, h.rc, h.cl, h.opn, h.hs, h.hist, h.st, h.len, h.hl, h.hl0, h.ag, h.rf, h.nd⟩
theorem FinI.ask {T : List Ans} {s : Qn} {t : Tr} (h : FinI T s t) : FinI T s t.queries.1 := by
  unfold Tr.queries
  split
  · exact h
  · exact h.told _
theorem FinI.open_ne {T : List Ans} {s : Qn} {t : Tr} (h : FinI T s t) (h0 : t.state = 0) {o : List T3} (ho : o.Perm (t.qs.filterMap askOf)) : o ≠ [] := fun e => by
  subst e
  have := ask_nil (List.nil_perm.1 ho)
  rcases h.st with ⟨_, h1⟩ | ⟨h1, _⟩ | ⟨h1, _⟩
  · rw [this] at h1; cases h1
  · omega
  · omega
theorem split_at {α : Type} (o : List α) (k : Nat) (hk : k < o.length) : o = o.take k ++ o[k] :: o.drop (k + 1) := by
  rw [← List.drop_eq_getElem_cons hk, List.take_append_drop]
/-- One round. -/
theorem FinI.round {T : List Ans} {s : Qn} {t : Tr} (h : FinI T s t) (h0 : t.state = 0) {o : List T3} (ho : o.Perm (t.qs.filterMap askOf)) (hT : ∀ a ∈ T, a.ins.length ≤ 5) (k : Nat) (hk : k < o.length) (htold : t.told = t.qs.length) :
    isOpen (qask o[k]) t.qs = true ∧ FinI T s (t.answer (ansOf T (qask o[k]))).1 ∧ ((t.answer (ansOf T (qask o[k]))).1.state = 0 → FinO (t.answer (ansOf T (qask o[k]))).1 (o.take k ++ o.drop (k + 1)) ∧ (t.answer (ansOf T (qask o[k]))).1.rec'.length = t.rec'.length + 1) := by
  obtain ⟨q, hq⟩ : ∃ q, qask o[k] = q := ⟨_, rfl⟩
  have hmem : (q, none) ∈ t.qs := by rw [← hq]; exact ask_mem (ho.mem_iff.1 (List.getElem_mem hk))
  have hop : isOpen q t.qs = true := isOpen_mem.2 hmem
  have hqo : q ∈ t.op := List.mem_map.2 ⟨_, hmem, rfl⟩
  have hr := h.rch q hqo
  rw [hq]
  refine ⟨hop, ?_⟩
  obtain ⟨a, ha⟩ : ∃ a, ansOf T q = a := ⟨_, rfl⟩
  have haq : a.q = q := by rw [← ha]; exact ansOf_q T q
  rw [ha]
  unfold Tr.answer
  rw [if_neg (by simp [h0]), haq, if_neg (by simp [hop])]
  have stop : ∀ (sx : Int), sx = 3 ∨ sx = 4 → BadQ T s → FinI T s { t.take a with state := sx } := fun sx hsx hb =>
    ⟨h.rch, h.rc, h.cl, h.opn, h.hs, fun e => by simp at e; omega, .inr (.inr ⟨hsx, hb⟩), h.len, by have := h.hl0 h0; simp [Tr.take, Tr.rec'] at this ⊢; omega, fun e => by simp at e; omega, h.ag, h.rf, h.nd⟩
  have hlook : ∀ b, lookA T q = some b → b = a := fun b hb => by rw [← ha]; unfold ansOf; rw [hb]; rfl
  by_cases hkn : a.kn = false
  · rw [if_pos hkn]
    exact ⟨stop 4 (.inr rfl) ⟨q, hr, fun b hb => .inl (by rw [hlook b hb]; exact hkn)⟩, fun e => by simp at e⟩
  rw [if_neg hkn]
  have hkn : a.kn = true := by simpa using hkn
  by_cases hrt : a.rt = true
  · rw [if_pos hrt]
    exact ⟨stop 3 (.inl rfl) ⟨q, hr, fun b hb => .inr (.inl (by rw [hlook b hb]; exact hrt))⟩, fun e => by simp at e⟩
  rw [if_neg hrt]
  have hrt : a.rt = false := by simpa using hrt
  have hla : lookA T q = some a := by
    unfold ansOf at ha
    cases e : lookA T q with
    | some b => rw [e] at ha; simp at ha; rw [ha]
    | none => rw [e] at ha; simp at ha; rw [← ha] at hkn; simp at hkn
  have haT := (lookA_some hla).1
  by_cases hodd : (t.hist ++ [a]).any (Ans.odd a.m a.ep) = true
  · rw [if_pos hodd]
    refine ⟨stop 4 (.inr rfl) ⟨q, hr, fun b hb => ?_⟩, fun e => by simp at e⟩
    rw [hlook b hb]
    obtain ⟨c, hc, hod⟩ := List.any_eq_true.1 hodd
    have hcT : c ∈ T := by
      rcases List.mem_append.1 hc with hc | hc
      · exact h.hist h0 c hc
      · simp at hc; subst hc; exact haT
    unfold Ans.odd at hod
    simp at hod
    exact .inr (.inr ⟨c, hcT, hod.1, hod.2⟩)
  rw [if_neg hodd]
  obtain ⟨N, n1, n2, n3, n4⟩ := fold_app a.m a.ins (setQ a.q a t.qs)
  have hqs : ((t.take a).put a).qs = setQ a.q a t.qs ++ N := n1
  have hrec : recOf (setQ a.q a t.qs ++ N) = recOf (setQ a.q a t.qs) := by rw [← n1]; exact fold_rec _ _ _
  have hqn : ∀ b, (b ∈ (setQ a.q a t.qs ++ N).map (·.1)) ↔ b ∈ t.op ∨ b ∈ N.map (·.1) := fun b => by rw [List.map_append, setQ_keys, List.mem_append]; rfl
  have hq2 : a.q ∈ t.qs.map (·.1) := by rw [haq]; exact hqo
  have hmemr : ∀ p, p ∈ recOf (setQ a.q a t.qs) ↔ (p.1 = a.q ∧ p.2 = a) ∨ (p.1 ≠ a.q ∧ p ∈ t.rec') := fun ⟨k, b⟩ => by
    rw [recOf_keys, setQ_mem hq2]
    simp only [Option.some.injEq]
    unfold Tr.rec'
    rw [recOf_keys]
  have hlen := setQ_len (a := a) h.nd (show (a.q, none) ∈ t.qs by rw [haq]; exact hmem)
  have hnew : ∀ b ∈ N.map (·.1), ∃ x ∈ a.ins, b = (x.1, a.m, x.2.1) := fun b hb => by
    obtain ⟨p, hp, rfl⟩ := List.mem_map.1 hb
    exact (n2 p hp).2
  have hold : ∀ p ∈ t.rec', p ∈ recOf (setQ a.q a t.qs) := fun p hp => by
    refine (hmemr p).2 (.inr ⟨fun e => ?_, hp⟩)
    obtain ⟨k, b⟩ := p
    have h1 := recOf_keys.1 hp
    simp only at e
    subst e
    have h2 : (a.q, none) ∈ t.qs := by rw [haq]; exact hmem
    have := nd_val h.nd h1 h2
    cases this
  have hself : (a.q, a) ∈ recOf (setQ a.q a t.qs) := (hmemr _).2 (.inl ⟨rfl, rfl⟩)
  have hrl : (setQ a.q a t.qs).length = t.qs.length := by unfold setQ; simp
  have hgen : ∀ (t' : Tr), t'.qs = setQ a.q a t.qs ++ N → t'.hist = t.hist ++ [a] → t'.ag = t.ag → t'.rf = t.rf → ((t'.state = 0 ∧ allQ t'.qs = false) ∨ (t'.state = 1 ∧ allQ t'.qs = true)) → FinI T s t' := by
    intro t' e1 e2 e3 e4 e5
    have hr' : t'.rec' = recOf (setQ a.q a t.qs) := by unfold Tr.rec'; rw [e1, hrec]
    have ho' : ∀ b, b ∈ t'.op ↔ b ∈ t.op ∨ b ∈ N.map (·.1) := fun b => by unfold Tr.op; rw [e1]; exact hqn b
    refine ⟨fun b hb => ?_, fun p hp => ?_, fun p hp x hx => ?_, fun b hb => ?_, ?_, fun _ b hb => ?_, ?_, ?_, ?_, fun _ => ?_, e3.trans h.ag, e4.trans h.rf, ?_⟩
    · rcases (ho' b).1 hb with hb | hb
      · exact h.rch b hb
      · obtain ⟨x, hx, rfl⟩ := hnew b hb
        exact .step hr hla hkn hrt hx
    · rw [hr'] at hp
      rcases (hmemr p).1 hp with ⟨h1, h2⟩ | ⟨_, h2⟩
      · rw [h1, h2, haq]; exact ⟨hla, hkn, hrt⟩
      · exact h.rc p h2
    · rw [hr'] at hp
      refine (ho' _).2 ?_
      rcases (hmemr p).1 hp with ⟨h1, h2⟩ | ⟨_, h2⟩
      · rw [h2] at hx ⊢
        exact (hqn _).1 (n4 x hx)
      · exact .inl (h.cl p h2 x hx)
    · rw [hr']
      rcases (ho' b).1 hb with hb | hb
      · rcases h.opn b hb with e | ⟨p, hp, x, hx, e⟩
        · exact .inl e
        · exact .inr ⟨p, hold p hp, x, hx, e⟩
      · obtain ⟨x, hx, rfl⟩ := hnew b hb
        exact .inr ⟨(a.q, a), hself, x, hx, rfl⟩
    · exact (ho' s).2 (.inl h.hs)
    · rw [e2] at hb
      rcases List.mem_append.1 hb with hb | hb
      · exact h.hist h0 b hb
      · simp at hb; subst hb; exact haT
    · rcases e5 with e5 | e5
      · exact .inl e5
      · exact .inr (.inl e5)
    · rw [hr', hlen, e1, List.length_append, hrl]
      have := h.len
      have := hT a haT
      simp only [Tr.rec'] at *
      omega
    · rw [hr', hlen, e2, List.length_append]
      have := h.hl0 h0
      simp only [Tr.rec'] at *
      simp; omega
    · rw [hr', hlen, e2, List.length_append]
      have := h.hl0 h0
      simp only [Tr.rec'] at *
      simp; omega
    · have : t'.op = (a.ins.foldl (openQ a.m) (setQ a.q a t.qs)).map (·.1) := by unfold Tr.op; rw [e1, n1]
      rw [this]
      exact fold_nd _ _ _ (by rw [setQ_keys]; exact h.nd)
  unfold Tr.close
  by_cases hall : allQ ((t.take a).put a).qs = true
  · rw [if_pos hall]
    exact ⟨hgen _ hqs rfl rfl rfl (.inr ⟨rfl, hall⟩), fun e => by simp at e⟩
  · rw [if_neg hall]
    refine ⟨hgen _ hqs rfl rfl rfl (.inl ⟨h0, by simpa using hall⟩), fun _ => ⟨⟨t.qs.length, htold, by rw [hqs]; simp [hrl], ?_⟩, ?_⟩⟩
    · rw [hqs, ← hrl, List.take_left]
      have p1 := ask_setQ (a := a) h.nd (show (a.q, none) ∈ t.qs by rw [haq]; exact hmem)
      have p2 : o.Perm (o[k] :: (o.take k ++ o.drop (k + 1))) := by
        have := split_at o k hk
        exact (List.Perm.of_eq this).trans List.perm_middle
      have hoq : o[k] = askq a.q := by rw [haq, ← hq]; rfl
      rw [hoq] at p2
      exact (List.perm_cons _).1 ((p2.symm.trans ho).trans p1)
    · show (recOf ((t.take a).put a).qs).length = _
      rw [hqs, hrec, hlen]; rfl
/-- No more answers than the table has. -/
theorem nodup_sub_len {α : Type} [DecidableEq α] : ∀ {l m : List α}, l.Nodup → (∀ x ∈ l, x ∈ m) → l.length ≤ m.length
  | [], _, _, _ => by simp
  | x :: l, m, hn, hs => by
    obtain ⟨h1, h2⟩ := List.nodup_cons.1 hn
    have hx := hs x (by simp)
    have := nodup_sub_len (l := l) (m := m.erase x) h2 (fun y hy => (List.mem_erase_of_ne (fun e => h1 (by rw [← e]; exact hy))).2 (hs y (by simp [hy])))
    have h3 := List.length_erase_of_mem hx
    have h4 := List.length_pos_of_mem hx
    simp; omega
theorem FinI.recLen {T : List Ans} {s : Qn} {t : Tr} (h : FinI T s t) : t.rec'.length ≤ T.length := by
  have h1 : (t.rec'.map (·.1)).Nodup := recOf_nd h.nd
  have h2 := nodup_sub_len (m := T.map Ans.q) h1 (fun q hq => by
    obtain ⟨p, hp, rfl⟩ := List.mem_map.1 hq
    obtain ⟨e1, e2⟩ := lookA_some (h.rc p hp).1
    exact List.mem_map.2 ⟨p.2, e1, e2⟩)
  simpa using h2
/-- What finish gives. -/
structure FinE (T : List Ans) (s : Qn) (t : Tr) : Prop where
  i : FinI T s t
  n0 : t.state ≠ 0
theorem FinE.mem1 {T : List Ans} {s : Qn} {t : Tr} (h : FinE T s t) (h1 : t.state = 1) {q : Qn} (hq : q ∈ t.op) : ∃ a, (q, a) ∈ t.rec' := by
  have hall : allQ t.qs = true := by
    rcases h.i.st with ⟨e, _⟩ | ⟨_, e⟩ | ⟨e, _⟩
    · omega
    · exact e
    · omega
  obtain ⟨⟨q', u⟩, hp, e⟩ := List.mem_map.1 hq
  simp only at e
  subst e
  have := List.all_eq_true.1 hall _ hp
  obtain ⟨a, ha⟩ := Option.isSome_iff_exists.1 this
  simp only at ha
  exact ⟨a, recOf_keys.2 (by rw [← ha]; exact hp)⟩
def Good (T : List Ans) (s : Qn) : Prop := ∀ q, Rch T s q → ∃ a, lookA T q = some a ∧ a.kn = true ∧ a.rt = false
theorem FinE.rch {T : List Ans} {s : Qn} {t : Tr} (h : FinE T s t) (h1 : t.state = 1) : ∀ q, Rch T s q → q ∈ t.op := fun q hq => by
  induction hq with
  | start => exact h.i.hs
  | step hr hl hk hrt hx ih =>
    obtain ⟨b, hb⟩ := h.mem1 h1 ih
    have := (h.i.rc _ hb).1
    rw [hl] at this
    cases this
    exact h.i.cl _ hb _ hx
theorem FinE.good {T : List Ans} {s : Qn} {t : Tr} (h : FinE T s t) (he : ∀ x ∈ T, ∀ y ∈ T, x.m = y.m → x.ep = y.ep) : t.state = 1 ↔ Good T s := by
  constructor
  · intro h1 q hq
    obtain ⟨a, ha⟩ := h.mem1 h1 (h.rch h1 q hq)
    exact ⟨a, h.i.rc _ ha⟩
  · intro hg
    rcases h.i.st with ⟨e, _⟩ | ⟨e, _⟩ | ⟨_, q, hq, hb⟩
    · exact absurd e h.n0
    · exact e
    · obtain ⟨a, h1, h2, h3⟩ := hg q hq
      rcases hb a h1 with e | e | ⟨b, hb, e1, e2⟩
      · rw [h2] at e; cases e
      · rw [h3] at e; cases e
      · exact absurd (he b hb a (lookA_some h1).1 e1) e2
/-- Two orders: the same recorded answers. -/
theorem FinE.perm {T : List Ans} {s : Qn} {t u : Tr} (h : FinE T s t) (g : FinE T s u) (h1 : t.state = 1) (g1 : u.state = 1) : t.rec'.Perm u.rec' := by
  have sub : ∀ {t u : Tr}, FinE T s t → FinE T s u → t.state = 1 → u.state = 1 → ∀ p ∈ t.rec', p ∈ u.rec' := by
    intro t u h g h1 g1 ⟨q, a⟩ hp
    have hq : q ∈ t.op := (recOf_sub t.qs).mem (List.mem_map.2 ⟨_, hp, rfl⟩)
    obtain ⟨b, hb⟩ := g.mem1 g1 (g.rch g1 q (h.i.rch q hq))
    have e1 := (h.i.rc _ hp).1
    have e2 := (g.i.rc _ hb).1
    simp only at e1 e2
    rw [e1] at e2; cases e2
    exact hb
  have n1 : t.rec'.Nodup := (List.pairwise_map.1 (recOf_nd h.i.nd)).imp (fun hne e => hne (by rw [e]))
  have n2 : u.rec'.Nodup := (List.pairwise_map.1 (recOf_nd g.i.nd)).imp (fun hne e => hne (by rw [e]))
  exact (List.perm_ext_iff_of_nodup n1 n2).2 (fun p => ⟨sub h g h1 g1 p, sub g h g1 h1 p⟩)
theorem FinE.claims {T : List Ans} {s : Qn} {t u : Tr} (h : FinE T s t) (g : FinE T s u) (h1 : t.state = 1) (g1 : u.state = 1) {Y Z : List Ans} {P Q : List PCl} (hY : SortedA t Y) (hZ : SortedA u Z) (hP : ClaimsP t Y P) (hQ : ClaimsP u Z Q) : P = Q := by
  have hp := h.perm g h1 g1
  have hZ' : SortedA t Z := ⟨hZ.1.trans (hp.symm.map _), hZ.2⟩
  obtain rfl := hY.uniq hZ'
  refine ClaimsP.uniq hY.2 hP (hQ.congr ?_)
  funext q
  unfold luOf
  rw [show MapS.get q u.rec' = MapS.get q t.rec' from MapS.get_perm (recOf_nd h.i.nd) hp]
end Go.Proofs.Ytiplgpefapeapaa

namespace Go.Proofs.Ytiplgpefapeapaa
open Go.RowKit

def findP (P : List PCl) (m : Int) : PCl := (P.find? (fun c => c.m == m)).getD ⟨0, 0, [], [], []⟩
def hasP (l : List T3) (p : Int) (n : Nat) : Bool := l.any (fun x => x.1 == p && x.2.1 == n)
structure Closed (im : Int) (zz : T3) (P : List PCl) : Prop where
  pos : 0 < P.length
  asc : ∀ k (h1 : k < P.length) (h2 : k + 1 < P.length), P[k].m < P[k + 1].m
  sc : ∀ c ∈ P, ∀ x ∈ c.sc, hasP (findP P x.1).st c.m x.2.1 = true
  st : ∀ c ∈ P, ∀ x ∈ c.st, hasP (findP P x.1).sc c.m x.2.1 = true
  ch : ∀ c ∈ P, ∀ x ∈ c.ch, c.m = im ∧ x.1 = zz.1 ∧ x.2.1 = zz.2.1 ∧ x.2.2 = 0
theorem ClmAt.mem {t : Tr} {Y : List Ans} {c : PCl} {m : Int} (h : ClmAt t Y c m) (e : T3) : (e ∈ c.st ↔ e ∈ stOf (outsOf Y) Y m) ∧ (e ∈ c.sc ↔ e ∈ scOf t Y m) ∧ (e ∈ c.ch ↔ e ∈ chOf (outsOf Y) Y m) :=
  ⟨(h.at' 0 (by omega)).1.mem_iff, (h.at' 1 (by omega)).1.mem_iff, (h.at' 2 (by omega)).1.mem_iff⟩
theorem closedP {T : List Ans} {im : Int} {st : T3} {t : Tr} (h : FinE T (im, st.1, st.2.1) t) (h1 : t.state = 1) {Y : List Ans} {P : List PCl} (hY : SortedA t Y) (hP : ClaimsP t Y P) : Closed im st P := by
  obtain ⟨_, ms1, ms2⟩ := rawOf_eq t (outsOf Y) Y hY.2
  obtain ⟨hl, hat⟩ := hP.at' hY.2
  have hYr : ∀ a, a ∈ Y ↔ (a.q, a) ∈ t.rec' := fun a => by
    rw [hY.1.mem_iff]
    constructor
    · intro ha
      obtain ⟨p, hp, rfl⟩ := List.mem_map.1 ha
      have := (lookA_some (h.i.rc p hp).1).2
      rw [this]; exact hp
    · exact fun ha => List.mem_map.2 ⟨_, ha, rfl⟩
  have hget : ∀ c ∈ P, ClmAt t Y c c.m := fun c hc => by
    obtain ⟨k, hk, rfl⟩ := List.mem_iff_getElem.1 hc
    have := hat k hk (by omega)
    rw [this.m]; exact this
  have hrec : ∀ q ∈ t.op, ∃ b ∈ Y, b.q = q := fun q hq => by
    obtain ⟨b, hb⟩ := h.mem1 h1 hq
    have e := (lookA_some (h.i.rc _ hb).1).2
    simp only at e
    exact ⟨b, (hYr b).2 (by rw [e]; exact hb), e⟩
  have hfind : ∀ a ∈ Y, ClmAt t Y (findP P a.m) a.m := fun a ha => by
    obtain ⟨k, hk, hm⟩ := List.mem_iff_getElem.1 ((ms2 a.m).2 ⟨a, ha, rfl⟩)
    have hc := hat k (by omega) hk
    have hcm : (P[k]'(by omega)).m = a.m := hc.m.trans hm
    unfold findP
    cases hf : P.find? (fun c => c.m == a.m) with
    | none =>
      have := List.find?_eq_none.1 hf _ (List.getElem_mem (by omega : k < P.length))
      simp [hcm] at this
    | some c =>
      have e1 : c.m = a.m := by simpa using List.find?_some hf
      have := hget c (List.mem_of_find?_eq_some hf)
      rw [e1] at this; exact this
  refine ⟨?_, fun k k1 k2 => ?_, fun c hc x hx => ?_, fun c hc x hx => ?_, fun c hc x hx => ?_⟩
  · obtain ⟨b, hb, _⟩ := hrec _ h.i.hs
    have := (ms2 b.m).2 ⟨b, hb, rfl⟩
    rw [hl]
    exact List.length_pos_of_mem this
  · rw [(hat k k1 (by omega)).m, (hat (k + 1) k2 (by omega)).m]
    exact List.pairwise_iff_getElem.1 ms1 _ _ _ _ (by omega)
  · obtain ⟨a, ha, hm, u, hu, rfl⟩ := (scOf_mem _ _ _ _).1 (((hget c hc).mem x).2.1.1 hx)
    obtain ⟨b, hb, hbq⟩ := hrec _ (h.i.cl _ ((hYr a).1 ha) u hu)
    simp only [Ans.q, Prod.mk.injEq] at hbq
    obtain ⟨q1, q2, q3⟩ := hbq
    have hf := hfind b hb
    rw [q1] at hf
    obtain ⟨o, ho⟩ := Option.isSome_iff_exists.1 ((outsOf_some Y (a.m, u.1, u.2.1)).2 ⟨a, ha, u, hu, rfl⟩)
    have : (a.m, u.2.1, o) ∈ (findP P u.1).st := ((hf.mem _).1).2 ((stOf_mem _ _ _ _).2 ⟨b, hb, q1, o, by rw [q2, q3]; exact ho, by rw [q2, q3]⟩)
    unfold hasP
    rw [List.any_eq_true]
    exact ⟨_, this, by simp [scN, hm]⟩
  · obtain ⟨a, ha, hm, o, ho, rfl⟩ := (stOf_mem _ _ _ _).1 (((hget c hc).mem x).1.1 hx)
    obtain ⟨b, hb, u, hu, hk⟩ := (outsOf_some Y _).1 (show (MapS.get (a.ow, c.m, a.n) (outsOf Y)).isSome = true by rw [ho]; rfl)
    simp only [Prod.mk.injEq] at hk
    obtain ⟨q1, q2, q3⟩ := hk
    have hf := hfind b hb
    rw [← q1] at hf
    have : scN t a.ow u ∈ (findP P a.ow).sc := ((hf.mem _).2.1).2 ((scOf_mem _ _ _ _).2 ⟨b, hb, q1.symm, u, hu, rfl⟩)
    unfold hasP
    rw [List.any_eq_true]
    exact ⟨_, this, by simp [scN, q2, q3]⟩
  · obtain ⟨a, ha, hm, hn, rfl⟩ := (chOf_mem _ _ _ _).1 (((hget c hc).mem x).2.2.1 hx)
    have hq : a.q ∈ t.op := (recOf_sub t.qs).mem (List.mem_map.2 ⟨_, (hYr a).1 ha, rfl⟩)
    rcases h.i.opn _ hq with e | ⟨p, hp, u, hu, e⟩
    · simp only [Ans.q, Prod.mk.injEq] at e
      exact ⟨by rw [← hm]; exact e.1, e.2.1, e.2.2, rfl⟩
    · exfalso
      simp only [Ans.q, Prod.mk.injEq] at e
      have hpY : p.2 ∈ Y := hY.1.mem_iff.2 (List.mem_map.2 ⟨_, hp, rfl⟩)
      have := (outsOf_some Y (a.ow, c.m, a.n)).2 ⟨p.2, hpY, u, hu, by rw [← hm, e.1, e.2.1, e.2.2]⟩
      rw [hn] at this; cases this
end Go.Proofs.Ytiplgpefapeapaa

namespace Go.Proofs.Ytiplgpefapeapaa
open Go.RowKit

theorem hasP_no {L : List T3} {p : Int} {n : Nat} (h : ∀ j (hj : j < L.length), ¬ (L[j].1 = p ∧ L[j].2.1 = n)) : hasP L p n = false := by
  unfold hasP
  rw [List.any_eq_false]
  intro x hx
  obtain ⟨j, hj, rfl⟩ := List.mem_iff_getElem.1 hx
  simpa using h j hj
theorem hasP_yes {L : List T3} {p : Int} {n : Nat} {k : Nat} (hk : k < L.length) (h1 : L[k].1 = p) (h2 : L[k].2.1 = n) : hasP L p n = true := by
  unfold hasP
  rw [List.any_eq_true]
  exact ⟨_, List.getElem_mem hk, by simp [h1, h2]⟩
theorem st5 {w : World} {X : Nat} {t : TypeId} {x0 x1 x2 x3 x4 u0 u1 u2 u3 u4 : Value} (h2 : w.heap[X]? = some (.cells #[u0, u1, u2, u3, u4] t (0, 0))) :
    (((((w.setCell ⟨X, 0, none⟩ x0).setCell ⟨X, 1, none⟩ x1).setCell ⟨X, 2, none⟩ x2).setCell ⟨X, 3, none⟩ x3).setCell ⟨X, 4, none⟩ x4).heap[X]? = some (.cells #[x0, x1, x2, x3, x4] t (0, 0)) ∧
    Keeps [X] w (((((w.setCell ⟨X, 0, none⟩ x0).setCell ⟨X, 1, none⟩ x1).setCell ⟨X, 2, none⟩ x2).setCell ⟨X, 3, none⟩ x3).setCell ⟨X, 4, none⟩ x4) := by
  refine ⟨?_, ?_⟩
  · have := setCs (setCs (setCs (setCs (setCs h2 0 x0) 1 x1) 2 x2) 3 x3) 4 x4
    simpa using this
  · refine (((((Keeps.refl _ w).setCell ?_ _).setCell ?_ _).setCell ?_ _).setCell ?_ _).setCell ?_ _ <;> exact .inr (by simp)
theorem findP_at {P : List PCl} {m : Int} {k : Nat} (hk : k < P.length) (hno : ∀ j (hj : j < P.length), j < k → P[j].m ≠ m) (hm : P[k].m = m) : findP P m = P[k] := by
  unfold findP
  have : P.find? (fun c => c.m == m) = some P[k] := List.find?_eq_some_iff_getElem.2 ⟨by simpa using hm, k, hk, rfl, fun j hj => by simpa using hno j (by omega) hj⟩
  rw [this]; rfl
theorem findP_no {P : List PCl} {m : Int} (hno : ∀ j (hj : j < P.length), P[j].m ≠ m) : findP P m = PCl.zero := by
  unfold findP
  have : P.find? (fun c => c.m == m) = none := List.find?_eq_none.2 (fun c hc => by
    obtain ⟨j, hj, rfl⟩ := List.mem_iff_getElem.1 hc
    simpa using hno j hj)
  rw [this]; rfl
def FindPost (w : World) (P : List PCl) (m : Int) (e : Ending) (w' : World) : Prop := ∃ x, e = .returned (clV x) ∧ CR w' x (findP P m) ∧ Keeps [] w w'
end Go.Proofs.Ytiplgpefapeapaa

namespace Go.Proofs.Ytiplgpefapeapaa
open Go.RowKit

/-- The claims of a trace. -/
def Tr.clm (t : Tr) : List PCl := refOf t (outsOf (srtOf t.qs)) (srtOf t.qs)
theorem Tr.clm_eq {t : Tr} (h : t.Inv) {Y : List Ans} {P : List PCl} (hY : SortedA t Y) (hP : ClaimsP t Y P) : P = t.clm := by
  obtain rfl := hY.uniq (srtOf_sorted h)
  exact ClaimsP.uniq hY.2 hP (refOf_claims hY.2)
theorem srtOf_mem {t : Tr} (h : t.Inv) {a : Ans} (ha : a ∈ srtOf t.qs) : a.Ok := by
  obtain ⟨p, hp, rfl⟩ := List.mem_map.1 ((srtOf_sorted h).1.mem_iff.1 ha)
  exact h.ro p hp
theorem srtOf_len {t : Tr} (h : t.Inv) : (srtOf t.qs).length ≤ t.qs.length := by
  rw [(srtOf_sorted h).1.length_eq, List.length_map]
  exact (rec_len t.qs).1
def Tr.clms (t : Tr) : List PCl := if t.shown then t.clm else []
def ClaimRP (w : World) (t : Tr) (e : Ending) (w' : World) : Prop :=
  ∃ (x : ClV) (p : PCl), e = .returned (.tuple #[clV x, .bool (t.state == 1)]) ∧ CR w' x p ∧ Keeps [] w w' ∧ ((t.state ≠ 1 ∧ p = PCl.zero) ∨ (t.state = 1 ∧ t.clm[t.ag.length]? = some p))
end Go.Proofs.Ytiplgpefapeapaa

namespace Go.Proofs.Ytiplgpefapeapaa
open Go.RowKit

theorem cl1 {w : World} {b : Nat} {x0 : Value} {t : TypeId} (h : w.heap[b]? = some (.cells #[x0] t (0, 0))) :
    w.cell? ⟨b, 0, none⟩ = some x0 ∧ (∀ o, w.frozen? ⟨b, o, none⟩ = false) ∧ b < w.heap.size := by
  refine ⟨?_, fun o => ?_, (Array.getElem?_eq_some_iff.1 h).1⟩ <;> simp [World.cell?, World.frozen?, h]
theorem cl2 {w : World} {b : Nat} {x0 x1 : Value} {t : TypeId} (h : w.heap[b]? = some (.cells #[x0, x1] t (0, 0))) :
    w.cell? ⟨b, 0, none⟩ = some x0 ∧ w.cell? ⟨b, 1, none⟩ = some x1 ∧ (∀ o, w.frozen? ⟨b, o, none⟩ = false) ∧ b < w.heap.size := by
  refine ⟨?_, ?_, fun o => ?_, (Array.getElem?_eq_some_iff.1 h).1⟩ <;> simp [World.cell?, World.frozen?, h]
theorem cl3 {w : World} {b : Nat} {x0 x1 x2 : Value} {t : TypeId} (h : w.heap[b]? = some (.cells #[x0, x1, x2] t (0, 0))) :
    w.cell? ⟨b, 0, none⟩ = some x0 ∧ w.cell? ⟨b, 1, none⟩ = some x1 ∧ w.cell? ⟨b, 2, none⟩ = some x2 ∧ (∀ o, w.frozen? ⟨b, o, none⟩ = false) ∧ b < w.heap.size := by
  refine ⟨?_, ?_, ?_, fun o => ?_, (Array.getElem?_eq_some_iff.1 h).1⟩ <;> simp [World.cell?, World.frozen?, h]
theorem cl4 {w : World} {b : Nat} {x0 x1 x2 x3 : Value} {t : TypeId} (h : w.heap[b]? = some (.cells #[x0, x1, x2, x3] t (0, 0))) :
    w.cell? ⟨b, 0, none⟩ = some x0 ∧ w.cell? ⟨b, 1, none⟩ = some x1 ∧ w.cell? ⟨b, 2, none⟩ = some x2 ∧ w.cell? ⟨b, 3, none⟩ = some x3 ∧ (∀ o, w.frozen? ⟨b, o, none⟩ = false) ∧ b < w.heap.size := by
  refine ⟨?_, ?_, ?_, ?_, fun o => ?_, (Array.getElem?_eq_some_iff.1 h).1⟩ <;> simp [World.cell?, World.frozen?, h]
theorem cl5 {w : World} {b : Nat} {x0 x1 x2 x3 x4 : Value} {t : TypeId} (h : w.heap[b]? = some (.cells #[x0, x1, x2, x3, x4] t (0, 0))) :
    w.cell? ⟨b, 0, none⟩ = some x0 ∧ w.cell? ⟨b, 1, none⟩ = some x1 ∧ w.cell? ⟨b, 2, none⟩ = some x2 ∧ w.cell? ⟨b, 3, none⟩ = some x3 ∧ w.cell? ⟨b, 4, none⟩ = some x4 ∧ (∀ o, w.frozen? ⟨b, o, none⟩ = false) ∧ b < w.heap.size := by
  refine ⟨?_, ?_, ?_, ?_, ?_, fun o => ?_, (Array.getElem?_eq_some_iff.1 h).1⟩ <;> simp [World.cell?, World.frozen?, h]
theorem cl6 {w : World} {b : Nat} {x0 x1 x2 x3 x4 x5 : Value} {t : TypeId} (h : w.heap[b]? = some (.cells #[x0, x1, x2, x3, x4, x5] t (0, 0))) :
    w.cell? ⟨b, 0, none⟩ = some x0 ∧ w.cell? ⟨b, 1, none⟩ = some x1 ∧ w.cell? ⟨b, 2, none⟩ = some x2 ∧ w.cell? ⟨b, 3, none⟩ = some x3 ∧ w.cell? ⟨b, 4, none⟩ = some x4 ∧ w.cell? ⟨b, 5, none⟩ = some x5 ∧ (∀ o, w.frozen? ⟨b, o, none⟩ = false) ∧ b < w.heap.size := by
  refine ⟨?_, ?_, ?_, ?_, ?_, ?_, fun o => ?_, (Array.getElem?_eq_some_iff.1 h).1⟩ <;> simp [World.cell?, World.frozen?, h]
theorem cl7 {w : World} {b : Nat} {x0 x1 x2 x3 x4 x5 x6 : Value} {t : TypeId} (h : w.heap[b]? = some (.cells #[x0, x1, x2, x3, x4, x5, x6] t (0, 0))) :
    w.cell? ⟨b, 0, none⟩ = some x0 ∧ w.cell? ⟨b, 1, none⟩ = some x1 ∧ w.cell? ⟨b, 2, none⟩ = some x2 ∧ w.cell? ⟨b, 3, none⟩ = some x3 ∧ w.cell? ⟨b, 4, none⟩ = some x4 ∧ w.cell? ⟨b, 5, none⟩ = some x5 ∧ w.cell? ⟨b, 6, none⟩ = some x6 ∧ (∀ o, w.frozen? ⟨b, o, none⟩ = false) ∧ b < w.heap.size := by
  refine ⟨?_, ?_, ?_, ?_, ?_, ?_, ?_, fun o => ?_, (Array.getElem?_eq_some_iff.1 h).1⟩ <;> simp [World.cell?, World.frozen?, h]
theorem cl8 {w : World} {b : Nat} {x0 x1 x2 x3 x4 x5 x6 x7 : Value} {t : TypeId} (h : w.heap[b]? = some (.cells #[x0, x1, x2, x3, x4, x5, x6, x7] t (0, 0))) :
    w.cell? ⟨b, 0, none⟩ = some x0 ∧ w.cell? ⟨b, 1, none⟩ = some x1 ∧ w.cell? ⟨b, 2, none⟩ = some x2 ∧ w.cell? ⟨b, 3, none⟩ = some x3 ∧ w.cell? ⟨b, 4, none⟩ = some x4 ∧ w.cell? ⟨b, 5, none⟩ = some x5 ∧ w.cell? ⟨b, 6, none⟩ = some x6 ∧ w.cell? ⟨b, 7, none⟩ = some x7 ∧ (∀ o, w.frozen? ⟨b, o, none⟩ = false) ∧ b < w.heap.size := by
  refine ⟨?_, ?_, ?_, ?_, ?_, ?_, ?_, ?_, fun o => ?_, (Array.getElem?_eq_some_iff.1 h).1⟩ <;> simp [World.cell?, World.frozen?, h]
theorem cl9 {w : World} {b : Nat} {x0 x1 x2 x3 x4 x5 x6 x7 x8 : Value} {t : TypeId} (h : w.heap[b]? = some (.cells #[x0, x1, x2, x3, x4, x5, x6, x7, x8] t (0, 0))) :
    w.cell? ⟨b, 0, none⟩ = some x0 ∧ w.cell? ⟨b, 1, none⟩ = some x1 ∧ w.cell? ⟨b, 2, none⟩ = some x2 ∧ w.cell? ⟨b, 3, none⟩ = some x3 ∧ w.cell? ⟨b, 4, none⟩ = some x4 ∧ w.cell? ⟨b, 5, none⟩ = some x5 ∧ w.cell? ⟨b, 6, none⟩ = some x6 ∧ w.cell? ⟨b, 7, none⟩ = some x7 ∧ w.cell? ⟨b, 8, none⟩ = some x8 ∧ (∀ o, w.frozen? ⟨b, o, none⟩ = false) ∧ b < w.heap.size := by
  refine ⟨?_, ?_, ?_, ?_, ?_, ?_, ?_, ?_, ?_, fun o => ?_, (Array.getElem?_eq_some_iff.1 h).1⟩ <;> simp [World.cell?, World.frozen?, h]
theorem cl10 {w : World} {b : Nat} {x0 x1 x2 x3 x4 x5 x6 x7 x8 x9 : Value} {t : TypeId} (h : w.heap[b]? = some (.cells #[x0, x1, x2, x3, x4, x5, x6, x7, x8, x9] t (0, 0))) :
    w.cell? ⟨b, 0, none⟩ = some x0 ∧ w.cell? ⟨b, 1, none⟩ = some x1 ∧ w.cell? ⟨b, 2, none⟩ = some x2 ∧ w.cell? ⟨b, 3, none⟩ = some x3 ∧ w.cell? ⟨b, 4, none⟩ = some x4 ∧ w.cell? ⟨b, 5, none⟩ = some x5 ∧ w.cell? ⟨b, 6, none⟩ = some x6 ∧ w.cell? ⟨b, 7, none⟩ = some x7 ∧ w.cell? ⟨b, 8, none⟩ = some x8 ∧ w.cell? ⟨b, 9, none⟩ = some x9 ∧ (∀ o, w.frozen? ⟨b, o, none⟩ = false) ∧ b < w.heap.size := by
  refine ⟨?_, ?_, ?_, ?_, ?_, ?_, ?_, ?_, ?_, ?_, fun o => ?_, (Array.getElem?_eq_some_iff.1 h).1⟩ <;> simp [World.cell?, World.frozen?, h]
theorem cl11 {w : World} {b : Nat} {x0 x1 x2 x3 x4 x5 x6 x7 x8 x9 x10 : Value} {t : TypeId} (h : w.heap[b]? = some (.cells #[x0, x1, x2, x3, x4, x5, x6, x7, x8, x9, x10] t (0, 0))) :
    w.cell? ⟨b, 0, none⟩ = some x0 ∧ w.cell? ⟨b, 1, none⟩ = some x1 ∧ w.cell? ⟨b, 2, none⟩ = some x2 ∧ w.cell? ⟨b, 3, none⟩ = some x3 ∧ w.cell? ⟨b, 4, none⟩ = some x4 ∧ w.cell? ⟨b, 5, none⟩ = some x5 ∧ w.cell? ⟨b, 6, none⟩ = some x6 ∧ w.cell? ⟨b, 7, none⟩ = some x7 ∧ w.cell? ⟨b, 8, none⟩ = some x8 ∧ w.cell? ⟨b, 9, none⟩ = some x9 ∧ w.cell? ⟨b, 10, none⟩ = some x10 ∧ (∀ o, w.frozen? ⟨b, o, none⟩ = false) ∧ b < w.heap.size := by
  refine ⟨?_, ?_, ?_, ?_, ?_, ?_, ?_, ?_, ?_, ?_, ?_, fun o => ?_, (Array.getElem?_eq_some_iff.1 h).1⟩ <;> simp [World.cell?, World.frozen?, h]
theorem cl12 {w : World} {b : Nat} {x0 x1 x2 x3 x4 x5 x6 x7 x8 x9 x10 x11 : Value} {t : TypeId} (h : w.heap[b]? = some (.cells #[x0, x1, x2, x3, x4, x5, x6, x7, x8, x9, x10, x11] t (0, 0))) :
    w.cell? ⟨b, 0, none⟩ = some x0 ∧ w.cell? ⟨b, 1, none⟩ = some x1 ∧ w.cell? ⟨b, 2, none⟩ = some x2 ∧ w.cell? ⟨b, 3, none⟩ = some x3 ∧ w.cell? ⟨b, 4, none⟩ = some x4 ∧ w.cell? ⟨b, 5, none⟩ = some x5 ∧ w.cell? ⟨b, 6, none⟩ = some x6 ∧ w.cell? ⟨b, 7, none⟩ = some x7 ∧ w.cell? ⟨b, 8, none⟩ = some x8 ∧ w.cell? ⟨b, 9, none⟩ = some x9 ∧ w.cell? ⟨b, 10, none⟩ = some x10 ∧ w.cell? ⟨b, 11, none⟩ = some x11 ∧ (∀ o, w.frozen? ⟨b, o, none⟩ = false) ∧ b < w.heap.size := by
  refine ⟨?_, ?_, ?_, ?_, ?_, ?_, ?_, ?_, ?_, ?_, ?_, ?_, fun o => ?_, (Array.getElem?_eq_some_iff.1 h).1⟩ <;> simp [World.cell?, World.frozen?, h]
theorem cl13 {w : World} {b : Nat} {x0 x1 x2 x3 x4 x5 x6 x7 x8 x9 x10 x11 x12 : Value} {t : TypeId} (h : w.heap[b]? = some (.cells #[x0, x1, x2, x3, x4, x5, x6, x7, x8, x9, x10, x11, x12] t (0, 0))) :
    w.cell? ⟨b, 0, none⟩ = some x0 ∧ w.cell? ⟨b, 1, none⟩ = some x1 ∧ w.cell? ⟨b, 2, none⟩ = some x2 ∧ w.cell? ⟨b, 3, none⟩ = some x3 ∧ w.cell? ⟨b, 4, none⟩ = some x4 ∧ w.cell? ⟨b, 5, none⟩ = some x5 ∧ w.cell? ⟨b, 6, none⟩ = some x6 ∧ w.cell? ⟨b, 7, none⟩ = some x7 ∧ w.cell? ⟨b, 8, none⟩ = some x8 ∧ w.cell? ⟨b, 9, none⟩ = some x9 ∧ w.cell? ⟨b, 10, none⟩ = some x10 ∧ w.cell? ⟨b, 11, none⟩ = some x11 ∧ w.cell? ⟨b, 12, none⟩ = some x12 ∧ (∀ o, w.frozen? ⟨b, o, none⟩ = false) ∧ b < w.heap.size := by
  refine ⟨?_, ?_, ?_, ?_, ?_, ?_, ?_, ?_, ?_, ?_, ?_, ?_, ?_, fun o => ?_, (Array.getElem?_eq_some_iff.1 h).1⟩ <;> simp [World.cell?, World.frozen?, h]
theorem cl14 {w : World} {b : Nat} {x0 x1 x2 x3 x4 x5 x6 x7 x8 x9 x10 x11 x12 x13 : Value} {t : TypeId} (h : w.heap[b]? = some (.cells #[x0, x1, x2, x3, x4, x5, x6, x7, x8, x9, x10, x11, x12, x13] t (0, 0))) :
    w.cell? ⟨b, 0, none⟩ = some x0 ∧ w.cell? ⟨b, 1, none⟩ = some x1 ∧ w.cell? ⟨b, 2, none⟩ = some x2 ∧ w.cell? ⟨b, 3, none⟩ = some x3 ∧ w.cell? ⟨b, 4, none⟩ = some x4 ∧ w.cell? ⟨b, 5, none⟩ = some x5 ∧ w.cell? ⟨b, 6, none⟩ = some x6 ∧ w.cell? ⟨b, 7, none⟩ = some x7 ∧ w.cell? ⟨b, 8, none⟩ = some x8 ∧ w.cell? ⟨b, 9, none⟩ = some x9 ∧ w.cell? ⟨b, 10, none⟩ = some x10 ∧ w.cell? ⟨b, 11, none⟩ = some x11 ∧ w.cell? ⟨b, 12, none⟩ = some x12 ∧ w.cell? ⟨b, 13, none⟩ = some x13 ∧ (∀ o, w.frozen? ⟨b, o, none⟩ = false) ∧ b < w.heap.size := by
  refine ⟨?_, ?_, ?_, ?_, ?_, ?_, ?_, ?_, ?_, ?_, ?_, ?_, ?_, ?_, fun o => ?_, (Array.getElem?_eq_some_iff.1 h).1⟩ <;> simp [World.cell?, World.frozen?, h]
theorem blks2 (w : World) (A0 A1 : Obj) : ((w.alloc A0).alloc A1).heap[w.heap.size]? = some A0 ∧ ((w.alloc A0).alloc A1).heap[w.heap.size + 1]? = some A1 ∧ Keeps [] w ((w.alloc A0).alloc A1) ∧ ((w.alloc A0).alloc A1).heap.size = w.heap.size + 1 + 1 := by
  have h0 := heap_alloc_new w A0
  have h1 := heap_alloc_new (w.alloc A0) A1
  rw [show (w.alloc A0).heap.size = w.heap.size + 1 by simp] at h1
  exact ⟨(((Keeps.refl [] (w.alloc A0)).alloc A1).block _ (Array.getElem?_eq_some_iff.1 h0).1 (by simp)).trans h0, ((Keeps.refl [] ((w.alloc A0).alloc A1)).block _ (Array.getElem?_eq_some_iff.1 h1).1 (by simp)).trans h1, (((Keeps.refl [] w).alloc A0).alloc A1), by simp⟩
theorem blks3 (w : World) (A0 A1 A2 : Obj) : (((w.alloc A0).alloc A1).alloc A2).heap[w.heap.size]? = some A0 ∧ (((w.alloc A0).alloc A1).alloc A2).heap[w.heap.size + 1]? = some A1 ∧ (((w.alloc A0).alloc A1).alloc A2).heap[w.heap.size + 1 + 1]? = some A2 ∧ Keeps [] w (((w.alloc A0).alloc A1).alloc A2) ∧ (((w.alloc A0).alloc A1).alloc A2).heap.size = w.heap.size + 1 + 1 + 1 := by
  have h0 := heap_alloc_new w A0
  have h1 := heap_alloc_new (w.alloc A0) A1
  rw [show (w.alloc A0).heap.size = w.heap.size + 1 by simp] at h1
  have h2 := heap_alloc_new ((w.alloc A0).alloc A1) A2
  rw [show ((w.alloc A0).alloc A1).heap.size = w.heap.size + 1 + 1 by simp] at h2
  exact ⟨((((Keeps.refl [] (w.alloc A0)).alloc A1).alloc A2).block _ (Array.getElem?_eq_some_iff.1 h0).1 (by simp)).trans h0, (((Keeps.refl [] ((w.alloc A0).alloc A1)).alloc A2).block _ (Array.getElem?_eq_some_iff.1 h1).1 (by simp)).trans h1, ((Keeps.refl [] (((w.alloc A0).alloc A1).alloc A2)).block _ (Array.getElem?_eq_some_iff.1 h2).1 (by simp)).trans h2, ((((Keeps.refl [] w).alloc A0).alloc A1).alloc A2), by simp⟩
theorem blks4 (w : World) (A0 A1 A2 A3 : Obj) : ((((w.alloc A0).alloc A1).alloc A2).alloc A3).heap[w.heap.size]? = some A0 ∧ ((((w.alloc A0).alloc A1).alloc A2).alloc A3).heap[w.heap.size + 1]? = some A1 ∧ ((((w.alloc A0).alloc A1).alloc A2).alloc A3).heap[w.heap.size + 1 + 1]? = some A2 ∧ ((((w.alloc A0).alloc A1).alloc A2).alloc A3).heap[w.heap.size + 1 + 1 + 1]? = some A3 ∧ Keeps [] w ((((w.alloc A0).alloc A1).alloc A2).alloc A3) ∧ ((((w.alloc A0).alloc A1).alloc A2).alloc A3).heap.size = w.heap.size + 1 + 1 + 1 + 1 := by
  have h0 := heap_alloc_new w A0
  have h1 := heap_alloc_new (w.alloc A0) A1
  rw [show (w.alloc A0).heap.size = w.heap.size + 1 by simp] at h1
  have h2 := heap_alloc_new ((w.alloc A0).alloc A1) A2
  rw [show ((w.alloc A0).alloc A1).heap.size = w.heap.size + 1 + 1 by simp] at h2
  have h3 := heap_alloc_new (((w.alloc A0).alloc A1).alloc A2) A3
  rw [show (((w.alloc A0).alloc A1).alloc A2).heap.size = w.heap.size + 1 + 1 + 1 by simp] at h3
  exact ⟨(((((Keeps.refl [] (w.alloc A0)).alloc A1).alloc A2).alloc A3).block _ (Array.getElem?_eq_some_iff.1 h0).1 (by simp)).trans h0, ((((Keeps.refl [] ((w.alloc A0).alloc A1)).alloc A2).alloc A3).block _ (Array.getElem?_eq_some_iff.1 h1).1 (by simp)).trans h1, (((Keeps.refl [] (((w.alloc A0).alloc A1).alloc A2)).alloc A3).block _ (Array.getElem?_eq_some_iff.1 h2).1 (by simp)).trans h2, ((Keeps.refl [] ((((w.alloc A0).alloc A1).alloc A2).alloc A3)).block _ (Array.getElem?_eq_some_iff.1 h3).1 (by simp)).trans h3, (((((Keeps.refl [] w).alloc A0).alloc A1).alloc A2).alloc A3), by simp⟩
theorem blks5 (w : World) (A0 A1 A2 A3 A4 : Obj) : (((((w.alloc A0).alloc A1).alloc A2).alloc A3).alloc A4).heap[w.heap.size]? = some A0 ∧ (((((w.alloc A0).alloc A1).alloc A2).alloc A3).alloc A4).heap[w.heap.size + 1]? = some A1 ∧ (((((w.alloc A0).alloc A1).alloc A2).alloc A3).alloc A4).heap[w.heap.size + 1 + 1]? = some A2 ∧ (((((w.alloc A0).alloc A1).alloc A2).alloc A3).alloc A4).heap[w.heap.size + 1 + 1 + 1]? = some A3 ∧ (((((w.alloc A0).alloc A1).alloc A2).alloc A3).alloc A4).heap[w.heap.size + 1 + 1 + 1 + 1]? = some A4 ∧ Keeps [] w (((((w.alloc A0).alloc A1).alloc A2).alloc A3).alloc A4) ∧ (((((w.alloc A0).alloc A1).alloc A2).alloc A3).alloc A4).heap.size = w.heap.size + 1 + 1 + 1 + 1 + 1 := by
  have h0 := heap_alloc_new w A0
  have h1 := heap_alloc_new (w.alloc A0) A1
  rw [show (w.alloc A0).heap.size = w.heap.size + 1 by simp] at h1
  have h2 := heap_alloc_new ((w.alloc A0).alloc A1) A2
  rw [show ((w.alloc A0).alloc A1).heap.size = w.heap.size + 1 + 1 by simp] at h2
  have h3 := heap_alloc_new (((w.alloc A0).alloc A1).alloc A2) A3
  rw [show (((w.alloc A0).alloc A1).alloc A2).heap.size = w.heap.size + 1 + 1 + 1 by simp] at h3
  have h4 := heap_alloc_new ((((w.alloc A0).alloc A1).alloc A2).alloc A3) A4
  rw [show ((((w.alloc A0).alloc A1).alloc A2).alloc A3).heap.size = w.heap.size + 1 + 1 + 1 + 1 by simp] at h4
  exact ⟨((((((Keeps.refl [] (w.alloc A0)).alloc A1).alloc A2).alloc A3).alloc A4).block _ (Array.getElem?_eq_some_iff.1 h0).1 (by simp)).trans h0, (((((Keeps.refl [] ((w.alloc A0).alloc A1)).alloc A2).alloc A3).alloc A4).block _ (Array.getElem?_eq_some_iff.1 h1).1 (by simp)).trans h1, ((((Keeps.refl [] (((w.alloc A0).alloc A1).alloc A2)).alloc A3).alloc A4).block _ (Array.getElem?_eq_some_iff.1 h2).1 (by simp)).trans h2, (((Keeps.refl [] ((((w.alloc A0).alloc A1).alloc A2).alloc A3)).alloc A4).block _ (Array.getElem?_eq_some_iff.1 h3).1 (by simp)).trans h3, ((Keeps.refl [] (((((w.alloc A0).alloc A1).alloc A2).alloc A3).alloc A4)).block _ (Array.getElem?_eq_some_iff.1 h4).1 (by simp)).trans h4, ((((((Keeps.refl [] w).alloc A0).alloc A1).alloc A2).alloc A3).alloc A4), by simp⟩
theorem sc2 {w : World} {X : Nat} {t : TypeId} {y0 y1 : Value} (x0 x1 : Value) (h : w.heap[X]? = some (.cells #[y0, y1] t (0, 0))) : ((w.setCell ⟨X, 0, none⟩ x0).setCell ⟨X, 1, none⟩ x1).heap[X]? = some (.cells #[x0, x1] t (0, 0)) ∧ Keeps [X] w ((w.setCell ⟨X, 0, none⟩ x0).setCell ⟨X, 1, none⟩ x1) := by
  refine ⟨by simp [World.setCell, Array.getElem?_modify, h], ?_⟩
  refine ((Keeps.refl _ w).setCell ?_ _).setCell ?_ _ <;> exact .inr (by simp)
theorem sc3 {w : World} {X : Nat} {t : TypeId} {y0 y1 y2 : Value} (x0 x1 x2 : Value) (h : w.heap[X]? = some (.cells #[y0, y1, y2] t (0, 0))) : (((w.setCell ⟨X, 0, none⟩ x0).setCell ⟨X, 1, none⟩ x1).setCell ⟨X, 2, none⟩ x2).heap[X]? = some (.cells #[x0, x1, x2] t (0, 0)) ∧ Keeps [X] w (((w.setCell ⟨X, 0, none⟩ x0).setCell ⟨X, 1, none⟩ x1).setCell ⟨X, 2, none⟩ x2) := by
  refine ⟨by simp [World.setCell, Array.getElem?_modify, h], ?_⟩
  refine (((Keeps.refl _ w).setCell ?_ _).setCell ?_ _).setCell ?_ _ <;> exact .inr (by simp)
theorem sc4 {w : World} {X : Nat} {t : TypeId} {y0 y1 y2 y3 : Value} (x0 x1 x2 x3 : Value) (h : w.heap[X]? = some (.cells #[y0, y1, y2, y3] t (0, 0))) : ((((w.setCell ⟨X, 0, none⟩ x0).setCell ⟨X, 1, none⟩ x1).setCell ⟨X, 2, none⟩ x2).setCell ⟨X, 3, none⟩ x3).heap[X]? = some (.cells #[x0, x1, x2, x3] t (0, 0)) ∧ Keeps [X] w ((((w.setCell ⟨X, 0, none⟩ x0).setCell ⟨X, 1, none⟩ x1).setCell ⟨X, 2, none⟩ x2).setCell ⟨X, 3, none⟩ x3) := by
  refine ⟨by simp [World.setCell, Array.getElem?_modify, h], ?_⟩
  refine ((((Keeps.refl _ w).setCell ?_ _).setCell ?_ _).setCell ?_ _).setCell ?_ _ <;> exact .inr (by simp)
theorem sc5 {w : World} {X : Nat} {t : TypeId} {y0 y1 y2 y3 y4 : Value} (x0 x1 x2 x3 x4 : Value) (h : w.heap[X]? = some (.cells #[y0, y1, y2, y3, y4] t (0, 0))) : (((((w.setCell ⟨X, 0, none⟩ x0).setCell ⟨X, 1, none⟩ x1).setCell ⟨X, 2, none⟩ x2).setCell ⟨X, 3, none⟩ x3).setCell ⟨X, 4, none⟩ x4).heap[X]? = some (.cells #[x0, x1, x2, x3, x4] t (0, 0)) ∧ Keeps [X] w (((((w.setCell ⟨X, 0, none⟩ x0).setCell ⟨X, 1, none⟩ x1).setCell ⟨X, 2, none⟩ x2).setCell ⟨X, 3, none⟩ x3).setCell ⟨X, 4, none⟩ x4) := by
  refine ⟨by simp [World.setCell, Array.getElem?_modify, h], ?_⟩
  refine (((((Keeps.refl _ w).setCell ?_ _).setCell ?_ _).setCell ?_ _).setCell ?_ _).setCell ?_ _ <;> exact .inr (by simp)
theorem sc6 {w : World} {X : Nat} {t : TypeId} {y0 y1 y2 y3 y4 y5 : Value} (x0 x1 x2 x3 x4 x5 : Value) (h : w.heap[X]? = some (.cells #[y0, y1, y2, y3, y4, y5] t (0, 0))) : ((((((w.setCell ⟨X, 0, none⟩ x0).setCell ⟨X, 1, none⟩ x1).setCell ⟨X, 2, none⟩ x2).setCell ⟨X, 3, none⟩ x3).setCell ⟨X, 4, none⟩ x4).setCell ⟨X, 5, none⟩ x5).heap[X]? = some (.cells #[x0, x1, x2, x3, x4, x5] t (0, 0)) ∧ Keeps [X] w ((((((w.setCell ⟨X, 0, none⟩ x0).setCell ⟨X, 1, none⟩ x1).setCell ⟨X, 2, none⟩ x2).setCell ⟨X, 3, none⟩ x3).setCell ⟨X, 4, none⟩ x4).setCell ⟨X, 5, none⟩ x5) := by
  refine ⟨by simp [World.setCell, Array.getElem?_modify, h], ?_⟩
  refine ((((((Keeps.refl _ w).setCell ?_ _).setCell ?_ _).setCell ?_ _).setCell ?_ _).setCell ?_ _).setCell ?_ _ <;> exact .inr (by simp)
theorem sc7 {w : World} {X : Nat} {t : TypeId} {y0 y1 y2 y3 y4 y5 y6 : Value} (x0 x1 x2 x3 x4 x5 x6 : Value) (h : w.heap[X]? = some (.cells #[y0, y1, y2, y3, y4, y5, y6] t (0, 0))) : (((((((w.setCell ⟨X, 0, none⟩ x0).setCell ⟨X, 1, none⟩ x1).setCell ⟨X, 2, none⟩ x2).setCell ⟨X, 3, none⟩ x3).setCell ⟨X, 4, none⟩ x4).setCell ⟨X, 5, none⟩ x5).setCell ⟨X, 6, none⟩ x6).heap[X]? = some (.cells #[x0, x1, x2, x3, x4, x5, x6] t (0, 0)) ∧ Keeps [X] w (((((((w.setCell ⟨X, 0, none⟩ x0).setCell ⟨X, 1, none⟩ x1).setCell ⟨X, 2, none⟩ x2).setCell ⟨X, 3, none⟩ x3).setCell ⟨X, 4, none⟩ x4).setCell ⟨X, 5, none⟩ x5).setCell ⟨X, 6, none⟩ x6) := by
  refine ⟨by simp [World.setCell, Array.getElem?_modify, h], ?_⟩
  refine (((((((Keeps.refl _ w).setCell ?_ _).setCell ?_ _).setCell ?_ _).setCell ?_ _).setCell ?_ _).setCell ?_ _).setCell ?_ _ <;> exact .inr (by simp)
theorem sc8 {w : World} {X : Nat} {t : TypeId} {y0 y1 y2 y3 y4 y5 y6 y7 : Value} (x0 x1 x2 x3 x4 x5 x6 x7 : Value) (h : w.heap[X]? = some (.cells #[y0, y1, y2, y3, y4, y5, y6, y7] t (0, 0))) : ((((((((w.setCell ⟨X, 0, none⟩ x0).setCell ⟨X, 1, none⟩ x1).setCell ⟨X, 2, none⟩ x2).setCell ⟨X, 3, none⟩ x3).setCell ⟨X, 4, none⟩ x4).setCell ⟨X, 5, none⟩ x5).setCell ⟨X, 6, none⟩ x6).setCell ⟨X, 7, none⟩ x7).heap[X]? = some (.cells #[x0, x1, x2, x3, x4, x5, x6, x7] t (0, 0)) ∧ Keeps [X] w ((((((((w.setCell ⟨X, 0, none⟩ x0).setCell ⟨X, 1, none⟩ x1).setCell ⟨X, 2, none⟩ x2).setCell ⟨X, 3, none⟩ x3).setCell ⟨X, 4, none⟩ x4).setCell ⟨X, 5, none⟩ x5).setCell ⟨X, 6, none⟩ x6).setCell ⟨X, 7, none⟩ x7) := by
  refine ⟨by simp [World.setCell, Array.getElem?_modify, h], ?_⟩
  refine ((((((((Keeps.refl _ w).setCell ?_ _).setCell ?_ _).setCell ?_ _).setCell ?_ _).setCell ?_ _).setCell ?_ _).setCell ?_ _).setCell ?_ _ <;> exact .inr (by simp)
theorem sc9 {w : World} {X : Nat} {t : TypeId} {y0 y1 y2 y3 y4 y5 y6 y7 y8 : Value} (x0 x1 x2 x3 x4 x5 x6 x7 x8 : Value) (h : w.heap[X]? = some (.cells #[y0, y1, y2, y3, y4, y5, y6, y7, y8] t (0, 0))) : (((((((((w.setCell ⟨X, 0, none⟩ x0).setCell ⟨X, 1, none⟩ x1).setCell ⟨X, 2, none⟩ x2).setCell ⟨X, 3, none⟩ x3).setCell ⟨X, 4, none⟩ x4).setCell ⟨X, 5, none⟩ x5).setCell ⟨X, 6, none⟩ x6).setCell ⟨X, 7, none⟩ x7).setCell ⟨X, 8, none⟩ x8).heap[X]? = some (.cells #[x0, x1, x2, x3, x4, x5, x6, x7, x8] t (0, 0)) ∧ Keeps [X] w (((((((((w.setCell ⟨X, 0, none⟩ x0).setCell ⟨X, 1, none⟩ x1).setCell ⟨X, 2, none⟩ x2).setCell ⟨X, 3, none⟩ x3).setCell ⟨X, 4, none⟩ x4).setCell ⟨X, 5, none⟩ x5).setCell ⟨X, 6, none⟩ x6).setCell ⟨X, 7, none⟩ x7).setCell ⟨X, 8, none⟩ x8) := by
  refine ⟨by simp [World.setCell, Array.getElem?_modify, h], ?_⟩
  refine (((((((((Keeps.refl _ w).setCell ?_ _).setCell ?_ _).setCell ?_ _).setCell ?_ _).setCell ?_ _).setCell ?_ _).setCell ?_ _).setCell ?_ _).setCell ?_ _ <;> exact .inr (by simp)
theorem sc10 {w : World} {X : Nat} {t : TypeId} {y0 y1 y2 y3 y4 y5 y6 y7 y8 y9 : Value} (x0 x1 x2 x3 x4 x5 x6 x7 x8 x9 : Value) (h : w.heap[X]? = some (.cells #[y0, y1, y2, y3, y4, y5, y6, y7, y8, y9] t (0, 0))) : ((((((((((w.setCell ⟨X, 0, none⟩ x0).setCell ⟨X, 1, none⟩ x1).setCell ⟨X, 2, none⟩ x2).setCell ⟨X, 3, none⟩ x3).setCell ⟨X, 4, none⟩ x4).setCell ⟨X, 5, none⟩ x5).setCell ⟨X, 6, none⟩ x6).setCell ⟨X, 7, none⟩ x7).setCell ⟨X, 8, none⟩ x8).setCell ⟨X, 9, none⟩ x9).heap[X]? = some (.cells #[x0, x1, x2, x3, x4, x5, x6, x7, x8, x9] t (0, 0)) ∧ Keeps [X] w ((((((((((w.setCell ⟨X, 0, none⟩ x0).setCell ⟨X, 1, none⟩ x1).setCell ⟨X, 2, none⟩ x2).setCell ⟨X, 3, none⟩ x3).setCell ⟨X, 4, none⟩ x4).setCell ⟨X, 5, none⟩ x5).setCell ⟨X, 6, none⟩ x6).setCell ⟨X, 7, none⟩ x7).setCell ⟨X, 8, none⟩ x8).setCell ⟨X, 9, none⟩ x9) := by
  refine ⟨by simp [World.setCell, Array.getElem?_modify, h], ?_⟩
  refine ((((((((((Keeps.refl _ w).setCell ?_ _).setCell ?_ _).setCell ?_ _).setCell ?_ _).setCell ?_ _).setCell ?_ _).setCell ?_ _).setCell ?_ _).setCell ?_ _).setCell ?_ _ <;> exact .inr (by simp)
theorem sc11 {w : World} {X : Nat} {t : TypeId} {y0 y1 y2 y3 y4 y5 y6 y7 y8 y9 y10 : Value} (x0 x1 x2 x3 x4 x5 x6 x7 x8 x9 x10 : Value) (h : w.heap[X]? = some (.cells #[y0, y1, y2, y3, y4, y5, y6, y7, y8, y9, y10] t (0, 0))) : (((((((((((w.setCell ⟨X, 0, none⟩ x0).setCell ⟨X, 1, none⟩ x1).setCell ⟨X, 2, none⟩ x2).setCell ⟨X, 3, none⟩ x3).setCell ⟨X, 4, none⟩ x4).setCell ⟨X, 5, none⟩ x5).setCell ⟨X, 6, none⟩ x6).setCell ⟨X, 7, none⟩ x7).setCell ⟨X, 8, none⟩ x8).setCell ⟨X, 9, none⟩ x9).setCell ⟨X, 10, none⟩ x10).heap[X]? = some (.cells #[x0, x1, x2, x3, x4, x5, x6, x7, x8, x9, x10] t (0, 0)) ∧ Keeps [X] w (((((((((((w.setCell ⟨X, 0, none⟩ x0).setCell ⟨X, 1, none⟩ x1).setCell ⟨X, 2, none⟩ x2).setCell ⟨X, 3, none⟩ x3).setCell ⟨X, 4, none⟩ x4).setCell ⟨X, 5, none⟩ x5).setCell ⟨X, 6, none⟩ x6).setCell ⟨X, 7, none⟩ x7).setCell ⟨X, 8, none⟩ x8).setCell ⟨X, 9, none⟩ x9).setCell ⟨X, 10, none⟩ x10) := by
  refine ⟨by simp [World.setCell, Array.getElem?_modify, h], ?_⟩
  refine (((((((((((Keeps.refl _ w).setCell ?_ _).setCell ?_ _).setCell ?_ _).setCell ?_ _).setCell ?_ _).setCell ?_ _).setCell ?_ _).setCell ?_ _).setCell ?_ _).setCell ?_ _).setCell ?_ _ <;> exact .inr (by simp)
theorem sc12 {w : World} {X : Nat} {t : TypeId} {y0 y1 y2 y3 y4 y5 y6 y7 y8 y9 y10 y11 : Value} (x0 x1 x2 x3 x4 x5 x6 x7 x8 x9 x10 x11 : Value) (h : w.heap[X]? = some (.cells #[y0, y1, y2, y3, y4, y5, y6, y7, y8, y9, y10, y11] t (0, 0))) : ((((((((((((w.setCell ⟨X, 0, none⟩ x0).setCell ⟨X, 1, none⟩ x1).setCell ⟨X, 2, none⟩ x2).setCell ⟨X, 3, none⟩ x3).setCell ⟨X, 4, none⟩ x4).setCell ⟨X, 5, none⟩ x5).setCell ⟨X, 6, none⟩ x6).setCell ⟨X, 7, none⟩ x7).setCell ⟨X, 8, none⟩ x8).setCell ⟨X, 9, none⟩ x9).setCell ⟨X, 10, none⟩ x10).setCell ⟨X, 11, none⟩ x11).heap[X]? = some (.cells #[x0, x1, x2, x3, x4, x5, x6, x7, x8, x9, x10, x11] t (0, 0)) ∧ Keeps [X] w ((((((((((((w.setCell ⟨X, 0, none⟩ x0).setCell ⟨X, 1, none⟩ x1).setCell ⟨X, 2, none⟩ x2).setCell ⟨X, 3, none⟩ x3).setCell ⟨X, 4, none⟩ x4).setCell ⟨X, 5, none⟩ x5).setCell ⟨X, 6, none⟩ x6).setCell ⟨X, 7, none⟩ x7).setCell ⟨X, 8, none⟩ x8).setCell ⟨X, 9, none⟩ x9).setCell ⟨X, 10, none⟩ x10).setCell ⟨X, 11, none⟩ x11) := by
  refine ⟨by simp [World.setCell, Array.getElem?_modify, h], ?_⟩
  refine ((((((((((((Keeps.refl _ w).setCell ?_ _).setCell ?_ _).setCell ?_ _).setCell ?_ _).setCell ?_ _).setCell ?_ _).setCell ?_ _).setCell ?_ _).setCell ?_ _).setCell ?_ _).setCell ?_ _).setCell ?_ _ <;> exact .inr (by simp)
end Go.Proofs.Ytiplgpefapeapaa

namespace Go.Proofs.Ytiplgpefapeapaa
open Go.RowKit

abbrev tCt : Nat := 30
theorem sizeCt : (Try.prog.info? tCt).map (·.size) = some 7 := by kernel_rfl
theorem load_ct (w : World) (g : Nat) (t : TypeId) (x0 x1 x2 x3 x4 x5 x6 : Value) (f : Nat × Nat) (hg : w.heap[g]? = some (.cells #[x0, x1, x2, x3, x4, x5, x6] t f)) : (loadVar tCt ⟨g, 0, none⟩).run Try.prog w = .ok (.agg #[x0, x1, x2, x3, x4, x5, x6]) w :=
  run_loadVar_row w g t tCt #[x0, x1, x2, x3, x4, x5, x6] f _ hg Try.underlying30 rfl sizeCt
theorem results_ct {fn : Func} {p u : Tmp} (h : fn.results = #[.cell p tCt, .tmp u]) (tmps : Array Value) (w : World) (g : Nat) (t : TypeId) (x0 x1 x2 x3 x4 x5 x6 : Value) (f : Nat × Nat) (hp : tmps.getD p undef = .pointer (some ⟨g, 0, none⟩))
    (hg : w.heap[g]? = some (.cells #[x0, x1, x2, x3, x4, x5, x6] t f)) : (results fn tmps).run Try.prog w = .ok (.tuple #[.agg #[x0, x1, x2, x3, x4, x5, x6], tmps.getD u undef]) w := by
  have hp' : tmps[p]?.getD undef = .pointer (some ⟨g, 0, none⟩) := by simpa using hp
  simp [results, h, hp', asAddr, load_ct w g t x0 x1 x2 x3 x4 x5 x6 f hg]
/-- A certificate as its cells. -/
structure CtV where
  im : Int
  is : Int
  s0 : Int
  s1 : Nat
  s2 : Int
  va : Option Addr × Nat × Nat
  vc : Option Addr × Nat × Nat
def ctV (x : CtV) : Value := .agg #[.int .i64 x.im, .int .i64 x.is, .int .i64 x.s0, .int .u64 x.s1, .int .i64 x.s2, slv x.va, slv x.vc]
/-- What a certificate says: its trace, its start, its answers and its claims. -/
structure CtR (w : World) (x : CtV) (t : Tr) : Prop where
  im : x.im = t.im
  is : x.is = t.is
  s0 : x.s0 = t.st.1
  s1 : x.s1 = t.st.2.1
  s2 : x.s2 = t.st.2.2
  an : ∃ X, shA.R w (slv x.va) X ∧ LA w X (srtOf t.qs)
  cl : LC w (slv x.vc) t.clm
def CertPost (w : World) (t : Tr) (e : Ending) (w' : World) : Prop :=
  Keeps [] w w' ∧ ((t.state ≠ 2 ∧ e = .returned (.tuple #[ctV ⟨0, 0, 0, 0, 0, (none, 0, 0), (none, 0, 0)⟩, .int .i64 9])) ∨ (t.state = 2 ∧ ∃ x, e = .returned (.tuple #[ctV x, .int .i64 0]) ∧ CtR w' x t))
end Go.Proofs.Ytiplgpefapeapaa

namespace Go.Proofs.Ytiplgpefapeapaa
open Go.ChangeShapes Go.WideShapes Go.ChangeAt Go.RowKit

/-- The elements' cells, and what they say, parted. -/
theorem SlR.split {α β : Type} {w : World} {v : Value} {L : List α} (s : Sh β) {Rel : World → List Value → α → Prop} {Q : β → α → Prop} (hR : ∀ cs y, Rel w cs y → ∃ x, cs = s.cf x ∧ Q x y) (h : Gen.SlR Rel s.sz w v L) :
    ∃ X, s.R w v X ∧ X.length = L.length ∧ ∀ (k : Nat) (x : β) (y : α), X[k]? = some x → L[k]? = some y → Q x y := by
  obtain ⟨cs, h1, h2⟩ := h
  by_cases hl : L.length = 0
  · have : L = [] := List.eq_nil_of_length_eq_zero hl
    subst this
    exact ⟨[], Sh.R.of_slR (Rel := fun _ cs x => cs = s.cf x) (fun _ _ h => h) ⟨cs, h1, fun k hk => by simp at hk⟩, rfl, fun k x y h => by simp at h⟩
  haveI : Inhabited β := ⟨(hR _ _ (h2 0 (by omega))).choose⟩
  obtain ⟨f, hf⟩ := Go.Deep.choose_lt (α := β) (n := L.length) (p := fun k x => ∀ (hk : k < L.length), (cs.drop (k * s.sz)).take s.sz = s.cf x ∧ Q x L[k]) (fun k hk => by
    obtain ⟨x, e1, e2⟩ := hR _ _ (h2 k hk)
    exact ⟨x, fun _ => ⟨e1, e2⟩⟩)
  refine ⟨(List.range L.length).map f, Sh.R.of_slR (Rel := fun _ cs x => cs = s.cf x) (fun _ _ h => h) ⟨cs, by simpa using h1, fun k hk => ?_⟩, by simp, fun k x y hx hy => ?_⟩
  · simp at hk
    simpa using (hf k hk hk).1
  · obtain ⟨hk, rfl⟩ := List.getElem?_eq_some_iff.1 hy
    obtain ⟨hk2, rfl⟩ := List.getElem?_eq_some_iff.1 hx
    simpa using (hf k hk hk).2
/-- Numbers that fit. -/
def T3.Fit (x : T3) : Prop := W64 x.1 ∧ x.2.1 < 18446744073709551616 ∧ W64 x.2.2
structure PCl.Fit (p : PCl) : Prop where
  m : W64 p.m
  ep : W64 p.ep
  st : ∀ x ∈ p.st, T3.Fit x
  sc : ∀ x ∈ p.sc, T3.Fit x
  ch : ∀ x ∈ p.ch, T3.Fit x
structure Ct.Fit (c : Ct) : Prop where
  im : W64 c.im
  is : W64 c.is
  st : T3.Fit c.st
  an : ∀ a ∈ c.an, a.Fit
  cl : ∀ p ∈ c.cl, p.Fit
/-- The cells of a certificate say this certificate. -/
structure CtW (w : World) (x : CtV) (c : Ct) : Prop where
  im : x.im = c.im
  is : x.is = c.is
  s0 : x.s0 = c.st.1
  s1 : x.s1 = c.st.2.1
  s2 : x.s2 = c.st.2.2
  an : RdA w (slv x.va) c.an
  cl : LC w (slv x.vc) c.cl
theorem CtW.keeps {w w' : World} {x : CtV} {c : Ct} (h : CtW w x c) (hk : Keeps [] w w') : CtW w' x c := ⟨h.im, h.is, h.s0, h.s1, h.s2, h.an.keeps hk, h.cl.keeps hk⟩
set_option maxRecDepth 100000 in
set_option maxHeartbeats 1000000 in
theorem cs_needs {w : World} {v : Value} (h : Gen.Cs Try.prog w 35 [v]) : ∃ L : List T3, shT.R w v L ∧ ∀ x ∈ L, T3.Fit x := by
  obtain ⟨L, hL, _⟩ := Gen.SlR.open (R := fun _ cs (x : T3) => cs = shT.cf x ∧ T3.Fit x) Try.underlying35 (show Try.prog.cellsOf tN = 3 by kernel_rfl) (by decide) (fun cs hcs => by
    obtain ⟨x, h1, h2⟩ := cs_need hcs
    exact ⟨x, h1, h2⟩) h
  refine ⟨L, Sh.R.of_slR (s := shT) (fun cs x h => h.1) hL, fun x hx => ?_⟩
  obtain ⟨k, hk, rfl⟩ := List.mem_iff_getElem.1 hx
  obtain ⟨cs, _, h2⟩ := hL
  exact (h2 k hk).2
/-- The cells of a claim. -/
def ClC (w : World) (cs : List Value) (p : PCl) : Prop := ∃ x : ClV, cs = x.cs ∧ CR w x p ∧ p.Fit
set_option maxRecDepth 100000 in
set_option maxHeartbeats 1000000 in
theorem cs_claim {w : World} {cs : List Value} (h : Gen.Cs Try.prog w tC cs) : ∃ p, ClC w cs p := by
  obtain ⟨hl, hall⟩ := Gen.Cs.struct Try.underlying37 h
  rw [show Try.prog.cellsOf tC = 5 by kernel_rfl] at hl
  obtain ⟨a, b, c, d, e, rfl⟩ : ∃ a b c d e, cs = [a, b, c, d, e] := by
    match cs, hl with
    | [a, b, c, d, e], _ => exact ⟨a, b, c, d, e, rfl⟩
  have h0 := hall 0 _ rfl
  have h1 := hall 1 _ rfl
  have h2 := hall 2 _ rfl
  have h3 := hall 3 _ rfl
  have h4 := hall 4 _ rfl
  replace h0 : Gen.Cs Try.prog w 3 (([a, b, c, d, e].drop 0).take (Try.prog.cellsOf 3)) := h0
  replace h1 : Gen.Cs Try.prog w 3 (([a, b, c, d, e].drop 1).take (Try.prog.cellsOf 3)) := h1
  replace h2 : Gen.Cs Try.prog w 35 (([a, b, c, d, e].drop 2).take (Try.prog.cellsOf 35)) := h2
  replace h3 : Gen.Cs Try.prog w 35 (([a, b, c, d, e].drop 3).take (Try.prog.cellsOf 35)) := h3
  replace h4 : Gen.Cs Try.prog w 35 (([a, b, c, d, e].drop 4).take (Try.prog.cellsOf 35)) := h4
  rw [show Try.prog.cellsOf 3 = 1 by kernel_rfl] at h0 h1
  rw [show Try.prog.cellsOf 35 = 1 by kernel_rfl] at h2 h3 h4
  obtain ⟨z0, e0, w0⟩ := Gen.Cs.int Try.underlying3 h0
  obtain ⟨z1, e1, w1⟩ := Gen.Cs.int Try.underlying3 h1
  simp at e0 e1 h2 h3 h4
  subst e0 e1
  obtain ⟨L2, g2, f2⟩ := cs_needs h2
  obtain ⟨L3, g3, f3⟩ := cs_needs h3
  obtain ⟨L4, g4, f4⟩ := cs_needs h4
  obtain ⟨x2, k2, rfl, _⟩ := g2.form
  obtain ⟨x3, k3, rfl, _⟩ := g3.form
  obtain ⟨x4, k4, rfl, _⟩ := g4.form
  exact ⟨⟨z0, z1, L2, L3, L4⟩, ⟨z0, z1, (x2, L2.length, k2), (x3, L3.length, k3), (x4, L4.length, k4)⟩, rfl, ⟨rfl, rfl, g2, g3, g4⟩, ⟨w64_wf w0, w64_wf w1, f2, f3, f4⟩⟩
set_option maxRecDepth 100000 in
set_option maxHeartbeats 1000000 in
theorem cs_claims {w : World} {v : Value} (h : Gen.Cs Try.prog w 28 [v]) : ∃ P : List PCl, LC w v P ∧ ∀ p ∈ P, p.Fit := by
  obtain ⟨L, hL, _⟩ := Gen.SlR.open (R := ClC) Try.underlying28 (show Try.prog.cellsOf tC = 5 by kernel_rfl) (by decide) (fun cs hcs => cs_claim hcs) h
  refine ⟨L, ?_, fun p hp => ?_⟩
  · obtain ⟨X, h1, h2, h3⟩ := SlR.split shC (Q := fun x p => CR w x p) (fun cs y ⟨x, e1, e2, _⟩ => ⟨x, e1, e2⟩) hL
    exact ⟨X, h1, h2, h3⟩
  · obtain ⟨k, hk, rfl⟩ := List.mem_iff_getElem.1 hp
    obtain ⟨cs, _, h2⟩ := hL
    obtain ⟨x, _, _, h3⟩ := h2 k hk
    exact h3
set_option maxRecDepth 100000 in
set_option maxHeartbeats 1000000 in
theorem cs_answers {w : World} {v : Value} (h : Gen.Cs Try.prog w 27 [v]) : ∃ Y : List Ans, RdA w v Y ∧ ∀ a ∈ Y, a.Fit := by
  obtain ⟨L, hL, _⟩ := Gen.SlR.open (R := AnC) Try.underlying27 (show Try.prog.cellsOf tA = 8 by kernel_rfl) (by decide) (fun cs hcs => cs_ans hcs) h
  refine ⟨L, ?_, fun p hp => ?_⟩
  · obtain ⟨X, h1, h2, h3⟩ := SlR.split shA (Q := fun x p => InR w x p) (fun cs y ⟨x, e1, e2, _⟩ => ⟨x, e1, e2⟩) hL
    exact ⟨X, h1, h2, h3⟩
  · obtain ⟨k, hk, rfl⟩ := List.mem_iff_getElem.1 hp
    obtain ⟨cs, _, h2⟩ := hL
    obtain ⟨x, _, _, h3⟩ := h2 k hk
    exact h3
set_option maxRecDepth 100000 in
set_option maxHeartbeats 1000000 in
theorem open_cert {H : Type} {enc : TypeId × Value → H} {W : World} {base : Nat} {r : Reach} {v : Value} {d : DataW H} {ps : List MemPlace} (hv : Value.okWide Try.prog W r base tCt v)
    (h : DataW.Trod enc Try.prog W 0 (fun _ => true) true tCt v d ps) : ∃ (x : CtV) (c : Ct), v = ctV x ∧ CtW W x c ∧ c.Fit := by
  have hc := Gen.Cs.of_agg h
  obtain ⟨cs, rfl, _⟩ := okWide_struct Try.underlying30 hv
  obtain ⟨hl, hall⟩ := Gen.Cs.struct Try.underlying30 hc
  rw [show Try.prog.cellsOf tCt = 7 by kernel_rfl] at hl
  replace hl : cs.toList.length = 7 := hl
  obtain ⟨l, hcs⟩ : ∃ l, cs.toList = l := ⟨_, rfl⟩
  rw [hcs] at hl
  have h0 := hall 0 _ rfl
  have h1 := hall 1 _ rfl
  have h2 := hall 2 _ rfl
  have h3 := hall 3 _ rfl
  replace h0 : Gen.Cs Try.prog W 23 ((cs.toList.drop 0).take (Try.prog.cellsOf 23)) := h0
  replace h1 : Gen.Cs Try.prog W tN ((cs.toList.drop 2).take (Try.prog.cellsOf tN)) := h1
  replace h2 : Gen.Cs Try.prog W 27 ((cs.toList.drop 5).take (Try.prog.cellsOf 27)) := h2
  replace h3 : Gen.Cs Try.prog W 28 ((cs.toList.drop 6).take (Try.prog.cellsOf 28)) := h3
  rw [hcs] at h0 h1 h2 h3
  rw [show Try.prog.cellsOf 23 = 2 by kernel_rfl] at h0
  rw [show Try.prog.cellsOf tN = 3 by kernel_rfl] at h1
  rw [show Try.prog.cellsOf 27 = 1 by kernel_rfl] at h2
  rw [show Try.prog.cellsOf 28 = 1 by kernel_rfl] at h3
  obtain ⟨a, b, c, d, e, f, g, rfl⟩ : ∃ a b c d e f g, l = [a, b, c, d, e, f, g] := by
    match l, hl with
    | [a, b, c, d, e, f, g], _ => exact ⟨a, b, c, d, e, f, g, rfl⟩
  obtain ⟨i0, i1, e0, w0, w1⟩ := cs_tid h0
  obtain ⟨s, e1, w2⟩ := cs_need h1
  simp at e0 h2 h3
  obtain ⟨rfl, rfl⟩ := e0
  have e2 : c = .int .i64 s.1 ∧ d = .int .u64 s.2.1 ∧ e = .int .i64 s.2.2 := by simpa [shT] using e1
  obtain ⟨rfl, rfl, rfl⟩ := e2
  obtain ⟨Y, g2, f2⟩ := cs_answers h2
  obtain ⟨P, g3, f3⟩ := cs_claims h3
  obtain ⟨x2, k2, rfl, _⟩ := g2.form
  obtain ⟨x3, k3, rfl, _⟩ := g3.form
  refine ⟨⟨i0, i1, s.1, s.2.1, s.2.2, (x2, Y.length, k2), (x3, P.length, k3)⟩, ⟨i0, i1, s, Y, P⟩, ?_, ⟨rfl, rfl, rfl, rfl, rfl, g2, g3⟩, ⟨w0, w1, w2, f2, f3⟩⟩
  rw [← Array.toArray_toList (xs := cs), hcs]
  rfl
end Go.Proofs.Ytiplgpefapeapaa

namespace Go.Proofs.Ytiplgpefapeapaa
open Go.RowKit

abbrev fnV (f : Nat) : Value := .func (.func f) #[] #[]
theorem cfA_lt (x y : AnV) : cfA x y < 0 ↔ qlt x.q y.q := by
  have := ltA_iff x y
  unfold ltOf at this
  exact decide_eq_decide.1 this
set_option maxRecDepth 100000 in
set_option maxHeartbeats 4000000 in
theorem incA_c (w : World) (v : Value) (Y : List Ans) (h : RdA w v Y) :
    Calls Try.prog 39 #[v, fnV 40] w fun e w' => e = .returned (.bool (incA Y)) ∧ Keeps [] w w' := by
  obtain ⟨a, c, rfl, hlc, hcm⟩ := h.form
  obtain ⟨M, hM⟩ : ∃ N, Y.length = N := ⟨_, rfl⟩
  rw [hM] at hlc ⊢
  have hMm : M ≤ 9223372036854775807 := by unfold maxLen at hcm; omega
  obtain ⟨r, hr⟩ : ∃ r, incA Y = r := ⟨_, rfl⟩
  rw [hr]
  replace h := Lib.hid h
  replace hM := Lib.hid hM
  replace hr := Lib.hid hr
  go_enter Try.func39, Try.ntmps39
  go_wp2
  go_loopw [5] (fun i wr => ∃ k : Nat, i = .int .i64 k ∧ 1 ≤ k ∧ (k ≤ M ∨ k = 1) ∧ Hid (∀ j (hj : j + 1 < Y.length), j + 1 < k → qlt (Y[j]'(by omega)).q Y[j + 1].q) ∧ Hid (Keeps [] w wr)) (fun i _ => M + 1 - (intOf i).toNat)
  case atStart => exact ⟨1, rfl, by omega, .inr rfl, Lib.hid (fun _ _ h => by omega), Lib.hid (Keeps.refl _ _)⟩
  case round =>
    obtain ⟨k, rfl, hk1, hkM, hno, hkw⟩ := hrel
    by_cases hlt : k < M
    · have hlt2 : (k : Int) < M := by omega
      have hkl : k < Y.length := by rw [hM.out]; exact hlt
      obtain ⟨m, hm⟩ : ∃ m, k = m + 1 := ⟨k - 1, by omega⟩
      have hml : m < Y.length := by omega
      have hmM : (m : Int) < M := by omega
      have hwm : IntKind.i64.wrap ((k : Int) - 1) = m := by rw [IntWalk.i64_in _ (by omega)]; omega
      have hkd := hkw.out.drew
      obtain ⟨g, o, c', x, hv, hx, he⟩ := (h.out.keeps hkd).elem hkl
      obtain ⟨g2, o2, c2, y, hv2, hy, he2⟩ := (h.out.keeps hkd).elem hml
      rw [hM.out] at hv hv2
      cases hv
      cases hv2
      have hqx : x.q = Y[k].q := by unfold AnV.q Ans.q; rw [hx.m, hx.ow, hx.n]
      have hqy : y.q = Y[m].q := by unfold AnV.q Ans.q; rw [hy.m, hy.ow, hy.n]
      obtain ⟨C, hC⟩ : ∃ C, cfA y x = C := ⟨_, rfl⟩
      have hcl : C < 0 ↔ qlt Y[m].q Y[k].q := by rw [← hC, cfA_lt, hqx, hqy]
      have hcc := fun W => cmpB_c y x W
      rw [hC] at hcc
      obtain ⟨x0, x1, x2, x3, x4, x5, x6, x7, x8, x9⟩ := x
      obtain ⟨y0, y1, y2, y3, y4, y5, y6, y7, y8, y9⟩ := y
      simp only [aV, AnV.v] at hcc
      have e0 := he 0 _ rfl
      have e1 := he 1 _ rfl
      have e2 := he 2 _ rfl
      have e3 := he 3 _ rfl
      have e4 := he 4 _ rfl
      have e5 := he 5 _ rfl
      have e6 := he 6 _ rfl
      have e7 := he 7 _ rfl
      have f0 := he2 0 _ rfl
      have f1 := he2 1 _ rfl
      have f2 := he2 2 _ rfl
      have f3 := he2 3 _ rfl
      have f4 := he2 4 _ rfl
      have f5 := he2 5 _ rfl
      have f6 := he2 6 _ rfl
      have f7 := he2 7 _ rfl
      simp only [AnV.v, Nat.add_zero] at e0 e1 e2 e3 e4 e5 e6 e7 f0 f1 f2 f3 f4 f5 f6 f7
      replace hcl := Lib.hid hcl
      replace hcc := Lib.hid hcc
      replace hm := Lib.hid hm
      replace hkd := Lib.hid hkd
      clear he he2 hx hy hqx hqy hC
      go_upto_region 4 with fail
      refine Free.wp_region_chain (fun i => i == 10) (fun i => true) (fun _ _ => False) (by kernel_rfl) (by kernel_rfl) (by kernel_rfl) ?_
      generalize wr.drew = wd at *
      (repeat (first | (apply Free.cw_pure rfl rfl; (intro w'; go_simp <;> exact rfl); go_frame) | (apply Free.cw_steady rfl rfl rfl; (intro w' hS; have q0 := Free.sx_cell hS e0 (fun _ _ hT => hT); have q1 := Free.sx_cell hS e1 (fun _ _ hT => hT); have q2 := Free.sx_cell hS e2 (fun _ _ hT => hT); have q3 := Free.sx_cell hS e3 (fun _ _ hT => hT); have q4 := Free.sx_cell hS e4 (fun _ _ hT => hT); have q5 := Free.sx_cell hS e5 (fun _ _ hT => hT); have q6 := Free.sx_cell hS e6 (fun _ _ hT => hT); have q7 := Free.sx_cell hS e7 (fun _ _ hT => hT); have q8 := Free.sx_cell hS f0 (fun _ _ hT => hT); have q9 := Free.sx_cell hS f1 (fun _ _ hT => hT); have q10 := Free.sx_cell hS f2 (fun _ _ hT => hT); have q11 := Free.sx_cell hS f3 (fun _ _ hT => hT); have q12 := Free.sx_cell hS f4 (fun _ _ hT => hT); have q13 := Free.sx_cell hS f5 (fun _ _ hT => hT); have q14 := Free.sx_cell hS f6 (fun _ _ hT => hT); have q15 := Free.sx_cell hS f7 (fun _ _ hT => hT); go_simp <;> exact rfl); go_frame) | (refine Free.cw_skip rfl ?_; go_frame)))
      refine Free.cw_loud rfl rfl (fun K hK => ?_)
      go_wp2_with fail
      refine (hcc.out _).mono ?_
      rintro e w1 ⟨rfl, q, os, rfl⟩
      have hkg := keeps_grow wd q os
      refine hK _ _ rfl (Free.KeepsP.of hkg (by simp)) ?_
      replace hkd := Lib.hid (hkd.out.trans hkg)
      clear hK K hcc hkg
      (repeat (apply Free.cw_pure rfl rfl; (intro w'; go_simp <;> exact rfl); go_frame))
      refine Free.cw_nil ?_
      by_cases hq : C < 0
      · have hd : decide ((0 : Int) ≤ C) = false := by simpa using hq
        have hno2 : ∀ j (hj : j + 1 < Y.length), j + 1 < k + 1 → qlt (Y[j]'(by omega)).q Y[j + 1].q := fun j hj hjk => by
          by_cases e : j + 1 = k
          · have hjm : j = m := by have := hm.out; omega
            subst hjm
            have := hcl.out.1 hq
            simp only [e]
            exact this
          · exact hno.out j hj (by omega)
        replace hno2 := Lib.hid hno2
        go_wp2
        go_roundw
        case rel => exact ⟨k + 1, rfl, by omega, .inl (by omega), hno2, hkd⟩
        case measure => simp [intOf]; omega
      · have hd : decide ((0 : Int) ≤ C) = true := by simpa using hq
        have hf : false = r := by
          rw [← hr.out]
          refine (Bool.eq_false_iff.2 (fun hi => hq (hcl.out.2 ?_))).symm
          have := incA_iff.1 hi m (by have := hm.out; omega)
          have e := hm.out
          subst e
          exact this
        replace hf := Lib.hid hf
        go_wp2
        go_ret
        exact ⟨by rw [← hf.out]; rfl, hkd.out⟩
    · have hlt2 : ¬ ((k : Int) < M) := by omega
      have hf : true = r := by
        rw [← hr.out]
        exact (incA_iff.2 (fun j hj => hno.out j hj (by have := hM.out; omega))).symm
      replace hf := Lib.hid hf
      go_wp2
      go_ret
      exact ⟨by rw [← hf.out]; rfl, hkw.out⟩
end Go.Proofs.Ytiplgpefapeapaa

namespace Go.Proofs.Ytiplgpefapeapaa
open Go.RowKit

set_option maxRecDepth 100000 in
set_option maxHeartbeats 4000000 in
theorem incC_c (w : World) (v : Value) (Y : List PCl) (h : LC w v Y) :
    Calls Try.prog 41 #[v, fnV 42] w fun e w' => e = .returned (.bool (incC Y)) ∧ Keeps [] w w' := by
  obtain ⟨a, c, rfl, hlc, hcm⟩ := h.form
  obtain ⟨M, hM⟩ : ∃ N, Y.length = N := ⟨_, rfl⟩
  rw [hM] at hlc ⊢
  have hMm : M ≤ 9223372036854775807 := by unfold maxLen at hcm; omega
  obtain ⟨r, hr⟩ : ∃ r, incC Y = r := ⟨_, rfl⟩
  rw [hr]
  replace h := Lib.hid h
  replace hM := Lib.hid hM
  replace hr := Lib.hid hr
  go_enter Try.func41, Try.ntmps41
  go_wp2
  go_loopw [5] (fun i wr => ∃ k : Nat, i = .int .i64 k ∧ 1 ≤ k ∧ (k ≤ M ∨ k = 1) ∧ Hid (∀ j (hj : j + 1 < Y.length), j + 1 < k → (Y[j]'(by omega)).m < Y[j + 1].m) ∧ Hid (Keeps [] w wr)) (fun i _ => M + 1 - (intOf i).toNat)
  case atStart => exact ⟨1, rfl, by omega, .inr rfl, Lib.hid (fun _ _ h => by omega), Lib.hid (Keeps.refl _ _)⟩
  case round =>
    obtain ⟨k, rfl, hk1, hkM, hno, hkw⟩ := hrel
    by_cases hlt : k < M
    · have hlt2 : (k : Int) < M := by omega
      have hkl : k < Y.length := by rw [hM.out]; exact hlt
      obtain ⟨m, hm⟩ : ∃ m, k = m + 1 := ⟨k - 1, by omega⟩
      have hml : m < Y.length := by omega
      have hmM : (m : Int) < M := by omega
      have hwm : IntKind.i64.wrap ((k : Int) - 1) = m := by rw [IntWalk.i64_in _ (by omega)]; omega
      have hkd := hkw.out.drew
      obtain ⟨g, o, c', x, hv, hx, e0, e1, e2, e3, e4⟩ := (h.out.keeps hkd).elem hkl
      obtain ⟨g2, o2, c2, y, hv2, hy, f0, f1, f2, f3, f4⟩ := (h.out.keeps hkd).elem hml
      rw [hM.out] at hv hv2
      cases hv
      cases hv2
      have hqx := hx.m
      have hqy := hy.m
      obtain ⟨C, hC⟩ : ∃ C, cI y.m x.m = C := ⟨_, rfl⟩
      have hcl : C < 0 ↔ Y[m].m < Y[k].m := by rw [← hC, cI_lt, hqx, hqy]
      have hcc := fun W => cmpC_c y x W
      rw [hC] at hcc
      obtain ⟨x0, x1, ⟨x2, x3, x4⟩, ⟨x5, x6, x7⟩, ⟨x8, x9, x10⟩⟩ := x
      obtain ⟨y0, y1, ⟨y2, y3, y4⟩, ⟨y5, y6, y7⟩, ⟨y8, y9, y10⟩⟩ := y
      simp only [slv] at hcc e0 e1 e2 e3 e4 f0 f1 f2 f3 f4
      replace hcl := Lib.hid hcl
      replace hcc := Lib.hid hcc
      replace hm := Lib.hid hm
      replace hkd := Lib.hid hkd
      clear hx hy hqx hqy hC
      go_upto_region 4 with fail
      refine Free.wp_region_chain (fun i => i == 10) (fun i => true) (fun _ _ => False) (by kernel_rfl) (by kernel_rfl) (by kernel_rfl) ?_
      generalize wr.drew = wd at *
      (repeat (first | (apply Free.cw_pure rfl rfl; (intro w'; go_simp <;> exact rfl); go_frame) | (apply Free.cw_steady rfl rfl rfl; (intro w' hS; have q0 := Free.sx_cell hS e0 (fun _ _ hT => hT); have q1 := Free.sx_cell hS e1 (fun _ _ hT => hT); have q2 := Free.sx_cell hS e2 (fun _ _ hT => hT); have q3 := Free.sx_cell hS e3 (fun _ _ hT => hT); have q4 := Free.sx_cell hS e4 (fun _ _ hT => hT); have q5 := Free.sx_cell hS f0 (fun _ _ hT => hT); have q6 := Free.sx_cell hS f1 (fun _ _ hT => hT); have q7 := Free.sx_cell hS f2 (fun _ _ hT => hT); have q8 := Free.sx_cell hS f3 (fun _ _ hT => hT); have q9 := Free.sx_cell hS f4 (fun _ _ hT => hT); go_simp <;> exact rfl); go_frame) | (refine Free.cw_skip rfl ?_; go_frame)))
      refine Free.cw_loud rfl rfl (fun K hK => ?_)
      go_wp2_with fail
      refine (hcc.out _).mono ?_
      rintro e w1 ⟨rfl, hkg⟩
      refine hK _ _ rfl (Free.KeepsP.of hkg (by simp)) ?_
      replace hkd := Lib.hid (hkd.out.trans hkg)
      clear hK K hcc hkg
      (repeat (apply Free.cw_pure rfl rfl; (intro w'; go_simp <;> exact rfl); go_frame))
      refine Free.cw_nil ?_
      by_cases hq : C < 0
      · have hd : decide ((0 : Int) ≤ C) = false := by simpa using hq
        have hno2 : ∀ j (hj : j + 1 < Y.length), j + 1 < k + 1 → (Y[j]'(by omega)).m < Y[j + 1].m := fun j hj hjk => by
          by_cases e : j + 1 = k
          · have hjm : j = m := by have := hm.out; omega
            subst hjm
            have := hcl.out.1 hq
            simp only [e]
            exact this
          · exact hno.out j hj (by omega)
        replace hno2 := Lib.hid hno2
        go_wp2
        go_roundw
        case rel => exact ⟨k + 1, rfl, by omega, .inl (by omega), hno2, hkd⟩
        case measure => simp [intOf]; omega
      · have hd : decide ((0 : Int) ≤ C) = true := by simpa using hq
        have hf : false = r := by
          rw [← hr.out]
          refine (Bool.eq_false_iff.2 (fun hi => hq (hcl.out.2 ?_))).symm
          have := incC_iff.1 hi m (by have := hm.out; omega)
          have e := hm.out
          subst e
          exact this
        replace hf := Lib.hid hf
        go_wp2
        go_ret
        exact ⟨by rw [← hf.out]; rfl, hkd.out⟩
    · have hlt2 : ¬ ((k : Int) < M) := by omega
      have hf : true = r := by
        rw [← hr.out]
        exact (incC_iff.2 (fun j hj => hno.out j hj (by have := hM.out; omega))).symm
      replace hf := Lib.hid hf
      go_wp2
      go_ret
      exact ⟨by rw [← hf.out]; rfl, hkw.out⟩
/-- What the walks count on: all lists are short. -/
structure Ct.Few (c : Ct) : Prop where
  an : c.an.length ≤ 1000
  cl : c.cl.length ≤ 1000
  ins : ∀ a ∈ c.an, a.ins.length ≤ 1000
  ns : ∀ p ∈ c.cl, p.st.length ≤ 1000 ∧ p.sc.length ≤ 1000 ∧ p.ch.length ≤ 1000
set_option maxRecDepth 100000 in
set_option maxHeartbeats 4000000 in
theorem short_c (w : World) (x : CtV) (c : Ct) (h : CtW w x c) (hf : c.Few) :
    Calls Try.prog 38 #[ctV x] w fun e w' => e = .returned (.bool true) ∧ Keeps [] w w' := by
  obtain ⟨x0, x1, x2, x3, x4, ⟨x5, x6, x7⟩, ⟨x8, x9, x10⟩⟩ := x
  have han := h.an
  have hcl := h.cl
  have hf1 := hf.an
  have hf2 := hf.cl
  simp only [slv] at han hcl
  obtain ⟨_, _, e1, hla, hca⟩ := han.form
  obtain ⟨_, _, e2, hlc, hcc⟩ := hcl.form
  simp only [Value.slice.injEq] at e1 e2
  obtain ⟨-, e1, -⟩ := e1
  obtain ⟨-, e2, -⟩ := e2
  rw [← e1] at hla hf1
  rw [← e2] at hlc hf2
  have hA := heap_alloc_new w (.cells #[.int .i64 x0, .int .i64 x1, .int .i64 x2, .int .u64 x3, .int .i64 x4, .slice x5 x6 x7, .slice x8 x9 x10] tCt)
  have hkA := (Keeps.refl [] w).alloc (.cells #[.int .i64 x0, .int .i64 x1, .int .i64 x2, .int .u64 x3, .int .i64 x4, .slice x5 x6 x7, .slice x8 x9 x10] tCt)
  have han1 := han.keeps hkA
  have hcl1 := hcl.keeps hkA
  obtain ⟨W, hW⟩ : ∃ W, w.alloc (.cells #[.int .i64 x0, .int .i64 x1, .int .i64 x2, .int .u64 x3, .int .i64 x4, .slice x5 x6 x7, .slice x8 x9 x10] tCt) = W := ⟨_, rfl⟩
  obtain ⟨B, hB⟩ : ∃ B, w.heap.size = B := ⟨_, rfl⟩
  have hn6 : decide ((1024 : Int) < x6) = false := by simp; omega
  have hn9 : decide ((1024 : Int) < x9) = false := by simp; omega
  have hx6m : x6 ≤ 9223372036854775807 := by omega
  have hx9m : x9 ≤ 9223372036854775807 := by omega
  rw [hW] at han1 hcl1 hA hkA
  rw [hB] at hA
  replace han1 := Lib.hid han1
  replace hcl1 := Lib.hid hcl1
  replace hkA := Lib.hid hkA
  replace hW := Lib.hid hW
  replace hB := Lib.hid hB
  replace e1 := Lib.hid e1
  replace e2 := Lib.hid e2
  replace hf := Lib.hid hf
  replace hA := Lib.hid hA
  clear h han hcl
  simp only [ctV, slv]
  go_enter Try.func38, Try.ntmps38
  go_upto_region 1 with fail
  rw [hW.out, hB.out]
  obtain ⟨i0, i1, i2, i3, i4, i5, i6, if', il⟩ := cl7 hA.out
  go_wp2
  go_loopw [20] (fun i wr => ∃ k : Nat, i = .int .i64 k ∧ k ≤ x6 ∧ Hid (Keeps [] W wr)) (fun i _ => x6 - (intOf i).toNat)
  case atStart => exact ⟨0, rfl, by omega, Lib.hid (Keeps.refl _ _)⟩
  case round =>
    clear i0 i1 i2 i3 i4 i5 i6 if' il
    obtain ⟨k, rfl, hk, hkw⟩ := hrel
    by_cases hlt : k < x6
    · have hlt2 : (k : Int) < x6 := by omega
      have hkl : k < c.an.length := by rw [← e1.out]; exact hlt
      obtain ⟨g, o, c', x, hv, hx, he⟩ := (han1.out.keeps hkw.out).elem hkl
      rw [← e1.out] at hv
      cases hv
      have hil := hf.out.ins _ (List.getElem_mem hkl)
      obtain ⟨_, _, ev, _⟩ := hx.ins.form
      obtain ⟨y0, y1, y2, y3, y4, y5, y6, y7, y8, y9⟩ := x
      simp only [AnV.v, Value.slice.injEq] at ev
      obtain ⟨-, ev, -⟩ := ev
      have hn8 : decide ((1024 : Int) < y8) = false := by simp; omega
      have g0 := he 0 _ rfl
      have g1 := he 1 _ rfl
      have g2 := he 2 _ rfl
      have g3 := he 3 _ rfl
      have g4 := he 4 _ rfl
      have g5 := he 5 _ rfl
      have g6 := he 6 _ rfl
      have g7 := he 7 _ rfl
      simp only [AnV.v, Nat.add_zero] at g0 g1 g2 g3 g4 g5 g6 g7
      replace ev := Lib.hid ev
      have hkn := Lib.hid (hkw.out.trans ((Keeps.refl [] wr).alloc (.cells #[.int .i64 y0, .int .i64 y1, .int .u64 y2, .int .i64 y3, .bool y4, .bool y5, .int .i64 y6, .slice y7 y8 y9] tA)))
      clear he hx
      go_wp2
      go_roundw
      case rel => exact ⟨k + 1, rfl, by omega, hkn⟩
      case measure => simp [intOf]; omega
    · have hlt2 : ¬ ((k : Int) < x6) := by omega
      have hAr := (hkw.out.block _ (lt_of_blk hA.out) (by simp)).trans hA.out
      obtain ⟨i0, i1, i2, i3, i4, i5, i6, if', il⟩ := cl7 hAr
      go_wp2
      generalize wr = W2 at *
      go_loopw [32] (fun i wr => ∃ k : Nat, i = .int .i64 k ∧ k ≤ x9 ∧ Hid (Keeps [] W wr)) (fun i _ => x9 - (intOf i).toNat)
      case atStart => exact ⟨0, rfl, by omega, hkw⟩
      case round =>
        clear i0 i1 i2 i3 i4 i5 i6 if' il
        obtain ⟨k, rfl, hk, hkw⟩ := hrel
        by_cases hlt : k < x9
        · have hlt2 : (k : Int) < x9 := by omega
          have hkl : k < c.cl.length := by rw [← e2.out]; exact hlt
          obtain ⟨g, o, c', x, hv, hx, g0, g1, g2, g3, g4⟩ := (hcl1.out.keeps hkw.out).elem hkl
          rw [← e2.out] at hv
          cases hv
          obtain ⟨hi1, hi2, hi3⟩ := hf.out.ns _ (List.getElem_mem hkl)
          obtain ⟨_, _, ev1, _⟩ := hx.st.form
          obtain ⟨_, _, ev2, _⟩ := hx.sc.form
          obtain ⟨_, _, ev3, _⟩ := hx.ch.form
          obtain ⟨y0, y1, ⟨y2, y3, y4⟩, ⟨y5, y6, y7⟩, ⟨y8, y9, y10⟩⟩ := x
          simp only [slv, Value.slice.injEq] at ev1 ev2 ev3
          simp only [slv] at g0 g1 g2 g3 g4
          obtain ⟨-, ev1, -⟩ := ev1
          obtain ⟨-, ev2, -⟩ := ev2
          obtain ⟨-, ev3, -⟩ := ev3
          have hn1 : decide ((1024 : Int) < y3) = false := by simp; omega
          have hn2 : decide ((1024 : Int) < y6) = false := by simp; omega
          have hn3 : decide ((1024 : Int) < y9) = false := by simp; omega
          replace ev1 := Lib.hid ev1
          replace ev2 := Lib.hid ev2
          replace ev3 := Lib.hid ev3
          have hkn := Lib.hid (hkw.out.trans ((Keeps.refl [] wr).alloc (.cells #[.int .i64 y0, .int .i64 y1, .slice y2 y3 y4, .slice y5 y6 y7, .slice y8 y9 y10] tC)))
          clear hx
          go_wp2
          go_roundw
          case rel => exact ⟨k + 1, rfl, by omega, hkn⟩
          case measure => simp [intOf]; omega
        · have hlt2 : ¬ ((k : Int) < x9) := by omega
          go_wp2
          go_ret
          exact ⟨rfl, hkA.out.trans hkw.out⟩
end Go.Proofs.Ytiplgpefapeapaa

namespace Go.Proofs.Ytiplgpefapeapaa
open Go.RowKit

theorem ansOk_def (a : Ans) : ansOk a = (mach a.m && mach a.ow && decide (0 ≤ a.ep) && decide (0 ≤ a.lu) && a.ins.all insOk) := rfl
theorem all_take {α : Type} {l : List α} {p : α → Bool} (h : ∀ j (hj : j < l.length), p l[j] = true) : l.all p = true := List.all_eq_true.2 (fun x hx => by obtain ⟨j, hj, rfl⟩ := List.getElem_of_mem hx; exact h j hj)
theorem all_no {α : Type} {l : List α} {p : α → Bool} {j : Nat} (hj : j < l.length) (h : p l[j] = false) : l.all p = false := List.all_eq_false.2 ⟨l[j], List.getElem_mem hj, by rw [h]; decide⟩
set_option maxRecDepth 100000 in
set_option maxHeartbeats 8000000 in
theorem formed_c (w : World) (x : CtV) (c : Ct) (h : CtW w x c) (hf : c.Few) :
    Calls Try.prog 14 #[ctV x] w fun e w' => e = .returned (.bool (wf c)) ∧ Keeps [] w w' := by
  have hsh := fun (W : World) (hk : Keeps [] w W) => short_c W x c (h.keeps hk) hf
  have him := h.im
  have his := h.is
  have hs0 := h.s0
  have han := h.an
  have hcl := h.cl
  have hinA := fun (W : World) (hk : Keeps [] w W) => incA_c W _ _ (han.keeps hk)
  have hinC := fun (W : World) (hk : Keeps [] w W) => incC_c W _ _ (hcl.keeps hk)
  obtain ⟨x0, x1, x2, x3, x4, ⟨x5, x6, x7⟩, ⟨x8, x9, x10⟩⟩ := x
  simp only [ctV, slv] at hsh han hcl hinA hinC
  simp only at him his hs0
  obtain ⟨_, _, e1, hla, hca⟩ := han.form
  simp only [Value.slice.injEq] at e1
  obtain ⟨-, e1, -⟩ := e1
  rw [← e1] at hla
  have hx6m : x6 ≤ 9223372036854775807 := by unfold maxLen at hca; omega
  have hA := heap_alloc_new w (.cells #[.int .i64 x0, .int .i64 x1, .int .i64 x2, .int .u64 x3, .int .i64 x4, .slice x5 x6 x7, .slice x8 x9 x10] tCt)
  have hkA := (Keeps.refl [] w).alloc (.cells #[.int .i64 x0, .int .i64 x1, .int .i64 x2, .int .u64 x3, .int .i64 x4, .slice x5 x6 x7, .slice x8 x9 x10] tCt)
  obtain ⟨W, hW⟩ : ∃ W, w.alloc (.cells #[.int .i64 x0, .int .i64 x1, .int .i64 x2, .int .u64 x3, .int .i64 x4, .slice x5 x6 x7, .slice x8 x9 x10] tCt) = W := ⟨_, rfl⟩
  obtain ⟨B, hB⟩ : ∃ B, w.heap.size = B := ⟨_, rfl⟩
  rw [hW] at hA hkA
  rw [hB] at hA
  obtain ⟨r, hr⟩ : ∃ r, wf c = r := ⟨_, rfl⟩
  rw [hr]
  unfold wf at hr
  rw [← him, ← his, ← hs0] at hr
  obtain ⟨m1, hm1⟩ : ∃ b, mach x0 = b := ⟨_, rfl⟩
  obtain ⟨m2, hm2⟩ : ∃ b, mach x2 = b := ⟨_, rfl⟩
  obtain ⟨b1, hb1⟩ : ∃ b, incA c.an = b := ⟨_, rfl⟩
  obtain ⟨b2, hb2⟩ : ∃ b, incC c.cl = b := ⟨_, rfl⟩
  have hc1 := fun W => mach_c x0 W
  have hc2 := fun W => mach_c x2 W
  rw [hm1] at hc1 hr
  rw [hm2] at hc2 hr
  rw [hb1] at hinA hr
  rw [hb2] at hinC hr
  replace hsh := Lib.hid hsh
  replace hinA := Lib.hid hinA
  replace hinC := Lib.hid hinC
  replace hc1 := Lib.hid hc1
  replace hc2 := Lib.hid hc2
  replace hr := Lib.hid hr
  replace han := Lib.hid han
  replace hkA := Lib.hid hkA
  replace hW := Lib.hid hW
  replace hB := Lib.hid hB
  replace e1 := Lib.hid e1
  replace hf := Lib.hid hf
  replace hA := Lib.hid hA
  clear h hcl hm1 hm2 hb1 hb2 him his hs0
  simp only [ctV, slv]
  go_enter Try.func14, Try.ntmps14
  go_upto_region 1 with fail
  rw [hW.out, hB.out]
  obtain ⟨i0, i1, i2, i3, i4, i5, i6, if', il⟩ := cl7 hA.out
  go_wp2_with fail
  refine (hc1.out _).mono ?_
  rintro e w' ⟨rfl, hw⟩
  obtain rfl := hw
  clear hc1
  cases m1 with
  | false =>
    have hd : false = r := by rw [← hr.out]; simp
    replace hd := Lib.hid hd
    go_wp2
    go_ret
    exact ⟨by rw [← hd.out]; rfl, hkA.out⟩
  | true =>
  by_cases h1 : x1 < 1
  · have hd : false = r := by
      rw [← hr.out]
      have : decide (1 ≤ x1) = false := by simpa using h1
      rw [this]; simp
    replace hd := Lib.hid hd
    go_wp2
    go_ret
    exact ⟨by rw [← hd.out]; rfl, hkA.out⟩
  have h1d : decide (x1 < 1) = false := by simpa using h1
  have h1e : decide (1 ≤ x1) = true := by simpa using h1
  rw [h1e] at hr
  go_wp2_with fail
  refine (hc2.out _).mono ?_
  rintro e w' ⟨rfl, hw⟩
  obtain rfl := hw
  clear hc2
  cases m2 with
  | false =>
    have hd : false = r := by rw [← hr.out]; simp
    replace hd := Lib.hid hd
    go_wp2
    go_ret
    exact ⟨by rw [← hd.out]; rfl, hkA.out⟩
  | true =>
  go_wp2_with fail
  refine (hsh.out _ hkA.out).mono ?_
  rintro e w1 ⟨rfl, hk1⟩
  have hk01 := Lib.hid (hkA.out.trans hk1)
  have hA1 := (hk1.block _ (lt_of_blk hA.out) (by simp)).trans hA.out
  replace hA1 := Lib.hid hA1
  clear i0 i1 i2 i3 i4 i5 i6 if' il hsh hk1
  obtain ⟨i0, i1, i2, i3, i4, i5, i6, if', il⟩ := cl7 hA1.out
  go_wp2_with fail
  refine (hinA.out _ hk01.out).mono ?_
  rintro e w2 ⟨rfl, hk1⟩
  have hk02 := Lib.hid (hk01.out.trans hk1)
  have hA2 := (hk1.block _ (lt_of_blk hA1.out) (by simp)).trans hA1.out
  replace hA2 := Lib.hid hA2
  clear i0 i1 i2 i3 i4 i5 i6 if' il hinA hk1
  obtain ⟨i0, i1, i2, i3, i4, i5, i6, if', il⟩ := cl7 hA2.out
  cases b1 with
  | false =>
    have hd : false = r := by rw [← hr.out]; simp
    replace hd := Lib.hid hd
    go_wp2
    go_ret
    exact ⟨by rw [← hd.out]; rfl, hk02.out⟩
  | true =>
  go_wp2_with fail
  refine (hinC.out _ hk02.out).mono ?_
  rintro e w3 ⟨rfl, hk1⟩
  have hk03 := Lib.hid (hk02.out.trans hk1)
  have hA3 := (hk1.block _ (lt_of_blk hA2.out) (by simp)).trans hA2.out
  replace hA3 := Lib.hid hA3
  clear i0 i1 i2 i3 i4 i5 i6 if' il hinC hk1
  obtain ⟨i0, i1, i2, i3, i4, i5, i6, if', il⟩ := cl7 hA3.out
  cases b2 with
  | false =>
    have hd : false = r := by rw [← hr.out]; simp
    replace hd := Lib.hid hd
    go_wp2
    go_ret
    exact ⟨by rw [← hd.out]; rfl, hk03.out⟩
  | true =>
  have hr2 : c.an.all ansOk = r := by rw [← hr.out]; simp
  replace hr2 := Lib.hid hr2
  have han3 := Lib.hid (han.out.keeps hk03.out)
  clear hr han
  go_wp2
  go_loopw [45] (fun i wr => ∃ k : Nat, i = .int .i64 k ∧ k ≤ x6 ∧ Hid (∀ j (hj : j < c.an.length), j < k → ansOk c.an[j] = true) ∧ Hid (Keeps [] w3 wr)) (fun i _ => x6 - (intOf i).toNat)
  case atStart => exact ⟨0, rfl, by omega, Lib.hid (fun _ _ h => by omega), Lib.hid (Keeps.refl _ _)⟩
  case round =>
    clear i0 i1 i2 i3 i4 i5 i6 if' il
    obtain ⟨k, rfl, hk, hno, hkw⟩ := hrel
    by_cases hlt : k < x6
    · have hlt2 : (k : Int) < x6 := by omega
      have hkl : k < c.an.length := by rw [← e1.out]; exact hlt
      obtain ⟨g, o, c', y, hv, hy, he⟩ := (han3.out.keeps hkw.out).elem hkl
      rw [← e1.out] at hv
      cases hv
      obtain ⟨a, ha⟩ : ∃ a, c.an[k] = a := ⟨_, rfl⟩
      rw [ha] at hy
      have hno1 : ansOk a = false → false = r := fun h => by rw [← hr2.out]; exact (all_no hkl (by rw [ha]; exact h)).symm
      have hno2 : ansOk a = true → ∀ j (hj : j < c.an.length), j < k + 1 → ansOk c.an[j] = true := fun h j hj hjk => by
        by_cases e : j = k
        · subst e; rw [ha]; exact h
        · exact hno.out j hj (by omega)
      obtain ⟨ai, aic, ev, hl1, hl2, _⟩ := hy.ins.form
      have hins := hy.ins
      obtain ⟨y0, y1, y2, y3, y4, y5, y6, y7, y8, y9⟩ := y
      have q0 := hy.m
      have q1 := hy.ow
      have q3 := hy.ep
      have q6 := hy.lu
      simp only [AnV.v] at ev hins
      simp only at q0 q1 q3 q6
      simp only [Value.slice.injEq] at ev
      obtain ⟨-, ev, -⟩ := ev
      have hy8m : y8 ≤ 9223372036854775807 := by unfold maxLen at hl2; omega
      have hok : ansOk a = (mach y0 && mach y1 && decide (0 ≤ y3) && decide (0 ≤ y6) && a.ins.all insOk) := by rw [ansOk_def, q0, q1, q3, q6]
      rw [hok] at hno1 hno2
      obtain ⟨n1, hn1⟩ : ∃ b, mach y0 = b := ⟨_, rfl⟩
      obtain ⟨n2, hn2⟩ : ∃ b, mach y1 = b := ⟨_, rfl⟩
      have hd1 := fun W => mach_c y0 W
      have hd2 := fun W => mach_c y1 W
      rw [hn1] at hd1 hno1 hno2
      rw [hn2] at hd2 hno1 hno2
      have g0 := he 0 _ rfl
      have g1 := he 1 _ rfl
      have g2 := he 2 _ rfl
      have g3 := he 3 _ rfl
      have g4 := he 4 _ rfl
      have g5 := he 5 _ rfl
      have g6 := he 6 _ rfl
      have g7 := he 7 _ rfl
      simp only [AnV.v, Nat.add_zero] at g0 g1 g2 g3 g4 g5 g6 g7
      have hbA := heap_alloc_new wr (.cells #[.int .i64 y0, .int .i64 y1, .int .u64 y2, .int .i64 y3, .bool y4, .bool y5, .int .i64 y6, .slice y7 y8 y9] tA)
      have hkn := (Keeps.refl [] wr).alloc (.cells #[.int .i64 y0, .int .i64 y1, .int .u64 y2, .int .i64 y3, .bool y4, .bool y5, .int .i64 y6, .slice y7 y8 y9] tA)
      have hkr := Lib.hid (hkw.out.trans hkn)
      have hinsn := Lib.hid (hins.keeps hkn)
      replace hno1 := Lib.hid hno1
      replace hno2 := Lib.hid hno2
      replace hd1 := Lib.hid hd1
      replace hd2 := Lib.hid hd2
      replace ev := Lib.hid ev
      replace hbA := Lib.hid hbA
      replace ha := Lib.hid ha
      clear he hy q0 q1 q3 q6 hok hn1 hn2 hins hkn hl1 hl2 hkw hno
      go_upto_region 6 with fail
      generalize (wr.alloc (.cells #[.int .i64 y0, .int .i64 y1, .int .u64 y2, .int .i64 y3, .bool y4, .bool y5, .int .i64 y6, .slice y7 y8 y9] tA)) = WA at *
      obtain ⟨XA, hXA⟩ : ∃ X, wr.heap.size = X := ⟨_, rfl⟩
      rw [hXA] at hbA ⊢
      replace hXA := Lib.hid hXA
      clear g0 g1 g2 g3 g4 g5 g6 g7
      obtain ⟨g0, g1, g2, g3, g4, g5, g6, g7, gf, gl⟩ := cl8 hbA.out
      have hfin := Lib.hid (hk03.out.trans hkr.out)
      go_wp2_with fail
      refine (hd1.out _).mono ?_
      rintro e w' ⟨rfl, hw⟩
      obtain rfl := hw
      cases n1 with
      | false =>
        have hd := Lib.hid (hno1.out (by simp))
        go_wp2
        go_ret
        exact ⟨by rw [← hd.out]; rfl, hfin.out⟩
      | true =>
      go_wp2_with fail
      refine (hd2.out _).mono ?_
      rintro e w' ⟨rfl, hw⟩
      obtain rfl := hw
      cases n2 with
      | false =>
        have hd := Lib.hid (hno1.out (by simp))
        go_wp2
        go_ret
        exact ⟨by rw [← hd.out]; rfl, hfin.out⟩
      | true =>
      by_cases h3 : y3 < 0
      · have hd := Lib.hid (hno1.out (by have : decide (0 ≤ y3) = false := by simpa using h3
                                         rw [this]; simp))
        go_wp2
        go_ret
        exact ⟨by rw [← hd.out]; rfl, hfin.out⟩
      have h3d : decide (y3 < 0) = false := by simpa using h3
      have h3e : decide (0 ≤ y3) = true := by simpa using h3
      by_cases h6 : y6 < 0
      · have hd := Lib.hid (hno1.out (by have : decide (0 ≤ y6) = false := by simpa using h6
                                         rw [this]; simp))
        go_wp2
        go_ret
        exact ⟨by rw [← hd.out]; rfl, hfin.out⟩
      have h6d : decide (y6 < 0) = false := by simpa using h6
      have h6e : decide (0 ≤ y6) = true := by simpa using h6
      rw [h3e, h6e] at hno1 hno2
      simp only [Bool.and_self, Bool.true_and] at hno1 hno2
      go_wp2
      generalize WA = W4 at *
      go_loopw [72] (fun i wr => ∃ q : Nat, i = .int .i64 q ∧ q ≤ y8 ∧ Hid (∀ j (hj : j < a.ins.length), j < q → insOk a.ins[j] = true) ∧ Hid (Keeps [] W4 wr)) (fun i _ => y8 - (intOf i).toNat)
      case atStart => exact ⟨0, rfl, by omega, Lib.hid (fun _ _ h => by omega), Lib.hid (Keeps.refl _ _)⟩
      case round =>
        clear g0 g1 g2 g3 g4 g5 g6 g7 gf gl
        obtain ⟨q, rfl, hq, hnq, hkq⟩ := hrel
        by_cases hltq : q < y8
        · have hlt2q : (q : Int) < y8 := by omega
          have hql : q < a.ins.length := by rw [← ev.out]; exact hltq
          obtain ⟨gi, oi, ci, hvi, hei⟩ := (hinsn.out.keeps hkq.out).elem hql
          rw [← ev.out] at hvi
          cases hvi
          obtain ⟨⟨z0, z1, z2⟩, hz⟩ : ∃ z, a.ins[q] = z := ⟨_, rfl⟩
          rw [hz] at hei
          have t0 := hei 0 _ rfl
          have t1 := hei 1 _ rfl
          have t2 := hei 2 _ rfl
          simp only [shT, Nat.add_zero] at t0 t1 t2
          obtain ⟨n3, hn3⟩ : ∃ b, mach z0 = b := ⟨_, rfl⟩
          have hd3 := fun W => mach_c z0 W
          rw [hn3] at hd3
          have hok : insOk a.ins[q] = (n3 && decide (0 ≤ z2)) := by rw [hz, ← hn3]; rfl
          have hbI := heap_alloc_new wr (.cells #[.int .i64 z0, .int .u64 z1, .int .i64 z2] tI)
          have hkI := (Keeps.refl [] wr).alloc (.cells #[.int .i64 z0, .int .u64 z1, .int .i64 z2] tI)
          have hkqI := Lib.hid (hkq.out.trans hkI)
          have hfq := Lib.hid (hfin.out.trans hkqI.out)
          replace hd3 := Lib.hid hd3
          replace hok := Lib.hid hok
          replace hbI := Lib.hid hbI
          replace hz := Lib.hid hz
          clear hei hn3 hkI
          go_upto_region 11 with fail
          generalize (wr.alloc (.cells #[.int .i64 z0, .int .u64 z1, .int .i64 z2] tI)) = WI at *
          obtain ⟨XI, hXI⟩ : ∃ X, wr.heap.size = X := ⟨_, rfl⟩
          rw [hXI] at hbI ⊢
          replace hXI := Lib.hid hXI
          clear t0 t1 t2
          obtain ⟨t0, t1, t2, tf, tl⟩ := cl3 hbI.out
          go_wp2_with fail
          refine (hd3.out _).mono ?_
          rintro e w' ⟨rfl, hw⟩
          obtain rfl := hw
          cases n3 with
          | false =>
            have hd := Lib.hid (hno1.out (all_no hql (by rw [hok.out]; rfl)))
            go_wp2
            go_ret
            exact ⟨by rw [← hd.out]; rfl, hfq.out⟩
          | true =>
          by_cases h2 : z2 < 0
          · have hd := Lib.hid (hno1.out (all_no hql (by rw [hok.out]; simpa using h2)))
            go_wp2
            go_ret
            exact ⟨by rw [← hd.out]; rfl, hfq.out⟩
          have h2d : decide (z2 < 0) = false := by simpa using h2
          have hnq2 : ∀ j (hj : j < a.ins.length), j < q + 1 → insOk a.ins[j] = true := fun j hj hjq => by
            by_cases e : j = q
            · subst e; rw [hok.out]; simpa using h2
            · exact hnq.out j hj (by omega)
          replace hnq2 := Lib.hid hnq2
          go_wp2
          go_roundw
          case rel => exact ⟨q + 1, rfl, by omega, hnq2, hkqI⟩
          case measure => simp [intOf]; omega
        · have hlt2q : ¬ ((q : Int) < y8) := by omega
          have hn4 := Lib.hid (hno2.out (all_take (fun j hj => hnq.out j hj (by have := ev.out; omega))))
          have hkz := Lib.hid (hkr.out.trans hkq.out)
          go_wp2
          go_roundw
          case rel => exact ⟨k + 1, rfl, by omega, hn4, hkz⟩
          case measure => simp [intOf]; omega
    · have hlt2 : ¬ ((k : Int) < x6) := by omega
      have hd : true = r := by rw [← hr2.out]; exact (all_take (fun j hj => hno.out j hj (by have := e1.out; omega))).symm
      have hfin := Lib.hid (hk03.out.trans hkw.out)
      replace hd := Lib.hid hd
      go_wp2
      go_ret
      exact ⟨by rw [← hd.out]; rfl, hfin.out⟩
end Go.Proofs.Ytiplgpefapeapaa

namespace Go.Proofs.Ytiplgpefapeapaa
open Go.RowKit

abbrev tS : Nat := 54
theorem sLaw : WideMaps.KeyLaw Try.prog tS := deep_law_laid laidOut (m := 4) (by omega) (of_decide_eq_true (by kernel_rfl)) (by kernel_rfl) (by rw [Try.underlying54])
theorem s_key (x : Qn) (h : qOk x) : ∃ l, keyOf Try.prog tS (qV x) = some l := by
  obtain ⟨m, o, n⟩ := x
  obtain ⟨hm, ho, hn⟩ := h
  simp only at hm ho hn
  obtain ⟨d, hd⟩ : ∃ d, Try.prog.types.size = d + 2 := ⟨Try.prog.types.size - 2, by have : 2 ≤ Try.prog.types.size := of_decide_eq_true (by kernel_rfl); omega⟩
  have h1 : Try.prog.keyType tS = true := by kernel_rfl
  have h2 : (qV (m, o, n)).formed Try.prog tS = true := by kernel_rfl
  have c1 : Try.prog.cellsOf tS = 3 := by kernel_rfl
  have c3 : Try.prog.cellsOf 3 = 1 := by kernel_rfl
  have c4 : Try.prog.cellsOf 24 = 1 := by kernel_rfl
  unfold keyOf
  simp only [Try.underlying54, h1, h2, hd, Bool.and_self, if_true]
  have hk : Try.prog.keyLits (d + 2 + 1) tS (qV (m, o, n)).cells.toList = some [.int .i64 m, .int .i64 o, .int .u64 n] := by
    have wm : (Lit.int .i64 m).wf = true := hm
    have wo : (Lit.int .i64 o).wf = true := ho
    have wn := w64u hn
    simp [Program.keyLits, Try.underlying54, Try.underlying3, Try.underlying24, c1, c3, c4, Value.cells, wm, wo, wn]
  rw [hk]
  exact ⟨_, rfl⟩
def ktS : MapS.KT Try.prog tS Qn := ⟨qV, qOk, Maps.Keyed.of_law sLaw, s_key, fun x y h => by
  obtain ⟨a, b, c⟩ := x
  obtain ⟨a', b', c'⟩ := y
  simp [qV] at h
  obtain ⟨h1, h2, h3⟩ := h
  rw [h1, h2, show c = c' by omega]⟩
abbrev tK : Nat := 60
theorem kLaw : WideMaps.KeyLaw Try.prog tK := deep_law_laid laidOut (m := 4) (by omega) (of_decide_eq_true (by kernel_rfl)) (by kernel_rfl) (by rw [Try.underlying60])
theorem k_key (x : Qn) (h : qOk x) : ∃ l, keyOf Try.prog tK (qV x) = some l := by
  obtain ⟨m, o, n⟩ := x
  obtain ⟨hm, ho, hn⟩ := h
  simp only at hm ho hn
  obtain ⟨d, hd⟩ : ∃ d, Try.prog.types.size = d + 2 := ⟨Try.prog.types.size - 2, by have : 2 ≤ Try.prog.types.size := of_decide_eq_true (by kernel_rfl); omega⟩
  have h1 : Try.prog.keyType tK = true := by kernel_rfl
  have h2 : (qV (m, o, n)).formed Try.prog tK = true := by kernel_rfl
  have c1 : Try.prog.cellsOf tK = 3 := by kernel_rfl
  have c3 : Try.prog.cellsOf 3 = 1 := by kernel_rfl
  have c4 : Try.prog.cellsOf 24 = 1 := by kernel_rfl
  unfold keyOf
  simp only [Try.underlying60, h1, h2, hd, Bool.and_self, if_true]
  have hk : Try.prog.keyLits (d + 2 + 1) tK (qV (m, o, n)).cells.toList = some [.int .i64 m, .int .i64 o, .int .u64 n] := by
    have wm : (Lit.int .i64 m).wf = true := hm
    have wo : (Lit.int .i64 o).wf = true := ho
    have wn := w64u hn
    simp [Program.keyLits, Try.underlying60, Try.underlying3, Try.underlying24, c1, c3, c4, Value.cells, wm, wo, wn]
  rw [hk]
  exact ⟨_, rfl⟩
def ktK : MapS.KT Try.prog tK Qn := ⟨qV, qOk, Maps.Keyed.of_law kLaw, k_key, fun x y h => by
  obtain ⟨a, b, c⟩ := x
  obtain ⟨a', b', c'⟩ := y
  simp [qV] at h
  obtain ⟨h1, h2, h3⟩ := h
  rw [h1, h2, show c = c' by omega]⟩
theorem z_key (x : Int) (h : W64 x) : ∃ l, keyOf Try.prog 3 (zV x) = some l := ⟨_, Maps.keyOf_int_mk Try.underlying3 h⟩
def ktZ : MapS.KT Try.prog 3 Int := ⟨zV, W64, Maps.int_keyed Try.underlying3, z_key, fun x y h => by simpa using h⟩
end Go.Proofs.Ytiplgpefapeapaa

namespace Go.Proofs.Ytiplgpefapeapaa
open Go.RowKit

def strip (a : Ans) : Ans := { a with ins := [] }
def stepB (O : List (Qn × Int)) (P : List PCl) (a : Ans) : List PCl := needC O (openC P a) a
/-- The claims without their scions. -/
def basC (O : List (Qn × Int)) (Y : List Ans) : List PCl := Y.foldl (stepB O) []
def basOf (O : List (Qn × Int)) (Y : List Ans) (m : Int) : PCl := ⟨m, epOf Y m, stOf O Y m, [], chOf O Y m⟩
theorem strip_srt {Y : List Ans} (h : SrtA Y) : SrtA (Y.map strip) := by unfold SrtA; rw [List.pairwise_map]; exact h
theorem ms_strip (Y : List Ans) : msOf (Y.map strip) = msOf Y := by unfold msOf; rw [List.foldl_map]; rfl
theorem basC_strip (O : List (Qn × Int)) (Y : List Ans) : basC O Y = rawOf (trOf []) O (Y.map strip) := by
  unfold basC rawOf
  rw [List.foldl_map]
  rfl
theorem sc_strip (t : Tr) (m : Int) : ∀ (Y : List Ans) (l : List T3), (Y.map strip).foldl (scA t m) l = l
  | [], _ => rfl
  | a :: Y, l => by
    rw [List.map_cons, List.foldl_cons]
    have : scA t m l (strip a) = l := by unfold scA strip; split <;> rfl
    rw [this]
    exact sc_strip t m Y l
theorem basC_eq {O : List (Qn × Int)} {Y : List Ans} (hs : SrtA Y) : basC O Y = (msOf Y).map (basOf O Y) := by
  rw [basC_strip, (rawOf_eq (trOf []) O (Y.map strip) (strip_srt hs)).1, ms_strip]
  refine List.map_congr_left (fun m _ => ?_)
  unfold clOf basOf
  have e1 : epOf (Y.map strip) m = epOf Y m := by
    unfold epOf
    rw [List.find?_map, Option.map_map]
    rfl
  have e2 : stOf O (Y.map strip) m = stOf O Y m := by unfold stOf; rw [List.filterMap_map]; rfl
  have e3 : chOf O (Y.map strip) m = chOf O Y m := by unfold chOf; rw [List.filterMap_map]; rfl
  have e4 : scOf (trOf []) (Y.map strip) m = [] := sc_strip _ m Y []
  rw [e1, e2, e3, e4]
theorem basC_ms {O : List (Qn × Int)} {Y : List Ans} (hs : SrtA Y) : (basC O Y).map PCl.m = msOf Y := by
  rw [basC_eq hs, List.map_map]
  have : (PCl.m ∘ basOf O Y) = id := rfl
  rw [this, List.map_id]
theorem ms_srt {Y : List Ans} (hs : SrtA Y) : (msOf Y).Pairwise (· < ·) ∧ ∀ m, m ∈ msOf Y ↔ ∃ a ∈ Y, a.m = m := (rawOf_eq (trOf []) [] Y hs).2
theorem basC_take (O : List (Qn × Int)) (Y : List Ans) (k : Nat) (hk : k < Y.length) : basC O (Y.take (k + 1)) = stepB O (basC O (Y.take k)) Y[k] := foldl_succ _ _ _ _ hk
/-- What the next answer finds. -/
theorem basC_next {O : List (Qn × Int)} {Z : List Ans} {a : Ans} (hs : SrtA (Z ++ [a])) :
    (∃ n, (basC O Z).length = n + 1 ∧ (∃ h : n < (basC O Z).length, ((basC O Z)[n]'h).m = a.m) ∧ openC (basC O Z) a = basC O Z) ∨
    ((∀ p ∈ basC O Z, p.m ≠ a.m) ∧ openC (basC O Z) a = basC O Z ++ [⟨a.m, a.ep, [], [], []⟩]) := by
  obtain ⟨hs1, _, hs2⟩ := List.pairwise_append.1 hs
  have hle : ∀ b ∈ Z, b.m ≤ a.m := fun b hb => by have := hs2 b hb a (by simp); unfold qlt Ans.q at this; simp only at this; omega
  obtain ⟨i2, i3⟩ := ms_srt hs1
  have hm := basC_ms (O := O) hs1
  generalize basC O Z = P at *
  rcases nil_or_snoc P with h | ⟨R, c, h⟩
  · subst h
    exact .inr ⟨by simp, rfl⟩
  · subst h
    have hc : c.m ∈ msOf Z := by rw [← hm]; simp
    obtain ⟨b, hb, hbc⟩ := (i3 c.m).1 hc
    rw [openC_snoc]
    by_cases e : c.m = a.m
    · refine .inl ⟨R.length, by simp, ⟨by simp, by simp [e]⟩, by rw [if_pos e]⟩
    · refine .inr ⟨fun p hp hpa => ?_, by rw [if_neg e]⟩
      have hlt : c.m < a.m := by have := hle b hb; omega
      rcases List.mem_append.1 hp with hp | hp
      · rw [← hm, List.map_append, List.map_cons, List.map_nil] at i2
        have := (List.pairwise_append.1 i2).2.2 p.m (List.mem_map.2 ⟨p, hp, rfl⟩) c.m (by simp)
        omega
      · rw [List.mem_singleton.1 hp] at hpa
        exact e hpa
theorem needC_set {O : List (Qn × Int)} {P : List PCl} {a : Ans} {n : Nat} (hn : P.length = n + 1) : needC O P a = P.set n ((P[n]'(by omega)).upd (match MapS.get (a.ow, a.m, a.n) O with | some _ => 0 | none => 2) ((match MapS.get (a.ow, a.m, a.n) O with | some o => (P[n]'(by omega)).st ++ [(a.ow, a.n, o)] | none => (P[n]'(by omega)).ch ++ [(a.ow, a.n, 0)]))) := by
  unfold needC
  cases MapS.get (a.ow, a.m, a.n) O with
  | some o => simp only; rw [updL_at hn]; rfl
  | none => simp only; rw [updL_at hn]; rfl
/-! ### the map by machine -/
theorem get_zip : ∀ {ms : List Int} {bs : List Nat} (_ : bs.length = ms.length) (_ : ms.Nodup) (k : Nat) (h1 : k < ms.length) (h2 : k < bs.length), MapS.get ms[k] (ms.zip bs) = some bs[k]
  | [], _, _, _, k, h1, _ => by simp at h1
  | m :: ms, [], h, _, _, _, _ => by simp at h
  | m :: ms, b :: bs, _, _, 0, _, _ => by simp [MapS.get]
  | m :: ms, b :: bs, hl, hn, k + 1, h1, h2 => by
    obtain ⟨n1, n2⟩ := List.nodup_cons.1 hn
    have hk : k < ms.length := by simpa using h1
    have hne : ¬ m = ms[k] := fun e => n1 (by rw [e]; exact List.getElem_mem hk)
    simp only [List.zip_cons_cons, List.getElem_cons_succ, MapS.get, if_neg hne]
    exact get_zip (by simpa using hl) n2 k hk (by simpa using h2)
theorem get_zip_none : ∀ {ms : List Int} {bs : List Nat} {m : Int}, m ∉ ms → MapS.get m (ms.zip bs) = none
  | [], _, _, _ => by simp [MapS.get]
  | x :: ms, [], _, _ => by simp [MapS.get]
  | x :: ms, b :: bs, m, h => by
    have hne : ¬ x = m := fun e => h (by simp [e])
    simp only [List.zip_cons_cons, MapS.get, if_neg hne]
    exact get_zip_none (fun hm => h (by simp [hm]))
theorem zip_snoc {ms : List Int} {bs : List Nat} (h : bs.length = ms.length) (m : Int) (b : Nat) : (ms ++ [m]).zip (bs ++ [b]) = ms.zip bs ++ [(m, b)] := by
  rw [List.zip_append h.symm]
  rfl
theorem lt_nodup {l : List Int} (h : l.Pairwise (· < ·)) : l.Nodup := h.imp (fun h => by omega)
/-! ### the scions -/
theorem outsOf_nd (Y : List Ans) : MapS.ND (outsOf Y) := by
  unfold outsOf
  suffices h : ∀ (Y : List Ans) (acc : List (Qn × Int)), MapS.ND acc → MapS.ND (Y.foldl outsA acc) from h Y [] List.nodup_nil
  intro Y
  induction Y with
  | nil => exact fun _ h => h
  | cons a Y ih =>
    refine fun acc h => ih _ ?_
    unfold outsA
    generalize a.ins = xs
    induction xs generalizing acc with
    | nil => exact h
    | cons x r ih2 =>
      refine ih2 _ ?_
      unfold outA
      split
      · exact h
      · rename_i hn
        exact MapS.nd_snoc h (by simpa using hn) _
def scE (Y : List Ans) (m : Int) (p : Qn × Int) : Option T3 := if p.1.1 = m then some (p.1.2.1, p.1.2.2, luL Y (p.1.2.1, m, p.1.2.2)) else none
def scD (Y : List Ans) (m : Int) (L : List (Qn × Int)) : List T3 := L.filterMap (scE Y m)
theorem scD_snoc (Y : List Ans) (m : Int) (L : List (Qn × Int)) (p : Qn × Int) : scD Y m (L ++ [p]) = scD Y m L ++ (scE Y m p).toList := by
  unfold scD
  rw [List.filterMap_append]
  have : [p].filterMap (scE Y m) = (scE Y m p).toList := by cases h : scE Y m p <;> simp [h]
  rw [this]
theorem scD_perm {Y : List Ans} (m : Int) {L : List (Qn × Int)} (hp : L.Perm (outsOf Y)) : (scD Y m L).Perm (scOf (trOf Y) Y m) := by
  refine (hp.filterMap _).trans ((List.perm_ext_iff_of_nodup ?_ (scOf_nd _ _ _)).2 (fun e => ?_))
  · have hn := outsOf_nd Y
    generalize outsOf Y = O at hn
    clear hp
    induction O with
    | nil => exact List.nodup_nil
    | cons p O ih =>
      obtain ⟨n1, n2⟩ := List.nodup_cons.1 hn
      rw [List.filterMap_cons]
      cases h : scE Y m p with
      | none => exact ih n2
      | some e =>
        refine List.nodup_cons.2 ⟨fun hm => ?_, ih n2⟩
        obtain ⟨q, hq, hqe⟩ := List.mem_filterMap.1 hm
        refine n1 (List.mem_map.2 ⟨q, hq, ?_⟩)
        unfold scE at h hqe
        split at h
        · split at hqe
          · rename_i h1 h2
            cases h
            simp only [Option.some.injEq, Prod.mk.injEq] at hqe
            obtain ⟨⟨q0, q1, q2⟩, qo⟩ := q
            obtain ⟨⟨p0, p1, p2⟩, po⟩ := p
            simp only at h1 h2 hqe ⊢
            rw [h1, h2, hqe.1, hqe.2.1]
          · cases hqe
        · cases h
  · rw [scOf_mem, List.mem_filterMap]
    constructor
    · rintro ⟨⟨⟨q0, q1, q2⟩, o⟩, hq, he⟩
      unfold scE at he
      split at he
      · rename_i hm
        simp only at hm
        subst hm
        cases he
        have hg := (MapS.get_iff (outsOf_nd Y)).2 hq
        obtain ⟨a, ha, x, hx, e⟩ := (outsOf_some Y (q0, q1, q2)).1 (by rw [hg]; rfl)
        simp only [Prod.mk.injEq] at e
        obtain ⟨e1, e2, e3⟩ := e
        refine ⟨a, ha, e1.symm, x, hx, ?_⟩
        unfold scN
        rw [luOf_trOf, e2, e3]
      · cases he
    · rintro ⟨a, ha, hm, x, hx, rfl⟩
      have h1 := (outsOf_some Y (m, x.1, x.2.1)).2 ⟨a, ha, x, hx, by rw [hm]⟩
      obtain ⟨o, ho⟩ := Option.isSome_iff_exists.1 h1
      refine ⟨((m, x.1, x.2.1), o), MapS.get_mem ho, ?_⟩
      unfold scE scN
      rw [if_pos rfl, luOf_trOf]
/-- The sorted lists are the claims. -/
theorem clY_fin {Y : List Ans} {P : List PCl} (hs : SrtA Y) (hl : P.length = (msOf Y).length) (h : ∀ (k : Nat) (h1 : k < P.length) (h2 : k < (msOf Y).length), P[k].m = (msOf Y)[k] ∧ P[k].ep = epOf Y (msOf Y)[k] ∧
    (P[k].st.Perm (stOf (outsOf Y) Y (msOf Y)[k]) ∧ P[k].st.Pairwise (fun x y => ¬ tlt y x)) ∧ (P[k].sc.Perm (scOf (trOf Y) Y (msOf Y)[k]) ∧ P[k].sc.Pairwise (fun x y => ¬ tlt y x)) ∧ P[k].ch.Perm (chOf (outsOf Y) Y (msOf Y)[k]) ∧ P[k].ch.Pairwise (fun x y => ¬ tlt y x)) : P = clY Y := by
  refine clY_of hs hl (fun k h1 h2 => ?_)
  obtain ⟨e1, e2, e3, e4, e5⟩ := h k h1 h2
  refine ⟨e1, e2, fun j hj => ?_⟩
  match j, hj with
  | 0, _ => exact e3
  | 1, _ => exact e4
  | 2, _ => exact e5
theorem clY_len {Y : List Ans} (hs : SrtA Y) : (clY Y).length = (msOf Y).length := (ClaimsP.at' hs (refOf_claims hs)).1
theorem clY_at {Y : List Ans} (hs : SrtA Y) (k : Nat) (h1 : k < (clY Y).length) (h2 : k < (msOf Y).length) : ClmAt (trOf Y) Y (clY Y)[k] (msOf Y)[k] := (ClaimsP.at' hs (refOf_claims hs)).2 k h1 h2
end Go.Proofs.Ytiplgpefapeapaa
