/- Texts that the laws lean on, in the order in which they build. What Decode gives: plain. What holds of the trace that Decode plays again (plain). The bounds of Decode for short inputs (plain). A trace that came about by operations is decoded from its encoding (plain). Two traces in memory that say what one value of the specification says. The memory of Decode: the reader, and the trace beside it. trace.Decode. (Printed by mktrdec.py.) -/
import Derived.Test.YthfdngjbcgkkfaaGreatQ13
set_option linter.unusedVariables false
set_option linter.unusedSimpArgs false
namespace Go.Proofs.YthfdngjbcgkkfaaGreat
open Go.RowKit

/-- An inset, an answer, as the reader reads them. -/
def rX (s : RS) : T3 × RS := (((rI s).1, (rU (rI s).2).1, (rI (rU (rI s).2).2).1), (rI (rU (rI s).2).2).2)
def rXs : Nat → RS → List T3 → List T3 × RS
  | 0, s, L => (L, s)
  | n + 1, s, L => rXs n (rX s).2 (L ++ [(rX s).1])
theorem rXs_succ (n : Nat) (s : RS) (L : List T3) : rXs (n + 1) s L = rXs n (rX s).2 (L ++ [(rX s).1]) := rfl
/-- The seven fields of an answer, read one after the other. -/
def f1 (s : RS) : RS := (rI s).2
def f2 (s : RS) : RS := (rI (f1 s)).2
def f3 (s : RS) : RS := (rU (f2 s)).2
def f4 (s : RS) : RS := (rI (f3 s)).2
def f5 (s : RS) : RS := (rB (f4 s)).2
def f6 (s : RS) : RS := (rB (f5 s)).2
def f7 (s : RS) : RS := (rI (f6 s)).2
def rA0 (s : RS) : Ans := ⟨(rI s).1, (rI (f1 s)).1, (rU (f2 s)).1, (rI (f3 s)).1, (rB (f4 s)).1, (rB (f5 s)).1, (rI (f6 s)).1, []⟩
def rAn (K : Nat) (s : RS) : Nat × RS := rCS K (f7 s)
def rAx (K : Nat) (s : RS) : List T3 × RS := rXs (rAn K s).1 (rAn K s).2 []
def rA (K : Nat) (s : RS) : Ans := { rA0 s with ins := (rAx K s).1 }
/-- One answer more. -/
abbrev DS := RS × Tr × Bool
def askd (told : Nat) (t : Tr) : Bool := decide (t.state = 0) && decide (told = t.qs.length)
def dS (K told : Nat) (x : DS) : Option DS :=
  if (x.2.1.answer (rA K x.1)).2 ≠ 0 then none else some ((rAx K x.1).2, (x.2.1.answer (rA K x.1)).1, x.2.2 || askd told (x.2.1.answer (rA K x.1)).1)
def dA (K told : Nat) (x : DS) : Nat → Option DS
  | 0 => some x
  | k + 1 => (dA K told x k).bind (dS K told)
theorem dA_none {K told : Nat} {x : DS} {k : Nat} (h : dA K told x k = none) : ∀ n, k ≤ n → dA K told x n = none := fun n hn => by
  induction n with
  | zero => rw [show k = 0 by omega] at h; exact h
  | succ n ih =>
    by_cases e : k = n + 1
    · rw [← e]; exact h
    · show (dA K told x n).bind _ = none
      rw [ih (by omega)]; rfl
/-- The machine of the pending claim. -/
def Tr.pm (t : Tr) : Int := match t.clm[t.ag.length]? with | some p => p.m | none => 0
def gS (t : Tr) : Option Tr := if t.state = 1 then some (t.agreeT t.pm).1 else none
def gA (t : Tr) : Nat → Option Tr
  | 0 => some t
  | k + 1 => (gA t k).bind gS
theorem gA_none {t : Tr} {k : Nat} (h : gA t k = none) : ∀ n, k ≤ n → gA t n = none := fun n hn => by
  induction n with
  | zero => rw [show k = 0 by omega] at h; exact h
  | succ n ih =>
    by_cases e : k = n + 1
    · rw [← e]; exact h
    · show (gA t n).bind _ = none
      rw [ih (by omega)]; rfl
def rfS (b : Bool) (t : Tr) : Option Tr := if b = true then (if t.state = 1 then some (t.refuseT t.pm).1 else none) else some t
/-- The head of the encoding. -/
def h1 (l : List UInt8) : RS := (rI (l, 0)).2
def h2 (l : List UInt8) : RS := (rI (h1 l)).2
def h3 (l : List UInt8) : RS := (rI (h2 l)).2
def h4 (l : List UInt8) : RS := (rU (h3 l)).2
def h5 (l : List UInt8) : RS := (rI (h4 l)).2
def h6 (l : List UInt8) : RS := (rU (h5 l)).2
def hT (l : List UInt8) : Tr := Tr.new (rI (l, 0)).1 (rI (h1 l)).1 ((rI (h2 l)).1, (rU (h3 l)).1, (rI (h4 l)).1)
def hTold (l : List UInt8) : Nat := min (rU (h5 l)).1 1025
def hX (l : List UInt8) : DS := ((rCS l.length (h6 l)).2, hT l, decide (hTold l = 0) || decide (hTold l = 1))
def hN (l : List UInt8) : Nat := (rCS l.length (h6 l)).1
/-- What follows the answers. -/
def dE (l : List UInt8) (told : Nat) (b : Bool) (s : RS) (t : Tr) : Option Tr :=
  if doneE s.1 s.2 = 0 ∧ b = true ∧ encT { t with told := told } = l then some { t with told := told } else none
def dB (l : List UInt8) (told : Nat) (b : Bool) (s : RS) (t : Tr) : Option Tr := (rfS (rB s).1 t).bind (dE l told b (rB s).2)
def dG (l : List UInt8) (told : Nat) (x : DS) : Option Tr := (gA x.2.1 (min (rU x.1).1 1024)).bind (dB l told x.2.2 (rU x.1).2)
def dec (l : List UInt8) : Option Tr := (dA l.length (hTold l) (hX l) (hN l)).bind (dG l (hTold l))
/-- What the walk counts on: the bounds. -/
structure DBnd (l : List UInt8) : Prop where
  len : l.length ≤ 1099511627776
  stp : ∀ k s t b, k < hN l → dA l.length (hTold l) (hX l) k = some (s, t, b) → t.qs.length + (rA l.length s).ins.length ≤ 1000
  fin : ∀ s t b, dA l.length (hTold l) (hX l) (hN l) = some (s, t, b) → t.qs.length ≤ 1000
  hst : hN l ≤ 1000
/-- What holds of the trace while it is played again. -/
structure Tr.Dc (t : Tr) : Prop where
  s1 : t.state = 1 → t.ag.length < t.clm.length
  s0 : t.state = 0 → t.ag = []
  ne : t.qs ≠ []
  rf : t.rf = false
theorem Tr.Dc.new (im is : Int) (st : T3) : (Tr.new im is st).Dc := ⟨by simp [Tr.new], by simp [Tr.new], by simp [Tr.new], rfl⟩
theorem rXs_len : ∀ (n : Nat) (s : RS) (L : List T3), (rXs n s L).1.length = n + L.length
  | 0, s, L => by simp [rXs]
  | n + 1, s, L => by rw [rXs_succ, rXs_len]; simp; omega
theorem rX_fit (s : RS) : InsFit (rX s).1 := ⟨rI_fit _, rU_lt _, rI_fit _⟩
theorem rXs_fit : ∀ (n : Nat) (s : RS) (L : List T3), (∀ x ∈ L, InsFit x) → ∀ x ∈ (rXs n s L).1, InsFit x
  | 0, s, L, h => h
  | n + 1, s, L, h => by
    rw [rXs_succ]
    refine rXs_fit n _ _ (fun x hx => ?_)
    rcases List.mem_append.1 hx with hx | hx
    · exact h x hx
    · rw [List.mem_singleton.1 hx]; exact rX_fit s
theorem rA_ins (K : Nat) (s : RS) : (rA K s).ins = (rAx K s).1 := rfl
theorem rA_len (K : Nat) (s : RS) : (rA K s).ins.length = (rAn K s).1 := by rw [rA_ins, rAx, rXs_len]; simp
theorem rA_ok (K : Nat) (s : RS) (hK : (rA K s).ins.length ≤ 100000) : (rA K s).Ok :=
  ⟨⟨rI_fit _, rI_fit _, rU_lt _⟩, rI_fit _, rI_fit _, fun x hx => by have := rXs_fit (rAn K s).1 (rAn K s).2 [] (by simp) x hx; exact ⟨this.a, this.n, this.c⟩, hK⟩
theorem Tr.Dc.answer {t : Tr} {a : Ans} (h : t.Dc) (hi' : (t.answer a).1.Inv) : (t.answer a).1.Dc := by
  revert hi'
  unfold Tr.answer
  split
  · exact fun _ => h
  rename_i h0
  have h0 : t.state = 0 := by simpa using h0
  split
  · exact fun _ => h
  split
  · exact fun _ => ⟨by simp, by simp, h.ne, h.rf⟩
  split
  · exact fun _ => ⟨by simp, by simp, h.ne, h.rf⟩
  split
  · exact fun _ => ⟨by simp, by simp, h.ne, h.rf⟩
  intro hi'
  have hge : t.qs.length ≤ ((t.take a).put a).qs.length := by
    have := fold_ge a.m a.ins (setQ a.q a t.qs)
    rw [setQ_length] at this
    exact this
  have hpos : 0 < t.qs.length := List.length_pos_iff.2 h.ne
  have hne : ((t.take a).put a).qs ≠ [] := List.length_pos_iff.1 (by omega)
  unfold Tr.close at hi' ⊢
  by_cases hall : allQ ((t.take a).put a).qs = true
  · simp only [hall, if_true] at hi' ⊢
    refine ⟨fun _ => ?_, by simp, hne, h.rf⟩
    have hag : ((t.take a).put a).ag = [] := h.s0 h0
    have hcp := Tr.clm_pos hi' (fun e => by
      have := (rec_len ((t.take a).put a).qs).2.2 hall
      have e' : recOf ((t.take a).put a).qs = [] := e
      rw [e'] at this
      simp at this
      omega)
    show ((t.take a).put a).ag.length < _
    rw [hag]
    exact hcp
  · simp only [hall] at hi' ⊢
    exact ⟨fun e => by simp [Tr.take, Tr.put, h0] at e, fun _ => h.s0 h0, hne, h.rf⟩
theorem Tr.Dc.pm {t : Tr} (h : t.Dc) (h1 : t.state = 1) : ∃ p, t.clm[t.ag.length]? = some p ∧ t.pm = p.m := by
  have := h.s1 h1
  refine ⟨_, List.getElem?_eq_getElem this, ?_⟩
  unfold Tr.pm
  rw [List.getElem?_eq_getElem this]
theorem Tr.Dc.agree_eq {t : Tr} (h : t.Dc) (h1 : t.state = 1) : t.agreeT t.pm = ({ t with ag := t.ag ++ [t.pm], state := if t.ag.length + 1 = t.clm.length then 2 else t.state }, 0) := by
  obtain ⟨p, hp, hm⟩ := h.pm h1
  unfold Tr.agreeT
  rw [if_neg (by simp [h1]), hp]
  simp only
  rw [if_neg (by simp [hm])]
theorem Tr.Dc.refuse_eq {t : Tr} (h : t.Dc) (h1 : t.state = 1) : t.refuseT t.pm = ({ t with state := 4, rf := true }, 0) := by
  obtain ⟨p, hp, hm⟩ := h.pm h1
  unfold Tr.refuseT
  rw [if_neg (by simp [h1]), hp]
  simp only
  rw [if_neg (by simp [hm])]
theorem Tr.Dc.agree {t : Tr} (h : t.Dc) (h1 : t.state = 1) : (t.agreeT t.pm).1.Dc := by
  rw [h.agree_eq h1]
  have hlt := h.s1 h1
  refine ⟨fun e => ?_, fun e => ?_, h.ne, h.rf⟩
  · simp only at e
    split at e
    · omega
    · rename_i hne
      have e2 := @Tr.clm_qs t { t with ag := t.ag ++ [t.pm], state := if t.ag.length + 1 = t.clm.length then 2 else t.state } rfl
      rw [e2]
      simp only [List.length_append, List.length_cons, List.length_nil]
      omega
  · simp only at e
    split at e <;> omega
theorem msA_len (L : List Int) (a : Ans) : (msA L a).length ≤ L.length + 1 := by unfold msA; split <;> simp
theorem msF_len : ∀ (Y : List Ans) (L : List Int), (Y.foldl msA L).length ≤ L.length + Y.length
  | [], L => by simp
  | a :: Y, L => by
    have ih := msF_len Y (msA L a)
    have := msA_len L a
    rw [List.foldl_cons, List.length_cons]
    omega
theorem ms_len (Y : List Ans) : (msOf Y).length ≤ Y.length := by have := msF_len Y []; simpa [msOf] using this
theorem Tr.clm_len {t : Tr} (h : t.Inv) : t.clm.length ≤ t.qs.length := by
  have hs := srtOf_sorted h
  have hp : ClaimsP t (srtOf t.qs) t.clm := refOf_claims hs.2
  obtain ⟨e1, _⟩ := ClaimsP.at' hs.2 hp
  rw [e1]
  have e2 := ms_len (srtOf t.qs)
  have e3 := hs.1.length_eq
  have e4 := (rec_len t.qs).1
  rw [List.length_map] at e3
  have e5 : t.rec' = recOf t.qs := rfl
  rw [e5] at e3
  omega
end Go.Proofs.YthfdngjbcgkkfaaGreat

namespace Go.Proofs.YthfdngjbcgkkfaaGreat
open Go.RowKit

structure Tr.Di (t : Tr) (k : Nat) : Prop where
  dc : t.Dc
  hl : t.hist.length ≤ k
  hi : ∀ a ∈ t.hist, a.ins.length ≤ 1000
  nm : t.Num
  ag : t.ag.length ≤ 1000
  st : 0 ≤ t.state ∧ t.state ≤ 4
theorem Tr.Di.new (im is : Int) (st : T3) (h1 : W64 im) (h2 : W64 is) (h3 : W64 st.1) (h4 : st.2.1 < 18446744073709551616) (h5 : W64 st.2.2) : (Tr.new im is st).Di 0 :=
  ⟨Tr.Dc.new im is st, by simp [Tr.new], by simp [Tr.new], ⟨h1, h2, h3, h4, h5⟩, by simp [Tr.new], by simp [Tr.new]⟩
theorem Tr.answer_hist (t : Tr) (a : Ans) : ((t.answer a).1.hist = t.hist ∨ (t.answer a).1.hist = t.hist ++ [a]) ∧ (t.answer a).1.im = t.im ∧ (t.answer a).1.is = t.is ∧ (t.answer a).1.st = t.st ∧ (t.answer a).1.ag = t.ag := by
  unfold Tr.answer
  split
  · exact ⟨.inl rfl, rfl, rfl, rfl, rfl⟩
  split
  · exact ⟨.inl rfl, rfl, rfl, rfl, rfl⟩
  split
  · exact ⟨.inr rfl, rfl, rfl, rfl, rfl⟩
  split
  · exact ⟨.inr rfl, rfl, rfl, rfl, rfl⟩
  split
  · exact ⟨.inr rfl, rfl, rfl, rfl, rfl⟩
  unfold Tr.close
  split <;> exact ⟨.inr rfl, rfl, rfl, rfl, rfl⟩
theorem Tr.answer_st {t : Tr} (h : 0 ≤ t.state ∧ t.state ≤ 4) (a : Ans) : 0 ≤ (t.answer a).1.state ∧ (t.answer a).1.state ≤ 4 := by
  unfold Tr.answer
  split
  · exact h
  split
  · exact h
  split
  · simp
  split
  · simp
  split
  · simp
  unfold Tr.close
  split
  · simp
  · exact h
theorem Tr.Di.answer {t : Tr} {k : Nat} {a : Ans} (h : t.Di k) (hi' : (t.answer a).1.Inv) (ha : a.ins.length ≤ 1000) : (t.answer a).1.Di (k + 1) := by
  obtain ⟨h1, h2, h3, h4, h5⟩ := Tr.answer_hist t a
  refine ⟨h.dc.answer hi', ?_, ?_, ?_, by rw [h5]; exact h.ag, Tr.answer_st h.st a⟩
  · have := h.hl
    rcases h1 with e | e
    · rw [e]; omega
    · rw [e]; simp; omega
  · intro b hb
    rcases h1 with e | e
    · rw [e] at hb; exact h.hi b hb
    · rw [e] at hb
      rcases List.mem_append.1 hb with hb | hb
      · exact h.hi b hb
      · rw [List.mem_singleton.1 hb]; exact ha
  · exact ⟨by rw [h2]; exact h.nm.im, by rw [h3]; exact h.nm.is, by rw [h4]; exact h.nm.s0, by rw [h4]; exact h.nm.s1, by rw [h4]; exact h.nm.s2⟩
theorem Tr.Di.agree {t : Tr} {k : Nat} (h : t.Di k) (h1 : t.state = 1) (hi : t.Inv) (hq : t.qs.length ≤ 1000) : (t.agreeT t.pm).1.Di k :=
  ⟨h.dc.agree h1, by rw [h.dc.agree_eq h1]; exact h.hl, by rw [h.dc.agree_eq h1]; exact h.hi, by rw [h.dc.agree_eq h1]; exact ⟨h.nm.im, h.nm.is, h.nm.s0, h.nm.s1, h.nm.s2⟩, by
    rw [h.dc.agree_eq h1]
    have e1 := h.dc.s1 h1
    have e2 := Tr.clm_len hi
    simp
    omega, by
    rw [h.dc.agree_eq h1]
    have := h.st
    simp only
    split <;> omega⟩
theorem Tr.Di.refuse {t : Tr} {k : Nat} (h : t.Di k) (h1 : t.state = 1) : (t.refuseT t.pm).2 = 0 ∧ (t.refuseT t.pm).1.hist = t.hist ∧ (t.refuseT t.pm).1.Num ∧ (t.refuseT t.pm).1.ag = t.ag ∧ (t.refuseT t.pm).1.state = 4 := by
  rw [h.dc.refuse_eq h1]
  exact ⟨rfl, rfl, ⟨h.nm.im, h.nm.is, h.nm.s0, h.nm.s1, h.nm.s2⟩, rfl, rfl⟩
/-- What its encoding wants. -/
structure Tr.Enc (t : Tr) : Prop where
  nm : t.Num
  hl : t.hist.length ≤ 1000
  hi : ∀ a ∈ t.hist, a.ins.length ≤ 1000
  ag : t.ag.length ≤ 1000
  tl : ∃ tn : Nat, t.told = tn ∧ tn ≤ 1025
  st : 0 ≤ t.state ∧ t.state ≤ 4
end Go.Proofs.YthfdngjbcgkkfaaGreat

namespace Go.Proofs.YthfdngjbcgkkfaaGreat
open Go.RowKit

/-- The bytes that are left, none after a failure. -/
def lft (s : RS) : Nat := if s.2 = 0 then s.1.length else 0
theorem readU_drop {l r : List UInt8} {n : Nat} (h : readU l = some (n, r)) : r.length + 1 ≤ l.length := by
  cases l with
  | nil => cases h
  | cons k t =>
    rcases Classical.em (k.toNat ≤ 8 ∧ k.toNat ≤ t.length ∧ (0 < k.toNat → t.headD 1 ≠ 0)) with hc | hc
    · rw [readU, if_pos hc] at h
      simp only [Option.some.injEq, Prod.mk.injEq] at h
      rw [← h.2]
      simp
    · rw [readU, if_neg hc] at h; cases h
theorem readB_drop {l r : List UInt8} {x : Bool} (h : readB l = some (x, r)) : r.length + 1 ≤ l.length := by
  cases l with
  | nil => cases h
  | cons k t =>
    rcases Classical.em (k.toNat ≤ 1) with hc | hc
    · rw [readB, if_pos hc] at h
      simp only [Option.some.injEq, Prod.mk.injEq] at h
      rw [← h.2]
      simp
    · rw [readB, if_neg hc] at h; cases h
theorem rU_err {s : RS} (h : s.2 ≠ 0) : rU s = (0, s) := by unfold rU; rw [if_neg h]
theorem rB_err {s : RS} (h : s.2 ≠ 0) : rB s = (false, s) := by unfold rB; rw [if_neg h]
theorem rI_err {s : RS} (h : s.2 ≠ 0) : rI s = (0, s) := by unfold rI; rw [rU_err h]; simp [uzig]
theorem rCS_err {K : Nat} {s : RS} (h : s.2 ≠ 0) : rCS K s = (0, s) := by unfold rCS; rw [if_neg h]
theorem rX_err {s : RS} (h : s.2 ≠ 0) : rX s = ((0, 0, 0), s) := by unfold rX; simp only [rI_err h, rU_err h]
/-- A read takes a byte, or fails. -/
theorem rU_step {s : RS} (h : s.2 = 0) : ((rU s).2.2 = 0 ∧ (rU s).2.1.length + 1 ≤ s.1.length) ∨ (rU s).2.2 ≠ 0 := by
  unfold rU
  rw [if_pos h]
  cases e : readU s.1 with
  | none => exact .inr (by simp)
  | some p => obtain ⟨x, r⟩ := p; exact .inl ⟨rfl, readU_drop e⟩
theorem rU_left (s : RS) : ((rU s).2.2 = 0 → s.2 = 0) ∧ lft (rU s).2 ≤ lft s := by
  by_cases h : s.2 = 0
  · refine ⟨fun _ => h, ?_⟩
    unfold lft
    rw [if_pos h]
    rcases rU_step h with ⟨h1, h2⟩ | h1
    · rw [if_pos h1]; omega
    · rw [if_neg h1]; omega
  · rw [rU_err h]; exact ⟨fun e => e, Nat.le_refl _⟩
theorem rI_left (s : RS) : ((rI s).2.2 = 0 → s.2 = 0) ∧ lft (rI s).2 ≤ lft s := rU_left s
theorem rB_left (s : RS) : ((rB s).2.2 = 0 → s.2 = 0) ∧ lft (rB s).2 ≤ lft s := by
  by_cases h : s.2 = 0
  · refine ⟨fun _ => h, ?_⟩
    unfold rB lft
    rw [if_pos h, if_pos h]
    cases e : readB s.1 with
    | none => simp
    | some p => obtain ⟨x, r⟩ := p; have := readB_drop e; simp; omega
  · rw [rB_err h]; exact ⟨fun e => e, Nat.le_refl _⟩
theorem rCS_left (K : Nat) (s : RS) : ((rCS K s).2.2 = 0 → s.2 = 0) ∧ lft (rCS K s).2 ≤ lft s := by
  by_cases h : s.2 = 0
  · refine ⟨fun _ => h, ?_⟩
    unfold rCS rCK lft
    rw [if_pos h, if_pos h]
    cases e : readU s.1 with
    | none => simp
    | some p =>
      obtain ⟨x, r⟩ := p
      have := readU_drop e
      simp only
      split
      · simp; omega
      · rename_i hc; simp [hc]
  · rw [rCS_err h]; exact ⟨fun e => e, Nat.le_refl _⟩
theorem rX_step {s : RS} (h : s.2 = 0) : ((rX s).2.2 = 0 ∧ (rX s).2.1.length + 3 ≤ s.1.length) ∨ (rX s).2.2 ≠ 0 := by
  unfold rX
  simp only
  by_cases h3 : (rI (rU (rI s).2).2).2.2 = 0
  · have e2 := (rI_left _).1 h3
    have e1 := (rU_left _).1 e2
    refine .inl ⟨h3, ?_⟩
    rcases rU_step h with ⟨a1, a2⟩ | a1
    · rcases rU_step e1 with ⟨b1, b2⟩ | b1
      · rcases rU_step e2 with ⟨c1, c2⟩ | c1
        · have a2' : (rI s).2.1.length + 1 ≤ s.1.length := a2
          have c2' : (rI (rU (rI s).2).2).2.1.length + 1 ≤ (rU (rI s).2).2.1.length := c2
          omega
        · exact absurd h3 c1
      · exact absurd e2 b1
    · exact absurd e1 a1
  · exact .inr h3
theorem rXs_app : ∀ (n : Nat) (s : RS) (L : List T3), rXs n s L = (L ++ (rXs n s []).1, (rXs n s []).2)
  | 0, s, L => by simp [rXs]
  | n + 1, s, L => by
    rw [rXs_succ, rXs_succ, rXs_app n _ (L ++ [(rX s).1]), rXs_app n _ ([] ++ [(rX s).1])]
    simp
theorem rXs_err {s : RS} (h : s.2 ≠ 0) : ∀ n, rXs n s [] = (List.replicate n (0, 0, 0), s)
  | 0 => rfl
  | n + 1 => by rw [rXs_succ, rXs_app, rX_err h, rXs_err h n]; simp [List.replicate_succ]
theorem openQ_in {m : Int} {qs : Qs} {x : T3} (h : (x.1, m, x.2.1) ∈ qs.map (·.1)) : openQ m qs x = qs := by unfold openQ; rw [if_pos h]
theorem openQ_mem (m : Int) (qs : Qs) (x : T3) : (x.1, m, x.2.1) ∈ (openQ m qs x).map (·.1) := by
  unfold openQ
  split
  · assumption
  · simp
theorem fold_same (m : Int) (x : T3) : ∀ (n : Nat) (qs : Qs), (x.1, m, x.2.1) ∈ qs.map (·.1) → (List.replicate n x).foldl (openQ m) qs = qs
  | 0, _, _ => rfl
  | n + 1, qs, h => by rw [List.replicate_succ, List.foldl_cons, openQ_in h]; exact fold_same m x n qs h
theorem fold_rep (m : Int) (x : T3) (n : Nat) (qs : Qs) : ((List.replicate n x).foldl (openQ m) qs).length ≤ qs.length + 1 := by
  cases n with
  | zero => simp
  | succ n =>
    rw [List.replicate_succ, List.foldl_cons, fold_same m x n _ (openQ_mem m qs x)]
    exact openQ_len m qs x
theorem fold_read (m : Int) : ∀ (n : Nat) (s : RS) (qs : Qs), s.2 = 0 → ((rXs n s []).1.foldl (openQ m) qs).length * 3 + lft (rXs n s []).2 ≤ qs.length * 3 + s.1.length + (if (rXs n s []).2.2 = 0 then 0 else 6)
  | 0, s, qs, h => by simp [rXs, lft, h]
  | n + 1, s, qs, h => by
    rw [rXs_succ, rXs_app]
    simp only [List.nil_append, List.foldl_append, List.foldl_cons, List.foldl_nil]
    have e0 := openQ_len m qs (rX s).1
    rcases rX_step h with ⟨h1, h2⟩ | h1
    · have ih := fold_read m n (rX s).2 (openQ m qs (rX s).1) h1
      omega
    · rw [rXs_err h1]
      simp only
      rw [if_neg h1]
      have e1 := fold_rep m (0, 0, 0) n (openQ m qs (rX s).1)
      have e2 : lft (rX s).2 = 0 := by unfold lft; rw [if_neg h1]
      omega
theorem answer_qs (t : Tr) (a : Ans) : (t.answer a).1.qs = t.qs ∨ (t.answer a).1.qs = a.ins.foldl (openQ a.m) (setQ a.q a t.qs) := by
  unfold Tr.answer
  split
  · exact .inl rfl
  split
  · exact .inl rfl
  split
  · exact .inl rfl
  split
  · exact .inl rfl
  split
  · exact .inl rfl
  unfold Tr.close
  split <;> exact .inr rfl
theorem answer_kn {t : Tr} {a : Ans} (h : a.kn = false) : (t.answer a).1.qs = t.qs := by
  unfold Tr.answer
  split
  · rfl
  split
  · rfl
  rfl
theorem rA_err {K : Nat} {s : RS} (h : (f7 s).2 ≠ 0) : (rA K s).ins = [] ∧ (rAx K s).2 = f7 s := by
  have e : rAn K s = (0, f7 s) := rCS_err h
  rw [rA_ins]
  unfold rAx
  rw [e]
  exact ⟨rfl, rfl⟩
theorem f4_err {s : RS} (h : s.2 ≠ 0) : f4 s = s := by unfold f4 f3 f2 f1; simp only [rI_err h, rU_err h]
theorem f7_err {s : RS} (h : s.2 ≠ 0) : f7 s = s := by unfold f7 f6 f5; simp only [f4_err h, rI_err h, rB_err h]
theorem rA_kn {K : Nat} {s : RS} (h : s.2 ≠ 0) : (rA K s).kn = false := by show (rB (f4 s)).1 = false; rw [f4_err h, rB_err h]
theorem f7_left (s : RS) : ((f7 s).2 = 0 → s.2 = 0) ∧ lft (f7 s) ≤ lft s := by
  have h1 := rI_left s
  have h2 := rI_left (f1 s)
  have h3 := rU_left (f2 s)
  have h4 := rI_left (f3 s)
  have h5 := rB_left (f4 s)
  have h6 := rB_left (f5 s)
  have h7 := rI_left (f6 s)
  refine ⟨fun e => h1.1 (h2.1 (h3.1 (h4.1 (h5.1 (h6.1 (h7.1 e)))))), ?_⟩
  have a1 : lft (f1 s) ≤ lft s := h1.2
  have a2 : lft (f2 s) ≤ lft (f1 s) := h2.2
  have a3 : lft (f3 s) ≤ lft (f2 s) := h3.2
  have a4 : lft (f4 s) ≤ lft (f3 s) := h4.2
  have a5 : lft (f5 s) ≤ lft (f4 s) := h5.2
  have a6 : lft (f6 s) ≤ lft (f5 s) := h6.2
  have a7 : lft (f7 s) ≤ lft (f6 s) := h7.2
  omega
/-- The invariant: what was read and what is left. -/
def Pot (s : RS) (t : Tr) : Prop := t.qs.length * 3 + lft s ≤ 603 + (if s.2 = 0 then 0 else 6)
theorem Pot.step {K : Nat} {s : RS} {t : Tr} (h : Pot s t) : Pot (rAx K s).2 (t.answer (rA K s)).1 := by
  unfold Pot at h ⊢
  by_cases h0 : s.2 = 0
  · rw [if_pos h0] at h
    have hf := f7_left s
    have hn := rCS_left K (f7 s)
    by_cases hc : (rAn K s).2.2 = 0
    · have hfr := fold_read (rA K s).m (rAn K s).1 (rAn K s).2 (setQ (rA K s).q (rA K s) t.qs) hc
      rw [setQ_length] at hfr
      have e1 : (rAn K s).2.1.length = lft (rAn K s).2 := by unfold lft; rw [if_pos hc]
      have e2 : lft (rAn K s).2 ≤ lft (f7 s) := hn.2
      have e3 : (rXs (rAn K s).1 (rAn K s).2 []) = rAx K s := rfl
      rw [e3] at hfr
      have hle : lft (rAx K s).2 ≤ lft s := by
        have hg := fold_ge (rA K s).m (rAx K s).1 (setQ (rA K s).q (rA K s) t.qs)
        rw [setQ_length] at hg
        by_cases he : (rAx K s).2.2 = 0
        · rw [if_pos he] at hfr; omega
        · unfold lft; rw [if_neg he]; omega
      rcases answer_qs t (rA K s) with e | e
      · rw [e]
        split <;> omega
      · rw [e, rA_ins]
        split at hfr <;> simp_all <;> omega
    · have e4 : rAx K s = ([], (rAn K s).2) := by
        unfold rAx
        have : (rAn K s).1 = 0 := by
          by_cases hz : (f7 s).2 = 0
          · show (rCS K (f7 s)).1 = 0
            have hc' : (rCS K (f7 s)).2.2 ≠ 0 := hc
            revert hc'
            unfold rCS rCK
            rw [if_pos hz]
            split
            · split
              · intro hc'; exact absurd rfl hc'
              · intro _; rfl
            · intro _; rfl
          · show (rCS K (f7 s)).1 = 0
            rw [rCS_err hz]
        rw [this]; rfl
      have e5 : lft (rAn K s).2 = 0 := by unfold lft; rw [if_neg hc]
      rw [e4]
      simp only
      rw [if_neg hc]
      rcases answer_qs t (rA K s) with e | e
      · rw [e]; omega
      · rw [e, rA_ins, e4]
        simp only [List.foldl_nil]
        rw [setQ_length]
        omega
  · rw [if_neg h0] at h
    have hf : f7 s = s := f7_err h0
    obtain ⟨e1, e2⟩ := rA_err (K := K) (s := s) (by rw [hf]; exact h0)
    rw [e2, hf, answer_kn (rA_kn h0), if_neg h0]
    exact h
theorem Pot.all {K told : Nat} {x : DS} (h : Pot x.1 x.2.1) : ∀ k s t b, dA K told x k = some (s, t, b) → Pot s t
  | 0, s, t, b, e => by cases e; exact h
  | k + 1, s, t, b, e => by
    have e' : (dA K told x k).bind (dS K told) = some (s, t, b) := e
    rw [Option.bind_eq_some_iff] at e'
    obtain ⟨⟨s0, t0, b0⟩, h1, h2⟩ := e'
    have ih := Pot.all h k s0 t0 b0 h1
    unfold dS at h2
    split at h2
    · cases h2
    · cases h2
      exact ih.step
theorem dbnd_small {l : List UInt8} (h : l.length ≤ 600) : DBnd l := by
  have hp : Pot (hX l).1 (hX l).2.1 := by
    show (Tr.new _ _ _).qs.length * 3 + lft (rCS l.length (h6 l)).2 ≤ _
    have a0 : lft (l, 0) = l.length := rfl
    have a1 : lft (h1 l) ≤ lft (l, 0) := (rI_left _).2
    have a2 : lft (h2 l) ≤ lft (h1 l) := (rI_left _).2
    have a3 : lft (h3 l) ≤ lft (h2 l) := (rI_left _).2
    have a4 : lft (h4 l) ≤ lft (h3 l) := (rU_left _).2
    have a5 : lft (h5 l) ≤ lft (h4 l) := (rI_left _).2
    have a6 : lft (h6 l) ≤ lft (h5 l) := (rU_left _).2
    have a7 := (rCS_left l.length (h6 l)).2
    show 1 * 3 + _ ≤ _
    omega
  have hq : ∀ s t, Pot s t → t.qs.length ≤ 203 := fun s t hpt => by
    unfold Pot at hpt
    split at hpt <;> omega
  have hN : hN l ≤ l.length := rCS_le _ _
  refine ⟨by omega, fun k s t b _ e => ?_, fun s t b e => ?_, by omega⟩
  · have h1 := hq s t (hp.all k s t b e)
    have h2 : (rA l.length s).ins.length ≤ l.length := by rw [rA_len]; exact rCS_le _ _
    omega
  · have h1 := hq s t (hp.all _ s t b e)
    omega
end Go.Proofs.YthfdngjbcgkkfaaGreat

namespace Go.Proofs.YthfdngjbcgkkfaaGreat
open Go.RowKit

/-! ### the bytes -/
theorem digs_hd {n : Nat} (h : 0 < n) : ∃ b t, digs n = b :: t ∧ b ≠ 0 := by
  induction n using Nat.strongRecOn with
  | _ n ih =>
    rw [digs_pos h]
    rcases Nat.eq_zero_or_pos (n / 256) with e | e
    · rw [e, digs_zero]
      refine ⟨UInt8.ofNat (n % 256), [], rfl, fun e0 => ?_⟩
      have := congrArg UInt8.toNat e0
      simp at this; omega
    · obtain ⟨b, t, h1, h2⟩ := ih (n / 256) (by omega) e
      exact ⟨b, t ++ [UInt8.ofNat (n % 256)], by rw [h1]; rfl, h2⟩
theorem readU_enc (n : Nat) (l : List UInt8) (h : n < 18446744073709551616) : readU (encU n ++ l) = some (n, l) := by
  have h8 := digs_len8 h
  have hk : (UInt8.ofNat (digs n).length).toNat = (digs n).length := by simp; omega
  have hhead : 0 < (digs n).length → (digs n ++ l).headD 1 ≠ 0 := fun hp => by
    rcases Nat.eq_zero_or_pos n with e | e
    · rw [e, digs_zero] at hp; simp at hp
    · obtain ⟨b, t, h1, h2⟩ := digs_hd e
      rw [h1]; simpa using h2
  simp only [encU, List.cons_append, readU, hk]
  rw [if_pos ⟨h8, by simp, hhead⟩]
  simp [valU_digs]
theorem readB_enc (b : Bool) (l : List UInt8) : readB (encB b ++ l) = some (b, l) := by
  cases b
  · show (if (0 : UInt8).toNat ≤ 1 then some ((0 : UInt8).toNat == 1, l) else none) = _
    rw [if_pos (by decide)]; rfl
  · show (if (1 : UInt8).toNat ≤ 1 then some ((1 : UInt8).toNat == 1, l) else none) = _
    rw [if_pos (by decide)]; rfl
theorem rU_enc (n : Nat) (l : List UInt8) (h : n < 18446744073709551616) : rU (encU n ++ l, 0) = (n, (l, 0)) := by
  unfold rU
  rw [if_pos rfl]
  simp only [readU_enc n l h]
theorem rI_enc (z : Int) (l : List UInt8) (h : W64 z) : rI (encI z ++ l, 0) = (z, (l, 0)) := by
  unfold rI encI
  rw [rU_enc _ _ (zig_lt (w64_iff.1 h)), uzig_zig]
theorem rB_enc (b : Bool) (l : List UInt8) : rB (encB b ++ l, 0) = (b, (l, 0)) := by
  unfold rB
  rw [if_pos rfl]
  simp only [readB_enc b l]
theorem rCS_enc (K n : Nat) (l : List UInt8) (h : n < 18446744073709551616) (hK : n ≤ K) (hl : n ≤ l.length) : rCS K (encU n ++ l, 0) = (n, (l, 0)) := by
  unfold rCS rCK
  rw [if_pos rfl]
  simp only [readU_enc n l h]
  rw [if_pos (by unfold cEK; rw [if_neg (by omega), if_neg (by omega)])]
theorem encU_pos (n : Nat) : 1 ≤ (encU n).length := by simp [encU]
theorem rX_enc (x : T3) (l : List UInt8) (h : InsFit x) : rX (encX x ++ l, 0) = (x, (l, 0)) := by
  have e1 : encX x ++ l = encI x.1 ++ (encU x.2.1 ++ (encI x.2.2 ++ l)) := by simp [encX]
  unfold rX
  rw [e1, rI_enc _ _ h.a]
  simp only [rU_enc _ _ h.n, rI_enc _ _ h.c]
theorem rXs_enc : ∀ (X : List T3) (l : List UInt8) (L : List T3), (∀ x ∈ X, InsFit x) → rXs X.length (encXs X ++ l, 0) L = (L ++ X, (l, 0))
  | [], l, L, _ => by simp [rXs, encXs]
  | x :: X, l, L, h => by
    have e1 : encXs (x :: X) ++ l = encX x ++ (encXs X ++ l) := by simp [encXs]
    rw [e1, List.length_cons, rXs_succ, rX_enc x _ (h x (by simp))]
    simp only
    rw [rXs_enc X l (L ++ [x]) (fun y hy => h y (by simp [hy]))]
    simp
theorem encXs_pos : ∀ X : List T3, X.length ≤ (encXs X).length
  | [] => by simp
  | x :: X => by
    have := encXs_pos X
    have h1 := encU_pos (zig x.1)
    have e1 : encXs (x :: X) = encX x ++ encXs X := by simp [encXs]
    rw [e1]
    simp only [encX, encI, List.length_append, List.length_cons]
    omega
theorem rA_enc (K : Nat) (a : Ans) (l : List UInt8) (ha : a.Ok) (hK : a.ins.length ≤ K) (hb : a.ins.length < 18446744073709551616) : rA K (encA a ++ l, 0) = a ∧ (rAx K (encA a ++ l, 0)).2 = (l, 0) := by
  have e1 : encA a ++ l = encI a.m ++ (encI a.ow ++ (encU a.n ++ (encI a.ep ++ (encB a.kn ++ (encB a.rt ++ (encI a.lu ++ (encU a.ins.length ++ (encXs a.ins ++ l)))))))) := by simp [encA, encA0]
  have q1 := rI_enc a.m (encI a.ow ++ (encU a.n ++ (encI a.ep ++ (encB a.kn ++ (encB a.rt ++ (encI a.lu ++ (encU a.ins.length ++ (encXs a.ins ++ l)))))))) ha.q.1
  have q2 := rI_enc a.ow (encU a.n ++ (encI a.ep ++ (encB a.kn ++ (encB a.rt ++ (encI a.lu ++ (encU a.ins.length ++ (encXs a.ins ++ l))))))) ha.q.2.1
  have q3 := rU_enc a.n (encI a.ep ++ (encB a.kn ++ (encB a.rt ++ (encI a.lu ++ (encU a.ins.length ++ (encXs a.ins ++ l)))))) ha.q.2.2
  have q4 := rI_enc a.ep (encB a.kn ++ (encB a.rt ++ (encI a.lu ++ (encU a.ins.length ++ (encXs a.ins ++ l))))) ha.ep
  have q5 := rB_enc a.kn (encB a.rt ++ (encI a.lu ++ (encU a.ins.length ++ (encXs a.ins ++ l))))
  have q6 := rB_enc a.rt (encI a.lu ++ (encU a.ins.length ++ (encXs a.ins ++ l)))
  have q7 := rI_enc a.lu (encU a.ins.length ++ (encXs a.ins ++ l)) ha.lu
  have hp := encXs_pos a.ins
  have q8 := rCS_enc K a.ins.length (encXs a.ins ++ l) hb hK (by simp; omega)
  have q9 := rXs_enc a.ins l [] ha.fitI
  rw [e1]
  generalize encI a.m ++ (encI a.ow ++ (encU a.n ++ (encI a.ep ++ (encB a.kn ++ (encB a.rt ++ (encI a.lu ++ (encU a.ins.length ++ (encXs a.ins ++ l)))))))) = l0 at *
  generalize encI a.ow ++ (encU a.n ++ (encI a.ep ++ (encB a.kn ++ (encB a.rt ++ (encI a.lu ++ (encU a.ins.length ++ (encXs a.ins ++ l))))))) = l1 at *
  generalize encU a.n ++ (encI a.ep ++ (encB a.kn ++ (encB a.rt ++ (encI a.lu ++ (encU a.ins.length ++ (encXs a.ins ++ l)))))) = l2 at *
  generalize encI a.ep ++ (encB a.kn ++ (encB a.rt ++ (encI a.lu ++ (encU a.ins.length ++ (encXs a.ins ++ l))))) = l3 at *
  generalize encB a.kn ++ (encB a.rt ++ (encI a.lu ++ (encU a.ins.length ++ (encXs a.ins ++ l)))) = l4 at *
  generalize encB a.rt ++ (encI a.lu ++ (encU a.ins.length ++ (encXs a.ins ++ l))) = l5 at *
  generalize encI a.lu ++ (encU a.ins.length ++ (encXs a.ins ++ l)) = l6 at *
  generalize encU a.ins.length ++ (encXs a.ins ++ l) = l7 at *
  have s1 : f1 (l0, 0) = (l1, 0) := by unfold f1; rw [q1]
  have s2 : f2 (l0, 0) = (l2, 0) := by unfold f2; rw [s1, q2]
  have s3 : f3 (l0, 0) = (l3, 0) := by unfold f3; rw [s2, q3]
  have s4 : f4 (l0, 0) = (l4, 0) := by unfold f4; rw [s3, q4]
  have s5 : f5 (l0, 0) = (l5, 0) := by unfold f5; rw [s4, q5]
  have s6 : f6 (l0, 0) = (l6, 0) := by unfold f6; rw [s5, q6]
  have s7 : f7 (l0, 0) = (l7, 0) := by unfold f7; rw [s6, q7]
  have s8 : rAn K (l0, 0) = (a.ins.length, (encXs a.ins ++ l, 0)) := by unfold rAn; rw [s7, q8]
  have s9 : rAx K (l0, 0) = (a.ins, (l, 0)) := by unfold rAx; rw [s8, q9]; simp
  refine ⟨?_, by rw [s9]⟩
  unfold rA rA0
  rw [s9, s1, s2, s3, s4, s5, s6, q1, q2, q3, q4, q5, q6, q7]
theorem encH_pos : ∀ H : List Ans, H.length ≤ (encH H).length
  | [] => by simp
  | a :: H => by
    have := encH_pos H
    have h1 := encU_pos (zig a.m)
    have e1 : encH (a :: H) = encA a ++ encH H := by simp [encH]
    rw [e1]
    simp only [encA, encA0, encI, List.length_append, List.length_cons]
    omega
theorem encH_drop (H : List Ans) (k : Nat) (hk : k < H.length) : encH (H.drop k) = encA H[k] ++ encH (H.drop (k + 1)) := by
  rw [List.drop_eq_getElem_cons hk]
  unfold encH
  rw [List.map_cons, List.flatten_cons]
/-! ### what a trace's record gives -/
def rpl (t : Tr) (H : List Ans) : Tr := H.foldl (fun t a => (t.answer a).1) t
theorem rpl_snoc (t : Tr) (H : List Ans) (a : Ans) : rpl t (H ++ [a]) = ((rpl t H).answer a).1 := by unfold rpl; rw [List.foldl_append]; rfl
theorem rpl_take (t : Tr) (H : List Ans) (k : Nat) (hk : k < H.length) : rpl t (H.take (k + 1)) = ((rpl t (H.take k)).answer H[k]).1 := by rw [List.take_succ_eq_append_getElem hk, rpl_snoc]
theorem rpl_len (t : Tr) : ∀ (H : List Ans) (n : Nat), (∀ a ∈ H, a.ins.length ≤ 5) → t.qs.length ≤ n → (rpl t H).qs.length ≤ n + 5 * H.length := fun H => by
  induction H generalizing t with
  | nil => intro n _ h; simpa [rpl] using h
  | cons a H ih =>
    intro n ha h
    have e : rpl t (a :: H) = rpl (t.answer a).1 H := rfl
    rw [e]
    have h1 : (t.answer a).1.qs.length ≤ n + 5 := by
      rcases answer_qs t a with e | e
      · rw [e]; omega
      · rw [e]
        have e1 := fold_len a.m a.ins (setQ a.q a t.qs)
        rw [setQ_length] at e1
        have e2 := ha a (by simp)
        omega
    have := ih (t.answer a).1 (n + 5) (fun b hb => ha b (by simp [hb])) h1
    simp only [List.length_cons]
    omega
def Tr.base (t : Tr) : Tr := Tr.new t.im t.is t.st
structure Tr.Rep (t : Tr) : Prop where
  ok : ∀ k (hk : k < t.hist.length), ((rpl t.base (t.hist.take k)).answer t.hist[k]).2 = 0
  fin : ∃ u, gA (rpl t.base t.hist) t.ag.length = some u ∧ rfS t.rf u = some { t with told := 0 }
  tl : t.told = 0 ∨ ∃ k, k ≤ t.hist.length ∧ (rpl t.base (t.hist.take k)).state = 0 ∧ t.told = (rpl t.base (t.hist.take k)).qs.length
theorem Tr.Rep.new (im is : Int) (st : T3) : (Tr.new im is st).Rep := ⟨fun k hk => by simp [Tr.new] at hk, ⟨Tr.new im is st, rfl, rfl⟩, .inl rfl⟩
theorem ans_told2 (t : Tr) (a : Ans) (x : Int) : ({ t with told := x } : Tr).answer a = ({ (t.answer a).1 with told := x }, (t.answer a).2) := by
  unfold Tr.answer
  simp only
  split
  · rfl
  split
  · rfl
  split
  · rfl
  split
  · rfl
  have e : ({ t with told := x } : Tr).take a = { t.take a with told := x } := rfl
  simp only [Tr.take, Tr.put]
  split
  · rfl
  unfold Tr.close
  simp only
  split <;> rfl
/-- While a trace gathers, it is what its history gives. -/
theorem Tr.Rep.now {t : Tr} (h : t.Rep) (ha : t.ag = []) (hr : t.rf = false) : rpl t.base t.hist = { t with told := 0 } := by
  obtain ⟨u, h1, h2⟩ := h.fin
  rw [ha] at h1
  have e0 : rfS t.rf u = some u := by rw [hr]; rfl
  rw [e0] at h2
  have e1 : rpl t.base t.hist = u := Option.some.inj h1
  have e2 : u = { t with told := 0 } := Option.some.inj h2
  rw [e1, e2]
theorem Tr.Rep.conf {t : Tr} (h : t.Rep) (hr : t.rf = false) : gA (rpl t.base t.hist) t.ag.length = some { t with told := 0 } := by
  obtain ⟨u, h1, h2⟩ := h.fin
  have e0 : rfS t.rf u = some u := by rw [hr]; rfl
  rw [e0] at h2
  have e2 : u = { t with told := 0 } := Option.some.inj h2
  rw [h1, e2]
theorem Tr.answer_more (t : Tr) (a : Ans) : (t.answer a).1 = t ∨ (t.state = 0 ∧ (t.answer a).2 = 0 ∧ (t.answer a).1.hist = t.hist ++ [a] ∧ (t.answer a).1.rf = t.rf ∧ (t.answer a).1.told = t.told ∧ (t.answer a).1.ag = t.ag) := by
  unfold Tr.answer
  split
  · exact .inl rfl
  rename_i h0
  have h0 : t.state = 0 := by simpa using h0
  split
  · exact .inl rfl
  split
  · exact .inr ⟨h0, rfl, rfl, rfl, rfl, rfl⟩
  split
  · exact .inr ⟨h0, rfl, rfl, rfl, rfl, rfl⟩
  split
  · exact .inr ⟨h0, rfl, rfl, rfl, rfl, rfl⟩
  unfold Tr.close
  split <;> exact .inr ⟨h0, rfl, rfl, rfl, rfl, rfl⟩
theorem Tr.Rep.answer {t : Tr} {n : Nat} (h : t.Rep) (hb : t.Bnd n) (a : Ans) : (t.answer a).1.Rep := by
  rcases t.answer_more a with e | ⟨h0, h1, h2, h3, h4, h5⟩
  · rw [e]; exact h
  have hag := hb.s0 h0
  have hrf : t.rf = false := by
    cases e : t.rf with
    | false => rfl
    | true => have := hb.rf e; omega
  have hnow := h.now hag hrf
  obtain ⟨_, i1, i2, i3, _⟩ := Tr.answer_hist t a
  have hbase : (t.answer a).1.base = t.base := by unfold Tr.base; rw [i1, i2, i3]
  have hend : rpl t.base (t.hist ++ [a]) = { (t.answer a).1 with told := 0 } := by rw [rpl_snoc, hnow, ans_told2]
  refine ⟨fun k hk => ?_, ?_, ?_⟩
  · rw [hbase]
    simp only [h2] at hk ⊢
    rcases Nat.lt_or_ge k t.hist.length with hl | hl
    · rw [List.take_append_of_le_length (by omega), List.getElem_append_left hl]
      exact h.ok k hl
    · have hk' : k = t.hist.length := by simp at hk; omega
      subst hk'
      rw [List.take_append_of_le_length (Nat.le_refl _), List.take_length, hnow, ans_told2]
      simpa using h1
  · have z1 : rpl (t.answer a).1.base (t.answer a).1.hist = { (t.answer a).1 with told := 0 } := by rw [hbase, h2]; exact hend
    have z2 : (t.answer a).1.ag.length = 0 := by rw [h5, hag]; rfl
    have z3 : (t.answer a).1.rf = false := by rw [h3, hrf]
    refine ⟨{ (t.answer a).1 with told := 0 }, by rw [z1, z2]; rfl, ?_⟩
    unfold rfS
    rw [if_neg (by rw [z3]; decide)]
  · rw [hbase, h2, h4]
    rcases h.tl with e | ⟨k, k1, k2, k3⟩
    · exact .inl e
    · refine .inr ⟨k, by simp; omega, ?_⟩
      rw [List.take_append_of_le_length k1]
      exact ⟨k2, k3⟩
theorem Tr.Rep.queries {t : Tr} {n : Nat} (h : t.Rep) (hb : t.Bnd n) : t.queries.1.Rep := by
  unfold Tr.queries
  split
  · exact h
  rename_i h0
  have h0 : t.state = 0 := by simpa using h0
  have hag := hb.s0 h0
  have hrf : t.rf = false := by
    cases e : t.rf with
    | false => rfl
    | true => have := hb.rf e; omega
  have hnow := h.now hag hrf
  refine ⟨h.ok, h.fin, .inr ⟨t.hist.length, Nat.le_refl _, ?_⟩⟩
  show (rpl t.base (t.hist.take t.hist.length)).state = 0 ∧ (t.qs.length : Int) = (rpl t.base (t.hist.take t.hist.length)).qs.length
  rw [List.take_length, hnow]
  exact ⟨h0, rfl⟩
theorem Tr.Rep.agree {t : Tr} {n : Nat} (h : t.Rep) (hb : t.Bnd n) (m : Int) : (t.agreeT m).1.Rep := by
  by_cases h1 : t.state = 1
  · have hrf : t.rf = false := by
      cases e : t.rf with
      | false => rfl
      | true => have := hb.rf e; omega
    have hconf := h.conf hrf
    have hlt := hb.s1 h1
    have hp : t.clm[t.ag.length]? = some t.clm[t.ag.length] := List.getElem?_eq_getElem hlt
    unfold Tr.agreeT
    rw [if_neg (by simp [h1]), hp]
    simp only
    split
    · exact h
    · rename_i hm
      have hm : t.clm[t.ag.length].m = m := by simpa using hm
      refine ⟨h.ok, ⟨{ t with told := 0, ag := t.ag ++ [m], state := if t.ag.length + 1 = t.clm.length then 2 else t.state }, ?_, ?_⟩, h.tl⟩
      · show gA (rpl t.base t.hist) (t.ag ++ [m]).length = _
        rw [List.length_append]
        show (gA (rpl t.base t.hist) t.ag.length).bind gS = _
        rw [hconf]
        show gS { t with told := 0 } = _
        unfold gS
        rw [if_pos h1]
        have e1 : ({ t with told := 0 } : Tr).clm = t.clm := Tr.clm_qs rfl
        have e2 : ({ t with told := 0 } : Tr).pm = m := by
          unfold Tr.pm
          rw [e1]
          simp only [hp]
          exact hm
        rw [e2]
        unfold Tr.agreeT
        rw [if_neg (by simp [h1]), e1]
        simp only [hp]
        rw [if_neg (by simp [hm])]
      · simp only [hrf]
        rfl
  · have e : (t.agreeT m).1 = t := by
      unfold Tr.agreeT
      rw [if_pos h1]
    rw [e]; exact h
theorem Tr.Rep.refuse {t : Tr} {n : Nat} (h : t.Rep) (hb : t.Bnd n) (m : Int) : (t.refuseT m).1.Rep := by
  by_cases h1 : t.state = 1
  · have hrf : t.rf = false := by
      cases e : t.rf with
      | false => rfl
      | true => have := hb.rf e; omega
    have hconf := h.conf hrf
    have hlt := hb.s1 h1
    have hp : t.clm[t.ag.length]? = some t.clm[t.ag.length] := List.getElem?_eq_getElem hlt
    unfold Tr.refuseT
    rw [if_neg (by simp [h1]), hp]
    simp only
    split
    · exact h
    · rename_i hm
      have hm : t.clm[t.ag.length].m = m := by simpa using hm
      refine ⟨h.ok, ⟨{ t with told := 0 }, hconf, ?_⟩, h.tl⟩
      unfold rfS
      rw [if_pos rfl, if_pos h1]
      have e1 : ({ t with told := 0 } : Tr).clm = t.clm := Tr.clm_qs rfl
      have e2 : ({ t with told := 0 } : Tr).pm = m := by
        unfold Tr.pm
        rw [e1]
        simp only [hp]
        exact hm
      rw [e2]
      unfold Tr.refuseT
      rw [if_neg (by simp [h1]), e1]
      simp only [hp]
      rw [if_neg (by simp [hm])]
  · have e : (t.refuseT m).1 = t := by
      unfold Tr.refuseT
      rw [if_pos h1]
    rw [e]; exact h
theorem Tr.Rep.step {t : Tr} {n : Nat} (h : t.Rep) (hb : t.Bnd n) (o : Op3) : (o.step t).Rep := by
  unfold Op3.step
  split
  · exact h.answer hb _
  split
  · exact h.queries hb
  split
  · exact h.agree hb _
  split
  · exact h.refuse hb _
  · exact h
/-! ### the round trip -/
def tlT (t : Tr) : List UInt8 := encU t.ag.length ++ encB t.rf
theorem encT_head (t : Tr) (tn : Nat) (ht : t.told = tn) : encT t = encI t.im ++ (encI t.is ++ (encI t.st.1 ++ (encU t.st.2.1 ++ (encI t.st.2.2 ++ (encU tn ++ (encU t.hist.length ++ (encH t.hist ++ tlT t))))))) := by
  simp [encT, encT0, tlT, ht]
theorem dec_head {t : Tr} (hn : t.Num) (tn : Nat) (ht : t.told = tn) (g1 : tn ≤ 1025) (g2 : t.hist.length ≤ 100000) : hTold (encT t) = tn ∧ hN (encT t) = t.hist.length ∧ hX (encT t) = ((encH t.hist ++ tlT t, 0), t.base, decide (tn = 0) || decide (tn = 1)) := by
  have hl : t.hist.length ≤ (encT t).length := by
    rw [encT_head t tn ht]
    have := encH_pos t.hist
    simp only [List.length_append]
    omega
  have e0 := encT_head t tn ht
  generalize encT t = l0 at *
  have q1 := rI_enc t.im (encI t.is ++ (encI t.st.1 ++ (encU t.st.2.1 ++ (encI t.st.2.2 ++ (encU tn ++ (encU t.hist.length ++ (encH t.hist ++ tlT t))))))) hn.im
  rw [← e0] at q1
  have q2 := rI_enc t.is (encI t.st.1 ++ (encU t.st.2.1 ++ (encI t.st.2.2 ++ (encU tn ++ (encU t.hist.length ++ (encH t.hist ++ tlT t)))))) hn.is
  have q3 := rI_enc t.st.1 (encU t.st.2.1 ++ (encI t.st.2.2 ++ (encU tn ++ (encU t.hist.length ++ (encH t.hist ++ tlT t))))) hn.s0
  have q4 := rU_enc t.st.2.1 (encI t.st.2.2 ++ (encU tn ++ (encU t.hist.length ++ (encH t.hist ++ tlT t)))) hn.s1
  have q5 := rI_enc t.st.2.2 (encU tn ++ (encU t.hist.length ++ (encH t.hist ++ tlT t))) hn.s2
  have q6 := rU_enc tn (encU t.hist.length ++ (encH t.hist ++ tlT t)) (by omega)
  have q7 := rCS_enc l0.length t.hist.length (encH t.hist ++ tlT t) (by omega) hl (by have := encH_pos t.hist; simp; omega)
  have s1 : h1 l0 = (encI t.is ++ (encI t.st.1 ++ (encU t.st.2.1 ++ (encI t.st.2.2 ++ (encU tn ++ (encU t.hist.length ++ (encH t.hist ++ tlT t)))))), 0) := by unfold h1; rw [q1]
  have s2 : h2 l0 = (encI t.st.1 ++ (encU t.st.2.1 ++ (encI t.st.2.2 ++ (encU tn ++ (encU t.hist.length ++ (encH t.hist ++ tlT t))))), 0) := by unfold h2; rw [s1, q2]
  have s3 : h3 l0 = (encU t.st.2.1 ++ (encI t.st.2.2 ++ (encU tn ++ (encU t.hist.length ++ (encH t.hist ++ tlT t)))), 0) := by unfold h3; rw [s2, q3]
  have s4 : h4 l0 = (encI t.st.2.2 ++ (encU tn ++ (encU t.hist.length ++ (encH t.hist ++ tlT t))), 0) := by unfold h4; rw [s3, q4]
  have s5 : h5 l0 = (encU tn ++ (encU t.hist.length ++ (encH t.hist ++ tlT t)), 0) := by unfold h5; rw [s4, q5]
  have s6 : h6 l0 = (encU t.hist.length ++ (encH t.hist ++ tlT t), 0) := by unfold h6; rw [s5, q6]
  have s7 : hTold l0 = tn := by
    unfold hTold
    rw [s5, q6]
    simp only
    omega
  have s8 : hN l0 = t.hist.length := by unfold hN; rw [s6, q7]
  refine ⟨s7, s8, ?_⟩
  unfold hX
  rw [s7, s6, q7]
  unfold hT
  rw [s1, s2, s3, s4, q1, q2, q3, q4, q5]
  rfl
theorem dec_step {t : Tr} (h : t.Rep) (hi : ∀ a ∈ t.hist, a.Ok ∧ a.ins.length ≤ 5) (tn K : Nat) (b : Bool) (hK : 5 ≤ K) (k : Nat) (hk : k ≤ t.hist.length) (hb : tn = 0 ∨ tn = 1 → b = true) :
    ∃ c, dA K tn ((encH t.hist ++ tlT t, 0), t.base, b) k = some ((encH (t.hist.drop k) ++ tlT t, 0), rpl t.base (t.hist.take k), c) ∧ ((tn = 0 ∨ ∃ j, j ≤ k ∧ (rpl t.base (t.hist.take j)).state = 0 ∧ tn = (rpl t.base (t.hist.take j)).qs.length) → c = true) := by
  induction k with
  | zero =>
    refine ⟨b, by simp [dA, rpl], ?_⟩
    rintro (e | ⟨j, h1, _, h3⟩)
    · exact hb (.inl e)
    · refine hb (.inr ?_)
      rw [show j = 0 by omega] at h3
      exact h3
  | succ k ih =>
    have hk' : k < t.hist.length := by omega
    obtain ⟨c, e1, e2⟩ := ih (by omega)
    have ha := hi _ (List.getElem_mem hk')
    obtain ⟨r1, r2⟩ := rA_enc K t.hist[k] (encH (t.hist.drop (k + 1)) ++ tlT t) ha.1 (by omega) (by omega)
    have e3 : encH (t.hist.drop k) ++ tlT t = encA t.hist[k] ++ (encH (t.hist.drop (k + 1)) ++ tlT t) := by rw [encH_drop _ _ hk']; simp
    refine ⟨c || askd tn (rpl t.base (t.hist.take (k + 1))), ?_, ?_⟩
    · show (dA K tn _ k).bind (dS K tn) = _
      rw [e1]
      show dS K tn _ = _
      unfold dS
      simp only
      rw [e3, r1, r2, if_neg (by have := h.ok k hk'; omega), rpl_take _ _ _ hk']
    · rintro (e | ⟨j, h1, h2, h3⟩)
      · rw [e2 (.inl e)]; rfl
      · by_cases hj : j ≤ k
        · rw [e2 (.inr ⟨j, hj, h2, h3⟩)]; rfl
        · have hj' : j = k + 1 := by omega
          subst hj'
          unfold askd
          rw [h2, h3]
          simp
/-- What was encoded is decoded. -/
theorem dec_encT {t : Tr} {n : Nat} (h : t.Rep) (hb : t.Bnd n) (hv : t.Inv) (hn : n ≤ 30) (hm : t.Num) : dec (encT t) = some t := by
  obtain ⟨tn, ht, htl⟩ := hb.tl
  have hq := hb.qs
  have hl := hb.hl
  obtain ⟨s1, s2, s3⟩ := dec_head hm tn ht (by omega) (by omega)
  have hi : ∀ a ∈ t.hist, a.Ok ∧ a.ins.length ≤ 5 := fun a ha => ⟨hv.hi a ha, hb.hi a ha⟩
  by_cases hK : 5 ≤ (encT t).length
  · obtain ⟨c, d1, d2⟩ := dec_step h hi tn (encT t).length (decide (tn = 0) || decide (tn = 1)) hK t.hist.length (Nat.le_refl _) (by simp)
    have hc : c = true := d2 (by
      rcases h.tl with e | ⟨k, k1, k2, k3⟩
      · exact .inl (by omega)
      · exact .inr ⟨k, k1, k2, by omega⟩)
    rw [List.drop_length, List.take_length] at d1
    unfold dec
    rw [s1, s2, s3, d1]
    show dG (encT t) tn _ = some t
    unfold dG
    have e0 : (encH [] ++ tlT t : List UInt8) = encU t.ag.length ++ (encB t.rf ++ []) := by simp [encH, tlT]
    obtain ⟨u, g1, g2⟩ := h.fin
    have hag := hb.ag
    simp only
    rw [e0, rU_enc _ _ (by omega)]
    simp only
    rw [show min t.ag.length 1024 = t.ag.length by omega, g1]
    show dB (encT t) tn c _ u = some t
    unfold dB
    rw [rB_enc]
    simp only
    rw [g2]
    show dE (encT t) tn c _ _ = some t
    have e1 : ({ ({ t with told := 0 } : Tr) with told := (tn : Int) } : Tr) = t := by rw [← ht]
    unfold dE
    rw [e1, if_pos ⟨rfl, hc, rfl⟩]
  · exfalso
    have e := encT_head t tn ht
    have l1 := encU_pos (zig t.im)
    have l2 := encU_pos (zig t.is)
    have l3 := encU_pos (zig t.st.1)
    have l4 := encU_pos t.st.2.1
    have l5 := encU_pos (zig t.st.2.2)
    rw [e] at hK
    simp only [encI, List.length_append] at hK
    omega
theorem dec_bnd {t : Tr} {n : Nat} (h : t.Rep) (hb : t.Bnd n) (hv : t.Inv) (hn : n ≤ 30) (hm : t.Num) : DBnd (encT t) := by
  obtain ⟨tn, ht, htl⟩ := hb.tl
  have hq := hb.qs
  have hl := hb.hl
  have hag := hb.ag
  obtain ⟨s1, s2, s3⟩ := dec_head hm tn ht (by omega) (by omega)
  have hi : ∀ a ∈ t.hist, a.Ok ∧ a.ins.length ≤ 5 := fun a ha => ⟨hv.hi a ha, hb.hi a ha⟩
  have e := encT_head t tn ht
  have l1 := encU_pos (zig t.im)
  have l2 := encU_pos (zig t.is)
  have l3 := encU_pos (zig t.st.1)
  have l4 := encU_pos t.st.2.1
  have l5 := encU_pos (zig t.st.2.2)
  have hlen : (encT t).length ≤ 1099511627776 ∧ 5 ≤ (encT t).length := by
    have m1 := encI_len hm.im
    have m2 := encI_len hm.is
    have m3 := encI_len hm.s0
    have m4 := encU_len hm.s1
    have m5 := encI_len hm.s2
    have m6 := encU_len (n := tn) (by omega)
    have m7 := encU_len (n := t.hist.length) (by omega)
    have m8 := encH_len (L := t.hist) (fun a ha => ⟨(hi a ha).1, by have := (hi a ha).2; omega⟩)
    have m9 := encU_len (n := t.ag.length) (by omega)
    rw [e]
    simp only [encI, tlT, encB, List.length_append, List.length_cons, List.length_nil] at *
    omega
  have hrl : ∀ k, k ≤ t.hist.length → (rpl t.base (t.hist.take k)).qs.length ≤ 151 := fun k hk => by
    have := rpl_len t.base (t.hist.take k) 1 (fun a ha => (hi a (List.mem_of_mem_take ha)).2) (by simp [Tr.base, Tr.new])
    rw [List.length_take] at this
    omega
  refine ⟨hlen.1, fun k s u b hk hd => ?_, fun s u b hd => ?_, by rw [s2]; omega⟩
  · rw [s2] at hk
    rw [s1, s3] at hd
    obtain ⟨c, d1, _⟩ := dec_step h hi tn (encT t).length (decide (tn = 0) || decide (tn = 1)) hlen.2 k (by omega) (by simp)
    rw [d1] at hd
    cases hd
    have ha := hi _ (List.getElem_mem hk)
    have r1 := (rA_enc (encT t).length t.hist[k] (encH (t.hist.drop (k + 1)) ++ tlT t) ha.1 (by omega) (by omega)).1
    have e3 : encH (t.hist.drop k) ++ tlT t = encA t.hist[k] ++ (encH (t.hist.drop (k + 1)) ++ tlT t) := by rw [encH_drop _ _ hk]; simp
    rw [e3, r1]
    have := hrl k (by omega)
    omega
  · rw [s1, s2, s3] at hd
    obtain ⟨c, d1, _⟩ := dec_step h hi tn (encT t).length (decide (tn = 0) || decide (tn = 1)) hlen.2 t.hist.length (Nat.le_refl _) (by simp)
    rw [d1] at hd
    cases hd
    have := hrl t.hist.length (Nat.le_refl _)
    omega
end Go.Proofs.YthfdngjbcgkkfaaGreat

namespace Go.Proofs.YthfdngjbcgkkfaaGreat
open Go.RowKit

structure Two (w : World) (Bt bt bm : Nat) (vo vh vg : Value) (Bu bu bn : Nat) (uo uh ug : Value) (x : RfV) (t : Tr) : Prop where
  a : Both w Bt bt bm vo vh vg x t
  b : Both w Bu bu bn uo uh ug x t
  d : ∀ c ∈ ownT bt bm vo vh vg, c ∉ ownT bu bn uo uh ug
namespace Two
variable {w w' : World} {Bt bt bm Bu bu bn : Nat} {vo vh vg uo uh ug vo' vh' vg' uo' uh' ug' : Value} {x x' x'' : RfV} {t t' : Tr}
theorem keep {S : List Nat} (h : Two w Bt bt bm vo vh vg Bu bu bn uo uh ug x t) (hk : Keeps S w w') (hi : KI w w') (hS : ∀ c ∈ S, c ∉ ownT bt bm vo vh vg ∧ c ∉ ownT bu bn uo uh ug ∧ c ∉ blks x) : Two w' Bt bt bm vo vh vg Bu bu bn uo uh ug x t :=
  ⟨h.a.keep hk hi (fun c hc => ⟨(hS c hc).1, (hS c hc).2.2⟩), h.b.keep hk hi (fun c hc => (hS c hc).2), h.d⟩
theorem keeps (h : Two w Bt bt bm vo vh vg Bu bu bn uo uh ug x t) (hk : Keeps [] w w') : Two w' Bt bt bm vo vh vg Bu bu bn uo uh ug x t := h.keep hk hk.ki0 (by simp)
/-- Behind the step of the second trace. -/
theorem one (h : Two w Bt bt bm vo vh vg Bu bu bn uo uh ug x t) (hM : Mv (ownT bu bn uo uh ug) (ownT bu bn uo' uh' ug') w w') (hF : ∀ b ∈ blks x', b ∈ blks x ∨ w.heap.size ≤ b) :
    Both w' Bt bt bm vo vh vg x t ∧ (∀ c ∈ ownT bt bm vo vh vg, c ∉ ownT bu bn uo' uh' ug') ∧ (∀ c ∈ blks x', c ∉ ownT bt bm vo vh vg) := by
  have hlt : ∀ c ∈ ownT bt bm vo vh vg, c < w.heap.size := fun c hc => (h.a.m.own_tag hc).2.1
  refine ⟨h.a.keep hM.k hM.i (fun c hc => ⟨fun ho => h.d c ho hc, fun hx => (h.b.b c hx).2 hc⟩), fun c hc ho => ?_, fun c hc ho => ?_⟩
  · rcases hM.s c ho with h1 | h1
    · exact h.d c hc h1
    · have := hlt c hc; omega
  · rcases hF c hc with h1 | h1
    · exact (h.a.b c h1).2 ho
    · have := hlt c ho; omega
/-- Behind the step of the first. -/
theorem two (hd : ∀ c ∈ ownT bt bm vo vh vg, c ∉ ownT bu bn uo uh ug) (hx : ∀ c ∈ blks x', c ∉ ownT bt bm vo vh vg) (hU : Both w Bu bu bn uo uh ug x' t') (hB : Both w' Bt bt bm vo' vh' vg' x'' t')
    (hM : Mv (ownT bt bm vo vh vg) (ownT bt bm vo' vh' vg') w w') : Two w' Bt bt bm vo' vh' vg' Bu bu bn uo uh ug x' t' := by
  have hlt : ∀ c ∈ ownT bu bn uo uh ug, c < w.heap.size := fun c hc => (hU.m.own_tag hc).2.1
  refine ⟨⟨hB.m, hU.r.moved hM.k hM.i (fun b hb hxx => hx b hxx hb), fun b hb => ⟨Nat.lt_of_lt_of_le (hU.b b hb).1 hM.k.size, fun ho => ?_⟩⟩, hU.keep hM.k hM.i (fun c hc => ⟨fun ho => hd c hc ho, fun hxx => hx c hxx hc⟩), fun c hc ho => ?_⟩
  · rcases hM.s b ho with h1 | h1
    · exact hx b hb h1
    · have := (hU.b b hb).1; omega
  · rcases hM.s c hc with h1 | h1
    · exact hd c h1 ho
    · have := hlt c ho; omega
end Two
/-- A block with the tag of the specification's value is none of a trace's own. -/
theorem TrM.not_own {w : World} {B bt bm : Nat} {vo vh vg : Value} {t : Tr} (h : TrM w B bt bm vo vh vg t) {p : Nat} {cs : Array Value} (hp : w.heap[p]? = some (.cells cs tR (0, 0))) : p ∉ ownT bt bm vo vh vg := fun hm => by
  obtain ⟨_, _, ht⟩ := h.own_tag hm
  rcases ht with ⟨es, c, h⟩ | ⟨cs, e, h, he⟩
  · rw [hp] at h; cases h
  · rw [hp] at h
    cases h
    rcases he with he | he | he | he <;> exact absurd he (by decide)
end Go.Proofs.YthfdngjbcgkkfaaGreat

namespace Go.Proofs.YthfdngjbcgkkfaaGreat
open Go.RowKit

theorem Sh.O.lowD {α : Type} {s : Sh α} {w : World} {B B' e : Nat} {v : Value} {L : List α} (h : s.O w B e v L) (hB : B' ≤ B) : s.O w B' e v L := by
  refine ⟨h.1, ?_⟩
  rcases h.2 with hn | ⟨g, cap, cur, rfl, h1, rest⟩
  · exact .inl hn
  · exact .inr ⟨g, cap, cur, rfl, Nat.le_trans hB h1, rest⟩
theorem TrM.lowD {w : World} {B B' bt bm : Nat} {vo vh vg : Value} {t : Tr} (h : TrM w B bt bm vo vh vg t) (hB : B' ≤ B) : TrM w B' bt bm vo vh vg t := by
  obtain ⟨X, hX, hXL⟩ := h.hi
  exact ⟨h.blk, h.op.lowD hB, ⟨X, hX.lowD hB, hXL⟩, h.ag.lowD hB, h.mp, h.inv, ⟨Nat.le_trans hB h.bB.1, Nat.le_trans hB h.bB.2⟩⟩
theorem RefPost.d {w w' : World} {B bt bm : Nat} {vo vh vg : Value} {t : Tr} {m : Int} {e : Ending} (hi : t.Inv) (h : RefPost w B bt bm vo vh vg t m e w') :
    e = .returned (.int .i64 (t.refuseT m).2) ∧ TrM w' B bt bm vo vh vg (t.refuseT m).1 ∧ Mv (ownT bt bm vo vh vg) (ownT bt bm vo vh vg) w w' := by
  obtain ⟨r, t', rfl, hT, hM, hc⟩ := h
  rcases hc with ⟨h1, rfl, rfl⟩ | ⟨h1, P, Y, p, hY, hP, hget, h2⟩
  · unfold Tr.refuseT
    rw [if_pos h1]
    exact ⟨rfl, hT, hM⟩
  · have hg : t.clm[t.ag.length]? = some p := by rw [← Tr.clm_eq hi hY hP]; exact hget
    unfold Tr.refuseT
    rw [if_neg (by simp [h1]), hg]
    simp only
    rcases h2 with ⟨h3, rfl, rfl⟩ | ⟨h3, rfl, rfl⟩
    · rw [if_pos h3]; exact ⟨rfl, hT, hM⟩
    · rw [if_neg (by simp [h3])]; exact ⟨rfl, hT, hM⟩
abbrev tRd : Nat := 103
theorem RdS.tag {w : World} {br : Nat} {s : RS} (h : RdS w br s) : ∃ cs : Array Value, w.heap[br]? = some (Obj.cells cs tRd (0, 0)) := by obtain ⟨v, h⟩ := h; exact ⟨_, h.1⟩
theorem SlV.moved {w w' : World} {v : Value} {l : List UInt8} {S : List Nat} (h : SlV w v l) (hk : Keeps S w w') (hS : ∀ b ∈ S, ∀ cs : Array Value, w.heap[b]? ≠ some (Obj.cells cs tB (0, 0))) : SlV w' v l := by
  obtain ⟨⟨p1, a, cap, rfl, h2, h3, h0, h4⟩, ht⟩ := h
  have hblk : ∀ g, (Value.slice a l.length cap).ownBlock = some g → w'.heap[g]? = w.heap[g]? := fun g hg => by
    obtain ⟨cs, hc⟩ := ht g hg
    exact hk.block g (lt_of_blk hc) (fun hm => hS g hm cs hc)
  refine ⟨⟨p1, a, cap, rfl, h2, h3, h0, fun hp => ?_⟩, fun g hg => by obtain ⟨cs, hc⟩ := ht g hg; exact ⟨cs, (hblk g hg).trans hc⟩⟩
  obtain ⟨g, o, rfl, hc⟩ := h4 hp
  exact ⟨g, o, rfl, fun j u hj => (World.cell?_of_block (w := w) (a := ⟨g, o + j, none⟩) (hblk g rfl)).trans (hc j u hj)⟩
theorem RdS.moved {w w' : World} {br : Nat} {s : RS} {S : List Nat} (h : RdS w br s) (hk : Keeps S w w') (hbr : br ∉ S) (hS : ∀ b ∈ S, ∀ cs : Array Value, w.heap[b]? ≠ some (Obj.cells cs tB (0, 0))) : RdS w' br s := by
  obtain ⟨v, h1, h2⟩ := h
  exact ⟨v, (hk.block br (lt_of_blk h1) hbr).trans h1, h2.moved hk hS⟩
theorem TrM.nob {w : World} {B bt bm : Nat} {vo vh vg : Value} {t : Tr} (h : TrM w B bt bm vo vh vg t) : ∀ b ∈ ownT bt bm vo vh vg, ∀ cs : Array Value, w.heap[b]? ≠ some (Obj.cells cs tB (0, 0)) := fun b hb cs e => by
  obtain ⟨_, _, ⟨es, c, h1⟩ | ⟨cs', e', h1, h2⟩⟩ := h.own_tag hb
  · rw [h1] at e; cases e
  · rw [h1] at e
    cases e
    rcases h2 with h2 | h2 | h2 | h2 <;> exact absurd h2 (by decide)
/-- The reader in Decode's memory. -/
structure RM (w W : World) (br : Nat) (s : RS) : Prop where
  r : RdS W br s
  k : Keeps [] w W
  ge : w.heap.size ≤ br
structure DM (w W : World) (br bt bm : Nat) (vo vh vg : Value) (s : RS) (t : Tr) : Prop where
  r : RM w W br s
  m : TrM W (br + 1) bt bm vo vh vg t
namespace RM
variable {w W W' : World} {br : Nat} {s s' : RS}
theorem lt (h : RM w W br s) : br < W.heap.size := h.r.lt
theorem ref (h : RM w W br s) (hr : RdS W' br s') (hk : Keeps [br] W W') : RM w W' br s' := ⟨hr, h.k.fresh hk (fun b hb => .inr (by simp at hb; have := h.ge; omega)), h.ge⟩
theorem keeps (h : RM w W br s) (hk : Keeps [] W W') : RM w W' br s := ⟨h.r.keeps hk, h.k.trans hk, h.ge⟩
theorem int (h : RM w W br s) : Calls Tryz.prog 28 #[.pointer (some ⟨br, 0, none⟩)] W fun e W' => e = .returned (.int .i64 (rI s).1) ∧ RM w W' br (rI s).2 ∧ Keeps [br] W W' :=
  (intS_c W br s h.r).mono fun _ _ ⟨h1, h2, h3⟩ => ⟨h1, h.ref h2 h3, h3⟩
theorem uint (h : RM w W br s) : Calls Tryz.prog 29 #[.pointer (some ⟨br, 0, none⟩)] W fun e W' => e = .returned (.int .u64 (rU s).1) ∧ RM w W' br (rU s).2 ∧ Keeps [br] W W' :=
  (uintS_c W br s h.r).mono fun _ _ ⟨h1, h2, h3⟩ => ⟨h1, h.ref h2 h3, h3⟩
theorem bool (h : RM w W br s) : Calls Tryz.prog 31 #[.pointer (some ⟨br, 0, none⟩)] W fun e W' => e = .returned (.bool (rB s).1) ∧ RM w W' br (rB s).2 ∧ Keeps [br] W W' :=
  (boolS_c W br s h.r).mono fun _ _ ⟨h1, h2, h3⟩ => ⟨h1, h.ref h2 h3, h3⟩
theorem count (h : RM w W br s) (K : Nat) (hK : K ≤ 1099511627776) : Calls Tryz.prog 30 #[.pointer (some ⟨br, 0, none⟩), .int .i64 (K : Nat)] W fun e W' => e = .returned (.int .i64 (rCS K s).1) ∧ RM w W' br (rCS K s).2 ∧ Keeps [br] W W' :=
  (countS_c K hK W br s h.r).mono fun _ _ ⟨h1, h2, h3⟩ => ⟨h1, h.ref h2 h3, h3⟩
end RM
namespace DM
variable {w W W' : World} {br bt bm : Nat} {vo vh vg vo' vh' vg' : Value} {s s' : RS} {t t' : Tr}
/-- Other blocks than the trace's were written, the reader is in another state. -/
theorem ref (h : DM w W br bt bm vo vh vg s t) (hr : RM w W' br s') (hk : Keeps [br] W W') : DM w W' br bt bm vo vh vg s' t := by
  obtain ⟨cs, hc⟩ := h.r.r.tag
  refine ⟨hr, h.m.keep hk (fun b hb e => ?_) (hk.ki (fun b hb cs' f hx => ?_))⟩
  · have := (h.m.own_tag hb).1
    simp at e
    omega
  · simp at hb
    subst hb
    rw [hc] at hx
    simp only [Option.some.injEq, Obj.cells.injEq] at hx
    exact absurd hx.2.1 (by decide)
theorem keeps (h : DM w W br bt bm vo vh vg s t) (hk : Keeps [] W W') : DM w W' br bt bm vo vh vg s t := ⟨h.r.keeps hk, h.m.keeps hk⟩
theorem mv (h : DM w W br bt bm vo vh vg s t) (hm : TrM W' (br + 1) bt bm vo' vh' vg' t') (hM : Mv (ownT bt bm vo vh vg) (ownT bt bm vo' vh' vg') W W') : DM w W' br bt bm vo' vh' vg' s t' :=
  ⟨⟨h.r.r.moved hM.k (fun hb => by have := (h.m.own_tag hb).1; omega) h.m.nob, h.r.k.fresh hM.k (fun b hb => .inr (by have := (h.m.own_tag hb).1; have := h.r.ge; omega)), h.r.ge⟩, hm⟩
theorem int (h : DM w W br bt bm vo vh vg s t) : Calls Tryz.prog 28 #[.pointer (some ⟨br, 0, none⟩)] W fun e W' => e = .returned (.int .i64 (rI s).1) ∧ DM w W' br bt bm vo vh vg (rI s).2 t ∧ Keeps [br] W W' :=
  h.r.int.mono fun _ _ ⟨h1, h2, h3⟩ => ⟨h1, h.ref h2 h3, h3⟩
theorem uint (h : DM w W br bt bm vo vh vg s t) : Calls Tryz.prog 29 #[.pointer (some ⟨br, 0, none⟩)] W fun e W' => e = .returned (.int .u64 (rU s).1) ∧ DM w W' br bt bm vo vh vg (rU s).2 t ∧ Keeps [br] W W' :=
  h.r.uint.mono fun _ _ ⟨h1, h2, h3⟩ => ⟨h1, h.ref h2 h3, h3⟩
theorem bool (h : DM w W br bt bm vo vh vg s t) : Calls Tryz.prog 31 #[.pointer (some ⟨br, 0, none⟩)] W fun e W' => e = .returned (.bool (rB s).1) ∧ DM w W' br bt bm vo vh vg (rB s).2 t ∧ Keeps [br] W W' :=
  h.r.bool.mono fun _ _ ⟨h1, h2, h3⟩ => ⟨h1, h.ref h2 h3, h3⟩
theorem count (h : DM w W br bt bm vo vh vg s t) (K : Nat) (hK : K ≤ 1099511627776) : Calls Tryz.prog 30 #[.pointer (some ⟨br, 0, none⟩), .int .i64 (K : Nat)] W fun e W' => e = .returned (.int .i64 (rCS K s).1) ∧ DM w W' br bt bm vo vh vg (rCS K s).2 t ∧ Keeps [br] W W' :=
  (h.r.count K hK).mono fun _ _ ⟨h1, h2, h3⟩ => ⟨h1, h.ref h2 h3, h3⟩
theorem blk (h : DM w W br bt bm vo vh vg s t) {b : Nat} {o : Obj} (hb : W.heap[b]? = some o) (hk : Keeps [br] W W') (hne : b ≠ br) : W'.heap[b]? = some o := (hk.block b (lt_of_blk hb) (by simpa using hne)).trans hb
end DM
theorem RM.blk {w W W' : World} {br b : Nat} {s : RS} {o : Obj} (_ : RM w W br s) (hb : W.heap[b]? = some o) (hk : Keeps [br] W W') (hne : b ≠ br) : W'.heap[b]? = some o := (hk.block b (lt_of_blk hb) (by simpa using hne)).trans hb
/-- What the call of Decode leaves. -/
def DPost (w : World) (r : Option Tr) (e : Ending) (w' : World) : Prop :=
  Keeps [] w w' ∧ ((r = none ∧ e = .returned (.tuple #[.pointer none, .int .i64 11])) ∨
    ∃ t bt bm vo vh vg, r = some t ∧ e = .returned (.tuple #[.pointer (some ⟨bt, 0, none⟩), .int .i64 0]) ∧ TrM w' w.heap.size bt bm vo vh vg t ∧ t.Enc)
theorem Sh.owp_app {α : Type} {P : Program} {o : Oper} {a : Act} {w : World} {K : Act → World → Prop} {Q : Exit → Act → World → Prop} (s : Sh α) (B : Nat) {e t : TypeId} {z : Value} {by_ : Nat} (hinf : (P.info? e).map (fun i => (i.zero, i.size, i.bytes)) = some (some z, s.sz, by_)) (hz : z.cells.size = s.sz) (ht : P.underlying t = some (.slice e))
    (v v2 : Value) (L M : List α) (x y : Operand) (ho : o.op = .call { callee := .builtin .append, args := #[x, y], argTypes := #[t, t] }) (hs : a.eval x = v) (hx : a.eval y = v2) (h : s.O w B e v L) (hsl : s.R w v2 M)
    (hl : (L.length + M.length) * (by_ + 1) ≤ 140737488355328) (hB : B ≤ w.heap.size) (hR : ∀ v' w', s.O w' B e v' (L ++ M) → Grw w w' v v' → K (a.put o.dst v') w') : o.wp P a w K Q := by
  obtain ⟨i0, hi, hz0, hz1, hz2⟩ := info_parts hinf
  have h1 : L.length + M.length ≤ (L.length + M.length) * (by_ + 1) := Nat.le_mul_of_pos_right _ (by omega)
  have h2 : (L.length + M.length) * by_ ≤ (L.length + M.length) * (by_ + 1) := Nat.mul_le_mul_left _ (by omega)
  obtain ⟨v', w', hr, h3, h4, _⟩ := run_append_x (P := P) B t o.type e i0 z s.sz by_ ht hi hz0 hz1 hz2 hz s.pos v L.length (s.cs L) h v2 M.length (s.cs M) hsl (Sh.cs_one M) (by unfold maxLen; omega) (by omega) hB
  unfold Oper.wp execOp
  simp only [ho, resolve, invoke, builtin, Sem.run_bind, Sem.run_pure, Result.andThen_ok, List.map_toArray, List.map_cons, List.map_nil, hs, hx, hr]
  refine hR v' w' ?_ h4
  unfold Sh.O
  rw [Sh.cs_append, List.length_append]
  exact h3
theorem RM.moved {w W W' : World} {br : Nat} {s : RS} {S : List Nat} (h : RM w W br s) (hk : Keeps S W W') (hbr : br ∉ S) (hS : ∀ b ∈ S, ∀ cs : Array Value, W.heap[b]? ≠ some (Obj.cells cs tB (0, 0))) (hw : ∀ b ∈ S, w.heap.size ≤ b) : RM w W' br s :=
  ⟨h.r.moved hk hbr hS, h.k.fresh hk (fun b hb => .inr (hw b hb)), h.ge⟩
namespace DM
variable {w W W' : World} {br bt bm : Nat} {vo vh vg : Value} {s : RS} {t : Tr}
theorem claim (h : DM w W br bt bm vo vh vg s t) (hq : t.qs.length ≤ 1000) (hd : t.Dc) : Calls Tryz.prog 32 #[.pointer (some ⟨bt, 0, none⟩)] W fun e W' => ∃ x : ClV, e = .returned (.tuple #[clV x, .bool (t.state == 1)]) ∧ (t.state = 1 → x.m = t.pm) ∧ Keeps [] W W' :=
  (claim_c W (br + 1) bt bm vo vh vg t h.m hq (fun hs P Y hY hP => by rw [Tr.clm_eq h.m.inv hY hP]; exact hd.s1 hs)).mono fun e W' ⟨x, p, h1, h2, h3, h4⟩ => ⟨x, h1, fun hs => by
    rcases h4 with ⟨h5, _⟩ | ⟨_, P, Y, hY, hP, hp⟩
    · exact absurd hs h5
    · obtain ⟨p', e1, e2⟩ := hd.pm hs
      rw [Tr.clm_eq h.m.inv hY hP] at hp
      rw [hp] at e1
      cases e1
      rw [h2.m, e2], h3⟩
theorem agree (h : DM w W br bt bm vo vh vg s t) (hq : t.qs.length ≤ 1000) (ha : t.ag.length ≤ 1000) (hd : t.Dc) : Calls Tryz.prog 24 #[.pointer (some ⟨bt, 0, none⟩), .int .i64 t.pm] W fun e W' => ∃ vg' r, e = .returned (.int .i64 r) ∧ DM w W' br bt bm vo vh vg' s (t.agreeT t.pm).1 :=
  (agree_c W (br + 1) bt bm vo vh vg t t.pm h.m hq ha hd.s1).mono fun e W' ⟨vg', h1, h2, h3⟩ => ⟨vg', _, h1, h.mv h2 h3⟩
theorem refuse (h : DM w W br bt bm vo vh vg s t) (hq : t.qs.length ≤ 1000) (hd : t.Dc) (m : Int) : Calls Tryz.prog 26 #[.pointer (some ⟨bt, 0, none⟩), .int .i64 m] W fun e W' => e = .returned (.int .i64 (t.refuseT m).2) ∧ DM w W' br bt bm vo vh vg s (t.refuseT m).1 :=
  (refuse_c W (br + 1) bt bm vo vh vg t m h.m hq (fun hs P Y hY hP => by rw [Tr.clm_eq h.m.inv hY hP]; exact hd.s1 hs)).mono fun e W' hp => by
    obtain ⟨h1, h2, h3⟩ := hp.d h.m.inv
    exact ⟨h1, h.mv h2 h3⟩
theorem told (h : DM w W br bt bm vo vh vg s t) (n : Int) : DM w (W.setCell ⟨bt, 6, none⟩ (.int .i64 n)) br bt bm vo vh vg s { t with told := n } :=
  h.mv (h.m.setTold n) (h.m.mvSet 6 _)
end DM
end Go.Proofs.YthfdngjbcgkkfaaGreat

namespace Go.Proofs.YthfdngjbcgkkfaaGreat
open Go Go.RowKit

set_option maxRecDepth 100000 in
set_option maxHeartbeats 20000000 in
theorem decode_c (w : World) (v0 : Value) (l : List UInt8) (h : SlB w v0 l) (hb : DBnd l) : Calls Tryz.prog 9 #[v0] w (DPost w (dec l)) := by
  obtain ⟨a0, c0, rfl⟩ := h.form
  have hcap := h.cap
  obtain ⟨hl1, hstp, hfin, hhst⟩ := hb
  have hdec : dec l = (dA l.length (hTold l) (hX l) (hN l)).bind (dG l (hTold l)) := rfl
  have him := rI_fit (l, 0)
  have his := rI_fit (h1 l)
  have hst0 := rI_fit (h2 l)
  have hst1 := rU_lt (h3 l)
  have htul := rU_lt (h5 l)
  have hhT : hT l = Tr.new (rI (l, 0)).1 (rI (h1 l)).1 ((rI (h2 l)).1, (rU (h3 l)).1, (rI (h4 l)).1) := rfl
  have hhX : hX l = ((rCS l.length (h6 l)).2, hT l, decide (hTold l = 0) || decide (hTold l = 1)) := rfl
  have hhN : hN l = (rCS l.length (h6 l)).1 := rfl
  have hhTo : hTold l = min (rU (h5 l)).1 1025 := rfl
  obtain ⟨im, eim⟩ : ∃ x, (rI (l, 0)).1 = x := ⟨_, rfl⟩
  obtain ⟨is, eis⟩ : ∃ x, (rI (h1 l)).1 = x := ⟨_, rfl⟩
  obtain ⟨s0, es0⟩ : ∃ x, (rI (h2 l)).1 = x := ⟨_, rfl⟩
  obtain ⟨s1, es1⟩ : ∃ x, (rU (h3 l)).1 = x := ⟨_, rfl⟩
  obtain ⟨s2, es2⟩ : ∃ x, (rI (h4 l)).1 = x := ⟨_, rfl⟩
  obtain ⟨tu, etu⟩ : ∃ x, (rU (h5 l)).1 = x := ⟨_, rfl⟩
  obtain ⟨M, hM⟩ : ∃ x, l.length = x := ⟨_, rfl⟩
  obtain ⟨told, etold⟩ : ∃ x, hTold l = x := ⟨_, rfl⟩
  obtain ⟨X, eX⟩ : ∃ x, hX l = x := ⟨_, rfl⟩
  obtain ⟨N, eN⟩ : ∃ x, hN l = x := ⟨_, rfl⟩
  obtain ⟨T, eT⟩ : ∃ x, hT l = x := ⟨_, rfl⟩
  simp only [eim, eis, es0, es1, es2, etu, hM, etold, eX, eN, eT] at h hcap him his hst0 hst1 htul hhT hhX hhN hhTo hdec hstp hfin hhst hl1
  rw [hM]
  have htm : (min (tu : Int) 1025) = told := by rw [hhTo]; omega
  have htold : told ≤ 1025 := by rw [hhTo]; omega
  have hMx : M ≤ 9223372036854775807 := by omega

  replace h := Lib.hid h
  replace hl1 := Lib.hid hl1
  replace hstp := Lib.hid hstp
  replace hfin := Lib.hid hfin
  replace hhst := Lib.hid hhst
  replace hdec := Lib.hid hdec
  replace him := Lib.hid him
  replace his := Lib.hid his
  replace hst0 := Lib.hid hst0
  replace hst1 := Lib.hid hst1
  replace hhT := Lib.hid hhT
  replace hhX := Lib.hid hhX
  replace hhN := Lib.hid hhN
  replace hhTo := Lib.hid hhTo
  replace eim := Lib.hid eim
  replace eis := Lib.hid eis
  replace es0 := Lib.hid es0
  replace es1 := Lib.hid es1
  replace es2 := Lib.hid es2
  replace etu := Lib.hid etu
  replace hM := Lib.hid hM
  replace etold := Lib.hid etold
  replace eX := Lib.hid eX
  replace eN := Lib.hid eN
  replace eT := Lib.hid eT
  replace hcap := Lib.hid hcap
  go_enter Tryz.func9, Tryz.ntmps9
  go_wp2_with fail
  refine (newReader_c w _ l h.out (by rw [hM.out]; have := hl1.out; omega)).mono ?_
  rintro e w1 ⟨br, v1, rfl, hbr, hR1, hk1⟩
  have hR : RM w w1 br (l, 0) := ⟨⟨v1, hR1⟩, hk1, hbr⟩
  have hz0 := hR.lt
  replace hR := Lib.hid hR
  clear hR1 hk1
  go_wp2_with fail
  refine (hR.out.int).mono ?_
  rintro e w2 ⟨rfl, hR9, hk9⟩
  rw [eim.out]
  replace hR9 : RM w w2 br (h1 l) := hR9
  have hz9 := hk9.size
  replace hz0 := Nat.le_trans hz0 hz9
  clear hR hk9 hz9
  have hR := Lib.hid hR9
  clear hR9
  go_wp2_with fail
  refine (hR.out.int).mono ?_
  rintro e w3 ⟨rfl, hR9, hk9⟩
  rw [eis.out]
  replace hR9 : RM w w3 br (h2 l) := hR9
  have hz9 := hk9.size
  replace hz0 := Nat.le_trans hz0 hz9
  clear hR hk9 hz9
  have hR := Lib.hid hR9
  clear hR9
  go_wp2_with fail
  have hbr5 : br < w3.heap.size := hz0
  have hA9 : Keeps [] w3 (w3.alloc (.cells #[.int .i64 im, .int .i64 is] 23)) := (Keeps.refl _ _).alloc _
  have hb5 := heap_alloc_new w3 (.cells #[.int .i64 im, .int .i64 is] 23)
  have hR9 := hR.out.keeps hA9
  have hz9 : (w3.alloc (.cells #[.int .i64 im, .int .i64 is] 23)).heap.size = w3.heap.size + 1 := by simp
  replace hz0 : br < (w3.alloc (.cells #[.int .i64 im, .int .i64 is] 23)).heap.size := by omega
  generalize (w3.alloc (.cells #[.int .i64 im, .int .i64 is] 23)) = wA at *
  have hzwA := hz9
  clear hR hA9 hz9
  have hR := Lib.hid hR9
  clear hR9
  replace hb5 := Lib.hid hb5
  obtain ⟨b5, eb5⟩ : ∃ x, w3.heap.size = x := ⟨_, rfl⟩
  rw [eb5] at hb5 hbr5 ⊢
  clear hzwA eb5
  refine (hR.out.int).mono ?_
  rintro e w4 ⟨rfl, hR9, hk9⟩
  rw [es0.out]
  replace hR9 : RM w w4 br (h3 l) := hR9
  replace hb5 := Lib.hid (hR.out.blk hb5.out hk9 (by omega))
  have hz9 := hk9.size
  replace hz0 := Nat.le_trans hz0 hz9
  clear hR hk9 hz9
  have hR := Lib.hid hR9
  clear hR9
  go_wp2_with fail
  refine (hR.out.uint).mono ?_
  rintro e w5 ⟨rfl, hR9, hk9⟩
  rw [es1.out]
  replace hR9 : RM w w5 br (h4 l) := hR9
  replace hb5 := Lib.hid (hR.out.blk hb5.out hk9 (by omega))
  have hz9 := hk9.size
  replace hz0 := Nat.le_trans hz0 hz9
  clear hR hk9 hz9
  have hR := Lib.hid hR9
  clear hR9
  go_wp2_with fail
  refine (hR.out.int).mono ?_
  rintro e w6 ⟨rfl, hR9, hk9⟩
  rw [es2.out]
  replace hR9 : RM w w6 br (h5 l) := hR9
  replace hb5 := Lib.hid (hR.out.blk hb5.out hk9 (by omega))
  have hz9 := hk9.size
  replace hz0 := Nat.le_trans hz0 hz9
  clear hR hk9 hz9
  have hR := Lib.hid hR9
  clear hR9
  go_wp2_with fail
  have hbr6 : br < w6.heap.size := hz0
  have hA9 : Keeps [] w6 (w6.alloc (.cells #[.int .i64 s0, .int .u64 s1, .int .i64 s2] tN)) := (Keeps.refl _ _).alloc _
  have hb6 := heap_alloc_new w6 (.cells #[.int .i64 s0, .int .u64 s1, .int .i64 s2] tN)
  have hR9 := hR.out.keeps hA9
  replace hb5 := Lib.hid ((hA9.block _ (lt_of_blk hb5.out) (by simp)).trans hb5.out)
  have hz9 : (w6.alloc (.cells #[.int .i64 s0, .int .u64 s1, .int .i64 s2] tN)).heap.size = w6.heap.size + 1 := by simp
  replace hz0 : br < (w6.alloc (.cells #[.int .i64 s0, .int .u64 s1, .int .i64 s2] tN)).heap.size := by omega
  generalize (w6.alloc (.cells #[.int .i64 s0, .int .u64 s1, .int .i64 s2] tN)) = wB at *
  have hzwB := hz9
  clear hR hA9 hz9
  have hR := Lib.hid hR9
  clear hR9
  replace hb6 := Lib.hid hb6
  obtain ⟨b6, eb6⟩ : ∃ x, w6.heap.size = x := ⟨_, rfl⟩
  rw [eb6] at hb6 hbr6 ⊢
  clear hzwB eb6
  refine (hR.out.uint).mono ?_
  rintro e w7 ⟨rfl, hR9, hk9⟩
  rw [etu.out]
  replace hR9 : RM w w7 br (h6 l) := hR9
  replace hb5 := Lib.hid (hR.out.blk hb5.out hk9 (by omega))
  replace hb6 := Lib.hid (hR.out.blk hb6.out hk9 (by omega))
  have hz9 := hk9.size
  replace hz0 := Nat.le_trans hz0 hz9
  clear hR hk9 hz9
  have hR := Lib.hid hR9
  clear hR9
  obtain ⟨i0, i1, if', il⟩ := cl2 hb5.out
  obtain ⟨n0, n1, n2, nf, nl⟩ := cl3 hb6.out
  go_wp2_with fail
  refine (new_c w7 im is (s0, s1, s2) him.out hst0.out hst1.out).mono ?_
  rintro e w8 ⟨bt, bm, vo, rfl, hT8, hk8⟩
  rw [← hhT.out] at hT8
  have hD : DM w w8 br bt bm vo (.slice none 0 0) (.slice none 0 0) (h6 l) T := ⟨hR.out.keeps hk8, hT8.lowD (by omega)⟩
  have hDi : T.Di 0 := by rw [hhT.out]; exact Tr.Di.new im is (s0, s1, s2) him.out his.out hst0.out hst1.out (by have := rI_fit (h4 l); rw [es2.out] at this; exact this)
  have hTop : T.op.length = 1 := by rw [hhT.out]; rfl
  have hTqs : T.qs.length = 1 := by rw [hhT.out]; rfl
  have hm5 := hT8.cells.2.2.2.2.2.1
  obtain ⟨ao, co, evo⟩ := hT8.op.form
  rw [hTop] at evo
  subst evo
  clear hT8 hk8 hR hb5 hb6 i0 i1 if' il n0 n1 n2 nf nl hbr5 hbr6 hTop
  obtain ⟨ba, hba⟩ : ∃ x, decide (told = 0) = x := ⟨_, rfl⟩
  obtain ⟨bb, hbb⟩ : ∃ x, decide (told = 1) = x := ⟨_, rfl⟩
  have hba2 : ((told : Int) == 0) = ba := by rw [← hba, Bool.eq_iff_iff]; simp
  have hbb2 : ((told : Int) == 1) = bb := by rw [← hbb, Bool.eq_iff_iff]; simp; omega
  have hhX := hhX.out
  rw [hba, hbb] at hhX
  replace hhX := Lib.hid hhX
  replace hD := Lib.hid hD
  replace hDi := Lib.hid hDi
  replace hba := Lib.hid hba
  replace hbb := Lib.hid hbb
  replace hTqs := Lib.hid hTqs
  have hltt := hD.out.m.lt
  go_upto_region 6 with fail
  go_cut [9] from 10 to 156 (fun av wx => av = .bool (ba || bb) ∧ wx = w8)
  case first =>
    cases ba with
    | true =>
      go_wp2
      go_meet
      case rel => exact ⟨rfl, rfl⟩
    | false =>
      go_wp2
      go_meet
      case rel => exact ⟨rfl, rfl⟩
  case rest =>
  obtain ⟨rfl, rfl⟩ := hcut
  go_wp2_with fail
  refine (hD.out.count M hl1.out).mono ?_
  rintro e w9 ⟨rfl, hD9, hk9⟩
  rw [← hhN.out]
  have eX1 := congrArg (fun x => x.1) hhX.out
  simp only at eX1
  rw [← eX1] at hD9
  have hbr1 : br < w9.heap.size := hD9.r.lt
  replace hD9 := Lib.hid hD9
  clear hk9 hltt hm5 hD eX1
  have hI0 : dA M told X 0 = some (X.1, T, ba || bb) := by
    show some X = _
    rw [hhX.out]
  have hNM : N ≤ M := by rw [hhN.out]; exact rCS_le M _
  replace hI0 := Lib.hid hI0
  go_wp2
  go_loopw [9, 51] (fun av iv wr => ∃ (k : Nat) (s : RS) (t : Tr) (b : Bool) (vo vh : Value), iv = .int .i64 k ∧ av = .bool b ∧ k ≤ N ∧ dA M told X k = some (s, t, b) ∧ DM w wr br bt bm vo vh (.slice none 0 0) s t ∧ t.Di k) (fun _ iv _ => N - (intOf iv).toNat)
  case atStart => exact ⟨0, _, T, _, _, _, rfl, rfl, by omega, hI0.out, hD9.out, hDi.out⟩
  case round =>
    obtain ⟨k, s, t, b, vo, vh, rfl, rfl, hk, hdk, hDk, hDik⟩ := hrel
    have hz0 := hDk.r.lt
    have hD := Lib.hid hDk
    replace hdk := Lib.hid hdk
    replace hDik := Lib.hid hDik
    clear hDk hD9 hDi hbr1
    by_cases hlt : k < N
    case pos =>
      obtain ⟨m0, em0⟩ : ∃ x, (rI s).1 = x := ⟨_, rfl⟩
      obtain ⟨o0, eo0⟩ : ∃ x, (rI (f1 s)).1 = x := ⟨_, rfl⟩
      obtain ⟨n0, en0⟩ : ∃ x, (rU (f2 s)).1 = x := ⟨_, rfl⟩
      obtain ⟨p0, ep0⟩ : ∃ x, (rI (f3 s)).1 = x := ⟨_, rfl⟩
      obtain ⟨k0, ek0⟩ : ∃ x, (rB (f4 s)).1 = x := ⟨_, rfl⟩
      obtain ⟨r0, er0⟩ : ∃ x, (rB (f5 s)).1 = x := ⟨_, rfl⟩
      obtain ⟨g0, eg0⟩ : ∃ x, (rI (f6 s)).1 = x := ⟨_, rfl⟩
      have hA0 : rA0 s = ⟨m0, o0, n0, p0, k0, r0, g0, []⟩ := by unfold rA0; rw [em0, eo0, en0, ep0, ek0, er0, eg0]

      replace em0 := Lib.hid em0
      replace eo0 := Lib.hid eo0
      replace en0 := Lib.hid en0
      replace ep0 := Lib.hid ep0
      replace ek0 := Lib.hid ek0
      replace er0 := Lib.hid er0
      replace eg0 := Lib.hid eg0
      replace hA0 := Lib.hid hA0
      go_wp2_with fail
      refine (hD.out.int).mono ?_
      rintro e a1 ⟨rfl, hD9, hk9⟩
      rw [em0.out]
      replace hD9 : DM w a1 br bt bm vo vh (.slice none 0 0) (f1 s) t := hD9
      replace hz0 := hD9.r.lt
      clear hD hk9
      have hD := Lib.hid hD9
      clear hD9
      go_wp2_with fail
      refine (hD.out.int).mono ?_
      rintro e a2 ⟨rfl, hD9, hk9⟩
      rw [eo0.out]
      replace hD9 : DM w a2 br bt bm vo vh (.slice none 0 0) (f2 s) t := hD9
      replace hz0 := hD9.r.lt
      clear hD hk9
      have hD := Lib.hid hD9
      clear hD9
      go_wp2_with fail
      refine (hD.out.uint).mono ?_
      rintro e a3 ⟨rfl, hD9, hk9⟩
      rw [en0.out]
      replace hD9 : DM w a3 br bt bm vo vh (.slice none 0 0) (f3 s) t := hD9
      replace hz0 := hD9.r.lt
      clear hD hk9
      have hD := Lib.hid hD9
      clear hD9
      go_wp2_with fail
      refine (hD.out.int).mono ?_
      rintro e a4 ⟨rfl, hD9, hk9⟩
      rw [ep0.out]
      replace hD9 : DM w a4 br bt bm vo vh (.slice none 0 0) (f4 s) t := hD9
      replace hz0 := hD9.r.lt
      clear hD hk9
      have hD := Lib.hid hD9
      clear hD9
      go_wp2_with fail
      refine (hD.out.bool).mono ?_
      rintro e a5 ⟨rfl, hD9, hk9⟩
      rw [ek0.out]
      replace hD9 : DM w a5 br bt bm vo vh (.slice none 0 0) (f5 s) t := hD9
      replace hz0 := hD9.r.lt
      clear hD hk9
      have hD := Lib.hid hD9
      clear hD9
      go_wp2_with fail
      refine (hD.out.bool).mono ?_
      rintro e a6 ⟨rfl, hD9, hk9⟩
      rw [er0.out]
      replace hD9 : DM w a6 br bt bm vo vh (.slice none 0 0) (f6 s) t := hD9
      replace hz0 := hD9.r.lt
      clear hD hk9
      have hD := Lib.hid hD9
      clear hD9
      go_wp2_with fail
      refine (hD.out.int).mono ?_
      rintro e a7 ⟨rfl, hD9, hk9⟩
      rw [eg0.out]
      replace hD9 : DM w a7 br bt bm vo vh (.slice none 0 0) (f7 s) t := hD9
      replace hz0 := hD9.r.lt
      clear hD hk9
      have hD := Lib.hid hD9
      clear hD9
      go_wp2_with fail
      have hA9 : Keeps [] a7 (a7.alloc (.cells #[.int .i64 m0, .int .i64 o0, .int .u64 n0, .int .i64 p0, .bool k0, .bool r0, .int .i64 g0, .slice none 0 0] tA)) := (Keeps.refl _ _).alloc _
      have hbx := heap_alloc_new a7 (.cells #[.int .i64 m0, .int .i64 o0, .int .u64 n0, .int .i64 p0, .bool k0, .bool r0, .int .i64 g0, .slice none 0 0] tA)
      have hD9 := hD.out.keeps hA9
      generalize (a7.alloc (.cells #[.int .i64 m0, .int .i64 o0, .int .u64 n0, .int .i64 p0, .bool k0, .bool r0, .int .i64 g0, .slice none 0 0] tA)) = aA at *
      obtain ⟨bx, ebx⟩ : ∃ x, a7.heap.size = x := ⟨_, rfl⟩
      rw [ebx] at hbx ⊢
      have hbrx : br < bx := by omega
      refine (hD9.count M hl1.out).mono ?_
      rintro e a8 ⟨rfl, hD8, hk8⟩
      replace hbx := hD9.blk hbx hk8 (by omega)
      have hk78 : Keeps [br] a7 a8 := hA9.of_nil.trans hk8
      have hR := hD8.r
      obtain ⟨n, en⟩ : ∃ x, (rAn M s).1 = x := ⟨_, rfl⟩
      obtain ⟨sx, esx⟩ : ∃ x, (rAn M s).2 = x := ⟨_, rfl⟩
      have hqi := hstp.out k s t b hlt hdk.out
      rw [rA_len, en] at hqi
      have hnl : n ≤ 1000 := by omega
      replace hR : RM w a8 br sx := by rw [← esx]; exact hR
      rw [show (rCS M (f7 s)).1 = n from en]
      have hxz := (lt_of_blk hbx)
      clear hD8 hD9 hA9 hk8 hz0

      replace hR := Lib.hid hR
      replace hk78 := Lib.hid hk78
      replace hbx := Lib.hid hbx
      replace en := Lib.hid en
      replace esx := Lib.hid esx
      replace hqi := Lib.hid hqi
      replace ebx := Lib.hid ebx
      go_wp2
      go_loopw [72] (fun jv wr => ∃ (j : Nat) (s' : RS) (L : List T3) (v : Value), jv = .int .i64 j ∧ j ≤ n ∧ L.length = j ∧ rXs n sx [] = rXs (n - j) s' L ∧ RM w wr br s' ∧ Keeps [br] a7 wr ∧ wr.heap[bx]? = some (.cells #[.int .i64 m0, .int .i64 o0, .int .u64 n0, .int .i64 p0, .bool k0, .bool r0, .int .i64 g0, v] tA (0, 0)) ∧ shT.O wr (bx + 1) tI v L ∧ bx < wr.heap.size) (fun jv _ => n - (intOf jv).toNat)
      case atStart => exact ⟨0, sx, [], _, rfl, by omega, rfl, rfl, hR.out, hk78.out, hbx.out, Sh.O.nil _ _ _ _, hxz⟩
      case round =>
        obtain ⟨j, s', L, v, rfl, hj, hLj, hrx, hR', hkr, hbx', hO, hxz'⟩ := hrel
        clear hR hk78 hbx hxz
        obtain ⟨ai, ci, rfl⟩ := hO.form
        rw [hLj] at hO hbx'
        replace hrx := Lib.hid hrx
        replace hR' := Lib.hid hR'
        replace hkr := Lib.hid hkr
        replace hbx' := Lib.hid hbx'
        replace hO := Lib.hid hO
        replace hLj := Lib.hid hLj
        by_cases hltj : j < n
        case pos =>
          obtain ⟨d0, d1, d2, d3, d4, d5, d6, d7, df, dl⟩ := cl8 hbx'.out
          obtain ⟨x0, ex0⟩ : ∃ x, (rI s').1 = x := ⟨_, rfl⟩
          obtain ⟨x1, ex1⟩ : ∃ x, (rU (rI s').2).1 = x := ⟨_, rfl⟩
          obtain ⟨x2, ex2⟩ : ∃ x, (rI (rU (rI s').2).2).1 = x := ⟨_, rfl⟩
          obtain ⟨s4, es4⟩ : ∃ x, (rI (rU (rI s').2).2).2 = x := ⟨_, rfl⟩
          have hX1 : rX s' = ((x0, x1, x2), s4) := by unfold rX; rw [ex0, ex1, ex2, es4]
          replace ex0 := Lib.hid ex0
          replace ex1 := Lib.hid ex1
          replace ex2 := Lib.hid ex2
          replace es4 := Lib.hid es4
          replace hX1 := Lib.hid hX1
          go_upto_region 12 with fail
          have hRd := Lib.hid (hR'.out.keeps (Keeps.refl [] wr).drew)
          refine Free.wp_region_chain (fun i => i == 3 || i == 5 || i == 7 || i == 9 || i == 10 || i == 12) (fun i => true) (fun j b => ((j = 3 ∨ j = 5 ∨ j = 7) ∧ b = br) ∨ (j = 10 ∧ bx < b) ∨ (j = 12 ∧ b = bx)) (by kernel_rfl) (by kernel_rfl) (by kernel_rfl) ?_
          (repeat (first | (apply Free.cw_pure rfl rfl; (intro w'; go_simp <;> exact rfl); go_frame) | (apply Free.cw_steady rfl rfl rfl; (intro w' hS; have q0 := Free.sx_cell hS d7 (fun j hp hT => Or.elim hT (fun h => by have := h.2; omega) (fun h => Or.elim h (fun h => by have := h.2; omega) (fun h => by obtain ⟨rfl, _⟩ := h; exact absurd hp (by decide +kernel)))); go_simp <;> exact rfl); go_frame) | (refine Free.cw_skip rfl ?_; go_frame)))
          refine Free.cw_loud rfl rfl (fun K hK => ?_)
          go_wp2_with fail
          refine (hRd.out.int).mono ?_
          rintro e b1 ⟨rfl, hR1, hk1⟩
          rw [ex0.out]
          refine hK _ _ rfl (Free.KeepsP.of hk1 (fun b hb => by simp at hb; simp [hb])) ?_
          clear hK K
          have hkd1 := Lib.hid ((Keeps.refl [] wr).drew.of_nil.trans hk1)
          replace hR1 := Lib.hid hR1
          clear hk1
          (repeat (first | (apply Free.cw_pure rfl rfl; (intro w'; go_simp <;> exact rfl); go_frame) | (apply Free.cw_steady rfl rfl rfl; (intro w' hS; have q0 := Free.sx_cell hS d7 (fun j hp hT => Or.elim hT (fun h => by have := h.2; omega) (fun h => Or.elim h (fun h => by have := h.2; omega) (fun h => by obtain ⟨rfl, _⟩ := h; exact absurd hp (by decide +kernel)))); go_simp <;> exact rfl); go_frame) | (refine Free.cw_skip rfl ?_; go_frame)))
          refine Free.cw_loud rfl rfl (fun K hK => ?_)
          go_wp2_with fail
          refine (hR1.out.uint).mono ?_
          rintro e b2 ⟨rfl, hR2, hk2⟩
          rw [ex1.out]
          refine hK _ _ rfl (Free.KeepsP.of hk2 (fun b hb => by simp at hb; simp [hb])) ?_
          clear hK K
          have hkd2 := Lib.hid (hkd1.out.trans hk2)
          replace hR2 := Lib.hid hR2
          clear hk2 hR1 hkd1
          (repeat (first | (apply Free.cw_pure rfl rfl; (intro w'; go_simp <;> exact rfl); go_frame) | (apply Free.cw_steady rfl rfl rfl; (intro w' hS; have q0 := Free.sx_cell hS d7 (fun j hp hT => Or.elim hT (fun h => by have := h.2; omega) (fun h => Or.elim h (fun h => by have := h.2; omega) (fun h => by obtain ⟨rfl, _⟩ := h; exact absurd hp (by decide +kernel)))); go_simp <;> exact rfl); go_frame) | (refine Free.cw_skip rfl ?_; go_frame)))
          refine Free.cw_loud rfl rfl (fun K hK => ?_)
          go_wp2_with fail
          refine (hR2.out.int).mono ?_
          rintro e b3 ⟨rfl, hR3, hk3⟩
          rw [ex2.out]
          rw [es4.out] at hR3
          refine hK _ _ rfl (Free.KeepsP.of hk3 (fun b hb => by simp at hb; simp [hb])) ?_
          clear hK K
          have hkd3 := Lib.hid (hkd2.out.trans hk3)
          replace hR3 := Lib.hid hR3
          clear hk3 hR2 hkd2
          (repeat (first | (apply Free.cw_pure rfl rfl; (intro w'; go_simp <;> exact rfl); go_frame) | (apply Free.cw_steady rfl rfl rfl; (intro w' hS; have q0 := Free.sx_cell hS d7 (fun j hp hT => Or.elim hT (fun h => by have := h.2; omega) (fun h => Or.elim h (fun h => by have := h.2; omega) (fun h => by obtain ⟨rfl, _⟩ := h; exact absurd hp (by decide +kernel)))); go_simp <;> exact rfl); go_frame) | (refine Free.cw_skip rfl ?_; go_frame)))
          refine Free.cw_loud rfl rfl (fun K hK => ?_)
          go_wp2
          refine hK _ _ rfl (Free.KeepsP.alloc _ _ _) ?_
          clear hK K
          have hmade := (Sh.O.one shT b3 (x0, x1, x2) #[.int .i64 x0, .int .u64 x1, .int .i64 x2] tI 0 rfl (Nat.zero_le _)).r
          have hA9 : Keeps [] b3 (b3.alloc (.cells #[.int .i64 x0, .int .u64 x1, .int .i64 x2] tI)) := (Keeps.refl _ _).alloc _
          obtain ⟨bm2, ebm2⟩ : ∃ x, b3.heap.size = x := ⟨_, rfl⟩
          have hRA := hR3.out.keeps hA9
          have hkA := hkd3.out.trans hA9.of_nil
          rw [ebm2] at hmade ⊢
          generalize (b3.alloc (.cells #[.int .i64 x0, .int .u64 x1, .int .i64 x2] tI)) = bA at *
          have hOA := hO.out.keepS hkA (fun b hb e => by have := hO.out.ge b e; simp at hb; omega)
          have hbxA := hR'.out.blk hbx'.out hkA (by omega)
          have hzA := lt_of_blk hbxA
          replace hmade := Lib.hid hmade
          replace hRA := Lib.hid hRA
          replace hkA := Lib.hid hkA
          replace hOA := Lib.hid hOA
          replace hbxA := Lib.hid hbxA
          replace ebm2 := Lib.hid ebm2
          clear hA9 hR3 hkd3
          (repeat (first | (apply Free.cw_pure rfl rfl; (intro w'; go_simp <;> exact rfl); go_frame) | (apply Free.cw_steady rfl rfl rfl; (intro w' hS; have q0 := Free.sx_cell hS d7 (fun j hp hT => Or.elim hT (fun h => by have := h.2; omega) (fun h => Or.elim h (fun h => by have := h.2; omega) (fun h => by obtain ⟨rfl, _⟩ := h; exact absurd hp (by decide +kernel)))); go_simp <;> exact rfl); go_frame) | (refine Free.cw_skip rfl ?_; go_frame)))
          refine Free.cw_loud rfl rfl (fun K hK => ?_)
          refine Sh.owp_app shT (bx + 1) infoI rfl Tryz.underlying38 (.slice ai j ci) (.slice (some ⟨bm2, 0, none⟩) 1 1) L [(x0, x1, x2)] (.tmp 75) (.tmp 83) rfl rfl rfl hOA.out hmade.out (by rw [hLj.out]; simp; omega) (by omega) ?_
          intro v5 b5' hO5 hG5
          have hlen5 : (L ++ [(x0, x1, x2)]).length = j + 1 := by rw [List.length_append, hLj.out]; rfl
          refine hK _ _ rfl (Free.KeepsP.of hG5.keepsO (fun b hb => by have := hOA.out.ge b (by simpa using hb); simp; omega)) ?_
          clear hK K
          have hge5 := hOA.out.ge
          have hRB := hRA.out.moved hG5.keepsO (fun hb => by have := hge5 br (by simpa using hb); omega) (fun b hb cs e => by
            obtain ⟨cs', hc⟩ := hOA.out.tag b (by simpa using hb)
            rw [hc] at e
            simp only [Option.some.injEq, Obj.cells.injEq] at e
            exact absurd e.2.1 (by decide)) (fun b hb => by have := hge5 b (by simpa using hb); have := hR'.out.ge; omega)
          have hkB := (hkr.out.trans hkA.out).fresh hG5.keepsO (fun b hb => .inr (by have := hge5 b (by simpa using hb); have := ebx.out; omega))
          have hbxB := (hG5.keepsO.block bx hzA (fun hb => by have := hge5 bx (by simpa using hb); omega)).trans hbxA.out
          replace hRB := Lib.hid hRB
          replace hkB := Lib.hid hkB
          replace hbxB := Lib.hid hbxB
          replace hO5 := Lib.hid hO5
          obtain ⟨a5, c5, rfl⟩ := hO5.out.form
          rw [hlen5] at hO5 ⊢
          replace hlen5 := Lib.hid hlen5
          clear hge5 hG5 hRA hmade hOA hbxA hkA
          obtain ⟨t0, t1, t2, t3, t4, t5, t6, t7, tf, tl⟩ := cl8 hbxB.out
          (repeat (first | (apply Free.cw_pure rfl rfl; (intro w'; go_simp <;> exact rfl); go_frame) | (apply Free.cw_steady rfl rfl rfl; (intro w' hS; have q0 := Free.sx_cell hS d7 (fun j hp hT => Or.elim hT (fun h => by have := h.2; omega) (fun h => Or.elim h (fun h => by have := h.2; omega) (fun h => by obtain ⟨rfl, _⟩ := h; exact absurd hp (by decide +kernel)))); go_simp <;> exact rfl); go_frame) | (refine Free.cw_skip rfl ?_; go_frame)))
          refine Free.cw_loud rfl rfl (fun K hK => ?_)
          go_wp2
          refine hK _ _ rfl ((Free.KeepsP.setCell (S := fun b => b = bx) _ rfl _).mono (fun b hb => by simp [hb])) ?_
          clear hK K
          (repeat (first | (apply Free.cw_pure rfl rfl; (intro w'; go_simp <;> exact rfl); go_frame) | (apply Free.cw_steady rfl rfl rfl; (intro w' hS; have q0 := Free.sx_cell hS d7 (fun j hp hT => Or.elim hT (fun h => by have := h.2; omega) (fun h => Or.elim h (fun h => by have := h.2; omega) (fun h => by obtain ⟨rfl, _⟩ := h; exact absurd hp (by decide +kernel)))); go_simp <;> exact rfl); go_frame) | (refine Free.cw_skip rfl ?_; go_frame)))
          refine Free.cw_nil ?_
          have hst : Keeps [bx] b5' (b5'.setCell ⟨bx, 7, none⟩ (.slice a5 (j + 1) c5)) := (Keeps.refl [bx] b5').setCell (.inr (by simp)) _
          have hbxC := setCz hbxB.out 7 (.slice a5 (j + 1) c5)
          simp only [List.setIfInBounds_toArray, List.set_cons_succ, List.set_cons_zero] at hbxC
          have hkC := hkB.out.fresh hst (fun b hb => .inr (by have := ebx.out; simp at hb; omega))
          have hRC := hRB.out.moved hst (by simp; omega) (fun b hb cs e => by
            simp at hb
            subst hb
            rw [hbxB.out] at e
            simp only [Option.some.injEq, Obj.cells.injEq] at e
            exact absurd e.2.1 (by decide)) (fun b hb => by have := hR'.out.ge; simp at hb; omega)
          have hOC := hO5.out.keepS hst (fun b hb e => by have := hO5.out.ge b e; simp at hb; omega)
          have hzC : bx < (b5'.setCell ⟨bx, 7, none⟩ (.slice a5 (j + 1) c5)).heap.size := by simpa using tl
          clear hst
          clear d0 d1 d2 d3 d4 d5 d6 d7 df dl t0 t1 t2 t3 t4 t5 t6 t7 tf tl
          generalize (b5'.setCell ⟨bx, 7, none⟩ (.slice a5 (j + 1) c5)) = bC at *
          replace hbxC := Lib.hid hbxC
          replace hkC := Lib.hid hkC
          replace hRC := Lib.hid hRC
          replace hOC := Lib.hid hOC
          clear hbxB hkB hRB hO5 hO hR' hRd hbx' hkr
          go_wp2
          go_roundw
          case rel =>
            have hrx2 : rXs n sx [] = rXs (n - (j + 1)) s4 (L ++ [(x0, x1, x2)]) := by rw [hrx.out, show n - j = (n - (j + 1)) + 1 by omega, rXs_succ, hX1.out]
            have hj2 : j + 1 ≤ n := by omega
            exact ⟨j + 1, s4, L ++ [(x0, x1, x2)], .slice a5 (j + 1) c5, rfl, hj2, hlen5.out, hrx2, hRC.out, hkC.out, hbxC.out, hOC.out, hzC⟩
          case measure => simp [intOf]; omega
        case neg =>
          have hjn : j = n := by omega
          subst hjn
          have hrx2 : rAx M s = (L, s') := by unfold rAx; rw [en.out, esx.out, hrx.out, Nat.sub_self]; rfl
          have hA : rA M s = ⟨m0, o0, n0, p0, k0, r0, g0, L⟩ := by unfold rA; rw [hA0.out, hrx2]
          have hil : (rA M s).ins.length = j := by rw [hA]; exact hLj.out
          have hDr := hD.out.ref hR'.out hkr.out
          have haok := rA_ok M s (by omega)
          have hIn : InR wr ⟨m0, o0, n0, p0, k0, r0, g0, ai, j, ci⟩ (rA M s) := by rw [hA]; exact ⟨rfl, rfl, rfl, rfl, rfl, rfl, rfl, hO.out.r⟩
          have hbw : br + 1 ≤ wr.heap.size := by have := hDr.r.lt; omega
          have hc := answer_c wr (br + 1) bt bm vo vh (.slice none 0 0) t _ _ hDr.m hIn haok (fun b hb _ e => by
            have := hO.out.ge b e
            have := (hD.out.m.own_tag hb).2.1
            have := ebx.out
            omega) hbw (by have := hDik.out.hl; have := hhst.out; omega) (by have := hqi.out; omega)
          have hstp1 : dA M told X (k + 1) = dS M told (s, t, b) := by show (dA M told X k).bind _ = _; rw [hdk.out]; rfl
          have hDi2 := fun hi' => hDik.out.answer (a := rA M s) hi' (by omega)
          unfold dS at hstp1
          simp only [hrx2] at hstp1
          obtain ⟨⟨t2, r2⟩, er⟩ : ∃ x, t.answer (rA M s) = x := ⟨_, rfl⟩
          rw [er] at hc hstp1 hDi2
          simp only at hstp1 hDi2
          obtain ⟨d0, d1, d2, d3, d4, d5, d6, d7, df, dl⟩ := cl8 hbx'.out
          replace hc := Lib.hid hc
          replace hDr := Lib.hid hDr
          replace hstp1 := Lib.hid hstp1
          replace hDi2 := Lib.hid hDi2
          clear er hIn haok hil hA hrx2
          go_wp2_with fail
          refine hc.out.mono ?_
          rintro e w9 ⟨vo', vh', rfl, hT9, hM9⟩
          have hD9 := Lib.hid (hDr.out.mv hT9 hM9)
          have hDi9 := Lib.hid (hDi2.out hT9.inv)
          clear hc hDr hDi2 hM9 d0 d1 d2 d3 d4 d5 d6 d7 df dl
          by_cases hr0 : r2 = 0
          case neg =>
            have hstp2 := hstp1.out
            rw [if_pos hr0] at hstp2
            have hdn : dec l = none := by rw [hdec.out, dA_none hstp2 N (by omega)]; rfl
            have hrb : (r2 != 0) = true := by simpa using hr0
            replace hdn := Lib.hid hdn
            replace hr0 := Lib.hid hr0
            clear hstp2 hT9
            go_wp2
            go_ret2
            exact ⟨hD9.out.r.k, .inl ⟨hdn.out, rfl⟩⟩
          case pos =>
            subst hr0
            have hstp2 := hstp1.out
            rw [if_neg (by simp)] at hstp2
            obtain ⟨sb, hsb⟩ : ∃ x, decide (t2.state = 0) = x := ⟨_, rfl⟩
            obtain ⟨tb, htb⟩ : ∃ x, decide (told = t2.qs.length) = x := ⟨_, rfl⟩
            have hask : askd told t2 = (sb && tb) := by unfold askd; rw [hsb, htb]
            rw [hask] at hstp2
            obtain ⟨LO, hLO⟩ : ∃ n, t2.op.length = n := ⟨_, rfl⟩
            have hLO2 : t2.qs.length = LO := by rw [← hLO]; simp [Tr.op]
            obtain ⟨_, _, _, _, _, g5, _, _, _, g9, _⟩ := hT9.cells
            obtain ⟨ao9, co9, evo⟩ := hT9.op.form
            rw [hLO] at evo
            subst evo
            have hsb2 : (t2.state == 0) = sb := by rw [← hsb, Bool.eq_iff_iff]; simp
            have htb2 : ((told : Int) == (LO : Int)) = tb := by rw [← htb, Bool.eq_iff_iff, hLO2]; simp; omega
            have hlt9 := hT9.lt
            replace hsb := Lib.hid hsb
            replace htb := Lib.hid htb
            replace hstp2 := Lib.hid hstp2
            replace hLO := Lib.hid hLO
            replace hLO2 := Lib.hid hLO2
            clear hask hT9 hbx' hO
            cases b with
            | true =>
              go_wp2
              go_roundw
              case rel => exact ⟨k + 1, s', t2, true, _, vh', rfl, rfl, by omega, hstp2.out, hD9.out, hDi9.out⟩
              case measure => simp [intOf]; omega
            | false =>
              cases sb with
              | true =>
                go_wp2
                go_roundw
                case rel => exact ⟨k + 1, s', t2, tb, _, vh', rfl, rfl, by omega, by rw [hstp2.out]; simp, hD9.out, hDi9.out⟩
                case measure => simp [intOf]; omega
              | false =>
                go_wp2
                go_roundw
                case rel => exact ⟨k + 1, s', t2, false, _, vh', rfl, rfl, by omega, by rw [hstp2.out]; simp, hD9.out, hDi9.out⟩
                case measure => simp [intOf]; omega
    case neg =>
      have hkN : k = N := by omega
      subst hkN
      have hqN := hfin.out s t b hdk.out
      have hdecG : dec l = dG l told (s, t, b) := by rw [hdec.out, hdk.out]; rfl
      unfold dG at hdecG
      simp only at hdecG
      obtain ⟨gu, egu⟩ : ∃ x, (rU s).1 = x := ⟨_, rfl⟩
      obtain ⟨sg, esg⟩ : ∃ x, (rU s).2 = x := ⟨_, rfl⟩
      obtain ⟨G, eG⟩ : ∃ x, min gu 1024 = x := ⟨_, rfl⟩
      have hgul := rU_lt s
      rw [egu] at hgul
      rw [egu, esg, eG] at hdecG
      have htg : (min (gu : Int) 1024) = G := by rw [← eG]; omega
      have hGl : G ≤ 1024 := by omega
      replace hdecG := Lib.hid hdecG
      replace egu := Lib.hid egu
      replace esg := Lib.hid esg
      replace eG := Lib.hid eG
      replace hqN := Lib.hid hqN
      clear hdec hdk hstp hfin hhX hI0 hhT hhN him his hst0 hst1 eim eis es0 es1 es2 etu eX eN eT hTqs hhTo hz0
      go_wp2_with fail
      refine (hD.out.uint).mono ?_
      rintro e wa ⟨rfl, hDa, hka⟩
      rw [egu.out]
      rw [esg.out] at hDa
      replace hDa := Lib.hid hDa
      clear hka hD
      go_wp2
      go_loopw [112] (fun iv wr => ∃ (i : Nat) (t' : Tr) (vg' : Value), iv = .int .u64 i ∧ i ≤ G ∧ gA t i = some t' ∧ DM w wr br bt bm vo vh vg' sg t' ∧ t'.Di k ∧ t'.qs.length ≤ 1000) (fun iv _ => G - (intOf iv).toNat)
      case atStart => exact ⟨0, t, _, rfl, by omega, rfl, hDa.out, hDik.out, hqN.out⟩
      case round =>
        obtain ⟨i, t', vg', rfl, hi, hgA, hDr, hDir, hqr⟩ := hrel
        replace hgA := Lib.hid hgA
        replace hDr := Lib.hid hDr
        replace hDir := Lib.hid hDir
        clear hDa hDik hqN
        by_cases hlt2 : i < G
        case pos =>
          have hcl := hDr.out.claim hqr hDir.out.dc
          have hstp1 : gA t (i + 1) = gS t' := by show (gA t i).bind _ = _; rw [hgA.out]; rfl
          unfold gS at hstp1
          replace hcl := Lib.hid hcl
          replace hstp1 := Lib.hid hstp1
          go_wp2_with fail
          refine hcl.out.mono ?_
          rintro e wb ⟨⟨x0, x1, ⟨a1, a2, a3⟩, ⟨b1, b2, b3⟩, ⟨c1, c2, c3⟩⟩, rfl, hxm, hkb⟩
          simp only [clV, slv]
          simp only at hxm
          have hDb := hDr.out.keeps hkb
          by_cases hs : t'.state = 1
          case neg =>
            have hsb : (t'.state == 1) = false := by simpa using hs
            have hstp2 := hstp1.out
            rw [if_neg hs] at hstp2
            have hdn : dec l = none := by rw [hdecG.out, gA_none hstp2 G (by omega)]; rfl
            replace hdn := Lib.hid hdn
            replace hs := Lib.hid hs
            replace hDb := Lib.hid hDb
            replace hxm := Lib.hid hxm
            replace hkb := Lib.hid hkb
            rw [hsb]
            clear hstp2 hsb
            go_wp2
            go_ret2
            exact ⟨hDb.out.r.k.alloc _, .inl ⟨hdn.out, rfl⟩⟩
          case pos =>
            have hsb : (t'.state == 1) = true := by simpa using hs
            have hx := hxm hs
            subst hx
            have hstp2 := hstp1.out
            rw [if_pos hs] at hstp2
            have hA9 : Keeps [] wb (wb.alloc (.cells #[.int .i64 t'.pm, .int .i64 x1, .slice a1 a2 a3, .slice b1 b2 b3, .slice c1 c2 c3] tC)) := (Keeps.refl _ _).alloc _
            have hDc := (hDb.keeps hA9).agree hqr hDir.out.ag hDir.out.dc
            have hDi2 := hDir.out.agree hs hDr.out.m.inv hqr
            have hq2 : (t'.agreeT t'.pm).1.qs.length ≤ 1000 := by rw [hDir.out.dc.agree_eq hs]; exact hqr
            obtain ⟨t2, et2⟩ : ∃ x, (t'.agreeT t'.pm).1 = x := ⟨_, rfl⟩
            rw [et2] at hDc hDi2 hq2 hstp2
            replace hDc := Lib.hid hDc
            replace hDi2 := Lib.hid hDi2
            replace hstp2 := Lib.hid hstp2
            replace hs := Lib.hid hs
            replace et2 := Lib.hid et2
            rw [hsb]
            clear hxm hkb hA9 hDb hsb hstp1 hcl
            go_wp2_with fail
            refine hDc.out.mono ?_
            rintro e wc ⟨vg2, r, rfl, hD2⟩
            replace hD2 := Lib.hid hD2
            clear hDc
            go_wp2
            go_roundw
            case rel =>
              have hi2 : i + 1 ≤ G := by omega
              exact ⟨i + 1, t2, vg2, rfl, hi2, hstp2.out, hD2.out, hDi2.out, hq2⟩
            case measure => simp [intOf]; omega
        case neg =>
          have hiG : i = G := by omega
          subst hiG
          have hdecB : dec l = dB l told b sg t' := by rw [hdecG.out, hgA.out]; rfl
          unfold dB at hdecB
          obtain ⟨rb, erb⟩ : ∃ x, (rB sg).1 = x := ⟨_, rfl⟩
          obtain ⟨sb, esb⟩ : ∃ x, (rB sg).2 = x := ⟨_, rfl⟩
          rw [erb, esb] at hdecB
          replace hdecB := Lib.hid hdecB
          replace erb := Lib.hid erb
          replace esb := Lib.hid esb
          clear hdecG hgA hlt2 htg eG hi
          go_wp2_with fail
          refine (hDr.out.bool).mono ?_
          rintro e wb ⟨rfl, hDb, hkb⟩
          rw [erb.out]
          rw [esb.out] at hDb
          replace hDb := Lib.hid hDb
          clear hkb hDr
          go_upto_if 127 with fail
          go_cut [] from 10 to 156 (fun wx => ∃ t2 vg2, Hid (rfS rb t' = some t2) ∧ Hid (DM w wx br bt bm vo vh vg2 sb t2) ∧ Hid (t2.hist = t'.hist) ∧ Hid t2.Num ∧ t2.ag.length ≤ 1000 ∧ Hid (0 ≤ t2.state ∧ t2.state ≤ 4))
          case first =>
            cases rb with
            | false =>
              go_wp2
              go_meet
              case rel => exact ⟨t', vg', Lib.hid rfl, hDb, Lib.hid rfl, Lib.hid hDir.out.nm, hDir.out.ag, Lib.hid hDir.out.st⟩
            | true =>
              have hcl := hDb.out.claim hqr hDir.out.dc
              replace hcl := Lib.hid hcl
              go_wp2_with fail
              refine hcl.out.mono ?_
              rintro e wd ⟨⟨x0, x1, ⟨a1, a2, a3⟩, ⟨b1, b2, b3⟩, ⟨c1, c2, c3⟩⟩, rfl, hxm, hkb⟩
              simp only [clV, slv]
              simp only at hxm
              have hA9 : Keeps [] wd (wd.alloc (.cells #[.int .i64 x0, .int .i64 x1, .slice a1 a2 a3, .slice b1 b2 b3, .slice c1 c2 c3] tC)) := (Keeps.refl _ _).alloc _
              have hrc := ((hDb.out.keeps hkb).keeps hA9).refuse hqr hDir.out.dc x0
              by_cases hs : t'.state = 1
              case neg =>
                have hsb : (t'.state == 1) = false := by simpa using hs
                have hre : t'.refuseT x0 = (t', 9) := by unfold Tr.refuseT; rw [if_pos hs]
                rw [hre] at hrc
                have hdn : dec l = none := by rw [hdecB.out]; unfold rfS; rw [if_pos rfl, if_neg hs]; rfl
                rw [hsb]
                replace hdn := Lib.hid hdn
                replace hs := Lib.hid hs
                replace hrc := Lib.hid hrc
                replace hxm := Lib.hid hxm
                replace hkb := Lib.hid hkb
                clear hsb hre hA9 hcl
                go_wp2_with fail
                refine hrc.out.mono ?_
                rintro e we ⟨rfl, hDe⟩
                replace hDe := Lib.hid hDe
                clear hrc
                go_wp2
                go_ret2
                exact ⟨hDe.out.r.k, .inl ⟨hdn.out, rfl⟩⟩
              case pos =>
                have hsb : (t'.state == 1) = true := by simpa using hs
                have hx := hxm hs
                subst hx
                obtain ⟨q1, q2, q3, q4, q6⟩ := hDir.out.refuse hs
                have hrs : rfS true t' = some (t'.refuseT t'.pm).1 := by unfold rfS; rw [if_pos rfl, if_pos hs]
                rw [q1] at hrc
                have q5 : (t'.refuseT t'.pm).1.ag.length ≤ 1000 := by rw [q4]; exact hDir.out.ag
                obtain ⟨t2, et2⟩ : ∃ x, (t'.refuseT t'.pm).1 = x := ⟨_, rfl⟩
                rw [et2] at hrc hrs q2 q3 q5 q6
                rw [hsb]
                replace hrs := Lib.hid hrs
                replace hs := Lib.hid hs
                replace hrc := Lib.hid hrc
                replace hkb := Lib.hid hkb
                have hq2 := Lib.hid q2
                have hq3 := Lib.hid q3
                have hq5 := Lib.hid q5
                have hq6 := Lib.hid (show 0 ≤ t2.state ∧ t2.state ≤ 4 by rw [q6]; decide)
                replace et2 := Lib.hid et2
                clear hsb hA9 hcl hxm q1 q2 q3 q4 q5 q6
                go_wp2_with fail
                refine hrc.out.mono ?_
                rintro e we ⟨rfl, hDe⟩
                replace hDe := Lib.hid hDe
                clear hrc
                go_wp2
                go_meet
                case rel => exact ⟨t2, vg', hrs, hDe, hq2, hq3, hq5.out, hq6⟩
          case rest =>
          obtain ⟨t2, vg2, hrf, hD2, hh2, hn2, ha2, hs2⟩ := hcut
          have hdecE : dec l = dE l told b sb t2 := by rw [hdecB.out, hrf.out]; rfl
          unfold dE at hdecE
          obtain ⟨c20, c21, c22, c23, c24, c25, c26, _⟩ := hD2.out.m.cells
          have hfr := hD2.out.m.free
          have hlt2 := hD2.out.m.lt
          have hD3 := hD2.out.told told
          have hh3 : ({ t2 with told := (told : Int) } : Tr).hist.length ≤ 1000 := by show t2.hist.length ≤ 1000; rw [hh2.out]; have := hDir.out.hl; have := hhst.out; omega
          have hi3 : ∀ a ∈ ({ t2 with told := (told : Int) } : Tr).hist, a.ins.length ≤ 1000 := fun a ha => by
            have ha' : a ∈ t2.hist := ha
            rw [hh2.out] at ha'
            exact hDir.out.hi a ha'
          have hn3 : ({ t2 with told := (told : Int) } : Tr).Num := ⟨hn2.out.im, hn2.out.is, hn2.out.s0, hn2.out.s1, hn2.out.s2⟩
          have ht3 : ({ t2 with told := (told : Int) } : Tr).told = (told : Nat) := rfl
          have ha3 : ({ t2 with told := (told : Int) } : Tr).ag.length ≤ 100000 := by show t2.ag.length ≤ 100000; omega
          have hE3 : ({ t2 with told := (told : Int) } : Tr).Enc := ⟨hn3, hh3, hi3, ha2, ⟨told, rfl, htold⟩, hs2.out⟩
          generalize ({ t2 with told := (told : Int) } : Tr) = t3 at *
          replace hE3 := Lib.hid hE3
          obtain ⟨E, eE⟩ : ∃ x, doneE sb.1 sb.2 = x := ⟨_, rfl⟩
          rw [eE] at hdecE
          replace hdecE := Lib.hid hdecE
          replace hD3 := Lib.hid hD3
          replace hh3 := Lib.hid hh3
          replace hi3 := Lib.hid hi3
          replace hn3 := Lib.hid hn3
          replace ht3 := Lib.hid ht3
          replace ha3 := Lib.hid ha3
          replace eE := Lib.hid eE
          clear hdecB hrf hh2 hn2
          go_wp2_with fail
          refine (doneS_c _ br sb hD3.out.r.r).mono ?_
          rintro e W3 ⟨rfl, rfl⟩
          rw [eE.out]
          clear c20 c21 c22 c23 c24 c25 c26 hfr hlt2 hD2
          generalize (wc.setCell ⟨bt, 6, none⟩ (.int .i64 (told : Int))) = W3 at *
          by_cases hE : E = 0
          case neg =>
            have hEb : (E != 0) = true := by simpa using hE
            have hdn := hdecE.out
            rw [if_neg (fun h => hE h.1)] at hdn
            replace hdn := Lib.hid hdn
            replace hE := Lib.hid hE
            go_wp2
            go_ret2
            exact ⟨hD3.out.r.k, .inl ⟨hdn.out, rfl⟩⟩
          case pos =>
            subst hE
            cases b with
            | false =>
              have hdn := hdecE.out
              rw [if_neg (fun h => Bool.false_ne_true h.2.1)] at hdn
              replace hdn := Lib.hid hdn
              go_wp2
              go_ret2
              exact ⟨hD3.out.r.k, .inl ⟨hdn.out, rfl⟩⟩
            | true =>
              have henc := encode_c W3 (br + 1) bt bm vo vh vg2 t3 told hD3.out.m hn3.out ht3.out (by omega) hh3.out hi3.out ha3.out
              replace henc := Lib.hid henc
              go_wp2_with fail
              refine henc.out.mono ?_
              rintro e W4 ⟨v4, rfl, hB4, hk4⟩
              have heq := beq_c W4 v4 (.slice a0 M c0) (encT t3) l hB4.slB (h.out.keeps (hD3.out.r.k.trans hk4))
              have hD4 := Lib.hid (hD3.out.keeps hk4)
              obtain ⟨a4, c4, rfl⟩ := hB4.slB.form
              by_cases hq : encT t3 = l
              case pos =>
                rw [decide_eq_true hq] at heq
                have hds := hdecE.out
                rw [if_pos (by simp [hq])] at hds
                replace hds := Lib.hid hds
                replace heq := Lib.hid heq
                replace hq := Lib.hid hq
                clear hB4 hk4 henc hD3
                go_wp2_with fail
                refine heq.out.mono ?_
                rintro e W5 ⟨rfl, rfl⟩
                clear heq
                go_wp2
                go_ret2
                exact ⟨hD4.out.r.k, .inr ⟨t3, bt, bm, vo, vh, vg2, hds.out, rfl, hD4.out.m.lowD (by have := hD4.out.r.ge; omega), hE3.out⟩⟩
              case neg =>
                rw [decide_eq_false hq] at heq
                have hdn := hdecE.out
                rw [if_neg (fun h => hq h.2.2)] at hdn
                replace hdn := Lib.hid hdn
                replace heq := Lib.hid heq
                replace hq := Lib.hid hq
                clear hB4 hk4 henc hD3
                go_wp2_with fail
                refine heq.out.mono ?_
                rintro e W5 ⟨rfl, rfl⟩
                clear heq
                go_wp2
                go_ret2
                exact ⟨hD4.out.r.k, .inl ⟨hdn.out, rfl⟩⟩
end Go.Proofs.YthfdngjbcgkkfaaGreat
