/- Texts that the laws lean on, in the order in which they build. A region that draws its order, walked once in the order of the text: the operations that act ('loud') are in one fixed order with each other; every other operation either is ordered against all of them, or is 'steady': it yields the same value in every world that can come up. Of whatever program. Guarded operations in a chain, of whatever program. The small functions of package migration and of its reference's identities. Package migration: New, check, Home. The reference's entries in memory; Find. Package migration: the home of an object. The reference's check and Home. The reference's with. Package migration: Create, Share, Move, Drop, Clone, New. -/
import Derived.Test.YthhhciofcmmnfaaK1
import Derived.Laws.StructEq
import Derived.Laws.Rows
set_option linter.unusedVariables false
set_option linter.unusedSimpArgs false
namespace Go.Proofs.Ythhhciofcmmnfaa
namespace Free
open Go Go.RowKit

def plainRes : Result Next → Prop
  | .ok (.value _) _ => True
  | .ok .skip _ => True
  | .halt _ _ => True
  | _ => False

section
variable (P : Program) (ops : Array Oper) (lo st : Nat → Bool) (T : Nat → Nat → Prop) (w0 : World) (Q : Act → World → Prop) (a0 : Act)

/-- THE WALK, in the order of the text. -/
def cwalk : List Oper → Nat → Act → World → Prop
  | [], _, a, w => Q a w
  | o :: r, i, a, w =>
    if Region.wanted o (yielded ops a.tmps) then
      if lo i then o.wp P a w (fun a' w' => a'.defers = a.defers ∧ KeepsP (T i) w w' ∧ cwalk r (i + 1) a' w') (fun _ _ _ => False)
      else if st i then ∃ c, (∀ w', KeepsP (sx ops T i) w0 w' → Quiet P o a w' c) ∧ cwalk r (i + 1) (a.put o.dst c) w
      else ∃ c, Quiet P o a w c ∧ cwalk r (i + 1) (a.put o.dst c) w
    else cwalk r (i + 1) (a.put o.dst undef) w

/-- What the region's text must be like; asked of the kernel. -/
def chainB : Bool := (List.range ops.size).all fun j => (List.range j).all fun i =>
  (!(lo i && lo j) || pre ops i j) && (!(lo i && !lo j && !st j) || pre ops i j) && (!(lo j && !lo i && !st i) || pre ops i j)
structure Chain : Prop where
  ll : ∀ i j, i < j → j < ops.size → lo i = true → lo j = true → pre ops i j = true
  lr : ∀ i j, i < j → j < ops.size → lo i = true → lo j = false → st j = false → pre ops i j = true
  rl : ∀ i j, i < j → j < ops.size → lo i = false → st i = false → lo j = true → pre ops i j = true
variable {ops lo st} in
theorem chain_of (h : chainB ops lo st = true) : Chain ops lo st := by
  have h1 : ∀ i j, i < j → j < ops.size → ((!(lo i && lo j) || pre ops i j) && (!(lo i && !lo j && !st j) || pre ops i j) && (!(lo j && !lo i && !st i) || pre ops i j)) = true := fun i j hij hj =>
    List.all_eq_true.1 (List.all_eq_true.1 h j (List.mem_range.2 hj)) i (List.mem_range.2 hij)
  refine ⟨fun i j a b c d => ?_, fun i j a b c d e => ?_, fun i j a b c d e => ?_⟩
  · have := h1 i j a b; simp [c, d] at this; exact this
  · have := h1 i j a b; simp [c, d, e] at this; exact this
  · have := h1 i j a b; simp [c, d, e] at this; exact this

def OKs (u : Nat → Value) (j : Nat) : Prop := ∀ o, ops[j]? = some o →
  if Region.wanted o (yielded ops (lex ops a0 u j).tmps) then ∀ w', KeepsP (sx ops T j) w0 w' → Quiet P o (lex ops a0 u j) w' (u j) else u j = undef
def StN (u : Nat → Value) (j : Nat) (w : World) : Prop := ∀ o, ops[j]? = some o →
  if Region.wanted o (yielded ops (lex ops a0 u j).tmps) then Quiet P o (lex ops a0 u j) w (u j) else u j = undef

variable {P ops lo st T w0 Q a0}
theorem OKs_congr {u u' : Nat → Value} {j : Nat} (h : ∀ i, i ≤ j → u i = u' i) (k : OKs P ops T w0 a0 u j) : OKs P ops T w0 a0 u' j := by
  intro o ho
  have := k o ho
  rw [lex_congr (fun i hi => h i (by omega)), h j (Nat.le_refl _)] at this
  exact this

/-- Some way in which an operation may end. -/
theorem some_end {o : Oper} {a : Act} {w : World} {K : Act → World → Prop} (h : o.wp P a w K (fun _ _ _ => False)) (hK : ∀ a' w', K a' w' → a'.defers = a.defers) : ∃ v w', K (a.put o.dst v) w' := by
  unfold Oper.wp at h
  generalize (execOp a.eval o).run P w = r at h
  cases r with
  | halt x w' => cases x <;> simp only [Oper.upon] at h
  | ok n w' =>
    cases n <;> simp only [Oper.upon] at h
    case value v => exact ⟨v, w', h⟩
    case skip => exact ⟨_, w', h⟩
    case defer d =>
      have := hK _ _ h
      cases hd : o.dst <;> simp [Act.put, hd] at this
    case enter f args =>
      obtain ⟨e, w'', fr, hR, _⟩ := h []
      cases e with
      | returned v => exact ⟨v, w'', hR⟩
      | panicked ch => exact hR.elim
      | outgrown => obtain ⟨_, _, hf⟩ := hR; exact hf.elim
    case row r args =>
      obtain ⟨v, w'', hR, _⟩ := h default []
      exact ⟨v, w'', hR⟩
/-- An operation that looks at the same. -/
theorem wp_moved {o : Oper} {a b : Act} {w : World} {K : Act → World → Prop} {K' : Act → World → Prop} {Q' : Exit → Act → World → Prop} (h : o.wp P a w K (fun _ _ _ => False)) (hK : ∀ a' w', K a' w' → a'.defers = a.defers)
    (e : execOp b.eval o = execOp a.eval o) (hk : ∀ v w', K (a.put o.dst v) w' → K' (b.put o.dst v) w') : o.wp P b w K' Q' := by
  unfold Oper.wp at h ⊢
  rw [e]
  generalize (execOp a.eval o).run P w = r at h ⊢
  cases r with
  | halt x w' => cases x <;> simp only [Oper.upon] at h
  | ok n w' =>
    cases n <;> simp only [Oper.upon] at h ⊢
    case value v => exact hk _ _ h
    case skip => exact hk _ _ h
    case defer d =>
      have := hK _ _ h
      cases hd : o.dst <;> simp [Act.put, hd] at this
    case enter f args =>
      refine Calls.mono h fun e w'' hR => ?_
      cases e with
      | returned v => exact hk _ _ hR
      | panicked ch => exact hR.elim
      | outgrown => obtain ⟨_, _, hf⟩ := hR; exact hf.elim
    case row r args => exact Rows.mono h fun v w'' hR => hk _ _ hR

theorem cw_head {r : List Oper} {k : Nat} {o : Oper} (hr : ops.toList.drop k = o :: r) : ops[k]? = some o ∧ ops.toList.drop (k + 1) = r := by
  refine ⟨?_, ?_⟩
  · have := congrArg (fun x : List Oper => x[0]?) hr
    simpa using this
  · have := congrArg List.tail hr
    simpa using this

/-- What a walk that has come to `k` in the world `w` says of all that follows. -/
theorem unroll (hok : Ok ops) : ∀ (r : List Oper) (k : Nat) (u0 : Nat → Value) (w : World), ops.toList.drop k = r → cwalk P ops lo st T w0 Q r k (lex ops a0 u0 k) w →
    ∃ u, (∀ j, j < k → u j = u0 j) ∧ (∀ j, k ≤ j → lo j = false → st j = true → OKs P ops T w0 a0 u j) ∧
      (∀ j, k ≤ j → (∀ l, k ≤ l → l ≤ j → lo l = false) → st j = false → StN P ops a0 u j w) ∧
      (∀ l, l < ops.size → k ≤ l → lo l = true → (∀ i, k ≤ i → i < l → lo i = false) → cwalk P ops lo st T w0 Q (ops.toList.drop l) l (lex ops a0 u l) w) ∧
      ((∀ l, k ≤ l → l < ops.size → lo l = false) → Q (lex ops a0 u ops.size) w)
  | [], k, u0, w, hr, h => by
    have hn : ops.size ≤ k := by simpa using hr
    have hx : lex ops a0 u0 k = lex ops a0 u0 ops.size := fill_congr _ 0 _ fun j _ hj => by
      have : j < ops.size := by simpa using hj
      exact ⟨by simp [this]; omega, fun _ => rfl⟩
    have hnone : ∀ j, k ≤ j → ops[j]? = none := fun j hj => by simp; omega
    refine ⟨u0, fun _ _ => rfl, fun j hj _ _ o ho => ?_, fun j hj _ _ o ho => ?_, fun l hl hk _ _ => by omega, fun _ => by rw [← hx]; exact h⟩
    · rw [hnone j hj] at ho; cases ho
    · rw [hnone j hj] at ho; cases ho
  | o :: r, k, u0, w, hr, h => by
    obtain ⟨ho, hr'⟩ := cw_head hr
    have hks : k < ops.size := (Array.getElem?_eq_some_iff.1 ho).1
    have hlex : ∀ c, lex ops a0 (fun j => if j = k then c else u0 j) k = lex ops a0 u0 k := fun c => lex_congr fun j hj => by simp; intro e; omega
    have hsucc : ∀ c, lex ops a0 (fun j => if j = k then c else u0 j) (k + 1) = (lex ops a0 u0 k).put o.dst c := fun c => by rw [lex_succ hok _ k o ho, hlex]; simp
    have h0 := h
    -- one step: the value `c`, the world `w1`
    have go : ∀ (c : Value) (w1 : World), cwalk P ops lo st T w0 Q r (k + 1) ((lex ops a0 u0 k).put o.dst c) w1 → (lo k = false → w1 = w) →
        (lo k = false → st k = true → if Region.wanted o (yielded ops (lex ops a0 u0 k).tmps) then ∀ w', KeepsP (sx ops T k) w0 w' → Quiet P o (lex ops a0 u0 k) w' c else c = undef) →
        (lo k = false → st k = false → if Region.wanted o (yielded ops (lex ops a0 u0 k).tmps) then Quiet P o (lex ops a0 u0 k) w c else c = undef) →
        ∃ u, (∀ j, j < k → u j = u0 j) ∧ (∀ j, k ≤ j → lo j = false → st j = true → OKs P ops T w0 a0 u j) ∧
          (∀ j, k ≤ j → (∀ l, k ≤ l → l ≤ j → lo l = false) → st j = false → StN P ops a0 u j w) ∧
          (∀ l, l < ops.size → k ≤ l → lo l = true → (∀ i, k ≤ i → i < l → lo i = false) → cwalk P ops lo st T w0 Q (ops.toList.drop l) l (lex ops a0 u l) w) ∧
          ((∀ l, k ≤ l → l < ops.size → lo l = false) → Q (lex ops a0 u ops.size) w) := by
      intro c w1 hcw hw1 hs1 hs2
      obtain ⟨u, e1, e2, e3, e4, e5⟩ := unroll hok r (k + 1) (fun j => if j = k then c else u0 j) w1 hr' (by rw [hsucc]; exact hcw)
      have hlow : ∀ j, j < k → u j = u0 j := fun j hj => by rw [e1 j (by omega)]; simp; intro e; omega
      have huk : u k = c := by rw [e1 k (by omega)]; simp
      have hlk : lex ops a0 u k = lex ops a0 u0 k := lex_congr hlow
      refine ⟨u, hlow, fun j hj h1 h2 => ?_, fun j hj h1 h2 => ?_, fun l hl hkl h1 h2 => ?_, fun h1 => ?_⟩
      · by_cases e : j = k
        · subst e
          intro o' ho'
          rw [ho] at ho'; cases ho'
          rw [hlk, huk]; exact hs1 h1 h2
        · exact e2 j (by omega) h1 h2
      · have hlk0 := h1 k (Nat.le_refl _) hj
        have hww := hw1 hlk0
        by_cases e : j = k
        · subst e
          intro o' ho'
          rw [ho] at ho'; cases ho'
          rw [hlk, huk]; exact hs2 hlk0 h2
        · have := e3 j (by omega) (fun l a b => h1 l (by omega) b) h2
          rw [hww] at this
          exact this
      · by_cases e : l = k
        · subst e
          rw [hr, hlk]; exact h0
        · have hlk0 := h2 k (Nat.le_refl _) (by omega)
          have := e4 l hl (by omega) h1 (fun i a b => h2 i (by omega) b)
          rw [hw1 hlk0] at this
          exact this
      · have := e5 (fun l a b => h1 l (by omega) b)
        rw [hw1 (h1 k (Nat.le_refl _) hks)] at this
        exact this
    unfold cwalk at h
    by_cases hw : Region.wanted o (yielded ops (lex ops a0 u0 k).tmps) = true
    · rw [if_pos hw] at h
      by_cases hl : lo k = true
      · rw [if_pos hl] at h
        obtain ⟨v, w1, _, _, hc1⟩ := some_end h (fun _ _ hh => hh.1)
        exact go v w1 hc1 (fun e => by rw [hl] at e; cases e) (fun e => by rw [hl] at e; cases e) (fun e => by rw [hl] at e; cases e)
      · rw [if_neg hl] at h
        by_cases hs : st k = true
        · rw [if_pos hs] at h
          obtain ⟨c, hq, hc⟩ := h
          exact go c w hc (fun _ => rfl) (fun _ _ => by rw [if_pos hw]; exact hq) (fun _ e => by rw [hs] at e; cases e)
        · rw [if_neg hs] at h
          obtain ⟨c, hq, hc⟩ := h
          exact go c w hc (fun _ => rfl) (fun _ e => absurd e hs) (fun _ _ => by rw [if_pos hw]; exact hq)
    · rw [if_neg hw] at h
      exact go undef w h (fun _ => rfl) (fun _ _ => by rw [if_neg hw]) (fun _ _ => by rw [if_neg hw])

/-- What holds at every point of a run in whatever order. -/
structure CInv (P : Program) (ops : Array Oper) (lo st : Nat → Bool) (T : Nat → Nat → Prop) (w0 : World) (Q : Act → World → Prop) (a0 : Act) (listed : Array Bool) (b : Act) (w : World) (k : Nat) (u : Nat → Value) : Prop where
  size : listed.size = ops.size
  closed : ∀ (i : Nat) (o : Oper), ops[i]? = some o → listed.getD i false = true → ∀ e ∈ o.after, Region.binds .any e = true → listed.getD e.on false = true
  good : KeepsP (fun b => ∃ j, listed.getD j false = true ∧ T j b) w0 w
  frame : b = fill u (fun j => listed.getD j false) ops.toList 0 a0
  loudk : ∀ j, j < ops.size → lo j = true → (listed.getD j false = true ↔ j < k)
  below : ∀ j, j < k → j < ops.size → lo j = false → st j = false → listed.getD j false = true
  stab : ∀ j, lo j = false → st j = true → OKs P ops T w0 a0 u j
  seg : ∀ j, k ≤ j → (∀ l, k ≤ l → l ≤ j → lo l = false) → st j = false → StN P ops a0 u j w
  next : ∀ l, l < ops.size → k ≤ l → lo l = true → (∀ i, k ≤ i → i < l → lo i = false) → cwalk P ops lo st T w0 Q (ops.toList.drop l) l (lex ops a0 u l) w
  fin : (∀ l, k ≤ l → l < ops.size → lo l = false) → Q (lex ops a0 u ops.size) w

theorem getD_lt {listed : Array Bool} {j : Nat} (h : listed.getD j false = true) : j < listed.size := by
  rcases Nat.lt_or_ge j listed.size with h1 | h1
  · exact h1
  · simp [Array.getD, Nat.not_lt.2 h1] at h

theorem lex_agree (hok : Ok ops) (u : Nat → Value) {j : Nat} (hj : j < ops.size) : Agree (ops[j].looksAt ops) (lex ops a0 u j) (fill u (fun k => pre ops k j && decide (k < ops.size)) ops.toList 0 a0) := by
  have hp' : ops[j]? = some ops[j] := by simp [hj]
  refine fill_agree _ 0 _ _ (Agree.refl _ _) fun k p hp hne t ht => ?_
  have hpk : ops[k]? = some p := by simpa using hp
  have hk : k < ops.size := (Array.getElem?_eq_some_iff.1 hpk).1
  simp only [Nat.zero_add] at hne
  have hkj : j ≠ k := fun e => by
    subst e
    have : pre ops j j = false := by
      cases hpp : pre ops j j
      · rfl
      · have := pre_lt hok (j + 1) j (by omega) hj j hj hpp; omega
    simp [this] at hne
  rcases hok.apart j _ k p hp' hpk hkj with h | h | h
  · have := pre_lt hok (j + 1) j (by omega) hj k hk h
    simp [this, h, hk] at hne
  · have h9 := pre_lt hok (k + 1) k (by omega) hk j hj h
    have h10 : pre ops k j = false := by
      cases hpp : pre ops k j
      · rfl
      · have := pre_lt hok (j + 1) j (by omega) hj k hk hpp; omega
    simp [h10] at hne
    omega
  · exact (Oper.apart_spec h).1 t ht

/-- The frame at hand agrees with the frame in the order of the text on what an operation that is ready looks at. -/
theorem ready_agree (hok : Ok ops) {listed : Array Bool} {u : Nat → Value} {i : Nat} {o : Oper} (ho : ops[i]? = some o) (hnl : listed.getD i false = false)
    (hc : ∀ (i : Nat) (o : Oper), ops[i]? = some o → listed.getD i false = true → ∀ e ∈ o.after, Region.binds .any e = true → listed.getD e.on false = true)
    (hedge : ∀ e ∈ o.after, Region.binds .any e = true → listed.getD e.on false = true) :
    Agree (o.looksAt ops) (lex ops a0 u i) (fill u (fun j => listed.getD j false) ops.toList 0 a0) := by
  have hlt : i < ops.size := (Array.getElem?_eq_some_iff.1 ho).1
  have hpre : ∀ j, j < ops.size → pre ops j i = true → listed.getD j false = true := closed_pre hok hc (i + 1) i (by omega) o ho hedge
  refine fill_agree _ 0 _ _ (Agree.refl _ _) fun j p hp hne t ht => ?_
  have hp' : ops[j]? = some p := by simpa using hp
  have hj : j < ops.size := (Array.getElem?_eq_some_iff.1 hp').1
  simp only [Nat.zero_add] at hne
  have hji : i ≠ j := fun e => by
    subst e
    rw [hnl] at hne
    simp at hne
  rcases hok.apart i o j p ho hp' hji with h | h | h
  · have h2 := pre_lt hok (i + 1) i (by omega) hlt j hj h
    rw [hpre j hj h] at hne
    simp [h2] at hne
  · have h2 := pre_lt hok (j + 1) j (by omega) hj i hlt h
    have h3 : listed.getD j false = false := by
      cases h4 : listed.getD j false
      · rfl
      · have := closed_pre hok hc (j + 1) j (by omega) p hp' (hc j p hp' h4) i hlt h
        rw [hnl] at this
        cases this
    rw [h3] at hne
    simp at hne
    omega
  · exact (Oper.apart_spec h).1 t ht

/-- Two readings of the walk give the same values to what has come up already. -/
theorem same_vals (hok : Ok ops) {listed : Array Bool} {u u' : Nat → Value} {i : Nat} (hnl : listed.getD i false = false) (hsz : listed.size = ops.size)
    (hc : ∀ (i : Nat) (o : Oper), ops[i]? = some o → listed.getD i false = true → ∀ e ∈ o.after, Region.binds .any e = true → listed.getD e.on false = true)
    (hlow : ∀ j, j < i → u' j = u j) (hs : ∀ j, i < j → listed.getD j false = true → OKs P ops T w0 a0 u j ∧ OKs P ops T w0 a0 u' j) :
    ∀ n j, j < n → listed.getD j false = true → u' j = u j
  | 0, j, h, _ => by omega
  | n + 1, j, h, hl => by
    have ih := same_vals hok hnl hsz hc hlow hs n
    rcases Nat.lt_trichotomy j i with hji | hji | hji
    · exact hlow j hji
    · subst hji; rw [hnl] at hl; cases hl
    · have hj : j < ops.size := by rw [← hsz]; exact getD_lt hl
      have hoj : ops[j]? = some ops[j] := by simp [hj]
      obtain ⟨k1, k2⟩ := hs j hji hl
      have hpre : ∀ q, q < ops.size → pre ops q j = true → listed.getD q false = true := closed_pre hok hc (j + 1) j (by omega) _ hoj (hc j _ hoj hl)
      have hag : Agree (ops[j].looksAt ops) (lex ops a0 u' j) (lex ops a0 u j) := by
        have e1 := lex_agree (a0 := a0) hok u hj
        have e2 := lex_agree (a0 := a0) hok u' hj
        have e3 : fill u' (fun k => pre ops k j && decide (k < ops.size)) ops.toList 0 a0 = fill u (fun k => pre ops k j && decide (k < ops.size)) ops.toList 0 a0 :=
          fill_congr _ 0 _ fun q _ _ => ⟨rfl, fun hq => by
            simp only [Bool.and_eq_true, decide_eq_true_eq] at hq
            exact ih q (by have := pre_lt hok (j + 1) j (by omega) hj q hq.2 hq.1; omega) (hpre q hq.2 hq.1)⟩
        rw [e3] at e2
        exact ⟨e2.1.trans e1.1.symm, fun t ht => (e2.2 t ht).trans (e1.2 t ht).symm⟩
      have hwn := wanted_agree (o := ops[j]) hag
      have hex := exec_agree hag (hok.sel j _ hoj)
      have q1 := k1 _ hoj
      have q2 := k2 _ hoj
      rw [hwn] at q2
      by_cases hwant : Region.wanted ops[j] (yielded ops (lex ops a0 u j).tmps) = true
      · rw [if_pos hwant] at q1 q2
        exact quiet_one (q2 w0 (KeepsP.refl _ _)) (q1 w0 (KeepsP.refl _ _)) hex
      · rw [if_neg hwant] at q1 q2
        rw [q1, q2]

theorem chain_any (hok : Ok ops) (hch : Chain ops lo st) {Q' : Exit → Act → World → Prop} (hQ : ∀ a w, Q a w → Q' .normal a w) :
    ∀ (fuel : Nat) (listed : Array Bool) (b : Act) (w : World) (k : Nat) (u : Nat → Value), CInv P ops lo st T w0 Q a0 listed b w k u → count listed ops.size = fuel → wpAny P .any ops Q' fuel listed b w := by
  have fin : ∀ (listed : Array Bool) (b : Act) (w : World) (k : Nat) (u : Nat → Value), CInv P ops lo st T w0 Q a0 listed b w k u → (∀ i, i < ops.size → listed.getD i false = true) → Q' .normal b w := by
    intro listed b w k u hI hall
    refine hQ _ _ ?_
    have : fill u (fun j => listed.getD j false) ops.toList 0 a0 = lex ops a0 u ops.size := fill_congr _ 0 _ fun j _ hj => by
      have : j < ops.size := by simpa using hj
      exact ⟨by rw [hall j this]; simp [this], fun _ => rfl⟩
    rw [hI.frame, this]
    refine hI.fin fun l hl hls => ?_
    cases hlo : lo l
    · rfl
    · have := (hI.loudk l hls hlo).1 (hall l hls)
      omega
  intro fuel
  induction fuel with
  | zero =>
    intro listed b w k u hI hc
    have hall : ∀ i, i < ops.size → listed.getD i false = true := fun i hi => by
      have := List.countP_eq_zero.1 hc i (List.mem_range.2 hi)
      simpa using this
    refine ⟨?_, fin listed b w k u hI hall⟩
    refine List.eq_nil_iff_forall_not_mem.2 fun i hi => ?_
    obtain ⟨h1, o, ho, _⟩ := mem_ready.1 hi
    have hlt : i < ops.size := (Array.getElem?_eq_some_iff.1 ho).1
    have h2 := hall i hlt
    have hs : i < listed.size := by rw [hI.size]; exact hlt
    simp [Array.getD, hs] at h1 h2
    rw [h1] at h2
    cases h2
  | succ fuel ih =>
    intro listed b w k u hI hc
    refine ⟨fun hr => fin listed b w k u hI (fun i hi => ready_sub hok hr hI.size (i + 1) i (by omega) hi), fun i hi => ?_⟩
    obtain ⟨h1, o, ho, hedge⟩ := mem_ready.1 hi
    have hlt : i < ops.size := (Array.getElem?_eq_some_iff.1 ho).1
    have hs : i < listed.size := by rw [hI.size]; exact hlt
    have hnl : listed.getD i false = false := by simpa [Array.getD, hs] using h1
    have hcount : count (listed.setIfInBounds i true) ops.size = fuel := by
      have := count_set hs hnl ops.size hlt
      omega
    have hpre : ∀ j, j < ops.size → pre ops j i = true → listed.getD j false = true := closed_pre hok hI.closed (i + 1) i (by omega) o ho hedge
    have hprej : ∀ j, listed.getD j false = true → pre ops i j = false := fun j hj => by
      cases hpp : pre ops i j
      · rfl
      · have hj' : j < ops.size := by rw [← hI.size]; exact getD_lt hj
        have := closed_pre hok hI.closed (j + 1) j (by omega) ops[j] (by simp [hj']) (hI.closed j ops[j] (by simp [hj']) hj) i hlt hpp
        rw [hnl] at this; cases this
    have hag : Agree (o.looksAt ops) (lex ops a0 u i) b := by rw [hI.frame]; exact ready_agree hok ho hnl hI.closed hedge
    have hex := exec_agree hag (hok.sel i o ho)
    have hwa := wanted_agree (o := o) hag
    have hclosed' : ∀ (k : Nat) (p : Oper), ops[k]? = some p → (listed.setIfInBounds i true).getD k false = true → ∀ e ∈ p.after, Region.binds .any e = true → (listed.setIfInBounds i true).getD e.on false = true := by
      intro k p hp hk e he hb
      rw [getD_set hs] at hk ⊢
      by_cases e1 : e.on = i
      · rw [if_pos e1]
      · rw [if_neg e1]
        by_cases e2 : k = i
        · subst e2; rw [ho] at hp; cases hp; exact hedge e he hb
        · rw [if_neg e2] at hk; exact hI.closed k p hp hk e he hb
    have hput : ∀ (u' : Nat → Value), (∀ j, listed.getD j false = true → u' j = u j) → b.put o.dst (u' i) = fill u' (fun j => (listed.setIfInBounds i true).getD j false) ops.toList 0 a0 := fun u' hu' => by
      have e1 : b = fill u' (fun j => listed.getD j false) ops.toList 0 a0 := by
        rw [hI.frame]; exact fill_congr _ 0 _ fun j _ _ => ⟨rfl, fun hj => (hu' j hj).symm⟩
      rw [e1]
      refine (fill_put (i := i) (o := o) hnl (by rw [getD_set hs, if_pos rfl]) (fun j hj => by rw [getD_set hs, if_neg hj]) _ 0 _ (Nat.zero_le _) (by simpa using ho) (fun j p hp hne t ht => ?_)).symm
      exact hok.dst i o j p ho (by simpa using hp) (by omega) t ht
    -- a read has come up
    have nextR : lo i = false → wpAny P .any ops Q' fuel (listed.setIfInBounds i true) (b.put o.dst (u i)) w := fun hlo => by
      refine ih _ _ _ k u ⟨by simp [hI.size], hclosed', hI.good.mono (fun b ⟨q, hq, ht⟩ => ⟨q, (by rw [getD_set hs]; split <;> first | rfl | exact hq), ht⟩), hput u (fun _ _ => rfl), fun j hj hl => ?_, fun j hj hjs h1 h2 => ?_, hI.stab, hI.seg, hI.next, hI.fin⟩ hcount
      · rw [getD_set hs, if_neg (fun e => by subst e; rw [hlo] at hl; cases hl)]
        exact hI.loudk j hj hl
      · rw [getD_set hs]
        split
        · rfl
        · exact hI.below j hj hjs h1 h2
    -- a loud one has come up (or is passed over)
    have nextL : lo i = true → ∀ (v : Value) (w' : World), KeepsP (T i) w w' → cwalk P ops lo st T w0 Q (ops.toList.drop (i + 1)) (i + 1) ((lex ops a0 u i).put o.dst v) w' → k ≤ i → (∀ l, k ≤ l → l < i → lo l = false) →
        wpAny P .any ops Q' fuel (listed.setIfInBounds i true) (b.put o.dst v) w' := fun hlo v w' hkw hcw hki hno => by
      have hgood' : KeepsP (fun b => ∃ j, (listed.setIfInBounds i true).getD j false = true ∧ T j b) w0 w' := (hI.good.mono (fun b ⟨q, hq, ht⟩ => ⟨q, (by rw [getD_set hs]; split <;> first | rfl | exact hq), ht⟩)).trans (hkw.mono (fun b hb => ⟨i, (by rw [getD_set hs, if_pos rfl]), hb⟩))
      have hlex : ∀ c, lex ops a0 (fun j => if j = i then c else u j) i = lex ops a0 u i := fun c => lex_congr fun j hj => by simp; intro e; omega
      have hsucc : lex ops a0 (fun j => if j = i then v else u j) (i + 1) = (lex ops a0 u i).put o.dst v := by rw [lex_succ hok _ i o ho, hlex]; simp
      obtain ⟨u', e1, e2, e3, e4, e5⟩ := unroll (P := P) (lo := lo) (st := st) (T := T) (w0 := w0) (Q := Q) (a0 := a0) hok _ (i + 1) (fun j => if j = i then v else u j) w' rfl (by rw [hsucc]; exact hcw)
      have hlow : ∀ j, j < i → u' j = u j := fun j hj => by rw [e1 j (by omega)]; simp; intro e; omega
      have hui : u' i = v := by rw [e1 i (by omega)]; simp
      have hsteady : ∀ j, i < j → listed.getD j false = true → lo j = false ∧ st j = true := fun j hj hl => by
        have hjs : j < ops.size := by rw [← hI.size]; exact getD_lt hl
        have hp := hprej j hl
        cases hlj : lo j
        · refine ⟨rfl, ?_⟩
          cases hsj : st j
          · have := hch.lr i j hj hjs hlo hlj hsj
            rw [hp] at this; cases this
          · rfl
        · have := hch.ll i j hj hjs hlo hlj
          rw [hp] at this; cases this
      have hsame : ∀ j, listed.getD j false = true → u' j = u j := fun j hj =>
        same_vals (P := P) (T := T) (w0 := w0) (a0 := a0) hok hnl hI.size hI.closed hlow (fun j hj hl => by
          obtain ⟨a, b⟩ := hsteady j hj hl
          exact ⟨hI.stab j a b, e2 j (by omega) a b⟩) (j + 1) j (by omega) hj
      have hfr := hput u' hsame
      rw [hui] at hfr
      refine ih _ _ _ (i + 1) u' ⟨by simp [hI.size], hclosed', hgood', hfr, fun j hj hl => ?_, fun j hj hjs h1 h2 => ?_, fun j h1 h2 => ?_, e3, e4, e5⟩ hcount
      · rw [getD_set hs]
        by_cases e : j = i
        · subst e; simp
        · rw [if_neg e, hI.loudk j hj hl]
          constructor
          · intro h; omega
          · intro h
            rcases Nat.lt_or_ge j k with h9 | h9
            · exact h9
            · have := hno j h9 (by omega)
              rw [hl] at this; cases this
      · rw [getD_set hs]
        by_cases e : j = i
        · rw [if_pos e]
        · rw [if_neg e]
          exact hpre j hjs (hch.rl j i (by omega) hlt h1 h2 hlo)
      · by_cases hj : j < i
        · exact OKs_congr (fun q hq => (hlow q (by omega)).symm) (hI.stab j h1 h2)
        · exact e2 j (by
            rcases Nat.lt_or_ge i j with e | e
            · omega
            · have e' : j = i := by omega
              rw [e', hlo] at h1; cases h1) h1 h2
    unfold wpOp
    simp only [ho]
    by_cases hlo : lo i = true
    · -- loud
      have hki : k ≤ i := by
        rcases Nat.lt_or_ge i k with h9 | h9
        · have := (hI.loudk i hlt hlo).2 h9
          rw [hnl] at this; cases this
        · exact h9
      have hno : ∀ l, k ≤ l → l < i → lo l = false := fun l h9 h10 => by
        cases hl : lo l
        · rfl
        · have h11 := hpre l (by omega) (hch.ll l i h10 hlt hl hlo)
          have := (hI.loudk l (by omega) hl).1 h11
          omega
      have hcw := hI.next i hlt hki hlo hno
      have hdrop : ops.toList.drop i = o :: ops.toList.drop (i + 1) := by
        rw [List.drop_eq_getElem_cons (by simpa using hlt)]
        have := (Array.getElem?_eq_some_iff.1 ho).2
        simp [this]
      rw [hdrop] at hcw
      unfold cwalk at hcw
      rw [hwa] at hcw
      by_cases hwant : Region.wanted o (yielded ops b.tmps) = true
      · rw [if_pos hwant]
        rw [if_pos hwant, if_pos hlo] at hcw
        exact .inl (wp_moved hcw (fun _ _ hh => hh.1) hex.symm fun v w' hh => nextL hlo v w' hh.2.1 hh.2.2 hki hno)
      · rw [if_neg hwant]
        rw [if_neg hwant] at hcw
        exact nextL hlo undef w (KeepsP.refl _ _) hcw hki hno
    · have hlo' : lo i = false := by simpa using hlo
      by_cases hst : st i = true
      · have hq := hI.stab i hlo' hst o ho
        rw [hwa] at hq
        by_cases hwant : Region.wanted o (yielded ops b.tmps) = true
        · rw [if_pos hwant]
          rw [if_pos hwant] at hq
          have hcl : KeepsP (sx ops T i) w0 w := hI.good.mono (fun b ⟨q, hq9, ht⟩ => ⟨q, (fun e => by rw [e, hnl] at hq9; cases hq9), hprej q hq9, ht⟩)
          exact .inl (wp_of_quiet (hq w hcl) hex.symm (nextR hlo'))
        · rw [if_neg hwant]
          rw [if_neg hwant] at hq
          rw [← hq]; exact nextR hlo'
      · have hst' : st i = false := by simpa using hst
        have hki : k ≤ i := by
          rcases Nat.lt_or_ge i k with h9 | h9
          · have := hI.below i h9 hlt hlo' hst'
            rw [hnl] at this; cases this
          · exact h9
        have hno : ∀ l, k ≤ l → l ≤ i → lo l = false := fun l h9 h10 => by
          cases hl : lo l
          · rfl
          · have hli : l < i := by
              rcases Nat.lt_or_ge l i with e | e
              · exact e
              · have : l = i := by omega
                subst this; rw [hlo'] at hl; cases hl
            have h11 := hpre l (by omega) (hch.lr l i hli hlt hl hlo' hst')
            have := (hI.loudk l (by omega) hl).1 h11
            omega
        have hq := hI.seg i hki hno hst' o ho
        rw [hwa] at hq
        by_cases hwant : Region.wanted o (yielded ops b.tmps) = true
        · rw [if_pos hwant]
          rw [if_pos hwant] at hq
          exact .inl (wp_of_quiet hq hex.symm (nextR hlo'))
        · rw [if_neg hwant]
          rw [if_neg hwant] at hq
          rw [← hq]; exact nextR hlo'

theorem wp_region_chain {id : Nat} {l : List Oper} {a : Act} {w : World} {Q' : Exit → Act → World → Prop} (lo st : Nat → Bool) (T : Nat → Nat → Prop) (hm : P.follows .mixedOrders = true) (hB : okB l.toArray = true) (hC : chainB l.toArray lo st = true)
    (h : cwalk P l.toArray lo st T w.drew (fun a' w' => Q' .normal a' w') l 0 a w.drew) : (Code.region id l.toArray true).wp P Q' a w := by
  refine wp_region_any hm ?_
  have hok := ok_of hB
  have hch := chain_of hC
  have hlex0 : ∀ u, lex l.toArray a u 0 = a := fun u => (fill_congr (v' := u) (S' := fun _ => false) _ 0 _ (fun j _ _ => ⟨by simp, fun _ => rfl⟩)).trans (fill_none _ 0 _)
  obtain ⟨u, _, e2, e3, e4, e5⟩ := unroll (P := P) (lo := lo) (st := st) (T := T) (w0 := w.drew) (Q := fun a' w' => Q' .normal a' w') (a0 := a) hok l 0 (fun _ => undef) w.drew (by simp) (by rw [hlex0]; exact h)
  have hno : ∀ j, (Array.replicate l.toArray.size false).getD j false = false := fun j => by
    simp only [Array.getD_eq_getD_getElem?, Array.getElem?_replicate]
    split <;> rfl
  refine chain_any (Q := fun a' w' => Q' .normal a' w') (a0 := a) hok hch (fun _ _ h => h) _ _ _ _ 0 u ⟨by simp, fun i o _ hi => ?_, KeepsP.refl _ _, ?_, fun j _ _ => ?_, fun j hj => by omega, fun j h1 h2 => e2 j (by omega) h1 h2, e3, e4, e5⟩ ?_
  · rw [hno] at hi; cases hi
  · refine ((fill_congr (v' := u) (S' := fun _ => false) _ 0 _ (fun j _ _ => ⟨by simp only [hno], fun _ => rfl⟩)).trans (fill_none _ 0 _)).symm
  · rw [hno]; simp
  · unfold count
    rw [List.countP_eq_length.2 (fun i hi => ?_)]
    · simp
    · rw [hno]; rfl

def PlainS (P : Program) (e : Sem Next) : Prop := ∀ w, plainRes (e.run P w)
theorem PlainS.pure {P : Program} (v : Value) : PlainS P (Sem.pure (.value v)) := fun _ => trivial
theorem PlainS.bind {P : Program} {α : Type} (s : Sem α) (f : α → Sem Next) (h : ∀ x, PlainS P (f x)) : PlainS P (s >>= f) := fun w => by
  rw [Sem.run_bind]
  generalize s.run P w = r
  cases r with
  | ok a w' => exact h a w'
  | halt x w' => trivial
theorem PlainS.val {P : Program} (s : Sem Value) : PlainS P (do Pure.pure (.value (← s))) := PlainS.bind s _ fun x => PlainS.pure x
theorem PlainS.of_ok {P : Program} {e : Sem Next} (h : ∀ w, ∃ v, e.run P w = .ok (.value v) w) : PlainS P e := fun w => by obtain ⟨v, hv⟩ := h w; rw [hv]; trivial
/-- The kinds of operation that yield a value and neither call, defer nor communicate. -/
def plainOp : Op → Bool
  | .move _ | .assign _ | .pick .. | .build .. | .load .. | .binOp .. | .unOp .. | .convert .. | .makeInterface .. | .makeFunc .. | .slice .. | .fieldAddr .. | .field .. | .indexAddr .. | .index .. | .lookup .. | .extract .. => true
  | .call { callee := .builtin .len, .. } | .call { callee := .builtin .cap, .. } | .call { callee := .builtin .min, .. } | .call { callee := .builtin .max, .. } => true
  | _ => false
theorem plain_exec (P : Program) (o : Oper) (h : plainOp o.op = true) (ev : Operand → Value) : PlainS P (execOp ev o) := by
  obtain ⟨dst, op, ty, pos, after, guard⟩ := o
  cases op <;> simp only [plainOp, Bool.false_eq_true] at h <;> try exact PlainS.val _
  · exact PlainS.pure _
  · exact PlainS.pure _
  · exact PlainS.bind _ _ fun x => PlainS.pure _
  · rename_i c
    obtain ⟨callee, args, ats⟩ := c
    cases callee with
    | value f => simp at h
    | invoke r m => simp at h
    | builtin b => cases b <;> first | (exfalso; simp at h; done) | exact PlainS.val _

variable {P : Program} {ops : Array Oper} {lo st : Nat → Bool} {T : Nat → Nat → Prop} {w0 : World} {Q : Act → World → Prop}
theorem cw_nil {a : Act} {w : World} (h : Q a w) {i : Nat} : cwalk P ops lo st T w0 Q [] i a w := h
theorem cw_want {o : Oper} {r : List Oper} {i : Nat} {a : Act} {w : World} {c : Value} (hw : Region.wanted o (yielded ops a.tmps) = true) (hlo : lo i = false) (hst : st i = false) (hq : Quiet P o a w c)
    (h : cwalk P ops lo st T w0 Q r (i + 1) (a.put o.dst c) w) : cwalk P ops lo st T w0 Q (o :: r) i a w := by
  unfold cwalk
  rw [if_pos hw, if_neg (by rw [hlo]; simp), if_neg (by rw [hst]; simp)]
  exact ⟨c, hq, h⟩
theorem cw_skip {o : Oper} {r : List Oper} {i : Nat} {a : Act} {w : World} (hw : Region.wanted o (yielded ops a.tmps) = false)
    (h : cwalk P ops lo st T w0 Q r (i + 1) (a.put o.dst undef) w) : cwalk P ops lo st T w0 Q (o :: r) i a w := by
  unfold cwalk
  rw [if_neg (by rw [hw]; simp)]
  exact h
/-- An operation that reads, walked by the walk's own words. -/
theorem cw_read {o : Oper} {r : List Oper} {i : Nat} {a : Act} {w : World} (hg : o.guard = none) (hlo : lo i = false) (hst : st i = false) (hp : plainOp o.op = true)
    (h : ∀ K : Act → World → Prop, (∀ a', cwalk P ops lo st T w0 Q r (i + 1) a' w → K a' w) → o.wp P a w K (fun _ _ _ => False)) : cwalk P ops lo st T w0 Q (o :: r) i a w := by
  have h1 := h (fun a' w' => w' = w ∧ cwalk P ops lo st T w0 Q r (i + 1) a' w) (fun _ hh => ⟨rfl, hh⟩)
  have hpl := plain_exec P o hp a.eval w
  have hq : ∃ c, Quiet P o a w c ∧ cwalk P ops lo st T w0 Q r (i + 1) (a.put o.dst c) w := by
    unfold Oper.wp at h1
    unfold Quiet
    generalize (execOp a.eval o).run P w = x at h1 hpl
    cases x with
    | halt e w' => cases e <;> simp only [Oper.upon] at h1
    | ok n w' =>
      cases n <;> simp only [plainRes] at hpl <;> simp only [Oper.upon] at h1
      · exact ⟨_, ⟨h1.1, rfl⟩, h1.2⟩
      · exact ⟨_, ⟨h1.1, rfl⟩, h1.2⟩
  obtain ⟨c, hq, hc⟩ := hq
  exact cw_want (by simp [Region.wanted, hg]) hlo hst hq hc
theorem cw_move {o : Oper} {r : List Oper} {i : Nat} {a : Act} {w : World} (x : Operand) (ho : o.op = .move x ∨ o.op = .assign x) (hg : o.guard = none) (hlo : lo i = false)
    (h : cwalk P ops lo st T w0 Q r (i + 1) (a.put o.dst (a.eval x)) w) : cwalk P ops lo st T w0 Q (o :: r) i a w := by
  have hq : ∀ w', Quiet P o a w' (a.eval x) := fun w' => by
    unfold Quiet execOp
    rcases ho with ho | ho <;> rw [ho] <;> exact ⟨rfl, rfl⟩
  unfold cwalk
  rw [if_pos (by simp [Region.wanted, hg]), if_neg (by rw [hlo]; simp)]
  split
  · exact ⟨_, fun w' _ => hq w', h⟩
  · exact ⟨_, hq w, h⟩
/-- A nil check of a pointer that is not nil. -/
theorem cw_nilCheck {o : Oper} {r : List Oper} {i : Nat} {a : Act} {w : World} (x : Operand) (p : Addr) (ho : o.op = .nilCheck x) (hx : a.eval x = .pointer (some p)) (hg : o.guard = none) (hlo : lo i = false)
    (h : cwalk P ops lo st T w0 Q r (i + 1) (a.put o.dst (.pointer (some p))) w) : cwalk P ops lo st T w0 Q (o :: r) i a w := by
  have hq : ∀ w', Quiet P o a w' (.pointer (some p)) := fun w' => by
    unfold Quiet execOp
    rw [ho]; simp only [hx]
    exact ⟨rfl, rfl⟩
  unfold cwalk
  rw [if_pos (by simp [Region.wanted, hg]), if_neg (by rw [hlo]; simp)]
  split
  · exact ⟨_, fun w' _ => hq w', h⟩
  · exact ⟨_, hq w, h⟩
/-- An operation that reads what the loud ones that may come up before it leave alone. -/
theorem cw_steady {o : Oper} {r : List Oper} {i : Nat} {a : Act} {w : World} {c : Value} (hg : o.guard = none) (hlo : lo i = false) (hst : st i = true)
    (hq : ∀ w', KeepsP (sx ops T i) w0 w' → Quiet P o a w' c) (h : cwalk P ops lo st T w0 Q r (i + 1) (a.put o.dst c) w) : cwalk P ops lo st T w0 Q (o :: r) i a w := by
  unfold cwalk
  rw [if_pos (by simp [Region.wanted, hg]), if_neg (by rw [hlo]; simp), if_pos hst]
  exact ⟨c, hq, h⟩
/-- .. whatever the loud ones do. -/
theorem cw_pure {o : Oper} {r : List Oper} {i : Nat} {a : Act} {w : World} {c : Value} (hg : o.guard = none) (hlo : lo i = false)
    (hq : ∀ w', Quiet P o a w' c) (h : cwalk P ops lo st T w0 Q r (i + 1) (a.put o.dst c) w) : cwalk P ops lo st T w0 Q (o :: r) i a w := by
  unfold cwalk
  rw [if_pos (by simp [Region.wanted, hg]), if_neg (by rw [hlo]; simp)]
  split
  · exact ⟨c, fun w' _ => hq w', h⟩
  · exact ⟨c, hq w, h⟩
/-- The cells that an operation may count on. -/
theorem sx_cell {i b off : Nat} {v : Value} {w' : World} (hk : KeepsP (sx ops T i) w0 w') (hc : w0.cell? ⟨b, off, none⟩ = some v) (hT : ∀ j, pre ops i j = false → ¬ T j b) : w'.cell? ⟨b, off, none⟩ = some v :=
  (hk.cell b off (lt_of_cell hc) (fun ⟨j, _, h1, h2⟩ => hT j h1 h2)).trans hc
/-- A loud operation, walked by the walk's own words. -/
theorem cw_loud {o : Oper} {r : List Oper} {i : Nat} {a : Act} {w : World} (hg : o.guard = none) (hlo : lo i = true)
    (h : ∀ K : Act → World → Prop, (∀ a' w', a'.defers = a.defers → KeepsP (T i) w w' → cwalk P ops lo st T w0 Q r (i + 1) a' w' → K a' w') → o.wp P a w K (fun _ _ _ => False)) : cwalk P ops lo st T w0 Q (o :: r) i a w := by
  unfold cwalk
  rw [if_pos (by simp [Region.wanted, hg]), if_pos hlo]
  exact h _ fun a' w' h1 h2 h3 => ⟨h1, h2, h3⟩
attribute [irreducible] cwalk
end
end Free
end Go.Proofs.Ythhhciofcmmnfaa

namespace Go.Proofs.Ythhhciofcmmnfaa
namespace Free
open Go Go.RowKit
variable {P : Program} {ops : Array Oper} {lo st : Nat → Bool} {T : Nat → Nat → Prop} {w0 : World} {Q : Act → World → Prop}
theorem cw_pureW {o : Oper} {r : List Oper} {i : Nat} {a : Act} {w : World} {c : Value} (hg : Region.wanted o (yielded ops a.tmps) = true) (hlo : lo i = false)
    (hq : ∀ w', Quiet P o a w' c) (h : cwalk P ops lo st T w0 Q r (i + 1) (a.put o.dst c) w) : cwalk P ops lo st T w0 Q (o :: r) i a w := by
  unfold cwalk
  rw [if_pos hg, if_neg (by rw [hlo]; simp)]
  split
  · exact ⟨c, fun w' _ => hq w', h⟩
  · exact ⟨c, hq w, h⟩
theorem cw_steadyW {o : Oper} {r : List Oper} {i : Nat} {a : Act} {w : World} {c : Value} (hg : Region.wanted o (yielded ops a.tmps) = true) (hlo : lo i = false) (hst : st i = true)
    (hq : ∀ w', KeepsP (sx ops T i) w0 w' → Quiet P o a w' c) (h : cwalk P ops lo st T w0 Q r (i + 1) (a.put o.dst c) w) : cwalk P ops lo st T w0 Q (o :: r) i a w := by
  unfold cwalk
  rw [if_pos hg, if_neg (by rw [hlo]; simp), if_pos hst]
  exact ⟨c, hq, h⟩
theorem cw_loudW {o : Oper} {r : List Oper} {i : Nat} {a : Act} {w : World} (hg : Region.wanted o (yielded ops a.tmps) = true) (hlo : lo i = true)
    (h : ∀ K : Act → World → Prop, (∀ a' w', a'.defers = a.defers → KeepsP (T i) w w' → cwalk P ops lo st T w0 Q r (i + 1) a' w' → K a' w') → o.wp P a w K (fun _ _ _ => False)) : cwalk P ops lo st T w0 Q (o :: r) i a w := by
  unfold cwalk
  rw [if_pos hg, if_pos hlo]
  exact h _ fun a' w' h1 h2 h3 => ⟨h1, h2, h3⟩
end Free
end Go.Proofs.Ythhhciofcmmnfaa

namespace Go.Proofs.Ythhhciofcmmnfaa
open Go.RowKit

/-- An identity is well-formed. -/
def okId (a s : Int) : Bool := decide (1 ≤ a) && decide (a ≤ 8) && decide (1 ≤ s) && decide (s ≤ 1099511627775)
theorem okId_t {a s : Int} : okId a s = true ↔ (1 ≤ a ∧ a ≤ 8) ∧ 1 ≤ s ∧ s ≤ 1099511627775 := by simp [okId, and_assoc]
abbrev idV (a s : Int) : Value := .agg #[.int .i64 a, .int .i64 s]
set_option maxRecDepth 100000 in
set_option maxHeartbeats 1000000 in
theorem valid_c (w : World) (a s : Int) : Calls Try.prog 37 #[idV a s] w fun e w' => e = .returned (.bool (okId a s)) ∧ Keeps [] w w' := by
  have hkA : Keeps [] w (w.alloc (.cells #[.int .i64 a, .int .i64 s] 31)) := (Keeps.refl _ _).alloc _
  obtain ⟨B, hB⟩ : ∃ B, okId a s = B := ⟨_, rfl⟩
  rw [hB]
  unfold okId at hB
  by_cases h1 : 1 ≤ a
  · by_cases h2 : a ≤ 8
    · by_cases h3 : 1 ≤ s
      · by_cases h4 : s ≤ 1099511627775
        · have e4 : Hid (B = true) := by rw [← hB]; show _ = _; simp [h1, h2, h3, h4]
          clear hB
          go_enter Try.func37, Try.ntmps37
          go_wp2
          go_ret
          exact ⟨by rw [e4.out]; rfl, hkA⟩
        · have e4 : Hid (B = false) := by rw [← hB]; show _ = _; simp [h4]
          clear hB
          go_enter Try.func37, Try.ntmps37
          go_wp2
          go_ret
          exact ⟨by rw [e4.out]; rfl, hkA⟩
      · have e4 : Hid (B = false) := by rw [← hB]; show _ = _; simp [h3]
        clear hB
        go_enter Try.func37, Try.ntmps37
        go_wp2
        go_ret
        exact ⟨by rw [e4.out]; rfl, hkA⟩
    · have e4 : Hid (B = false) := by rw [← hB]; show _ = _; simp [h2]
      clear hB
      go_enter Try.func37, Try.ntmps37
      go_wp2
      go_ret
      exact ⟨by rw [e4.out]; rfl, hkA⟩
  · have e4 : Hid (B = false) := by rw [← hB]; show _ = _; simp [h1]
    clear hB
    go_enter Try.func37, Try.ntmps37
    go_wp2
    go_ret
    exact ⟨by rw [e4.out]; rfl, hkA⟩
set_option maxRecDepth 100000 in
set_option maxHeartbeats 1000000 in
theorem validR5_c (w : World) (a s : Int) : Calls Try.prog 42 #[idV a s] w fun e w' => e = .returned (.bool (okId a s)) ∧ Keeps [] w w' := by
  have hkA : Keeps [] w (w.alloc (.cells #[.int .i64 a, .int .i64 s] 31)) := (Keeps.refl _ _).alloc _
  obtain ⟨B, hB⟩ : ∃ B, okId a s = B := ⟨_, rfl⟩
  rw [hB]
  unfold okId at hB
  by_cases h1 : 1 ≤ a
  · by_cases h2 : a ≤ 8
    · by_cases h3 : 1 ≤ s
      · by_cases h4 : s ≤ 1099511627775
        · have e4 : Hid (B = true) := by rw [← hB]; show _ = _; simp [h1, h2, h3, h4]
          clear hB
          go_enter Try.func42, Try.ntmps42
          go_wp2
          go_ret
          exact ⟨by rw [e4.out]; rfl, hkA⟩
        · have e4 : Hid (B = false) := by rw [← hB]; show _ = _; simp [h4]
          clear hB
          go_enter Try.func42, Try.ntmps42
          go_wp2
          go_ret
          exact ⟨by rw [e4.out]; rfl, hkA⟩
      · have e4 : Hid (B = false) := by rw [← hB]; show _ = _; simp [h3]
        clear hB
        go_enter Try.func42, Try.ntmps42
        go_wp2
        go_ret
        exact ⟨by rw [e4.out]; rfl, hkA⟩
    · have e4 : Hid (B = false) := by rw [← hB]; show _ = _; simp [h2]
      clear hB
      go_enter Try.func42, Try.ntmps42
      go_wp2
      go_ret
      exact ⟨by rw [e4.out]; rfl, hkA⟩
  · have e4 : Hid (B = false) := by rw [← hB]; show _ = _; simp [h1]
    clear hB
    go_enter Try.func42, Try.ntmps42
    go_wp2
    go_ret
    exact ⟨by rw [e4.out]; rfl, hkA⟩
set_option maxRecDepth 100000 in
set_option maxHeartbeats 1000000 in
theorem validR_c (w : World) (a s : Int) : Calls Try.prog 39 #[idV a s] w fun e w' => e = .returned (.bool (okId a s)) ∧ Keeps [] w w' := by
  go_enter Try.func39, Try.ntmps39
  go_wp2_with fail
  refine (validR5_c _ a s).mono ?_
  rintro e w1 ⟨rfl, hk⟩
  go_wp2
  go_ret
  exact ⟨rfl, ((Keeps.refl [] w).alloc _).trans hk⟩
end Go.Proofs.Ythhhciofcmmnfaa

namespace Go.Proofs.Ythhhciofcmmnfaa
open Go.RowKit

/-- A list of numbers in memory. -/
abbrev ints (l : List Int) : List Value := l.map (fun z => .int .i64 z)
def SlZ (w : World) (v : Value) (l : List Int) : Prop := Sl w 1 v l.length (ints l)
theorem SlZ.form {w : World} {v : Value} {l : List Int} (h : SlZ w v l) : ∃ a c, v = .slice a l.length c ∧ l.length ≤ c ∧ c ≤ maxLen ∧ (a = none → c = 0) := by
  obtain ⟨_, a, c, rfl, h2, h3, h4, _⟩ := h; exact ⟨a, c, rfl, h2, h3, h4⟩
theorem SlZ.elem {w : World} {v : Value} {l : List Int} (h : SlZ w v l) {k : Nat} (hk : k < l.length) : ∃ g o c, v = .slice (some ⟨g, o, none⟩) l.length c ∧ w.cell? ⟨g, o + k, none⟩ = some (.int .i64 l[k]) := by
  obtain ⟨_, a, c, rfl, h2, h3, h4, h5⟩ := h
  obtain ⟨g, o, rfl, hc⟩ := h5 (by simp [ints]; omega)
  exact ⟨g, o, c, rfl, hc k _ (by simp [ints, hk])⟩
theorem SlZ.keeps {w w' : World} {v : Value} {l : List Int} (h : SlZ w v l) (hk : Keeps [] w w') : SlZ w' v l := Sl.keeps h hk
theorem cells2 {w : World} {b : Nat} {x0 x1 : Value} {t : TypeId} (h : w.heap[b]? = some (.cells #[x0, x1] t (0, 0))) : w.cell? ⟨b, 0, none⟩ = some x0 ∧ w.cell? ⟨b, 1, none⟩ = some x1 := ⟨by simp [World.cell?, h], by simp [World.cell?, h]⟩
def chkB (N : Int) (ms : List Int) (a s : Int) : Bool := ms.all (fun m => decide (1 ≤ m) && decide (m ≤ N)) && okId a s
def chkE (N : Int) (ms : List Int) (a s : Int) : Int := bif chkB N ms a s then 0 else 1
set_option maxRecDepth 100000 in
set_option maxHeartbeats 1000000 in
theorem check_c (w : World) (bw bm n : Nat) (N : Int) (G : Pt) (a s : Int) (v : Value) (ms : List Int) (h : WM w bw bm n N G) (hv : SlZ w v ms) :
    Calls Try.prog 24 #[.pointer (some ⟨bw, 0, none⟩), idV a s, v] w fun e w' => e = .returned (.int .i64 (chkE N ms a s)) ∧ Keeps [] w w' := by
  have hkA : Keeps [] w (w.alloc (.cells #[.int .i64 a, .int .i64 s] 31)) := (Keeps.refl _ _).alloc _
  obtain ⟨ad, c, rfl, hlc, hcm, hnn⟩ := hv.form
  obtain ⟨c0, c1, hlt, hne⟩ := h.cells
  have hel := fun k hk => hv.elem (k := k) hk
  obtain ⟨L, hL⟩ : ∃ L, ms.length = L := ⟨_, rfl⟩
  rw [hL] at hlc ⊢
  unfold maxLen at hcm
  replace hel := Lib.hid hel
  replace hL := Lib.hid hL
  replace hkA := Lib.hid hkA
  clear h c1 hv
  have hb0 := heap_alloc_new w (.cells #[.int .i64 a, .int .i64 s] 31)
  replace hb0 := Lib.hid hb0
  obtain ⟨r, hr⟩ : ∃ b, chkE N ms a s = b := ⟨_, rfl⟩
  rw [hr]
  unfold chkE at hr
  replace hr := Lib.hid hr
  go_enter Try.func24, Try.ntmps24
  go_wp2
  generalize hW : w.alloc (.cells #[.int .i64 a, .int .i64 s] 31) = W at *
  clear hW
  go_loopw [11] (fun i wr => ∃ k : Nat, i = .int .i64 k ∧ k ≤ L ∧ (∀ j (hj : j < ms.length), j < k → 1 ≤ ms[j] ∧ ms[j] ≤ N) ∧ Keeps [] W wr) (fun i _ => L - (intOf i).toNat)
  case atStart => exact ⟨0, rfl, by omega, fun _ _ h => by omega, Keeps.refl _ _⟩
  case round =>
    obtain ⟨k, rfl, hk, hno, hkw⟩ := hrel
    replace hno := Lib.hid hno
    have hkW := hkw
    replace hkw := hkA.out.trans hkw
    have c0' := hkw.val c0
    obtain ⟨y0, y1⟩ := cells2 ((hkW.block _ (lt_of_block hb0.out) (by simp)).trans hb0.out)
    replace hkW := Lib.hid hkW
    by_cases hlt2 : k < L
    · obtain ⟨g, o, c', hv, hx⟩ := hel.out k (by rw [hL.out]; exact hlt2)
      cases hv
      have hxr := hkw.val hx
      clear hx
      replace hkw := Lib.hid hkw
      obtain ⟨z, hz⟩ : ∃ z, ms[k]'(by rw [hL.out]; exact hlt2) = z := ⟨_, rfl⟩
      rw [hz] at hxr
      replace hz := Lib.hid hz
      have hbadF : ¬(1 ≤ z ∧ z ≤ N) → r = 1 := fun hn => by
        have : chkB N ms a s = false := by
          unfold chkB
          rw [Bool.and_eq_false_iff, List.all_eq_false]
          exact .inl ⟨_, List.getElem_mem (by rw [hL.out]; exact hlt2), by rw [hz.out]; simp; omega⟩
        rw [← hr.out, this]; rfl
      replace hbadF := Lib.hid hbadF
      by_cases h1 : z < 1
      · go_wp2
        go_ret
        exact ⟨by rw [hbadF.out (by omega)]; rfl, hkw.out⟩
      by_cases h2 : N < z
      · go_wp2
        go_ret
        exact ⟨by rw [hbadF.out (by omega)]; rfl, hkw.out⟩
      have hno' : Hid (∀ j (hj : j < ms.length), j < k + 1 → 1 ≤ ms[j] ∧ ms[j] ≤ N) := fun j hj hjk => by
        by_cases e : j = k
        · subst e; rw [hz.out]; omega
        · exact hno.out j hj (by omega)
      go_wp2
      go_roundw
      case rel => exact ⟨k + 1, rfl, by omega, hno'.out, hkW.out⟩
      case measure => simp [intOf]; omega
    · have hkk : k = L := by omega
      have hb : r = bif okId a s then 0 else 1 := by
        rw [← hr.out]
        unfold chkB
        have : ms.all (fun m => decide (1 ≤ m) && decide (m ≤ N)) = true := by
          rw [List.all_eq_true]
          intro x hx
          obtain ⟨j, hj, rfl⟩ := List.getElem_of_mem hx
          have := hno.out j hj (by rw [hL.out] at hj; omega)
          simp; omega
        rw [this]; rfl
      replace hb := Lib.hid hb
      replace hkw := Lib.hid hkw
      go_wp2_with fail
      refine (valid_c _ a s).mono ?_
      rintro e w2 ⟨rfl, hk2⟩
      have hk02 := hkw.out.trans hk2
      cases hid : okId a s with
      | true =>
        rw [hid] at hb
        go_wp2
        go_ret
        exact ⟨by rw [hb.out]; rfl, hk02⟩
      | false =>
        rw [hid] at hb
        go_wp2
        go_ret
        exact ⟨by rw [hb.out]; rfl, hk02⟩
end Go.Proofs.Ythhhciofcmmnfaa

namespace Go.Proofs.Ythhhciofcmmnfaa
open Go.RowKit

structure EntV where
  m : Int
  a : Int
  s : Int
  r : Int
  deriving DecidableEq
def EntV.cs (x : EntV) : List Value := [.int .i64 x.m, .int .i64 x.a, .int .i64 x.s, .int .i64 x.r]
def entCs : List EntV → List Value
  | [] => []
  | x :: t => x.cs ++ entCs t
theorem entCs_len : ∀ L : List EntV, (entCs L).length = L.length * 4
  | [] => rfl
  | x :: t => by simp [entCs, EntV.cs, entCs_len t]; omega
theorem entCs_append : ∀ L M : List EntV, entCs (L ++ M) = entCs L ++ entCs M
  | [], _ => rfl
  | x :: t, M => by simp [entCs, entCs_append t M]
theorem entCs_get : ∀ (L : List EntV) (k : Nat) (hk : k < L.length) (j : Nat), j < 4 → (entCs L)[k * 4 + j]? = L[k].cs[j]?
  | x :: t, 0, _, j, hj => by
    have : (entCs (x :: t))[0 * 4 + j]? = (x.cs ++ entCs t)[j]? := by simp [entCs]
    rw [this, List.getElem?_append_left (by simpa [EntV.cs] using hj)]
    rfl
  | x :: t, k + 1, hk, j, hj => by
    have := entCs_get t k (by simpa using hk) j hj
    simp only [entCs, List.getElem_cons_succ]
    rw [List.getElem?_append_right (by simp [EntV.cs]; omega), ← this]
    congr 1
    simp [EntV.cs]; omega
theorem entCs_one (L : List EntV) : ∀ u ∈ entCs L, u.oneCell' = true := by
  induction L with
  | nil => intro u hu; cases hu
  | cons x t ih =>
    intro u hu
    rcases List.mem_append.1 hu with h | h
    · simp [EntV.cs] at h; rcases h with rfl | rfl | rfl | rfl <;> rfl
    · exact ih u h
/-- The slice `v` reads as the entries `L`. -/
def SlE (w : World) (v : Value) (L : List EntV) : Prop := Sl w 4 v L.length (entCs L)
theorem SlE.keeps {w w' : World} {v : Value} {L : List EntV} (h : SlE w v L) (hk : Keeps [] w w') : SlE w' v L := Sl.keeps h hk
theorem SlE.form {w : World} {v : Value} {L : List EntV} (h : SlE w v L) : ∃ a c, v = .slice a L.length c ∧ L.length ≤ c ∧ c ≤ maxLen ∧ (a = none → c = 0) := by
  obtain ⟨_, a, c, rfl, h2, h3, h4, _⟩ := h; exact ⟨a, c, rfl, h2, h3, h4⟩
theorem SlE.elem {w : World} {v : Value} {L : List EntV} (h : SlE w v L) {k : Nat} (hk : k < L.length) : ∃ g o c, v = .slice (some ⟨g, o, none⟩) L.length c ∧ w.cell? ⟨g, o + k * 4, none⟩ = some (.int .i64 L[k].m) ∧ w.cell? ⟨g, o + k * 4 + 1, none⟩ = some (.int .i64 L[k].a) ∧
    w.cell? ⟨g, o + k * 4 + 2, none⟩ = some (.int .i64 L[k].s) ∧ w.cell? ⟨g, o + k * 4 + 3, none⟩ = some (.int .i64 L[k].r) := by
  obtain ⟨_, a, c, rfl, h2, h3, h4, h5⟩ := h
  obtain ⟨g, o, rfl, hc⟩ := h5 (by rw [entCs_len]; omega)
  have hg := fun j hj u hu => hc (k * 4 + j) u ((entCs_get L k hk j hj).trans hu)
  exact ⟨g, o, c, rfl, by simpa using hg 0 (by omega) _ rfl, by simpa [Nat.add_assoc] using hg 1 (by omega) _ rfl, by simpa [Nat.add_assoc] using hg 2 (by omega) _ rfl, by simpa [Nat.add_assoc] using hg 3 (by omega) _ rfl⟩
theorem id_eql (w : World) (p q a s : Int) : (binOp .eql 31 (idV p q) (idV a s)).run Try.prog w = .ok (.bool (p == a && q == s)) w := by
  have h1 : Try.prog.underlying 31 = some (.struct (Try.prog.fieldsOf 31)) := by kernel_rfl
  have h2 : Try.prog.stoodInHeld 31 = false := by kernel_rfl
  have h3 : (Try.prog.fieldsOf 31).toList.map (fun f => (f.name != "_", f.type, f.offset)) = [(true, 3, 0), (true, 3, 1)] := by kernel_rfl
  obtain ⟨f1, f2, hf⟩ : ∃ f1 f2, (Try.prog.fieldsOf 31).toList = [f1, f2] := by
    match hh : (Try.prog.fieldsOf 31).toList with
    | [f1, f2] => exact ⟨f1, f2, rfl⟩
    | [] => rw [hh] at h3; simp at h3
    | [_] => rw [hh] at h3; simp at h3
    | _ :: _ :: _ :: _ => rw [hh] at h3; simp at h3
  rw [hf] at h3
  simp at h3
  obtain ⟨⟨n1, t1, o1⟩, n2, t2, o2⟩ := h3
  rw [run_eql_struct, run_equalIn_agg w 9999 _ _ _ h1 h2, hf]
  have p0 : ∀ (x y : Int) (w : World), (part 3 #[.int .i64 x, .int .i64 y] 0).run Try.prog w = .ok (.int .i64 x) w := fun x y w => by kernel_rfl
  have p1 : ∀ (x y : Int) (w : World), (part 3 #[.int .i64 x, .int .i64 y] 1).run Try.prog w = .ok (.int .i64 y) w := fun x y w => by kernel_rfl
  have eI : ∀ (x y : Int) (w : World), (Op.equalIn 9999 3 (.int .i64 x) (.int .i64 y)).run Try.prog w = .ok (x == y) w := fun x y w => run_equalIn_int w 9998 _ _ _ x y Try.underlying3
  simp only [Op.eqFields, n1, n2, t1, t2, o1, o2, ne_eq, not_false_eq_true, if_true, Sem.run_bind, p0, p1, eI, Result.andThen]
  by_cases e1 : p = a
  · by_cases e2 : q = s
    · subst e1 e2
      simp [p1, eI]
    · have hq : (q == s) = false := by simpa using e2
      subst e1
      simp [p1, eI, hq]
  · have hq : (p == a) = false := by simpa using e1
    simp [hq]
def EntV.is (x : EntV) (m a s : Int) : Bool := x.m == m && x.a == a && x.s == s
/-- The index of an entry, or -1. -/
def FindR (L : List EntV) (m a s : Int) (i : Int) : Prop := (∃ k : Nat, ∃ hk : k < L.length, i = k ∧ L[k].is m a s = true ∧ ∀ j (hj : j < L.length), j < k → L[j].is m a s = false) ∨ (i = -1 ∧ ∀ x ∈ L, x.is m a s = false)
abbrev refV (N : Int) (v : Value) : Value := .agg #[.int .i64 N, v]
def FindPost (w : World) (L : List EntV) (m a s : Int) (e : Ending) (w' : World) : Prop := ∃ i, e = .returned (.int .i64 i) ∧ FindR L m a s i ∧ Keeps [] w w'
set_option maxRecDepth 100000 in
set_option maxHeartbeats 2000000 in
theorem find_c (w : World) (N : Int) (v : Value) (L : List EntV) (m a s : Int) (h : SlE w v L) :
    Calls Try.prog 27 #[refV N v, .int .i64 m, idV a s] w (FindPost w L m a s) := by
  obtain ⟨ad, c, rfl, hlc, hcm, hnn⟩ := h.form
  have hel := fun k hk => h.elem (k := k) hk
  obtain ⟨M, hM⟩ : ∃ N, L.length = N := ⟨_, rfl⟩
  rw [hM] at hlc ⊢
  have hMm : M ≤ 9223372036854775807 := by unfold maxLen at hcm; omega
  replace hel := Lib.hid hel
  replace hM := Lib.hid hM
  clear h
  have hk1 : Keeps [] w (w.alloc (.cells #[.int .i64 N, .slice ad M c] 27)) := (Keeps.refl _ _).alloc _
  have hk2 : Keeps [] (w.alloc (.cells #[.int .i64 N, .slice ad M c] 27)) ((w.alloc (.cells #[.int .i64 N, .slice ad M c] 27)).alloc (.cells #[.int .i64 a, .int .i64 s] 31)) := (Keeps.refl _ _).alloc _
  have hb1 := (hk2.block _ (by simp) (by simp)).trans (heap_alloc_new w (.cells #[.int .i64 N, .slice ad M c] 27))
  have hb2 := heap_alloc_new (w.alloc (.cells #[.int .i64 N, .slice ad M c] 27)) (.cells #[.int .i64 a, .int .i64 s] 31)
  rw [show (w.alloc (.cells #[.int .i64 N, .slice ad M c] 27)).heap.size = w.heap.size + 1 by simp] at hb2
  have hk0 := hk1.trans hk2
  have heq := fun w p q => id_eql w p q a s
  replace hb1 := Lib.hid hb1
  replace hb2 := Lib.hid hb2
  replace hk0 := Lib.hid hk0
  clear hk1 hk2
  go_enter Try.func27, Try.ntmps27
  go_wp2
  generalize hW : (w.alloc (.cells #[.int .i64 N, .slice ad M c] 27)).alloc (.cells #[.int .i64 a, .int .i64 s] 31) = W at *
  clear hW
  go_loopw [7] (fun i wr => ∃ k : Nat, i = .int .i64 k ∧ k ≤ M ∧ (∀ j (hj : j < L.length), j < k → L[j].is m a s = false) ∧ Keeps [] W wr) (fun i _ => M - (intOf i).toNat)
  case atStart => exact ⟨0, rfl, by omega, fun _ _ h => by omega, Keeps.refl _ _⟩
  case round =>
    obtain ⟨k, rfl, hk, hno, hkW⟩ := hrel
    obtain ⟨y0, y1⟩ := cells2 ((hkW.block _ (lt_of_block hb1.out) (by simp)).trans hb1.out)
    obtain ⟨z0, z1⟩ := cells2 ((hkW.block _ (lt_of_block hb2.out) (by simp)).trans hb2.out)
    have hkw := hk0.out.trans hkW
    replace hno := Lib.hid hno
    replace hkW := Lib.hid hkW
    by_cases hlt : k < M
    · obtain ⟨g, o, c', hv, e0, e1, e2, e3⟩ := hel.out k (by rw [hM.out]; exact hlt)
      cases hv
      obtain ⟨⟨xm, xa, xs, xr⟩, hx⟩ : ∃ x, L[k]'(by rw [hM.out]; exact hlt) = x := ⟨_, rfl⟩
      rw [hx] at e0 e1 e2 e3
      replace e0 := hkw.val e0
      replace e1 := hkw.val e1
      replace e2 := hkw.val e2
      simp only at e0 e1 e2
      clear e3
      replace hx := Lib.hid hx
      replace hkw := Lib.hid hkw
      by_cases h1 : xm = m
      · by_cases h2 : xa = a ∧ xs = s
        · obtain ⟨h2, h3⟩ := h2
          subst h1 h2 h3
          have hb : (xa == xa && xs == xs) = true := by simp
          go_wp2
          (refine wp_region_quiet_lit (by kernel_rfl) (by kernel_rfl) ?_; (repeat (first | go_big_quiet_step (fail) | quiet_step (fail))); with_reducible refine wpQuiet_nil ?_; intro _ hw'; obtain ⟨nq, hw''⟩ := hw'; subst hw'')
          go_wp2
          go_ret
          exact ⟨k, rfl, .inl ⟨k, by rw [hM.out]; exact hlt, rfl, by rw [hx.out]; simp [EntV.is], hno.out⟩, hkw.out.drewN _⟩
        · have hb : (xa == a && xs == s) = false := by simp; intro e; intro e'; exact h2 ⟨e, e'⟩
          subst h1
          go_wp2
          (refine wp_region_quiet_lit (by kernel_rfl) (by kernel_rfl) ?_; (repeat (first | go_big_quiet_step (fail) | quiet_step (fail))); with_reducible refine wpQuiet_nil ?_; intro _ hw'; obtain ⟨nq, hw''⟩ := hw'; subst hw'')
          go_wp2
          go_roundw
          case rel => exact ⟨k + 1, rfl, by omega, fun j hj hjk => by
              by_cases e : j = k
              · subst e; rw [hx.out]; simp [EntV.is]; intro e2; intro e3; exact h2 ⟨e2, e3⟩
              · exact hno.out j hj (by omega), hkW.out.drewN _⟩
          case measure => simp [intOf]; omega
      · have hb : (xm == m) = false := by simpa using h1
        go_wp2
        (refine wp_region_quiet_lit (by kernel_rfl) (by kernel_rfl) ?_; (repeat (first | go_big_quiet_step (fail) | quiet_step (fail))); with_reducible refine wpQuiet_nil ?_; intro _ hw'; obtain ⟨nq, hw''⟩ := hw'; subst hw'')
        go_wp2
        go_roundw
        case rel => exact ⟨k + 1, rfl, by omega, fun j hj hjk => by
            by_cases e : j = k
            · subst e; rw [hx.out]; simp [EntV.is, h1]
            · exact hno.out j hj (by omega), hkW.out.drewN _⟩
        case measure => simp [intOf]; omega
    · replace hkw := Lib.hid hkw
      go_wp2
      go_ret
      exact ⟨-1, rfl, .inr ⟨rfl, fun x hx => by
        obtain ⟨j, hj, rfl⟩ := List.getElem_of_mem hx
        exact hno.out j hj (by rw [hM.out] at hj; omega)⟩, hkw.out⟩
end Go.Proofs.Ythhhciofcmmnfaa

namespace Go.Proofs.Ythhhciofcmmnfaa
open Go.RowKit

theorem w64 {m : Int} (h1 : -9223372036854775808 ≤ m) (h2 : m ≤ 9223372036854775807) : W64 m := by
  simp [W64, Lit.wf, IntKind.min, IntKind.max, IntKind.signed, IntKind.bits, h1, h2]
theorem w64_iff {m : Int} : W64 m ↔ -9223372036854775808 ≤ m ∧ m ≤ 9223372036854775807 := by
  simp [W64, Lit.wf, IntKind.min, IntKind.max, IntKind.signed, IntKind.bits]
/-- What Home finds. -/
def HomeR (N : Int) (g : Int → Int) (m : Int) (b : Bool) : Prop := (b = true ∧ 1 ≤ m ∧ m ≤ N ∧ g m = m) ∨ (b = false ∧ m = 0 ∧ ∀ k, 1 ≤ k → k ≤ N → g k ≠ k)
def HomePost (w : World) (N : Int) (g : Int → Int) (e : Ending) (w' : World) : Prop := ∃ m b, e = .returned (.tuple #[.int .i64 m, .bool b]) ∧ HomeR N g m b ∧ Keeps [] w w'
set_option maxRecDepth 100000 in
set_option maxHeartbeats 1000000 in
theorem home_c (w : World) (bw bm n : Nat) (N : Int) (G : Pt) (a s : Int) (h : WM w bw bm n N G) (hN : 1 ≤ N ∧ N ≤ 8) (ha : W64 a) (hs : W64 s) :
    Calls Try.prog 12 #[.pointer (some ⟨bw, 0, none⟩), idV a s] w (HomePost w N (fun m => G m a s)) := by
  have hkA : Keeps [] w (w.alloc (.cells #[.int .i64 a, .int .i64 s] 31)) := (Keeps.refl _ _).alloc _
  have hb0 := heap_alloc_new w (.cells #[.int .i64 a, .int .i64 s] 31)
  replace hb0 := Lib.hid hb0
  have hWM := Lib.hid (h.keeps hkA)
  obtain ⟨n1, n2⟩ := hN
  replace hkA := Lib.hid hkA
  clear h
  go_enter Try.func12, Try.ntmps12
  go_wp2
  generalize hW : w.alloc (.cells #[.int .i64 a, .int .i64 s] 31) = W at *
  clear hW
  go_loopw [6] (fun i wr => ∃ k : Int, i = .int .i64 k ∧ 1 ≤ k ∧ k ≤ N + 1 ∧ (∀ j, 1 ≤ j → j < k → G j a s ≠ j) ∧ Keeps [] W wr) (fun i _ => (N + 1 - intOf i).toNat)
  case atStart => exact ⟨1, rfl, by omega, by omega, fun _ _ h => by omega, Keeps.refl _ _⟩
  case round =>
    obtain ⟨k, rfl, hk1, hk2, hno, hkw⟩ := hrel
    have hWr := hWM.out.keeps hkw
    obtain ⟨c0, c1, hlt, hne⟩ := hWr.cells
    obtain ⟨y0, y1⟩ := cells2 ((hkw.block _ (lt_of_block hb0.out) (by simp)).trans hb0.out)
    have hkw0 := hkA.out.trans hkw
    replace hkw := Lib.hid hkw
    replace hkw0 := Lib.hid hkw0
    replace hno := Lib.hid hno
    by_cases hlt2 : k ≤ N
    · have hlook := fun nq => (hWr.mp.keeps ((Keeps.refl [] wr).drewN nq)).look k a s (w64 (by omega) (by omega)) ha hs
      replace hWr := Lib.hid hWr
      obtain ⟨z, hz⟩ : ∃ z, G k a s = z := ⟨_, rfl⟩
      rw [hz] at hlook
      by_cases hzk : z = k
      · subst hzk
        go_wp2
        (refine wp_region_quiet_lit (by kernel_rfl) (by kernel_rfl) ?_; (repeat (first | go_big_quiet_step (fail) | quiet_step (fail))); with_reducible refine wpQuiet_nil ?_; intro _ hw'; obtain ⟨nq, hw''⟩ := hw'; subst hw'')
        go_wp2
        go_ret2
        exact ⟨_, _, rfl, .inl ⟨rfl, by omega, by omega, hz⟩, hkw0.out.drewN _⟩
      · replace hz := Lib.hid hz
        have hzk2 : (z == k) = false := by simpa using hzk
        go_wp2
        (refine wp_region_quiet_lit (by kernel_rfl) (by kernel_rfl) ?_; (repeat (first | go_big_quiet_step (fail) | quiet_step (fail))); with_reducible refine wpQuiet_nil ?_; intro _ hw'; obtain ⟨nq, hw''⟩ := hw'; subst hw'')
        go_wp2
        go_roundw
        case rel => exact ⟨k + 1, rfl, by omega, by omega, fun j h1 h2 => by
            by_cases e : j = k
            · subst e; rw [hz.out]; exact hzk
            · exact hno.out j h1 (by omega), hkw.out.drewN _⟩
        case measure => simp [intOf]; omega
    · replace hWr := Lib.hid hWr
      go_wp2
      go_ret2
      exact ⟨_, _, rfl, .inr ⟨rfl, rfl, fun j h1 h2 => hno.out j h1 (by omega)⟩, hkw0.out⟩
end Go.Proofs.Ythhhciofcmmnfaa

namespace Go.Proofs.Ythhhciofcmmnfaa
open Go.RowKit

theorem two_boxes (w : World) (A B : Obj) : ((w.alloc A).alloc B).heap[w.heap.size]? = some A ∧ ((w.alloc A).alloc B).heap[w.heap.size + 1]? = some B ∧ Keeps [] w ((w.alloc A).alloc B) ∧ ((w.alloc A).alloc B).heap.size = w.heap.size + 2 := by
  have k1 : Keeps [] w (w.alloc A) := (Keeps.refl _ _).alloc _
  have k2 : Keeps [] (w.alloc A) ((w.alloc A).alloc B) := (Keeps.refl _ _).alloc _
  have h2 := heap_alloc_new (w.alloc A) B
  rw [show (w.alloc A).heap.size = w.heap.size + 1 by simp] at h2
  exact ⟨(k2.block _ (by simp) (by simp)).trans (heap_alloc_new w A), h2, k1.trans k2, by simp⟩
set_option maxRecDepth 100000 in
set_option maxHeartbeats 1000000 in
theorem chkR_c (w : World) (N x y a s : Int) (v : Value) (hv : ∃ p l c, v = .slice p l c) :
    Calls Try.prog 26 #[refV N v, .int .i64 x, .int .i64 y, idV a s] w fun e w' => e = .returned (.int .i64 (chkE N [x, y] a s)) ∧ Keeps [] w w' := by
  obtain ⟨p, l, c, rfl⟩ := hv
  obtain ⟨b1, b2, hk0, hsz⟩ := two_boxes w (.cells #[.int .i64 N, .slice p l c] 27) (.cells #[.int .i64 a, .int .i64 s] 31)
  obtain ⟨r, hr⟩ : ∃ b, chkE N [x, y] a s = b := ⟨_, rfl⟩
  rw [hr]
  unfold chkE at hr
  have hbad : ¬(1 ≤ x ∧ x ≤ N ∧ 1 ≤ y ∧ y ≤ N) → r = 1 := fun hn => by
    have : chkB N [x, y] a s = false := by
      unfold chkB
      rw [Bool.and_eq_false_iff]
      refine .inl ?_
      simp
      omega
    rw [← hr, this]; rfl
  have hgood : 1 ≤ x ∧ x ≤ N ∧ 1 ≤ y ∧ y ≤ N → r = bif okId a s then 0 else 1 := fun hn => by
    rw [← hr]
    unfold chkB
    have : ([x, y].all fun m => decide (1 ≤ m) && decide (m ≤ N)) = true := by simp; omega
    rw [this]; rfl
  replace hr := Lib.hid hr
  replace hbad := Lib.hid hbad
  replace hgood := Lib.hid hgood
  replace b1 := Lib.hid b1
  replace b2 := Lib.hid b2
  replace hk0 := Lib.hid hk0
  by_cases h1 : x < 1
  · go_enter Try.func26, Try.ntmps26
    go_wp2
    go_ret
    exact ⟨by rw [hbad.out (by omega)]; rfl, hk0.out⟩
  by_cases h2 : N < x
  · go_enter Try.func26, Try.ntmps26
    go_wp2
    go_ret
    exact ⟨by rw [hbad.out (by omega)]; rfl, hk0.out⟩
  by_cases h3 : y < 1
  · go_enter Try.func26, Try.ntmps26
    go_wp2
    go_ret
    exact ⟨by rw [hbad.out (by omega)]; rfl, hk0.out⟩
  by_cases h4 : N < y
  · go_enter Try.func26, Try.ntmps26
    go_wp2
    go_ret
    exact ⟨by rw [hbad.out (by omega)]; rfl, hk0.out⟩
  go_enter Try.func26, Try.ntmps26
  go_wp2_with fail
  refine (validR_c _ a s).mono ?_
  rintro e w2 ⟨rfl, hk2⟩
  have hk02 := hk0.out.trans hk2
  have hg := hgood.out (by omega)
  cases hid : okId a s with
  | true =>
    rw [hid] at hg
    replace hg := Lib.hid hg
    go_wp2
    go_ret
    exact ⟨by rw [hg.out]; rfl, hk02⟩
  | false =>
    rw [hid] at hg
    replace hg := Lib.hid hg
    go_wp2
    go_ret
    exact ⟨by rw [hg.out]; rfl, hk02⟩
/-- What the reference's Home finds: the first entry that is a home. -/
def HomeL (L : List EntV) (a s m : Int) (b : Bool) : Prop := (b = true ∧ ∃ x ∈ L, x.a = a ∧ x.s = s ∧ x.r = 0 ∧ x.m = m) ∨ (b = false ∧ m = 0 ∧ ∀ x ∈ L, ¬(x.a = a ∧ x.s = s ∧ x.r = 0))
def HomeLPost (w : World) (L : List EntV) (a s : Int) (e : Ending) (w' : World) : Prop := ∃ m b, e = .returned (.tuple #[.int .i64 m, .bool b]) ∧ HomeL L a s m b ∧ Keeps [] w w'
set_option maxRecDepth 100000 in
set_option maxHeartbeats 2000000 in
theorem homeR_c (w : World) (N : Int) (v : Value) (L : List EntV) (a s : Int) (h : SlE w v L) :
    Calls Try.prog 13 #[refV N v, idV a s] w (HomeLPost w L a s) := by
  obtain ⟨ad, c, rfl, hlc, hcm, hnn⟩ := h.form
  have hel := fun k hk => h.elem (k := k) hk
  obtain ⟨M, hM⟩ : ∃ N, L.length = N := ⟨_, rfl⟩
  rw [hM] at hlc ⊢
  have hMm : M ≤ 9223372036854775807 := by unfold maxLen at hcm; omega
  obtain ⟨b1, b2, hk0, hsz⟩ := two_boxes w (.cells #[.int .i64 N, .slice ad M c] 27) (.cells #[.int .i64 a, .int .i64 s] 31)
  replace hel := Lib.hid hel
  replace hM := Lib.hid hM
  replace b1 := Lib.hid b1
  replace b2 := Lib.hid b2
  replace hk0 := Lib.hid hk0
  have heq := fun w p q => id_eql w p q a s
  clear h
  go_enter Try.func13, Try.ntmps13
  go_wp2
  generalize hW : (w.alloc (.cells #[.int .i64 N, .slice ad M c] 27)).alloc (.cells #[.int .i64 a, .int .i64 s] 31) = W at *
  clear hW
  go_loopw [6] (fun i wr => ∃ k : Nat, i = .int .i64 k ∧ k ≤ M ∧ (∀ j (hj : j < L.length), j < k → ¬(L[j].a = a ∧ L[j].s = s ∧ L[j].r = 0)) ∧ Keeps [] W wr) (fun i _ => M - (intOf i).toNat)
  case atStart => exact ⟨0, rfl, by omega, fun _ _ h => by omega, Keeps.refl _ _⟩
  case round =>
    obtain ⟨k, rfl, hk, hno, hkW⟩ := hrel
    obtain ⟨y0, y1⟩ := cells2 ((hkW.block _ (lt_of_block b1.out) (by simp)).trans b1.out)
    obtain ⟨z0, z1⟩ := cells2 ((hkW.block _ (lt_of_block b2.out) (by simp)).trans b2.out)
    have hkw := hk0.out.trans hkW
    replace hno := Lib.hid hno
    replace hkW := Lib.hid hkW
    by_cases hlt : k < M
    · obtain ⟨g, o, c', hv, e0, e1, e2, e3⟩ := hel.out k (by rw [hM.out]; exact hlt)
      cases hv
      have hmem : L[k]'(by rw [hM.out]; exact hlt) ∈ L := List.getElem_mem _
      obtain ⟨⟨xm, xa, xs, xr⟩, hx⟩ : ∃ x, L[k]'(by rw [hM.out]; exact hlt) = x := ⟨_, rfl⟩
      rw [hx] at e0 e1 e2 e3 hmem
      replace e0 := hkw.val e0
      replace e1 := hkw.val e1
      replace e2 := hkw.val e2
      replace e3 := hkw.val e3
      simp only at e0 e1 e2 e3
      replace hx := Lib.hid hx
      replace hkw := Lib.hid hkw
      replace hmem := Lib.hid hmem
      by_cases h2 : xa = a ∧ xs = s
      · obtain ⟨h2, h3⟩ := h2
        have hb : (xa == a && xs == s) = true := by simp [h2, h3]
        replace h2 := Lib.hid h2
        replace h3 := Lib.hid h3
        by_cases h4 : xr = 0
        · subst h4
          go_wp2
          (refine wp_region_quiet_lit (by kernel_rfl) (by kernel_rfl) ?_; (repeat (first | go_big_quiet_step (fail) | quiet_step (fail))); with_reducible refine wpQuiet_nil ?_; intro _ hw'; obtain ⟨nq, hw''⟩ := hw'; subst hw'')
          go_wp2
          go_ret2
          exact ⟨_, _, rfl, .inl ⟨rfl, _, hmem.out, h2.out, h3.out, rfl, rfl⟩, hkw.out.drewN _⟩
        · have hb4 : (xr == 0) = false := by simpa using h4
          go_wp2
          (refine wp_region_quiet_lit (by kernel_rfl) (by kernel_rfl) ?_; (repeat (first | go_big_quiet_step (fail) | quiet_step (fail))); with_reducible refine wpQuiet_nil ?_; intro _ hw'; obtain ⟨nq, hw''⟩ := hw'; subst hw'')
          go_wp2
          go_roundw
          case rel => exact ⟨k + 1, rfl, by omega, fun j hj hjk => by
              by_cases e : j = k
              · subst e; rw [hx.out]; exact fun e => h4 e.2.2
              · exact hno.out j hj (by omega), hkW.out.drewN _⟩
          case measure => simp [intOf]; omega
      · have hb : (xa == a && xs == s) = false := by simp; intro e; intro e'; exact h2 ⟨e, e'⟩
        go_wp2
        (refine wp_region_quiet_lit (by kernel_rfl) (by kernel_rfl) ?_; (repeat (first | go_big_quiet_step (fail) | quiet_step (fail))); with_reducible refine wpQuiet_nil ?_; intro _ hw'; obtain ⟨nq, hw''⟩ := hw'; subst hw'')
        go_wp2
        go_roundw
        case rel => exact ⟨k + 1, rfl, by omega, fun j hj hjk => by
            by_cases e : j = k
            · subst e; rw [hx.out]; exact fun e => h2 ⟨e.1, e.2.1⟩
            · exact hno.out j hj (by omega), hkW.out.drewN _⟩
        case measure => simp [intOf]; omega
    · replace hkw := Lib.hid hkw
      go_wp2
      go_ret2
      exact ⟨_, _, rfl, .inr ⟨rfl, rfl, fun x hx => by
        obtain ⟨j, hj, rfl⟩ := List.getElem_of_mem hx
        exact hno.out j hj (by rw [hM.out] at hj; omega)⟩, hkw.out⟩
end Go.Proofs.Ythhhciofcmmnfaa

namespace Go.Proofs.Ythhhciofcmmnfaa
open Go.RowKit

theorem infoEnt : (Try.prog.info? 67).map (fun i => (i.zero, i.size, i.bytes)) = some (some (.agg #[.int .i64 0, .int .i64 0, .int .i64 0, .int .i64 0]), 4, 32) := by kernel_rfl
theorem entCs_set : ∀ (L : List EntV) (k : Nat) (hk : k < L.length) (r : Int), entCs (L.set k { L[k] with r := r }) = (entCs L).set (k * 4 + 3) (.int .i64 r)
  | x :: t, 0, _, r => by simp [entCs, EntV.cs]
  | x :: t, k + 1, hk, r => by
    have := entCs_set t k (by simpa using hk) r
    simp only [List.set_cons_succ, entCs, List.getElem_cons_succ, this]
    rw [List.set_append_right _ _ (by simp [EntV.cs]; omega)]
    congr 2
    simp [EntV.cs]; omega
/-- Entries in a row of the call's own. -/
def OwE (w : World) (B : Nat) (v : Value) (L : List EntV) : Prop := w.ownsRow B 67 4 v L.length (entCs L)
theorem OwE.sl {w : World} {B : Nat} {v : Value} {L : List EntV} (h : OwE w B v L) : SlE w v L := Sl.of_owns h
theorem OwE.fresh (w : World) (B : Nat) (h : B ≤ w.heap.size) : OwE (w.alloc (.cells #[] 67)) B (.slice (some ⟨w.heap.size, 0, none⟩) 0 0) [] :=
  ⟨rfl, .inr ⟨w.heap.size, 0, #[], rfl, h, heap_alloc_new w _, Nat.le_refl _, by simp [maxLen], rfl, rfl⟩⟩
theorem OwE.keep {w w' : World} {B : Nat} {v : Value} {L : List EntV} (h : OwE w B v L) (hk : Keeps [] w w') : OwE w' B v L := by
  refine ⟨h.1, ?_⟩
  rcases h.2 with hn | ⟨g, cap, cur, rfl, hb, hg, rest⟩
  · exact .inl hn
  · exact .inr ⟨g, cap, cur, rfl, hb, (hk.block g (Array.getElem?_eq_some_iff.1 hg).1 (by simp)).trans hg, rest⟩
theorem OwE.set {w : World} {B : Nat} {g c M : Nat} {L : List EntV} (h : OwE w B (.slice (some ⟨g, 0, none⟩) M c) L) {k : Nat} (hk : k < L.length) (r : Int) : SlE (w.setCell ⟨g, k * 4 + 3, none⟩ (.int .i64 r)) (.slice (some ⟨g, 0, none⟩) M c) (L.set k { L[k] with r := r }) := by
  obtain ⟨_, a, cap, e, h2, h3, h4, h5⟩ := h.sl
  obtain ⟨rfl, rfl, rfl⟩ : a = some ⟨g, 0, none⟩ ∧ L.length = M ∧ cap = c := by
    simp at e; exact ⟨e.1.symm, e.2.1.symm, e.2.2.symm⟩
  refine ⟨by simp [entCs_len], _, cap, by simp, by simpa using h2, h3, by simp, fun _ => ⟨g, 0, rfl, fun j u hj => ?_⟩⟩
  obtain ⟨g', o', e', hc⟩ := h5 (by rw [entCs_len]; omega)
  simp at e'
  obtain ⟨rfl, rfl⟩ := e'
  rw [entCs_set] at hj
  by_cases ej : j = k * 4 + 3
  · subst ej
    have hlt : k * 4 + 3 < (entCs L).length := by rw [entCs_len]; omega
    rw [List.getElem?_set_self hlt] at hj
    cases hj
    have hold := hc (k * 4 + 3) _ (List.getElem?_eq_getElem hlt)
    rw [Nat.zero_add] at hold ⊢
    exact World.cell?_setCell_same' _ _ _ (by rw [hold]; rfl)
  · rw [List.getElem?_set_ne (fun e => ej e.symm)] at hj
    have hold := hc j u hj
    rw [Nat.zero_add] at hold ⊢
    rw [World.cell?_setCell_other]
    · exact hold
    · intro e
      cases e
      exact ej rfl
abbrev zW : Obj := .cells #[.int .i64 0, .slice none 0 0] 27
theorem three_boxes' (w : World) (A B C : Obj) : (((w.alloc A).alloc B).alloc C).heap[w.heap.size]? = some A ∧ (((w.alloc A).alloc B).alloc C).heap[w.heap.size + 1]? = some B ∧ (((w.alloc A).alloc B).alloc C).heap[w.heap.size + 1 + 1]? = some C ∧ Keeps [] w (((w.alloc A).alloc B).alloc C) := by
  obtain ⟨b1, b2, k, e⟩ := two_boxes w A B
  have k3 : Keeps [] ((w.alloc A).alloc B) (((w.alloc A).alloc B).alloc C) := (Keeps.refl _ _).alloc _
  have h3 := heap_alloc_new ((w.alloc A).alloc B) C
  rw [e] at h3
  exact ⟨(k3.block _ (by omega) (by simp)).trans b1, (k3.block _ (by omega) (by simp)).trans b2, h3, k.trans k3⟩
theorem wpl_appEnt {w : World} {ops : Array Oper} {rest : List Oper} {o : Oper} {a : Act} {Q : Exit → Act → World → Prop} (B : Nat) (v v2 : Value) (L M : List EntV) (hg : o.guard = none) (s x : Operand)
    (ho : o.op = .call { callee := .builtin .append, args := #[s, x], argTypes := #[25, 25] }) (hs : a.eval s = v) (hx : a.eval x = v2) (h : OwE w B v L) (hsl : SlE w v2 M) (hl : L.length + M.length < 3000000) (hB : B ≤ w.heap.size)
    (hK : ∀ v' w', OwE w' B v' (L ++ M) → Grw w w' v v' → wpList Try.prog ops Q rest (a.put o.dst v') w') : wpList Try.prog ops Q (o :: rest) a w := by
  obtain ⟨i0, hi, hz0, hz1, hz2⟩ := info_parts infoEnt
  refine wpl_append_x hg s x _ ho B 67 i0 _ 4 32 Try.underlying25 hi hz0 hz1 hz2 rfl (by decide) v L.length (entCs L) hs h v2 M.length (entCs M) hx hsl (entCs_one M) (by unfold maxLen; omega) (by omega) hB ?_
  intro v' w' h1 h2 _
  refine hK v' w' ?_ h2
  unfold OwE
  rw [entCs_append, List.length_append]
  exact h1
theorem wp_appEnt {w : World} {o : Oper} {a : Act} {K : Act → World → Prop} {Q : Exit → Act → World → Prop} (B : Nat) (v v2 : Value) (L M : List EntV) (s x : Operand)
    (ho : o.op = .call { callee := .builtin .append, args := #[s, x], argTypes := #[25, 25] }) (hs : a.eval s = v) (hx : a.eval x = v2) (h : OwE w B v L) (hsl : SlE w v2 M) (hl : L.length + M.length < 3000000) (hB : B ≤ w.heap.size)
    (hK : ∀ v' w', OwE w' B v' (L ++ M) → Grw w w' v v' → K (a.put o.dst v') w') : o.wp Try.prog a w K Q := by
  obtain ⟨i0, hi, hz0, hz1, hz2⟩ := info_parts infoEnt
  refine wp_append_x s x _ ho B 67 i0 _ 4 32 Try.underlying25 hi hz0 hz1 hz2 rfl (by decide) v L.length (entCs L) hs h v2 M.length (entCs M) hx hsl (entCs_one M) (by unfold maxLen; omega) (by omega) hB ?_
  intro v' w' h1 h2 _
  refine hK v' w' ?_ h2
  unfold OwE
  rw [entCs_append, List.length_append]
  exact h1
theorem OwE.at {w : World} {B : Nat} {v : Value} {L : List EntV} (h : OwE w B v L) {k : Nat} (_ : 0 < L.length + 1) (hk : k < L.length) : ∃ g cap, v = .slice (some ⟨g, 0, none⟩) L.length cap ∧ B ≤ g ∧ (∃ u, w.cell? ⟨g, k * 4 + 3, none⟩ = some u) ∧ w.frozen? ⟨g, k * 4 + 3, none⟩ = false ∧ L.length ≤ cap ∧ g < w.heap.size := by
  rcases h.2 with ⟨_, h0⟩ | ⟨g, cap, cur, e, hb, hg, h1, h2, h3, h4⟩
  · omega
  · refine ⟨g, cap, e, hb, ?_, ?_, h1, lt_of_block hg⟩
    · have : k * 4 + 3 < cur.size := by rw [h3]; omega
      exact ⟨cur[k * 4 + 3], by simp [World.cell?, hg, this]⟩
    · simp [World.frozen?, hg]
theorem SlE.keepS {w w' : World} {v : Value} {L : List EntV} {S : List Nat} (h : SlE w v L) (hk : Keeps S w w') (hS : ∀ b ∈ S, v.ownBlock ≠ some b) : SlE w' v L := by
  obtain ⟨h1, a, cap, rfl, h2, h3, h0, h4⟩ := h
  refine ⟨h1, a, cap, rfl, h2, h3, h0, fun hp => ?_⟩
  obtain ⟨g, o, rfl, hc⟩ := h4 hp
  refine ⟨g, o, rfl, fun j u hj => ?_⟩
  have := hc j u hj
  rw [hk.cell g _ (lt_of_cell this) (fun hm => hS g hm rfl)]
  exact this
abbrev tyW : Nat := 27
theorem infoW : (Try.prog.info? tyW).map (·.size) = some 2 := by kernel_rfl
theorem undW : ∃ fs, Try.prog.underlying tyW = some (.struct fs) := ⟨_, Try.underlying27⟩
theorem load_ref (w : World) (g : Nat) (t : TypeId) (x0 x1 : Value) (f : Nat × Nat) (hg : w.heap[g]? = some (.cells #[x0, x1] t f)) : (loadVar tyW ⟨g, 0, none⟩).run Try.prog w = .ok (.agg #[x0, x1]) w := by
  obtain ⟨fs, hu⟩ := undW
  exact run_loadVar_row w g t tyW #[x0, x1] f (.struct fs) hg hu rfl infoW
theorem results_ref1 {fn : Func} {p : Tmp} (h : fn.results = #[.cell p tyW]) (tmps : Array Value) (w : World) (g : Nat) (t : TypeId) (x0 x1 : Value) (f : Nat × Nat) (hp : tmps.getD p undef = .pointer (some ⟨g, 0, none⟩))
    (hg : w.heap[g]? = some (.cells #[x0, x1] t f)) : (results fn tmps).run Try.prog w = .ok (.agg #[x0, x1]) w := by
  have hp' : tmps[p]?.getD undef = .pointer (some ⟨g, 0, none⟩) := by simpa using hp
  simp [results, h, hp', asAddr, load_ref w g t x0 x1 f hg]
theorem results_ref2 {fn : Func} {p u : Tmp} (h : fn.results = #[.cell p tyW, .tmp u]) (tmps : Array Value) (w : World) (g : Nat) (t : TypeId) (x0 x1 : Value) (f : Nat × Nat) (hp : tmps.getD p undef = .pointer (some ⟨g, 0, none⟩))
    (hg : w.heap[g]? = some (.cells #[x0, x1] t f)) : (results fn tmps).run Try.prog w = .ok (.tuple #[.agg #[x0, x1], tmps.getD u undef]) w := by
  have hp' : tmps[p]?.getD undef = .pointer (some ⟨g, 0, none⟩) := by simpa using hp
  simp [results, h, hp', asAddr, load_ref w g t x0 x1 f hg]
theorem set2_all {w : World} {b : Nat} {x0 x1 : Value} {t : TypeId} (h : w.heap[b]? = some (.cells #[x0, x1] t (0, 0))) (y0 y1 : Value) :
    ((w.setCell ⟨b, 0, none⟩ y0).setCell ⟨b, 1, none⟩ y1).heap[b]? = some (.cells #[y0, y1] t (0, 0)) ∧ Keeps [b] w ((w.setCell ⟨b, 0, none⟩ y0).setCell ⟨b, 1, none⟩ y1) := by
  refine ⟨by simp [World.setCell, Array.getElem?_modify, h], ((Keeps.refl [b] w).setCell (p := ⟨b, 0, none⟩) (.inr (by simp)) y0).setCell (p := ⟨b, 1, none⟩) (.inr (by simp)) y1⟩
theorem frozen2 {w : World} {b : Nat} {x0 x1 : Value} {t : TypeId} (h : w.heap[b]? = some (.cells #[x0, x1] t (0, 0))) : ∀ o, w.frozen? ⟨b, o, none⟩ = false := fun o => by simp [World.frozen?, h]
/-- What with gives. -/
def WithR (L : List EntV) (m a s r : Int) (L' : List EntV) : Prop :=
  (∃ k : Nat, ∃ hk : k < L.length, L[k].is m a s = true ∧ (∀ j (hj : j < L.length), j < k → L[j].is m a s = false) ∧ L' = L.set k { L[k] with r := r }) ∨ ((∀ x ∈ L, x.is m a s = false) ∧ L' = L ++ [⟨m, a, s, r⟩])
/-- A reference's world comes out. -/
def RefPost (w : World) (N : Int) (R : List EntV → Prop) (e : Ending) (w' : World) : Prop := ∃ v' L', e = .returned (refV N v') ∧ R L' ∧ SlE w' v' L' ∧ (∃ p l c, v' = .slice p l c) ∧ (∀ b, v'.ownBlock = some b → w.heap.size ≤ b) ∧ Keeps [] w w'
set_option maxRecDepth 100000 in
set_option maxHeartbeats 2000000 in
theorem with_c (w : World) (N : Int) (v : Value) (L : List EntV) (m a s r : Int) (h : SlE w v L) (hlen : L.length < 1000000) :
    Calls Try.prog 40 #[refV N v, .int .i64 m, idV a s, .int .i64 r] w (RefPost w N (WithR L m a s r)) := by
  obtain ⟨ad, c, rfl, hlc, hcm, hnn⟩ := h.form
  obtain ⟨M, hM⟩ : ∃ N, L.length = N := ⟨_, rfl⟩
  rw [hM] at hlc hlen ⊢
  obtain ⟨b1, b2, b3, hk0⟩ := three_boxes' w (.cells #[.int .i64 N, .slice ad M c] 27) (.cells #[.int .i64 a, .int .i64 s] 31) zW
  have hS0 := h.keeps hk0
  rw [hM] at hS0
  replace hM := Lib.hid hM
  replace b1 := Lib.hid b1
  replace b2 := Lib.hid b2
  replace b3 := Lib.hid b3
  replace hk0 := Lib.hid hk0
  replace hS0 := Lib.hid hS0
  clear h
  go_enter Try.func40, Try.ntmps40
  go_wp2_with fail
  generalize hW : ((w.alloc (.cells #[.int .i64 N, .slice ad M c] 27)).alloc (.cells #[.int .i64 a, .int .i64 s] 31)).alloc zW = W at *
  clear hW
  have hf := find_c W N (.slice ad M c) L m a s hS0.out
  refine hf.mono ?_
  clear hf
  rintro e w1 ⟨i, rfl, hF, hk1⟩
  obtain ⟨y0, y1⟩ := cells2 ((hk1.block _ (lt_of_block b1.out) (by simp)).trans b1.out)
  obtain ⟨z0, z1⟩ := cells2 ((hk1.block _ (lt_of_block b2.out) (by simp)).trans b2.out)
  have b31 := (hk1.block _ (lt_of_block b3.out) (by simp)).trans b3.out
  have hS1 := hS0.out.keeps hk1
  have hk01 := hk0.out.trans hk1
  replace hF := Lib.hid hF
  replace hS1 := Lib.hid hS1
  replace hk01 := Lib.hid hk01
  clear hk1 hS0 b1 b2 hk0
  have q0 := lt_of_cell y0
  have q1 := lt_of_cell z0
  have q2 := lt_of_block b31
  have hfr := OwE.fresh w1 w1.heap.size (Nat.le_refl _)
  have hS2 := hS1.out.keeps ((Keeps.refl [] w1).alloc (.cells #[] 67))
  replace b31 := Lib.hid b31
  replace hfr := Lib.hid hfr
  replace hS2 := Lib.hid hS2
  rcases hF.out with ⟨k, hk, rfl, his, hfirst⟩ | ⟨rfl, hnone⟩
  · replace his := Lib.hid his
    replace hfirst := Lib.hid hfirst
    replace hk := Lib.hid hk
    have hkM : k < M := by rw [← hM.out]; exact hk.out
    go_wp2_with (at_builtin; (refine wpl_appEnt w1.heap.size (.slice (some ⟨w1.heap.size, 0, none⟩) 0 0) (.slice ad M c) [] L rfl _ _ rfl rfl rfl hfr.out hS2.out (by simp [hM.out]; omega) (by simp) ?_; intro v2 w2 hO2 hG2; rw [List.nil_append] at hO2; obtain ⟨g, cap, rfl, hgB, ⟨u0, hcl⟩, hfz, hcap, hgl⟩ := hO2.at (by omega) hk.out; rw [hM.out] at hO2 hcap ⊢; have hgR : g ≠ w.heap.size + 1 + 1 := (by omega); have hgw : g ≠ w.heap.size := (by omega); have hkk := hG2.keeps (a := w1) ((Keeps.refl [] w1).alloc _) (fun b hb => by simp [Value.ownBlock] at hb; omega); replace y0 := hkk.val y0; have b32 := (hkk.block _ q2 (by simp)).trans b31.out; obtain ⟨r0, r1⟩ := cells2 b32; have hrf := frozen2 b32; have hk02 := hk01.out.trans hkk))
    have hkg : Keeps [g] w2 (w2.setCell ⟨g, k * 4 + 3, none⟩ (.int .i64 r)) := (Keeps.refl [g] w2).setCell (p := ⟨g, k * 4 + 3, none⟩) (.inr (by simp)) _
    have hRb := (hkg.block _ (lt_of_block b32) (by simpa using fun e : w.heap.size + 1 + 1 = g => hgR e.symm)).trans b32
    obtain ⟨g1, g2⟩ := set2_all hRb (.int .i64 N) (.slice (some ⟨g, 0, none⟩) M cap)
    refine bodyPost_ret (v := .agg #[.int .i64 N, .slice (some ⟨g, 0, none⟩) M cap]) ?_ ?_ ?_
    · exact results_ref1 rfl _ _ _ _ _ _ _ rfl g1
    · rfl
    · have hL := (OwE.set hO2 hk.out r).keepS g2 (fun b hb e => by simp [Value.ownBlock] at hb e; omega)
      refine ⟨_, _, rfl, .inl ⟨k, hk.out, his.out, hfirst.out, rfl⟩, hL, ⟨_, _, _, rfl⟩, fun b e => by simp [Value.ownBlock] at e; have := hk01.out.size; omega, ?_⟩
      exact (hk02.fresh hkg (fun b hb => .inr (by simp at hb; subst hb; have := hk01.out.size; omega))).fresh g2 (fun b hb => .inr (by simp at hb; omega))
  · go_wp2_with (at_builtin; (refine wpl_appEnt w1.heap.size (.slice (some ⟨w1.heap.size, 0, none⟩) 0 0) (.slice ad M c) [] L rfl _ _ rfl rfl rfl hfr.out hS2.out (by simp [hM.out]; omega) (by simp) ?_; intro v2 w2 hO2 hG2; rw [List.nil_append] at hO2))
    have hkk := hG2.keeps (a := w1) ((Keeps.refl [] w1).alloc _) (fun b hb => by simp [Value.ownBlock] at hb; omega)
    have hk02 := hk01.out.trans hkk
    replace y0 := hkk.val y0
    replace z0 := hkk.val z0
    replace z1 := hkk.val z1
    have b32 := (hkk.block _ q2 (by simp)).trans b31.out
    obtain ⟨r0, r1⟩ := cells2 b32
    have hsz12 := hkk.size
    replace b32 := Lib.hid b32
    replace hk02 := Lib.hid hk02
    replace hO2 := Lib.hid hO2
    clear hkk hG2 hfr hS2 b31
    have t1 : (w.heap.size = w.heap.size + 1 + 1 ∨ w1.heap.size ≤ w.heap.size) → False := fun h => by omega
    have t2 : (w.heap.size + 1 = w.heap.size + 1 + 1 ∨ w1.heap.size ≤ w.heap.size + 1) → False := fun h => by omega
    refine Free.wp_region_chain (fun i => i == 7 || i == 8 || i == 10) (fun i => true) (fun _ b => b = w.heap.size + 1 + 1 ∨ w1.heap.size ≤ b) (by kernel_rfl) (by kernel_rfl) (by kernel_rfl) ?_
    (repeat (first | (apply Free.cw_pure rfl rfl; (intro w'; go_simp <;> exact rfl); go_frame) | (apply Free.cw_steady rfl rfl rfl; (intro w' hS; have q0 := Free.sx_cell hS y0 (fun _ _ hT => t1 hT); have q1 := Free.sx_cell hS z0 (fun _ _ hT => t2 hT); have q2 := Free.sx_cell hS z1 (fun _ _ hT => t2 hT); go_simp <;> exact rfl); go_frame) | (refine Free.cw_skip rfl ?_; go_frame)))
    refine Free.cw_loud rfl rfl (fun K hK => ?_)
    go_wp2
    refine hK _ _ rfl (Free.KeepsP.alloc _ _ _) ?_
    clear hK K
    (repeat (apply Free.cw_pure rfl rfl; (intro w'; go_simp <;> exact rfl); go_frame))
    refine Free.cw_loud rfl rfl (fun K hK => ?_)
    have hkW : Keeps [] w2 (w2.alloc (.cells #[.int .i64 m, .int .i64 a, .int .i64 s, .int .i64 r] 67)).drew := ((Keeps.refl [] w2).alloc _).drew
    have hone : SlE (w2.alloc (.cells #[.int .i64 m, .int .i64 a, .int .i64 s, .int .i64 r] 67)).drew (.slice (some ⟨w2.heap.size, 0, none⟩) 1 1) [⟨m, a, s, r⟩] :=
      Sl.keeps (⟨rfl, _, _, rfl, Nat.le_refl _, by simp [maxLen], by simp, fun _ => ⟨_, 0, rfl, fun j u hj => by rw [World.cell?_alloc_mark]; simpa [entCs, EntV.cs] using hj⟩⟩ : Sl (w2.alloc (.cells #[.int .i64 m, .int .i64 a, .int .i64 s, .int .i64 r] 67)) 4 (.slice (some ⟨w2.heap.size, 0, none⟩) 1 1) 1 (entCs [⟨m, a, s, r⟩])) ((Keeps.refl [] _).drew)
    refine wp_appEnt w1.heap.size v2 (.slice (some ⟨w2.heap.size, 0, none⟩) 1 1) L [⟨m, a, s, r⟩] _ _ rfl rfl rfl (hO2.out.keep hkW) hone (by simp [hM.out]; omega) (by simp; omega) ?_
    intro v3 w3 hO3 hG3
    refine hK _ _ rfl (Free.KeepsP.of hG3.keepsO (fun b hb => .inr (by have := (ownBlock_ge hO2.out b (by simpa using hb)); omega))) ?_
    clear hK K
    have hb3 := (hG3.keepsO.block (w.heap.size + 1 + 1) (by simp; omega) (fun hm => by have := (ownBlock_ge hO2.out _ (by simpa using hm)); omega)).trans ((hkW.block _ (lt_of_block b32.out) (by simp)).trans b32.out)
    obtain ⟨r0, r1⟩ := cells2 hb3
    have hrf := frozen2 hb3
    have hk03 := (hk02.out.trans hkW).fresh hG3.keepsO (fun b hb => .inr (by have := (ownBlock_ge hO2.out b (by simpa using hb)); have := hk01.out.size; omega))
    have hS3 := hO3.sl
    have hge3 := fun b e => ownBlock_ge hO3 b e
    obtain ⟨g1, g2⟩ := set2_all hb3 (.int .i64 N) v3
    replace g1 := Lib.hid g1
    replace g2 := Lib.hid g2
    replace hk03 := Lib.hid hk03
    replace hS3 := Lib.hid hS3
    have hr3 := lt_of_cell r0
    obtain ⟨p3, c3, rfl, _⟩ := hS3.out.form
    simp only [List.length_append, List.length_singleton] at g1 g2 hS3 hge3 ⊢
    clear hG3 hO3 hb3 hone hkW
    (repeat (apply Free.cw_pure rfl rfl; (intro w'; go_simp <;> exact rfl); go_frame))
    refine Free.cw_loud rfl rfl (fun K hK => ?_)
    go_wp2
    refine hK _ _ rfl (Free.KeepsP.of g2.out (fun b hb => .inl (by simpa using hb))) ?_
    clear hK K
    (repeat (apply Free.cw_pure rfl rfl; (intro w'; go_simp <;> exact rfl); go_frame))
    refine Free.cw_nil ?_
    go_wp2
    refine bodyPost_ret (v := .agg #[.int .i64 N, .slice p3 (L.length + 1) c3]) ?_ ?_ ?_
    · exact results_ref1 rfl _ _ _ _ _ _ _ rfl g1.out
    · rfl
    · exact ⟨_, _, rfl, .inr ⟨hnone, rfl⟩, hS3.out.keepS g2.out (fun b hb e => by have := hge3 b e; simp at hb; omega), ⟨_, _, _, rfl⟩, fun b e => by have := hge3 b e; have := hk01.out.size; omega, hk03.out.fresh g2.out (fun b hb => .inr (by simp at hb; omega))⟩
end Go.Proofs.Ythhhciofcmmnfaa

namespace Go.Proofs.Ythhhciofcmmnfaa
open Go.RowKit

theorem SlZ.one1 (w : World) (x : Int) (t : TypeId) : SlZ (w.alloc (.cells #[.int .i64 x] t)) (.slice (some ⟨w.heap.size, 0, none⟩) 1 1) [x] := Sl.one w _ _
theorem SlZ.two (w : World) (x y : Int) (t : TypeId) : SlZ (w.alloc (.cells #[.int .i64 x, .int .i64 y] t)) (.slice (some ⟨w.heap.size, 0, none⟩) 2 2) [x, y] :=
  ⟨by simp [ints], _, _, rfl, Nat.le_refl _, by simp [maxLen], by simp, fun _ => ⟨_, 0, rfl, fun j u hj => by rw [World.cell?_alloc_mark]; simpa [ints] using hj⟩⟩
theorem chkE_cases (N : Int) (ms : List Int) (a s : Int) : (chkB N ms a s = true ∧ chkE N ms a s = 0) ∨ (chkB N ms a s = false ∧ chkE N ms a s = 1) := by
  unfold chkE
  cases chkB N ms a s
  · exact .inr ⟨rfl, rfl⟩
  · exact .inl ⟨rfl, rfl⟩
theorem chkB_w {N : Int} {ms : List Int} {a s : Int} (h : chkB N ms a s = true) (hN : N ≤ 8) : (∀ m ∈ ms, 1 ≤ m ∧ m ≤ N) ∧ (∀ m ∈ ms, W64 m) ∧ W64 a ∧ W64 s := by
  unfold chkB at h
  rw [Bool.and_eq_true, List.all_eq_true] at h
  obtain ⟨h1, h2⟩ := h
  rw [okId_t] at h2
  have h3 : ∀ m ∈ ms, 1 ≤ m ∧ m ≤ N := fun m hm => by have := h1 m hm; simpa using this
  exact ⟨h3, fun m hm => by have := h3 m hm; exact w64 (by omega) (by omega), w64 (by omega) (by omega), w64 (by omega) (by omega)⟩
/-- What an operation leaves. -/
def OpPost (w : World) (bw bm n : Nat) (N : Int) (R : Int → Pt → Prop) (e : Ending) (w' : World) : Prop :=
  ∃ c n' G', e = .returned (.int .i64 c) ∧ R c G' ∧ WM w' bw bm n' N G' ∧ n' ≤ n + 2 ∧ Keeps [bm] w w'
/-- Create. -/
def CreateR (N : Int) (G : Pt) (x a s : Int) (c : Int) (G' : Pt) : Prop :=
  (chkB N [x] a s = false ∧ c = 1 ∧ G' = G) ∨ (chkB N [x] a s = true ∧ ∃ m b, HomeR N (fun m => G m a s) m b ∧ ((b = true ∧ c = 5 ∧ G' = G) ∨ (b = false ∧ c = 0 ∧ G' = updP G x a s x)))
set_option maxRecDepth 100000 in
set_option maxHeartbeats 1000000 in
theorem create_c (w : World) (bw bm n : Nat) (N : Int) (G : Pt) (x a s : Int) (h : WM w bw bm n N G) (hN : 1 ≤ N ∧ N ≤ 8) (hn : n < 1000000) :
    Calls Try.prog 29 #[.pointer (some ⟨bw, 0, none⟩), .int .i64 x, idV a s] w (OpPost w bw bm n N (CreateR N G x a s)) := by
  have hbm := h.mp.lt
  have hkA : Keeps [] w (w.alloc (.cells #[.int .i64 a, .int .i64 s] 31)) := (Keeps.refl _ _).alloc _
  have hb0 := heap_alloc_new w (.cells #[.int .i64 a, .int .i64 s] 31)
  have hsl := SlZ.one1 (w.alloc (.cells #[.int .i64 a, .int .i64 s] 31)) x 3
  have hkB : Keeps [] (w.alloc (.cells #[.int .i64 a, .int .i64 s] 31)) ((w.alloc (.cells #[.int .i64 a, .int .i64 s] 31)).alloc (.cells #[.int .i64 x] 3)) := (Keeps.refl _ _).alloc _
  have hWM := h.keeps (hkA.trans hkB)
  have hb1 := (hkB.block _ (by simp) (by simp)).trans hb0
  have hk0 := hkA.trans hkB
  rw [show (w.alloc (.cells #[.int .i64 a, .int .i64 s] 31)).heap.size = w.heap.size + 1 by simp] at hsl
  clear hb0 hkA hkB h
  replace hsl := Lib.hid hsl
  replace hWM := Lib.hid hWM
  replace hb1 := Lib.hid hb1
  replace hk0 := Lib.hid hk0
  have hwb : w.heap.size ≠ bm := by omega
  go_enter Try.func29, Try.ntmps29
  go_wp2_with fail
  generalize hW : (w.alloc (.cells #[.int .i64 a, .int .i64 s] 31)).alloc (.cells #[.int .i64 x] 3) = W at *
  clear hW
  refine (check_c _ bw bm n N G a s _ [x] hWM.out hsl.out).mono ?_
  rintro e w1 ⟨rfl, hk1⟩
  have hW1 := hWM.out.keeps hk1
  obtain ⟨y0, y1⟩ := cells2 ((hk1.block _ (lt_of_block hb1.out) (by simp)).trans hb1.out)
  obtain ⟨c0, c1, hlt, hne⟩ := hW1.cells
  have hy := lt_of_cell y0
  have hk01 := hk0.out.trans hk1
  replace hk01 := Lib.hid hk01
  clear hk1 hWM hb1 hsl hk0
  rcases chkE_cases N [x] a s with ⟨hc, hE⟩ | ⟨hc, hE⟩
  · rw [hE]
    obtain ⟨hr, hwm, ha, hs⟩ := chkB_w hc hN.2
    clear hE
    replace hc := Lib.hid hc
    replace hW1 := Lib.hid hW1
    go_wp2_with fail
    refine (home_c _ bw bm n N G a s hW1.out hN ha hs).mono ?_
    rintro e w2 ⟨m, b, rfl, hH, hk2⟩
    have hW2 := hW1.out.keeps hk2
    have hk02 := hk01.out.trans hk2
    replace y0 := hk2.val y0
    replace y1 := hk2.val y1
    replace c0 := hk2.val c0
    replace c1 := hk2.val c1
    replace hH := Lib.hid hH
    replace hk02 := Lib.hid hk02
    replace hW2 := Lib.hid hW2
    clear hW1 hk01 hk2
    cases b with
    | true =>
      go_wp2
      go_ret
      exact ⟨5, n, G, rfl, .inr ⟨hc.out, m, true, hH.out, .inl ⟨rfl, rfl, rfl⟩⟩, hW2.out, by omega, hk02.out.of_nil⟩
    | false =>
      go_wp2
      refine Free.wp_region_chain (fun i => i == 8) (fun i => true) (fun j b => j = 8 ∧ b = bm) (by kernel_rfl) (by kernel_rfl) (by kernel_rfl) ?_
      (repeat (first | (apply Free.cw_pure rfl rfl; (intro w'; go_simp <;> exact rfl); go_frame) | (apply Free.cw_steady rfl rfl rfl; (intro w' hS; have q0 := Free.sx_cell hS c1 (fun _ _ hT => hne hT.2); have q1 := Free.sx_cell hS y0 (fun _ _ hT => hwb hT.2); have q2 := Free.sx_cell hS y1 (fun _ _ hT => hwb hT.2); go_simp <;> exact rfl); go_frame) | (refine Free.cw_skip rfl ?_; go_frame)))
      refine Free.cw_loud rfl rfl (fun K hK => ?_)
      obtain ⟨w9, hput, hmp9, hk9⟩ := (hW2.out.mp.keeps ((Keeps.refl [] w2).drew)).put x a s (hwm x (by simp)) ha hs (by unfold maxLen; omega) x
      replace hmp9 := Lib.hid hmp9
      replace hk9 := Lib.hid hk9
      go_wp2
      refine hK _ _ rfl (Free.KeepsP.of hk9.out (fun b hb => ⟨trivial, by simpa using hb⟩)) ?_
      clear hK K
      (repeat (apply Free.cw_pure rfl rfl; (intro w'; go_simp <;> exact rfl); go_frame))
      refine Free.cw_nil ?_
      have hW9 := Lib.hid ((hW2.out.keeps ((Keeps.refl [] w2).drew)).turn hk9.out hmp9.out)
      have hk09 := Lib.hid ((hk02.out.trans ((Keeps.refl [] w2).drew)).of_nil.trans hk9.out)
      go_wp2
      go_ret
      exact ⟨0, n + 1, _, rfl, .inr ⟨hc.out, m, false, hH.out, .inr ⟨rfl, rfl, rfl⟩⟩, hW9.out, by omega, hk09.out⟩

  · rw [hE]
    replace hW1 := Lib.hid hW1
    replace hc := Lib.hid hc
    clear hE
    go_wp2
    go_ret
    exact ⟨1, n, G, rfl, .inl ⟨hc.out, rfl, rfl⟩, hW1.out, by omega, hk01.out.of_nil⟩
/-- Share. -/
def ShareR (N : Int) (G : Pt) (x y a s : Int) (c : Int) (G' : Pt) : Prop :=
  (chkB N [x, y] a s = false ∧ c = 1 ∧ G' = G) ∨ (chkB N [x, y] a s = true ∧ ((G x a s = 0 ∧ c = 6 ∧ G' = G) ∨ (G x a s ≠ 0 ∧ c = 0 ∧ ((G y a s ≠ 0 ∧ G' = G) ∨ (G y a s = 0 ∧ G' = updP G y a s x)))))
set_option maxRecDepth 100000 in
set_option maxHeartbeats 1000000 in
theorem share_c (w : World) (bw bm n : Nat) (N : Int) (G : Pt) (x y a s : Int) (h : WM w bw bm n N G) (hN : 1 ≤ N ∧ N ≤ 8) (hn : n < 1000000) :
    Calls Try.prog 31 #[.pointer (some ⟨bw, 0, none⟩), .int .i64 x, .int .i64 y, idV a s] w (OpPost w bw bm n N (ShareR N G x y a s)) := by
  have hbm := h.mp.lt
  have hkA : Keeps [] w (w.alloc (.cells #[.int .i64 a, .int .i64 s] 31)) := (Keeps.refl _ _).alloc _
  have hb0 := heap_alloc_new w (.cells #[.int .i64 a, .int .i64 s] 31)
  have hsl := SlZ.two (w.alloc (.cells #[.int .i64 a, .int .i64 s] 31)) x y 3
  have hkB : Keeps [] (w.alloc (.cells #[.int .i64 a, .int .i64 s] 31)) ((w.alloc (.cells #[.int .i64 a, .int .i64 s] 31)).alloc (.cells #[.int .i64 x, .int .i64 y] 3)) := (Keeps.refl _ _).alloc _
  have hWM := h.keeps (hkA.trans hkB)
  have hb1 := (hkB.block _ (by simp) (by simp)).trans hb0
  have hk0 := hkA.trans hkB
  rw [show (w.alloc (.cells #[.int .i64 a, .int .i64 s] 31)).heap.size = w.heap.size + 1 by simp] at hsl
  clear hb0 hkA hkB h
  replace hsl := Lib.hid hsl
  replace hWM := Lib.hid hWM
  replace hb1 := Lib.hid hb1
  replace hk0 := Lib.hid hk0
  have hwb : w.heap.size ≠ bm := by omega
  go_enter Try.func31, Try.ntmps31
  go_wp2_with fail
  generalize hW : (w.alloc (.cells #[.int .i64 a, .int .i64 s] 31)).alloc (.cells #[.int .i64 x, .int .i64 y] 3) = W at *
  clear hW
  refine (check_c _ bw bm n N G a s _ [x, y] hWM.out hsl.out).mono ?_
  rintro e w1 ⟨rfl, hk1⟩
  have hW1 := hWM.out.keeps hk1
  obtain ⟨y0, y1⟩ := cells2 ((hk1.block _ (lt_of_block hb1.out) (by simp)).trans hb1.out)
  obtain ⟨c0, c1, hlt, hne⟩ := hW1.cells
  have hy := lt_of_cell y0
  have hk01 := hk0.out.trans hk1
  replace hk01 := Lib.hid hk01
  clear hk1 hWM hb1 hsl hk0
  rcases chkE_cases N [x, y] a s with ⟨hc, hE⟩ | ⟨hc, hE⟩
  · rw [hE]
    obtain ⟨hr, hwm, ha, hs⟩ := chkB_w hc hN.2
    clear hE
    replace hc := Lib.hid hc
    replace hW1 := Lib.hid hW1
    obtain ⟨z, hz⟩ : ∃ z, G x a s = z := ⟨_, rfl⟩
    have hlook1 := fun nq => (hW1.out.mp.keeps ((Keeps.refl [] w1).drewN nq)).look x a s (hwm x (by simp)) ha hs
    rw [hz] at hlook1
    replace hz := Lib.hid hz
    by_cases hz0 : z = 0
    · subst hz0
      go_wp2
      (refine wp_region_quiet_lit (by kernel_rfl) (by kernel_rfl) ?_; (repeat (first | go_big_quiet_step (fail) | quiet_step (fail))); with_reducible refine wpQuiet_nil ?_; intro _ hw'; obtain ⟨nq, hw''⟩ := hw'; subst hw'')
      go_wp2
      go_ret
      exact ⟨6, n, G, rfl, .inr ⟨hc.out, .inl ⟨hz.out, rfl, rfl⟩⟩, hW1.out.keeps ((Keeps.refl [] w1).drewN nq), by omega, (hk01.out.drewN nq).of_nil⟩
    · have hz1 : (z == 0) = false := by simpa using hz0
      go_wp2
      (refine wp_region_quiet_lit (by kernel_rfl) (by kernel_rfl) ?_; (repeat (first | go_big_quiet_step (fail) | quiet_step (fail))); with_reducible refine wpQuiet_nil ?_; intro _ hw'; obtain ⟨nq, hw''⟩ := hw'; subst hw'')
      have hk2x : Keeps [] w1 (w1.drewN nq) := (Keeps.refl [] w1).drewN nq
      generalize w1.drewN nq = w2 at hk2x ⊢
      have hW2 := hW1.out.keeps hk2x
      have hk02 := hk01.out.trans hk2x
      replace y0 := hk2x.val y0
      replace y1 := hk2x.val y1
      replace c0 := hk2x.val c0
      replace c1 := hk2x.val c1
      clear hk2x hlook1
      replace hW2 := Lib.hid hW2
      replace hk02 := Lib.hid hk02
      obtain ⟨u, hu⟩ : ∃ z, G y a s = z := ⟨_, rfl⟩
      have hlook1 := fun nq => (hW2.out.mp.keeps ((Keeps.refl [] w2).drewN nq)).look y a s (hwm y (by simp)) ha hs
      rw [hu] at hlook1
      replace hu := Lib.hid hu
      clear hW1 hk01
      by_cases hu0 : u = 0
      · subst hu0
        go_wp2
        (refine wp_region_quiet_lit (by kernel_rfl) (by kernel_rfl) ?_; (repeat (first | go_big_quiet_step (fail) | quiet_step (fail))); with_reducible refine wpQuiet_nil ?_; intro _ hw'; obtain ⟨nq, hw''⟩ := hw'; subst hw'')
        have hk3x : Keeps [] w2 (w2.drewN nq) := (Keeps.refl [] w2).drewN nq
        generalize w2.drewN nq = w3 at hk3x ⊢
        have hW3 := hW2.out.keeps hk3x
        have hk03 := hk02.out.trans hk3x
        replace y0 := hk3x.val y0
        replace y1 := hk3x.val y1
        replace c0 := hk3x.val c0
        replace c1 := hk3x.val c1
        clear hk3x hlook1
        replace hW3 := Lib.hid hW3
        replace hk03 := Lib.hid hk03
        go_wp2
        refine Free.wp_region_chain (fun i => i == 8) (fun i => true) (fun j b => j = 8 ∧ b = bm) (by kernel_rfl) (by kernel_rfl) (by kernel_rfl) ?_
        (repeat (first | (apply Free.cw_pure rfl rfl; (intro w'; go_simp <;> exact rfl); go_frame) | (apply Free.cw_steady rfl rfl rfl; (intro w' hS; have q0 := Free.sx_cell hS c1 (fun _ _ hT => hne hT.2); have q1 := Free.sx_cell hS y0 (fun _ _ hT => hwb hT.2); have q2 := Free.sx_cell hS y1 (fun _ _ hT => hwb hT.2); go_simp <;> exact rfl); go_frame) | (refine Free.cw_skip rfl ?_; go_frame)))
        refine Free.cw_loud rfl rfl (fun K hK => ?_)
        obtain ⟨w9, hput, hmp9, hk9⟩ := (hW3.out.mp.keeps ((Keeps.refl [] w3).drew)).put y a s (hwm y (by simp)) ha hs (by unfold maxLen; omega) x
        replace hmp9 := Lib.hid hmp9
        replace hk9 := Lib.hid hk9
        go_wp2
        refine hK _ _ rfl (Free.KeepsP.of hk9.out (fun b hb => ⟨trivial, by simpa using hb⟩)) ?_
        clear hK K
        (repeat (apply Free.cw_pure rfl rfl; (intro w'; go_simp <;> exact rfl); go_frame))
        refine Free.cw_nil ?_
        have hW9 := Lib.hid ((hW3.out.keeps ((Keeps.refl [] w3).drew)).turn hk9.out hmp9.out)
        have hk09 := Lib.hid ((hk03.out.trans ((Keeps.refl [] w3).drew)).of_nil.trans hk9.out)
        go_wp2
        go_ret
        exact ⟨0, n + 1, _, rfl, .inr ⟨hc.out, .inr ⟨by rw [hz.out]; exact hz0, rfl, .inr ⟨hu.out, rfl⟩⟩⟩, hW9.out, by omega, hk09.out⟩
      · have hu1 : (u == 0) = false := by simpa using hu0
        go_wp2
        (refine wp_region_quiet_lit (by kernel_rfl) (by kernel_rfl) ?_; (repeat (first | go_big_quiet_step (fail) | quiet_step (fail))); with_reducible refine wpQuiet_nil ?_; intro _ hw'; obtain ⟨nq, hw''⟩ := hw'; subst hw'')
        go_wp2
        go_ret
        exact ⟨0, n, G, rfl, .inr ⟨hc.out, .inr ⟨by rw [hz.out]; exact hz0, rfl, .inl ⟨by rw [hu.out]; exact hu0, rfl⟩⟩⟩, hW2.out.keeps ((Keeps.refl [] w2).drewN nq), by omega, (hk02.out.drewN nq).of_nil⟩

  · rw [hE]
    replace hW1 := Lib.hid hW1
    replace hc := Lib.hid hc
    clear hE
    go_wp2
    go_ret
    exact ⟨1, n, G, rfl, .inl ⟨hc.out, rfl, rfl⟩, hW1.out, by omega, hk01.out.of_nil⟩
end Go.Proofs.Ythhhciofcmmnfaa
