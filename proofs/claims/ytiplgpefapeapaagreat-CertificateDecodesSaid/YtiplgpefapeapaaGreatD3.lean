/- Texts that the laws lean on, in the order in which they build. A region that draws its order, walked once in the order of the text: the operations that act ('loud') are in one fixed order with each other; every other operation either is ordered against all of them, or is 'steady': it yields the same value in every world that can come up. Of whatever program. Guarded operations in a chain, of whatever program. wire's reader in whatever state: Uint, Bool. wire's reader: Count with whatever bound. Functions of Go's library at the types of the traces. slices.SortFunc over a flat slice of the call's own. Of whatever program. cmp's functions and the comparisons of answers and of needs. DERIVED: THE SHELF's CONTRACTS AT THIS DUMP, IN PLAIN WORDS (tools/lay-plain.mjs out of 'YtiplgpefapeapaaGreatSortSrc33.lean', which tools/lay-shelf.mjs wrote): THE SAME DECLARATIONS UNDER THE SAME NAMES: 'import', 'namespace', 'open', 'def', 'theorem' AND NOTHING ELSE: no command of the shelf's: FOR A HAND-IN. Each laying: the table of numbers ('.._ren') and one theorem, a field a fact of the dump's own or the kernel's comparison; each contract: ONE APPLICATION. The sorts of answers and of needs. -/
import Derived.Test.YtiplgpefapeapaaGreatD2
import Derived.Test.YtiplgpefapeapaaGreatProg
import Derived.Shelf.SlSortCmp.WholeK
import Derived.Ground.SlsfProg
import Derived.Shelf.SlSortCmp.NoneTotal
set_option linter.unusedVariables false
set_option linter.unusedSimpArgs false
namespace Go.Proofs.YtiplgpefapeapaaGreat
namespace Free
open Go Go.RowKit

section
variable (P : Program) (ops : Array Oper) (lo st : Nat → Bool) (T : Nat → Nat → Prop) (w0 : World) (Q : Act → World → Prop) (a0 : Act)

/-- THE WALK, in the order of the text. -/
def cwalk : List Oper → Nat → Act → World → Prop
  | [], _, a, w => Q a w
  | o :: r, i, a, w =>
    if Region.wanted o (yielded ops a.tmps) then
      if lo i then o.wp P a w (fun a' w' => a'.defers = a.defers ∧ KeepsP (T i) w w' ∧ cwalk r (i + 1) a' w') (fun _ _ _ => False)
      else if st i then ∃ c, (∀ w', KeepsP (sx ops T i) w0 w' → Quiet P o a w' c) ∧ cwalk r (i + 1) (a.put o.dst c) w
      else ∃ c, Quiet P o a w c ∧ cwalk r (i + 1) (a.put o.dst c) w
    else cwalk r (i + 1) (a.put o.dst undef) w

/-- What the region's text must be like; asked of the kernel. -/
def chainB : Bool := (List.range ops.size).all fun j => (List.range j).all fun i =>
  (!(lo i && lo j) || pre ops i j) && (!(lo i && !lo j && !st j) || pre ops i j) && (!(lo j && !lo i && !st i) || pre ops i j)
structure Chain : Prop where
  ll : ∀ i j, i < j → j < ops.size → lo i = true → lo j = true → pre ops i j = true
  lr : ∀ i j, i < j → j < ops.size → lo i = true → lo j = false → st j = false → pre ops i j = true
  rl : ∀ i j, i < j → j < ops.size → lo i = false → st i = false → lo j = true → pre ops i j = true
variable {ops lo st} in
theorem chain_of (h : chainB ops lo st = true) : Chain ops lo st := by
  have h1 : ∀ i j, i < j → j < ops.size → ((!(lo i && lo j) || pre ops i j) && (!(lo i && !lo j && !st j) || pre ops i j) && (!(lo j && !lo i && !st i) || pre ops i j)) = true := fun i j hij hj =>
    List.all_eq_true.1 (List.all_eq_true.1 h j (List.mem_range.2 hj)) i (List.mem_range.2 hij)
  refine ⟨fun i j a b c d => ?_, fun i j a b c d e => ?_, fun i j a b c d e => ?_⟩
  · have := h1 i j a b; simp [c, d] at this; exact this
  · have := h1 i j a b; simp [c, d, e] at this; exact this
  · have := h1 i j a b; simp [c, d, e] at this; exact this

def OKs (u : Nat → Value) (j : Nat) : Prop := ∀ o, ops[j]? = some o →
  if Region.wanted o (yielded ops (lex ops a0 u j).tmps) then ∀ w', KeepsP (sx ops T j) w0 w' → Quiet P o (lex ops a0 u j) w' (u j) else u j = undef
def StN (u : Nat → Value) (j : Nat) (w : World) : Prop := ∀ o, ops[j]? = some o →
  if Region.wanted o (yielded ops (lex ops a0 u j).tmps) then Quiet P o (lex ops a0 u j) w (u j) else u j = undef

variable {P ops lo st T w0 Q a0}
theorem OKs_congr {u u' : Nat → Value} {j : Nat} (h : ∀ i, i ≤ j → u i = u' i) (k : OKs P ops T w0 a0 u j) : OKs P ops T w0 a0 u' j := by
  intro o ho
  have := k o ho
  rw [lex_congr (fun i hi => h i (by omega)), h j (Nat.le_refl _)] at this
  exact this

/-- Some way in which an operation may end. -/
theorem some_end {o : Oper} {a : Act} {w : World} {K : Act → World → Prop} (h : o.wp P a w K (fun _ _ _ => False)) (hK : ∀ a' w', K a' w' → a'.defers = a.defers) : ∃ v w', K (a.put o.dst v) w' := by
  unfold Oper.wp at h
  generalize (execOp a.eval o).run P w = r at h
  cases r with
  | halt x w' => cases x <;> simp only [Oper.upon] at h
  | ok n w' =>
    cases n <;> simp only [Oper.upon] at h
    case value v => exact ⟨v, w', h⟩
    case skip => exact ⟨_, w', h⟩
    case defer d =>
      have := hK _ _ h
      cases hd : o.dst <;> simp [Act.put, hd] at this
    case enter f args =>
      obtain ⟨e, w'', fr, hR, _⟩ := h []
      cases e with
      | returned v => exact ⟨v, w'', hR⟩
      | panicked ch => exact hR.elim
      | outgrown => obtain ⟨_, _, hf⟩ := hR; exact hf.elim
    case row r args =>
      obtain ⟨v, w'', hR, _⟩ := h default []
      exact ⟨v, w'', hR⟩
/-- An operation that looks at the same. -/
theorem wp_moved {o : Oper} {a b : Act} {w : World} {K : Act → World → Prop} {K' : Act → World → Prop} {Q' : Exit → Act → World → Prop} (h : o.wp P a w K (fun _ _ _ => False)) (hK : ∀ a' w', K a' w' → a'.defers = a.defers)
    (e : execOp b.eval o = execOp a.eval o) (hk : ∀ v w', K (a.put o.dst v) w' → K' (b.put o.dst v) w') : o.wp P b w K' Q' := by
  unfold Oper.wp at h ⊢
  rw [e]
  generalize (execOp a.eval o).run P w = r at h ⊢
  cases r with
  | halt x w' => cases x <;> simp only [Oper.upon] at h
  | ok n w' =>
    cases n <;> simp only [Oper.upon] at h ⊢
    case value v => exact hk _ _ h
    case skip => exact hk _ _ h
    case defer d =>
      have := hK _ _ h
      cases hd : o.dst <;> simp [Act.put, hd] at this
    case enter f args =>
      refine Calls.mono h fun e w'' hR => ?_
      cases e with
      | returned v => exact hk _ _ hR
      | panicked ch => exact hR.elim
      | outgrown => obtain ⟨_, _, hf⟩ := hR; exact hf.elim
    case row r args => exact Rows.mono h fun v w'' hR => hk _ _ hR

theorem cw_head {r : List Oper} {k : Nat} {o : Oper} (hr : ops.toList.drop k = o :: r) : ops[k]? = some o ∧ ops.toList.drop (k + 1) = r := by
  refine ⟨?_, ?_⟩
  · have := congrArg (fun x : List Oper => x[0]?) hr
    simpa using this
  · have := congrArg List.tail hr
    simpa using this

/-- What a walk that has come to `k` in the world `w` says of all that follows. -/
theorem unroll (hok : Ok ops) : ∀ (r : List Oper) (k : Nat) (u0 : Nat → Value) (w : World), ops.toList.drop k = r → cwalk P ops lo st T w0 Q r k (lex ops a0 u0 k) w →
    ∃ u, (∀ j, j < k → u j = u0 j) ∧ (∀ j, k ≤ j → lo j = false → st j = true → OKs P ops T w0 a0 u j) ∧
      (∀ j, k ≤ j → (∀ l, k ≤ l → l ≤ j → lo l = false) → st j = false → StN P ops a0 u j w) ∧
      (∀ l, l < ops.size → k ≤ l → lo l = true → (∀ i, k ≤ i → i < l → lo i = false) → cwalk P ops lo st T w0 Q (ops.toList.drop l) l (lex ops a0 u l) w) ∧
      ((∀ l, k ≤ l → l < ops.size → lo l = false) → Q (lex ops a0 u ops.size) w)
  | [], k, u0, w, hr, h => by
    have hn : ops.size ≤ k := by simpa using hr
    have hx : lex ops a0 u0 k = lex ops a0 u0 ops.size := fill_congr _ 0 _ fun j _ hj => by
      have : j < ops.size := by simpa using hj
      exact ⟨by simp [this]; omega, fun _ => rfl⟩
    have hnone : ∀ j, k ≤ j → ops[j]? = none := fun j hj => by simp; omega
    refine ⟨u0, fun _ _ => rfl, fun j hj _ _ o ho => ?_, fun j hj _ _ o ho => ?_, fun l hl hk _ _ => by omega, fun _ => by rw [← hx]; exact h⟩
    · rw [hnone j hj] at ho; cases ho
    · rw [hnone j hj] at ho; cases ho
  | o :: r, k, u0, w, hr, h => by
    obtain ⟨ho, hr'⟩ := cw_head hr
    have hks : k < ops.size := (Array.getElem?_eq_some_iff.1 ho).1
    have hlex : ∀ c, lex ops a0 (fun j => if j = k then c else u0 j) k = lex ops a0 u0 k := fun c => lex_congr fun j hj => by simp; intro e; omega
    have hsucc : ∀ c, lex ops a0 (fun j => if j = k then c else u0 j) (k + 1) = (lex ops a0 u0 k).put o.dst c := fun c => by rw [lex_succ hok _ k o ho, hlex]; simp
    have h0 := h
    -- one step: the value `c`, the world `w1`
    have go : ∀ (c : Value) (w1 : World), cwalk P ops lo st T w0 Q r (k + 1) ((lex ops a0 u0 k).put o.dst c) w1 → (lo k = false → w1 = w) →
        (lo k = false → st k = true → if Region.wanted o (yielded ops (lex ops a0 u0 k).tmps) then ∀ w', KeepsP (sx ops T k) w0 w' → Quiet P o (lex ops a0 u0 k) w' c else c = undef) →
        (lo k = false → st k = false → if Region.wanted o (yielded ops (lex ops a0 u0 k).tmps) then Quiet P o (lex ops a0 u0 k) w c else c = undef) →
        ∃ u, (∀ j, j < k → u j = u0 j) ∧ (∀ j, k ≤ j → lo j = false → st j = true → OKs P ops T w0 a0 u j) ∧
          (∀ j, k ≤ j → (∀ l, k ≤ l → l ≤ j → lo l = false) → st j = false → StN P ops a0 u j w) ∧
          (∀ l, l < ops.size → k ≤ l → lo l = true → (∀ i, k ≤ i → i < l → lo i = false) → cwalk P ops lo st T w0 Q (ops.toList.drop l) l (lex ops a0 u l) w) ∧
          ((∀ l, k ≤ l → l < ops.size → lo l = false) → Q (lex ops a0 u ops.size) w) := by
      intro c w1 hcw hw1 hs1 hs2
      obtain ⟨u, e1, e2, e3, e4, e5⟩ := unroll hok r (k + 1) (fun j => if j = k then c else u0 j) w1 hr' (by rw [hsucc]; exact hcw)
      have hlow : ∀ j, j < k → u j = u0 j := fun j hj => by rw [e1 j (by omega)]; simp; intro e; omega
      have huk : u k = c := by rw [e1 k (by omega)]; simp
      have hlk : lex ops a0 u k = lex ops a0 u0 k := lex_congr hlow
      refine ⟨u, hlow, fun j hj h1 h2 => ?_, fun j hj h1 h2 => ?_, fun l hl hkl h1 h2 => ?_, fun h1 => ?_⟩
      · by_cases e : j = k
        · subst e
          intro o' ho'
          rw [ho] at ho'; cases ho'
          rw [hlk, huk]; exact hs1 h1 h2
        · exact e2 j (by omega) h1 h2
      · have hlk0 := h1 k (Nat.le_refl _) hj
        have hww := hw1 hlk0
        by_cases e : j = k
        · subst e
          intro o' ho'
          rw [ho] at ho'; cases ho'
          rw [hlk, huk]; exact hs2 hlk0 h2
        · have := e3 j (by omega) (fun l a b => h1 l (by omega) b) h2
          rw [hww] at this
          exact this
      · by_cases e : l = k
        · subst e
          rw [hr, hlk]; exact h0
        · have hlk0 := h2 k (Nat.le_refl _) (by omega)
          have := e4 l hl (by omega) h1 (fun i a b => h2 i (by omega) b)
          rw [hw1 hlk0] at this
          exact this
      · have := e5 (fun l a b => h1 l (by omega) b)
        rw [hw1 (h1 k (Nat.le_refl _) hks)] at this
        exact this
    unfold cwalk at h
    by_cases hw : Region.wanted o (yielded ops (lex ops a0 u0 k).tmps) = true
    · rw [if_pos hw] at h
      by_cases hl : lo k = true
      · rw [if_pos hl] at h
        obtain ⟨v, w1, _, _, hc1⟩ := some_end h (fun _ _ hh => hh.1)
        exact go v w1 hc1 (fun e => by rw [hl] at e; cases e) (fun e => by rw [hl] at e; cases e) (fun e => by rw [hl] at e; cases e)
      · rw [if_neg hl] at h
        by_cases hs : st k = true
        · rw [if_pos hs] at h
          obtain ⟨c, hq, hc⟩ := h
          exact go c w hc (fun _ => rfl) (fun _ _ => by rw [if_pos hw]; exact hq) (fun _ e => by rw [hs] at e; cases e)
        · rw [if_neg hs] at h
          obtain ⟨c, hq, hc⟩ := h
          exact go c w hc (fun _ => rfl) (fun _ e => absurd e hs) (fun _ _ => by rw [if_pos hw]; exact hq)
    · rw [if_neg hw] at h
      exact go undef w h (fun _ => rfl) (fun _ _ => by rw [if_neg hw]) (fun _ _ => by rw [if_neg hw])

/-- What holds at every point of a run in whatever order. -/
structure CInv (P : Program) (ops : Array Oper) (lo st : Nat → Bool) (T : Nat → Nat → Prop) (w0 : World) (Q : Act → World → Prop) (a0 : Act) (listed : Array Bool) (b : Act) (w : World) (k : Nat) (u : Nat → Value) : Prop where
  size : listed.size = ops.size
  closed : ∀ (i : Nat) (o : Oper), ops[i]? = some o → listed.getD i false = true → ∀ e ∈ o.after, Region.binds .any e = true → listed.getD e.on false = true
  good : KeepsP (fun b => ∃ j, listed.getD j false = true ∧ T j b) w0 w
  frame : b = fill u (fun j => listed.getD j false) ops.toList 0 a0
  loudk : ∀ j, j < ops.size → lo j = true → (listed.getD j false = true ↔ j < k)
  below : ∀ j, j < k → j < ops.size → lo j = false → st j = false → listed.getD j false = true
  stab : ∀ j, lo j = false → st j = true → OKs P ops T w0 a0 u j
  seg : ∀ j, k ≤ j → (∀ l, k ≤ l → l ≤ j → lo l = false) → st j = false → StN P ops a0 u j w
  next : ∀ l, l < ops.size → k ≤ l → lo l = true → (∀ i, k ≤ i → i < l → lo i = false) → cwalk P ops lo st T w0 Q (ops.toList.drop l) l (lex ops a0 u l) w
  fin : (∀ l, k ≤ l → l < ops.size → lo l = false) → Q (lex ops a0 u ops.size) w

theorem getD_lt {listed : Array Bool} {j : Nat} (h : listed.getD j false = true) : j < listed.size := by
  rcases Nat.lt_or_ge j listed.size with h1 | h1
  · exact h1
  · simp [Array.getD, Nat.not_lt.2 h1] at h

theorem lex_agree (hok : Ok ops) (u : Nat → Value) {j : Nat} (hj : j < ops.size) : Agree (ops[j].looksAt ops) (lex ops a0 u j) (fill u (fun k => pre ops k j && decide (k < ops.size)) ops.toList 0 a0) := by
  have hp' : ops[j]? = some ops[j] := by simp [hj]
  refine fill_agree _ 0 _ _ (Agree.refl _ _) fun k p hp hne t ht => ?_
  have hpk : ops[k]? = some p := by simpa using hp
  have hk : k < ops.size := (Array.getElem?_eq_some_iff.1 hpk).1
  simp only [Nat.zero_add] at hne
  have hkj : j ≠ k := fun e => by
    subst e
    have : pre ops j j = false := by
      cases hpp : pre ops j j
      · rfl
      · have := pre_lt hok (j + 1) j (by omega) hj j hj hpp; omega
    simp [this] at hne
  rcases hok.apart j _ k p hp' hpk hkj with h | h | h
  · have := pre_lt hok (j + 1) j (by omega) hj k hk h
    simp [this, h, hk] at hne
  · have h9 := pre_lt hok (k + 1) k (by omega) hk j hj h
    have h10 : pre ops k j = false := by
      cases hpp : pre ops k j
      · rfl
      · have := pre_lt hok (j + 1) j (by omega) hj k hk hpp; omega
    simp [h10] at hne
    omega
  · exact (Oper.apart_spec h).1 t ht

/-- The frame at hand agrees with the frame in the order of the text on what an operation that is ready looks at. -/
theorem ready_agree (hok : Ok ops) {listed : Array Bool} {u : Nat → Value} {i : Nat} {o : Oper} (ho : ops[i]? = some o) (hnl : listed.getD i false = false)
    (hc : ∀ (i : Nat) (o : Oper), ops[i]? = some o → listed.getD i false = true → ∀ e ∈ o.after, Region.binds .any e = true → listed.getD e.on false = true)
    (hedge : ∀ e ∈ o.after, Region.binds .any e = true → listed.getD e.on false = true) :
    Agree (o.looksAt ops) (lex ops a0 u i) (fill u (fun j => listed.getD j false) ops.toList 0 a0) := by
  have hlt : i < ops.size := (Array.getElem?_eq_some_iff.1 ho).1
  have hpre : ∀ j, j < ops.size → pre ops j i = true → listed.getD j false = true := closed_pre hok hc (i + 1) i (by omega) o ho hedge
  refine fill_agree _ 0 _ _ (Agree.refl _ _) fun j p hp hne t ht => ?_
  have hp' : ops[j]? = some p := by simpa using hp
  have hj : j < ops.size := (Array.getElem?_eq_some_iff.1 hp').1
  simp only [Nat.zero_add] at hne
  have hji : i ≠ j := fun e => by
    subst e
    rw [hnl] at hne
    simp at hne
  rcases hok.apart i o j p ho hp' hji with h | h | h
  · have h2 := pre_lt hok (i + 1) i (by omega) hlt j hj h
    rw [hpre j hj h] at hne
    simp [h2] at hne
  · have h2 := pre_lt hok (j + 1) j (by omega) hj i hlt h
    have h3 : listed.getD j false = false := by
      cases h4 : listed.getD j false
      · rfl
      · have := closed_pre hok hc (j + 1) j (by omega) p hp' (hc j p hp' h4) i hlt h
        rw [hnl] at this
        cases this
    rw [h3] at hne
    simp at hne
    omega
  · exact (Oper.apart_spec h).1 t ht

/-- Two readings of the walk give the same values to what has come up already. -/
theorem same_vals (hok : Ok ops) {listed : Array Bool} {u u' : Nat → Value} {i : Nat} (hnl : listed.getD i false = false) (hsz : listed.size = ops.size)
    (hc : ∀ (i : Nat) (o : Oper), ops[i]? = some o → listed.getD i false = true → ∀ e ∈ o.after, Region.binds .any e = true → listed.getD e.on false = true)
    (hlow : ∀ j, j < i → u' j = u j) (hs : ∀ j, i < j → listed.getD j false = true → OKs P ops T w0 a0 u j ∧ OKs P ops T w0 a0 u' j) :
    ∀ n j, j < n → listed.getD j false = true → u' j = u j
  | 0, j, h, _ => by omega
  | n + 1, j, h, hl => by
    have ih := same_vals hok hnl hsz hc hlow hs n
    rcases Nat.lt_trichotomy j i with hji | hji | hji
    · exact hlow j hji
    · subst hji; rw [hnl] at hl; cases hl
    · have hj : j < ops.size := by rw [← hsz]; exact getD_lt hl
      have hoj : ops[j]? = some ops[j] := by simp [hj]
      obtain ⟨k1, k2⟩ := hs j hji hl
      have hpre : ∀ q, q < ops.size → pre ops q j = true → listed.getD q false = true := closed_pre hok hc (j + 1) j (by omega) _ hoj (hc j _ hoj hl)
      have hag : Agree (ops[j].looksAt ops) (lex ops a0 u' j) (lex ops a0 u j) := by
        have e1 := lex_agree (a0 := a0) hok u hj
        have e2 := lex_agree (a0 := a0) hok u' hj
        have e3 : fill u' (fun k => pre ops k j && decide (k < ops.size)) ops.toList 0 a0 = fill u (fun k => pre ops k j && decide (k < ops.size)) ops.toList 0 a0 :=
          fill_congr _ 0 _ fun q _ _ => ⟨rfl, fun hq => by
            simp only [Bool.and_eq_true, decide_eq_true_eq] at hq
            exact ih q (by have := pre_lt hok (j + 1) j (by omega) hj q hq.2 hq.1; omega) (hpre q hq.2 hq.1)⟩
        rw [e3] at e2
        exact ⟨e2.1.trans e1.1.symm, fun t ht => (e2.2 t ht).trans (e1.2 t ht).symm⟩
      have hwn := wanted_agree (o := ops[j]) hag
      have hex := exec_agree hag (hok.sel j _ hoj)
      have q1 := k1 _ hoj
      have q2 := k2 _ hoj
      rw [hwn] at q2
      by_cases hwant : Region.wanted ops[j] (yielded ops (lex ops a0 u j).tmps) = true
      · rw [if_pos hwant] at q1 q2
        exact quiet_one (q2 w0 (KeepsP.refl _ _)) (q1 w0 (KeepsP.refl _ _)) hex
      · rw [if_neg hwant] at q1 q2
        rw [q1, q2]

theorem chain_any (hok : Ok ops) (hch : Chain ops lo st) {Q' : Exit → Act → World → Prop} (hQ : ∀ a w, Q a w → Q' .normal a w) :
    ∀ (fuel : Nat) (listed : Array Bool) (b : Act) (w : World) (k : Nat) (u : Nat → Value), CInv P ops lo st T w0 Q a0 listed b w k u → count listed ops.size = fuel → wpAny P .any ops Q' fuel listed b w := by
  have fin : ∀ (listed : Array Bool) (b : Act) (w : World) (k : Nat) (u : Nat → Value), CInv P ops lo st T w0 Q a0 listed b w k u → (∀ i, i < ops.size → listed.getD i false = true) → Q' .normal b w := by
    intro listed b w k u hI hall
    refine hQ _ _ ?_
    have : fill u (fun j => listed.getD j false) ops.toList 0 a0 = lex ops a0 u ops.size := fill_congr _ 0 _ fun j _ hj => by
      have : j < ops.size := by simpa using hj
      exact ⟨by rw [hall j this]; simp [this], fun _ => rfl⟩
    rw [hI.frame, this]
    refine hI.fin fun l hl hls => ?_
    cases hlo : lo l
    · rfl
    · have := (hI.loudk l hls hlo).1 (hall l hls)
      omega
  intro fuel
  induction fuel with
  | zero =>
    intro listed b w k u hI hc
    have hall : ∀ i, i < ops.size → listed.getD i false = true := fun i hi => by
      have := List.countP_eq_zero.1 hc i (List.mem_range.2 hi)
      simpa using this
    refine ⟨?_, fin listed b w k u hI hall⟩
    refine List.eq_nil_iff_forall_not_mem.2 fun i hi => ?_
    obtain ⟨h1, o, ho, _⟩ := mem_ready.1 hi
    have hlt : i < ops.size := (Array.getElem?_eq_some_iff.1 ho).1
    have h2 := hall i hlt
    have hs : i < listed.size := by rw [hI.size]; exact hlt
    simp [Array.getD, hs] at h1 h2
    rw [h1] at h2
    cases h2
  | succ fuel ih =>
    intro listed b w k u hI hc
    refine ⟨fun hr => fin listed b w k u hI (fun i hi => ready_sub hok hr hI.size (i + 1) i (by omega) hi), fun i hi => ?_⟩
    obtain ⟨h1, o, ho, hedge⟩ := mem_ready.1 hi
    have hlt : i < ops.size := (Array.getElem?_eq_some_iff.1 ho).1
    have hs : i < listed.size := by rw [hI.size]; exact hlt
    have hnl : listed.getD i false = false := by simpa [Array.getD, hs] using h1
    have hcount : count (listed.setIfInBounds i true) ops.size = fuel := by
      have := count_set hs hnl ops.size hlt
      omega
    have hpre : ∀ j, j < ops.size → pre ops j i = true → listed.getD j false = true := closed_pre hok hI.closed (i + 1) i (by omega) o ho hedge
    have hprej : ∀ j, listed.getD j false = true → pre ops i j = false := fun j hj => by
      cases hpp : pre ops i j
      · rfl
      · have hj' : j < ops.size := by rw [← hI.size]; exact getD_lt hj
        have := closed_pre hok hI.closed (j + 1) j (by omega) ops[j] (by simp [hj']) (hI.closed j ops[j] (by simp [hj']) hj) i hlt hpp
        rw [hnl] at this; cases this
    have hag : Agree (o.looksAt ops) (lex ops a0 u i) b := by rw [hI.frame]; exact ready_agree hok ho hnl hI.closed hedge
    have hex := exec_agree hag (hok.sel i o ho)
    have hwa := wanted_agree (o := o) hag
    have hclosed' : ∀ (k : Nat) (p : Oper), ops[k]? = some p → (listed.setIfInBounds i true).getD k false = true → ∀ e ∈ p.after, Region.binds .any e = true → (listed.setIfInBounds i true).getD e.on false = true := by
      intro k p hp hk e he hb
      rw [getD_set hs] at hk ⊢
      by_cases e1 : e.on = i
      · rw [if_pos e1]
      · rw [if_neg e1]
        by_cases e2 : k = i
        · subst e2; rw [ho] at hp; cases hp; exact hedge e he hb
        · rw [if_neg e2] at hk; exact hI.closed k p hp hk e he hb
    have hput : ∀ (u' : Nat → Value), (∀ j, listed.getD j false = true → u' j = u j) → b.put o.dst (u' i) = fill u' (fun j => (listed.setIfInBounds i true).getD j false) ops.toList 0 a0 := fun u' hu' => by
      have e1 : b = fill u' (fun j => listed.getD j false) ops.toList 0 a0 := by
        rw [hI.frame]; exact fill_congr _ 0 _ fun j _ _ => ⟨rfl, fun hj => (hu' j hj).symm⟩
      rw [e1]
      refine (fill_put (i := i) (o := o) hnl (by rw [getD_set hs, if_pos rfl]) (fun j hj => by rw [getD_set hs, if_neg hj]) _ 0 _ (Nat.zero_le _) (by simpa using ho) (fun j p hp hne t ht => ?_)).symm
      exact hok.dst i o j p ho (by simpa using hp) (by omega) t ht
    -- a read has come up
    have nextR : lo i = false → wpAny P .any ops Q' fuel (listed.setIfInBounds i true) (b.put o.dst (u i)) w := fun hlo => by
      refine ih _ _ _ k u ⟨by simp [hI.size], hclosed', hI.good.mono (fun b ⟨q, hq, ht⟩ => ⟨q, (by rw [getD_set hs]; split <;> first | rfl | exact hq), ht⟩), hput u (fun _ _ => rfl), fun j hj hl => ?_, fun j hj hjs h1 h2 => ?_, hI.stab, hI.seg, hI.next, hI.fin⟩ hcount
      · rw [getD_set hs, if_neg (fun e => by subst e; rw [hlo] at hl; cases hl)]
        exact hI.loudk j hj hl
      · rw [getD_set hs]
        split
        · rfl
        · exact hI.below j hj hjs h1 h2
    -- a loud one has come up (or is passed over)
    have nextL : lo i = true → ∀ (v : Value) (w' : World), KeepsP (T i) w w' → cwalk P ops lo st T w0 Q (ops.toList.drop (i + 1)) (i + 1) ((lex ops a0 u i).put o.dst v) w' → k ≤ i → (∀ l, k ≤ l → l < i → lo l = false) →
        wpAny P .any ops Q' fuel (listed.setIfInBounds i true) (b.put o.dst v) w' := fun hlo v w' hkw hcw hki hno => by
      have hgood' : KeepsP (fun b => ∃ j, (listed.setIfInBounds i true).getD j false = true ∧ T j b) w0 w' := (hI.good.mono (fun b ⟨q, hq, ht⟩ => ⟨q, (by rw [getD_set hs]; split <;> first | rfl | exact hq), ht⟩)).trans (hkw.mono (fun b hb => ⟨i, (by rw [getD_set hs, if_pos rfl]), hb⟩))
      have hlex : ∀ c, lex ops a0 (fun j => if j = i then c else u j) i = lex ops a0 u i := fun c => lex_congr fun j hj => by simp; intro e; omega
      have hsucc : lex ops a0 (fun j => if j = i then v else u j) (i + 1) = (lex ops a0 u i).put o.dst v := by rw [lex_succ hok _ i o ho, hlex]; simp
      obtain ⟨u', e1, e2, e3, e4, e5⟩ := unroll (P := P) (lo := lo) (st := st) (T := T) (w0 := w0) (Q := Q) (a0 := a0) hok _ (i + 1) (fun j => if j = i then v else u j) w' rfl (by rw [hsucc]; exact hcw)
      have hlow : ∀ j, j < i → u' j = u j := fun j hj => by rw [e1 j (by omega)]; simp; intro e; omega
      have hui : u' i = v := by rw [e1 i (by omega)]; simp
      have hsteady : ∀ j, i < j → listed.getD j false = true → lo j = false ∧ st j = true := fun j hj hl => by
        have hjs : j < ops.size := by rw [← hI.size]; exact getD_lt hl
        have hp := hprej j hl
        cases hlj : lo j
        · refine ⟨rfl, ?_⟩
          cases hsj : st j
          · have := hch.lr i j hj hjs hlo hlj hsj
            rw [hp] at this; cases this
          · rfl
        · have := hch.ll i j hj hjs hlo hlj
          rw [hp] at this; cases this
      have hsame : ∀ j, listed.getD j false = true → u' j = u j := fun j hj =>
        same_vals (P := P) (T := T) (w0 := w0) (a0 := a0) hok hnl hI.size hI.closed hlow (fun j hj hl => by
          obtain ⟨a, b⟩ := hsteady j hj hl
          exact ⟨hI.stab j a b, e2 j (by omega) a b⟩) (j + 1) j (by omega) hj
      have hfr := hput u' hsame
      rw [hui] at hfr
      refine ih _ _ _ (i + 1) u' ⟨by simp [hI.size], hclosed', hgood', hfr, fun j hj hl => ?_, fun j hj hjs h1 h2 => ?_, fun j h1 h2 => ?_, e3, e4, e5⟩ hcount
      · rw [getD_set hs]
        by_cases e : j = i
        · subst e; simp
        · rw [if_neg e, hI.loudk j hj hl]
          constructor
          · intro h; omega
          · intro h
            rcases Nat.lt_or_ge j k with h9 | h9
            · exact h9
            · have := hno j h9 (by omega)
              rw [hl] at this; cases this
      · rw [getD_set hs]
        by_cases e : j = i
        · rw [if_pos e]
        · rw [if_neg e]
          exact hpre j hjs (hch.rl j i (by omega) hlt h1 h2 hlo)
      · by_cases hj : j < i
        · exact OKs_congr (fun q hq => (hlow q (by omega)).symm) (hI.stab j h1 h2)
        · exact e2 j (by
            rcases Nat.lt_or_ge i j with e | e
            · omega
            · have e' : j = i := by omega
              rw [e', hlo] at h1; cases h1) h1 h2
    unfold wpOp
    simp only [ho]
    by_cases hlo : lo i = true
    · -- loud
      have hki : k ≤ i := by
        rcases Nat.lt_or_ge i k with h9 | h9
        · have := (hI.loudk i hlt hlo).2 h9
          rw [hnl] at this; cases this
        · exact h9
      have hno : ∀ l, k ≤ l → l < i → lo l = false := fun l h9 h10 => by
        cases hl : lo l
        · rfl
        · have h11 := hpre l (by omega) (hch.ll l i h10 hlt hl hlo)
          have := (hI.loudk l (by omega) hl).1 h11
          omega
      have hcw := hI.next i hlt hki hlo hno
      have hdrop : ops.toList.drop i = o :: ops.toList.drop (i + 1) := by
        rw [List.drop_eq_getElem_cons (by simpa using hlt)]
        have := (Array.getElem?_eq_some_iff.1 ho).2
        simp [this]
      rw [hdrop] at hcw
      unfold cwalk at hcw
      rw [hwa] at hcw
      by_cases hwant : Region.wanted o (yielded ops b.tmps) = true
      · rw [if_pos hwant]
        rw [if_pos hwant, if_pos hlo] at hcw
        exact .inl (wp_moved hcw (fun _ _ hh => hh.1) hex.symm fun v w' hh => nextL hlo v w' hh.2.1 hh.2.2 hki hno)
      · rw [if_neg hwant]
        rw [if_neg hwant] at hcw
        exact nextL hlo undef w (KeepsP.refl _ _) hcw hki hno
    · have hlo' : lo i = false := by simpa using hlo
      by_cases hst : st i = true
      · have hq := hI.stab i hlo' hst o ho
        rw [hwa] at hq
        by_cases hwant : Region.wanted o (yielded ops b.tmps) = true
        · rw [if_pos hwant]
          rw [if_pos hwant] at hq
          have hcl : KeepsP (sx ops T i) w0 w := hI.good.mono (fun b ⟨q, hq9, ht⟩ => ⟨q, (fun e => by rw [e, hnl] at hq9; cases hq9), hprej q hq9, ht⟩)
          exact .inl (wp_of_quiet (hq w hcl) hex.symm (nextR hlo'))
        · rw [if_neg hwant]
          rw [if_neg hwant] at hq
          rw [← hq]; exact nextR hlo'
      · have hst' : st i = false := by simpa using hst
        have hki : k ≤ i := by
          rcases Nat.lt_or_ge i k with h9 | h9
          · have := hI.below i h9 hlt hlo' hst'
            rw [hnl] at this; cases this
          · exact h9
        have hno : ∀ l, k ≤ l → l ≤ i → lo l = false := fun l h9 h10 => by
          cases hl : lo l
          · rfl
          · have hli : l < i := by
              rcases Nat.lt_or_ge l i with e | e
              · exact e
              · have : l = i := by omega
                subst this; rw [hlo'] at hl; cases hl
            have h11 := hpre l (by omega) (hch.lr l i hli hlt hl hlo' hst')
            have := (hI.loudk l (by omega) hl).1 h11
            omega
        have hq := hI.seg i hki hno hst' o ho
        rw [hwa] at hq
        by_cases hwant : Region.wanted o (yielded ops b.tmps) = true
        · rw [if_pos hwant]
          rw [if_pos hwant] at hq
          exact .inl (wp_of_quiet hq hex.symm (nextR hlo'))
        · rw [if_neg hwant]
          rw [if_neg hwant] at hq
          rw [← hq]; exact nextR hlo'

theorem wp_region_chain {id : Nat} {l : List Oper} {a : Act} {w : World} {Q' : Exit → Act → World → Prop} (lo st : Nat → Bool) (T : Nat → Nat → Prop) (hm : P.follows .mixedOrders = true) (hB : okB l.toArray = true) (hC : chainB l.toArray lo st = true)
    (h : cwalk P l.toArray lo st T w.drew (fun a' w' => Q' .normal a' w') l 0 a w.drew) : (Code.region id l.toArray true).wp P Q' a w := by
  refine wp_region_any hm ?_
  have hok := ok_of hB
  have hch := chain_of hC
  have hlex0 : ∀ u, lex l.toArray a u 0 = a := fun u => (fill_congr (v' := u) (S' := fun _ => false) _ 0 _ (fun j _ _ => ⟨by simp, fun _ => rfl⟩)).trans (fill_none _ 0 _)
  obtain ⟨u, _, e2, e3, e4, e5⟩ := unroll (P := P) (lo := lo) (st := st) (T := T) (w0 := w.drew) (Q := fun a' w' => Q' .normal a' w') (a0 := a) hok l 0 (fun _ => undef) w.drew (by simp) (by rw [hlex0]; exact h)
  have hno : ∀ j, (Array.replicate l.toArray.size false).getD j false = false := fun j => by
    simp only [Array.getD_eq_getD_getElem?, Array.getElem?_replicate]
    split <;> rfl
  refine chain_any (Q := fun a' w' => Q' .normal a' w') (a0 := a) hok hch (fun _ _ h => h) _ _ _ _ 0 u ⟨by simp, fun i o _ hi => ?_, KeepsP.refl _ _, ?_, fun j _ _ => ?_, fun j hj => by omega, fun j h1 h2 => e2 j (by omega) h1 h2, e3, e4, e5⟩ ?_
  · rw [hno] at hi; cases hi
  · refine ((fill_congr (v' := u) (S' := fun _ => false) _ 0 _ (fun j _ _ => ⟨by simp only [hno], fun _ => rfl⟩)).trans (fill_none _ 0 _)).symm
  · rw [hno]; simp
  · unfold count
    rw [List.countP_eq_length.2 (fun i hi => ?_)]
    · simp
    · rw [hno]; rfl

variable {P : Program} {ops : Array Oper} {lo st : Nat → Bool} {T : Nat → Nat → Prop} {w0 : World} {Q : Act → World → Prop}
theorem cw_nil {a : Act} {w : World} (h : Q a w) {i : Nat} : cwalk P ops lo st T w0 Q [] i a w := h
theorem cw_skip {o : Oper} {r : List Oper} {i : Nat} {a : Act} {w : World} (hw : Region.wanted o (yielded ops a.tmps) = false)
    (h : cwalk P ops lo st T w0 Q r (i + 1) (a.put o.dst undef) w) : cwalk P ops lo st T w0 Q (o :: r) i a w := by
  unfold cwalk
  rw [if_neg (by rw [hw]; simp)]
  exact h
/-- An operation that reads what the loud ones that may come up before it leave alone. -/
theorem cw_steady {o : Oper} {r : List Oper} {i : Nat} {a : Act} {w : World} {c : Value} (hg : o.guard = none) (hlo : lo i = false) (hst : st i = true)
    (hq : ∀ w', KeepsP (sx ops T i) w0 w' → Quiet P o a w' c) (h : cwalk P ops lo st T w0 Q r (i + 1) (a.put o.dst c) w) : cwalk P ops lo st T w0 Q (o :: r) i a w := by
  unfold cwalk
  rw [if_pos (by simp [Region.wanted, hg]), if_neg (by rw [hlo]; simp), if_pos hst]
  exact ⟨c, hq, h⟩
/-- .. whatever the loud ones do. -/
theorem cw_pure {o : Oper} {r : List Oper} {i : Nat} {a : Act} {w : World} {c : Value} (hg : o.guard = none) (hlo : lo i = false)
    (hq : ∀ w', Quiet P o a w' c) (h : cwalk P ops lo st T w0 Q r (i + 1) (a.put o.dst c) w) : cwalk P ops lo st T w0 Q (o :: r) i a w := by
  unfold cwalk
  rw [if_pos (by simp [Region.wanted, hg]), if_neg (by rw [hlo]; simp)]
  split
  · exact ⟨c, fun w' _ => hq w', h⟩
  · exact ⟨c, hq w, h⟩
/-- The cells that an operation may count on. -/
theorem sx_cell {i b off : Nat} {v : Value} {w' : World} (hk : KeepsP (sx ops T i) w0 w') (hc : w0.cell? ⟨b, off, none⟩ = some v) (hT : ∀ j, pre ops i j = false → ¬ T j b) : w'.cell? ⟨b, off, none⟩ = some v :=
  (hk.cell b off (lt_of_cell hc) (fun ⟨j, _, h1, h2⟩ => hT j h1 h2)).trans hc
/-- A loud operation, walked by the walk's own words. -/
theorem cw_loud {o : Oper} {r : List Oper} {i : Nat} {a : Act} {w : World} (hg : o.guard = none) (hlo : lo i = true)
    (h : ∀ K : Act → World → Prop, (∀ a' w', a'.defers = a.defers → KeepsP (T i) w w' → cwalk P ops lo st T w0 Q r (i + 1) a' w' → K a' w') → o.wp P a w K (fun _ _ _ => False)) : cwalk P ops lo st T w0 Q (o :: r) i a w := by
  unfold cwalk
  rw [if_pos (by simp [Region.wanted, hg]), if_pos hlo]
  exact h _ fun a' w' h1 h2 h3 => ⟨h1, h2, h3⟩
attribute [irreducible] cwalk
end
end Free
end Go.Proofs.YtiplgpefapeapaaGreat

namespace Go.Proofs.YtiplgpefapeapaaGreat
namespace Free
open Go Go.RowKit
variable {P : Program} {ops : Array Oper} {lo st : Nat → Bool} {T : Nat → Nat → Prop} {w0 : World} {Q : Act → World → Prop}
theorem cw_pureW {o : Oper} {r : List Oper} {i : Nat} {a : Act} {w : World} {c : Value} (hg : Region.wanted o (yielded ops a.tmps) = true) (hlo : lo i = false)
    (hq : ∀ w', Quiet P o a w' c) (h : cwalk P ops lo st T w0 Q r (i + 1) (a.put o.dst c) w) : cwalk P ops lo st T w0 Q (o :: r) i a w := by
  unfold cwalk
  rw [if_pos hg, if_neg (by rw [hlo]; simp)]
  split
  · exact ⟨c, fun w' _ => hq w', h⟩
  · exact ⟨c, hq w, h⟩
theorem cw_steadyW {o : Oper} {r : List Oper} {i : Nat} {a : Act} {w : World} {c : Value} (hg : Region.wanted o (yielded ops a.tmps) = true) (hlo : lo i = false) (hst : st i = true)
    (hq : ∀ w', KeepsP (sx ops T i) w0 w' → Quiet P o a w' c) (h : cwalk P ops lo st T w0 Q r (i + 1) (a.put o.dst c) w) : cwalk P ops lo st T w0 Q (o :: r) i a w := by
  unfold cwalk
  rw [if_pos hg, if_neg (by rw [hlo]; simp), if_pos hst]
  exact ⟨c, hq, h⟩
theorem cw_loudW {o : Oper} {r : List Oper} {i : Nat} {a : Act} {w : World} (hg : Region.wanted o (yielded ops a.tmps) = true) (hlo : lo i = true)
    (h : ∀ K : Act → World → Prop, (∀ a' w', a'.defers = a.defers → KeepsP (T i) w w' → cwalk P ops lo st T w0 Q r (i + 1) a' w' → K a' w') → o.wp P a w K (fun _ _ _ => False)) : cwalk P ops lo st T w0 Q (o :: r) i a w := by
  unfold cwalk
  rw [if_pos hg, if_pos hlo]
  exact h _ fun a' w' h1 h2 h3 => ⟨h1, h2, h3⟩
end Free
end Go.Proofs.YtiplgpefapeapaaGreat

namespace Go.Proofs.YtiplgpefapeapaaGreat
open Go.RowKit

/-- A reader's state: what is left, and the error. -/
abbrev RS := List UInt8 × Int
def rU (s : RS) : Nat × RS := if s.2 = 0 then (match readU s.1 with | some (x, r) => (x, (r, 0)) | none => (0, ([], 11))) else (0, s)
def readB : List UInt8 → Option (Bool × List UInt8)
  | [] => none
  | k :: t => if k.toNat ≤ 1 then some (k.toNat == 1, t) else none
def rB (s : RS) : Bool × RS := if s.2 = 0 then (match readB s.1 with | some (x, r) => (x, (r, 0)) | none => (false, ([], 11))) else (false, s)
/-- The reader in memory, in a state. -/
def RdS (w : World) (br : Nat) (s : RS) : Prop := ∃ v, Rd w br v s.1 s.2
theorem RdS.keeps {w w' : World} {br : Nat} {s : RS} (h : RdS w br s) (hk : Keeps [] w w') : RdS w' br s := by obtain ⟨v, h⟩ := h; exact ⟨v, h.keeps hk⟩
theorem RdS.lt {w : World} {br : Nat} {s : RS} (h : RdS w br s) : br < w.heap.size := by obtain ⟨v, h⟩ := h; exact (cell2_of h.1).2.2.2.2
set_option maxRecDepth 100000 in
set_option maxHeartbeats 2000000 in
theorem uint_err (w : World) (br : Nat) (v : Value) (l : List UInt8) (e : Int) (h : Rd w br v l e) (he : e ≠ 0) :
    Calls Tryz.prog 27 #[.pointer (some ⟨br, 0, none⟩)] w fun en w' => en = .returned (.int .u64 0) ∧ Keeps [] w w' := by
  obtain ⟨c0, c1, f0, f1, hlt⟩ := cell2_of h.1
  have hne : ¬ w.heap.size = br := by omega
  have hne2 : ¬ w.heap.size + 1 = br := by omega
  have he2 : (e == 0) = false := by simp [he]
  obtain ⟨a0, cp0, rfl⟩ := h.2.form
  have hkA : Keeps [] w ((w.alloc (.cells #[.pointer (some ⟨br, 0, none⟩)] 57)).alloc (.cells #[.int .u64 0] 26)) := ((Keeps.refl [] w).alloc _).alloc _
  clear h c0 he
  go_enter Tryz.func27, Tryz.ntmps27
  go_wp2_with (first | go_in)
  go_ret
  exact ⟨rfl, hkA⟩
theorem uintS_c (w : World) (br : Nat) (s : RS) (h : RdS w br s) :
    Calls Tryz.prog 27 #[.pointer (some ⟨br, 0, none⟩)] w fun en w' => en = .returned (.int .u64 (rU s).1) ∧ RdS w' br (rU s).2 ∧ Keeps [br] w w' := by
  obtain ⟨l, e⟩ := s
  obtain ⟨v, h⟩ := h
  by_cases he : e = 0
  · subst he
    refine (uint_c w br v l h).mono fun en w' ⟨h1, h2, h3⟩ => ?_
    have : rU (l, 0) = ((rdU l).1, ((rdU l).2.1, (rdU l).2.2)) := by
      cases hx : readU l with
      | none => simp [rU, rdU, hx]
      | some p => obtain ⟨x, r⟩ := p; simp [rU, rdU, hx]
    rw [this]
    exact ⟨h1, h2, h3⟩
  · refine (uint_err w br v l e h he).mono fun en w' ⟨h1, h2⟩ => ?_
    rw [show rU (l, e) = (0, (l, e)) by unfold rU; rw [if_neg he]]
    exact ⟨h1, ⟨v, h.keeps h2⟩, h2.of_nil⟩
theorem two_boxesB (w : World) (p : Value) : ((w.alloc (.cells #[p] 57)).alloc (.cells #[.bool false] 4)).heap[w.heap.size + 1]? = some (.cells #[.bool false] 4 (0, 0)) := by
  have := heap_alloc_new (w.alloc (.cells #[p] 57)) (.cells #[.bool false] 4)
  simpa using this
set_option maxRecDepth 100000 in
set_option maxHeartbeats 2000000 in
theorem bool1_bad (w : World) (br b1 b2 : Nat) (v : Value) (l : List UInt8) (h : Rd w br v l 0) (h1 : w.cell? ⟨b1, 0, none⟩ = some (.pointer (some ⟨br, 0, none⟩))) (hr : readB l = none) :
    Calls Tryz.prog 80 #[.pointer (some ⟨b1, 0, none⟩), .pointer (some ⟨b2, 0, none⟩)] w fun en w' => en = .returned (.int .i64 11) ∧ Keeps [] w w' := by
  obtain ⟨c0, c1, f0, f1, hlt⟩ := cell2_of h.1
  rcases h.2.cases with ⟨rfl, a, cp, rfl, _, _⟩ | ⟨g, o, cp, rfl, hn, hm, hp, hg, hc⟩
  · clear h hr
    go_enter Tryz.func80, Tryz.ntmps80
    go_wp2
    go_ret
    exact ⟨rfl, Keeps.refl _ _⟩
  · obtain ⟨k, t, rfl⟩ : ∃ k t, l = k :: t := by cases l with | nil => simp at hp | cons k t => exact ⟨k, t, rfl⟩
    have k0 := hc 0 (by simp)
    simp only [Nat.add_zero, List.getElem_cons_zero] at k0
    have hk1 : 1 < k.toNat := by
      rcases Nat.lt_or_ge 1 k.toNat with e | e
      · exact e
      · rw [readB, if_pos e] at hr; cases hr
    clear h hc hp hr
    have hk := k.toNat_lt
    simp only [List.length_cons] at *
    generalize k.toNat = kk at *
    generalize t.length = N at *
    have hNN : (N : Int) + 1 ≤ 9223372036854775807 := by unfold maxLen at hm; omega
    have nz : ((N : Int) + 1 == 0) = false := by simp; omega
    have d1 : (1 : Int) < (kk : Int) := by omega
    go_enter Tryz.func80, Tryz.ntmps80
    go_wp2
    go_ret
    exact ⟨rfl, Keeps.refl _ _⟩
set_option maxRecDepth 100000 in
set_option maxHeartbeats 2000000 in
theorem bool1_ok (w : World) (br b1 b2 : Nat) (v : Value) (l rest : List UInt8) (x : Bool) (h : Rd w br v l 0) (h1 : w.cell? ⟨b1, 0, none⟩ = some (.pointer (some ⟨br, 0, none⟩))) (h2 : w.heap[b2]? = some (.cells #[.bool false] 4 (0, 0)))
    (hne : b1 ≠ b2 ∧ br ≠ b2 ∧ b1 ≠ br) (hr : readB l = some (x, rest)) :
    Calls Tryz.prog 80 #[.pointer (some ⟨b1, 0, none⟩), .pointer (some ⟨b2, 0, none⟩)] w fun en w' => en = .returned (.int .i64 0) ∧ w'.heap[b2]? = some (.cells #[.bool x] 4 (0, 0)) ∧ (∃ v', Rd w' br v' rest 0) ∧ Keeps [br, b2] w w' := by
  obtain ⟨c0, c1, f0, f1, hlt⟩ := cell2_of h.1
  obtain ⟨e0, fe0, hlt2⟩ := cell1_of h2
  rcases h.2.cases with ⟨rfl, a, cp, rfl, _, _⟩ | ⟨g, o, cp, rfl, hn, hm, hp, hg, hc⟩
  · cases hr
  · obtain ⟨k, t, rfl⟩ : ∃ k t, l = k :: t := by cases l with | nil => simp at hp | cons k t => exact ⟨k, t, rfl⟩
    have k0 := hc 0 (by simp)
    simp only [Nat.add_zero, List.getElem_cons_zero] at k0
    have hgb : g ≠ b2 := fun e => by subst e; exact no_byte h2 (by simp) _ _ k0
    have hgr : g ≠ br := fun e => by subst e; exact no_byte h.1 (by simp) _ _ k0
    have hk1 : k.toNat ≤ 1 := by
      rcases Nat.lt_or_ge 1 k.toNat with e | e
      · rw [readB, if_neg (by omega)] at hr; cases hr
      · exact e
    rw [readB, if_pos hk1] at hr
    simp only [Option.some.injEq, Prod.mk.injEq] at hr
    obtain ⟨hx, rfl⟩ := hr
    have htl := SlV.tail h.2 1 (by simp)
    simp only [List.length_cons, List.drop_succ_cons, List.drop_zero, Nat.add_sub_cancel] at htl
    simp only [List.length_cons] at *
    have hh := Lib.hid h
    have hh2 := Lib.hid h2
    clear h h2 hc hp
    generalize hkk : k.toNat = kk at *
    obtain ⟨N, hNt⟩ : ∃ N, t.length = N := ⟨_, rfl⟩
    rw [hNt] at hn c0 htl
    have hhN : Hid (Rd w br (.slice (some ⟨g, o, none⟩) (N + 1) cp) (k :: t) 0) := by rw [← hNt]; exact hh
    clear hNt hh
    have hNN : (N : Int) + 1 ≤ 9223372036854775807 := by unfold maxLen at hm; omega
    have nz : ((N : Int) + 1 == 0) = false := by simp; omega
    have d1 : decide ((1 : Int) < (kk : Int)) = false := by simp; omega
    have h1N : (1 : Int) ≤ (N : Int) + 1 := by omega
    have hxx : ((kk : Int) == 1) = x := by rw [← hx, Bool.eq_iff_iff]; simp; omega
    obtain ⟨vt, hvt⟩ : ∃ vt, (if cp = 1 then some (⟨g, o, none⟩ : Addr) else some ⟨g, o + 1, none⟩) = vt := ⟨_, rfl⟩
    rw [hvt] at htl
    replace htl := Lib.hid htl
    replace hvt := Lib.hid hvt
    replace hkk := Lib.hid hkk
    clear hx
    go_enter Tryz.func80, Tryz.ntmps80
    go_wp2
    refine Free.wp_region_chain (fun i => i == 13 || i == 16) (fun i => true) (fun j b => (j = 13 ∧ b = b2) ∨ (j = 16 ∧ b = br)) (by kernel_rfl) (by kernel_rfl) (by kernel_rfl) ?_
    (repeat (first | (apply Free.cw_pure rfl rfl; (intro w'; go_simp <;> exact rfl); go_frame) | (apply Free.cw_steady rfl rfl rfl; (intro w' hS; have q0 := Free.sx_cell hS h1 (fun _ _ hT => Or.elim hT (fun h => hne.1 h.2) (fun h => hne.2.2 h.2)); have q1 := Free.sx_cell hS k0 (fun _ _ hT => Or.elim hT (fun h => hgb h.2) (fun h => hgr h.2)); have q2 := Free.sx_cell hS c0 (fun j hp hT => Or.elim hT (fun h => hne.2.1 h.2) (fun h => by obtain ⟨rfl, _⟩ := h; exact absurd hp (by decide +kernel))); go_simp <;> exact rfl); go_frame) | (refine Free.cw_skip rfl ?_; go_frame)))
    clear hxx d1 nz hk1
    rw [hvt.out]
    refine Free.cw_loud rfl rfl (fun K hK => ?_)
    go_wp2
    refine hK _ _ rfl (Free.KeepsP.setCell _ (.inl ⟨trivial, rfl⟩) _) ?_
    clear hK K
    (repeat (first | (apply Free.cw_pure rfl rfl; (intro w'; go_simp <;> exact rfl); go_frame) | (apply Free.cw_steady rfl rfl rfl; (intro w' hS; have q0 := Free.sx_cell hS h1 (fun _ _ hT => Or.elim hT (fun h => hne.1 h.2) (fun h => hne.2.2 h.2)); have q1 := Free.sx_cell hS k0 (fun _ _ hT => Or.elim hT (fun h => hgb h.2) (fun h => hgr h.2)); have q2 := Free.sx_cell hS c0 (fun j hp hT => Or.elim hT (fun h => hne.2.1 h.2) (fun h => by obtain ⟨rfl, _⟩ := h; exact absurd hp (by decide +kernel))); go_simp <;> exact rfl); go_frame) | (refine Free.cw_skip rfl ?_; go_frame)))
    refine Free.cw_loud rfl rfl (fun K hK => ?_)
    go_wp2
    refine hK _ _ rfl (Free.KeepsP.setCell _ (.inr ⟨trivial, rfl⟩) _) ?_
    clear hK K
    (repeat (first | (apply Free.cw_pure rfl rfl; (intro w'; go_simp <;> exact rfl); go_frame) | (apply Free.cw_steady rfl rfl rfl; (intro w' hS; have q0 := Free.sx_cell hS h1 (fun _ _ hT => Or.elim hT (fun h => hne.1 h.2) (fun h => hne.2.2 h.2)); go_simp <;> exact rfl); go_frame) | (refine Free.cw_skip rfl ?_; go_frame)))
    refine Free.cw_nil ?_
    go_wp2
    go_ret
    have hbr1 : (w.setCell ⟨b2, 0, none⟩ (.bool x)).heap[br]? = some (.cells #[.slice (some ⟨g, o, none⟩) (N + 1) cp, .int .i64 0] 126 (0, 0)) := (Below.heap_setCell _ _ _ _ (by simp; omega)).trans hhN.out.1
    have hb21 : (w.setCell ⟨b2, 0, none⟩ (.bool x)).heap[b2]? = some (.cells #[.bool x] 4 (0, 0)) := one_setCell hh2.out
    refine ⟨rfl, (Below.heap_setCell _ _ _ _ (by simp; omega)).trans hb21, ⟨_, set2_0 hbr1 _, htl.out.kv ((KV.setCell w _ e0 (by simp)).trans ((KV.setCell _ _ (cell2_of hbr1).1 (by simp)).trans (KV.drew _)))⟩, (((Keeps.refl _ w).setCell (.inr (by simp)) _).setCell (.inr (by simp)) _).drew⟩
set_option maxRecDepth 100000 in
set_option maxHeartbeats 2000000 in
theorem bool_ok (w : World) (br : Nat) (v : Value) (l rest : List UInt8) (x : Bool) (h : Rd w br v l 0) (hr : readB l = some (x, rest)) :
    Calls Tryz.prog 30 #[.pointer (some ⟨br, 0, none⟩)] w fun en w' => en = .returned (.bool x) ∧ (∃ v', Rd w' br v' rest 0) ∧ Keeps [br] w w' := by
  obtain ⟨c0, c1, f0, f1, hlt⟩ := cell2_of h.1
  have hne : ¬ w.heap.size = br := by omega
  have hne2 : ¬ w.heap.size + 1 = br := by omega
  obtain ⟨a0, cp0, rfl⟩ := h.2.form
  have hkA : Keeps [] w ((w.alloc (.cells #[.pointer (some ⟨br, 0, none⟩)] 57)).alloc (.cells #[.bool false] 4)) := ((Keeps.refl [] w).alloc _).alloc _
  have hc := bool1_ok _ br w.heap.size (w.heap.size + 1) _ l rest x (h.keeps hkA) (by simp) (two_boxesB w _) ⟨by omega, by omega, by omega⟩ hr
  replace h := Lib.hid h
  replace hkA := Lib.hid hkA
  replace hc := Lib.hid hc
  replace hr := Lib.hid hr
  clear c0
  go_enter Tryz.func30, Tryz.ntmps30
  go_wp2_with (first
    | (go_at_call 80; refine hc.out.mono ?_; rintro e w3 ⟨rfl, hb2, ⟨v3, hR3⟩, hk3⟩; obtain ⟨d0, d1, g0, g1, hlt3⟩ := cell2_of hR3.1; obtain ⟨e0, _, hlt4⟩ := cell1_of hb2; have hk4 := Lib.hid hk3; have hR4 := Lib.hid hR3; clear hk3 hR3 hb2)
    | go_in)
  go_ret
  exact ⟨rfl, ⟨v3, rd_set_ok hR4.out 0⟩, (hkA.out.of_nil.trans' hk4.out (by simp)).setCell (.inr (by simp)) _⟩
set_option maxRecDepth 100000 in
set_option maxHeartbeats 2000000 in
theorem bool_bad (w : World) (br : Nat) (v : Value) (l : List UInt8) (h : Rd w br v l 0) (hr : readB l = none) :
    Calls Tryz.prog 30 #[.pointer (some ⟨br, 0, none⟩)] w fun en w' => en = .returned (.bool false) ∧ Rd w' br (.slice none 0 0) [] 11 ∧ Keeps [br] w w' := by
  obtain ⟨c0, c1, f0, f1, hlt⟩ := cell2_of h.1
  have hne : ¬ w.heap.size = br := by omega
  have hne2 : ¬ w.heap.size + 1 = br := by omega
  obtain ⟨a0, cp0, rfl⟩ := h.2.form
  have hkA : Keeps [] w ((w.alloc (.cells #[.pointer (some ⟨br, 0, none⟩)] 57)).alloc (.cells #[.bool false] 4)) := ((Keeps.refl [] w).alloc _).alloc _
  have hc := bool1_bad _ br w.heap.size (w.heap.size + 1) _ l (h.keeps hkA) (by simp) hr
  have h2 := two_boxesB w (.pointer (some ⟨br, 0, none⟩))
  replace h2 := Lib.hid h2
  replace h := Lib.hid h
  replace hkA := Lib.hid hkA
  replace hc := Lib.hid hc
  replace hr := Lib.hid hr
  clear c0
  go_enter Tryz.func30, Tryz.ntmps30
  go_wp2_with (first
    | (go_at_call 80; refine hc.out.mono ?_; rintro e w3 ⟨rfl, hk3⟩; have hR3 := (h.out.keeps hkA.out).keeps hk3; obtain ⟨d0, d1, g0, g1, hlt3⟩ := cell2_of hR3.1; have hk4 := Lib.hid hk3; have hR4 := Lib.hid hR3; have h22 := Lib.hid ((hk3.block _ (by simp) (by simp)).trans h2.out); obtain ⟨e0, _, hlt4⟩ := cell1_of h22.out; clear hk3 hR3)
    | go_in)
  go_ret
  exact ⟨rfl, rd_set_bad hR4.out 11, (((hkA.out.trans hk4.out).of_nil).setCell (.inr (by simp)) _).setCell (.inr (by simp)) _⟩
set_option maxRecDepth 100000 in
set_option maxHeartbeats 2000000 in
theorem bool_err (w : World) (br : Nat) (v : Value) (l : List UInt8) (e : Int) (h : Rd w br v l e) (he : e ≠ 0) :
    Calls Tryz.prog 30 #[.pointer (some ⟨br, 0, none⟩)] w fun en w' => en = .returned (.bool false) ∧ Keeps [] w w' := by
  obtain ⟨c0, c1, f0, f1, hlt⟩ := cell2_of h.1
  have hne : ¬ w.heap.size = br := by omega
  have hne2 : ¬ w.heap.size + 1 = br := by omega
  have he2 : (e == 0) = false := by simp [he]
  obtain ⟨a0, cp0, rfl⟩ := h.2.form
  have hkA : Keeps [] w ((w.alloc (.cells #[.pointer (some ⟨br, 0, none⟩)] 57)).alloc (.cells #[.bool false] 4)) := ((Keeps.refl [] w).alloc _).alloc _
  clear h c0 he
  go_enter Tryz.func30, Tryz.ntmps30
  go_wp2_with (first | go_in)
  go_ret
  exact ⟨rfl, hkA⟩
theorem boolS_c (w : World) (br : Nat) (s : RS) (h : RdS w br s) :
    Calls Tryz.prog 30 #[.pointer (some ⟨br, 0, none⟩)] w fun en w' => en = .returned (.bool (rB s).1) ∧ RdS w' br (rB s).2 ∧ Keeps [br] w w' := by
  obtain ⟨l, e⟩ := s
  obtain ⟨v, h⟩ := h
  by_cases he : e = 0
  · subst he
    cases hr : readB l with
    | none =>
      rw [show rB (l, 0) = (false, ([], 11)) by unfold rB; rw [if_pos rfl]; simp only [hr]]
      exact (bool_bad w br v l h hr).mono fun _ _ ⟨h1, h2, h3⟩ => ⟨h1, ⟨_, h2⟩, h3⟩
    | some p =>
      obtain ⟨x, r⟩ := p
      rw [show rB (l, 0) = (x, (r, 0)) by unfold rB; rw [if_pos rfl]; simp only [hr]]
      exact bool_ok w br v l r x h hr
  · refine (bool_err w br v l e h he).mono fun en w' ⟨h1, h2⟩ => ?_
    rw [show rB (l, e) = (false, (l, e)) by unfold rB; rw [if_neg he]]
    exact ⟨h1, ⟨v, h.keeps h2⟩, h2.of_nil⟩
end Go.Proofs.YtiplgpefapeapaaGreat

namespace Go.Proofs.YtiplgpefapeapaaGreat
open Go.RowKit

def cEK (K n : Nat) (l : List UInt8) : Int := if K < n then 8 else if l.length < n then 11 else 0
def rCK (K : Nat) (l : List UInt8) : Nat × RS := match readU l with | some (n, r) => if cEK K n r = 0 then (n, (r, 0)) else (0, ([], cEK K n r)) | none => (0, ([], 11))
theorem rCK_le (K : Nat) (l : List UInt8) : (rCK K l).1 ≤ K := by
  unfold rCK
  split
  · rename_i n r _
    split
    · rename_i h
      unfold cEK at h
      split at h
      · cases h
      · show n ≤ K
        omega
    · simp
  · simp
set_option maxRecDepth 100000 in
set_option maxHeartbeats 2000000 in
theorem countG1_c (K : Nat) (hK : K ≤ 1099511627776) (w : World) (br b1 b2 b3 : Nat) (v : Value) (l : List UInt8) (n : Nat) (h : Rd w br v l 0) (h1 : w.cell? ⟨b1, 0, none⟩ = some (.int .i64 (K : Nat))) (h2 : w.cell? ⟨b2, 0, none⟩ = some (.int .u64 n)) (h3 : w.cell? ⟨b3, 0, none⟩ = some (.pointer (some ⟨br, 0, none⟩))) :
    Calls Tryz.prog 107 #[.pointer (some ⟨b1, 0, none⟩), .pointer (some ⟨b2, 0, none⟩), .pointer (some ⟨b3, 0, none⟩)] w fun en w' => en = .returned (.int .i64 (cEK K n l)) ∧ Keeps [] w w' := by
  obtain ⟨c0, c1, f0, f1, hlt⟩ := cell2_of h.1
  obtain ⟨a0, cp0, rfl⟩ := h.2.form
  have hmx := h.2.cap
  clear h
  obtain ⟨N, hN⟩ : ∃ N, l.length = N := ⟨_, rfl⟩
  rw [hN] at c0 hmx
  have hNN : (N : Int) ≤ 9223372036854775807 := by unfold maxLen at hmx; omega
  replace hN := Lib.hid hN
  have hKw : IntKind.u64.wrap (K : Int) = K := by rw [IntKind.wrap_u64]; omega
  have hK0 : decide ((K : Int) < 0) = false := by simp
  have hwr : IntKind.u64.wrap (N : Int) = N := by rw [IntKind.wrap_u64]; omega
  by_cases hbig : K < n
  · have hd : (K : Int) < (n : Int) := by omega
    go_enter Tryz.func107, Tryz.ntmps107
    go_wp2
    go_ret
    exact ⟨by unfold cEK; rw [if_pos hbig]; rfl, Keeps.refl _ _⟩
  · have hd : decide ((K : Int) < (n : Int)) = false := by simp; omega
    by_cases hb2 : N < n
    · have hd2 : (N : Int) < (n : Int) := by omega
      go_enter Tryz.func107, Tryz.ntmps107
      go_wp2
      (refine wp_region_quiet_lit (by kernel_rfl) (by kernel_rfl) ?_; (repeat (first | go_big_quiet_step (fail) | quiet_step (fail))); with_reducible refine wpQuiet_nil ?_; intro _ hw'; obtain ⟨nq, hw''⟩ := hw'; subst hw'')
      go_wp2
      go_ret
      exact ⟨by unfold cEK; rw [if_neg hbig, hN.out, if_pos hb2]; rfl, (Keeps.refl _ _).drewN _⟩
    · have hd2 : decide ((N : Int) < (n : Int)) = false := by simp; omega
      go_enter Tryz.func107, Tryz.ntmps107
      go_wp2
      (refine wp_region_quiet_lit (by kernel_rfl) (by kernel_rfl) ?_; (repeat (first | go_big_quiet_step (fail) | quiet_step (fail))); with_reducible refine wpQuiet_nil ?_; intro _ hw'; obtain ⟨nq, hw''⟩ := hw'; subst hw'')
      go_wp2
      go_ret
      exact ⟨by unfold cEK; rw [if_neg hbig, hN.out, if_neg hb2]; rfl, (Keeps.refl _ _).drewN _⟩
set_option maxRecDepth 100000 in
set_option maxHeartbeats 2000000 in
theorem countG_bad (K : Nat) (hK : K ≤ 1099511627776) (w : World) (br : Nat) (v : Value) (l : List UInt8) (h : Rd w br v l 0) (hr : readU l = none) :
    Calls Tryz.prog 79 #[.pointer (some ⟨br, 0, none⟩), .int .i64 (K : Nat)] w fun en w' => en = .returned (.int .i64 0) ∧ Rd w' br (.slice none 0 0) [] 11 ∧ Keeps [br] w w' := by
  have hlt := (cell2_of h.1).2.2.2.2
  have hne : ¬ w.heap.size = br := by omega
  have hne2 : ¬ w.heap.size + 1 = br := by omega
  have hkA : Keeps [] w ((w.alloc (.cells #[.pointer (some ⟨br, 0, none⟩)] 57)).alloc (.cells #[.int .i64 (K : Nat)] 3)) := ((Keeps.refl [] w).alloc _).alloc _
  have hx1 := heap_alloc_new w (.cells #[.pointer (some ⟨br, 0, none⟩)] 57)
  have hx2 := (((Keeps.refl [] (w.alloc (.cells #[.pointer (some ⟨br, 0, none⟩)] 57))).alloc (.cells #[.int .i64 (K : Nat)] 3)).block _ (lt_of_block hx1) (by simp)).trans hx1
  have hRA := h.keeps hkA
  replace hRA := Lib.hid hRA
  replace hkA := Lib.hid hkA
  replace hr := Lib.hid hr
  clear h hx1
  go_enter Tryz.func79, Tryz.ntmps79
  go_wp2_with fail
  refine (uint_bad _ br v l hRA.out hr.out).mono ?_
  rintro e w1 ⟨rfl, hR1, hk1⟩
  have hx3 := (hk1.block _ (lt_of_block hx2) (by simpa using hne)).trans hx2
  obtain ⟨z0, zf, zlt⟩ := cell1_of hx3
  have hk01 := Lib.hid (hkA.out.of_nil.trans hk1)
  obtain ⟨c0, c1, f0, f1, hlt1⟩ := cell2_of hR1.1
  have hkB : Keeps [] w1 (w1.alloc (.cells #[.int .u64 0] 26)) := (Keeps.refl [] w1).alloc _
  have hne3 : ¬ w1.heap.size = br := by omega
  have hne4 : ¬ w1.heap.size = w.heap.size := by omega
  replace hR1 := Lib.hid hR1
  replace hkB := Lib.hid hkB
  clear hk1 hx2 hx3
  go_wp2_with (first | go_in)
  go_ret
  exact ⟨rfl, hR1.out.keeps hkB.out, hk01.out.trans hkB.out.of_nil⟩
set_option maxRecDepth 100000 in
set_option maxHeartbeats 4000000 in
theorem countG_ok (K : Nat) (hK : K ≤ 1099511627776) (w : World) (br : Nat) (v : Value) (l r : List UInt8) (n : Nat) (h : Rd w br v l 0) (hr : readU l = some (n, r)) (hn : n < 18446744073709551616) :
    Calls Tryz.prog 79 #[.pointer (some ⟨br, 0, none⟩), .int .i64 (K : Nat)] w fun en w' => en = .returned (.int .i64 (rCK K l).1) ∧ RdS w' br (rCK K l).2 ∧ Keeps [br] w w' := by
  have hrc : rCK K l = if cEK K n r = 0 then (n, (r, 0)) else (0, ([], cEK K n r)) := by unfold rCK; simp only [hr]
  have hlt := (cell2_of h.1).2.2.2.2
  have hne : ¬ w.heap.size = br := by omega
  have hne2 : ¬ w.heap.size + 1 = br := by omega
  have hkA : Keeps [] w ((w.alloc (.cells #[.pointer (some ⟨br, 0, none⟩)] 57)).alloc (.cells #[.int .i64 (K : Nat)] 3)) := ((Keeps.refl [] w).alloc _).alloc _
  have hx1 := heap_alloc_new w (.cells #[.pointer (some ⟨br, 0, none⟩)] 57)
  have hx2 := (((Keeps.refl [] (w.alloc (.cells #[.pointer (some ⟨br, 0, none⟩)] 57))).alloc (.cells #[.int .i64 (K : Nat)] 3)).block _ (lt_of_block hx1) (by simp)).trans hx1
  have hm2 := heap_alloc_new (w.alloc (.cells #[.pointer (some ⟨br, 0, none⟩)] 57)) (.cells #[.int .i64 (K : Nat)] 3)
  rw [show (w.alloc (.cells #[.pointer (some ⟨br, 0, none⟩)] 57)).heap.size = w.heap.size + 1 by simp] at hm2
  have hRA := h.keeps hkA
  replace hRA := Lib.hid hRA
  replace hkA := Lib.hid hkA
  replace hr := Lib.hid hr
  replace hrc := Lib.hid hrc
  clear h hx1
  go_enter Tryz.func79, Tryz.ntmps79
  go_wp2_with fail
  refine (uint_ok _ br v l r n hRA.out hr.out).mono ?_
  rintro e w1 ⟨rfl, ⟨v1, hR1⟩, hk1⟩
  have hx3 := (hk1.block _ (lt_of_block hx2) (by simpa using hne)).trans hx2
  have hm3 := (hk1.block _ (lt_of_block hm2) (by simpa using hne2)).trans hm2
  have hkB : Keeps [] w1 (w1.alloc (.cells #[.int .u64 n] 26)) := (Keeps.refl [] w1).alloc _
  have hx4 := (hkB.block _ (lt_of_block hx3) (by simp)).trans hx3
  have hm4 := (hkB.block _ (lt_of_block hm3) (by simp)).trans hm3
  have hn4 := heap_alloc_new w1 (.cells #[.int .u64 n] 26)
  have hR2 := hR1.keeps hkB
  have hk02 := hkA.out.of_nil.trans (hk1.trans hkB.of_nil)
  obtain ⟨z0, zf, zlt⟩ := cell1_of hx3
  obtain ⟨q0, qf, qlt⟩ := cell1_of hn4
  obtain ⟨c0, c1, f0, f1, hlt1⟩ := cell2_of hR1.1
  have hne3 : ¬ w1.heap.size = br := by omega
  have hne4 : ¬ w1.heap.size = w.heap.size := by omega
  have hc := countG1_c K hK _ br (w.heap.size + 1) w1.heap.size w.heap.size v1 r n hR2 (cell1_of hm4).1 q0 (cell1_of hx4).1
  obtain ⟨E, hE⟩ : ∃ E, cEK K n r = E := ⟨_, rfl⟩
  obtain ⟨a1, cp1, rfl⟩ := hR1.2.form
  rw [hE] at hc
  by_cases hE0 : E = 0
  · subst hE0
    have hn63 : (n : Int) ≤ K := by
      unfold cEK at hE
      split at hE
      · cases hE
      · omega
    replace hE := Lib.hid hE
    replace hR1 := Lib.hid hR1
    replace hR2 := Lib.hid hR2
    replace hkB := Lib.hid hkB
    replace hk02 := Lib.hid hk02
    replace hc := Lib.hid hc
    replace hn4 := Lib.hid hn4
    clear hk1 hx2 hx3 hx4 hm2 hm3 hm4 c0 q0 qf qlt
    go_wp2_with (first
      | (go_at_call 107; refine hc.out.mono ?_; rintro e w3 ⟨rfl, hk3⟩; have hR3 := hR2.out.keeps hk3; obtain ⟨d0, d1, g0, g1, hlt3⟩ := cell2_of hR3.1; have hk4 := Lib.hid hk3; have hR4 := Lib.hid hR3; have hn5 := Lib.hid ((hk3.block _ (lt_of_block hn4.out) (by simp)).trans hn4.out); obtain ⟨e0, _, hlt4⟩ := cell1_of hn5.out; clear hk3 hR3)
      | go_in)
    go_ret
    rw [hrc.out, if_pos hE.out]
    exact ⟨rfl, ⟨_, rd_set_ok hR4.out 0⟩, (hk02.out.trans hk4.out.of_nil).setCell (.inr (by simp)) _⟩
  · have hEb : (E == 0) = false := by simp [hE0]
    replace hE0 := Lib.hid hE0
    replace hE := Lib.hid hE
    replace hR1 := Lib.hid hR1
    replace hR2 := Lib.hid hR2
    replace hkB := Lib.hid hkB
    replace hk02 := Lib.hid hk02
    replace hc := Lib.hid hc
    replace hn4 := Lib.hid hn4
    clear hk1 hx2 hx3 hx4 hm2 hm3 hm4 c0 q0 qf qlt
    go_wp2_with (first
      | (go_at_call 107; refine hc.out.mono ?_; rintro e w3 ⟨rfl, hk3⟩; have hR3 := hR2.out.keeps hk3; obtain ⟨d0, d1, g0, g1, hlt3⟩ := cell2_of hR3.1; have hk4 := Lib.hid hk3; have hR4 := Lib.hid hR3; have hn5 := Lib.hid ((hk3.block _ (lt_of_block hn4.out) (by simp)).trans hn4.out); obtain ⟨e0, _, hlt4⟩ := cell1_of hn5.out; clear hk3 hR3)
      | go_in)
    go_ret
    rw [hrc.out, if_neg (by rw [hE.out]; exact hE0.out)]
    refine ⟨rfl, ⟨.slice none 0 0, ?_⟩, ((hk02.out.trans hk4.out.of_nil).setCell (.inr (by simp)) _).setCell (.inr (by simp)) _⟩
    rw [hE.out]
    exact rd_set_bad hR4.out E
theorem readU_lt {l r : List UInt8} {n : Nat} (h : readU l = some (n, r)) : n < 18446744073709551616 := by
  cases l with
  | nil => cases h
  | cons k t =>
    rcases Classical.em (k.toNat ≤ 8 ∧ k.toNat ≤ t.length ∧ (0 < k.toNat → t.headD 1 ≠ 0)) with hc | hc
    · rw [readU, if_pos hc] at h
      simp only [Option.some.injEq, Prod.mk.injEq] at h
      rw [← h.1]
      have := valU_lt k.toNat (t.take k.toNat) (by rw [List.length_take]; omega)
      have h2 : (256 : Nat) ^ k.toNat ≤ 256 ^ 8 := Nat.pow_le_pow_right (by omega) hc.1
      omega
    · rw [readU, if_neg hc] at h; cases h
theorem countG_c (K : Nat) (hK : K ≤ 1099511627776) (w : World) (br : Nat) (l : List UInt8) (h : RdS w br (l, 0)) :
    Calls Tryz.prog 79 #[.pointer (some ⟨br, 0, none⟩), .int .i64 (K : Nat)] w fun en w' => en = .returned (.int .i64 (rCK K l).1) ∧ RdS w' br (rCK K l).2 ∧ Keeps [br] w w' := by
  obtain ⟨v, h⟩ := h
  cases hr : readU l with
  | none =>
    rw [show rCK K l = (0, ([], 11)) by unfold rCK; simp only [hr]]
    exact (countG_bad K hK w br v l h hr).mono fun _ _ ⟨h1, h2, h3⟩ => ⟨h1, ⟨_, h2⟩, h3⟩
  | some p =>
    obtain ⟨n, r⟩ := p
    exact countG_ok K hK w br v l r n h hr (readU_lt hr)
theorem doneS_c (w : World) (br : Nat) (s : RS) (h : RdS w br s) :
    Calls Tryz.prog 36 #[.pointer (some ⟨br, 0, none⟩)] w fun en w' => en = .returned (.int .i64 (doneE s.1 s.2)) ∧ w = w' := by
  obtain ⟨v, h⟩ := h
  exact done_c w br v s.1 s.2 h
end Go.Proofs.YtiplgpefapeapaaGreat

namespace Go.Proofs.YtiplgpefapeapaaGreat
open Go.RowKit

theorem lt_of_blk {w : World} {b : Nat} {o : Obj} (h : w.heap[b]? = some o) : b < w.heap.size := (Array.getElem?_eq_some_iff.1 h).1
theorem cells3t {w : World} {b : Nat} {x0 x1 x2 : Value} {t : TypeId} {f : Nat × Nat} (h : w.heap[b]? = some (.cells #[x0, x1, x2] t f)) : w.cell? ⟨b, 0, none⟩ = some x0 ∧ w.cell? ⟨b, 1, none⟩ = some x1 ∧ w.cell? ⟨b, 2, none⟩ = some x2 :=
  ⟨by simp [World.cell?, h], by simp [World.cell?, h], by simp [World.cell?, h]⟩
theorem eqN0 (w : World) (x0 : Int) (x1 : Int) (x2 : Int) (y0 : Int) (y1 : Int) (y2 : Int) : (Op.equalIn 10000 tN (.agg #[.int .i64 x0, .int .u64 x1, .int .i64 x2]) (.agg #[.int .i64 y0, .int .u64 y1, .int .i64 y2])).run Tryz.prog w = .ok (x0 == y0 && x1 == y1 && x2 == y2) w := by
  have h1 : Tryz.prog.underlying tN = some (.struct (Tryz.prog.fieldsOf tN)) := by kernel_rfl
  have h2 : Tryz.prog.stoodInHeld tN = false := by kernel_rfl
  have h3 : (Tryz.prog.fieldsOf tN).toList.map (fun f => (f.name != "_", f.type, f.offset)) = [(true, 3, 0), (true, 26, 1), (true, 3, 2)] := by kernel_rfl
  obtain ⟨f0, f1, f2, hf⟩ : ∃ f0 f1 f2, (Tryz.prog.fieldsOf tN).toList = [f0, f1, f2] := by
    generalize (Tryz.prog.fieldsOf tN).toList = l at h3
    have hl := congrArg List.length h3
    simp only [List.length_map, List.length_cons, List.length_nil] at hl
    match l, hl with
    | [f0, f1, f2], _ => exact ⟨f0, f1, f2, rfl⟩
  rw [hf] at h3
  simp only [List.map_cons, List.map_nil, List.cons.injEq, Prod.mk.injEq, and_true, bne_iff_ne, ne_eq] at h3
  obtain ⟨⟨n0, t0, o0⟩, ⟨n1, t1, o1⟩, n2, t2, o2⟩ := h3
  rw [run_equalIn_agg w 9999 _ _ _ h1 h2, hf]
  have p0 : ∀ (x0 : Int) (x1 : Int) (x2 : Int) (w : World), (part 3 #[.int .i64 x0, .int .u64 x1, .int .i64 x2] 0).run Tryz.prog w = .ok (.int .i64 x0) w := fun x0 x1 x2 w => by kernel_rfl
  have p1 : ∀ (x0 : Int) (x1 : Int) (x2 : Int) (w : World), (part 26 #[.int .i64 x0, .int .u64 x1, .int .i64 x2] 1).run Tryz.prog w = .ok (.int .u64 x1) w := fun x0 x1 x2 w => by kernel_rfl
  have p2 : ∀ (x0 : Int) (x1 : Int) (x2 : Int) (w : World), (part 3 #[.int .i64 x0, .int .u64 x1, .int .i64 x2] 2).run Tryz.prog w = .ok (.int .i64 x2) w := fun x0 x1 x2 w => by kernel_rfl
  have e_int : ∀ (x y : Int) (w : World), (Op.equalIn 9999 3 (.int .i64 x) (.int .i64 y)).run Tryz.prog w = .ok (x == y) w := fun x y w => run_equalIn_int w 9998 _ _ _ x y Tryz.underlying3
  have e_u64 : ∀ (x y : Int) (w : World), (Op.equalIn 9999 26 (.int .u64 x) (.int .u64 y)).run Tryz.prog w = .ok (x == y) w := fun x y w => run_equalIn_int w 9998 _ _ _ x y Tryz.underlying26
  simp only [Op.eqFields, n0, t0, o0, n1, t1, o1, n2, t2, o2, ne_eq, not_false_eq_true, if_true, Sem.run_bind, p0, p1, p2, e_int, e_u64, Result.andThen]
  cases b0 : (x0 == y0)
  · simp [p0, p1, p2, e_int, e_u64, b0]
  · cases b1 : (x1 == y1)
    · simp [p0, p1, p2, e_int, e_u64, b0, b1]
    · cases b2 : (x2 == y2)
      · simp [p0, p1, p2, e_int, e_u64, b0, b1, b2]
      · simp [p0, p1, p2, e_int, e_u64, b0, b1, b2]
theorem eqN (w : World) (x y : T3) : (binOp .eql tN (tV x) (tV y)).run Tryz.prog w = .ok (.bool (decide (x = y))) w := by
  obtain ⟨a, b, c⟩ := x
  obtain ⟨a', b', c'⟩ := y
  rw [run_eql_struct, eqN0, Result.andThen_ok]
  congr 2
  rw [Bool.eq_iff_iff]
  simp
  omega
theorem neN (w : World) (x y : T3) : (binOp .neq tN (tV x) (tV y)).run Tryz.prog w = .ok (.bool (decide (x ≠ y))) w := by
  obtain ⟨a, b, c⟩ := x
  obtain ⟨a', b', c'⟩ := y
  rw [run_neq_struct, eqN0, Result.andThen_ok]
  congr 2
  rw [Bool.eq_iff_iff]
  simp
  omega

set_option maxRecDepth 100000 in
set_option maxHeartbeats 2000000 in
theorem indexN_c (w : World) (v : Value) (L : List T3) (q : T3) (h : shT.R w v L) :
    Calls Tryz.prog 109 #[v, tV q] w fun e w' => ∃ i : Int, e = .returned (.int .i64 i) ∧ (q ∈ L → 0 ≤ i) ∧ (q ∉ L → i = -1) ∧ Keeps [] w w' := by
  obtain ⟨a, c, rfl, hlc, hcm, _⟩ := h.form
  have hel := fun k hk => h.elem (k := k) hk
  obtain ⟨M, hM⟩ : ∃ N, L.length = N := ⟨_, rfl⟩
  rw [hM] at hlc ⊢
  have hMm : M ≤ 9223372036854775807 := by unfold maxLen at hcm; omega
  obtain ⟨q0, q1, q2⟩ := q
  have hkA : Keeps [] w (w.alloc (.cells #[.int .i64 q0, .int .u64 (q1 : Nat), .int .i64 q2] tN)) := (Keeps.refl _ _).alloc _
  have hb0 := heap_alloc_new w (.cells #[.int .i64 q0, .int .u64 (q1 : Nat), .int .i64 q2] tN)
  replace hel := Lib.hid hel
  replace hM := Lib.hid hM
  replace hkA := Lib.hid hkA
  replace hb0 := Lib.hid hb0
  clear h
  go_enter Tryz.func109, Tryz.ntmps109
  go_wp2
  generalize (w.alloc (.cells #[.int .i64 q0, .int .u64 (q1 : Nat), .int .i64 q2] tN)) = W at *
  obtain ⟨X, hX⟩ : ∃ X, w.heap.size = X := ⟨_, rfl⟩
  rw [hX] at hb0 ⊢
  replace hX := Lib.hid hX
  go_loopw [8, 5] (fun i _ wr => ∃ k : Nat, i = .int .i64 k ∧ k ≤ M ∧ (∀ j (hj : j < L.length), j < k → L[j] ≠ (q0, q1, q2)) ∧ Keeps [] W wr) (fun i _ _ => M - (intOf i).toNat)
  case atStart => exact ⟨0, rfl, by omega, fun _ _ h => by omega, Keeps.refl _ _⟩
  case round =>
    obtain ⟨k, rfl, hk, hno, hkW⟩ := hrel
    obtain ⟨y0, y1, y2⟩ := cells3t ((hkW.block _ (lt_of_blk hb0.out) (by simp)).trans hb0.out)
    have hkw := hkA.out.trans hkW
    replace hno := Lib.hid hno
    replace hkW := Lib.hid hkW
    by_cases hlt : k < M
    · obtain ⟨g, o, c', hv, he⟩ := hel.out k (by rw [hM.out]; exact hlt)
      cases hv
      obtain ⟨⟨x0, x1, x2⟩, hx⟩ : ∃ x, L[k]'(by rw [hM.out]; exact hlt) = x := ⟨_, rfl⟩
      rw [hx] at he
      have e0 := hkw.val (he 0 _ rfl)
      have e1 := hkw.val (he 1 _ rfl)
      have e2 := hkw.val (he 2 _ rfl)
      simp only [shT, Nat.add_zero] at e0 e1 e2
      have hq := fun w => eqN w (q0, q1, q2) (x0, x1, x2)
      simp only [tV] at hq
      replace hx := Lib.hid hx
      replace hkw := Lib.hid hkw
      clear he
      by_cases h1 : (q0, q1, q2) = (x0, x1, x2)
      · rw [decide_eq_true h1] at hq
        replace h1 := Lib.hid h1
        go_wp2
        (refine wp_region_quiet_lit (by kernel_rfl) (by kernel_rfl) ?_; (repeat (first | go_big_quiet_step (fail) | quiet_step (fail))); with_reducible refine wpQuiet_nil ?_; intro _ hw'; obtain ⟨nq, hw''⟩ := hw'; subst hw'')
        go_wp2
        go_ret
        exact ⟨k, rfl, fun _ => by omega, fun h => absurd (h1.out ▸ hx.out ▸ List.getElem_mem _) h, hkw.out.drewN _⟩
      · rw [decide_eq_false h1] at hq
        replace h1 := Lib.hid h1
        go_wp2
        (refine wp_region_quiet_lit (by kernel_rfl) (by kernel_rfl) ?_; (repeat (first | go_big_quiet_step (fail) | quiet_step (fail))); with_reducible refine wpQuiet_nil ?_; intro _ hw'; obtain ⟨nq, hw''⟩ := hw'; subst hw'')
        go_wp2
        go_roundw
        case rel => exact ⟨k + 1, rfl, by omega, fun j hj hjk => by
            by_cases e : j = k
            · subst e; rw [hx.out]; exact fun e => h1.out e.symm
            · exact hno.out j hj (by omega), hkW.out.drewN _⟩
        case measure => simp [intOf]; omega
    · replace hkw := Lib.hid hkw
      go_wp2
      go_ret
      exact ⟨-1, rfl, fun h => by
        obtain ⟨j, hj, e⟩ := List.getElem_of_mem h
        exact absurd e (hno.out j hj (by rw [hM.out] at hj; omega)), fun _ => rfl, hkw.out⟩
set_option maxRecDepth 100000 in
set_option maxHeartbeats 1000000 in
theorem containsN_c (w : World) (v : Value) (L : List T3) (q : T3) (h : shT.R w v L) :
    Calls Tryz.prog 88 #[v, tV q] w fun e w' => e = .returned (.bool (decide (q ∈ L))) ∧ Keeps [] w w' := by
  obtain ⟨a, c, rfl, _, _, _⟩ := h.form
  have hkA : Keeps [] w (w.alloc (.cells #[.int .i64 q.1, .int .u64 (q.2.1 : Nat), .int .i64 q.2.2] tN)) := (Keeps.refl _ _).alloc _
  have hI := indexN_c _ _ L q (h.keeps hkA)
  obtain ⟨q0, q1, q2⟩ := q
  simp only [tV] at hI hkA
  replace hkA := Lib.hid hkA
  replace hI := Lib.hid hI
  clear h
  go_enter Tryz.func88, Tryz.ntmps88
  go_wp2_with fail
  refine hI.out.mono ?_
  rintro e w1 ⟨i, rfl, h1, h2, hk1⟩
  by_cases hm : (q0, q1, q2) ∈ L
  · have h0 := h1 hm
    have hd := decide_eq_true hm
    replace hm := Lib.hid hm
    replace h2 := Lib.hid h2
    go_wp2
    go_ret
    exact ⟨by rw [hd]; rfl, hkA.out.trans hk1⟩
  · have h0 := h2 hm
    have hd := decide_eq_false hm
    subst h0
    replace hm := Lib.hid hm
    replace h1 := Lib.hid h1
    go_wp2
    go_ret
    exact ⟨by rw [hd]; rfl, hkA.out.trans hk1⟩

/-- Every block of insets is as it was. -/
def KI (w w' : World) : Prop := ∀ (b : Nat) (cs : Array Value) (f : Nat × Nat), w.heap[b]? = some (Obj.cells cs tI f) → w'.heap[b]? = some (Obj.cells cs tI f)
theorem KI.refl (w : World) : KI w w := fun _ _ _ h => h
theorem KI.trans {a b c : World} (h : KI a b) (k : KI b c) : KI a c := fun i cs f hx => k i cs f (h i cs f hx)
theorem Keeps.ki {S : List Nat} {w w' : World} (h : Keeps S w w') (hS : ∀ b ∈ S, ∀ (cs : Array Value) (f : Nat × Nat), w.heap[b]? ≠ some (Obj.cells cs tI f)) : KI w w' := fun b cs f hx =>
  (h.block b (lt_of_blk hx) (fun hm => hS b hm cs f hx)).trans hx
theorem Keeps.ki0 {w w' : World} (h : Keeps [] w w') : KI w w' := h.ki (by simp)
/-- A stored inset. -/
def InsO (w : World) (v : Value) (L : List T3) : Prop := ∃ B, shT.O w B tI v L
theorem InsO.r {w : World} {v : Value} {L : List T3} (h : InsO w v L) : shT.R w v L := by obtain ⟨B, h⟩ := h; exact h.r
theorem InsO.ki {w w' : World} {v : Value} {L : List T3} (h : InsO w v L) (hk : KI w w') : InsO w' v L := by
  obtain ⟨B, h1, h2⟩ := h
  refine ⟨B, h1, ?_⟩
  rcases h2 with hn | ⟨g, cap, cur, rfl, hb, hg, rest⟩
  · exact .inl hn
  · exact .inr ⟨g, cap, cur, rfl, hb, hk g cur (0, 0) hg, rest⟩
theorem InsO.tag {w : World} {v : Value} {L : List T3} (h : InsO w v L) : ∀ b, v.ownBlock = some b → ∃ (cs : Array Value) (f : Nat × Nat), w.heap[b]? = some (Obj.cells cs tI f) := fun b hb => by
  obtain ⟨B, h1, h2⟩ := h
  rcases h2 with ⟨rfl, _⟩ | ⟨g, cap, cur, rfl, _, hg, _⟩
  · simp [Value.ownBlock] at hb
  · simp [Value.ownBlock] at hb; subst hb; exact ⟨_, _, hg⟩
set_option maxRecDepth 100000 in
set_option maxHeartbeats 2000000 in
theorem cloneI_c (w : World) (v : Value) (L : List T3) (h : shT.R w v L) (hl : L.length ≤ 1000000) :
    Calls Tryz.prog 86 #[v] w fun e w' => ∃ v', e = .returned v' ∧ shT.O w' w.heap.size tI v' L ∧ Keeps [] w w' := by
  have q22 : ∀ (w : World) (a : Option Addr) (n c n' c' : Nat), (binOp .eql 44 (.slice a n c) (.slice none n' c')).run Tryz.prog w = .ok (.bool a.isNone) w := fun w a n c n' c' => Lib.run_eql_slice_nil w _ _ a n c n' c' Tryz.underlying44
  obtain ⟨a, c, rfl, hlc, hcm, hnil⟩ := h.form
  obtain ⟨M, hM⟩ : ∃ M, L.length = M := ⟨_, rfl⟩
  rw [hM] at hl hlc h ⊢
  replace hM := Lib.hid hM
  replace h := Lib.hid h
  cases a with
  | none =>
    have h0 := hnil rfl
    have hL : L = [] := List.length_eq_zero_iff.1 (by rw [hM.out]; omega)
    replace hL := Lib.hid hL
    clear hnil
    go_enter Tryz.func86, Tryz.ntmps86
    go_wp2
    go_ret
    exact ⟨_, rfl, by rw [hL.out]; exact Sh.O.nil _ _ _ _, Keeps.refl _ _⟩
  | some ad =>
    clear hnil
    go_enter Tryz.func86, Tryz.ntmps86
    go_wp2_with (at_builtin; (refine Sh.wpl_app shT w.heap.size infoI rfl Tryz.underlying44 (.slice (some ⟨w.heap.size, 0, none⟩) 0 0) (.slice (some ad) M c) [] L rfl (.tmp 5) (.tmp 6) rfl rfl rfl (Sh.O.fresh _ w _ _ (Nat.le_refl _)) (h.out.keeps ((Keeps.refl [] w).alloc _)) (by have := hM.out; simp only [List.length_nil]; omega) (by simp) ?_; intro v2 w2 hO2 hG2; have hkk2 := Lib.hid (hG2.keeps ((Keeps.refl [] w).alloc _) (by simp [Value.ownBlock])); have hO2' := Lib.hid hO2; clear hO2 hG2))
    go_ret
    exact ⟨_, rfl, hO2'.out, hkk2.out⟩
end Go.Proofs.YtiplgpefapeapaaGreat

namespace Go.Proofs.YtiplgpefapeapaaGreat
open Go Go.RowKit Go.Sort
namespace Sh
variable {α : Type} [Inhabited α] {s : Sh α} {w w' : World} {L : List α} {B e g n c : Nat}

theorem flat_cs (s : Sh α) (L : List α) : (flatK s.cf s.sz L.toArray).toList = s.cs L := by
  have hp := s.pos
  refine List.ext_getElem? fun i => ?_
  by_cases hi : i < L.length * s.sz
  · have h1 : i < (flatK s.cf s.sz L.toArray).size := by rw [size_flatK]; simpa using hi
    rw [Array.getElem?_toList, ← getElem?_pos_bang h1, get_flatK _ _ _ _ (by simpa using hi)]
    have hk : i / s.sz < L.length := (Nat.div_lt_iff_lt_mul hp).2 hi
    have hr : i % s.sz < s.sz := Nat.mod_lt _ hp
    have hdm : i / s.sz * s.sz + i % s.sz = i := by rw [Nat.mul_comm]; exact Nat.div_add_mod _ _
    have h4 := cs_get (s := s) L (i / s.sz) hk (i % s.sz) hr
    rw [hdm] at h4
    rw [h4]
    have e1 : (L.toArray)[i / s.sz]! = L[i / s.sz] := by simp [hk]
    rw [e1]
    have h5 : i % s.sz < (s.cf L[i / s.sz]).length := by rw [s.len]; exact hr
    rw [List.getElem?_eq_getElem h5]
    simp [h5]
  · rw [List.getElem?_eq_none (by simp; omega), List.getElem?_eq_none (by rw [cs_len]; omega)]
where
  getElem?_pos_bang {F : Array Value} {i : Nat} (h : i < F.size) : some F[i]! = F[i]? := by simp [h]
theorem O.holds (h : s.O w B e (.slice (some ⟨g, 0, none⟩) n c) L) : HoldsK s.cf s.sz w g 0 L.toArray := by
  rcases h with ⟨h1, ⟨h2, _⟩ | ⟨g', cap, cur, h2, hb, hg, h3, h4, h5, h6⟩⟩
  · cases h2
  · cases h2
    intro j hj
    have hj' : j < (s.cs L).length := by rw [← flat_cs]; simpa using hj
    have e1 : (flatK s.cf s.sz L.toArray)[j]! = (s.cs L)[j] := by
      have : (s.cs L)[j]? = (flatK s.cf s.sz L.toArray).toList[j]? := by rw [flat_cs]
      rw [List.getElem?_eq_getElem hj', Array.getElem?_toList, Array.getElem?_eq_getElem hj] at this
      rw [getElem!_pos _ j hj]
      exact (Option.some.inj this).symm
    have e2 : cur[j]? = some ((s.cs L)[j]) := by
      have : (cur.toList.take (L.length * s.sz))[j]? = (s.cs L)[j]? := by rw [← h6]
      rw [List.getElem?_eq_getElem hj', List.getElem?_take] at this
      split at this
      · simpa using this
      · cases this
    constructor
    · rw [Nat.zero_add, e1]
      simp [World.cell?, hg, e2]
    · simp [World.frozen?, hg]
theorem O.sorted {d' : Array α} {m : Nat} {os : Array Obj} (h : s.O w B e (.slice (some ⟨g, 0, none⟩) n c) L) (hd : d'.size = L.length) : s.O (sortWorldK s.cf s.sz w g 0 m d' os) B e (.slice (some ⟨g, 0, none⟩) n c) d'.toList ∧ Keeps [g] w (sortWorldK s.cf s.sz w g 0 m d' os) := by
  rcases h with ⟨h1, ⟨h2, _⟩ | ⟨g', cap, cur, h2, hb, hg, h3, h4, h5, h6⟩⟩
  · cases h2
  · have hn : n = L.length := by simp at h2; exact h2.2.1
    subst hn
    cases h2
    have hgl : g < w.heap.size := (Array.getElem?_eq_some_iff.1 hg).1
    have hheap : (sortWorldK s.cf s.sz w g 0 m d' os).heap = (w.heap.modify g (onCells (putCells id 0 (flatK s.cf s.sz d')))) ++ os := rfl
    have hblk : (sortWorldK s.cf s.sz w g 0 m d' os).heap[g]? = some (.cells (putCells id 0 (flatK s.cf s.sz d') cur) e (0, 0)) := by
      rw [hheap, Array.getElem?_append_left (by simpa using hgl), Array.getElem?_modify, if_pos rfl, hg]
      rfl
    have hfl : (flatK s.cf s.sz d').toList = s.cs d'.toList := by have := flat_cs s d'.toList; simpa using this
    have hcur : L.length * s.sz ≤ cur.size := by
      have := congrArg List.length h6
      rw [h1] at this
      simp only [List.length_take, Array.length_toList] at this
      omega
    refine ⟨⟨by rw [cs_len], .inr ⟨g, c, _, by simp [hd], hb, hblk, by simpa [hd] using h3, h4, by simpa [putCells] using h5, ?_⟩⟩, ⟨rfl, rfl, rfl, ?_, fun k hk hS => ?_⟩⟩
    · rw [← hfl]
      refine List.ext_getElem? fun i => ?_
      have hsz : (flatK s.cf s.sz d').size = L.length * s.sz := by rw [size_flatK, hd]
      by_cases hi : i < L.length * s.sz
      · rw [List.getElem?_take_of_lt (by simpa [hd] using hi), Array.getElem?_toList, Array.getElem?_toList]
        unfold putCells
        rw [Array.getElem?_mapIdx, Array.getElem?_eq_getElem (by omega)]
        simp [hsz, hi]
      · rw [List.getElem?_take, if_neg (by simpa [hd] using hi), List.getElem?_eq_none (by rw [Array.length_toList, hsz]; omega)]
    · rw [hheap]; simp
    · rw [hheap, Array.getElem?_append_left (by simpa using hk), Array.getElem?_modify, if_neg (by simpa using fun e : g = k => hS (by simp [e]))]
/-- What a permutation that is sorted by a strict total order is. -/
theorem perm_of_permIn {d d' : Array α} (h : PermIn 0 d.size d d') : d'.size = d.size ∧ d'.toList.Perm d.toList := by
  obtain ⟨h1, _, h2⟩ := h
  refine ⟨h1, ?_⟩
  rw [show d'.extract 0 d.size = d' by rw [← h1]; simp, show d.extract 0 d.size = d by simp] at h2
  exact h2
theorem pairwise_of_sortedIn {lt : α → α → Bool} {d : Array α} (h : SortedIn lt 0 d.size d) : d.toList.Pairwise (fun x y => lt y x = false) := by
  rw [List.pairwise_iff_getElem]
  intro i j hi hj hij
  have := h i j (Nat.zero_le _) hij (by simpa using hj)
  simp at hi hj
  simpa [hi, hj] using this
end Sh
end Go.Proofs.YtiplgpefapeapaaGreat

namespace Go.Proofs.YtiplgpefapeapaaGreat
open Go.RowKit Go.Sort

def cI (x y : Int) : Int := if x < y then -1 else if y < x then 1 else 0
set_option maxRecDepth 100000 in
set_option maxHeartbeats 1000000 in
theorem compareI_c (x y : Int) (w : World) : Calls Tryz.prog 92 #[.int .i64 x, .int .i64 y] w fun e w' => e = .returned (.int .i64 (cI x y)) ∧ w = w' := by
  unfold cI
  by_cases h1 : x < y
  · rw [if_pos h1]
    go_enter Tryz.func92, Tryz.ntmps92
    go_wp2
    go_ret
    exact ⟨rfl, rfl⟩
  · rw [if_neg h1]
    have h1' : decide (x < y) = false := by simpa using h1
    by_cases h2 : y < x
    · rw [if_pos h2]
      go_enter Tryz.func92, Tryz.ntmps92
      go_wp2
      go_ret
      exact ⟨rfl, rfl⟩
    · rw [if_neg h2]
      have h2' : decide (y < x) = false := by simpa using h2
      go_enter Tryz.func92, Tryz.ntmps92
      go_wp2
      go_ret
      exact ⟨rfl, rfl⟩
set_option maxRecDepth 100000 in
set_option maxHeartbeats 1000000 in
theorem compareU_c (x y : Nat) (w : World) : Calls Tryz.prog 93 #[.int .u64 x, .int .u64 y] w fun e w' => e = .returned (.int .i64 (cI x y)) ∧ w = w' := by
  unfold cI
  by_cases h1 : (x : Int) < y
  · rw [if_pos h1]
    go_enter Tryz.func93, Tryz.ntmps93
    go_wp2
    go_ret
    exact ⟨rfl, rfl⟩
  · rw [if_neg h1]
    have h1' : decide ((x : Int) < y) = false := by simpa using h1
    by_cases h2 : (y : Int) < x
    · rw [if_pos h2]
      go_enter Tryz.func93, Tryz.ntmps93
      go_wp2
      go_ret
      exact ⟨rfl, rfl⟩
    · rw [if_neg h2]
      have h2' : decide ((y : Int) < x) = false := by simpa using h2
      go_enter Tryz.func93, Tryz.ntmps93
      go_wp2
      go_ret
      exact ⟨rfl, rfl⟩
def orL : List Int → Int
  | [] => 0
  | x :: r => if x ≠ 0 then x else orL r
theorem orL_drop (L : List Int) (k : Nat) (hk : k < L.length) : orL (L.drop k) = if L[k] ≠ 0 then L[k] else orL (L.drop (k + 1)) := by
  rw [List.drop_eq_getElem_cons hk]; rfl
set_option maxRecDepth 100000 in
set_option maxHeartbeats 1000000 in
theorem or_c (w : World) (v : Value) (L : List Int) (h : shZ.R w v L) : Calls Tryz.prog 91 #[v] w fun e w' => e = .returned (.int .i64 (orL L)) ∧ w = w' := by
  obtain ⟨a, c, rfl, hlc, hcm, _⟩ := h.form
  have hel := fun k hk => h.elem (k := k) hk
  have hod := fun k hk => orL_drop L k hk
  obtain ⟨M, hM⟩ : ∃ N, L.length = N := ⟨_, rfl⟩
  rw [hM] at hlc ⊢
  have hMm : M ≤ 9223372036854775807 := by unfold maxLen at hcm; omega
  obtain ⟨r, hr⟩ : ∃ r, orL L = r := ⟨_, rfl⟩
  rw [hr]
  replace hr := Lib.hid hr
  replace hel := Lib.hid hel
  replace hod := Lib.hid hod
  replace hM := Lib.hid hM
  clear h
  go_enter Tryz.func91, Tryz.ntmps91
  go_wp2
  go_loop [8] (fun i => ∃ k : Nat, i = .int .i64 k ∧ k ≤ M ∧ Hid (orL (L.drop k) = r)) (fun i => M - (intOf i).toNat)
  case atStart => exact ⟨0, rfl, by omega, by show _ = _; simpa using hr.out⟩
  case round =>
    obtain ⟨k, rfl, hk, hrk⟩ := hrel
    by_cases hlt : k < M
    · obtain ⟨g, o, c', hv, he⟩ := hel.out k (by rw [hM.out]; exact hlt)
      cases hv
      have ho := hod.out k (by rw [hM.out]; exact hlt)
      obtain ⟨x, hx⟩ : ∃ x, L[k]'(by rw [hM.out]; exact hlt) = x := ⟨_, rfl⟩
      rw [hx] at he ho
      have e0 := he 0 _ rfl
      simp only [shZ, Nat.add_zero, Nat.mul_one] at e0
      replace hx := Lib.hid hx
      clear he
      by_cases h0 : x = 0
      · subst h0
        rw [if_neg (by simp)] at ho
        replace ho := Lib.hid ho
        go_wp2
        go_round
        case rel => exact ⟨k + 1, rfl, by omega, by show _ = _; rw [← ho.out]; exact hrk.out⟩
        case measure => simp [intOf]; omega
      · rw [if_pos h0] at ho
        have h0' : (x != 0) = true := by simpa using h0
        have hxr : x = r := by rw [← ho]; exact hrk.out
        subst hxr
        replace ho := Lib.hid ho
        replace h0 := Lib.hid h0
        go_wp2
        go_ret
        exact ⟨rfl, rfl⟩
    · have hr0 : r = 0 := by
        rw [← hrk.out, List.drop_eq_nil_of_le (by rw [hM.out]; omega)]; rfl
      subst hr0
      go_wp2
      go_ret
      exact ⟨rfl, rfl⟩
end Go.Proofs.YtiplgpefapeapaaGreat

namespace Go.Proofs
open Go.Shelf
def Tryz.sortAns_ren : Go.Shelf.Ren := ⟨fun | 6 => 94 | 15 => 111 | 14 => 114 | 28 => 126 | 29 => 127 | 20 => 128 | 21 => 129 | 22 => 130 | 23 => 131 | 24 => 132 | 25 => 133 | 26 => 134 | 27 => 135 | 46 => 143 | 47 => 139 | 48 => 140 | 49 => 144 | 50 => 145 | 57 => 156 | n => n, fun | 22 => 29 | 24 => 46 | 25 => 144 | 3 => 3 | 39 => 127 | 0 => 0 | 53 => 171 | 55 => 26 | 4 => 4 | 46 => 165 | 45 => 164 | 50 => 110 | 5 => 5 | 9 => 9 | 66 => 180 | 70 => 183 | 76 => 193 | 77 => 194 | n => n, fun | n => n⟩
theorem Tryz.sortAns : Go.Proofs.SlLaysF0.n6 Tryz.prog Tryz.sortAns_ren := {
  mixed := by kernel_rfl
  f6 := ⟨Tryz.f94.name, by decide, Tryz.func94.trans (congrArg some (by kernel_rfl))⟩
  f14 := ⟨Tryz.f114.name, by decide, Tryz.func114.trans (congrArg some (by kernel_rfl))⟩
  f15 := Tryz.func111.trans (congrArg some (by kernel_rfl))
  f20 := ⟨Tryz.f128.name, by decide, Tryz.func128.trans (congrArg some (by kernel_rfl))⟩
  f21 := ⟨Tryz.f129.name, by decide, Tryz.func129.trans (congrArg some (by kernel_rfl))⟩
  f22 := ⟨Tryz.f130.name, by decide, Tryz.func130.trans (congrArg some (by kernel_rfl))⟩
  f23 := ⟨Tryz.f131.name, by decide, Tryz.func131.trans (congrArg some (by kernel_rfl))⟩
  f24 := ⟨Tryz.f132.name, by decide, Tryz.func132.trans (congrArg some (by kernel_rfl))⟩
  f25 := ⟨Tryz.f133.name, by decide, Tryz.func133.trans (congrArg some (by kernel_rfl))⟩
  f26 := ⟨Tryz.f134.name, by decide, Tryz.func134.trans (congrArg some (by kernel_rfl))⟩
  f27 := ⟨Tryz.f135.name, by decide, Tryz.func135.trans (congrArg some (by kernel_rfl))⟩
  f28 := Tryz.func126.trans (congrArg some (by kernel_rfl))
  f29 := Tryz.func127.trans (congrArg some (by kernel_rfl))
  f46 := ⟨Tryz.f143.name, by decide, Tryz.func143.trans (congrArg some (by kernel_rfl))⟩
  f47 := Tryz.func139.trans (congrArg some (by kernel_rfl))
  f48 := Tryz.func140.trans (congrArg some (by kernel_rfl))
  f49 := ⟨Tryz.f144.name, by decide, Tryz.func144.trans (congrArg some (by kernel_rfl))⟩
  f50 := ⟨Tryz.f145.name, by decide, Tryz.func145.trans (congrArg some (by kernel_rfl))⟩
  f57 := ⟨Tryz.f156.name, by decide, Tryz.func156.trans (congrArg some (by kernel_rfl))⟩
  t0 := Tryz.underlying0
  a0 := Tryz.isAgg0
  z0 := Tryz.sizeOf0
  v0 := Tryz.zeroValue0
  t3 := Tryz.underlying3
  a3 := Tryz.isAgg3
  z3 := Tryz.sizeOf3
  v3 := Tryz.zeroValue3
  t4 := Tryz.underlying4
  a4 := Tryz.isAgg4
  z4 := Tryz.sizeOf4
  v4 := Tryz.zeroValue4
  t5 := Tryz.underlying5
  a5 := Tryz.isAgg5
  z5 := Tryz.sizeOf5
  v5 := Tryz.zeroValue5
  t9 := Tryz.underlying9
  a9 := Tryz.isAgg9
  z9 := Tryz.sizeOf9
  v9 := Tryz.zeroValue9
  t22 := Tryz.underlying29
  a22 := Tryz.isAgg29
  z22 := Tryz.sizeOf29
  v22 := Tryz.zeroValue29
  t25 := Tryz.underlying144
  a25 := Tryz.isAgg144
  z25 := Tryz.sizeOf144
  v25 := Tryz.zeroValue144
  t39 := Tryz.underlying127
  a39 := Tryz.isAgg127
  z39 := Tryz.sizeOf127
  v39 := Tryz.zeroValue127
  t45 := Tryz.underlying164
  a45 := Tryz.isAgg164
  z45 := Tryz.sizeOf164
  v45 := Tryz.zeroValue164
  t46 := Tryz.underlying165
  a46 := Tryz.isAgg165
  z46 := Tryz.sizeOf165
  v46 := Tryz.zeroValue165
  t50 := Tryz.underlying110
  a50 := Tryz.isAgg110
  z50 := Tryz.sizeOf110
  v50 := Tryz.zeroValue110
  t53 := Tryz.underlying171
  a53 := Tryz.isAgg171
  z53 := Tryz.sizeOf171
  v53 := Tryz.zeroValue171
  t55 := Tryz.underlying26
  a55 := Tryz.isAgg26
  z55 := Tryz.sizeOf26
  v55 := Tryz.zeroValue26
  t66 := Tryz.underlying180
  a66 := Tryz.isAgg180
  z66 := Tryz.sizeOf180
  v66 := Tryz.zeroValue180
  t70 := Tryz.underlying183
  a70 := Tryz.isAgg183
  z70 := Tryz.sizeOf183
  v70 := Tryz.zeroValue183
  t76 := Tryz.underlying193
  a76 := Tryz.isAgg193
  z76 := Tryz.sizeOf193
  v76 := Tryz.zeroValue193
  t77 := Tryz.underlying194
  a77 := Tryz.isAgg194
  z77 := Tryz.sizeOf194
  v77 := Tryz.zeroValue194 }
def Tryz.sortNeed_ren : Go.Shelf.Ren := ⟨fun | 6 => 89 | 15 => 111 | 14 => 110 | 28 => 126 | 29 => 127 | 20 => 118 | 21 => 119 | 22 => 120 | 23 => 121 | 24 => 122 | 25 => 123 | 26 => 124 | 27 => 125 | 46 => 138 | 47 => 139 | 48 => 140 | 49 => 141 | 50 => 142 | 57 => 155 | n => n, fun | 22 => 42 | 24 => 28 | 25 => 142 | 3 => 3 | 39 => 127 | 0 => 0 | 53 => 171 | 55 => 26 | 4 => 4 | 46 => 165 | 45 => 164 | 50 => 110 | 5 => 5 | 9 => 9 | 66 => 180 | 70 => 183 | 76 => 193 | 77 => 194 | n => n, fun | n => n⟩
theorem Tryz.sortNeed : Go.Proofs.SlLaysF0.n6 Tryz.prog Tryz.sortNeed_ren := {
  mixed := by kernel_rfl
  f6 := ⟨Tryz.f89.name, by decide, Tryz.func89.trans (congrArg some (by kernel_rfl))⟩
  f14 := ⟨Tryz.f110.name, by decide, Tryz.func110.trans (congrArg some (by kernel_rfl))⟩
  f15 := Tryz.func111.trans (congrArg some (by kernel_rfl))
  f20 := ⟨Tryz.f118.name, by decide, Tryz.func118.trans (congrArg some (by kernel_rfl))⟩
  f21 := ⟨Tryz.f119.name, by decide, Tryz.func119.trans (congrArg some (by kernel_rfl))⟩
  f22 := ⟨Tryz.f120.name, by decide, Tryz.func120.trans (congrArg some (by kernel_rfl))⟩
  f23 := ⟨Tryz.f121.name, by decide, Tryz.func121.trans (congrArg some (by kernel_rfl))⟩
  f24 := ⟨Tryz.f122.name, by decide, Tryz.func122.trans (congrArg some (by kernel_rfl))⟩
  f25 := ⟨Tryz.f123.name, by decide, Tryz.func123.trans (congrArg some (by kernel_rfl))⟩
  f26 := ⟨Tryz.f124.name, by decide, Tryz.func124.trans (congrArg some (by kernel_rfl))⟩
  f27 := ⟨Tryz.f125.name, by decide, Tryz.func125.trans (congrArg some (by kernel_rfl))⟩
  f28 := Tryz.func126.trans (congrArg some (by kernel_rfl))
  f29 := Tryz.func127.trans (congrArg some (by kernel_rfl))
  f46 := ⟨Tryz.f138.name, by decide, Tryz.func138.trans (congrArg some (by kernel_rfl))⟩
  f47 := Tryz.func139.trans (congrArg some (by kernel_rfl))
  f48 := Tryz.func140.trans (congrArg some (by kernel_rfl))
  f49 := ⟨Tryz.f141.name, by decide, Tryz.func141.trans (congrArg some (by kernel_rfl))⟩
  f50 := ⟨Tryz.f142.name, by decide, Tryz.func142.trans (congrArg some (by kernel_rfl))⟩
  f57 := ⟨Tryz.f155.name, by decide, Tryz.func155.trans (congrArg some (by kernel_rfl))⟩
  t0 := Tryz.underlying0
  a0 := Tryz.isAgg0
  z0 := Tryz.sizeOf0
  v0 := Tryz.zeroValue0
  t3 := Tryz.underlying3
  a3 := Tryz.isAgg3
  z3 := Tryz.sizeOf3
  v3 := Tryz.zeroValue3
  t4 := Tryz.underlying4
  a4 := Tryz.isAgg4
  z4 := Tryz.sizeOf4
  v4 := Tryz.zeroValue4
  t5 := Tryz.underlying5
  a5 := Tryz.isAgg5
  z5 := Tryz.sizeOf5
  v5 := Tryz.zeroValue5
  t9 := Tryz.underlying9
  a9 := Tryz.isAgg9
  z9 := Tryz.sizeOf9
  v9 := Tryz.zeroValue9
  t22 := Tryz.underlying42
  a22 := Tryz.isAgg42
  z22 := Tryz.sizeOf42
  v22 := Tryz.zeroValue42
  t25 := Tryz.underlying142
  a25 := Tryz.isAgg142
  z25 := Tryz.sizeOf142
  v25 := Tryz.zeroValue142
  t39 := Tryz.underlying127
  a39 := Tryz.isAgg127
  z39 := Tryz.sizeOf127
  v39 := Tryz.zeroValue127
  t45 := Tryz.underlying164
  a45 := Tryz.isAgg164
  z45 := Tryz.sizeOf164
  v45 := Tryz.zeroValue164
  t46 := Tryz.underlying165
  a46 := Tryz.isAgg165
  z46 := Tryz.sizeOf165
  v46 := Tryz.zeroValue165
  t50 := Tryz.underlying110
  a50 := Tryz.isAgg110
  z50 := Tryz.sizeOf110
  v50 := Tryz.zeroValue110
  t53 := Tryz.underlying171
  a53 := Tryz.isAgg171
  z53 := Tryz.sizeOf171
  v53 := Tryz.zeroValue171
  t55 := Tryz.underlying26
  a55 := Tryz.isAgg26
  z55 := Tryz.sizeOf26
  v55 := Tryz.zeroValue26
  t66 := Tryz.underlying180
  a66 := Tryz.isAgg180
  z66 := Tryz.sizeOf180
  v66 := Tryz.zeroValue180
  t70 := Tryz.underlying183
  a70 := Tryz.isAgg183
  z70 := Tryz.sizeOf183
  v70 := Tryz.zeroValue183
  t76 := Tryz.underlying193
  a76 := Tryz.isAgg193
  z76 := Tryz.sizeOf193
  v76 := Tryz.zeroValue193
  t77 := Tryz.underlying194
  a77 := Tryz.isAgg194
  z77 := Tryz.sizeOf194
  v77 := Tryz.zeroValue194 }
end Go.Proofs

namespace Go.Proofs.YtiplgpefapeapaaGreat
open Go.RowKit Go.Sort Go.Shelf Go.Proofs

theorem cells8t {w : World} {b : Nat} {x0 x1 x2 x3 x4 x5 x6 x7 : Value} {t : TypeId} {f : Nat × Nat} (h : w.heap[b]? = some (.cells #[x0, x1, x2, x3, x4, x5, x6, x7] t f)) : w.cell? ⟨b, 0, none⟩ = some x0 ∧ w.cell? ⟨b, 1, none⟩ = some x1 ∧ w.cell? ⟨b, 2, none⟩ = some x2 :=
  ⟨by simp [World.cell?, h], by simp [World.cell?, h], by simp [World.cell?, h]⟩
def cfA (x y : AnV) : Int := orL [cI x.m y.m, cI x.ow y.ow, cI x.n y.n]
def cfT (x y : T3) : Int := orL [cI x.1 y.1, cI x.2.1 y.2.1]
theorem shZ_of3 (w : World) (a b c : Int) (t : TypeId) : shZ.R (w.alloc (.cells #[.int .i64 a, .int .i64 b, .int .i64 c] t)) (.slice (some ⟨w.heap.size, 0, none⟩) 3 3) [a, b, c] :=
  Sh.R.made shZ w [a, b, c] #[.int .i64 a, .int .i64 b, .int .i64 c] t rfl (by simp [maxLen]) 3 rfl
theorem shZ_of2 (w : World) (a b : Int) (t : TypeId) : shZ.R (w.alloc (.cells #[.int .i64 a, .int .i64 b] t)) (.slice (some ⟨w.heap.size, 0, none⟩) 2 2) [a, b] :=
  Sh.R.made shZ w [a, b] #[.int .i64 a, .int .i64 b] t rfl (by simp [maxLen]) 2 rfl
set_option maxRecDepth 100000 in
set_option maxHeartbeats 2000000 in
theorem cmpT_c (x y : T3) (w : World) : Calls Tryz.prog 90 #[tV x, tV y] w fun e w' => e = .returned (.int .i64 (cfT x y)) ∧ ∃ q os, w' = grow (w.drewN q) os := by
  obtain ⟨x0, x1, x2⟩ := x
  obtain ⟨y0, y1, y2⟩ := y
  obtain ⟨r, hr⟩ : ∃ r, cfT (x0, x1, x2) (y0, y1, y2) = r := ⟨_, rfl⟩
  rw [hr]
  replace hr := Lib.hid hr
  have hk2 : Keeps [] (w.alloc (.cells #[.int .i64 x0, .int .u64 x1, .int .i64 x2] tN)) ((w.alloc (.cells #[.int .i64 x0, .int .u64 x1, .int .i64 x2] tN)).alloc (.cells #[.int .i64 y0, .int .u64 y1, .int .i64 y2] tN)) := (Keeps.refl _ _).alloc _
  have b1 := (hk2.block w.heap.size (by simp) (by simp)).trans (heap_alloc_new w (.cells #[.int .i64 x0, .int .u64 x1, .int .i64 x2] tN))
  have b2 := heap_alloc_new (w.alloc (.cells #[.int .i64 x0, .int .u64 x1, .int .i64 x2] tN)) (.cells #[.int .i64 y0, .int .u64 y1, .int .i64 y2] tN)
  rw [show (w.alloc (.cells #[.int .i64 x0, .int .u64 x1, .int .i64 x2] tN)).heap.size = w.heap.size + 1 by simp] at b2
  have hgr : (w.alloc (.cells #[.int .i64 x0, .int .u64 x1, .int .i64 x2] tN)).alloc (.cells #[.int .i64 y0, .int .u64 y1, .int .i64 y2] tN) = grow w #[.cells #[.int .i64 x0, .int .u64 x1, .int .i64 x2] tN, .cells #[.int .i64 y0, .int .u64 y1, .int .i64 y2] tN] := by
    rw [alloc_eq_grow, alloc_eq_grow, grow_grow]; rfl
  replace hgr := Lib.hid hgr
  go_enter Tryz.func90, Tryz.ntmps90
  go_wp2
  generalize (w.alloc (.cells #[.int .i64 x0, .int .u64 x1, .int .i64 x2] tN)).alloc (.cells #[.int .i64 y0, .int .u64 y1, .int .i64 y2] tN) = W at *
  obtain ⟨p0, p1, _⟩ := cells3t b1
  obtain ⟨s0, s1, _⟩ := cells3t b2
  clear b1 b2 hk2
  refine Free.wp_region_chain (fun i => i == 4 || i == 9 || i == 10 || i == 11) (fun i => true) (fun _ _ => False) (by kernel_rfl) (by kernel_rfl) (by kernel_rfl) ?_
  (repeat (first | (apply Free.cw_pure rfl rfl; (intro w'; go_simp <;> exact rfl); go_frame) | (apply Free.cw_steady rfl rfl rfl; (intro w' hS; have q0 := Free.sx_cell hS p0 (fun _ _ hT => hT); have q1 := Free.sx_cell hS p1 (fun _ _ hT => hT); have q2 := Free.sx_cell hS s0 (fun _ _ hT => hT); have q3 := Free.sx_cell hS s1 (fun _ _ hT => hT); go_simp <;> exact rfl); go_frame) | (refine Free.cw_skip rfl ?_; go_frame)))
  refine Free.cw_loud rfl rfl (fun K hK => ?_)
  go_wp2_with fail
  refine (compareI_c x0 y0 _).mono ?_
  rintro e _ ⟨rfl, rfl⟩
  refine hK _ _ rfl (Free.KeepsP.refl _ _) ?_
  clear hK K
  (repeat (first | (apply Free.cw_pure rfl rfl; (intro w'; go_simp <;> exact rfl); go_frame) | (apply Free.cw_steady rfl rfl rfl; (intro w' hS; have q0 := Free.sx_cell hS p0 (fun _ _ hT => hT); have q1 := Free.sx_cell hS p1 (fun _ _ hT => hT); have q2 := Free.sx_cell hS s0 (fun _ _ hT => hT); have q3 := Free.sx_cell hS s1 (fun _ _ hT => hT); go_simp <;> exact rfl); go_frame) | (refine Free.cw_skip rfl ?_; go_frame)))
  refine Free.cw_loud rfl rfl (fun K hK => ?_)
  go_wp2_with fail
  refine (compareU_c x1 y1 _).mono ?_
  rintro e _ ⟨rfl, rfl⟩
  refine hK _ _ rfl (Free.KeepsP.refl _ _) ?_
  clear hK K
  (repeat (first | (apply Free.cw_pure rfl rfl; (intro w'; go_simp <;> exact rfl); go_frame) | (apply Free.cw_steady rfl rfl rfl; (intro w' hS; have q0 := Free.sx_cell hS p0 (fun _ _ hT => hT); have q1 := Free.sx_cell hS p1 (fun _ _ hT => hT); have q2 := Free.sx_cell hS s0 (fun _ _ hT => hT); have q3 := Free.sx_cell hS s1 (fun _ _ hT => hT); go_simp <;> exact rfl); go_frame) | (refine Free.cw_skip rfl ?_; go_frame)))
  refine Free.cw_loud rfl rfl (fun K hK => ?_)
  go_wp2
  refine hK _ _ rfl (Free.KeepsP.alloc _ _ _) ?_
  clear hK K
  (repeat (apply Free.cw_pure rfl rfl; (intro w'; go_simp <;> exact rfl); go_frame))
  refine Free.cw_loud rfl rfl (fun K hK => ?_)
  go_wp2_with fail
  refine (or_c _ _ _ ((shZ_of2 W (cI x0 y0) (cI x1 y1) 3).keeps ((Keeps.refl [] _).drew))).mono ?_
  rintro e _ ⟨rfl, rfl⟩
  refine hK _ _ rfl (Free.KeepsP.refl _ _) ?_
  clear hK K
  (repeat (apply Free.cw_pure rfl rfl; (intro w'; go_simp <;> exact rfl); go_frame))
  refine Free.cw_nil ?_
  go_wp2
  go_ret
  exact ⟨by rw [← hr.out]; rfl, 1, _, by rw [hgr.out, alloc_eq_grow, grow_grow]; rfl⟩
set_option maxRecDepth 100000 in
set_option maxHeartbeats 2000000 in
theorem cmpA_c (x y : AnV) (w : World) : Calls Tryz.prog 95 #[aV x, aV y] w fun e w' => e = .returned (.int .i64 (cfA x y)) ∧ ∃ q os, w' = grow (w.drewN q) os := by
  obtain ⟨r, hr⟩ : ∃ r, cfA x y = r := ⟨_, rfl⟩
  rw [hr]
  obtain ⟨x0, x1, x2, x3, x4, x5, x6, x7, x8, x9⟩ := x
  obtain ⟨y0, y1, y2, y3, y4, y5, y6, y7, y8, y9⟩ := y
  replace hr := Lib.hid hr
  have hk2 : Keeps [] (w.alloc (.cells #[.int .i64 x0, .int .i64 x1, .int .u64 x2, .int .i64 x3, .bool x4, .bool x5, .int .i64 x6, .slice x7 x8 x9] tA)) ((w.alloc (.cells #[.int .i64 x0, .int .i64 x1, .int .u64 x2, .int .i64 x3, .bool x4, .bool x5, .int .i64 x6, .slice x7 x8 x9] tA)).alloc (.cells #[.int .i64 y0, .int .i64 y1, .int .u64 y2, .int .i64 y3, .bool y4, .bool y5, .int .i64 y6, .slice y7 y8 y9] tA)) := (Keeps.refl _ _).alloc _
  have b1 := (hk2.block w.heap.size (by simp) (by simp)).trans (heap_alloc_new w (.cells #[.int .i64 x0, .int .i64 x1, .int .u64 x2, .int .i64 x3, .bool x4, .bool x5, .int .i64 x6, .slice x7 x8 x9] tA))
  have b2 := heap_alloc_new (w.alloc (.cells #[.int .i64 x0, .int .i64 x1, .int .u64 x2, .int .i64 x3, .bool x4, .bool x5, .int .i64 x6, .slice x7 x8 x9] tA)) (.cells #[.int .i64 y0, .int .i64 y1, .int .u64 y2, .int .i64 y3, .bool y4, .bool y5, .int .i64 y6, .slice y7 y8 y9] tA)
  rw [show (w.alloc (.cells #[.int .i64 x0, .int .i64 x1, .int .u64 x2, .int .i64 x3, .bool x4, .bool x5, .int .i64 x6, .slice x7 x8 x9] tA)).heap.size = w.heap.size + 1 by simp] at b2
  have hgr : (w.alloc (.cells #[.int .i64 x0, .int .i64 x1, .int .u64 x2, .int .i64 x3, .bool x4, .bool x5, .int .i64 x6, .slice x7 x8 x9] tA)).alloc (.cells #[.int .i64 y0, .int .i64 y1, .int .u64 y2, .int .i64 y3, .bool y4, .bool y5, .int .i64 y6, .slice y7 y8 y9] tA) = grow w #[.cells #[.int .i64 x0, .int .i64 x1, .int .u64 x2, .int .i64 x3, .bool x4, .bool x5, .int .i64 x6, .slice x7 x8 x9] tA, .cells #[.int .i64 y0, .int .i64 y1, .int .u64 y2, .int .i64 y3, .bool y4, .bool y5, .int .i64 y6, .slice y7 y8 y9] tA] := by
    rw [alloc_eq_grow, alloc_eq_grow, grow_grow]; rfl
  replace hgr := Lib.hid hgr
  simp only [aV, AnV.v]
  go_enter Tryz.func95, Tryz.ntmps95
  go_wp2
  generalize (w.alloc (.cells #[.int .i64 x0, .int .i64 x1, .int .u64 x2, .int .i64 x3, .bool x4, .bool x5, .int .i64 x6, .slice x7 x8 x9] tA)).alloc (.cells #[.int .i64 y0, .int .i64 y1, .int .u64 y2, .int .i64 y3, .bool y4, .bool y5, .int .i64 y6, .slice y7 y8 y9] tA) = W at *
  obtain ⟨p0, p1, p2⟩ := cells8t b1
  obtain ⟨s0, s1, s2⟩ := cells8t b2
  clear b1 b2 hk2
  refine Free.wp_region_chain (fun i => i == 4 || i == 9 || i == 14 || i == 15 || i == 16) (fun i => true) (fun _ _ => False) (by kernel_rfl) (by kernel_rfl) (by kernel_rfl) ?_
  (repeat (first | (apply Free.cw_pure rfl rfl; (intro w'; go_simp <;> exact rfl); go_frame) | (apply Free.cw_steady rfl rfl rfl; (intro w' hS; have q0 := Free.sx_cell hS p0 (fun _ _ hT => hT); have q1 := Free.sx_cell hS p1 (fun _ _ hT => hT); have q2 := Free.sx_cell hS p2 (fun _ _ hT => hT); have q3 := Free.sx_cell hS s0 (fun _ _ hT => hT); have q4 := Free.sx_cell hS s1 (fun _ _ hT => hT); have q5 := Free.sx_cell hS s2 (fun _ _ hT => hT); go_simp <;> exact rfl); go_frame) | (refine Free.cw_skip rfl ?_; go_frame)))
  refine Free.cw_loud rfl rfl (fun K hK => ?_)
  go_wp2_with fail
  refine (compareI_c x0 y0 _).mono ?_
  rintro e _ ⟨rfl, rfl⟩
  refine hK _ _ rfl (Free.KeepsP.refl _ _) ?_
  clear hK K
  (repeat (first | (apply Free.cw_pure rfl rfl; (intro w'; go_simp <;> exact rfl); go_frame) | (apply Free.cw_steady rfl rfl rfl; (intro w' hS; have q0 := Free.sx_cell hS p0 (fun _ _ hT => hT); have q1 := Free.sx_cell hS p1 (fun _ _ hT => hT); have q2 := Free.sx_cell hS p2 (fun _ _ hT => hT); have q3 := Free.sx_cell hS s0 (fun _ _ hT => hT); have q4 := Free.sx_cell hS s1 (fun _ _ hT => hT); have q5 := Free.sx_cell hS s2 (fun _ _ hT => hT); go_simp <;> exact rfl); go_frame) | (refine Free.cw_skip rfl ?_; go_frame)))
  refine Free.cw_loud rfl rfl (fun K hK => ?_)
  go_wp2_with fail
  refine (compareI_c x1 y1 _).mono ?_
  rintro e _ ⟨rfl, rfl⟩
  refine hK _ _ rfl (Free.KeepsP.refl _ _) ?_
  clear hK K
  (repeat (first | (apply Free.cw_pure rfl rfl; (intro w'; go_simp <;> exact rfl); go_frame) | (apply Free.cw_steady rfl rfl rfl; (intro w' hS; have q0 := Free.sx_cell hS p0 (fun _ _ hT => hT); have q1 := Free.sx_cell hS p1 (fun _ _ hT => hT); have q2 := Free.sx_cell hS p2 (fun _ _ hT => hT); have q3 := Free.sx_cell hS s0 (fun _ _ hT => hT); have q4 := Free.sx_cell hS s1 (fun _ _ hT => hT); have q5 := Free.sx_cell hS s2 (fun _ _ hT => hT); go_simp <;> exact rfl); go_frame) | (refine Free.cw_skip rfl ?_; go_frame)))
  refine Free.cw_loud rfl rfl (fun K hK => ?_)
  go_wp2_with fail
  refine (compareU_c x2 y2 _).mono ?_
  rintro e _ ⟨rfl, rfl⟩
  refine hK _ _ rfl (Free.KeepsP.refl _ _) ?_
  clear hK K
  (repeat (apply Free.cw_pure rfl rfl; (intro w'; go_simp <;> exact rfl); go_frame))
  refine Free.cw_loud rfl rfl (fun K hK => ?_)
  go_wp2
  refine hK _ _ rfl (Free.KeepsP.alloc _ _ _) ?_
  clear hK K
  (repeat (apply Free.cw_pure rfl rfl; (intro w'; go_simp <;> exact rfl); go_frame))
  refine Free.cw_loud rfl rfl (fun K hK => ?_)
  go_wp2_with fail
  refine (or_c _ _ _ ((shZ_of3 W (cI x0 y0) (cI x1 y1) (cI x2 y2) 3).keeps ((Keeps.refl [] _).drew))).mono ?_
  rintro e _ ⟨rfl, rfl⟩
  refine hK _ _ rfl (Free.KeepsP.refl _ _) ?_
  clear hK K
  (repeat (apply Free.cw_pure rfl rfl; (intro w'; go_simp <;> exact rfl); go_frame))
  refine Free.cw_nil ?_
  go_wp2
  go_ret
  exact ⟨by rw [← hr.out]; rfl, 1, _, by rw [hgr.out, alloc_eq_grow, grow_grow]; rfl⟩
/-- The orders. -/
def qlt (x y : Qn) : Prop := x.1 < y.1 ∨ (x.1 = y.1 ∧ (x.2.1 < y.2.1 ∨ (x.2.1 = y.2.1 ∧ x.2.2 < y.2.2)))
instance : DecidableRel qlt := fun _ _ => inferInstanceAs (Decidable (_ ∨ _))
def tlt (x y : T3) : Prop := x.1 < y.1 ∨ (x.1 = y.1 ∧ x.2.1 < y.2.1)
instance : DecidableRel tlt := fun _ _ => inferInstanceAs (Decidable (_ ∨ _))
def AnV.q (x : AnV) : Qn := (x.m, x.ow, x.n)
theorem cI_lt (x y : Int) : cI x y < 0 ↔ x < y := by unfold cI; split <;> (try split) <;> omega
theorem cI_zero (x y : Int) : cI x y = 0 ↔ x = y := by unfold cI; split <;> (try split) <;> omega
theorem orL_lt (a : Int) (L : List Int) : orL (a :: L) < 0 ↔ a < 0 ∨ (a = 0 ∧ orL L < 0) := by
  rw [show orL (a :: L) = if a ≠ 0 then a else orL L from rfl]
  split
  · rename_i h; constructor
    · exact .inl
    · rintro (h1 | ⟨h1, _⟩)
      · exact h1
      · exact absurd h1 h
  · rename_i h
    have h0 : a = 0 := Classical.not_not.1 h
    constructor
    · exact fun h2 => .inr ⟨h0, h2⟩
    · rintro (h1 | ⟨_, h2⟩)
      · omega
      · exact h2
theorem ltA_iff (x y : AnV) : ltOf cfA x y = decide (qlt x.q y.q) := by
  unfold ltOf cfA
  rw [decide_eq_decide, orL_lt, orL_lt, orL_lt, cI_lt, cI_lt, cI_lt, cI_zero, cI_zero, cI_zero]
  simp only [orL, qlt, AnV.q]
  omega
theorem ltT_iff (x y : T3) : ltOf cfT x y = decide (tlt x y) := by
  unfold ltOf cfT
  rw [decide_eq_decide, orL_lt, orL_lt, cI_lt, cI_lt, cI_zero, cI_zero]
  simp only [orL, tlt]
  omega
theorem qlt_irrefl (x : Qn) : ¬ qlt x x := by unfold qlt; omega
theorem qlt_trans {x y z : Qn} : qlt x y → qlt y z → qlt x z := by unfold qlt; omega
theorem qlt_total {x y : Qn} : ¬ qlt x y → ¬ qlt y x → x = y := by
  obtain ⟨a, b, c⟩ := x
  obtain ⟨a', b', c'⟩ := y
  unfold qlt
  intro h1 h2
  simp only at h1 h2
  have : a = a' := by omega
  have : b = b' := by omega
  have : c = c' := by omega
  simp_all
theorem swoA : SWO (ltOf cfA) where
  irrefl x := by rw [ltA_iff]; simp [qlt_irrefl]
  trans x y z h1 h2 := by
    rw [ltA_iff] at *
    exact decide_eq_true (qlt_trans (of_decide_eq_true h1) (of_decide_eq_true h2))
  ntrans x y z h1 h2 := by
    rw [ltA_iff] at *
    have h1 := of_decide_eq_false h1
    have h2 := of_decide_eq_false h2
    refine decide_eq_false (fun h => ?_)
    unfold qlt at *
    omega
theorem swoT : SWO (ltOf cfT) where
  irrefl x := by rw [ltT_iff]; exact decide_eq_false (by unfold tlt; omega)
  trans x y z h1 h2 := by
    rw [ltT_iff] at *
    have h1 := of_decide_eq_true h1
    have h2 := of_decide_eq_true h2
    refine decide_eq_true ?_
    unfold tlt at *
    omega
  ntrans x y z h1 h2 := by
    rw [ltT_iff] at *
    have h1 := of_decide_eq_false h1
    have h2 := of_decide_eq_false h2
    refine decide_eq_false (fun h => ?_)
    unfold tlt at *
    omega
instance : Inhabited AnV := ⟨.zero⟩
/-- slices.SortFunc over answers. -/
theorem sortA_c (w : World) (B : Nat) (v : Value) (L : List AnV) (h : shA.O w B tA v L) (hl : L.length ≤ 1000000) :
    Calls Tryz.prog 94 #[v, .func (.func 95) #[] #[]] w fun e w' => e = .returned (.tuple #[]) ∧ ∃ L', L'.Perm L ∧ L'.Pairwise (fun x y => ¬ qlt y.q x.q) ∧ shA.O w' B tA v L' ∧ Keeps v.ownBlock.toList w w' := by
  obtain ⟨_, h2⟩ := id h
  rcases h2 with ⟨rfl, h0⟩ | ⟨g, cap, cur, rfl, hb, hg, _⟩
  · have hL : L = [] := by
      cases L with
      | nil => rfl
      | cons x t => simp [Sh.cs, shA, AnV.cs] at h0
    subst hL
    refine (AnyF.slices_SortFunc_none Tryz.sortAns none 0 (.func (.func 95) #[] #[]) w).mono ?_
    rintro e w' ⟨rfl, rfl⟩
    exact ⟨rfl, [], List.Perm.refl _, List.Pairwise.nil, h, Keeps.refl _ _⟩
  · have hgl : g < w.heap.size := (Array.getElem?_eq_some_iff.1 hg).1
    have eg : ∀ args w, (callFunc 95 args).run Tryz.prog w = .ok (.enter 95 args) w := enters_of Tryz.func95 (by kernel_rfl) rfl
    have hcmp : CmpLays Tryz.prog 95 #[] shA.cf 8 cfA g 0 L.toArray.size w := fun m os dk hs x y => cmpA_c x y _
    have hcon := AnyQ.slices_SortFunc Tryz.sortAns 8 (fun w => by kernel_rfl) (fun w => by kernel_rfl) shA.cf shA.len shA.one cfA swoA 95 #[] g 0 cap L.toArray w eg hcmp h.holds hgl (by simp; omega)
    simp only [List.size_toArray] at hcon
    refine hcon.mono ?_
    rintro e w' ⟨rfl, d', m, os, hp, hs, rfl⟩
    have hp' : PermIn 0 L.toArray.size L.toArray d' := by simpa using hp
    obtain ⟨hd, hpl⟩ := Sh.perm_of_permIn hp'
    have hd2 : d'.size = L.length := by simpa using hd
    rw [← hd2] at hs
    have hpw := Sh.pairwise_of_sortedIn hs
    obtain ⟨h3, h4⟩ := Sh.O.sorted (m := m) (os := os) h hd2
    exact ⟨rfl, d'.toList, by simpa using hpl, hpw.imp (fun h => by rw [ltA_iff] at h; exact of_decide_eq_false h), h3, h4⟩
/-- slices.SortFunc over needs. -/
theorem sortT_c (w : World) (B : Nat) (v : Value) (L : List T3) (h : shT.O w B tN v L) (hl : L.length ≤ 1000000000000) :
    Calls Tryz.prog 89 #[v, .func (.func 90) #[] #[]] w fun e w' => e = .returned (.tuple #[]) ∧ ∃ L', L'.Perm L ∧ L'.Pairwise (fun x y => ¬ tlt y x) ∧ shT.O w' B tN v L' ∧ Keeps v.ownBlock.toList w w' := by
  obtain ⟨_, h2⟩ := id h
  rcases h2 with ⟨rfl, h0⟩ | ⟨g, cap, cur, rfl, hb, hg, _⟩
  · have hL : L = [] := by
      cases L with
      | nil => rfl
      | cons x t => simp [Sh.cs, shT] at h0
    subst hL
    refine (AnyF.slices_SortFunc_none Tryz.sortNeed none 0 (.func (.func 90) #[] #[]) w).mono ?_
    rintro e w' ⟨rfl, rfl⟩
    exact ⟨rfl, [], List.Perm.refl _, List.Pairwise.nil, h, Keeps.refl _ _⟩
  · have hgl : g < w.heap.size := (Array.getElem?_eq_some_iff.1 hg).1
    have eg : ∀ args w, (callFunc 90 args).run Tryz.prog w = .ok (.enter 90 args) w := enters_of Tryz.func90 (by kernel_rfl) rfl
    have hcmp : CmpLays Tryz.prog 90 #[] shT.cf 3 cfT g 0 L.toArray.size w := fun m os dk hs x y => cmpT_c x y _
    have hcon := AnyQ.slices_SortFunc Tryz.sortNeed 3 (fun w => by kernel_rfl) (fun w => by kernel_rfl) shT.cf shT.len shT.one cfT swoT 90 #[] g 0 cap L.toArray w eg hcmp h.holds hgl (by simp; omega)
    simp only [List.size_toArray] at hcon
    refine hcon.mono ?_
    rintro e w' ⟨rfl, d', m, os, hp, hs, rfl⟩
    have hp' : PermIn 0 L.toArray.size L.toArray d' := by simpa using hp
    obtain ⟨hd, hpl⟩ := Sh.perm_of_permIn hp'
    have hd2 : d'.size = L.length := by simpa using hd
    rw [← hd2] at hs
    have hpw := Sh.pairwise_of_sortedIn hs
    obtain ⟨h3, h4⟩ := Sh.O.sorted (m := m) (os := os) h hd2
    exact ⟨rfl, d'.toList, by simpa using hpl, hpw.imp (fun h => by rw [ltT_iff] at h; exact of_decide_eq_false h), h3, h4⟩
end Go.Proofs.YtiplgpefapeapaaGreat
