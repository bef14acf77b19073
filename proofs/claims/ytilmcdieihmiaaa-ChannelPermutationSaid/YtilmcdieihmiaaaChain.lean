/- A region that draws its order, walked once in the order of the text: the operations that act ('loud') are in one fixed order with each other; every other operation either is ordered against all of them, or is 'steady': it yields the same value in every world that can come up. Of whatever program. -/
import Derived.Test.YtilmcdieihmiaaaFree
namespace Go.Proofs.Ytilmcdieihmiaaa
namespace Free
open Go Go.RowKit

def plainRes : Result Next → Prop
  | .ok (.value _) _ => True
  | .ok .skip _ => True
  | .halt _ _ => True
  | _ => False

section
variable (P : Program) (ops : Array Oper) (lo st : Nat → Bool) (T : Nat → Nat → Prop) (w0 : World) (Q : Act → World → Prop) (a0 : Act)

/-- THE WALK, in the order of the text. -/
def cwalk : List Oper → Nat → Act → World → Prop
  | [], _, a, w => Q a w
  | o :: r, i, a, w =>
    if Region.wanted o (yielded ops a.tmps) then
      if lo i then o.wp P a w (fun a' w' => a'.defers = a.defers ∧ KeepsP (T i) w w' ∧ cwalk r (i + 1) a' w') (fun _ _ _ => False)
      else if st i then ∃ c, (∀ w', KeepsP (sx ops T i) w0 w' → Quiet P o a w' c) ∧ cwalk r (i + 1) (a.put o.dst c) w
      else ∃ c, Quiet P o a w c ∧ cwalk r (i + 1) (a.put o.dst c) w
    else cwalk r (i + 1) (a.put o.dst undef) w

/-- What the region's text must be like; asked of the kernel. -/
def chainB : Bool := (List.range ops.size).all fun j => (List.range j).all fun i =>
  (!(lo i && lo j) || pre ops i j) && (!(lo i && !lo j && !st j) || pre ops i j) && (!(lo j && !lo i && !st i) || pre ops i j)
structure Chain : Prop where
  ll : ∀ i j, i < j → j < ops.size → lo i = true → lo j = true → pre ops i j = true
  lr : ∀ i j, i < j → j < ops.size → lo i = true → lo j = false → st j = false → pre ops i j = true
  rl : ∀ i j, i < j → j < ops.size → lo i = false → st i = false → lo j = true → pre ops i j = true
variable {ops lo st} in
theorem chain_of (h : chainB ops lo st = true) : Chain ops lo st := by
  have h1 : ∀ i j, i < j → j < ops.size → ((!(lo i && lo j) || pre ops i j) && (!(lo i && !lo j && !st j) || pre ops i j) && (!(lo j && !lo i && !st i) || pre ops i j)) = true := fun i j hij hj =>
    List.all_eq_true.1 (List.all_eq_true.1 h j (List.mem_range.2 hj)) i (List.mem_range.2 hij)
  refine ⟨fun i j a b c d => ?_, fun i j a b c d e => ?_, fun i j a b c d e => ?_⟩
  · have := h1 i j a b; simp [c, d] at this; exact this
  · have := h1 i j a b; simp [c, d, e] at this; exact this
  · have := h1 i j a b; simp [c, d, e] at this; exact this

def OKs (u : Nat → Value) (j : Nat) : Prop := ∀ o, ops[j]? = some o →
  if Region.wanted o (yielded ops (lex ops a0 u j).tmps) then ∀ w', KeepsP (sx ops T j) w0 w' → Quiet P o (lex ops a0 u j) w' (u j) else u j = undef
def StN (u : Nat → Value) (j : Nat) (w : World) : Prop := ∀ o, ops[j]? = some o →
  if Region.wanted o (yielded ops (lex ops a0 u j).tmps) then Quiet P o (lex ops a0 u j) w (u j) else u j = undef

variable {P ops lo st T w0 Q a0}
theorem OKs_congr {u u' : Nat → Value} {j : Nat} (h : ∀ i, i ≤ j → u i = u' i) (k : OKs P ops T w0 a0 u j) : OKs P ops T w0 a0 u' j := by
  intro o ho
  have := k o ho
  rw [lex_congr (fun i hi => h i (by omega)), h j (Nat.le_refl _)] at this
  exact this

/-- Some way in which an operation may end. -/
theorem some_end {o : Oper} {a : Act} {w : World} {K : Act → World → Prop} (h : o.wp P a w K (fun _ _ _ => False)) (hK : ∀ a' w', K a' w' → a'.defers = a.defers) : ∃ v w', K (a.put o.dst v) w' := by
  unfold Oper.wp at h
  generalize (execOp a.eval o).run P w = r at h
  cases r with
  | halt x w' => cases x <;> simp only [Oper.upon] at h
  | ok n w' =>
    cases n <;> simp only [Oper.upon] at h
    case value v => exact ⟨v, w', h⟩
    case skip => exact ⟨_, w', h⟩
    case defer d =>
      have := hK _ _ h
      cases hd : o.dst <;> simp [Act.put, hd] at this
    case enter f args =>
      obtain ⟨e, w'', fr, hR, _⟩ := h []
      cases e with
      | returned v => exact ⟨v, w'', hR⟩
      | panicked ch => exact hR.elim
      | outgrown => obtain ⟨_, _, hf⟩ := hR; exact hf.elim
    case row r args =>
      obtain ⟨v, w'', hR, _⟩ := h default []
      exact ⟨v, w'', hR⟩
/-- An operation that looks at the same. -/
theorem wp_moved {o : Oper} {a b : Act} {w : World} {K : Act → World → Prop} {K' : Act → World → Prop} {Q' : Exit → Act → World → Prop} (h : o.wp P a w K (fun _ _ _ => False)) (hK : ∀ a' w', K a' w' → a'.defers = a.defers)
    (e : execOp b.eval o = execOp a.eval o) (hk : ∀ v w', K (a.put o.dst v) w' → K' (b.put o.dst v) w') : o.wp P b w K' Q' := by
  unfold Oper.wp at h ⊢
  rw [e]
  generalize (execOp a.eval o).run P w = r at h ⊢
  cases r with
  | halt x w' => cases x <;> simp only [Oper.upon] at h
  | ok n w' =>
    cases n <;> simp only [Oper.upon] at h ⊢
    case value v => exact hk _ _ h
    case skip => exact hk _ _ h
    case defer d =>
      have := hK _ _ h
      cases hd : o.dst <;> simp [Act.put, hd] at this
    case enter f args =>
      refine Calls.mono h fun e w'' hR => ?_
      cases e with
      | returned v => exact hk _ _ hR
      | panicked ch => exact hR.elim
      | outgrown => obtain ⟨_, _, hf⟩ := hR; exact hf.elim
    case row r args => exact Rows.mono h fun v w'' hR => hk _ _ hR

theorem cw_head {r : List Oper} {k : Nat} {o : Oper} (hr : ops.toList.drop k = o :: r) : ops[k]? = some o ∧ ops.toList.drop (k + 1) = r := by
  refine ⟨?_, ?_⟩
  · have := congrArg (fun x : List Oper => x[0]?) hr
    simpa using this
  · have := congrArg List.tail hr
    simpa using this

/-- What a walk that has come to `k` in the world `w` says of all that follows. -/
theorem unroll (hok : Ok ops) : ∀ (r : List Oper) (k : Nat) (u0 : Nat → Value) (w : World), ops.toList.drop k = r → cwalk P ops lo st T w0 Q r k (lex ops a0 u0 k) w →
    ∃ u, (∀ j, j < k → u j = u0 j) ∧ (∀ j, k ≤ j → lo j = false → st j = true → OKs P ops T w0 a0 u j) ∧
      (∀ j, k ≤ j → (∀ l, k ≤ l → l ≤ j → lo l = false) → st j = false → StN P ops a0 u j w) ∧
      (∀ l, l < ops.size → k ≤ l → lo l = true → (∀ i, k ≤ i → i < l → lo i = false) → cwalk P ops lo st T w0 Q (ops.toList.drop l) l (lex ops a0 u l) w) ∧
      ((∀ l, k ≤ l → l < ops.size → lo l = false) → Q (lex ops a0 u ops.size) w)
  | [], k, u0, w, hr, h => by
    have hn : ops.size ≤ k := by simpa using hr
    have hx : lex ops a0 u0 k = lex ops a0 u0 ops.size := fill_congr _ 0 _ fun j _ hj => by
      have : j < ops.size := by simpa using hj
      exact ⟨by simp [this]; omega, fun _ => rfl⟩
    have hnone : ∀ j, k ≤ j → ops[j]? = none := fun j hj => by simp; omega
    refine ⟨u0, fun _ _ => rfl, fun j hj _ _ o ho => ?_, fun j hj _ _ o ho => ?_, fun l hl hk _ _ => by omega, fun _ => by rw [← hx]; exact h⟩
    · rw [hnone j hj] at ho; cases ho
    · rw [hnone j hj] at ho; cases ho
  | o :: r, k, u0, w, hr, h => by
    obtain ⟨ho, hr'⟩ := cw_head hr
    have hks : k < ops.size := (Array.getElem?_eq_some_iff.1 ho).1
    have hlex : ∀ c, lex ops a0 (fun j => if j = k then c else u0 j) k = lex ops a0 u0 k := fun c => lex_congr fun j hj => by simp; intro e; omega
    have hsucc : ∀ c, lex ops a0 (fun j => if j = k then c else u0 j) (k + 1) = (lex ops a0 u0 k).put o.dst c := fun c => by rw [lex_succ hok _ k o ho, hlex]; simp
    have h0 := h
    -- one step: the value `c`, the world `w1`
    have go : ∀ (c : Value) (w1 : World), cwalk P ops lo st T w0 Q r (k + 1) ((lex ops a0 u0 k).put o.dst c) w1 → (lo k = false → w1 = w) →
        (lo k = false → st k = true → if Region.wanted o (yielded ops (lex ops a0 u0 k).tmps) then ∀ w', KeepsP (sx ops T k) w0 w' → Quiet P o (lex ops a0 u0 k) w' c else c = undef) →
        (lo k = false → st k = false → if Region.wanted o (yielded ops (lex ops a0 u0 k).tmps) then Quiet P o (lex ops a0 u0 k) w c else c = undef) →
        ∃ u, (∀ j, j < k → u j = u0 j) ∧ (∀ j, k ≤ j → lo j = false → st j = true → OKs P ops T w0 a0 u j) ∧
          (∀ j, k ≤ j → (∀ l, k ≤ l → l ≤ j → lo l = false) → st j = false → StN P ops a0 u j w) ∧
          (∀ l, l < ops.size → k ≤ l → lo l = true → (∀ i, k ≤ i → i < l → lo i = false) → cwalk P ops lo st T w0 Q (ops.toList.drop l) l (lex ops a0 u l) w) ∧
          ((∀ l, k ≤ l → l < ops.size → lo l = false) → Q (lex ops a0 u ops.size) w) := by
      intro c w1 hcw hw1 hs1 hs2
      obtain ⟨u, e1, e2, e3, e4, e5⟩ := unroll hok r (k + 1) (fun j => if j = k then c else u0 j) w1 hr' (by rw [hsucc]; exact hcw)
      have hlow : ∀ j, j < k → u j = u0 j := fun j hj => by rw [e1 j (by omega)]; simp; intro e; omega
      have huk : u k = c := by rw [e1 k (by omega)]; simp
      have hlk : lex ops a0 u k = lex ops a0 u0 k := lex_congr hlow
      refine ⟨u, hlow, fun j hj h1 h2 => ?_, fun j hj h1 h2 => ?_, fun l hl hkl h1 h2 => ?_, fun h1 => ?_⟩
      · by_cases e : j = k
        · subst e
          intro o' ho'
          rw [ho] at ho'; cases ho'
          rw [hlk, huk]; exact hs1 h1 h2
        · exact e2 j (by omega) h1 h2
      · have hlk0 := h1 k (Nat.le_refl _) hj
        have hww := hw1 hlk0
        by_cases e : j = k
        · subst e
          intro o' ho'
          rw [ho] at ho'; cases ho'
          rw [hlk, huk]; exact hs2 hlk0 h2
        · have := e3 j (by omega) (fun l a b => h1 l (by omega) b) h2
          rw [hww] at this
          exact this
      · by_cases e : l = k
        · subst e
          rw [hr, hlk]; exact h0
        · have hlk0 := h2 k (Nat.le_refl _) (by omega)
          have := e4 l hl (by omega) h1 (fun i a b => h2 i (by omega) b)
          rw [hw1 hlk0] at this
          exact this
      · have := e5 (fun l a b => h1 l (by omega) b)
        rw [hw1 (h1 k (Nat.le_refl _) hks)] at this
        exact this
    unfold cwalk at h
    by_cases hw : Region.wanted o (yielded ops (lex ops a0 u0 k).tmps) = true
    · rw [if_pos hw] at h
      by_cases hl : lo k = true
      · rw [if_pos hl] at h
        obtain ⟨v, w1, _, _, hc1⟩ := some_end h (fun _ _ hh => hh.1)
        exact go v w1 hc1 (fun e => by rw [hl] at e; cases e) (fun e => by rw [hl] at e; cases e) (fun e => by rw [hl] at e; cases e)
      · rw [if_neg hl] at h
        by_cases hs : st k = true
        · rw [if_pos hs] at h
          obtain ⟨c, hq, hc⟩ := h
          exact go c w hc (fun _ => rfl) (fun _ _ => by rw [if_pos hw]; exact hq) (fun _ e => by rw [hs] at e; cases e)
        · rw [if_neg hs] at h
          obtain ⟨c, hq, hc⟩ := h
          exact go c w hc (fun _ => rfl) (fun _ e => absurd e hs) (fun _ _ => by rw [if_pos hw]; exact hq)
    · rw [if_neg hw] at h
      exact go undef w h (fun _ => rfl) (fun _ _ => by rw [if_neg hw]) (fun _ _ => by rw [if_neg hw])

/-- What holds at every point of a run in whatever order. -/
structure CInv (P : Program) (ops : Array Oper) (lo st : Nat → Bool) (T : Nat → Nat → Prop) (w0 : World) (Q : Act → World → Prop) (a0 : Act) (listed : Array Bool) (b : Act) (w : World) (k : Nat) (u : Nat → Value) : Prop where
  size : listed.size = ops.size
  closed : ∀ (i : Nat) (o : Oper), ops[i]? = some o → listed.getD i false = true → ∀ e ∈ o.after, Region.binds .any e = true → listed.getD e.on false = true
  good : KeepsP (fun b => ∃ j, listed.getD j false = true ∧ T j b) w0 w
  frame : b = fill u (fun j => listed.getD j false) ops.toList 0 a0
  loudk : ∀ j, j < ops.size → lo j = true → (listed.getD j false = true ↔ j < k)
  below : ∀ j, j < k → j < ops.size → lo j = false → st j = false → listed.getD j false = true
  stab : ∀ j, lo j = false → st j = true → OKs P ops T w0 a0 u j
  seg : ∀ j, k ≤ j → (∀ l, k ≤ l → l ≤ j → lo l = false) → st j = false → StN P ops a0 u j w
  next : ∀ l, l < ops.size → k ≤ l → lo l = true → (∀ i, k ≤ i → i < l → lo i = false) → cwalk P ops lo st T w0 Q (ops.toList.drop l) l (lex ops a0 u l) w
  fin : (∀ l, k ≤ l → l < ops.size → lo l = false) → Q (lex ops a0 u ops.size) w

theorem getD_lt {listed : Array Bool} {j : Nat} (h : listed.getD j false = true) : j < listed.size := by
  rcases Nat.lt_or_ge j listed.size with h1 | h1
  · exact h1
  · simp [Array.getD, Nat.not_lt.2 h1] at h

theorem lex_agree (hok : Ok ops) (u : Nat → Value) {j : Nat} (hj : j < ops.size) : Agree (ops[j].looksAt ops) (lex ops a0 u j) (fill u (fun k => pre ops k j && decide (k < ops.size)) ops.toList 0 a0) := by
  have hp' : ops[j]? = some ops[j] := by simp [hj]
  refine fill_agree _ 0 _ _ (Agree.refl _ _) fun k p hp hne t ht => ?_
  have hpk : ops[k]? = some p := by simpa using hp
  have hk : k < ops.size := (Array.getElem?_eq_some_iff.1 hpk).1
  simp only [Nat.zero_add] at hne
  have hkj : j ≠ k := fun e => by
    subst e
    have : pre ops j j = false := by
      cases hpp : pre ops j j
      · rfl
      · have := pre_lt hok (j + 1) j (by omega) hj j hj hpp; omega
    simp [this] at hne
  rcases hok.apart j _ k p hp' hpk hkj with h | h | h
  · have := pre_lt hok (j + 1) j (by omega) hj k hk h
    simp [this, h, hk] at hne
  · have h9 := pre_lt hok (k + 1) k (by omega) hk j hj h
    have h10 : pre ops k j = false := by
      cases hpp : pre ops k j
      · rfl
      · have := pre_lt hok (j + 1) j (by omega) hj k hk hpp; omega
    simp [h10] at hne
    omega
  · exact (Oper.apart_spec h).1 t ht

/-- The frame at hand agrees with the frame in the order of the text on what an operation that is ready looks at. -/
theorem ready_agree (hok : Ok ops) {listed : Array Bool} {u : Nat → Value} {i : Nat} {o : Oper} (ho : ops[i]? = some o) (hnl : listed.getD i false = false)
    (hc : ∀ (i : Nat) (o : Oper), ops[i]? = some o → listed.getD i false = true → ∀ e ∈ o.after, Region.binds .any e = true → listed.getD e.on false = true)
    (hedge : ∀ e ∈ o.after, Region.binds .any e = true → listed.getD e.on false = true) :
    Agree (o.looksAt ops) (lex ops a0 u i) (fill u (fun j => listed.getD j false) ops.toList 0 a0) := by
  have hlt : i < ops.size := (Array.getElem?_eq_some_iff.1 ho).1
  have hpre : ∀ j, j < ops.size → pre ops j i = true → listed.getD j false = true := closed_pre hok hc (i + 1) i (by omega) o ho hedge
  refine fill_agree _ 0 _ _ (Agree.refl _ _) fun j p hp hne t ht => ?_
  have hp' : ops[j]? = some p := by simpa using hp
  have hj : j < ops.size := (Array.getElem?_eq_some_iff.1 hp').1
  simp only [Nat.zero_add] at hne
  have hji : i ≠ j := fun e => by
    subst e
    rw [hnl] at hne
    simp at hne
  rcases hok.apart i o j p ho hp' hji with h | h | h
  · have h2 := pre_lt hok (i + 1) i (by omega) hlt j hj h
    rw [hpre j hj h] at hne
    simp [h2] at hne
  · have h2 := pre_lt hok (j + 1) j (by omega) hj i hlt h
    have h3 : listed.getD j false = false := by
      cases h4 : listed.getD j false
      · rfl
      · have := closed_pre hok hc (j + 1) j (by omega) p hp' (hc j p hp' h4) i hlt h
        rw [hnl] at this
        cases this
    rw [h3] at hne
    simp at hne
    omega
  · exact (Oper.apart_spec h).1 t ht

/-- Two readings of the walk give the same values to what has come up already. -/
theorem same_vals (hok : Ok ops) {listed : Array Bool} {u u' : Nat → Value} {i : Nat} (hnl : listed.getD i false = false) (hsz : listed.size = ops.size)
    (hc : ∀ (i : Nat) (o : Oper), ops[i]? = some o → listed.getD i false = true → ∀ e ∈ o.after, Region.binds .any e = true → listed.getD e.on false = true)
    (hlow : ∀ j, j < i → u' j = u j) (hs : ∀ j, i < j → listed.getD j false = true → OKs P ops T w0 a0 u j ∧ OKs P ops T w0 a0 u' j) :
    ∀ n j, j < n → listed.getD j false = true → u' j = u j
  | 0, j, h, _ => by omega
  | n + 1, j, h, hl => by
    have ih := same_vals hok hnl hsz hc hlow hs n
    rcases Nat.lt_trichotomy j i with hji | hji | hji
    · exact hlow j hji
    · subst hji; rw [hnl] at hl; cases hl
    · have hj : j < ops.size := by rw [← hsz]; exact getD_lt hl
      have hoj : ops[j]? = some ops[j] := by simp [hj]
      obtain ⟨k1, k2⟩ := hs j hji hl
      have hpre : ∀ q, q < ops.size → pre ops q j = true → listed.getD q false = true := closed_pre hok hc (j + 1) j (by omega) _ hoj (hc j _ hoj hl)
      have hag : Agree (ops[j].looksAt ops) (lex ops a0 u' j) (lex ops a0 u j) := by
        have e1 := lex_agree (a0 := a0) hok u hj
        have e2 := lex_agree (a0 := a0) hok u' hj
        have e3 : fill u' (fun k => pre ops k j && decide (k < ops.size)) ops.toList 0 a0 = fill u (fun k => pre ops k j && decide (k < ops.size)) ops.toList 0 a0 :=
          fill_congr _ 0 _ fun q _ _ => ⟨rfl, fun hq => by
            simp only [Bool.and_eq_true, decide_eq_true_eq] at hq
            exact ih q (by have := pre_lt hok (j + 1) j (by omega) hj q hq.2 hq.1; omega) (hpre q hq.2 hq.1)⟩
        rw [e3] at e2
        exact ⟨e2.1.trans e1.1.symm, fun t ht => (e2.2 t ht).trans (e1.2 t ht).symm⟩
      have hwn := wanted_agree (o := ops[j]) hag
      have hex := exec_agree hag (hok.sel j _ hoj)
      have q1 := k1 _ hoj
      have q2 := k2 _ hoj
      rw [hwn] at q2
      by_cases hwant : Region.wanted ops[j] (yielded ops (lex ops a0 u j).tmps) = true
      · rw [if_pos hwant] at q1 q2
        exact quiet_one (q2 w0 (KeepsP.refl _ _)) (q1 w0 (KeepsP.refl _ _)) hex
      · rw [if_neg hwant] at q1 q2
        rw [q1, q2]

theorem chain_any (hok : Ok ops) (hch : Chain ops lo st) {Q' : Exit → Act → World → Prop} (hQ : ∀ a w, Q a w → Q' .normal a w) :
    ∀ (fuel : Nat) (listed : Array Bool) (b : Act) (w : World) (k : Nat) (u : Nat → Value), CInv P ops lo st T w0 Q a0 listed b w k u → count listed ops.size = fuel → wpAny P .any ops Q' fuel listed b w := by
  have fin : ∀ (listed : Array Bool) (b : Act) (w : World) (k : Nat) (u : Nat → Value), CInv P ops lo st T w0 Q a0 listed b w k u → (∀ i, i < ops.size → listed.getD i false = true) → Q' .normal b w := by
    intro listed b w k u hI hall
    refine hQ _ _ ?_
    have : fill u (fun j => listed.getD j false) ops.toList 0 a0 = lex ops a0 u ops.size := fill_congr _ 0 _ fun j _ hj => by
      have : j < ops.size := by simpa using hj
      exact ⟨by rw [hall j this]; simp [this], fun _ => rfl⟩
    rw [hI.frame, this]
    refine hI.fin fun l hl hls => ?_
    cases hlo : lo l
    · rfl
    · have := (hI.loudk l hls hlo).1 (hall l hls)
      omega
  intro fuel
  induction fuel with
  | zero =>
    intro listed b w k u hI hc
    have hall : ∀ i, i < ops.size → listed.getD i false = true := fun i hi => by
      have := List.countP_eq_zero.1 hc i (List.mem_range.2 hi)
      simpa using this
    refine ⟨?_, fin listed b w k u hI hall⟩
    refine List.eq_nil_iff_forall_not_mem.2 fun i hi => ?_
    obtain ⟨h1, o, ho, _⟩ := mem_ready.1 hi
    have hlt : i < ops.size := (Array.getElem?_eq_some_iff.1 ho).1
    have h2 := hall i hlt
    have hs : i < listed.size := by rw [hI.size]; exact hlt
    simp [Array.getD, hs] at h1 h2
    rw [h1] at h2
    cases h2
  | succ fuel ih =>
    intro listed b w k u hI hc
    refine ⟨fun hr => fin listed b w k u hI (fun i hi => ready_sub hok hr hI.size (i + 1) i (by omega) hi), fun i hi => ?_⟩
    obtain ⟨h1, o, ho, hedge⟩ := mem_ready.1 hi
    have hlt : i < ops.size := (Array.getElem?_eq_some_iff.1 ho).1
    have hs : i < listed.size := by rw [hI.size]; exact hlt
    have hnl : listed.getD i false = false := by simpa [Array.getD, hs] using h1
    have hcount : count (listed.setIfInBounds i true) ops.size = fuel := by
      have := count_set hs hnl ops.size hlt
      omega
    have hpre : ∀ j, j < ops.size → pre ops j i = true → listed.getD j false = true := closed_pre hok hI.closed (i + 1) i (by omega) o ho hedge
    have hprej : ∀ j, listed.getD j false = true → pre ops i j = false := fun j hj => by
      cases hpp : pre ops i j
      · rfl
      · have hj' : j < ops.size := by rw [← hI.size]; exact getD_lt hj
        have := closed_pre hok hI.closed (j + 1) j (by omega) ops[j] (by simp [hj']) (hI.closed j ops[j] (by simp [hj']) hj) i hlt hpp
        rw [hnl] at this; cases this
    have hag : Agree (o.looksAt ops) (lex ops a0 u i) b := by rw [hI.frame]; exact ready_agree hok ho hnl hI.closed hedge
    have hex := exec_agree hag (hok.sel i o ho)
    have hwa := wanted_agree (o := o) hag
    have hclosed' : ∀ (k : Nat) (p : Oper), ops[k]? = some p → (listed.setIfInBounds i true).getD k false = true → ∀ e ∈ p.after, Region.binds .any e = true → (listed.setIfInBounds i true).getD e.on false = true := by
      intro k p hp hk e he hb
      rw [getD_set hs] at hk ⊢
      by_cases e1 : e.on = i
      · rw [if_pos e1]
      · rw [if_neg e1]
        by_cases e2 : k = i
        · subst e2; rw [ho] at hp; cases hp; exact hedge e he hb
        · rw [if_neg e2] at hk; exact hI.closed k p hp hk e he hb
    have hput : ∀ (u' : Nat → Value), (∀ j, listed.getD j false = true → u' j = u j) → b.put o.dst (u' i) = fill u' (fun j => (listed.setIfInBounds i true).getD j false) ops.toList 0 a0 := fun u' hu' => by
      have e1 : b = fill u' (fun j => listed.getD j false) ops.toList 0 a0 := by
        rw [hI.frame]; exact fill_congr _ 0 _ fun j _ _ => ⟨rfl, fun hj => (hu' j hj).symm⟩
      rw [e1]
      refine (fill_put (i := i) (o := o) hnl (by rw [getD_set hs, if_pos rfl]) (fun j hj => by rw [getD_set hs, if_neg hj]) _ 0 _ (Nat.zero_le _) (by simpa using ho) (fun j p hp hne t ht => ?_)).symm
      exact hok.dst i o j p ho (by simpa using hp) (by omega) t ht
    -- a read has come up
    have nextR : lo i = false → wpAny P .any ops Q' fuel (listed.setIfInBounds i true) (b.put o.dst (u i)) w := fun hlo => by
      refine ih _ _ _ k u ⟨by simp [hI.size], hclosed', hI.good.mono (fun b ⟨q, hq, ht⟩ => ⟨q, (by rw [getD_set hs]; split <;> first | rfl | exact hq), ht⟩), hput u (fun _ _ => rfl), fun j hj hl => ?_, fun j hj hjs h1 h2 => ?_, hI.stab, hI.seg, hI.next, hI.fin⟩ hcount
      · rw [getD_set hs, if_neg (fun e => by subst e; rw [hlo] at hl; cases hl)]
        exact hI.loudk j hj hl
      · rw [getD_set hs]
        split
        · rfl
        · exact hI.below j hj hjs h1 h2
    -- a loud one has come up (or is passed over)
    have nextL : lo i = true → ∀ (v : Value) (w' : World), KeepsP (T i) w w' → cwalk P ops lo st T w0 Q (ops.toList.drop (i + 1)) (i + 1) ((lex ops a0 u i).put o.dst v) w' → k ≤ i → (∀ l, k ≤ l → l < i → lo l = false) →
        wpAny P .any ops Q' fuel (listed.setIfInBounds i true) (b.put o.dst v) w' := fun hlo v w' hkw hcw hki hno => by
      have hgood' : KeepsP (fun b => ∃ j, (listed.setIfInBounds i true).getD j false = true ∧ T j b) w0 w' := (hI.good.mono (fun b ⟨q, hq, ht⟩ => ⟨q, (by rw [getD_set hs]; split <;> first | rfl | exact hq), ht⟩)).trans (hkw.mono (fun b hb => ⟨i, (by rw [getD_set hs, if_pos rfl]), hb⟩))
      have hlex : ∀ c, lex ops a0 (fun j => if j = i then c else u j) i = lex ops a0 u i := fun c => lex_congr fun j hj => by simp; intro e; omega
      have hsucc : lex ops a0 (fun j => if j = i then v else u j) (i + 1) = (lex ops a0 u i).put o.dst v := by rw [lex_succ hok _ i o ho, hlex]; simp
      obtain ⟨u', e1, e2, e3, e4, e5⟩ := unroll (P := P) (lo := lo) (st := st) (T := T) (w0 := w0) (Q := Q) (a0 := a0) hok _ (i + 1) (fun j => if j = i then v else u j) w' rfl (by rw [hsucc]; exact hcw)
      have hlow : ∀ j, j < i → u' j = u j := fun j hj => by rw [e1 j (by omega)]; simp; intro e; omega
      have hui : u' i = v := by rw [e1 i (by omega)]; simp
      have hsteady : ∀ j, i < j → listed.getD j false = true → lo j = false ∧ st j = true := fun j hj hl => by
        have hjs : j < ops.size := by rw [← hI.size]; exact getD_lt hl
        have hp := hprej j hl
        cases hlj : lo j
        · refine ⟨rfl, ?_⟩
          cases hsj : st j
          · have := hch.lr i j hj hjs hlo hlj hsj
            rw [hp] at this; cases this
          · rfl
        · have := hch.ll i j hj hjs hlo hlj
          rw [hp] at this; cases this
      have hsame : ∀ j, listed.getD j false = true → u' j = u j := fun j hj =>
        same_vals (P := P) (T := T) (w0 := w0) (a0 := a0) hok hnl hI.size hI.closed hlow (fun j hj hl => by
          obtain ⟨a, b⟩ := hsteady j hj hl
          exact ⟨hI.stab j a b, e2 j (by omega) a b⟩) (j + 1) j (by omega) hj
      have hfr := hput u' hsame
      rw [hui] at hfr
      refine ih _ _ _ (i + 1) u' ⟨by simp [hI.size], hclosed', hgood', hfr, fun j hj hl => ?_, fun j hj hjs h1 h2 => ?_, fun j h1 h2 => ?_, e3, e4, e5⟩ hcount
      · rw [getD_set hs]
        by_cases e : j = i
        · subst e; simp
        · rw [if_neg e, hI.loudk j hj hl]
          constructor
          · intro h; omega
          · intro h
            rcases Nat.lt_or_ge j k with h9 | h9
            · exact h9
            · have := hno j h9 (by omega)
              rw [hl] at this; cases this
      · rw [getD_set hs]
        by_cases e : j = i
        · rw [if_pos e]
        · rw [if_neg e]
          exact hpre j hjs (hch.rl j i (by omega) hlt h1 h2 hlo)
      · by_cases hj : j < i
        · exact OKs_congr (fun q hq => (hlow q (by omega)).symm) (hI.stab j h1 h2)
        · exact e2 j (by
            rcases Nat.lt_or_ge i j with e | e
            · omega
            · have e' : j = i := by omega
              rw [e', hlo] at h1; cases h1) h1 h2
    unfold wpOp
    simp only [ho]
    by_cases hlo : lo i = true
    · -- loud
      have hki : k ≤ i := by
        rcases Nat.lt_or_ge i k with h9 | h9
        · have := (hI.loudk i hlt hlo).2 h9
          rw [hnl] at this; cases this
        · exact h9
      have hno : ∀ l, k ≤ l → l < i → lo l = false := fun l h9 h10 => by
        cases hl : lo l
        · rfl
        · have h11 := hpre l (by omega) (hch.ll l i h10 hlt hl hlo)
          have := (hI.loudk l (by omega) hl).1 h11
          omega
      have hcw := hI.next i hlt hki hlo hno
      have hdrop : ops.toList.drop i = o :: ops.toList.drop (i + 1) := by
        rw [List.drop_eq_getElem_cons (by simpa using hlt)]
        have := (Array.getElem?_eq_some_iff.1 ho).2
        simp [this]
      rw [hdrop] at hcw
      unfold cwalk at hcw
      rw [hwa] at hcw
      by_cases hwant : Region.wanted o (yielded ops b.tmps) = true
      · rw [if_pos hwant]
        rw [if_pos hwant, if_pos hlo] at hcw
        exact .inl (wp_moved hcw (fun _ _ hh => hh.1) hex.symm fun v w' hh => nextL hlo v w' hh.2.1 hh.2.2 hki hno)
      · rw [if_neg hwant]
        rw [if_neg hwant] at hcw
        exact nextL hlo undef w (KeepsP.refl _ _) hcw hki hno
    · have hlo' : lo i = false := by simpa using hlo
      by_cases hst : st i = true
      · have hq := hI.stab i hlo' hst o ho
        rw [hwa] at hq
        by_cases hwant : Region.wanted o (yielded ops b.tmps) = true
        · rw [if_pos hwant]
          rw [if_pos hwant] at hq
          have hcl : KeepsP (sx ops T i) w0 w := hI.good.mono (fun b ⟨q, hq9, ht⟩ => ⟨q, (fun e => by rw [e, hnl] at hq9; cases hq9), hprej q hq9, ht⟩)
          exact .inl (wp_of_quiet (hq w hcl) hex.symm (nextR hlo'))
        · rw [if_neg hwant]
          rw [if_neg hwant] at hq
          rw [← hq]; exact nextR hlo'
      · have hst' : st i = false := by simpa using hst
        have hki : k ≤ i := by
          rcases Nat.lt_or_ge i k with h9 | h9
          · have := hI.below i h9 hlt hlo' hst'
            rw [hnl] at this; cases this
          · exact h9
        have hno : ∀ l, k ≤ l → l ≤ i → lo l = false := fun l h9 h10 => by
          cases hl : lo l
          · rfl
          · have hli : l < i := by
              rcases Nat.lt_or_ge l i with e | e
              · exact e
              · have : l = i := by omega
                subst this; rw [hlo'] at hl; cases hl
            have h11 := hpre l (by omega) (hch.lr l i hli hlt hl hlo' hst')
            have := (hI.loudk l (by omega) hl).1 h11
            omega
        have hq := hI.seg i hki hno hst' o ho
        rw [hwa] at hq
        by_cases hwant : Region.wanted o (yielded ops b.tmps) = true
        · rw [if_pos hwant]
          rw [if_pos hwant] at hq
          exact .inl (wp_of_quiet hq hex.symm (nextR hlo'))
        · rw [if_neg hwant]
          rw [if_neg hwant] at hq
          rw [← hq]; exact nextR hlo'

theorem wp_region_chain {id : Nat} {l : List Oper} {a : Act} {w : World} {Q' : Exit → Act → World → Prop} (lo st : Nat → Bool) (T : Nat → Nat → Prop) (hm : P.follows .mixedOrders = true) (hB : okB l.toArray = true) (hC : chainB l.toArray lo st = true)
    (h : cwalk P l.toArray lo st T w.drew (fun a' w' => Q' .normal a' w') l 0 a w.drew) : (Code.region id l.toArray true).wp P Q' a w := by
  refine wp_region_any hm ?_
  have hok := ok_of hB
  have hch := chain_of hC
  have hlex0 : ∀ u, lex l.toArray a u 0 = a := fun u => (fill_congr (v' := u) (S' := fun _ => false) _ 0 _ (fun j _ _ => ⟨by simp, fun _ => rfl⟩)).trans (fill_none _ 0 _)
  obtain ⟨u, _, e2, e3, e4, e5⟩ := unroll (P := P) (lo := lo) (st := st) (T := T) (w0 := w.drew) (Q := fun a' w' => Q' .normal a' w') (a0 := a) hok l 0 (fun _ => undef) w.drew (by simp) (by rw [hlex0]; exact h)
  have hno : ∀ j, (Array.replicate l.toArray.size false).getD j false = false := fun j => by
    simp only [Array.getD_eq_getD_getElem?, Array.getElem?_replicate]
    split <;> rfl
  refine chain_any (Q := fun a' w' => Q' .normal a' w') (a0 := a) hok hch (fun _ _ h => h) _ _ _ _ 0 u ⟨by simp, fun i o _ hi => ?_, KeepsP.refl _ _, ?_, fun j _ _ => ?_, fun j hj => by omega, fun j h1 h2 => e2 j (by omega) h1 h2, e3, e4, e5⟩ ?_
  · rw [hno] at hi; cases hi
  · refine ((fill_congr (v' := u) (S' := fun _ => false) _ 0 _ (fun j _ _ => ⟨by simp only [hno], fun _ => rfl⟩)).trans (fill_none _ 0 _)).symm
  · rw [hno]; simp
  · unfold count
    rw [List.countP_eq_length.2 (fun i hi => ?_)]
    · simp
    · rw [hno]; rfl

def PlainS (P : Program) (e : Sem Next) : Prop := ∀ w, plainRes (e.run P w)
theorem PlainS.pure {P : Program} (v : Value) : PlainS P (Sem.pure (.value v)) := fun _ => trivial
theorem PlainS.bind {P : Program} {α : Type} (s : Sem α) (f : α → Sem Next) (h : ∀ x, PlainS P (f x)) : PlainS P (s >>= f) := fun w => by
  rw [Sem.run_bind]
  generalize s.run P w = r
  cases r with
  | ok a w' => exact h a w'
  | halt x w' => trivial
theorem PlainS.val {P : Program} (s : Sem Value) : PlainS P (do Pure.pure (.value (← s))) := PlainS.bind s _ fun x => PlainS.pure x
theorem PlainS.of_ok {P : Program} {e : Sem Next} (h : ∀ w, ∃ v, e.run P w = .ok (.value v) w) : PlainS P e := fun w => by obtain ⟨v, hv⟩ := h w; rw [hv]; trivial
/-- The kinds of operation that yield a value and neither call, defer nor communicate. -/
def plainOp : Op → Bool
  | .move _ | .assign _ | .pick .. | .build .. | .load .. | .binOp .. | .unOp .. | .convert .. | .makeInterface .. | .makeFunc .. | .slice .. | .fieldAddr .. | .field .. | .indexAddr .. | .index .. | .lookup .. | .extract .. => true
  | .call { callee := .builtin .len, .. } | .call { callee := .builtin .cap, .. } | .call { callee := .builtin .min, .. } | .call { callee := .builtin .max, .. } => true
  | _ => false
theorem plain_exec (P : Program) (o : Oper) (h : plainOp o.op = true) (ev : Operand → Value) : PlainS P (execOp ev o) := by
  obtain ⟨dst, op, ty, pos, after, guard⟩ := o
  cases op <;> simp only [plainOp, Bool.false_eq_true] at h <;> try exact PlainS.val _
  · exact PlainS.pure _
  · exact PlainS.pure _
  · exact PlainS.bind _ _ fun x => PlainS.pure _
  · rename_i c
    obtain ⟨callee, args, ats⟩ := c
    cases callee with
    | value f => simp at h
    | invoke r m => simp at h
    | builtin b => cases b <;> first | (exfalso; simp at h; done) | exact PlainS.val _

variable {P : Program} {ops : Array Oper} {lo st : Nat → Bool} {T : Nat → Nat → Prop} {w0 : World} {Q : Act → World → Prop}
theorem cw_nil {a : Act} {w : World} (h : Q a w) {i : Nat} : cwalk P ops lo st T w0 Q [] i a w := h
theorem cw_want {o : Oper} {r : List Oper} {i : Nat} {a : Act} {w : World} {c : Value} (hw : Region.wanted o (yielded ops a.tmps) = true) (hlo : lo i = false) (hst : st i = false) (hq : Quiet P o a w c)
    (h : cwalk P ops lo st T w0 Q r (i + 1) (a.put o.dst c) w) : cwalk P ops lo st T w0 Q (o :: r) i a w := by
  unfold cwalk
  rw [if_pos hw, if_neg (by rw [hlo]; simp), if_neg (by rw [hst]; simp)]
  exact ⟨c, hq, h⟩
theorem cw_skip {o : Oper} {r : List Oper} {i : Nat} {a : Act} {w : World} (hw : Region.wanted o (yielded ops a.tmps) = false)
    (h : cwalk P ops lo st T w0 Q r (i + 1) (a.put o.dst undef) w) : cwalk P ops lo st T w0 Q (o :: r) i a w := by
  unfold cwalk
  rw [if_neg (by rw [hw]; simp)]
  exact h
/-- An operation that reads, walked by the walk's own words. -/
theorem cw_read {o : Oper} {r : List Oper} {i : Nat} {a : Act} {w : World} (hg : o.guard = none) (hlo : lo i = false) (hst : st i = false) (hp : plainOp o.op = true)
    (h : ∀ K : Act → World → Prop, (∀ a', cwalk P ops lo st T w0 Q r (i + 1) a' w → K a' w) → o.wp P a w K (fun _ _ _ => False)) : cwalk P ops lo st T w0 Q (o :: r) i a w := by
  have h1 := h (fun a' w' => w' = w ∧ cwalk P ops lo st T w0 Q r (i + 1) a' w) (fun _ hh => ⟨rfl, hh⟩)
  have hpl := plain_exec P o hp a.eval w
  have hq : ∃ c, Quiet P o a w c ∧ cwalk P ops lo st T w0 Q r (i + 1) (a.put o.dst c) w := by
    unfold Oper.wp at h1
    unfold Quiet
    generalize (execOp a.eval o).run P w = x at h1 hpl
    cases x with
    | halt e w' => cases e <;> simp only [Oper.upon] at h1
    | ok n w' =>
      cases n <;> simp only [plainRes] at hpl <;> simp only [Oper.upon] at h1
      · exact ⟨_, ⟨h1.1, rfl⟩, h1.2⟩
      · exact ⟨_, ⟨h1.1, rfl⟩, h1.2⟩
  obtain ⟨c, hq, hc⟩ := hq
  exact cw_want (by simp [Region.wanted, hg]) hlo hst hq hc
theorem cw_move {o : Oper} {r : List Oper} {i : Nat} {a : Act} {w : World} (x : Operand) (ho : o.op = .move x ∨ o.op = .assign x) (hg : o.guard = none) (hlo : lo i = false)
    (h : cwalk P ops lo st T w0 Q r (i + 1) (a.put o.dst (a.eval x)) w) : cwalk P ops lo st T w0 Q (o :: r) i a w := by
  have hq : ∀ w', Quiet P o a w' (a.eval x) := fun w' => by
    unfold Quiet execOp
    rcases ho with ho | ho <;> rw [ho] <;> exact ⟨rfl, rfl⟩
  unfold cwalk
  rw [if_pos (by simp [Region.wanted, hg]), if_neg (by rw [hlo]; simp)]
  split
  · exact ⟨_, fun w' _ => hq w', h⟩
  · exact ⟨_, hq w, h⟩
/-- A nil check of a pointer that is not nil. -/
theorem cw_nilCheck {o : Oper} {r : List Oper} {i : Nat} {a : Act} {w : World} (x : Operand) (p : Addr) (ho : o.op = .nilCheck x) (hx : a.eval x = .pointer (some p)) (hg : o.guard = none) (hlo : lo i = false)
    (h : cwalk P ops lo st T w0 Q r (i + 1) (a.put o.dst (.pointer (some p))) w) : cwalk P ops lo st T w0 Q (o :: r) i a w := by
  have hq : ∀ w', Quiet P o a w' (.pointer (some p)) := fun w' => by
    unfold Quiet execOp
    rw [ho]; simp only [hx]
    exact ⟨rfl, rfl⟩
  unfold cwalk
  rw [if_pos (by simp [Region.wanted, hg]), if_neg (by rw [hlo]; simp)]
  split
  · exact ⟨_, fun w' _ => hq w', h⟩
  · exact ⟨_, hq w, h⟩
/-- An operation that reads what the loud ones that may come up before it leave alone. -/
theorem cw_steady {o : Oper} {r : List Oper} {i : Nat} {a : Act} {w : World} {c : Value} (hg : o.guard = none) (hlo : lo i = false) (hst : st i = true)
    (hq : ∀ w', KeepsP (sx ops T i) w0 w' → Quiet P o a w' c) (h : cwalk P ops lo st T w0 Q r (i + 1) (a.put o.dst c) w) : cwalk P ops lo st T w0 Q (o :: r) i a w := by
  unfold cwalk
  rw [if_pos (by simp [Region.wanted, hg]), if_neg (by rw [hlo]; simp), if_pos hst]
  exact ⟨c, hq, h⟩
/-- .. whatever the loud ones do. -/
theorem cw_pure {o : Oper} {r : List Oper} {i : Nat} {a : Act} {w : World} {c : Value} (hg : o.guard = none) (hlo : lo i = false)
    (hq : ∀ w', Quiet P o a w' c) (h : cwalk P ops lo st T w0 Q r (i + 1) (a.put o.dst c) w) : cwalk P ops lo st T w0 Q (o :: r) i a w := by
  unfold cwalk
  rw [if_pos (by simp [Region.wanted, hg]), if_neg (by rw [hlo]; simp)]
  split
  · exact ⟨c, fun w' _ => hq w', h⟩
  · exact ⟨c, hq w, h⟩
/-- The cells that an operation may count on. -/
theorem sx_cell {i b off : Nat} {v : Value} {w' : World} (hk : KeepsP (sx ops T i) w0 w') (hc : w0.cell? ⟨b, off, none⟩ = some v) (hT : ∀ j, pre ops i j = false → ¬ T j b) : w'.cell? ⟨b, off, none⟩ = some v :=
  (hk.cell b off (lt_of_cell hc) (fun ⟨j, _, h1, h2⟩ => hT j h1 h2)).trans hc
/-- A loud operation, walked by the walk's own words. -/
theorem cw_loud {o : Oper} {r : List Oper} {i : Nat} {a : Act} {w : World} (hg : o.guard = none) (hlo : lo i = true)
    (h : ∀ K : Act → World → Prop, (∀ a' w', a'.defers = a.defers → KeepsP (T i) w w' → cwalk P ops lo st T w0 Q r (i + 1) a' w' → K a' w') → o.wp P a w K (fun _ _ _ => False)) : cwalk P ops lo st T w0 Q (o :: r) i a w := by
  unfold cwalk
  rw [if_pos (by simp [Region.wanted, hg]), if_pos hlo]
  exact h _ fun a' w' h1 h2 h3 => ⟨h1, h2, h3⟩
attribute [irreducible] cwalk
end
end Free
end Go.Proofs.Ytilmcdieihmiaaa
