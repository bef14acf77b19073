/- Texts that the laws lean on, in the order in which they build. A region that draws its order, walked once: what an operation may write is told by the object that lies in the block. (Printed by mkfreeo.py out of XFree.) A trace and the specification's value, made side by side in one region that draws its order. (Printed by mktrreg.py.) A trace that is answered out of a table: what a round leaves in memory. The digits of a number to the base 256, and its encoding on the wire. No program. (XWire, of a program without bytes.Clone.) The contracts of package wire's writers of bytes. The contract of the reference's encoding of a number. AppendBool; what the growth of a buffer leaves, draws between. The specification's encoding of a truth value. Integers on the wire: the program's AppendInt and the specification's Int. The byte form of a trace: the buffer in its variable; the closure that appends integers. The byte form of a trace (plain), and what appending leaves. -/
import Derived.Test.YthfdngjbcgkkfaaGreatQ11
import Derived.Test.YthfdngjbcgkkfaaGreatRows
import Derived.Lib.Zigzag
import Derived.Laws.Bits64
set_option linter.unusedVariables false
set_option linter.unusedSimpArgs false
namespace Go.Proofs.YthfdngjbcgkkfaaGreat
namespace FreeO
open Go Go.RowKit Free

/-- Every block whose object is not of `S` is as it was. -/
structure KeepsO (S : Nat → Obj → Prop) (w w' : World) : Prop where
  os : w'.os = w.os
  tape : w'.tape = w.tape
  output : w'.output = w.output
  size : w.heap.size ≤ w'.heap.size
  block : ∀ (k : Nat) (o : Obj), w.heap[k]? = some o → ¬ S k o → w'.heap[k]? = some o
theorem KeepsO.refl (S : Nat → Obj → Prop) (w : World) : KeepsO S w w := ⟨rfl, rfl, rfl, Nat.le_refl _, fun _ _ h _ => h⟩
theorem KeepsO.trans {S : Nat → Obj → Prop} {a b c : World} (h : KeepsO S a b) (k : KeepsO S b c) : KeepsO S a c :=
  ⟨k.os.trans h.os, k.tape.trans h.tape, k.output.trans h.output, Nat.le_trans h.size k.size, fun i o hi hs => k.block i o (h.block i o hi hs) hs⟩
theorem KeepsO.mono {S T : Nat → Obj → Prop} {w w' : World} (h : KeepsO S w w') (hst : ∀ b x, S b x → T b x) : KeepsO T w w' := ⟨h.os, h.tape, h.output, h.size, fun k o hk hT => h.block k o hk fun hs => hT (hst _ _ hs)⟩
theorem KeepsO.of {w w' : World} {S : List Nat} {T : Nat → Obj → Prop} (h : Keeps S w w') (hst : ∀ k ∈ S, ∀ o, w.heap[k]? = some o → T k o) : KeepsO T w w' :=
  ⟨h.os, h.tape, h.output, h.size, fun k o hk hT => (h.block k (Array.getElem?_eq_some_iff.1 hk).1 fun hs => hT (hst k hs o hk)).trans hk⟩
theorem KeepsO.cell {S : Nat → Obj → Prop} {w w' : World} (h : KeepsO S w w') {b off : Nat} {v : Value} {o : Obj} (hb : w.heap[b]? = some o) (hS : ¬ S b o) (hc : w.cell? ⟨b, off, none⟩ = some v) : w'.cell? ⟨b, off, none⟩ = some v :=
  (World.cell?_of_block (w := w) (a := ⟨b, off, none⟩) ((h.block b o hb hS).trans hb.symm)).trans hc

/-- The blocks that may have been written when operation `i` comes up. -/
def sx (ops : Array Oper) (T : Nat → Nat → Obj → Prop) (i : Nat) (b : Nat) (x : Obj) : Prop := ∃ k, k ≠ i ∧ pre ops i k = false ∧ T k b x
/-- .. and behind the region. -/
def sa (T : Nat → Nat → Obj → Prop) (b : Nat) (x : Obj) : Prop := ∃ k, T k b x
section
variable (P : Program) (ops : Array Oper) (w0 : World) (loud : Nat → Bool) (F : Nat → Act → Value → World → Prop) (T : Nat → Nat → Obj → Prop) (kills : Nat → Nat → Bool) (Q : Act → World → Prop)

/-- THE WALK, in the order of the text. -/
def walk : List Oper → Nat → (Nat → World → Prop) → Act → Prop
  | [], n, fs, a => ∀ w', KeepsO (sa T) w0 w' → (∀ j, j < n → unk ops kills j = true → fs j w') → Q a w'
  | o :: r, i, fs, a =>
    if Region.wanted o (yielded ops a.tmps) then
      if loud i then
        (∀ w', KeepsO (sx ops T i) w0 w' → (∀ j, j < i → av ops kills j i = true → fs j w') → Loud P o a w' (fun v w'' => F i a v w'' ∧ KeepsO (T i) w' w'')) ∧
        ∀ v, walk r (i + 1) (fun j => if j = i then F i a v else fs j) (a.put o.dst v)
      else
        ∃ c, (∀ w', KeepsO (sx ops T i) w0 w' → (∀ j, j < i → av ops kills j i = true → fs j w') → Quiet P o a w' c) ∧ walk r (i + 1) fs (a.put o.dst c)
    else walk r (i + 1) fs (a.put o.dst undef)

variable (a0 : Act)
/-- The frame ahead of operation `i`, in the order of the text. -/
def lex (u : Nat → Value) (i : Nat) : Act := fill u (fun j => decide (j < i)) ops.toList 0 a0
def want (u : Nat → Value) (i : Nat) : Bool := match ops[i]? with | some o => Region.wanted o (yielded ops (lex ops a0 u i).tmps) | none => false
def fact (u : Nat → Value) (i : Nat) (w : World) : Prop := want ops a0 u i = true → loud i = true → F i (lex ops a0 u i) (u i) w

def Step (l : Nat → Value) (u : Nat → Value) (i : Nat) (o : Oper) : Prop :=
  if Region.wanted o (yielded ops (lex ops a0 u i).tmps) then
    if loud i then u i = l i ∧ ∀ w', KeepsO (sx ops T i) w0 w' → (∀ j, j < i → av ops kills j i = true → fact ops loud F a0 u j w') → Loud P o (lex ops a0 u i) w' (fun v w'' => F i (lex ops a0 u i) v w'' ∧ KeepsO (T i) w' w'')
    else ∀ w', KeepsO (sx ops T i) w0 w' → (∀ j, j < i → av ops kills j i = true → fact ops loud F a0 u j w') → Quiet P o (lex ops a0 u i) w' (u i)
  else u i = undef

variable {P ops w0 loud F T kills Q a0}

theorem lex_congr {u u' : Nat → Value} {i : Nat} (h : ∀ j, j < i → u j = u' j) : lex ops a0 u i = lex ops a0 u' i :=
  fill_congr _ 0 _ fun j _ _ => ⟨rfl, fun hj => h j (by simpa using hj)⟩
theorem want_congr {u u' : Nat → Value} {i : Nat} (h : ∀ j, j < i → u j = u' j) : want ops a0 u i = want ops a0 u' i := by
  unfold want; rw [lex_congr h]
theorem fact_congr {u u' : Nat → Value} {i : Nat} {w : World} (h : ∀ j, j ≤ i → u j = u' j) : fact ops loud F a0 u i w = fact ops loud F a0 u' i w := by
  unfold fact; rw [want_congr (fun j hj => h j (by omega)), lex_congr (fun j hj => h j (by omega)), h i (Nat.le_refl _)]
theorem step_congr {l u u' : Nat → Value} {i : Nat} {o : Oper} (h : ∀ j, j ≤ i → u j = u' j) (hs : Step P ops w0 loud F T kills a0 l u i o) : Step P ops w0 loud F T kills a0 l u' i o := by
  have hl : lex ops a0 u i = lex ops a0 u' i := lex_congr (fun j hj => h j (by omega))
  have hf : ∀ w', (∀ j, j < i → av ops kills j i = true → fact ops loud F a0 u' j w') → ∀ j, j < i → av ops kills j i = true → fact ops loud F a0 u j w' :=
    fun w' hh j hj hp => by rw [fact_congr (fun k hk => h k (by omega))]; exact hh j hj hp
  unfold Step at *
  rw [hl, h i (Nat.le_refl _)] at hs
  split
  · rename_i hw
    rw [if_pos hw] at hs
    split
    · rename_i hl2
      rw [if_pos hl2] at hs
      exact ⟨hs.1, fun w' hk hh => hs.2 w' hk (hf w' hh)⟩
    · rename_i hl2
      rw [if_neg hl2] at hs
      exact fun w' hk hh => hs w' hk (hf w' hh)
  · rename_i hw
    rw [if_neg hw] at hs
    exact hs
theorem lex_succ (hok : Ok ops) (u : Nat → Value) (i : Nat) (o : Oper) (ho : ops[i]? = some o) : lex ops a0 u (i + 1) = (lex ops a0 u i).put o.dst (u i) := by
  unfold lex
  refine fill_put (i := i) (o := o) (by simp) (by simp) (fun j hj => ?_) _ 0 _ (Nat.zero_le _) (by simpa using ho) (fun j p hp hne t ht => ?_)
  · by_cases h : j < i
    · simp [h]; omega
    · simp [h]; omega
  · exact hok.dst i o j p ho (by simpa using hp) (by omega) t ht

/-- For each choice of the loud operations' values there are values of all operations that fit. -/
theorem flat (hok : Ok ops) (l : Nat → Value) : ∀ (r : List Oper) (i : Nat) (u : Nat → Value) (fs : Nat → World → Prop), ops.toList.drop i = r →
    (∀ j o, ops[j]? = some o → j < i → Step P ops w0 loud F T kills a0 l u j o) → (∀ j w', j < i → fact ops loud F a0 u j w' → fs j w') → (∀ j w', i ≤ j → fs j w') →
    walk P ops w0 loud F T kills Q r i fs (lex ops a0 u i) →
    ∃ u' : Nat → Value, (∀ j, j < i → u' j = u j) ∧ (∀ j o, ops[j]? = some o → Step P ops w0 loud F T kills a0 l u' j o) ∧
      ∀ w', KeepsO (sa T) w0 w' → (∀ j, j < ops.size → unk ops kills j = true → fact ops loud F a0 u' j w') → Q (lex ops a0 u' ops.size) w'
  | [], i, u, fs, hr, hs, hf, hge, hw => by
    have hn : ops.size ≤ i := by simpa using hr
    have hx : lex ops a0 u i = lex ops a0 u ops.size := fill_congr _ 0 _ fun j _ hj => by
      have : j < ops.size := by simpa using hj
      exact ⟨by simp [this]; omega, fun _ => rfl⟩
    refine ⟨u, fun _ _ => rfl, fun j o ho => hs j o ho (by have := (Array.getElem?_eq_some_iff.1 ho).1; omega), fun w' hk hh => ?_⟩
    rw [← hx]
    refine hw w' hk (fun j hj hun => hf j w' hj ?_)
    by_cases h : j < ops.size
    · exact hh j h hun
    · unfold fact want
      have : ops[j]? = none := by simp; omega
      simp [this]
  | o :: r, i, u, fs, hr, hs, hf, hge, hw => by
    have ho : ops[i]? = some o := by
      have := congrArg (fun x : List Oper => x[0]?) hr
      simpa using this
    have hr' : ops.toList.drop (i + 1) = r := by
      have := congrArg List.tail hr
      simpa using this
    -- the value that this operation gets
    have go : ∀ (c : Value) (fs' : Nat → World → Prop), Step P ops w0 loud F T kills a0 l (fun j => if j = i then c else u j) i o →
        (∀ j w', j < i → fs j w' → fs' j w') → (∀ w', fact ops loud F a0 (fun j => if j = i then c else u j) i w' → fs' i w') → (∀ j w', i + 1 ≤ j → fs' j w') → walk P ops w0 loud F T kills Q r (i + 1) fs' ((lex ops a0 u i).put o.dst c) →
        ∃ u' : Nat → Value, (∀ j, j < i → u' j = u j) ∧ (∀ j o, ops[j]? = some o → Step P ops w0 loud F T kills a0 l u' j o) ∧
          ∀ w', KeepsO (sa T) w0 w' → (∀ j, j < ops.size → unk ops kills j = true → fact ops loud F a0 u' j w') → Q (lex ops a0 u' ops.size) w' := by
      intro c fs' hst hfs hfi hge' hwk
      have hu : ∀ j, j < i → (fun j => if j = i then c else u j) j = u j := fun j hj => by simp; intro e; omega
      have hl : lex ops a0 (fun j => if j = i then c else u j) (i + 1) = (lex ops a0 u i).put o.dst c := by
        rw [lex_succ hok _ i o ho, lex_congr hu]; simp
      obtain ⟨u', h1, h2, h3⟩ := flat hok l r (i + 1) (fun j => if j = i then c else u j) fs' hr'
        (fun j p hp hj => by
          by_cases e : j = i
          · subst e; rw [ho] at hp; cases hp; exact hst
          · exact step_congr (fun k hk => (hu k (by omega)).symm) (hs j p hp (by omega)))
        (fun j w' hj hh => by
          by_cases e : j = i
          · subst e; exact hfi w' hh
          · exact hfs j w' (by omega) (hf j w' (by omega) (by rw [← fact_congr (fun k hk => hu k (by omega))]; exact hh)))
        hge' (by rw [hl]; exact hwk)
      exact ⟨u', fun j hj => (h1 j (by omega)).trans (hu j hj), h2, h3⟩
    have hlex : ∀ c, lex ops a0 (fun j => if j = i then c else u j) i = lex ops a0 u i := fun c => lex_congr fun j hj => by simp; intro e; omega
    have hfc : ∀ c w', (∀ j, j < i → av ops kills j i = true → fact ops loud F a0 (fun j => if j = i then c else u j) j w') → ∀ j, j < i → av ops kills j i = true → fs j w' :=
      fun c w' hh j hj hp => hf j w' hj (by
        have := hh j hj hp
        rwa [fact_congr (u' := u) (fun k hk => by simp; intro e; omega)] at this)
    unfold walk at hw
    by_cases hwant : Region.wanted o (yielded ops (lex ops a0 u i).tmps) = true
    · rw [if_pos hwant] at hw
      by_cases hl : loud i = true
      · rw [if_pos hl] at hw
        refine go (l i) (fun j => if j = i then F i (lex ops a0 u i) (l i) else fs j) ?_ (fun j w' hj hh => by rw [if_neg (show ¬ j = i by omega)]; exact hh) ?_ (fun j w' hj => by rw [if_neg (show ¬ j = i by omega)]; exact hge j w' (by omega)) (hw.2 (l i))
        · unfold Step
          rw [hlex, if_pos hwant, if_pos hl]
          exact ⟨by simp, fun w' hk hh => hw.1 w' hk (hfc _ w' hh)⟩
        · intro w' hh
          have h1 : want ops a0 (fun j => if j = i then l i else u j) i = true := by
            unfold want; rw [ho]; simp only; rw [hlex]; exact hwant
          have := hh h1 hl
          rw [hlex] at this
          simpa using this
      · rw [if_neg hl] at hw
        obtain ⟨c, h1, h2⟩ := hw
        refine go c fs ?_ (fun _ _ _ hh => hh) (fun w' _ => hge i w' (Nat.le_refl _)) (fun j w' hj => hge j w' (by omega)) h2
        · unfold Step
          rw [hlex, if_pos hwant, if_neg hl]
          simp only [if_true]
          exact fun w' hk hh => h1 w' hk (hfc _ w' hh)
    · rw [if_neg hwant] at hw
      refine go undef fs ?_ (fun _ _ _ hh => hh) (fun w' _ => hge i w' (Nat.le_refl _)) (fun j w' hj => hge j w' (by omega)) hw
      · unfold Step
        rw [hlex, if_neg hwant]
        simp

theorem ready_sub {ops : Array Oper} {listed : Array Bool} (hok : Ok ops) (hr : Region.ready .any ops listed = []) (hsz : listed.size = ops.size) : ∀ n i, i < n → i < ops.size → listed.getD i false = true
  | 0, _, h, _ => by omega
  | n + 1, i, h, hi => by
    have ih := fun j (hj : j < i) => ready_sub hok hr hsz n j (by omega) (by omega)
    cases hl : listed.getD i false
    · have : i ∈ Region.ready .any ops listed := mem_ready.2 ⟨by
        have h1 : i < listed.size := by omega
        simpa [Array.getD, h1] using hl, ops[i], by simp [hi], fun e he hb => ih e.on (hok.low i _ (by simp [hi]) e he hb)⟩
      rw [hr] at this
      cases this
    · rfl

def count (listed : Array Bool) (n : Nat) : Nat := (List.range n).countP fun i => !listed.getD i false
theorem count_set {listed : Array Bool} {i : Nat} (hi : i < listed.size) (hl : listed.getD i false = false) : ∀ n, i < n → count (listed.setIfInBounds i true) n + 1 = count listed n := by
  have hset : ∀ j, (listed.setIfInBounds i true).getD j false = if j = i then true else listed.getD j false := fun j => by
    simp only [Array.getD_eq_getD_getElem?, Array.getElem?_setIfInBounds]
    by_cases e : i = j
    · subst e; simp [hi]
    · simp [e]; intro h; exact absurd h.symm e
  have same : ∀ n, n ≤ i → count (listed.setIfInBounds i true) n = count listed n := by
    intro n hn
    unfold count
    refine List.countP_congr fun j hj => ?_
    have := List.mem_range.1 hj
    rw [hset, if_neg (by omega)]
  intro n
  induction n with
  | zero => intro h; omega
  | succ n ih =>
    intro hn
    unfold count at *
    rw [List.range_succ, List.countP_append, List.countP_append]
    by_cases e : n = i
    · subst e
      rw [same n (Nat.le_refl _)]
      simp only [List.countP_cons, List.countP_nil, hset, hl]
      simp
    · have := ih (by omega)
      have hx : (listed.setIfInBounds i true).getD n false = listed.getD n false := by rw [hset, if_neg e]
      simp only [List.countP_cons, List.countP_nil, hx]
      omega
theorem getD_set {listed : Array Bool} {i j : Nat} (hi : i < listed.size) : (listed.setIfInBounds i true).getD j false = (if j = i then true else listed.getD j false) := by
  simp only [Array.getD_eq_getD_getElem?, Array.getElem?_setIfInBounds]
  by_cases e : i = j
  · subst e; simp [hi]
  · simp [e]; intro h; exact absurd h.symm e

/-- What holds at every point of a run in whatever order. -/
structure Inv (P : Program) (ops : Array Oper) (w0 : World) (loud : Nat → Bool) (F : Nat → Act → Value → World → Prop) (T : Nat → Nat → Obj → Prop) (kills : Nat → Nat → Bool) (a0 : Act) (U : (Nat → Value) → Nat → Value) (listed : Array Bool) (b : Act) (w : World) : Prop where
  size : listed.size = ops.size
  closed : ∀ (i : Nat) (o : Oper), ops[i]? = some o → listed.getD i false = true → ∀ e ∈ o.after, Region.binds .any e = true → listed.getD e.on false = true
  good : KeepsO (fun b x => ∃ k, listed.getD k false = true ∧ T k b x) w0 w
  some : ∃ l, b = fill (U l) (fun j => listed.getD j false) ops.toList 0 a0 ∧ (∀ j, listed.getD j false = true → (∀ k, k < ops.size → listed.getD k false = true → kills k j = false) → fact ops loud F a0 (U l) j w) ∧
    ∀ l', (∀ j, listed.getD j false = true → l' j = l j) → ∀ j, listed.getD j false = true → U l' j = U l j

theorem closed_pre {ops : Array Oper} {listed : Array Bool} (hok : Ok ops) (hc : ∀ (i : Nat) (o : Oper), ops[i]? = some o → listed.getD i false = true → ∀ e ∈ o.after, Region.binds .any e = true → listed.getD e.on false = true) :
    ∀ n i, i < n → ∀ o, ops[i]? = some o → (∀ e ∈ o.after, Region.binds .any e = true → listed.getD e.on false = true) → ∀ j, j < ops.size → pre ops j i = true → listed.getD j false = true
  | 0, _, h, _, _, _, _, _, _ => by omega
  | n + 1, i, h, o, ho, hr, j, hj, hp => by
    obtain ⟨e, he, hb, h1⟩ := hok.road i o ho j hj hp
    have hl := hr e he hb
    rcases h1 with rfl | h1
    · exact hl
    · have hlt := hok.low i o ho e he hb
      have hi : i < ops.size := (Array.getElem?_eq_some_iff.1 ho).1
      have hoe : ops[e.on]? = some ops[e.on] := by simp [show e.on < ops.size by omega]
      exact closed_pre hok hc n e.on (by omega) _ hoe (hc e.on _ hoe hl) j hj h1

theorem pre_lt {ops : Array Oper} (hok : Ok ops) : ∀ n i, i < n → i < ops.size → ∀ j, j < ops.size → pre ops j i = true → j < i
  | 0, _, h, _, _, _, _ => by omega
  | n + 1, i, h, hi, j, hj, hp => by
    obtain ⟨e, he, hb, h1⟩ := hok.road i ops[i] (by simp [hi]) j hj hp
    have hlt := hok.low i ops[i] (by simp [hi]) e he hb
    rcases h1 with rfl | h1
    · exact hlt
    · have := pre_lt hok n e.on (by omega) (by omega) j hj h1
      omega

theorem any (hok : Ok ops) (U : (Nat → Value) → Nat → Value)
    (hU : ∀ l, (∀ j o, ops[j]? = some o → Step P ops w0 loud F T kills a0 l (U l) j o) ∧ ∀ w', KeepsO (sa T) w0 w' → (∀ j, j < ops.size → unk ops kills j = true → fact ops loud F a0 (U l) j w') → Q (lex ops a0 (U l) ops.size) w')
    (hFa : ∀ i o a b, ops[i]? = some o → Agree (o.looksAt ops) a b → ∀ v w, F i a v w → F i b v w) (hst : ∀ i k a v w w', loud i = true → i ≠ k → kills k i = false → pre ops k i = false → F i a v w → KeepsO (T k) w w' → F i a v w') {Q' : Exit → Act → World → Prop} (hQ : ∀ a w, Q a w → Q' .normal a w) :
    ∀ (fuel : Nat) (listed : Array Bool) (b : Act) (w : World), Inv P ops w0 loud F T kills a0 U listed b w → count listed ops.size = fuel → wpAny P .any ops Q' fuel listed b w := by
  -- the end: all have run
  have fin : ∀ (listed : Array Bool) (b : Act) (w : World), Inv P ops w0 loud F T kills a0 U listed b w → (∀ i, i < ops.size → listed.getD i false = true) → Q' .normal b w := by
    intro listed b w hI hall
    obtain ⟨l, rfl, hf, _⟩ := hI.some
    refine hQ _ _ ?_
    have : fill (U l) (fun j => listed.getD j false) ops.toList 0 a0 = lex ops a0 (U l) ops.size := fill_congr _ 0 _ fun j _ hj => by
      have : j < ops.size := by simpa using hj
      exact ⟨by rw [hall j this]; simp [this], fun _ => rfl⟩
    rw [this]
    exact (hU l).2 w (hI.good.mono (fun b x ⟨k, _, hk⟩ => ⟨k, hk⟩)) (fun j hj hun => hf j (hall j hj) (fun k hk _ => by
      have := List.all_eq_true.1 hun k (List.mem_range.2 hk)
      simpa using this))
  intro fuel
  induction fuel with
  | zero =>
    intro listed b w hI hc
    have hall : ∀ i, i < ops.size → listed.getD i false = true := fun i hi => by
      have := List.countP_eq_zero.1 hc i (List.mem_range.2 hi)
      simpa using this
    refine ⟨?_, fin listed b w hI hall⟩
    refine List.eq_nil_iff_forall_not_mem.2 fun i hi => ?_
    obtain ⟨h1, o, ho, _⟩ := mem_ready.1 hi
    have hlt : i < ops.size := (Array.getElem?_eq_some_iff.1 ho).1
    have h2 := hall i hlt
    have hs : i < listed.size := by rw [hI.size]; exact hlt
    simp [Array.getD, hs] at h1 h2
    rw [h1] at h2
    cases h2
  | succ fuel ih =>
    intro listed b w hI hc
    refine ⟨fun hr => fin listed b w hI (fun i hi => ready_sub hok hr hI.size (i + 1) i (by omega) hi), fun i hi => ?_⟩
    obtain ⟨h1, o, ho, hedge⟩ := mem_ready.1 hi
    have hlt : i < ops.size := (Array.getElem?_eq_some_iff.1 ho).1
    have hs : i < listed.size := by rw [hI.size]; exact hlt
    have hnl : listed.getD i false = false := by simpa [Array.getD, hs] using h1
    have hcount : count (listed.setIfInBounds i true) ops.size = fuel := by
      have := count_set hs hnl ops.size hlt
      omega
    obtain ⟨l, hb, hf, hcons⟩ := hI.some
    have hpre : ∀ j, j < ops.size → pre ops j i = true → listed.getD j false = true := closed_pre hok hI.closed (i + 1) i (by omega) o ho hedge
    -- what the operation looks at is as in the order of the text
    have hagree : ∀ l', (∀ j, listed.getD j false = true → U l' j = U l j) → Agree (o.looksAt ops) (lex ops a0 (U l') i) b := by
      intro l' hl'
      have hb' : b = fill (U l') (fun j => listed.getD j false) ops.toList 0 a0 := by
        rw [hb]; exact fill_congr _ 0 _ fun j _ _ => ⟨rfl, fun hj => (hl' j hj).symm⟩
      rw [hb']
      refine fill_agree _ 0 _ _ (Agree.refl _ _) fun j p hp hne t ht => ?_
      have hp' : ops[j]? = some p := by simpa using hp
      have hj : j < ops.size := (Array.getElem?_eq_some_iff.1 hp').1
      simp only [Nat.zero_add] at hne
      have hji : i ≠ j := fun e => by
        subst e
        rw [hnl] at hne
        simp at hne
      rcases hok.apart i o j p ho hp' hji with h | h | h
      · have h2 := pre_lt hok (i + 1) i (by omega) hlt j hj h
        rw [hpre j hj h] at hne
        simp [h2] at hne
      · have h2 := pre_lt hok (j + 1) j (by omega) hj i hlt h
        have h3 : listed.getD j false = false := by
          cases h4 : listed.getD j false
          · rfl
          · have := closed_pre hok hI.closed (j + 1) j (by omega) p hp' (hI.closed j p hp' h4) i hlt h
            rw [hnl] at this
            cases this
        rw [h3] at hne
        simp at hne
        omega
      · exact (Oper.apart_spec h).1 t ht
    have hag := hagree l (fun _ _ => rfl)
    have hex := exec_agree hag (hok.sel i o ho)
    have hwa := wanted_agree (o := o) hag
    have hfacts : ∀ j, j < i → av ops kills j i = true → fact ops loud F a0 (U l) j w := fun j hj hp => hf j (hpre j (by omega) (av_pre hp)) (fun k hk hkl => by
      cases hkk : kills k j
      · rfl
      · rcases av_kill hp hk hkk with rfl | h
        · rw [hnl] at hkl; cases hkl
        · have hok' : ops[k]? = some ops[k] := by simp [hk]
          have := closed_pre hok hI.closed (k + 1) k (by omega) _ hok' (hI.closed k _ hok' hkl) i hlt h
          rw [hnl] at this; cases this)
    have hclosed' : ∀ (k : Nat) (p : Oper), ops[k]? = some p → (listed.setIfInBounds i true).getD k false = true → ∀ e ∈ p.after, Region.binds .any e = true → (listed.setIfInBounds i true).getD e.on false = true := by
      intro k p hp hk e he hb
      rw [getD_set hs] at hk ⊢
      by_cases e1 : e.on = i
      · rw [if_pos e1]
      · rw [if_neg e1]
        by_cases e2 : k = i
        · subst e2; rw [ho] at hp; cases hp; exact hedge e he hb
        · rw [if_neg e2] at hk; exact hI.closed k p hp hk e he hb
    have hprej : ∀ j, listed.getD j false = true → pre ops i j = false := fun j hj => by
      cases hpp : pre ops i j
      · rfl
      · have hj' : j < ops.size := by
          rcases Nat.lt_or_ge j listed.size with h | h
          · rw [← hI.size]; exact h
          · simp [Array.getD, Nat.not_lt.2 h] at hj
        have := closed_pre hok hI.closed (j + 1) j (by omega) ops[j] (by simp [hj']) (hI.closed j ops[j] (by simp [hj']) hj) i hlt hpp
        rw [hnl] at this; cases this
    have hgood : KeepsO (sx ops T i) w0 w := hI.good.mono (fun b x ⟨k, hk, ht⟩ => ⟨k, (fun e => by subst e; rw [hnl] at hk; cases hk), hprej k hk, ht⟩)
    have hgood2 : KeepsO (fun b x => ∃ k, (listed.setIfInBounds i true).getD k false = true ∧ T k b x) w0 w := hI.good.mono (fun b x ⟨k, hk, ht⟩ => ⟨k, (by rw [getD_set hs]; split <;> first | rfl | exact hk), ht⟩)
    have hagsame : ∀ l1, (∀ j, listed.getD j false = true → U l1 j = U l j) → ∀ j (hj' : j < ops.size), listed.getD j false = true → Agree (ops[j].looksAt ops) (lex ops a0 (U l1) j) (lex ops a0 (U l) j) := by
      intro l1 h2 j hj' hj
      have hp' : ops[j]? = some ops[j] := by simp [hj']
      have hprej : ∀ k, k < ops.size → pre ops k j = true → listed.getD k false = true := closed_pre hok hI.closed (j + 1) j (by omega) _ hp' (hI.closed j _ hp' hj)
      -- both frames agree with the one that has the roads to j alone
      have ag : ∀ u : Nat → Value, Agree (ops[j].looksAt ops) (lex ops a0 u j) (fill u (fun k => pre ops k j && decide (k < ops.size)) ops.toList 0 a0) := by
        intro u
        refine fill_agree _ 0 _ _ (Agree.refl _ _) fun k p hp hne t ht => ?_
        have hpk : ops[k]? = some p := by simpa using hp
        have hk : k < ops.size := (Array.getElem?_eq_some_iff.1 hpk).1
        simp only [Nat.zero_add] at hne
        have hkj : j ≠ k := fun e => by
          subst e
          have : pre ops j j = false := by
            cases hpp : pre ops j j
            · rfl
            · have := pre_lt hok (j + 1) j (by omega) hj' j hj' hpp; omega
          simp [this] at hne
        rcases hok.apart j _ k p hp' hpk hkj with h | h | h
        · have := pre_lt hok (j + 1) j (by omega) hj' k hk h
          simp [this, h, hk] at hne
        · have h9 := pre_lt hok (k + 1) k (by omega) hk j hj' h
          have h10 : pre ops k j = false := by
            cases hpp : pre ops k j
            · rfl
            · have := pre_lt hok (j + 1) j (by omega) hj' k hk hpp; omega
          simp [h10] at hne
          omega
        · exact (Oper.apart_spec h).1 t ht
      have e2 : fill (U l1) (fun k => pre ops k j && decide (k < ops.size)) ops.toList 0 a0 = fill (U l) (fun k => pre ops k j && decide (k < ops.size)) ops.toList 0 a0 :=
        fill_congr _ 0 _ fun k _ _ => ⟨rfl, fun hk => by
          simp only [Bool.and_eq_true, decide_eq_true_eq] at hk
          exact h2 k (hprej k hk.2 hk.1)⟩
      have a1 := ag (U l1)
      rw [e2] at a1
      have a2 := ag (U l)
      exact ⟨a1.1.trans a2.1.symm, fun t ht => (a1.2 t ht).trans (a2.2 t ht).symm⟩
    have hwsame : ∀ l1, (∀ j, listed.getD j false = true → U l1 j = U l j) → ∀ j (hj' : j < ops.size), listed.getD j false = true → want ops a0 (U l1) j = want ops a0 (U l) j := by
      intro l1 h2 j hj' hj
      have hp' : ops[j]? = some ops[j] := by simp [hj']
      unfold want
      rw [hp']
      exact wanted_agree (ops := ops) (hagsame l1 h2 j hj' hj)
    have next : ∀ (v : Value) (w' : World) (l1 : Nat → Value), (∀ j, listed.getD j false = true → U l1 j = U l j) → U l1 i = v → KeepsO (fun b x => ∃ k, (listed.setIfInBounds i true).getD k false = true ∧ T k b x) w0 w' → (∀ j, listed.getD j false = true → (∀ k, k < ops.size → listed.getD k false = true ∨ k = i → kills k j = false) → fact ops loud F a0 (U l) j w') → fact ops loud F a0 (U l1) i w' →
        (∀ l', (∀ j, listed.getD j false = true → l' j = l1 j) → l' i = l1 i → U l' i = v ∧ ∀ j, listed.getD j false = true → U l' j = U l1 j) →
        wpAny P .any ops Q' fuel (listed.setIfInBounds i true) (b.put o.dst v) w' := by
      intro v w' l1 h2 h3 h4 h5 h6 h7
      refine ih _ _ _ ⟨by simp [hI.size], hclosed', h4, l1, ?_, ?_, ?_⟩ hcount
      · have e1 : b = fill (U l1) (fun j => listed.getD j false) ops.toList 0 a0 := by
          rw [hb]; exact fill_congr _ 0 _ fun j _ _ => ⟨rfl, fun hj => (h2 j hj).symm⟩
        rw [e1, ← h3]
        refine (fill_put (i := i) (o := o) hnl (by rw [getD_set hs, if_pos rfl]) (fun j hj => by rw [getD_set hs, if_neg hj]) _ 0 _ (Nat.zero_le _) (by simpa using ho) (fun j p hp hne t ht => ?_)).symm
        exact hok.dst i o j p ho (by simpa using hp) (by omega) t ht
      · intro j hj hkl
        rw [getD_set hs] at hj
        by_cases e : j = i
        · subst e; exact h6
        · rw [if_neg e] at hj
          intro ha hb'
          have h8 := h5 j hj (fun k hk hor => hkl k hk (by
            rw [getD_set hs]
            rcases hor with h | h
            · split <;> first | rfl | exact h
            · rw [if_pos h]))
          have hj' : j < ops.size := by
            have : j < listed.size := by
              rcases Nat.lt_or_ge j listed.size with h | h
              · exact h
              · simp [Array.getD, Nat.not_lt.2 h] at hj
            rw [← hI.size]; exact this
          rw [h2 j hj]
          refine hFa j _ _ _ (show ops[j]? = some ops[j] by simp [hj']) (hagsame l1 h2 j hj' hj).symm _ _ (h8 ?_ hb')
          rw [← hwsame l1 h2 j hj' hj]; exact ha
      · intro l' hl' j hj
        have hA : ∀ k, listed.getD k false = true → l' k = l1 k := fun k hk => hl' k (by rw [getD_set hs]; split <;> first | rfl | exact hk)
        have hB := h7 l' hA (hl' i (by rw [getD_set hs, if_pos rfl]))
        rw [getD_set hs] at hj
        by_cases e : j = i
        · subst e; rw [hB.1, h3]
        · rw [if_neg e] at hj; exact hB.2 j hj
    have hstep := (hU l).1 i o ho
    unfold wpOp
    simp only [ho]
    unfold Step at hstep
    by_cases hwant : Region.wanted o (yielded ops (lex ops a0 (U l) i).tmps) = true
    · rw [if_pos hwant] at hstep
      rw [← hwa, if_pos hwant]
      refine .inl ?_
      have hwantl : want ops a0 (U l) i = true := by unfold want; rw [ho]; exact hwant
      by_cases hl : loud i = true
      · rw [if_pos hl] at hstep
        refine wp_of_loud (hstep.2 w hgood hfacts) hex.symm fun v w' hv => ?_
        obtain ⟨hF, hK⟩ := hv
        have hgood' : KeepsO (fun b x => ∃ k, (listed.setIfInBounds i true).getD k false = true ∧ T k b x) w0 w' := (hI.good.mono (fun b x ⟨k, hk, ht⟩ => ⟨k, (by rw [getD_set hs]; split <;> first | rfl | exact hk), ht⟩)).trans (hK.mono (fun b x hb => ⟨i, (by rw [getD_set hs, if_pos rfl]), hb⟩))
        have hl1 : ∀ j, listed.getD j false = true → (fun k => if k = i then v else l k) j = l j := fun j hj => by
          have : j ≠ i := fun e => by subst e; rw [hnl] at hj; cases hj
          simp [this]
        have hsame := hcons _ hl1
        have hst1 := (hU (fun k => if k = i then v else l k)).1 i o ho
        have hag1 := hagree _ hsame
        have hw1 : Region.wanted o (yielded ops (lex ops a0 (U fun k => if k = i then v else l k) i).tmps) = true := by
          rw [wanted_agree hag1, ← hwa]; exact hwant
        unfold Step at hst1
        rw [if_pos hw1, if_pos hl] at hst1
        have hv1 : U (fun k => if k = i then v else l k) i = v := by rw [hst1.1]; simp
        refine next v w' _ hsame hv1 hgood' (fun j hj hkl => ?_) (fun _ _ => by rw [hv1]; exact hFa i o _ _ ho ⟨hag.1.trans hag1.1.symm, fun t ht => (hag.2 t ht).trans (hag1.2 t ht).symm⟩ _ _ hF) (fun l' h2 h3 => ?_)
        · intro ha hb'
          exact hst j i _ _ _ _ hb' (fun e => by subst e; rw [hnl] at hj; cases hj) (hkl i hlt (.inr rfl)) (hprej j hj) (hf j hj (fun k hk h => hkl k hk (.inl h)) ha hb') hK
        · have h4 : ∀ j, listed.getD j false = true → l' j = l j := fun j hj => (h2 j hj).trans (hl1 j hj)
          have h5 := hcons l' h4
          refine ⟨?_, fun j hj => (h5 j hj).trans (hsame j hj).symm⟩
          have hst2 := (hU l').1 i o ho
          have hw2 : Region.wanted o (yielded ops (lex ops a0 (U l') i).tmps) = true := by
            rw [wanted_agree (hagree l' h5), ← hwa]; exact hwant
          unfold Step at hst2
          rw [if_pos hw2, if_pos hl] at hst2
          rw [hst2.1, h3]; simp
      · rw [if_neg hl] at hstep
        have hq := hstep w hgood hfacts
        refine wp_of_quiet hq hex.symm (next _ w l (fun _ _ => rfl) rfl hgood2 (fun j hj hkl => hf j hj (fun k hk h => hkl k hk (.inl h))) (fun _ hb' => absurd hb' hl) (fun l' h2 _ => ?_))
        have h5 := hcons l' h2
        refine ⟨?_, h5⟩
        have hst2 := (hU l').1 i o ho
        have hag2 := hagree l' h5
        have hw2 : Region.wanted o (yielded ops (lex ops a0 (U l') i).tmps) = true := by
          rw [wanted_agree hag2, ← hwa]; exact hwant
        unfold Step at hst2
        rw [if_pos hw2, if_neg hl] at hst2
        have hq2 := hst2 w hgood (fun j hj hp => ?_)
        · exact quiet_one hq2 hq ((exec_agree hag2 (hok.sel i o ho)).trans hex.symm)
        · have h6 := hfacts j hj hp
          have hj' : j < ops.size := by omega
          intro ha hb'
          rw [h5 j (hpre j hj' (av_pre hp))]
          exact hFa j _ _ _ (show ops[j]? = some ops[j] by simp [hj']) (hagsame l' h5 j hj' (hpre j hj' (av_pre hp))).symm _ _ (h6 (by rw [← hwsame l' h5 j hj' (hpre j hj' (av_pre hp))]; exact ha) hb')
    · rw [if_neg hwant] at hstep
      rw [← hwa, if_neg hwant]
      have hwf : want ops a0 (U l) i = false := by unfold want; rw [ho]; simpa using hwant
      rw [← hstep]
      refine next _ w l (fun _ _ => rfl) rfl hgood2 (fun j hj hkl => hf j hj (fun k hk h => hkl k hk (.inl h))) (fun ha => by rw [hwf] at ha; cases ha) (fun l' h2 _ => ?_)
      have h5 := hcons l' h2
      refine ⟨?_, h5⟩
      have hst2 := (hU l').1 i o ho
      have hw2 : ¬ Region.wanted o (yielded ops (lex ops a0 (U l') i).tmps) = true := by
        rw [wanted_agree (hagree l' h5), ← hwa]; exact hwant
      unfold Step at hst2
      rw [if_neg hw2] at hst2
      rw [hst2, hstep]

theorem wp_region_free {id : Nat} {l : List Oper} {a : Act} {w : World} {Q' : Exit → Act → World → Prop} (hm : P.follows .mixedOrders = true) (hB : okB l.toArray = true) (loud : Nat → Bool) (F : Nat → Act → Value → World → Prop) (T : Nat → Nat → Obj → Prop) (kills : Nat → Nat → Bool)
    (hFa : ∀ i o a b, l.toArray[i]? = some o → Agree (o.looksAt l.toArray) a b → ∀ v w, F i a v w → F i b v w) (hst : ∀ i k a v w w', loud i = true → i ≠ k → kills k i = false → pre l.toArray k i = false → F i a v w → KeepsO (T k) w w' → F i a v w')
    (h : walk P l.toArray w.drew loud F T kills (fun a' w' => Q' .normal a' w') l 0 (fun _ _ => True) a) : (Code.region id l.toArray true).wp P Q' a w := by
  refine wp_region_any hm ?_
  have hok := ok_of hB
  have hlex0 : ∀ u, lex l.toArray a u 0 = a := fun u => (fill_congr (v' := u) (S' := fun _ => false) _ 0 _ (fun j _ _ => ⟨by simp, fun _ => rfl⟩)).trans (fill_none _ 0 _)
  have hfl : ∀ l' : Nat → Value, ∃ u' : Nat → Value, (∀ j o, l.toArray[j]? = some o → Step P l.toArray w.drew loud F T kills a l' u' j o) ∧
      ∀ w', KeepsO (sa T) w.drew w' → (∀ j, j < l.toArray.size → unk l.toArray kills j = true → fact l.toArray loud F a u' j w') → Q' .normal (lex l.toArray a u' l.toArray.size) w' := fun l' => by
    obtain ⟨u', _, h2, h3⟩ := flat (Q := fun a' w' => Q' .normal a' w') hok l' l 0 (fun _ => undef) (fun _ _ => True) (by simp) (fun j o _ hj => by omega) (fun _ _ _ _ => trivial) (fun _ _ _ => trivial) (by rw [hlex0]; exact h)
    exact ⟨u', h2, h3⟩
  refine any (Q := fun a' w' => Q' .normal a' w') (a0 := a) hok (fun l' => Classical.choose (hfl l')) (fun l' => Classical.choose_spec (hfl l')) hFa hst (fun _ _ h => h) _ _ _ _ ?_ ?_
  · have hno : ∀ j, (Array.replicate l.toArray.size false).getD j false = false := fun j => by
      simp only [Array.getD_eq_getD_getElem?, Array.getElem?_replicate]
      split <;> rfl
    refine ⟨by simp, fun i o _ hi => ?_, KeepsO.refl _ _, fun _ => undef, ?_, fun j hj _ => ?_, fun _ _ j hj => ?_⟩
    · rw [hno] at hi; cases hi
    · refine ((fill_congr (v' := fun _ => undef) (S' := fun _ => false) _ 0 _ (fun j _ _ => ⟨by simp only [hno], fun hj => ?_⟩)).trans (fill_none _ 0 _)).symm
      simp only [hno] at hj; cases hj
    · rw [hno] at hj; cases hj
    · rw [hno] at hj; cases hj
  · unfold count
    rw [List.countP_eq_length.2 (fun i hi => ?_)]
    · simp
    · have : (Array.replicate l.toArray.size false).getD i false = false := by
        simp only [Array.getD_eq_getD_getElem?, Array.getElem?_replicate]
        split <;> rfl
      rw [this]; rfl

theorem walk_quiet {o : Oper} {r : List Oper} {i : Nat} {fs : Nat → World → Prop} {a : Act} {c : Value} (hw : Region.wanted o (yielded ops a.tmps) = true) (hl : loud i = false)
    (h1 : ∀ w', KeepsO (sx ops T i) w0 w' → (∀ j, j < i → av ops kills j i = true → fs j w') → Quiet P o a w' c) (h2 : walk P ops w0 loud F T kills Q r (i + 1) fs (a.put o.dst c)) : walk P ops w0 loud F T kills Q (o :: r) i fs a := by
  unfold walk
  rw [if_pos hw, if_neg (by rw [hl]; simp)]
  exact ⟨c, h1, h2⟩
theorem walk_skip {o : Oper} {r : List Oper} {i : Nat} {fs : Nat → World → Prop} {a : Act} (hw : Region.wanted o (yielded ops a.tmps) = false)
    (h2 : walk P ops w0 loud F T kills Q r (i + 1) fs (a.put o.dst undef)) : walk P ops w0 loud F T kills Q (o :: r) i fs a := by
  unfold walk
  rw [if_neg (by rw [hw]; simp)]
  exact h2
theorem walk_loud {o : Oper} {r : List Oper} {i : Nat} {fs : Nat → World → Prop} {a : Act} (hw : Region.wanted o (yielded ops a.tmps) = true) (hl : loud i = true)
    (h1 : ∀ w', KeepsO (sx ops T i) w0 w' → (∀ j, j < i → av ops kills j i = true → fs j w') → Loud P o a w' (fun v w'' => F i a v w'' ∧ KeepsO (T i) w' w''))
    (h2 : ∀ v, walk P ops w0 loud F T kills Q r (i + 1) (fun j => if j = i then F i a v else fs j) (a.put o.dst v)) : walk P ops w0 loud F T kills Q (o :: r) i fs a := by
  unfold walk
  rw [if_pos hw, if_pos hl]
  exact ⟨h1, h2⟩
theorem walk_nil {n : Nat} {fs : Nat → World → Prop} {a : Act} (h : ∀ w', KeepsO (sa T) w0 w' → (∀ j, j < n → unk ops kills j = true → fs j w') → Q a w') : walk P ops w0 loud F T kills Q [] n fs a := h
end
end FreeO
end Go.Proofs.YthfdngjbcgkkfaaGreat

namespace Go.Proofs.YthfdngjbcgkkfaaGreat
open Go.RowKit
open FreeO (KeepsO)

def rf0 (im is : Int) (st : T3) (vo va : Option Addr × Nat × Nat) : RfV := ⟨im, is, st.1, st.2.1, st.2.2, 0, vo, va, 0, (none, 0, 0), false, (none, 0, 0)⟩
set_option maxRecDepth 100000 in
set_option maxHeartbeats 4000000 in
theorem newR2_c (w : World) (im is : Int) (st : T3) :
    Calls Tryz.prog 7 #[idV im is, tV st] w fun e w' => ∃ vo va, e = .returned (rfV (rf0 im is st vo va)) ∧ shT.O w' w.heap.size tN (slv vo) [(im, st.2.1, st.1)] ∧ shA.O w' w.heap.size tA (slv va) [AnV.zero] ∧ Keeps [] w w' := by
  obtain ⟨s0, s1, s2⟩ := st
  go_enter Tryz.func7, Tryz.ntmps7
  go_wp2
  obtain ⟨w2, hw2⟩ : ∃ x, (w.alloc (.cells #[.int .i64 im, .int .i64 is] 23)).alloc (.cells #[.int .i64 s0, .int .u64 s1, .int .i64 s2] tN) = x := ⟨_, rfl⟩
  have hz2 : w2.heap.size = w.heap.size + 1 + 1 := by rw [← hw2]; simp
  have hk2 : Keeps [] w w2 := by rw [← hw2]; exact ((Keeps.refl _ _).alloc _).alloc _
  rw [hw2, ← hz2]
  have hb3 := heap_alloc_new w2 (.cells #[.int .i64 im, .int .i64 is, .int .i64 s0, .int .u64 s1, .int .i64 s2, .int .i64 0, .slice (some ⟨w2.heap.size + 1 + 1, 0, none⟩) 1 1, .slice (some ⟨w2.heap.size + 1 + 1 + 1, 0, none⟩) 1 1, .int .i64 0, .slice none 0 0, .bool false, .slice none 0 0] tR)
  have hk3 := hk2.alloc (.cells #[.int .i64 im, .int .i64 is, .int .i64 s0, .int .u64 s1, .int .i64 s2, .int .i64 0, .slice (some ⟨w2.heap.size + 1 + 1, 0, none⟩) 1 1, .slice (some ⟨w2.heap.size + 1 + 1 + 1, 0, none⟩) 1 1, .int .i64 0, .slice none 0 0, .bool false, .slice none 0 0] tR)
  obtain ⟨w3, hw3⟩ : ∃ x, w2.alloc (.cells #[.int .i64 im, .int .i64 is, .int .i64 s0, .int .u64 s1, .int .i64 s2, .int .i64 0, .slice (some ⟨w2.heap.size + 1 + 1, 0, none⟩) 1 1, .slice (some ⟨w2.heap.size + 1 + 1 + 1, 0, none⟩) 1 1, .int .i64 0, .slice none 0 0, .bool false, .slice none 0 0] tR) = x := ⟨_, rfl⟩
  have hz3 : w3.heap.size = w2.heap.size + 1 := by rw [← hw3]; simp
  rw [hw3] at hb3 hk3 ⊢
  obtain ⟨w4, hw4⟩ : ∃ x, w3.alloc (.cells #[.int .i64 im, .int .u64 s1, .int .i64 s0] tN) = x := ⟨_, rfl⟩
  have hz4 : w4.heap.size = w3.heap.size + 1 := by rw [← hw4]; simp
  have hk4 : Keeps [] w3 w4 := by rw [← hw4]; exact (Keeps.refl _ _).alloc _
  have hO := Sh.O.one shT w4 (im, s1, s0) #[.int .i64 im, .int .u64 s1, .int .i64 s0] tN w.heap.size rfl (by omega)
  have hk5 := hk4.alloc (.cells #[.int .i64 im, .int .u64 s1, .int .i64 s0] tN)
  obtain ⟨w5, hw5⟩ : ∃ x, w4.alloc (.cells #[.int .i64 im, .int .u64 s1, .int .i64 s0] tN) = x := ⟨_, rfl⟩
  have hz5 : w5.heap.size = w4.heap.size + 1 := by rw [← hw5]; simp
  rw [hw5] at hO hk5
  have hA := Sh.O.one shA w5 AnV.zero #[.int .i64 0, .int .i64 0, .int .u64 (0 : Nat), .int .i64 0, .bool false, .bool false, .int .i64 0, .slice none 0 0] tA w.heap.size rfl (by omega)
  have hk6 := hk5.alloc (.cells #[.int .i64 0, .int .i64 0, .int .u64 (0 : Nat), .int .i64 0, .bool false, .bool false, .int .i64 0, .slice none 0 0] tA)
  have hk56 : Keeps [] w5 _ := (Keeps.refl [] w5).alloc (.cells #[.int .i64 0, .int .i64 0, .int .u64 (0 : Nat), .int .i64 0, .bool false, .bool false, .int .i64 0, .slice none 0 0] tA)
  rw [show w4.heap.size = w2.heap.size + 1 + 1 by omega] at hO
  rw [show w5.heap.size = w2.heap.size + 1 + 1 + 1 by omega] at hA
  rw [show (w3.alloc (.cells #[.int .i64 im, .int .u64 s1, .int .i64 s0] 26)) = w4 from hw4, show (w4.alloc (.cells #[.int .i64 im, .int .u64 s1, .int .i64 s0] 26)) = w5 from hw5]
  refine bodyPost_ret (results_cell_row rfl _ _ _ _ _ _ _ rfl ((hk6.block _ (lt_of_blk hb3) (by simp)).trans hb3) Tryz.underlying36 rfl (by kernel_rfl)) ?_ ?_
  · rfl
  · exact ⟨(some ⟨w2.heap.size + 1 + 1, 0, none⟩, 1, 1), (some ⟨w2.heap.size + 1 + 1 + 1, 0, none⟩, 1, 1), rfl, hO.keeps hk56, hA, hk3.trans hk6⟩

theorem Sh.O.same {α : Type} {s : Sh α} {w w' : World} {B e : Nat} {v : Value} {L : List α} (h : s.O w B e v L) (hb : ∀ b, v.ownBlock = some b → w'.heap[b]? = w.heap[b]?) : s.O w' B e v L := by
  refine ⟨h.1, ?_⟩
  rcases h.2 with hn | ⟨g, cap, cur, rfl, h1, hg, rest⟩
  · exact .inl hn
  · exact .inr ⟨g, cap, cur, rfl, h1, (hb g (by simp [Value.ownBlock])).trans hg, rest⟩
/-- What may be written: new blocks that hold the specification's trace. -/
def TR (B : Nat) (k : Nat) (q b : Nat) (o : Obj) : Prop := q = k ∧ B ≤ b ∧ ∃ cs f, o = .cells cs tR f
theorem FreeO.KeepsO.cellsE {B k q : Nat} {w w' : World} (h : KeepsO (TR B k q) w w') {b : Nat} {cs : Array Value} {t : TypeId} {f : Nat × Nat} (hb : w.heap[b]? = some (.cells cs t f)) (ht : t ≠ tR) : w'.heap[b]? = some (.cells cs t f) :=
  h.block b _ hb (fun ⟨_, _, cs', f', e⟩ => by cases e; exact ht rfl)
theorem Sh.O.keepO {α : Type} {s : Sh α} {B k q : Nat} {w w' : World} {B' e : Nat} {v : Value} {L : List α} (h : s.O w B' e v L) (hk : KeepsO (TR B k q) w w') (he : e ≠ tR) : s.O w' B' e v L :=
  h.same (fun b hb => by obtain ⟨cs, hc⟩ := h.tag b hb; rw [hk.cellsE hc he, hc])
theorem TrM.keepO {w w' : World} {B k q B' bt bm : Nat} {vo vh vg : Value} {t : Tr} (h : TrM w B' bt bm vo vh vg t) (hk : KeepsO (TR B k q) w w') : TrM w' B' bt bm vo vh vg t := by
  obtain ⟨X, hX, hXL⟩ := h.hi
  obtain ⟨R, hR, hRL⟩ := h.mp
  have hi : KI w w' := fun b cs f hb => hk.cellsE hb (by decide)
  refine ⟨hk.cellsE h.blk (by decide), h.op.keepO hk (by decide), ⟨X, hX.keepO hk (by decide), hXL.ki hi⟩, h.ag.keepO hk (by decide), ⟨R, hR.at' ?_, hRL.ki hi⟩, h.inv, h.bB⟩
  obtain ⟨es, c, hm⟩ := hR.isMap
  rw [hm]
  exact hk.block bm _ hm (fun ⟨_, _, cs', f', e⟩ => by cases e)
/-- The facts of the region: operations 2 and 5 are the calls, 6 makes the variable's block, 8 stores into it. -/
def RgF (B : Nat) (im is : Int) (st : T3) (ps : Nat) (i : Nat) (a : Act) (v : Value) (w' : World) : Prop :=
  (i = 2 → ∃ bt bm vo, v = .pointer (some ⟨bt, 0, none⟩) ∧ TrM w' B bt bm vo (.slice none 0 0) (.slice none 0 0) (Tr.new im is st)) ∧
  (i = 5 → ∃ vo va, v = rfV (rf0 im is st vo va) ∧ shT.O w' B tN (slv vo) [(im, st.2.1, st.1)] ∧ shA.O w' B tA (slv va) [AnV.zero]) ∧
  (i = 6 → ∃ p, v = .pointer (some ⟨p, 0, none⟩) ∧ B ≤ p ∧ w'.heap[p]? = some (.cells #[.int .i64 0, .int .i64 0, .int .i64 0, .int .u64 0, .int .i64 0, .int .i64 0, .slice none 0 0, .slice none 0 0, .int .i64 0, .slice none 0 0, .bool false, .slice none 0 0] tR (0, 0))) ∧
  (i = 8 → ∃ p vo va, a.tmps[ps]? = some (.pointer (some ⟨p, 0, none⟩)) ∧ B ≤ p ∧ w'.heap[p]? = some (.cells #[.int .i64 im, .int .i64 is, .int .i64 st.1, .int .u64 st.2.1, .int .i64 st.2.2, .int .i64 0, slv vo, slv va, .int .i64 0, .slice none 0 0, .bool false, .slice none 0 0] tR (0, 0)) ∧
    shT.O w' B tN (slv vo) [(im, st.2.1, st.1)] ∧ shA.O w' B tA (slv va) [AnV.zero])
def RgK (k i : Nat) : Bool := k == 8 && i == 6
theorem RgF.stable {B : Nat} {im is : Int} {st : T3} {ps : Nat} (i k : Nat) (a : Act) (v : Value) (w w' : World) (_ : (i == 2 || i == 5 || i == 6 || i == 8) = true) (hne : i ≠ k) (hki : RgK k i = false) (_ : True) (h : RgF B im is st ps i a v w) (hk : KeepsO (TR B 8 k) w w') : RgF B im is st ps i a v w' := by
  obtain ⟨h2, h5, h6, h8⟩ := h
  refine ⟨fun e => ?_, fun e => ?_, fun e => ?_, fun e => ?_⟩
  · obtain ⟨bt, bm, vo, e1, hT⟩ := h2 e
    exact ⟨bt, bm, vo, e1, hT.keepO hk⟩
  · obtain ⟨vo, va, e1, hO, hA⟩ := h5 e
    exact ⟨vo, va, e1, hO.keepO hk (by decide), hA.keepO hk (by decide)⟩
  · obtain ⟨p, e1, hp, hb⟩ := h6 e
    refine ⟨p, e1, hp, hk.block p _ hb (fun ⟨h9, _⟩ => ?_)⟩
    subst h9 e
    simp [RgK] at hki
  · obtain ⟨p, vo, va, e1, hp, hb, hO, hA⟩ := h8 e
    refine ⟨p, vo, va, e1, hp, hk.block p _ hb (fun ⟨h9, _⟩ => ?_), hO.keepO hk (by decide), hA.keepO hk (by decide)⟩
    exact hne (by rw [e, h9])
theorem Sh.O.lowB {α : Type} {s : Sh α} {w : World} {B B' e : Nat} {v : Value} {L : List α} (h : s.O w B e v L) (hB : B' ≤ B) : s.O w B' e v L := by
  refine ⟨h.1, ?_⟩
  rcases h.2 with hn | ⟨g, cap, cur, rfl, h1, rest⟩
  · exact .inl hn
  · exact .inr ⟨g, cap, cur, rfl, Nat.le_trans hB h1, rest⟩
theorem TrM.lowB {w : World} {B B' bt bm : Nat} {vo vh vg : Value} {t : Tr} (h : TrM w B bt bm vo vh vg t) (hB : B' ≤ B) : TrM w B' bt bm vo vh vg t := by
  obtain ⟨X, hX, hXL⟩ := h.hi
  exact ⟨h.blk, h.op.lowB hB, ⟨X, hX.lowB hB, hXL⟩, h.ag.lowB hB, h.mp, h.inv, ⟨Nat.le_trans hB h.bB.1, Nat.le_trans hB h.bB.2⟩⟩
theorem FreeO.KeepsO.to {S : Nat → Obj → Prop} {w w' : World} (h : KeepsO S w w') (hS : ∀ b o, S b o → w.heap.size ≤ b) : Keeps [] w w' :=
  ⟨h.os, h.tape, h.output, h.size, fun k hk _ => by
    obtain ⟨o, ho⟩ : ∃ o, w.heap[k]? = some o := ⟨w.heap[k], by simp [hk]⟩
    rw [ho]
    exact h.block k o ho (fun hs => by have := hS k o hs; omega)⟩
theorem RgF.agree {B : Nat} {im is : Int} {st : T3} {ps : Nat} {ops : Array Oper} (hps : (ops[8]?).map (fun o => (o.looksAt ops).contains ps) = some true) (i : Nat) (o : Oper) (a b : Act) (ho : ops[i]? = some o) (hag : Free.Agree (o.looksAt ops) a b) (v : Value) (w : World) (h : RgF B im is st ps i a v w) : RgF B im is st ps i b v w := by
  refine ⟨h.1, h.2.1, h.2.2.1, fun e => ?_⟩
  subst e
  rw [ho] at hps
  have hm : ps ∈ o.looksAt ops := by simpa using hps
  obtain ⟨p, vo, va, e1, rest⟩ := h.2.2.2 rfl
  exact ⟨p, vo, va, (hag.2 ps hm) ▸ e1, rest⟩
theorem Both.start {w : World} {B bt bm : Nat} {vo : Value} {im is : Int} {st : T3} {xo xa : Option Addr × Nat × Nat} (hT : TrM w B bt bm vo (.slice none 0 0) (.slice none 0 0) (Tr.new im is st)) (hO : shT.O w B tN (slv xo) [(im, st.2.1, st.1)]) (hA : shA.O w B tA (slv xa) [AnV.zero]) :
    Both w B bt bm vo (.slice none 0 0) (.slice none 0 0) (rf0 im is st xo xa) (Tr.new im is st) := by
  refine ⟨hT, ⟨rfl, rfl, rfl, rfl, rfl, rfl, rfl, rfl, hO.r, ⟨_, hA.r, rfl, fun k x p h1 h2 => ?_⟩, Sh.R.nil _ _, ⟨[], Sh.R.nil _ _, LA.nil _⟩⟩, fun b hb => ?_⟩
  · cases k with
    | zero =>
      simp [Tr.new] at h1 h2
      subst h1 h2
      rfl
    | succ k => simp at h1
  · have key : ∀ (e : TypeId) (cs : Array Value), w.heap[b]? = some (.cells cs e (0, 0)) → (e = tN ∨ e = tA) → b < w.heap.size ∧ b ∉ ownT bt bm vo (.slice none 0 0) (.slice none 0 0) := fun e cs hc he => by
      refine ⟨lt_of_blk hc, fun hm => ?_⟩
      rcases mem_ownT.1 hm with rfl | rfl | h | h | h
      · rw [hT.blk] at hc
        cases hc
        rcases he with he | he <;> exact absurd he (by decide)
      · obtain ⟨R, hR, _⟩ := hT.mp
        obtain ⟨es, c, hm⟩ := hR.isMap
        rw [hm] at hc; cases hc
      · obtain ⟨cs', hc'⟩ := hT.op.tag b h
        rw [hc] at hc'
        cases hc'
        rcases he with he | he <;> exact absurd he (by decide)
      · simp [Value.ownBlock] at h
      · simp [Value.ownBlock] at h
    rcases mem_blks.1 hb with h | h | h | h
    · obtain ⟨cs, hc⟩ := hO.tag b h
      exact key _ _ hc (.inl rfl)
    · obtain ⟨cs, hc⟩ := hA.tag b h
      exact key _ _ hc (.inr rfl)
    · simp [rf0, Value.ownBlock] at h
    · simp [rf0, Value.ownBlock] at h
end Go.Proofs.YthfdngjbcgkkfaaGreat

namespace Go.Proofs.YthfdngjbcgkkfaaGreat
open Go.RowKit

theorem Tr.answer_told (t : Tr) (a : Ans) : (t.answer a).1.told = t.told ∧ t.qs.length ≤ (t.answer a).1.qs.length := by
  unfold Tr.answer
  split
  · exact ⟨rfl, Nat.le_refl _⟩
  split
  · exact ⟨rfl, Nat.le_refl _⟩
  split
  · exact ⟨rfl, Nat.le_refl _⟩
  split
  · exact ⟨rfl, Nat.le_refl _⟩
  split
  · exact ⟨rfl, Nat.le_refl _⟩
  obtain ⟨N, h1, _⟩ := fold_app a.m a.ins (setQ a.q a t.qs)
  have hl : t.qs.length ≤ (((t.take a).put a)).qs.length := by
    show t.qs.length ≤ (a.ins.foldl (openQ a.m) (setQ a.q a t.qs)).length
    rw [h1]; simp [setQ]
  unfold Tr.close
  split
  · exact ⟨rfl, hl⟩
  · exact ⟨rfl, hl⟩
/-- What a round of finish finds. -/
def FinR (w : World) (B bt bm : Nat) (T : List Ans) (s : Qn) (n : Nat) (ov : Value) (wr : World) : Prop :=
  ∃ vo vh t o, ∃ tn : Nat, TrM wr B bt bm vo vh (.slice none 0 0) t ∧ shT.O wr w.heap.size tN ov o ∧ Keeps [] w wr ∧ FinI T s t ∧ (t.state = 0 → FinO t o ∧ t.rec'.length = n) ∧ t.told = (tn : Int) ∧ tn ≤ t.qs.length ∧ o.length ≤ 1000
theorem InR.lt {w : World} {x : AnV} {a : Ans} (h : InR w x a) (hne : a.ins ≠ []) : ∀ b, x.v.ownBlock = some b → b < w.heap.size := fun b hb => by
  have hl : 0 < a.ins.length := List.length_pos_iff.2 hne
  obtain ⟨g, o, c, e, he⟩ := h.ins.elem hl
  rw [e] at hb
  simp [Value.ownBlock] at hb
  subst hb
  exact lt_of_cell (he 0 _ rfl)
theorem TrM.notN {w : World} {B B' bt bm : Nat} {vo vh vg v : Value} {t : Tr} {L : List T3} (h : TrM w B bt bm vo vh vg t) (hO : shT.O w B' tN v L) : ∀ b ∈ ownT bt bm vo vh vg, v.ownBlock ≠ some b := fun b hb e => by
  obtain ⟨cs, hc⟩ := hO.tag b e
  obtain ⟨_, _, ⟨es, c, h1⟩ | ⟨cs', e', h1, h2⟩⟩ := h.own_tag hb
  · rw [h1] at hc; cases hc
  · rw [h1] at hc
    cases hc
    rcases h2 with h2 | h2 | h2 | h2 <;> exact absurd h2 (by decide)
/-- A list of needs grows beside a trace. -/
theorem TrM.grwN {w w' : World} {B B' bt bm : Nat} {vo vh vg v v' : Value} {t : Tr} {L : List T3} (h : TrM w B bt bm vo vh vg t) (hO : shT.O w B' tN v L) (hG : Grw w w' v v') : TrM w' B bt bm vo vh vg t :=
  h.keep hG.keepsO (fun b hb hm => h.notN hO b hb (by simpa using hm)) (hG.keepsO.ki (fun b hb cs f e => by
    obtain ⟨cs', hc⟩ := hO.tag b (by simpa using hb)
    rw [hc] at e; cases e))
theorem fin_ans (w wr : World) (B bt bm : Nat) (vo vh ov : Value) (T : List Ans) (s : Qn) (t : Tr) (o : List T3) (n k : Nat) (x : AnV) (hB : w.heap.size ≤ B) (hT : TrM wr B bt bm vo vh (.slice none 0 0) t) (h0 : t.state = 0) (htold : t.told = t.qs.length) (hI : FinI T s t)
    (ho : o.Perm (t.qs.filterMap askOf)) (hk : k < o.length) (hO : shT.O wr w.heap.size tN ov (o.take k ++ o.drop (k + 1))) (hkw : Keeps [] w wr) (hn : t.rec'.length = n) (hT5 : ∀ a ∈ T, a.ins.length ≤ 5) (hT20 : T.length ≤ 20)
    (hx : InR wr x (ansOf T (qask o[k]))) (ha : (ansOf T (qask o[k])).Ok) (ha5 : (ansOf T (qask o[k])).ins.length ≤ 5) (hsep : (ansOf T (qask o[k])).ins ≠ [] → ∀ b, x.v.ownBlock = some b → b < w.heap.size) :
    Calls Tryz.prog 16 #[.pointer (some ⟨bt, 0, none⟩), aV x] wr fun e w' => (∃ i : Int, e = .returned (.int .i64 i)) ∧ FinR w B bt bm T s (n + 1) ov w' := by
  have hr := hI.recLen
  have hq := hI.len
  have hh := hI.hl
  refine (answer_c wr B bt bm vo vh _ t x _ hT hx ha (fun b hb hne e => ?_) (Nat.le_trans hT.bB.1 (Nat.le_of_lt hT.lt.1)) (by omega) (by omega)).mono ?_
  · have := hsep hne b e
    have := (hT.own_tag hb).1
    omega
  rintro e w' ⟨vo', vh', rfl, hT', hmv⟩
  obtain ⟨_, hI', hn'⟩ := hI.round h0 ho hT5 k hk htold
  obtain ⟨ht1, ht2⟩ := t.answer_told (ansOf T (qask o[k]))
  refine ⟨⟨_, rfl⟩, vo', vh', _, _, t.qs.length, hT', hO.keepS hmv.k (fun b hb => hT.notN hO b hb), hkw.fresh hmv.k (fun b hb => .inr (Nat.le_trans hB (hT.own_tag hb).1)), hI', fun e => ⟨(hn' e).1, by rw [(hn' e).2, hn]⟩, ht1.trans htold, ht2, ?_⟩
  have h1 := ho.length_eq
  have h2 : (t.qs.filterMap askOf).length ≤ t.qs.length := List.length_filterMap_le _ _
  simp; omega
/-- An answer is stored over another one. -/
theorem st8 {w : World} {X : Nat} {x0 x1 x2 x3 x4 x5 x6 x7 u0 u1 u2 u3 u4 u5 u6 u7 : Value} (h2 : w.heap[X]? = some (.cells #[u0, u1, u2, u3, u4, u5, u6, u7] tA (0, 0))) :
    ((((((((w.setCell ⟨X, 0, none⟩ x0).setCell ⟨X, 1, none⟩ x1).setCell ⟨X, 2, none⟩ x2).setCell ⟨X, 3, none⟩ x3).setCell ⟨X, 4, none⟩ x4).setCell ⟨X, 5, none⟩ x5).setCell ⟨X, 6, none⟩ x6).setCell ⟨X, 7, none⟩ x7).heap[X]? = some (.cells #[x0, x1, x2, x3, x4, x5, x6, x7] tA (0, 0)) ∧
    Keeps [X] w ((((((((w.setCell ⟨X, 0, none⟩ x0).setCell ⟨X, 1, none⟩ x1).setCell ⟨X, 2, none⟩ x2).setCell ⟨X, 3, none⟩ x3).setCell ⟨X, 4, none⟩ x4).setCell ⟨X, 5, none⟩ x5).setCell ⟨X, 6, none⟩ x6).setCell ⟨X, 7, none⟩ x7) ∧ KI w ((((((((w.setCell ⟨X, 0, none⟩ x0).setCell ⟨X, 1, none⟩ x1).setCell ⟨X, 2, none⟩ x2).setCell ⟨X, 3, none⟩ x3).setCell ⟨X, 4, none⟩ x4).setCell ⟨X, 5, none⟩ x5).setCell ⟨X, 6, none⟩ x6).setCell ⟨X, 7, none⟩ x7) := by
  have hk : Keeps [X] w ((((((((w.setCell ⟨X, 0, none⟩ x0).setCell ⟨X, 1, none⟩ x1).setCell ⟨X, 2, none⟩ x2).setCell ⟨X, 3, none⟩ x3).setCell ⟨X, 4, none⟩ x4).setCell ⟨X, 5, none⟩ x5).setCell ⟨X, 6, none⟩ x6).setCell ⟨X, 7, none⟩ x7) := by
    refine ((((((((Keeps.refl _ w).setCell ?_ _).setCell ?_ _).setCell ?_ _).setCell ?_ _).setCell ?_ _).setCell ?_ _).setCell ?_ _).setCell ?_ _ <;> exact .inr (by simp)
  refine ⟨?_, hk, hk.ki (fun b hb cs f e => ?_)⟩
  · clear hk
    have s1 := setCs h2 0 x0
    generalize w.setCell ⟨X, 0, none⟩ x0 = w1 at s1 ⊢
    have s2 := setCs s1 1 x1
    generalize w1.setCell ⟨X, 1, none⟩ x1 = w2 at s2 ⊢
    have s3 := setCs s2 2 x2
    generalize w2.setCell ⟨X, 2, none⟩ x2 = w3 at s3 ⊢
    have s4 := setCs s3 3 x3
    generalize w3.setCell ⟨X, 3, none⟩ x3 = w4 at s4 ⊢
    have s5 := setCs s4 4 x4
    generalize w4.setCell ⟨X, 4, none⟩ x4 = w5 at s5 ⊢
    have s6 := setCs s5 5 x5
    generalize w5.setCell ⟨X, 5, none⟩ x5 = w6 at s6 ⊢
    have s7 := setCs s6 6 x6
    generalize w6.setCell ⟨X, 6, none⟩ x6 = w7 at s7 ⊢
    have s8 := setCs s7 7 x7
    generalize w7.setCell ⟨X, 7, none⟩ x7 = w8 at s8 ⊢
    simpa using s8
  · simp at hb
    subst hb
    rw [h2] at e; cases e
theorem lookA_at {T : List Ans} {q : Qn} {k : Nat} (hk : k < T.length) (hno : ∀ j (hj : j < T.length), j < k → T[j].q ≠ q) (hq : T[k].q = q) : lookA T q = some T[k] := by
  unfold lookA
  rw [List.find?_eq_some_iff_getElem]
  exact ⟨by simpa using hq, k, hk, rfl, fun j hj => by simpa using hno j (by omega) hj⟩
theorem lookA_no {T : List Ans} {q : Qn} (hno : ∀ j (hj : j < T.length), T[j].q ≠ q) : lookA T q = none := by
  unfold lookA
  rw [List.find?_eq_none]
  intro a ha
  obtain ⟨k, hk, rfl⟩ := List.mem_iff_getElem.1 ha
  simpa using hno k hk
theorem LT.form {w : World} {v : Value} {T : List Ans} (h : LT w v T) : ∃ a c, v = .slice a T.length c := by
  obtain ⟨cs, ⟨_, a, c, e, _⟩, _⟩ := h
  exact ⟨a, c, e⟩
theorem mod_u8 (x : UInt8) (N : Nat) (hN : 0 < N) : Int.tmod (x.toNat : Int) (N : Int) = ((x.toNat % N : Nat) : Int) := by
  rw [← Int.ofNat_tmod]
end Go.Proofs.YthfdngjbcgkkfaaGreat

namespace Go.Proofs.YthfdngjbcgkkfaaGreat

/-- The digits of a number, the most significant one first. -/
def digs (n : Nat) : List UInt8 := if h : n = 0 then [] else digs (n / 256) ++ [UInt8.ofNat (n % 256)]
termination_by n
decreasing_by omega
theorem digs_zero : digs 0 = [] := by rw [digs]; simp
theorem digs_pos {n : Nat} (h : 0 < n) : digs n = digs (n / 256) ++ [UInt8.ofNat (n % 256)] := by rw [digs]; simp [show n ≠ 0 by omega]
theorem digs_len_pos {n : Nat} (h : 0 < n) : (digs n).length = (digs (n / 256)).length + 1 := by rw [digs_pos h]; simp
theorem digs_len_lt : ∀ (k n : Nat), n < 256 ^ k → (digs n).length ≤ k
  | 0, n, h => by have : n = 0 := by simpa using h
                  subst this; simp [digs_zero]
  | k + 1, n, h => by
    rcases Nat.eq_zero_or_pos n with rfl | hp
    · simp [digs_zero]
    · rw [digs_len_pos hp]
      have := digs_len_lt k (n / 256) (by rw [Nat.pow_succ] at h; omega)
      omega
theorem digs_len8 {n : Nat} (h : n < 18446744073709551616) : (digs n).length ≤ 8 := digs_len_lt 8 n (by simpa using h)
theorem digs_lt : ∀ (k n : Nat), (digs n).length = k → n < 256 ^ k
  | 0, n, h => by
    rcases Nat.eq_zero_or_pos n with rfl | hp
    · simp
    · rw [digs_len_pos hp] at h; omega
  | k + 1, n, h => by
    rcases Nat.eq_zero_or_pos n with rfl | hp
    · exact Nat.pow_pos (by omega)
    · rw [digs_len_pos hp] at h
      have := digs_lt k (n / 256) (by omega)
      rw [Nat.pow_succ]; omega
/-- The digit with `i` digits behind it. -/
theorem digs_get : ∀ (k n i : Nat), (digs n).length = k → i < k → (digs n)[k - 1 - i]? = some (UInt8.ofNat (n / 256 ^ i % 256))
  | 0, n, i, _, hi => by omega
  | k + 1, n, i, h, hi => by
    rcases Nat.eq_zero_or_pos n with rfl | hp
    · simp [digs_zero] at h
    · have h2 := digs_len_pos hp
      rw [digs_pos hp]
      cases i with
      | zero => rw [List.getElem?_append_right (by omega), show k + 1 - 1 - 0 - (digs (n / 256)).length = 0 from by omega]; simp
      | succ i =>
        rw [List.getElem?_append_left (by omega)]
        have := digs_get k (n / 256) i (by omega) (by omega)
        rw [show k + 1 - 1 - (i + 1) = k - 1 - i by omega, this, Nat.div_div_eq_div_mul, Nat.pow_succ, Nat.mul_comm 256]
/-- The encoding of a number. -/
def encU (n : Nat) : List UInt8 := UInt8.ofNat (digs n).length :: digs n
theorem encU_len {n : Nat} (h : n < 18446744073709551616) : (encU n).length ≤ 9 := by have := digs_len8 h; simp [encU]; omega
/-- A data datagram, an acknowledgement. -/
def dataB (n : Nat) (l : List UInt8) : List UInt8 := [1] ++ encU n ++ l
def ackB (n : Nat) : List UInt8 := [2] ++ encU n
/-- The number that digits stand for. -/
def valU (l : List UInt8) : Nat := l.foldl (fun n b => n * 256 + b.toNat) 0
theorem valU_snoc (l : List UInt8) (b : UInt8) : valU (l ++ [b]) = valU l * 256 + b.toNat := by simp [valU]
theorem valU_lt : ∀ (k : Nat) (l : List UInt8), l.length = k → valU l < 256 ^ k
  | 0, l, h => by rw [List.length_eq_zero_iff.1 h]; simp [valU]
  | k + 1, l, h => by
    obtain ⟨m, b, rfl⟩ : ∃ m b, l = m ++ [b] := ⟨l.dropLast, l.getLast (by intro e; subst e; simp at h), (List.dropLast_concat_getLast _).symm⟩
    have := valU_lt k m (by simpa using h)
    have hb := b.toNat_lt
    rw [valU_snoc, Nat.pow_succ]; omega
theorem valU_digs (n : Nat) : valU (digs n) = n := by
  induction n using Nat.strongRecOn with
  | _ n ih =>
    rcases Nat.eq_zero_or_pos n with rfl | hp
    · simp [digs_zero, valU]
    · rw [digs_pos hp, valU_snoc, ih (n / 256) (by omega)]
      simp; omega
theorem digs_valU : ∀ (k : Nat) (l : List UInt8), l.length = k → (∀ b, l[0]? = some b → b ≠ 0) → digs (valU l) = l
  | 0, l, h, _ => by rw [List.length_eq_zero_iff.1 h]; simp [valU, digs_zero]
  | k + 1, l, h, h0 => by
    obtain ⟨m, b, rfl⟩ : ∃ m b, l = m ++ [b] := ⟨l.dropLast, l.getLast (by intro e; subst e; simp at h), (List.dropLast_concat_getLast _).symm⟩
    have hm : m.length = k := by simpa using h
    have hb := b.toNat_lt
    rcases Nat.eq_zero_or_pos k with rfl | hk
    · have : m = [] := List.length_eq_zero_iff.1 hm
      subst this
      have hb0 : b ≠ 0 := h0 b (by simp)
      have hp : 0 < b.toNat := by
        rcases Nat.eq_zero_or_pos b.toNat with e | e
        · exact absurd (UInt8.toNat_inj.1 (by simpa using e)) hb0
        · exact e
      simp only [valU, List.nil_append, List.foldl_cons, List.foldl_nil, Nat.zero_mul, Nat.zero_add]
      rw [digs_pos hp, show b.toNat / 256 = 0 by omega, digs_zero, show b.toNat % 256 = b.toNat by omega]; simp
    · have h0' : ∀ c, m[0]? = some c → c ≠ 0 := fun c hc => h0 c (by rw [List.getElem?_append_left (by omega)]; exact hc)
      have ih := digs_valU k m hm h0'
      have hpos : 0 < valU m := by
        rcases Nat.eq_zero_or_pos (valU m) with e | e
        · rw [e, digs_zero] at ih; subst ih; simp at hm; omega
        · exact e
      rw [valU_snoc, digs_pos (by omega), show (valU m * 256 + b.toNat) / 256 = valU m by omega, ih, show (valU m * 256 + b.toNat) % 256 = b.toNat by omega]; simp
end Go.Proofs.YthfdngjbcgkkfaaGreat

namespace Go.Proofs.YthfdngjbcgkkfaaGreat
open Go.RowKit

theorem infoB : (Tryz.prog.info? 5).map (fun i => (i.zero, i.size, i.bytes)) = some (some (.int .u8 0), 1, 1) := by kernel_rfl
/-- The slice `v` reads as the bytes `l`, and is the call's own: it lies in a block from `base` on, at its head. -/
def Buf (w : World) (base : Nat) (v : Value) (l : List UInt8) : Prop := w.ownsRow base 5 1 v l.length (bys l)
theorem Buf.slB {w : World} {base : Nat} {v : Value} {l : List UInt8} (h : Buf w base v l) : SlB w v l := Sl.of_owns h
theorem Buf.nil (w : World) (base : Nat) : Buf w base (.slice none 0 0) [] := World.ownsRow_nil _ _ _ _
theorem Buf.form {w : World} {base : Nat} {v : Value} {l : List UInt8} (h : Buf w base v l) : ∃ a cap, v = .slice a l.length cap := h.slB.form
theorem Buf.of {w : World} {base n : Nat} {v : Value} {l m : List UInt8} (h : w.ownsRow base 5 1 v n (bys l ++ bys m)) : Buf w base v (l ++ m) := by
  have h1 := h.1
  unfold Buf
  rw [bys_append]
  have : (l ++ m).length = n := by simpa using h1
  rw [this]
  exact h
theorem byte_of {x : Int} (h0 : 0 ≤ x) : Value.int .u8 (x % 256) = .int .u8 ((UInt8.ofNat x.toNat).toNat : Int) := by
  congr 1; simp; omega

theorem wpl_pushB {ops : Array Oper} {rest : List Oper} {o : Oper} {a : Act} {Q : Exit → Act → World → Prop} (w : World) (base : Nat) (v : Value) (l : List UInt8) (x : Int) (hg : o.guard = none) (s t : Operand)
    (ho : o.op = .call { callee := .builtin .append, args := #[s, t], argTypes := #[48, 48] }) (hs : a.eval s = v) (ht : a.eval t = .slice (some ⟨w.heap.size, 0, none⟩) 1 1)
    (h : Buf w base v l) (b : UInt8) (hb : x = (b.toNat : Int)) (hl : l.length ≤ 140737488355300) (hbase : base ≤ w.heap.size)
    (K : ∀ v' w', Buf w' base v' (l ++ [b]) → Grw w w' v v' → wpList Tryz.prog ops Q rest (a.put o.dst v') w') : wpList Tryz.prog ops Q (o :: rest) a (w.alloc (.cells #[.int .u8 x] 5)) := by
  obtain ⟨i0, hi, hz0, hz1, hz2⟩ := info_parts infoB
  subst hb
  refine wpl_append_x hg s t _ ho base 5 i0 (.int .u8 0) 1 1 Tryz.underlying48 hi hz0 hz1 hz2 rfl (by decide) v l.length (bys l) hs (h.alloc _) _ 1 (bys [b]) ht (SlB.one w b _) (bys_one _) (by unfold maxLen; omega) (by omega) (by simp; omega) ?_
  intro v' w' h1 h2 _
  exact K v' w' (Buf.of h1) h2.alloc_left

theorem shr_byte (n k : Nat) : (n : Int) / 2 ^ (8 * k) % 256 = ((UInt8.ofNat (n / 256 ^ k % 256)).toNat : Int) := by
  have e : (256 : Nat) ^ k = 2 ^ (8 * k) := by rw [Nat.pow_mul]
  rw [e]
  simp
  
set_option maxRecDepth 100000 in
set_option maxHeartbeats 1000000 in
theorem appU_c (w : World) (base : Nat) (v0 : Value) (l : List UInt8) (n : Nat) (h : Buf w base v0 l) (hn : n < 18446744073709551616) (hl : l.length ≤ 140737488355000) (hb : base ≤ w.heap.size) :
    Calls Tryz.prog 37 #[v0, .int .u64 n] w fun e w' => ∃ v', e = .returned v' ∧ Buf w' base v' (l ++ encU n) ∧ Grw w w' v0 v' := by
  obtain ⟨i0, hi, hz0, hz1, hz2⟩ := info_parts infoB
  obtain ⟨K, hK⟩ : ∃ K, K = (digs n).length := ⟨_, rfl⟩
  have hK8 : K ≤ 8 := by rw [hK]; exact digs_len8 hn
  replace hK := Lib.hid hK
  go_enter Tryz.func37, Tryz.ntmps37
  go_wp2
  go_loop [5, 6] (fun k r => ∃ (j : Nat) (x : Nat), j ≤ K ∧ x < 18446744073709551616 ∧ k = .int .i64 j ∧ r = .int .u64 x ∧ Hid (j + (digs x).length = K)) (fun _ r => (intOf r).toNat)
  case atStart => exact ⟨0, n, by omega, hn, rfl, rfl, by show _ = _; rw [hK.out]; simp⟩
  case round =>
    obtain ⟨j, x, hj, hx, rfl, rfl, hjx⟩ := hrel
    by_cases hp : 0 < x
    · have hd := digs_len_pos hp
      have hj2 : Hid (j + 1 + (digs (x / 256)).length = K) := by have := hjx.out; show _ = _; omega
      have hj3 : j + 1 ≤ K := by have := hj2.out; omega
      clear hd hjx
      go_wp2
      go_round
      case rel => exact ⟨j + 1, x / 256, hj3, by omega, by go_num, by go_num, hj2⟩
      case measure => simp [intOf]; omega
    · have hx0 : x = 0 := by omega
      have hjK : j = K := by have := hjx.out; rw [hx0, digs_zero] at this; simpa using this
      subst hjK
      have h0 := h
      obtain ⟨a0, c0, rfl⟩ := h.form
      replace h0 := Lib.hid h0
      clear h hjx hx0
      go_wp2_with (at_builtin; (refine wpl_pushB _ base _ l _ rfl _ _ rfl rfl rfl h0.out (UInt8.ofNat j) (by simp; omega) (by omega) hb ?_; intro v1 w1 hB1 hG1))
      go_loopw [0, 7] (fun v i wr => ∃ (m : Nat) (L : List UInt8), m ≤ j ∧ i = .int .i64 ((j : Int) - 1 - m) ∧ Hid (L = l ++ [UInt8.ofNat j] ++ (digs n).take m) ∧ Buf wr base v L ∧ Grw w wr (.slice a0 l.length c0) v) (fun _ i _ => (intOf i + 1).toNat)
      case atStart => exact ⟨0, _, by omega, by simp, by show _ = _; simp, hB1, hG1⟩
      case round =>
        obtain ⟨m, L, hm, rfl, hL, hB, hG⟩ := hrel
        obtain ⟨am, cm, rfl⟩ := hB.form
        clear hB1 hG1
        have hsz := hG.grown.size
        have hlen : L.length ≤ 140737488355300 := by
          rw [hL.out]; simp only [List.length_append, List.length_take, List.length_cons, List.length_nil]; omega
        replace hB := Lib.hid hB
        replace hG := Lib.hid hG
        by_cases hmj : m < j
        · have hdg := digs_get j n (j - 1 - m) hK.out.symm (by omega)
          have hdg2 : Hid ((digs n)[m]? = some (UInt8.ofNat (n / 256 ^ (j - 1 - m) % 256))) := by rw [show j - 1 - (j - 1 - m) = m by omega] at hdg; exact hdg
          clear hdg
          go_wp2_with (at_builtin; (refine wpl_pushB _ base _ _ _ rfl _ _ rfl rfl rfl hB.out (UInt8.ofNat (n / 256 ^ (j - 1 - m) % 256)) (shr_byte _ _) hlen (by omega) ?_; intro v2 w2 hB2 hG2))
          go_roundw
          case rel => exact ⟨m + 1, _, by omega, by go_num, by show _ = _; rw [hL.out, List.take_add_one, hdg2.out]; simp, hB2, hG.out.trans hG2⟩
          case measure => simp [intOf]; omega
        · have hmj : m = j := by omega
          have hfin : Hid (L = l ++ encU n) := by
            show _ = _
            rw [hL.out, hmj]; unfold encU; rw [← hK.out, List.take_of_length_le (by rw [← hK.out]; omega)]; simp
          clear hL
          go_wp2
          go_ret
          exact ⟨_, rfl, by rw [← hfin.out]; exact hB.out, hG.out⟩

/-- `append(v, v2...)` of bytes, `v` the call's own. -/
theorem wpl_appB {ops : Array Oper} {rest : List Oper} {o : Oper} {a : Act} {Q : Exit → Act → World → Prop} (w : World) (base : Nat) (v : Value) (l : List UInt8) (hg : o.guard = none) (s t : Operand)
    (ho : o.op = .call { callee := .builtin .append, args := #[s, t], argTypes := #[48, 48] }) (hs : a.eval s = v) (v2 : Value) (m : List UInt8) (ht : a.eval t = v2)
    (h : Buf w base v l) (h2 : SlB w v2 m) (hl : l.length + m.length ≤ 140737488355328) (hbase : base ≤ w.heap.size)
    (K : ∀ v' w', Buf w' base v' (l ++ m) → Grw w w' v v' → wpList Tryz.prog ops Q rest (a.put o.dst v') w') : wpList Tryz.prog ops Q (o :: rest) a w := by
  obtain ⟨i0, hi, hz0, hz1, hz2⟩ := info_parts infoB
  refine wpl_append_x hg s t _ ho base 5 i0 (.int .u8 0) 1 1 Tryz.underlying48 hi hz0 hz1 hz2 rfl (by decide) v l.length (bys l) hs h _ m.length (bys m) ht h2 (bys_one _) (by unfold maxLen; omega) (by omega) hbase ?_
  intro v' w' h1 h2 _
  exact K v' w' (Buf.of h1) h2
theorem Buf.fresh (w : World) : Buf (w.alloc (.cells #[] 5)) w.heap.size (.slice (some ⟨w.heap.size, 0, none⟩) 0 0) [] := ownsRow_empty w _ _ _ (Nat.le_refl _)
theorem Buf.one (w : World) (b : UInt8) {x : Int} (hx : x = (b.toNat : Int)) : Buf (w.alloc (.cells #[.int .u8 x] 5)) w.heap.size (.slice (some ⟨w.heap.size, 0, none⟩) 1 1) [b] := by
  subst hx
  exact ⟨rfl, .inr ⟨_, 1, _, rfl, Nat.le_refl _, heap_alloc_new _ _, Nat.le_refl _, by simp [maxLen], rfl, rfl⟩⟩
theorem Buf.keep {w w' : World} {base : Nat} {v : Value} {l : List UInt8} (h : Buf w base v l) (hk : Keeps [] w w') : Buf w' base v l := ownsRow_block h (fun b _ hb => hk.block b hb (by simp))
theorem SlB.cap {w : World} {v : Value} {l : List UInt8} (h : SlB w v l) : l.length ≤ maxLen := by obtain ⟨_, a, c, rfl, h1, h2, _⟩ := h; omega

set_option maxRecDepth 100000 in
set_option maxHeartbeats 1000000 in
theorem clone_c (w : World) (v0 : Value) (l : List UInt8) (h : SlB w v0 l) (hl : l.length ≤ 140737488355328) :
    Calls Tryz.prog 50 #[v0] w fun e w' => ∃ v', e = .returned v' ∧ Buf w' w.heap.size v' l ∧ Keeps [] w w' := by
  have q22 : ∀ (w : World) (a : Option Addr) (n c n' c' : Nat), (binOp .eql 48 (.slice a n c) (.slice none n' c')).run Tryz.prog w = .ok (.bool a.isNone) w := fun w a n c n' c' => Lib.run_eql_slice_nil w _ _ a n c n' c' Tryz.underlying48
  obtain ⟨a0, c0, rfl⟩ := h.form
  cases a0 with
  | none =>
    have hl0 : l = [] := by
      rcases h.cases with ⟨e, _⟩ | ⟨g, o, cap, e, _⟩
      · exact e
      · cases e
    subst hl0
    replace h := Lib.hid h
    all_goals
      go_enter Tryz.func50, Tryz.ntmps50
      go_wp2
      go_ret
      exact ⟨_, rfl, Buf.nil _ _, Keeps.refl _ _⟩
  | some ad =>
    replace h := Lib.hid h
    all_goals
      go_enter Tryz.func50, Tryz.ntmps50
      go_wp2_with (at_builtin; (refine wpl_appB _ w.heap.size (.slice (some ⟨w.heap.size, 0, none⟩) 0 0) [] rfl _ _ rfl rfl _ l rfl (Buf.fresh w) (h.out.keeps ((Keeps.refl [] w).alloc _)) (by simp; omega) (by simp) ?_; intro v1 w1 hB1 hG1))
      go_ret
      exact ⟨_, rfl, hB1, hG1.keeps ((Keeps.refl [] w).alloc _) (by simp [Value.ownBlock])⟩

/-- Bytes as a string. -/
def str (l : List UInt8) : ByteArray := ⟨l.toArray⟩
theorem run_str {w : World} {v : Value} {l : List UInt8} (h : SlB w v l) : (convert 48 9 v).run Tryz.prog w = .ok (.string (str l)) w := by
  rcases h.cases with ⟨rfl, a, c, rfl, _, _⟩ | ⟨g, o, c, rfl, _, _, _, _, hc⟩
  · cases a with
    | none => exact run_convert_bytes_nil w _ _ Tryz.underlying48 Tryz.underlying5 _ _ _ Tryz.underlying9
    | some a =>
      have := run_convert_bytes_arg (P := Tryz.prog) w 48 5 Tryz.underlying48 Tryz.underlying5 a.block a.off 0 c [] rfl (fun i hi => by omega) 9 Tryz.underlying9
      rw [run_convert_bytes_string w _ _ 5 _ _ _ Tryz.underlying48 Tryz.underlying5 Tryz.underlying9] at this ⊢
      simp [Conv.bytesToString, loadCells, loadCellsFrom] at this ⊢
      rfl
  · have := run_convert_bytes_arg (P := Tryz.prog) w 48 5 Tryz.underlying48 Tryz.underlying5 g o l.length c (l.map fun b => (b.toNat : Int)) (by simp) (fun i hi => by rw [hc i hi]; simp [hi]) 9 Tryz.underlying9
    rw [this]
    simp [strOfNums, str, Function.comp_def]
theorem str_inj {l m : List UInt8} (h : str l = str m) : l = m := by simpa [str] using h

end Go.Proofs.YthfdngjbcgkkfaaGreat

namespace Go.Proofs.YthfdngjbcgkkfaaGreat
open Go.RowKit

theorem Buf.mono {w : World} {b b' : Nat} {v : Value} {l : List UInt8} (h : Buf w b v l) (hb : b' ≤ b) : Buf w b' v l := by
  refine ⟨h.1, ?_⟩
  rcases h.2 with hn | ⟨g, cap, cur, rfl, hg, rest⟩
  · exact .inl hn
  · exact .inr ⟨g, cap, cur, rfl, by omega, rest⟩
end Go.Proofs.YthfdngjbcgkkfaaGreat

namespace Go.Proofs.YthfdngjbcgkkfaaGreat
open Go.RowKit

def encB (b : Bool) : List UInt8 := [if b then 1 else 0]
set_option maxRecDepth 100000 in
set_option maxHeartbeats 1000000 in
theorem appB_c (w : World) (base : Nat) (v0 : Value) (l : List UInt8) (b : Bool) (h : Buf w base v0 l) (hl : l.length ≤ 140737488355000) (hb : base ≤ w.heap.size) :
    Calls Tryz.prog 38 #[v0, .bool b] w fun e w' => ∃ v', e = .returned v' ∧ Buf w' base v' (l ++ encB b) ∧ Grw w w' v0 v' := by
  obtain ⟨a0, c0, rfl⟩ := h.form
  replace h := Lib.hid h
  cases b
  · go_enter Tryz.func38, Tryz.ntmps38
    go_wp2_with (at_builtin; (refine wpl_pushB _ base _ l _ rfl _ _ rfl rfl rfl h.out (0 : UInt8) (by rfl) (by omega) hb ?_; intro v1 w1 hB1 hG1))
    go_ret
    exact ⟨_, rfl, hB1, hG1⟩
  · go_enter Tryz.func38, Tryz.ntmps38
    go_wp2_with (at_builtin; (refine wpl_pushB _ base _ l _ rfl _ _ rfl rfl rfl h.out (1 : UInt8) (by rfl) (by omega) hb ?_; intro v1 w1 hB1 hG1))
    go_ret
    exact ⟨_, rfl, hB1, hG1⟩
theorem Grw.ne {w w' : World} {v v' : Value} (g : Grw w w' v v') {X : Nat} (hv : v.ownBlock ≠ some X) (hX : X < w.heap.size) : v'.ownBlock ≠ some X := by
  rcases g.own with e | ⟨k, e, hk⟩
  · rw [e]; exact hv
  · rw [e]; intro h; cases h; omega
/-- What the growth of a buffer leaves, draws and other makings between. -/
structure GK (a w : World) (v v' : Value) : Prop where
  keeps : Keeps v.ownBlock.toList a w
  own : v'.ownBlock = v.ownBlock ∨ ∃ k, v'.ownBlock = some k ∧ a.heap.size ≤ k
theorem GK.refl (a : World) (v : Value) : GK a a v v := ⟨Keeps.refl _ _, .inl rfl⟩
theorem GK.then {a w w' : World} {v v' : Value} (h : GK a w v v') (k : Keeps [] w w') : GK a w' v v' := ⟨h.keeps.trans k.of_nil, h.own⟩
theorem GK.grw {a w w' : World} {v v' x : Value} (h : GK a w v v') (k : Grw w w' v' x) : GK a w' v x := by
  refine ⟨h.keeps.fresh k.keepsO (fun b hb => ?_), ?_⟩
  · rcases h.own with e | ⟨j, e, hj⟩
    · rw [e] at hb; exact .inl hb
    · rw [e] at hb; simp at hb; subst hb; exact .inr hj
  · rcases k.own with e | ⟨j, e, hj⟩
    · rw [e]; exact h.own
    · exact .inr ⟨j, e, Nat.le_trans h.keeps.size hj⟩
theorem GK.nil {w0 a w : World} {v v' : Value} (h : GK a w v v') (hk : Keeps [] w0 a) (hv : ∀ b, v.ownBlock = some b → w0.heap.size ≤ b) : Keeps [] w0 w :=
  hk.fresh h.keeps (fun b hb => .inr (hv b (by simpa using hb)))
theorem Grw.keepsP {w w' : World} {v v' : Value} (g : Grw w w' v v') {X : Nat} (hv : v.ownBlock ≠ some X) : Free.KeepsP (fun b => b ≠ X) w w' :=
  Free.KeepsP.grown g.grown (fun k e h => hv (by rw [e, h]))
end Go.Proofs.YthfdngjbcgkkfaaGreat

namespace Go.Proofs.YthfdngjbcgkkfaaGreat
open Go.RowKit

end Go.Proofs.YthfdngjbcgkkfaaGreat

namespace Go.Proofs.YthfdngjbcgkkfaaGreat
open Go.RowKit Go.ChangeShapes

/-- The number that stands for an integer on the wire. -/
def zig (n : Int) : Nat := if 0 ≤ n then (2 * n).toNat else (-2 * n - 1).toNat
def encI (n : Int) : List UInt8 := encU (zig n)
theorem zig_lt {n : Int} (h : -9223372036854775808 ≤ n ∧ n ≤ 9223372036854775807) : zig n < 18446744073709551616 := by unfold zig; split <;> omega
theorem zig_inj {m n : Int} (h : zig m = zig n) : m = n := by unfold zig at h; split at h <;> split at h <;> omega
theorem zig_pos {n : Int} (h0 : 0 ≤ n) : (zig n : Int) = 2 * n := by unfold zig; rw [if_pos h0]; omega
theorem zig_neg {n : Int} (h0 : n < 0) : (zig n : Int) = -2 * n - 1 := by unfold zig; rw [if_neg (by omega)]; omega
theorem xor_pos {n : Int} (h0 : 0 ≤ n) (hn : n ≤ 9223372036854775807) : bits .xor .u64 (n * 2) (n / 9223372036854775808) = zig n := by
  have e : n / 9223372036854775808 = ((0 : Nat) : Int) := by omega
  obtain ⟨k, rfl⟩ : ∃ k : Nat, n = k := ⟨n.toNat, by omega⟩
  rw [e, show ((k : Int) * 2) = ((k * 2 : Nat) : Int) by omega, bits_xor_u64_nat _ _ (by omega) (by omega), zig_pos h0]
  simp
  omega
theorem xor_neg {n : Int} (h0 : n < 0) (hn : -9223372036854775808 ≤ n) : bits .xor .u64 (IntKind.u64.wrap (IntKind.u64.wrap n * 2)) (IntKind.u64.wrap (n / 9223372036854775808)) = zig n := by
  have e : n / 9223372036854775808 = -1 := by omega
  have e1 : IntKind.u64.wrap (-1) = ((18446744073709551615 : Nat) : Int) := by decide
  have e2 : IntKind.u64.wrap n = n + 18446744073709551616 := by rw [IntKind.wrap_u64]; omega
  have e3 : IntKind.u64.wrap ((n + 18446744073709551616) * 2) = (((2 * n + 18446744073709551616).toNat : Nat) : Int) := by rw [IntKind.wrap_u64]; omega
  rw [e, e1, e2, e3, bits_xor_u64_nat _ _ (by omega) (by decide), zig_neg h0, Nat.xor_comm]
  have := Go.Lib.xor_ones64 (2 * n + 18446744073709551616).toNat (by omega)
  rw [show (18446744073709551615 : Nat) = 2 ^ 64 - 1 by decide, this]
  omega
set_option maxRecDepth 100000 in
set_option maxHeartbeats 2000000 in
theorem appI_c (w : World) (base : Nat) (v0 : Value) (l : List UInt8) (n : Int) (h : Buf w base v0 l) (hn : -9223372036854775808 ≤ n ∧ n ≤ 9223372036854775807) (hl : l.length ≤ 140737488355000) (hb : base ≤ w.heap.size) :
    Calls Tryz.prog 36 #[v0, .int .i64 n] w fun e w' => ∃ v', e = .returned v' ∧ Buf w' base v' (l ++ encI n) ∧ Grw w w' v0 v' := by
  have hc := appU_c w base v0 l (zig n) h (zig_lt hn) hl hb
  replace hc := Lib.hid hc
  by_cases h0 : 0 ≤ n
  · go_enter Tryz.func36, Tryz.ntmps36
    go_wp2_with fail
    rw [xor_pos h0 hn.2]
    refine hc.out.mono ?_
    rintro e w' ⟨v', rfl, hB, hG⟩
    go_wp2
    go_ret
    exact ⟨_, rfl, hB, hG⟩
  · replace h0 : n < 0 := by omega
    go_enter Tryz.func36, Tryz.ntmps36
    go_wp2_with fail
    rw [xor_neg h0 hn.1]
    refine hc.out.mono ?_
    rintro e w' ⟨v', rfl, hB, hG⟩
    go_wp2
    go_ret
    exact ⟨_, rfl, hB, hG⟩
end Go.Proofs.YthfdngjbcgkkfaaGreat

namespace Go.Proofs.YthfdngjbcgkkfaaGreat
open Go.RowKit Go.ChangeShapes

abbrev tB : Nat := 5
abbrev tBs : Nat := 48
/-- Every block but those of bytes and of buffers' variables is as it was. -/
structure KB8 (w w' : World) : Prop where
  sz : w.heap.size ≤ w'.heap.size
  b : ∀ (b : Nat) (cs : Array Value) (t : TypeId) (f : Nat × Nat), w.heap[b]? = some (Obj.cells cs t f) → t ≠ tB → t ≠ tBs → w'.heap[b]? = some (Obj.cells cs t f)
theorem KB8.refl (w : World) : KB8 w w := ⟨Nat.le_refl _, fun _ _ _ _ h _ _ => h⟩
theorem KB8.trans {a b c : World} (h : KB8 a b) (k : KB8 b c) : KB8 a c := ⟨Nat.le_trans h.sz k.sz, fun i cs t f hx h1 h2 => k.b i cs t f (h.b i cs t f hx h1 h2) h1 h2⟩
theorem blk_lt {w : World} {b : Nat} {o : Obj} (h : w.heap[b]? = some o) : b < w.heap.size := (Array.getElem?_eq_some_iff.1 h).1
theorem Keeps.kb8 {w w' : World} (h : Keeps [] w w') : KB8 w w' := ⟨h.size, fun b cs t f hx _ _ => (h.block b (blk_lt hx) (by simp)).trans hx⟩
/-- The variable in block `bb` holds a buffer of these bytes, all of it made since `w0`. -/
structure EB (w0 w : World) (bb : Nat) (l : List UInt8) : Prop where
  v : ∃ v, w.heap[bb]? = some (.cells #[v] tBs (0, 0)) ∧ Buf w w0.heap.size v l
  k : Keeps [] w0 w
  ge : w0.heap.size ≤ bb
theorem EB.keeps {w0 w w' : World} {bb : Nat} {l : List UInt8} (h : EB w0 w bb l) (hk : Keeps [] w w') : EB w0 w' bb l := by
  obtain ⟨v, h1, h2⟩ := h.v
  exact ⟨⟨v, (hk.block _ (blk_lt h1) (by simp)).trans h1, h2.keep hk⟩, h.k.trans hk, h.ge⟩
theorem EB.new (w : World) : EB w (w.alloc (.cells #[.slice none 0 0] tBs)) w.heap.size [] :=
  ⟨⟨_, heap_alloc_new _ _, Buf.nil _ _⟩, (Keeps.refl _ _).alloc _, Nat.le_refl _⟩
theorem Buf.tagB {w : World} {base : Nat} {v : Value} {l : List UInt8} (h : Buf w base v l) {b : Nat} (hb : v.ownBlock = some b) : base ≤ b ∧ ∃ (cs : Array Value), w.heap[b]? = some (Obj.cells cs tB (0, 0)) := by
  rcases h.2 with ⟨rfl, _⟩ | ⟨g, cap, cur, rfl, h1, hg, _⟩
  · simp [Value.ownBlock] at hb
  · simp [Value.ownBlock] at hb; subst hb; exact ⟨h1, _, hg⟩
theorem Buf.sep {w : World} {base : Nat} {v : Value} {l : List UInt8} (h : Buf w base v l) {b : Nat} {cs : Array Value} {t : TypeId} {f : Nat × Nat} (hb : w.heap[b]? = some (.cells cs t f)) (ht : t ≠ tB) : v.ownBlock ≠ some b := fun e => by
  obtain ⟨_, cs', hc⟩ := h.tagB e
  rw [hb] at hc
  cases hc
  exact ht rfl
theorem Grw.kb8 {w w' : World} {base : Nat} {v v' : Value} {l : List UInt8} (hG : Grw w w' v v') (h : Buf w base v l) : KB8 w w' :=
  ⟨hG.keepsO.size, fun b cs t f hx h1 _ => (hG.keepsO.block b (blk_lt hx) (fun hm => h.sep hx h1 (by simpa using hm))).trans hx⟩
theorem Buf.keepN {w w' : World} {base : Nat} {v : Value} {l : List UInt8} {S : List Nat} (h : Buf w base v l) (hk : Keeps S w w') (hS : ∀ b ∈ S, v.ownBlock ≠ some b) : Buf w' base v l := by
  refine ⟨h.1, ?_⟩
  rcases h.2 with hn | ⟨g, cap, cur, rfl, hb, hg, rest⟩
  · exact .inl hn
  · exact .inr ⟨g, cap, cur, rfl, hb, (hk.block g (blk_lt hg) (fun hm => hS g hm (by simp [Value.ownBlock]))).trans hg, rest⟩
theorem setCz {w : World} {b : Nat} {cs : Array Value} {t : TypeId} {f : Nat × Nat} (h : w.heap[b]? = some (.cells cs t f)) (o : Nat) (v : Value) : (w.setCell ⟨b, o, none⟩ v).heap[b]? = some (.cells (cs.setIfInBounds o v) t f) := by
  simp [World.setCell, Array.getElem?_modify, h]
/-- The buffer has grown and is stored again. -/
theorem EB.put {w0 w w1 w2 : World} {bb : Nat} {l l' : List UInt8} {v v' : Value} (h : EB w0 w bb l) (hk : Keeps [] w w1) (hb : w1.heap[bb]? = some (.cells #[v] tBs (0, 0))) (hB : Buf w1 w0.heap.size v l) (hG : Grw w1 w2 v v') (hB2 : Buf w2 w0.heap.size v' l') :
    EB w0 (w2.setCell ⟨bb, 0, none⟩ v') bb l' ∧ KB8 w1 (w2.setCell ⟨bb, 0, none⟩ v') ∧ (∀ o, w2.frozen? ⟨bb, o, none⟩ = false) ∧ w2.heap[bb]? = some (.cells #[v] tBs (0, 0)) := by
  have hb2 : w2.heap[bb]? = some (.cells #[v] tBs (0, 0)) := (hG.keepsO.block bb (blk_lt hb) (fun hm => hB.sep hb (by decide) (by simpa using hm))).trans hb
  have hks : Keeps [bb] w2 (w2.setCell ⟨bb, 0, none⟩ v') := (Keeps.refl _ _).setCell (.inr (by simp)) _
  have hk12 : Keeps [] w0 w2 := (h.k.trans hk).fresh hG.keepsO (fun b hm => .inr (hB.tagB (by simpa using hm)).1)
  refine ⟨⟨⟨v', ?_, ?_⟩, hk12.fresh hks (fun b hm => by simp only [List.mem_singleton] at hm; subst hm; exact .inr h.ge), h.ge⟩, ?_, fun o => by simp [World.frozen?, hb2], hb2⟩
  · have e := setCz hb2 0 v'
    simpa using e
  · exact hB2.keepN hks (fun b hm e => by
      simp only [List.mem_singleton] at hm
      subst hm
      exact hB2.sep hb2 (by decide) e)
  · exact ⟨Nat.le_trans hG.keepsO.size hks.size, fun b cs t f hx h1 h2 => by
      have h3 := (hG.kb8 hB).b b cs t f hx h1 h2
      exact (hks.block b (blk_lt h3) (fun hm => by simp only [List.mem_singleton] at hm; subst hm; rw [hb2] at h3; cases h3; exact h2 rfl)).trans h3⟩
def flatI (L : List Int) : List UInt8 := (L.map encI).flatten
theorem encI_len {n : Int} (h : W64 n) : (encI n).length ≤ 9 := encU_len (zig_lt (w64_iff.1 h))
theorem flatI_len : ∀ {L : List Int}, (∀ z ∈ L, W64 z) → (flatI L).length ≤ 9 * L.length
  | [], _ => by simp [flatI]
  | z :: L, h => by
    have h1 := encI_len (h z (by simp))
    have h2 := flatI_len (L := L) (fun y hy => h y (by simp [hy]))
    simp only [flatI, List.map_cons, List.flatten_cons, List.length_append, List.length_cons] at h2 ⊢
    omega
theorem flatI_take (L : List Int) (k : Nat) (hk : k < L.length) : flatI (L.take (k + 1)) = flatI (L.take k) ++ encI L[k] := by
  unfold flatI
  rw [List.take_succ_eq_append_getElem hk, List.map_append, List.flatten_append]
  simp
set_option maxRecDepth 100000 in
set_option maxHeartbeats 4000000 in
theorem ints_c (w0 w : World) (bb : Nat) (l : List UInt8) (va : Value) (L : List Int) (h : EB w0 w bb l) (hv : ∀ w', KB8 w w' → shZ.R w' va L) (hL : ∀ z ∈ L, W64 z) (hn : L.length ≤ 1000) (hl : l.length ≤ 100000000) :
    Calls Tryz.prog 35 #[va, .pointer (some ⟨bb, 0, none⟩)] w fun e w' => e = .returned (.tuple #[]) ∧ EB w0 w' bb (l ++ flatI L) ∧ KB8 w w' := by
  obtain ⟨a, c, rfl, hlc, hcm, _⟩ := (hv w (KB8.refl _)).form
  obtain ⟨M, hM⟩ : ∃ n, L.length = n := ⟨_, rfl⟩
  rw [hM] at hlc hn hv ⊢
  have hMm : M ≤ 9223372036854775807 := by omega
  replace hM := Lib.hid hM
  replace h := Lib.hid h
  replace hL := Lib.hid hL
  replace hl := Lib.hid hl
  replace hv := Lib.hid hv
  go_enter Tryz.func35, Tryz.ntmps35
  go_wp2
  go_loopw [7] (fun iv wr => ∃ k : Nat, iv = .int .i64 k ∧ k ≤ M ∧ Hid (EB w0 wr bb (l ++ flatI (L.take k))) ∧ Hid (KB8 w wr)) (fun iv _ => M - (intOf iv).toNat)
  case atStart => exact ⟨0, rfl, by omega, Lib.hid (by simpa [flatI] using h.out), Lib.hid (KB8.refl _)⟩
  case round =>
    obtain ⟨k, rfl, hk, hE, hkw⟩ := hrel
    by_cases hlt : k < M
    · have hlt2 : (k : Int) < M := by omega
      have hkL : k < L.length := by rw [hM.out]; exact hlt
      obtain ⟨g, o, c', hvv, he⟩ := (hv.out wr hkw.out).elem hkL
      rw [hM.out] at hvv
      cases hvv
      have e0 := he 0 _ rfl
      simp only [shZ, Nat.add_zero, Nat.mul_one] at e0
      obtain ⟨z, hz⟩ : ∃ z, L[k] = z := ⟨_, rfl⟩
      rw [hz] at e0
      have hzw : W64 z := hz ▸ hL.out _ (List.getElem_mem hkL)
      have hlen : (l ++ flatI (L.take k)).length ≤ 140737488355000 := by
        have h1 := flatI_len (L := L.take k) (fun y hy => hL.out y (List.mem_of_mem_take hy))
        have h2 := hl.out
        simp only [List.length_append, List.length_take] at h1 ⊢
        omega
      obtain ⟨v, hbb, hB⟩ := hE.out.v
      obtain ⟨b0, bf, bl⟩ := cl1 hbb
      have hc := appI_c wr w0.heap.size v _ z hB (w64_iff.1 hzw) hlen hE.out.k.size
      replace hc := Lib.hid hc
      replace hbb := Lib.hid hbb
      replace hz := Lib.hid hz
      replace hB := Lib.hid hB
      clear he hlen
      go_wp2_with fail
      refine hc.out.mono ?_
      rintro e w2 ⟨v', rfl, hB2, hG⟩
      obtain ⟨a2, c2, hv2⟩ := hB2.form
      obtain ⟨N2, hN2⟩ : ∃ n, (l ++ flatI (L.take k) ++ encI z).length = n := ⟨_, rfl⟩
      rw [hN2] at hv2
      subst hv2
      obtain ⟨p1, p2, p3, p4⟩ := hE.out.put (Keeps.refl _ _) hbb.out hB.out hG hB2
      obtain ⟨d0, df, dl⟩ := cl1 p4
      have hE2 : EB w0 (w2.setCell ⟨bb, 0, none⟩ (.slice a2 N2 c2)) bb (l ++ flatI (L.take (k + 1))) := by
        rw [flatI_take L k hkL, hz.out, ← List.append_assoc]
        exact p1
      have hkw2 := hkw.out.trans p2
      replace hE2 := Lib.hid hE2
      replace hkw2 := Lib.hid hkw2
      clear hc hB2 hG p1 p2 p3 p4 b0 bf bl
      go_wp2
      go_roundw
      case rel => exact ⟨k + 1, rfl, by omega, hE2, hkw2⟩
      case measure => simp [intOf]; omega
    · have hlt2 : ¬ ((k : Int) < M) := by omega
      have hkM : k = L.length := by rw [hM.out]; omega
      replace hkM := Lib.hid hkM
      go_wp2
      go_end0
      refine ⟨rfl, ?_, hkw.out⟩
      have := hE.out
      rw [hkM.out, List.take_length] at this
      exact this
end Go.Proofs.YthfdngjbcgkkfaaGreat

namespace Go.Proofs.YthfdngjbcgkkfaaGreat
open Go.RowKit Go.ChangeShapes

def encX (x : T3) : List UInt8 := encI x.1 ++ encU x.2.1 ++ encI x.2.2
def encA0 (a : Ans) : List UInt8 := encI a.m ++ encI a.ow ++ encU a.n ++ encI a.ep ++ encB a.kn ++ encB a.rt ++ encI a.lu ++ encU a.ins.length
def encXs (L : List T3) : List UInt8 := (L.map encX).flatten
def encA (a : Ans) : List UInt8 := encA0 a ++ encXs a.ins
def encH (L : List Ans) : List UInt8 := (L.map encA).flatten
def encT0 (t : Tr) : List UInt8 := encI t.im ++ encI t.is ++ encI t.st.1 ++ encU t.st.2.1 ++ encI t.st.2.2 ++ encU t.told.toNat ++ encU t.hist.length
def encT (t : Tr) : List UInt8 := encT0 t ++ encH t.hist ++ encU t.ag.length ++ encB t.rf
theorem encXs_take (L : List T3) (k : Nat) (hk : k < L.length) : encXs (L.take (k + 1)) = encXs (L.take k) ++ encX L[k] := by
  unfold encXs
  rw [List.take_succ_eq_append_getElem hk, List.map_append, List.flatten_append]
  simp
theorem encH_take (L : List Ans) (k : Nat) (hk : k < L.length) : encH (L.take (k + 1)) = encH (L.take k) ++ encA L[k] := by
  unfold encH
  rw [List.take_succ_eq_append_getElem hk, List.map_append, List.flatten_append]
  simp
/-- Numbers that fit. -/
structure InsFit (x : T3) : Prop where
  a : W64 x.1
  n : x.2.1 < 18446744073709551616
  c : W64 x.2.2
theorem encX_len {x : T3} (h : InsFit x) : (encX x).length ≤ 27 := by
  have h1 := encI_len h.a
  have h2 := encU_len h.n
  have h3 := encI_len h.c
  simp only [encX, List.length_append]
  omega
theorem encXs_len : ∀ {L : List T3}, (∀ x ∈ L, InsFit x) → (encXs L).length ≤ 27 * L.length
  | [], _ => by simp [encXs]
  | x :: L, h => by
    have h1 := encX_len (h x (by simp))
    have h2 := encXs_len (L := L) (fun y hy => h y (by simp [hy]))
    simp only [encXs, List.map_cons, List.flatten_cons, List.length_append, List.length_cons] at h2 ⊢
    omega
theorem Ans.Ok.fitI {a : Ans} (h : a.Ok) : ∀ x ∈ a.ins, InsFit x := fun x hx => ⟨(h.ins x hx).1, (h.ins x hx).2.1, (h.ins x hx).2.2⟩
theorem encA0_len {a : Ans} (h : a.Ok) : (encA0 a).length ≤ 56 := by
  have h1 := encI_len h.q.1
  have h2 := encI_len h.q.2.1
  have h3 := encU_len h.q.2.2
  have h4 := encI_len h.ep
  have h5 := encI_len h.lu
  have h6 := encU_len (n := a.ins.length) (by have := h.len; omega)
  simp only [encA0, encB, List.length_append, List.length_cons, List.length_nil, Ans.q] at h1 h2 h3 ⊢
  omega
theorem encA_len {a : Ans} (h : a.Ok) (hi : a.ins.length ≤ 1000) : (encA a).length ≤ 27100 := by
  have h1 := encA0_len h
  have h2 := encXs_len h.fitI
  simp only [encA, List.length_append]
  omega
theorem encH_len : ∀ {L : List Ans}, (∀ a ∈ L, a.Ok ∧ a.ins.length ≤ 1000) → (encH L).length ≤ 27100 * L.length
  | [], _ => by simp [encH]
  | a :: L, h => by
    have h1 := encA_len (h a (by simp)).1 (h a (by simp)).2
    have h2 := encH_len (L := L) (fun y hy => h y (by simp [hy]))
    simp only [encH, List.map_cons, List.flatten_cons, List.length_append, List.length_cons] at h2 ⊢
    omega
/-- The trace's own numbers fit. -/
structure Tr.Num (t : Tr) : Prop where
  im : W64 t.im
  is : W64 t.is
  s0 : W64 t.st.1
  s1 : t.st.2.1 < 18446744073709551616
  s2 : W64 t.st.2.2
theorem EB.kp {w0 w w' : World} {bb : Nat} {l l' : List UInt8} (h : EB w0 w bb l) (k : EB w0 w' bb l') (hs : w.heap.size ≤ w'.heap.size) : Free.KeepsP (fun b => w0.heap.size ≤ b) w w' :=
  ⟨k.k.os.trans h.k.os.symm, k.k.tape.trans h.k.tape.symm, k.k.output.trans h.k.output.symm, hs, fun b _ hn => (k.k.block b (by omega) (by simp)).trans (h.k.block b (by omega) (by simp)).symm⟩
theorem csZ : ∀ zs : List Int, shZ.cs zs = zs.map (.int .i64)
  | [] => rfl
  | z :: zs => by
    show shZ.cf z ++ shZ.cs zs = _
    rw [csZ zs]
    rfl
theorem made_ints (w : World) (zs : List Int) (xs : Array Value) (n : Nat) (hx : xs.toList = zs.map (.int .i64)) (hn : zs.length = n) (hm : n ≤ 1000) : ∀ w', KB8 (w.alloc (.cells xs 3)) w' → shZ.R w' (.slice (some ⟨w.heap.size, 0, none⟩) n n) zs := fun w' hk => by
  subst hn
  have hn := heap_alloc_new w (.cells xs 3)
  have hb := hk.b _ _ _ _ hn (by decide) (by decide)
  have hR := Sh.R.made shZ w zs xs 3 (by rw [hx, csZ]) (by unfold maxLen; omega) zs.length rfl
  obtain ⟨h1, a, c, e, h2, h3, h4, h5⟩ := hR
  cases e
  refine ⟨h1, _, _, rfl, h2, h3, h4, fun hp => ?_⟩
  obtain ⟨g, o, e, hc⟩ := h5 hp
  cases e
  exact ⟨_, _, rfl, fun j u hj => (World.cell?_of_block (w := w.alloc (.cells xs 3)) (a := ⟨w.heap.size, 0 + j, none⟩) (by rw [hb, hn])).trans (hc j u hj)⟩
theorem EB.open {w0 w : World} {bb : Nat} {l : List UInt8} (h : EB w0 w bb l) : ∃ a N c, w.heap[bb]? = some (.cells #[.slice a N c] tBs (0, 0)) ∧ Buf w w0.heap.size (.slice a N c) l := by
  obtain ⟨v, h1, h2⟩ := h.v
  obtain ⟨a, c, rfl⟩ := h2.form
  exact ⟨a, _, c, h1, h2⟩
/-- What a call that appends and the store of its result leave. -/
def EPost (w0 w : World) (bb : Nat) (v : Value) (l : List UInt8) (e : Ending) (w2 : World) : Prop :=
  ∃ a N c, e = .returned (.slice a N c) ∧ Hid (w2.heap[bb]? = some (.cells #[v] tBs (0, 0))) ∧ Hid (EB w0 (w2.setCell ⟨bb, 0, none⟩ (.slice a N c)) bb l) ∧ Hid (KB8 w (w2.setCell ⟨bb, 0, none⟩ (.slice a N c))) ∧
    Hid ((w2.setCell ⟨bb, 0, none⟩ (.slice a N c)).heap[bb]? = some (.cells #[.slice a N c] tBs (0, 0))) ∧ Hid (Buf (w2.setCell ⟨bb, 0, none⟩ (.slice a N c)) w0.heap.size (.slice a N c) l) ∧ Hid (Free.KeepsP (fun b => v.ownBlock = some b ∨ w.heap.size ≤ b) w w2)
theorem EB.post {w0 w w2 : World} {bb : Nat} {l l' : List UInt8} {v v' : Value} (hE : EB w0 w bb l) (hbb : w.heap[bb]? = some (.cells #[v] tBs (0, 0))) (hB : Buf w w0.heap.size v l) (hB2 : Buf w2 w0.heap.size v' l') (hG : Grw w w2 v v') : EPost w0 w bb v l' (.returned v') w2 := by
  obtain ⟨a, c, hv⟩ := hB2.form
  subst hv
  obtain ⟨p1, p2, p3, p4⟩ := hE.put (Keeps.refl _ _) hbb hB hG hB2
  have p5 : (w2.setCell ⟨bb, 0, none⟩ (.slice a l'.length c)).heap[bb]? = some (.cells #[.slice a l'.length c] tBs (0, 0)) := by
    have e := setCz p4 0 (.slice a l'.length c)
    simpa using e
  obtain ⟨v3, q1, q2⟩ := p1.v
  have e3 : v3 = .slice a l'.length c := by rw [p5] at q1; cases q1; rfl
  subst e3
  exact ⟨a, _, c, rfl, Lib.hid p4, Lib.hid p1, Lib.hid p2, Lib.hid p5, Lib.hid q2, Lib.hid (Free.KeepsP.of hG.keepsO (fun b hb => .inl (by simpa using hb)))⟩
theorem EB.call {f : Nat} {args : Array Value} {w0 w : World} {bb : Nat} {l x : List UInt8} {v : Value} (hE : EB w0 w bb l) (hbb : w.heap[bb]? = some (.cells #[v] tBs (0, 0))) (hB : Buf w w0.heap.size v l)
    (hc : Calls Tryz.prog f args w fun e w' => ∃ v', e = .returned v' ∧ Buf w' w0.heap.size v' (l ++ x) ∧ Grw w w' v v') : Calls Tryz.prog f args w (EPost w0 w bb v (l ++ x)) :=
  hc.mono fun e w2 ⟨v', he, hB2, hG⟩ => by subst he; exact hE.post hbb hB hB2 hG
theorem EPost.low {w0 w : World} {bb : Nat} {v : Value} {l l' : List UInt8} (hB : Buf w w0.heap.size v l) (hE : EB w0 w bb l') : ∀ b, v.ownBlock = some b ∨ w.heap.size ≤ b → w0.heap.size ≤ b := fun b hb => by
  rcases hb with h | h
  · exact (hB.tagB h).1
  · exact Nat.le_trans hE.k.size h
end Go.Proofs.YthfdngjbcgkkfaaGreat
