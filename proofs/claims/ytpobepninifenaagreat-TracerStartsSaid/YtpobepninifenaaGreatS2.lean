/- Texts that the laws lean on, in the order in which they build. A region that draws its order, whatever its operations do: one obligation for each operation, in the order of the text, serves every order. An operation that is 'loud' (it makes or writes memory, or calls) says what it leaves by a fact on its value and the world that no other operation of the region can undo; every other operation yields one value in every world that can come up. A region that draws its order, walked once in the order of the text: the operations that act ('loud') are in one fixed order with each other; every other operation either is ordered against all of them, or is 'steady': it yields the same value in every world that can come up. Of whatever program. Guarded operations in a chain, of whatever program. slices.SortFunc over a flat slice of the call's own. Of whatever program. cmp's functions and the comparisons of answers and of needs. DERIVED: THE SHELF's CONTRACTS AT THIS DUMP, IN PLAIN WORDS (tools/lay-plain.mjs out of 'YtpobepninifenaaGreatSortSrc33.lean', which tools/lay-shelf.mjs wrote): THE SAME DECLARATIONS UNDER THE SAME NAMES: 'import', 'namespace', 'open', 'def', 'theorem' AND NOTHING ELSE: no command of the shelf's: FOR A HAND-IN. Each laying: the table of numbers ('.._ren') and one theorem, a field a fact of the dump's own or the kernel's comparison; each contract: ONE APPLICATION. -/
import Derived.Test.YtpobepninifenaaGreatS1
import Derived.Test.YtpobepninifenaaGreatProg
import Derived.Orders
import Derived.Shelf.SlSortCmp.WholeK
import Derived.Ground.SlsfProg
set_option linter.unusedVariables false
set_option linter.unusedSimpArgs false
namespace Go.Proofs.YtpobepninifenaaGreat
namespace Free
open Go Go.RowKit

/-- `w'` is `w` with new blocks and draws, and with writes to blocks of `S` alone. -/
structure KeepsP (S : Nat → Prop) (w w' : World) : Prop where
  os : w'.os = w.os
  tape : w'.tape = w.tape
  output : w'.output = w.output
  size : w.heap.size ≤ w'.heap.size
  block : ∀ k, k < w.heap.size → ¬ S k → w'.heap[k]? = w.heap[k]?
theorem KeepsP.refl (S : Nat → Prop) (w : World) : KeepsP S w w := ⟨rfl, rfl, rfl, Nat.le_refl _, fun _ _ _ => rfl⟩
theorem KeepsP.trans {S : Nat → Prop} {a b c : World} (h : KeepsP S a b) (k : KeepsP S b c) : KeepsP S a c :=
  ⟨k.os.trans h.os, k.tape.trans h.tape, k.output.trans h.output, Nat.le_trans h.size k.size,
    fun i hi hs => (k.block i (Nat.lt_of_lt_of_le hi h.size) hs).trans (h.block i hi hs)⟩
theorem KeepsP.mono {S T : Nat → Prop} {w w' : World} (h : KeepsP S w w') (hst : ∀ k, S k → T k) : KeepsP T w w' :=
  ⟨h.os, h.tape, h.output, h.size, fun k hk hT => h.block k hk fun hs => hT (hst k hs)⟩
theorem KeepsP.of {w w' : World} {S : List Nat} {T : Nat → Prop} (h : Keeps S w w') (hst : ∀ k ∈ S, T k) : KeepsP T w w' :=
  ⟨h.os, h.tape, h.output, h.size, fun k hk hT => h.block k hk fun hs => hT (hst k hs)⟩
theorem KeepsP.to {w0 w w' : World} {S : List Nat} {T : Nat → Prop} (h : Keeps S w0 w) (k : KeepsP T w w') (hst : ∀ b, T b → b ∈ S ∨ w0.heap.size ≤ b) : Keeps S w0 w' :=
  ⟨k.os.trans h.os, k.tape.trans h.tape, k.output.trans h.output, Nat.le_trans h.size k.size,
    fun i hi hs => (k.block i (Nat.lt_of_lt_of_le hi h.size) (fun ht => by rcases hst i ht with h1 | h1; exact hs h1; omega)).trans (h.block i hi hs)⟩
theorem KeepsP.cell {S : Nat → Prop} {w w' : World} (h : KeepsP S w w') : ∀ b o, b < w.heap.size → ¬ S b → w'.cell? ⟨b, o, none⟩ = w.cell? ⟨b, o, none⟩ :=
  fun b o hb hs => World.cell?_of_block (w := w) (a := ⟨b, o, none⟩) (h.block b hb hs)
theorem KeepsP.alloc (S : Nat → Prop) (w : World) (o : Obj) : KeepsP S w (w.alloc o) := ⟨rfl, rfl, rfl, by simp, fun k hk _ => Below.heap_alloc _ _ _ hk⟩
theorem KeepsP.setCell {S : Nat → Prop} (w : World) {p : Addr} (hp : S p.block) (u : Value) : KeepsP S w (w.setCell p u) :=
  ⟨rfl, rfl, rfl, by simp [World.setCell], fun k _ hs => Below.heap_setCell _ _ _ _ (by rintro rfl; exact hs hp)⟩
theorem KeepsP.grown {S : Nat → Prop} {w w' : World} {row : Option Nat} (hg : w.grownBy w' row) (hr : ∀ k, row = some k → S k) : KeepsP S w w' :=
  ⟨hg.os, hg.tape, hg.output, hg.size, fun k hk hs => hg.block k hk (fun e => hs (hr k e.symm))⟩

def fill (v : Nat → Value) (S : Nat → Bool) : List Oper → Nat → Act → Act
  | [], _, a => a
  | o :: r, k, a => fill v S r (k + 1) (if S k then a.put o.dst (v k) else a)

theorem fill_congr {v v' : Nat → Value} {S S' : Nat → Bool} : ∀ (l : List Oper) (k : Nat) (a : Act), (∀ j, k ≤ j → j < k + l.length → S j = S' j ∧ (S j = true → v j = v' j)) → fill v S l k a = fill v' S' l k a
  | [], _, _, _ => rfl
  | o :: r, k, a, h => by
    have h0 := h k (Nat.le_refl _) (by simp)
    unfold fill
    rw [fill_congr r (k + 1) _ (fun j hj hlt => h j (by omega) (by simp; omega))]
    congr 1
    rw [← h0.1]
    split
    · rw [h0.2 ‹_›]
    · rfl

theorem fill_none {v : Nat → Value} : ∀ (l : List Oper) (k : Nat) (a : Act), fill v (fun _ => false) l k a = a
  | [], _, _ => rfl
  | o :: r, k, a => by unfold fill; simp [fill_none r (k + 1) a]

theorem fill_comm {v : Nat → Value} {S : Nat → Bool} {x : Value} {d : Option Tmp} : ∀ (l : List Oper) (k : Nat) (a : Act), (∀ p ∈ l, ∀ t, d = some t → p.dst ≠ some t) →
    fill v S l k (a.put d x) = (fill v S l k a).put d x
  | [], _, _, _ => rfl
  | o :: r, k, a, h => by
    unfold fill
    split
    · rw [Act.put_comm a x (v k) (fun t ht => h o (by simp) t ht)]
      exact fill_comm r (k + 1) _ (fun p hp => h p (by simp [hp]))
    · exact fill_comm r (k + 1) _ (fun p hp => h p (by simp [hp]))

/-- One operation more. -/
theorem fill_put {v : Nat → Value} {S S' : Nat → Bool} {i : Nat} {o : Oper} (hi : S i = false) (hi' : S' i = true) (hS : ∀ j, j ≠ i → S' j = S j) : ∀ (l : List Oper) (k : Nat) (a : Act), k ≤ i → l[i - k]? = some o →
    (∀ j p, l[j]? = some p → k + j ≠ i → ∀ t, o.dst = some t → p.dst ≠ some t) → fill v S' l k a = (fill v S l k a).put o.dst (v i)
  | [], k, a, _, ho, _ => by simp at ho
  | p :: r, k, a, hk, ho, hd => by
    unfold fill
    by_cases e : k = i
    · subst e
      have hp : p = o := by simpa using ho
      subst hp
      rw [hi, hi']
      simp only [if_true, Bool.false_eq_true, if_false]
      have : fill v S' r (k + 1) (a.put p.dst (v k)) = fill v S r (k + 1) (a.put p.dst (v k)) :=
        fill_congr r (k + 1) _ (fun j hj _ => ⟨hS j (by omega), fun _ => rfl⟩)
      rw [this]
      refine fill_comm r (k + 1) a (fun q hq t ht => ?_)
      obtain ⟨j, hj⟩ := List.getElem?_of_mem hq
      exact hd (j + 1) q (by simpa using hj) (by omega) t ht
    · rw [hS k e]
      refine fill_put hi hi' hS r (k + 1) _ (by omega) ?_ (fun j q hq hne => hd (j + 1) q (by simpa using hq) (by omega))
      have : i - k = (i - (k + 1)) + 1 := by omega
      rw [this] at ho
      simpa using ho

def Agree (L : List Tmp) (a b : Act) : Prop := a.tmps.size = b.tmps.size ∧ ∀ t ∈ L, a.tmps[t]? = b.tmps[t]?
theorem Agree.refl (L : List Tmp) (a : Act) : Agree L a a := ⟨rfl, fun _ _ => rfl⟩
theorem Agree.symm {L : List Tmp} {a b : Act} (h : Agree L a b) : Agree L b a := ⟨h.1.symm, fun t ht => (h.2 t ht).symm⟩
theorem Agree.both {L : List Tmp} {a b : Act} (h : Agree L a b) (d : Option Tmp) (v : Value) : Agree L (a.put d v) (b.put d v) := by
  cases d with
  | none => exact h
  | some d =>
    refine ⟨by simp [Act.put, h.1], fun t ht => ?_⟩
    simp only [Act.put, Array.getElem?_setIfInBounds, h.1, h.2 t ht]
theorem Agree.left {L : List Tmp} {a b : Act} (h : Agree L a b) (d : Option Tmp) (v : Value) (hd : ∀ t, d = some t → t ∉ L) : Agree L (a.put d v) b := by
  cases d with
  | none => exact h
  | some d =>
    refine ⟨by simp [Act.put, h.1], fun t ht => ?_⟩
    have : d ≠ t := fun e => hd d rfl (e ▸ ht)
    simp only [Act.put, Array.getElem?_setIfInBounds_ne this, h.2 t ht]
theorem fill_agree {L : List Tmp} {v : Nat → Value} {S T : Nat → Bool} : ∀ (l : List Oper) (k : Nat) (a b : Act), Agree L a b →
    (∀ j p, l[j]? = some p → S (k + j) ≠ T (k + j) → ∀ t, p.dst = some t → t ∉ L) → Agree L (fill v S l k a) (fill v T l k b)
  | [], _, _, _, h, _ => h
  | o :: r, k, a, b, h, hd => by
    unfold fill
    have h0 := hd 0 o rfl
    refine fill_agree r (k + 1) _ _ ?_ (fun j p hp hne => hd (j + 1) p (by simpa using hp) (by rwa [show k + (j + 1) = k + 1 + j from by omega]))
    simp only [Nat.add_zero] at h0
    cases hs : S k <;> cases ht : T k <;> simp only [if_true, Bool.false_eq_true, if_false]
    · exact h
    · exact (h.symm.left _ _ (h0 (by simp [hs, ht]))).symm
    · exact h.left _ _ (h0 (by simp [hs, ht]))
    · exact h.both _ _

section
variable {ops : Array Oper}
theorem exec_agree {o : Oper} {a b : Act} (h : Agree (o.looksAt ops) a b) (hs : ∀ cs c, o.op ≠ .select cs c) : execOp a.eval o = execOp b.eval o := by
  refine execOp_congr o hs fun x hx => ?_
  cases x with
  | tmp t =>
    have ht : t ∈ o.looksAt ops := by
      unfold Oper.looksAt
      refine List.mem_append.2 (.inl (List.mem_filterMap.2 ⟨.tmp t, by simpa using hx, rfl⟩))
    have := h.2 t ht
    simp [Act.eval, this]
  | _ => rfl
theorem wanted_agree {o : Oper} {a b : Act} (h : Agree (o.looksAt ops) a b) : Region.wanted o (yielded ops a.tmps) = Region.wanted o (yielded ops b.tmps) := by
  unfold Region.wanted
  cases hg : o.guard with
  | none => rfl
  | some g =>
    obtain ⟨g, want⟩ := g
    simp only
    congr 1
    unfold yielded
    cases hd : (ops[g]?).bind (·.dst) with
    | none => rfl
    | some d =>
      have ht : d ∈ o.looksAt ops := by
        unfold Oper.looksAt
        refine List.mem_append.2 (.inr ?_)
        rw [hg]
        simp [hd]
      have := h.2 d ht
      simp [this]
end

def pre (ops : Array Oper) (j i : Nat) : Bool := ((Region.before ops).getD i 0).testBit j
/-- What operation `i` may know of operation `j`: `j` has run, and nothing that could undo its fact can have run. -/
def av (ops : Array Oper) (kills : Nat → Nat → Bool) (j i : Nat) : Bool := pre ops j i && (List.range ops.size).all fun k => !kills k j || k == i || pre ops i k
def unk (ops : Array Oper) (kills : Nat → Nat → Bool) (j : Nat) : Bool := (List.range ops.size).all fun k => !kills k j
theorem av_pre {ops : Array Oper} {kills : Nat → Nat → Bool} {j i : Nat} (h : av ops kills j i = true) : pre ops j i = true := by
  unfold av at h; simp only [Bool.and_eq_true] at h; exact h.1
theorem av_kill {ops : Array Oper} {kills : Nat → Nat → Bool} {j i : Nat} (h : av ops kills j i = true) {k : Nat} (hk : k < ops.size) (hkl : kills k j = true) : k = i ∨ pre ops i k = true := by
  unfold av at h
  simp only [Bool.and_eq_true] at h
  have := List.all_eq_true.1 h.2 k (List.mem_range.2 hk)
  simpa [hkl] using this
/-- What the region's text must be like; asked of the kernel. -/
def okB (ops : Array Oper) : Bool :=
  (List.range ops.size).all fun i => match ops[i]? with
    | none => false
    | some o =>
      (match o.op with | .select .. => false | _ => true) &&
      (o.after.toList.all fun e => !Region.binds .any e || decide (e.on < i)) &&
      (List.range ops.size).all fun j => match ops[j]? with
        | none => false
        | some p => (!pre ops j i || o.after.toList.any fun e => Region.binds .any e && (e.on == j || pre ops j e.on)) &&
          (i == j || ((match o.dst with | some d => p.dst != some d | none => true) && (pre ops j i || pre ops i j || p.apart ops o)))

structure Ok (ops : Array Oper) : Prop where
  sel : ∀ (i : Nat) (o : Oper), ops[i]? = some o → ∀ cs c, o.op ≠ .select cs c
  low : ∀ (i : Nat) (o : Oper), ops[i]? = some o → ∀ e ∈ o.after, Region.binds .any e = true → e.on < i
  road : ∀ (i : Nat) (o : Oper), ops[i]? = some o → ∀ j, j < ops.size → pre ops j i = true → ∃ e ∈ o.after, Region.binds .any e = true ∧ (e.on = j ∨ pre ops j e.on = true)
  dst : ∀ (i : Nat) (o : Oper) (j : Nat) (p : Oper), ops[i]? = some o → ops[j]? = some p → i ≠ j → ∀ t, o.dst = some t → p.dst ≠ some t
  apart : ∀ (i : Nat) (o : Oper) (j : Nat) (p : Oper), ops[i]? = some o → ops[j]? = some p → i ≠ j → pre ops j i = true ∨ pre ops i j = true ∨ p.apart ops o = true

theorem ok_of {ops : Array Oper} (h : okB ops = true) : Ok ops := by
  have h1 : ∀ (i : Nat) (o : Oper), ops[i]? = some o → (match o.op with | .select .. => false | _ => true) = true ∧ (o.after.toList.all fun e => !Region.binds .any e || decide (e.on < i)) = true ∧
      ∀ (j : Nat) (p : Oper), ops[j]? = some p → (!pre ops j i || o.after.toList.any fun e => Region.binds .any e && (e.on == j || pre ops j e.on)) = true ∧
          (i == j || ((match o.dst with | some d => p.dst != some d | none => true) && (pre ops j i || pre ops i j || p.apart ops o))) = true := by
    intro i o ho
    have hi : i < ops.size := (Array.getElem?_eq_some_iff.1 ho).1
    have := List.all_eq_true.1 h i (List.mem_range.2 hi)
    simp only [ho, Bool.and_eq_true] at this
    refine ⟨this.1.1, this.1.2, fun j p hp => ?_⟩
    have hj : j < ops.size := (Array.getElem?_eq_some_iff.1 hp).1
    have := List.all_eq_true.1 this.2 j (List.mem_range.2 hj)
    simpa only [hp, Bool.and_eq_true] using this
  refine ⟨fun i o ho cs c e => ?_, fun i o ho e he hb => ?_, fun i o ho j hj hp => ?_, fun i o j p ho hp hne t ht => ?_, fun i o j p ho hp hne => ?_⟩
  · have := (h1 i o ho).1
    simp [e] at this
  · have := List.all_eq_true.1 (h1 i o ho).2.1 e (by simpa using he)
    simpa [hb] using this
  · have hp' : ops[j]? = some ops[j] := by simp [hj]
    have := ((h1 i o ho).2.2 j _ hp').1
    simp only [hp, Bool.not_true, Bool.false_or, List.any_eq_true, Bool.and_eq_true, Bool.or_eq_true, beq_iff_eq] at this
    obtain ⟨e, he, hb⟩ := this
    exact ⟨e, by simpa using he, hb⟩
  · have := ((h1 i o ho).2.2 j p hp).2
    simp only [Bool.or_eq_true, Bool.and_eq_true, beq_iff_eq, hne, false_or] at this
    have h2 := this.1
    rw [ht] at h2
    simpa using h2
  · have := ((h1 i o ho).2.2 j p hp).2
    simp only [Bool.or_eq_true, Bool.and_eq_true, beq_iff_eq, hne, false_or] at this
    exact or_assoc.1 this.2

/-- What an operation that is not loud leaves: the world as it was, and this one value. -/
def quietUpon (w : World) (c : Value) : Result Next → Prop
  | .ok (.value u) w' => w' = w ∧ u = c
  | .ok .skip w' => w' = w ∧ undef = c
  | _ => False
/-- What a loud operation leaves. -/
def loudUpon (P : Program) (R : Value → World → Prop) : Result Next → Prop
  | .ok (.value u) w' => R u w'
  | .ok .skip w' => R undef w'
  | .ok (.enter f args) w' => Calls P f args w' fun e w'' => ∃ v, e = .returned v ∧ R v w''
  | _ => False
def Quiet (P : Program) (o : Oper) (a : Act) (w : World) (c : Value) : Prop := quietUpon w c ((execOp a.eval o).run P w)
def Loud (P : Program) (o : Oper) (a : Act) (w : World) (R : Value → World → Prop) : Prop := loudUpon P R ((execOp a.eval o).run P w)

theorem quiet_one {P : Program} {o : Oper} {a b : Act} {w : World} {c d : Value} (h : Quiet P o a w c) (k : Quiet P o b w d) (e : execOp a.eval o = execOp b.eval o) : c = d := by
  unfold Quiet at h k
  rw [e] at h
  generalize (execOp b.eval o).run P w = r at h k
  cases r with
  | halt x w' => exact h.elim
  | ok n w' =>
    cases n <;> simp only [quietUpon] at h k <;> first | exact h.elim | exact h.2.symm.trans k.2
theorem wp_of_quiet {P : Program} {o : Oper} {a b : Act} {w : World} {c : Value} {K : Act → World → Prop} {Q : Exit → Act → World → Prop} (h : Quiet P o a w c) (e : execOp b.eval o = execOp a.eval o) (hK : K (b.put o.dst c) w) : o.wp P b w K Q := by
  unfold Quiet at h
  unfold Oper.wp
  rw [e]
  generalize (execOp a.eval o).run P w = r at h
  cases r with
  | halt x w' => exact h.elim
  | ok n w' =>
    cases n <;> simp only [quietUpon] at h <;> first | exact h.elim | skip
    · obtain ⟨rfl, rfl⟩ := h; exact hK
    · obtain ⟨rfl, rfl⟩ := h; exact hK
theorem wp_of_loud {P : Program} {o : Oper} {a b : Act} {w : World} {R : Value → World → Prop} {K : Act → World → Prop} {Q : Exit → Act → World → Prop} (h : Loud P o a w R) (e : execOp b.eval o = execOp a.eval o)
    (hK : ∀ v w', R v w' → K (b.put o.dst v) w') : o.wp P b w K Q := by
  unfold Loud at h
  unfold Oper.wp
  rw [e]
  generalize (execOp a.eval o).run P w = r at h
  cases r with
  | halt x w' => exact h.elim
  | ok n w' =>
    cases n <;> simp only [loudUpon] at h <;> first | exact h.elim | skip
    · exact hK _ _ h
    · exact hK _ _ h
    · exact h.mono fun e' w'' he => by
        obtain ⟨v, rfl, hv⟩ := he
        exact hK _ _ hv

/-- The blocks that may have been written when operation `i` comes up. -/
def sx (ops : Array Oper) (T : Nat → Nat → Prop) (i : Nat) (b : Nat) : Prop := ∃ k, k ≠ i ∧ pre ops i k = false ∧ T k b
/-- .. and behind the region. -/
def sa (T : Nat → Nat → Prop) (b : Nat) : Prop := ∃ k, T k b
section
variable (P : Program) (ops : Array Oper) (w0 : World) (loud : Nat → Bool) (F : Nat → Value → World → Prop) (T : Nat → Nat → Prop) (kills : Nat → Nat → Bool) (Q : Act → World → Prop)

/-- THE WALK, in the order of the text. -/
def walk : List Oper → Nat → (Nat → World → Prop) → Act → Prop
  | [], n, fs, a => ∀ w', KeepsP (sa T) w0 w' → (∀ j, j < n → unk ops kills j = true → fs j w') → Q a w'
  | o :: r, i, fs, a =>
    if Region.wanted o (yielded ops a.tmps) then
      if loud i then
        (∀ w', KeepsP (sx ops T i) w0 w' → (∀ j, j < i → av ops kills j i = true → fs j w') → Loud P o a w' (fun v w'' => F i v w'' ∧ KeepsP (T i) w' w'')) ∧
        ∀ v, walk r (i + 1) (fun j => if j = i then F i v else fs j) (a.put o.dst v)
      else
        ∃ c, (∀ w', KeepsP (sx ops T i) w0 w' → (∀ j, j < i → av ops kills j i = true → fs j w') → Quiet P o a w' c) ∧ walk r (i + 1) fs (a.put o.dst c)
    else walk r (i + 1) fs (a.put o.dst undef)

variable (a0 : Act)
/-- The frame ahead of operation `i`, in the order of the text. -/
def lex (u : Nat → Value) (i : Nat) : Act := fill u (fun j => decide (j < i)) ops.toList 0 a0
def want (u : Nat → Value) (i : Nat) : Bool := match ops[i]? with | some o => Region.wanted o (yielded ops (lex ops a0 u i).tmps) | none => false
def fact (u : Nat → Value) (i : Nat) (w : World) : Prop := want ops a0 u i = true → loud i = true → F i (u i) w

def Step (l : Nat → Value) (u : Nat → Value) (i : Nat) (o : Oper) : Prop :=
  if Region.wanted o (yielded ops (lex ops a0 u i).tmps) then
    if loud i then u i = l i ∧ ∀ w', KeepsP (sx ops T i) w0 w' → (∀ j, j < i → av ops kills j i = true → fact ops loud F a0 u j w') → Loud P o (lex ops a0 u i) w' (fun v w'' => F i v w'' ∧ KeepsP (T i) w' w'')
    else ∀ w', KeepsP (sx ops T i) w0 w' → (∀ j, j < i → av ops kills j i = true → fact ops loud F a0 u j w') → Quiet P o (lex ops a0 u i) w' (u i)
  else u i = undef

variable {P ops w0 loud F T kills Q a0}

theorem lex_congr {u u' : Nat → Value} {i : Nat} (h : ∀ j, j < i → u j = u' j) : lex ops a0 u i = lex ops a0 u' i :=
  fill_congr _ 0 _ fun j _ _ => ⟨rfl, fun hj => h j (by simpa using hj)⟩
theorem want_congr {u u' : Nat → Value} {i : Nat} (h : ∀ j, j < i → u j = u' j) : want ops a0 u i = want ops a0 u' i := by
  unfold want; rw [lex_congr h]
theorem fact_congr {u u' : Nat → Value} {i : Nat} {w : World} (h : ∀ j, j ≤ i → u j = u' j) : fact ops loud F a0 u i w = fact ops loud F a0 u' i w := by
  unfold fact; rw [want_congr (fun j hj => h j (by omega)), h i (Nat.le_refl _)]
theorem step_congr {l u u' : Nat → Value} {i : Nat} {o : Oper} (h : ∀ j, j ≤ i → u j = u' j) (hs : Step P ops w0 loud F T kills a0 l u i o) : Step P ops w0 loud F T kills a0 l u' i o := by
  have hl : lex ops a0 u i = lex ops a0 u' i := lex_congr (fun j hj => h j (by omega))
  have hf : ∀ w', (∀ j, j < i → av ops kills j i = true → fact ops loud F a0 u' j w') → ∀ j, j < i → av ops kills j i = true → fact ops loud F a0 u j w' :=
    fun w' hh j hj hp => by rw [fact_congr (fun k hk => h k (by omega))]; exact hh j hj hp
  unfold Step at *
  rw [hl, h i (Nat.le_refl _)] at hs
  split
  · rename_i hw
    rw [if_pos hw] at hs
    split
    · rename_i hl2
      rw [if_pos hl2] at hs
      exact ⟨hs.1, fun w' hk hh => hs.2 w' hk (hf w' hh)⟩
    · rename_i hl2
      rw [if_neg hl2] at hs
      exact fun w' hk hh => hs w' hk (hf w' hh)
  · rename_i hw
    rw [if_neg hw] at hs
    exact hs
theorem lex_succ (hok : Ok ops) (u : Nat → Value) (i : Nat) (o : Oper) (ho : ops[i]? = some o) : lex ops a0 u (i + 1) = (lex ops a0 u i).put o.dst (u i) := by
  unfold lex
  refine fill_put (i := i) (o := o) (by simp) (by simp) (fun j hj => ?_) _ 0 _ (Nat.zero_le _) (by simpa using ho) (fun j p hp hne t ht => ?_)
  · by_cases h : j < i
    · simp [h]; omega
    · simp [h]; omega
  · exact hok.dst i o j p ho (by simpa using hp) (by omega) t ht

/-- For each choice of the loud operations' values there are values of all operations that fit. -/
theorem flat (hok : Ok ops) (l : Nat → Value) : ∀ (r : List Oper) (i : Nat) (u : Nat → Value) (fs : Nat → World → Prop), ops.toList.drop i = r →
    (∀ j o, ops[j]? = some o → j < i → Step P ops w0 loud F T kills a0 l u j o) → (∀ j w', j < i → fact ops loud F a0 u j w' → fs j w') → (∀ j w', i ≤ j → fs j w') →
    walk P ops w0 loud F T kills Q r i fs (lex ops a0 u i) →
    ∃ u' : Nat → Value, (∀ j, j < i → u' j = u j) ∧ (∀ j o, ops[j]? = some o → Step P ops w0 loud F T kills a0 l u' j o) ∧
      ∀ w', KeepsP (sa T) w0 w' → (∀ j, j < ops.size → unk ops kills j = true → fact ops loud F a0 u' j w') → Q (lex ops a0 u' ops.size) w'
  | [], i, u, fs, hr, hs, hf, hge, hw => by
    have hn : ops.size ≤ i := by simpa using hr
    have hx : lex ops a0 u i = lex ops a0 u ops.size := fill_congr _ 0 _ fun j _ hj => by
      have : j < ops.size := by simpa using hj
      exact ⟨by simp [this]; omega, fun _ => rfl⟩
    refine ⟨u, fun _ _ => rfl, fun j o ho => hs j o ho (by have := (Array.getElem?_eq_some_iff.1 ho).1; omega), fun w' hk hh => ?_⟩
    rw [← hx]
    refine hw w' hk (fun j hj hun => hf j w' hj ?_)
    by_cases h : j < ops.size
    · exact hh j h hun
    · unfold fact want
      have : ops[j]? = none := by simp; omega
      simp [this]
  | o :: r, i, u, fs, hr, hs, hf, hge, hw => by
    have ho : ops[i]? = some o := by
      have := congrArg (fun x : List Oper => x[0]?) hr
      simpa using this
    have hr' : ops.toList.drop (i + 1) = r := by
      have := congrArg List.tail hr
      simpa using this
    -- the value that this operation gets
    have go : ∀ (c : Value) (fs' : Nat → World → Prop), Step P ops w0 loud F T kills a0 l (fun j => if j = i then c else u j) i o →
        (∀ j w', j < i → fs j w' → fs' j w') → (∀ w', fact ops loud F a0 (fun j => if j = i then c else u j) i w' → fs' i w') → (∀ j w', i + 1 ≤ j → fs' j w') → walk P ops w0 loud F T kills Q r (i + 1) fs' ((lex ops a0 u i).put o.dst c) →
        ∃ u' : Nat → Value, (∀ j, j < i → u' j = u j) ∧ (∀ j o, ops[j]? = some o → Step P ops w0 loud F T kills a0 l u' j o) ∧
          ∀ w', KeepsP (sa T) w0 w' → (∀ j, j < ops.size → unk ops kills j = true → fact ops loud F a0 u' j w') → Q (lex ops a0 u' ops.size) w' := by
      intro c fs' hst hfs hfi hge' hwk
      have hu : ∀ j, j < i → (fun j => if j = i then c else u j) j = u j := fun j hj => by simp; intro e; omega
      have hl : lex ops a0 (fun j => if j = i then c else u j) (i + 1) = (lex ops a0 u i).put o.dst c := by
        rw [lex_succ hok _ i o ho, lex_congr hu]; simp
      obtain ⟨u', h1, h2, h3⟩ := flat hok l r (i + 1) (fun j => if j = i then c else u j) fs' hr'
        (fun j p hp hj => by
          by_cases e : j = i
          · subst e; rw [ho] at hp; cases hp; exact hst
          · exact step_congr (fun k hk => (hu k (by omega)).symm) (hs j p hp (by omega)))
        (fun j w' hj hh => by
          by_cases e : j = i
          · subst e; exact hfi w' hh
          · exact hfs j w' (by omega) (hf j w' (by omega) (by rw [← fact_congr (fun k hk => hu k (by omega))]; exact hh)))
        hge' (by rw [hl]; exact hwk)
      exact ⟨u', fun j hj => (h1 j (by omega)).trans (hu j hj), h2, h3⟩
    have hlex : ∀ c, lex ops a0 (fun j => if j = i then c else u j) i = lex ops a0 u i := fun c => lex_congr fun j hj => by simp; intro e; omega
    have hfc : ∀ c w', (∀ j, j < i → av ops kills j i = true → fact ops loud F a0 (fun j => if j = i then c else u j) j w') → ∀ j, j < i → av ops kills j i = true → fs j w' :=
      fun c w' hh j hj hp => hf j w' hj (by
        have := hh j hj hp
        rwa [fact_congr (u' := u) (fun k hk => by simp; intro e; omega)] at this)
    unfold walk at hw
    by_cases hwant : Region.wanted o (yielded ops (lex ops a0 u i).tmps) = true
    · rw [if_pos hwant] at hw
      by_cases hl : loud i = true
      · rw [if_pos hl] at hw
        refine go (l i) (fun j => if j = i then F i (l i) else fs j) ?_ (fun j w' hj hh => by rw [if_neg (show ¬ j = i by omega)]; exact hh) ?_ (fun j w' hj => by rw [if_neg (show ¬ j = i by omega)]; exact hge j w' (by omega)) (hw.2 (l i))
        · unfold Step
          rw [hlex, if_pos hwant, if_pos hl]
          exact ⟨by simp, fun w' hk hh => hw.1 w' hk (hfc _ w' hh)⟩
        · intro w' hh
          have h1 : want ops a0 (fun j => if j = i then l i else u j) i = true := by
            unfold want; rw [ho]; simp only; rw [hlex]; exact hwant
          have := hh h1 hl
          simpa using this
      · rw [if_neg hl] at hw
        obtain ⟨c, h1, h2⟩ := hw
        refine go c fs ?_ (fun _ _ _ hh => hh) (fun w' _ => hge i w' (Nat.le_refl _)) (fun j w' hj => hge j w' (by omega)) h2
        · unfold Step
          rw [hlex, if_pos hwant, if_neg hl]
          simp only [if_true]
          exact fun w' hk hh => h1 w' hk (hfc _ w' hh)
    · rw [if_neg hwant] at hw
      refine go undef fs ?_ (fun _ _ _ hh => hh) (fun w' _ => hge i w' (Nat.le_refl _)) (fun j w' hj => hge j w' (by omega)) hw
      · unfold Step
        rw [hlex, if_neg hwant]
        simp

theorem ready_sub {ops : Array Oper} {listed : Array Bool} (hok : Ok ops) (hr : Region.ready .any ops listed = []) (hsz : listed.size = ops.size) : ∀ n i, i < n → i < ops.size → listed.getD i false = true
  | 0, _, h, _ => by omega
  | n + 1, i, h, hi => by
    have ih := fun j (hj : j < i) => ready_sub hok hr hsz n j (by omega) (by omega)
    cases hl : listed.getD i false
    · have : i ∈ Region.ready .any ops listed := mem_ready.2 ⟨by
        have h1 : i < listed.size := by omega
        simpa [Array.getD, h1] using hl, ops[i], by simp [hi], fun e he hb => ih e.on (hok.low i _ (by simp [hi]) e he hb)⟩
      rw [hr] at this
      cases this
    · rfl

def count (listed : Array Bool) (n : Nat) : Nat := (List.range n).countP fun i => !listed.getD i false
theorem count_set {listed : Array Bool} {i : Nat} (hi : i < listed.size) (hl : listed.getD i false = false) : ∀ n, i < n → count (listed.setIfInBounds i true) n + 1 = count listed n := by
  have hset : ∀ j, (listed.setIfInBounds i true).getD j false = if j = i then true else listed.getD j false := fun j => by
    simp only [Array.getD_eq_getD_getElem?, Array.getElem?_setIfInBounds]
    by_cases e : i = j
    · subst e; simp [hi]
    · simp [e]; intro h; exact absurd h.symm e
  have same : ∀ n, n ≤ i → count (listed.setIfInBounds i true) n = count listed n := by
    intro n hn
    unfold count
    refine List.countP_congr fun j hj => ?_
    have := List.mem_range.1 hj
    rw [hset, if_neg (by omega)]
  intro n
  induction n with
  | zero => intro h; omega
  | succ n ih =>
    intro hn
    unfold count at *
    rw [List.range_succ, List.countP_append, List.countP_append]
    by_cases e : n = i
    · subst e
      rw [same n (Nat.le_refl _)]
      simp only [List.countP_cons, List.countP_nil, hset, hl]
      simp
    · have := ih (by omega)
      have hx : (listed.setIfInBounds i true).getD n false = listed.getD n false := by rw [hset, if_neg e]
      simp only [List.countP_cons, List.countP_nil, hx]
      omega
theorem getD_set {listed : Array Bool} {i j : Nat} (hi : i < listed.size) : (listed.setIfInBounds i true).getD j false = (if j = i then true else listed.getD j false) := by
  simp only [Array.getD_eq_getD_getElem?, Array.getElem?_setIfInBounds]
  by_cases e : i = j
  · subst e; simp [hi]
  · simp [e]; intro h; exact absurd h.symm e

/-- What holds at every point of a run in whatever order. -/
structure Inv (P : Program) (ops : Array Oper) (w0 : World) (loud : Nat → Bool) (F : Nat → Value → World → Prop) (T : Nat → Nat → Prop) (kills : Nat → Nat → Bool) (a0 : Act) (U : (Nat → Value) → Nat → Value) (listed : Array Bool) (b : Act) (w : World) : Prop where
  size : listed.size = ops.size
  closed : ∀ (i : Nat) (o : Oper), ops[i]? = some o → listed.getD i false = true → ∀ e ∈ o.after, Region.binds .any e = true → listed.getD e.on false = true
  good : KeepsP (fun b => ∃ k, listed.getD k false = true ∧ T k b) w0 w
  some : ∃ l, b = fill (U l) (fun j => listed.getD j false) ops.toList 0 a0 ∧ (∀ j, listed.getD j false = true → (∀ k, k < ops.size → listed.getD k false = true → kills k j = false) → fact ops loud F a0 (U l) j w) ∧
    ∀ l', (∀ j, listed.getD j false = true → l' j = l j) → ∀ j, listed.getD j false = true → U l' j = U l j

theorem closed_pre {ops : Array Oper} {listed : Array Bool} (hok : Ok ops) (hc : ∀ (i : Nat) (o : Oper), ops[i]? = some o → listed.getD i false = true → ∀ e ∈ o.after, Region.binds .any e = true → listed.getD e.on false = true) :
    ∀ n i, i < n → ∀ o, ops[i]? = some o → (∀ e ∈ o.after, Region.binds .any e = true → listed.getD e.on false = true) → ∀ j, j < ops.size → pre ops j i = true → listed.getD j false = true
  | 0, _, h, _, _, _, _, _, _ => by omega
  | n + 1, i, h, o, ho, hr, j, hj, hp => by
    obtain ⟨e, he, hb, h1⟩ := hok.road i o ho j hj hp
    have hl := hr e he hb
    rcases h1 with rfl | h1
    · exact hl
    · have hlt := hok.low i o ho e he hb
      have hi : i < ops.size := (Array.getElem?_eq_some_iff.1 ho).1
      have hoe : ops[e.on]? = some ops[e.on] := by simp [show e.on < ops.size by omega]
      exact closed_pre hok hc n e.on (by omega) _ hoe (hc e.on _ hoe hl) j hj h1

theorem pre_lt {ops : Array Oper} (hok : Ok ops) : ∀ n i, i < n → i < ops.size → ∀ j, j < ops.size → pre ops j i = true → j < i
  | 0, _, h, _, _, _, _ => by omega
  | n + 1, i, h, hi, j, hj, hp => by
    obtain ⟨e, he, hb, h1⟩ := hok.road i ops[i] (by simp [hi]) j hj hp
    have hlt := hok.low i ops[i] (by simp [hi]) e he hb
    rcases h1 with rfl | h1
    · exact hlt
    · have := pre_lt hok n e.on (by omega) (by omega) j hj h1
      omega

theorem any (hok : Ok ops) (U : (Nat → Value) → Nat → Value)
    (hU : ∀ l, (∀ j o, ops[j]? = some o → Step P ops w0 loud F T kills a0 l (U l) j o) ∧ ∀ w', KeepsP (sa T) w0 w' → (∀ j, j < ops.size → unk ops kills j = true → fact ops loud F a0 (U l) j w') → Q (lex ops a0 (U l) ops.size) w')
    (hst : ∀ i k v w w', loud i = true → i ≠ k → kills k i = false → pre ops k i = false → F i v w → KeepsP (T k) w w' → F i v w') {Q' : Exit → Act → World → Prop} (hQ : ∀ a w, Q a w → Q' .normal a w) :
    ∀ (fuel : Nat) (listed : Array Bool) (b : Act) (w : World), Inv P ops w0 loud F T kills a0 U listed b w → count listed ops.size = fuel → wpAny P .any ops Q' fuel listed b w := by
  -- the end: all have run
  have fin : ∀ (listed : Array Bool) (b : Act) (w : World), Inv P ops w0 loud F T kills a0 U listed b w → (∀ i, i < ops.size → listed.getD i false = true) → Q' .normal b w := by
    intro listed b w hI hall
    obtain ⟨l, rfl, hf, _⟩ := hI.some
    refine hQ _ _ ?_
    have : fill (U l) (fun j => listed.getD j false) ops.toList 0 a0 = lex ops a0 (U l) ops.size := fill_congr _ 0 _ fun j _ hj => by
      have : j < ops.size := by simpa using hj
      exact ⟨by rw [hall j this]; simp [this], fun _ => rfl⟩
    rw [this]
    exact (hU l).2 w (hI.good.mono (fun b ⟨k, _, hk⟩ => ⟨k, hk⟩)) (fun j hj hun => hf j (hall j hj) (fun k hk _ => by
      have := List.all_eq_true.1 hun k (List.mem_range.2 hk)
      simpa using this))
  intro fuel
  induction fuel with
  | zero =>
    intro listed b w hI hc
    have hall : ∀ i, i < ops.size → listed.getD i false = true := fun i hi => by
      have := List.countP_eq_zero.1 hc i (List.mem_range.2 hi)
      simpa using this
    refine ⟨?_, fin listed b w hI hall⟩
    refine List.eq_nil_iff_forall_not_mem.2 fun i hi => ?_
    obtain ⟨h1, o, ho, _⟩ := mem_ready.1 hi
    have hlt : i < ops.size := (Array.getElem?_eq_some_iff.1 ho).1
    have h2 := hall i hlt
    have hs : i < listed.size := by rw [hI.size]; exact hlt
    simp [Array.getD, hs] at h1 h2
    rw [h1] at h2
    cases h2
  | succ fuel ih =>
    intro listed b w hI hc
    refine ⟨fun hr => fin listed b w hI (fun i hi => ready_sub hok hr hI.size (i + 1) i (by omega) hi), fun i hi => ?_⟩
    obtain ⟨h1, o, ho, hedge⟩ := mem_ready.1 hi
    have hlt : i < ops.size := (Array.getElem?_eq_some_iff.1 ho).1
    have hs : i < listed.size := by rw [hI.size]; exact hlt
    have hnl : listed.getD i false = false := by simpa [Array.getD, hs] using h1
    have hcount : count (listed.setIfInBounds i true) ops.size = fuel := by
      have := count_set hs hnl ops.size hlt
      omega
    obtain ⟨l, hb, hf, hcons⟩ := hI.some
    have hpre : ∀ j, j < ops.size → pre ops j i = true → listed.getD j false = true := closed_pre hok hI.closed (i + 1) i (by omega) o ho hedge
    -- what the operation looks at is as in the order of the text
    have hagree : ∀ l', (∀ j, listed.getD j false = true → U l' j = U l j) → Agree (o.looksAt ops) (lex ops a0 (U l') i) b := by
      intro l' hl'
      have hb' : b = fill (U l') (fun j => listed.getD j false) ops.toList 0 a0 := by
        rw [hb]; exact fill_congr _ 0 _ fun j _ _ => ⟨rfl, fun hj => (hl' j hj).symm⟩
      rw [hb']
      refine fill_agree _ 0 _ _ (Agree.refl _ _) fun j p hp hne t ht => ?_
      have hp' : ops[j]? = some p := by simpa using hp
      have hj : j < ops.size := (Array.getElem?_eq_some_iff.1 hp').1
      simp only [Nat.zero_add] at hne
      have hji : i ≠ j := fun e => by
        subst e
        rw [hnl] at hne
        simp at hne
      rcases hok.apart i o j p ho hp' hji with h | h | h
      · have h2 := pre_lt hok (i + 1) i (by omega) hlt j hj h
        rw [hpre j hj h] at hne
        simp [h2] at hne
      · have h2 := pre_lt hok (j + 1) j (by omega) hj i hlt h
        have h3 : listed.getD j false = false := by
          cases h4 : listed.getD j false
          · rfl
          · have := closed_pre hok hI.closed (j + 1) j (by omega) p hp' (hI.closed j p hp' h4) i hlt h
            rw [hnl] at this
            cases this
        rw [h3] at hne
        simp at hne
        omega
      · exact (Oper.apart_spec h).1 t ht
    have hag := hagree l (fun _ _ => rfl)
    have hex := exec_agree hag (hok.sel i o ho)
    have hwa := wanted_agree (o := o) hag
    have hfacts : ∀ j, j < i → av ops kills j i = true → fact ops loud F a0 (U l) j w := fun j hj hp => hf j (hpre j (by omega) (av_pre hp)) (fun k hk hkl => by
      cases hkk : kills k j
      · rfl
      · rcases av_kill hp hk hkk with rfl | h
        · rw [hnl] at hkl; cases hkl
        · have hok' : ops[k]? = some ops[k] := by simp [hk]
          have := closed_pre hok hI.closed (k + 1) k (by omega) _ hok' (hI.closed k _ hok' hkl) i hlt h
          rw [hnl] at this; cases this)
    have hclosed' : ∀ (k : Nat) (p : Oper), ops[k]? = some p → (listed.setIfInBounds i true).getD k false = true → ∀ e ∈ p.after, Region.binds .any e = true → (listed.setIfInBounds i true).getD e.on false = true := by
      intro k p hp hk e he hb
      rw [getD_set hs] at hk ⊢
      by_cases e1 : e.on = i
      · rw [if_pos e1]
      · rw [if_neg e1]
        by_cases e2 : k = i
        · subst e2; rw [ho] at hp; cases hp; exact hedge e he hb
        · rw [if_neg e2] at hk; exact hI.closed k p hp hk e he hb
    have hprej : ∀ j, listed.getD j false = true → pre ops i j = false := fun j hj => by
      cases hpp : pre ops i j
      · rfl
      · have hj' : j < ops.size := by
          rcases Nat.lt_or_ge j listed.size with h | h
          · rw [← hI.size]; exact h
          · simp [Array.getD, Nat.not_lt.2 h] at hj
        have := closed_pre hok hI.closed (j + 1) j (by omega) ops[j] (by simp [hj']) (hI.closed j ops[j] (by simp [hj']) hj) i hlt hpp
        rw [hnl] at this; cases this
    have hgood : KeepsP (sx ops T i) w0 w := hI.good.mono (fun b ⟨k, hk, ht⟩ => ⟨k, (fun e => by subst e; rw [hnl] at hk; cases hk), hprej k hk, ht⟩)
    have hgood2 : KeepsP (fun b => ∃ k, (listed.setIfInBounds i true).getD k false = true ∧ T k b) w0 w := hI.good.mono (fun b ⟨k, hk, ht⟩ => ⟨k, (by rw [getD_set hs]; split <;> first | rfl | exact hk), ht⟩)
    have hwsame : ∀ l1, (∀ j, listed.getD j false = true → U l1 j = U l j) → ∀ j (hj' : j < ops.size), listed.getD j false = true → want ops a0 (U l1) j = want ops a0 (U l) j := by
      intro l1 h2 j hj' hj
      have hp' : ops[j]? = some ops[j] := by simp [hj']
      have hprej : ∀ k, k < ops.size → pre ops k j = true → listed.getD k false = true := closed_pre hok hI.closed (j + 1) j (by omega) _ hp' (hI.closed j _ hp' hj)
      unfold want
      rw [hp']
      refine wanted_agree (ops := ops) ?_
      -- both frames agree with the one that has the roads to j alone
      have ag : ∀ u : Nat → Value, Agree (ops[j].looksAt ops) (lex ops a0 u j) (fill u (fun k => pre ops k j && decide (k < ops.size)) ops.toList 0 a0) := by
        intro u
        refine fill_agree _ 0 _ _ (Agree.refl _ _) fun k p hp hne t ht => ?_
        have hpk : ops[k]? = some p := by simpa using hp
        have hk : k < ops.size := (Array.getElem?_eq_some_iff.1 hpk).1
        simp only [Nat.zero_add] at hne
        have hkj : j ≠ k := fun e => by
          subst e
          have : pre ops j j = false := by
            cases hpp : pre ops j j
            · rfl
            · have := pre_lt hok (j + 1) j (by omega) hj' j hj' hpp; omega
          simp [this] at hne
        rcases hok.apart j _ k p hp' hpk hkj with h | h | h
        · have := pre_lt hok (j + 1) j (by omega) hj' k hk h
          simp [this, h, hk] at hne
        · have h9 := pre_lt hok (k + 1) k (by omega) hk j hj' h
          have h10 : pre ops k j = false := by
            cases hpp : pre ops k j
            · rfl
            · have := pre_lt hok (j + 1) j (by omega) hj' k hk hpp; omega
          simp [h10] at hne
          omega
        · exact (Oper.apart_spec h).1 t ht
      have e2 : fill (U l1) (fun k => pre ops k j && decide (k < ops.size)) ops.toList 0 a0 = fill (U l) (fun k => pre ops k j && decide (k < ops.size)) ops.toList 0 a0 :=
        fill_congr _ 0 _ fun k _ _ => ⟨rfl, fun hk => by
          simp only [Bool.and_eq_true, decide_eq_true_eq] at hk
          exact h2 k (hprej k hk.2 hk.1)⟩
      have a1 := ag (U l1)
      rw [e2] at a1
      have a2 := ag (U l)
      exact ⟨a1.1.trans a2.1.symm, fun t ht => (a1.2 t ht).trans (a2.2 t ht).symm⟩
    have next : ∀ (v : Value) (w' : World) (l1 : Nat → Value), (∀ j, listed.getD j false = true → U l1 j = U l j) → U l1 i = v → KeepsP (fun b => ∃ k, (listed.setIfInBounds i true).getD k false = true ∧ T k b) w0 w' → (∀ j, listed.getD j false = true → (∀ k, k < ops.size → listed.getD k false = true ∨ k = i → kills k j = false) → fact ops loud F a0 (U l) j w') → fact ops loud F a0 (U l1) i w' →
        (∀ l', (∀ j, listed.getD j false = true → l' j = l1 j) → l' i = l1 i → U l' i = v ∧ ∀ j, listed.getD j false = true → U l' j = U l1 j) →
        wpAny P .any ops Q' fuel (listed.setIfInBounds i true) (b.put o.dst v) w' := by
      intro v w' l1 h2 h3 h4 h5 h6 h7
      refine ih _ _ _ ⟨by simp [hI.size], hclosed', h4, l1, ?_, ?_, ?_⟩ hcount
      · have e1 : b = fill (U l1) (fun j => listed.getD j false) ops.toList 0 a0 := by
          rw [hb]; exact fill_congr _ 0 _ fun j _ _ => ⟨rfl, fun hj => (h2 j hj).symm⟩
        rw [e1, ← h3]
        refine (fill_put (i := i) (o := o) hnl (by rw [getD_set hs, if_pos rfl]) (fun j hj => by rw [getD_set hs, if_neg hj]) _ 0 _ (Nat.zero_le _) (by simpa using ho) (fun j p hp hne t ht => ?_)).symm
        exact hok.dst i o j p ho (by simpa using hp) (by omega) t ht
      · intro j hj hkl
        rw [getD_set hs] at hj
        by_cases e : j = i
        · subst e; exact h6
        · rw [if_neg e] at hj
          intro ha hb'
          have h8 := h5 j hj (fun k hk hor => hkl k hk (by
            rw [getD_set hs]
            rcases hor with h | h
            · split <;> first | rfl | exact h
            · rw [if_pos h]))
          have hj' : j < ops.size := by
            have : j < listed.size := by
              rcases Nat.lt_or_ge j listed.size with h | h
              · exact h
              · simp [Array.getD, Nat.not_lt.2 h] at hj
            rw [← hI.size]; exact this
          rw [h2 j hj]
          refine h8 ?_ hb'
          rw [← hwsame l1 h2 j hj' hj]; exact ha
      · intro l' hl' j hj
        have hA : ∀ k, listed.getD k false = true → l' k = l1 k := fun k hk => hl' k (by rw [getD_set hs]; split <;> first | rfl | exact hk)
        have hB := h7 l' hA (hl' i (by rw [getD_set hs, if_pos rfl]))
        rw [getD_set hs] at hj
        by_cases e : j = i
        · subst e; rw [hB.1, h3]
        · rw [if_neg e] at hj; exact hB.2 j hj
    have hstep := (hU l).1 i o ho
    unfold wpOp
    simp only [ho]
    unfold Step at hstep
    by_cases hwant : Region.wanted o (yielded ops (lex ops a0 (U l) i).tmps) = true
    · rw [if_pos hwant] at hstep
      rw [← hwa, if_pos hwant]
      refine .inl ?_
      have hwantl : want ops a0 (U l) i = true := by unfold want; rw [ho]; exact hwant
      by_cases hl : loud i = true
      · rw [if_pos hl] at hstep
        refine wp_of_loud (hstep.2 w hgood hfacts) hex.symm fun v w' hv => ?_
        obtain ⟨hF, hK⟩ := hv
        have hgood' : KeepsP (fun b => ∃ k, (listed.setIfInBounds i true).getD k false = true ∧ T k b) w0 w' := (hI.good.mono (fun b ⟨k, hk, ht⟩ => ⟨k, (by rw [getD_set hs]; split <;> first | rfl | exact hk), ht⟩)).trans (hK.mono (fun b hb => ⟨i, (by rw [getD_set hs, if_pos rfl]), hb⟩))
        have hl1 : ∀ j, listed.getD j false = true → (fun k => if k = i then v else l k) j = l j := fun j hj => by
          have : j ≠ i := fun e => by subst e; rw [hnl] at hj; cases hj
          simp [this]
        have hsame := hcons _ hl1
        have hst1 := (hU (fun k => if k = i then v else l k)).1 i o ho
        have hag1 := hagree _ hsame
        have hw1 : Region.wanted o (yielded ops (lex ops a0 (U fun k => if k = i then v else l k) i).tmps) = true := by
          rw [wanted_agree hag1, ← hwa]; exact hwant
        unfold Step at hst1
        rw [if_pos hw1, if_pos hl] at hst1
        have hv1 : U (fun k => if k = i then v else l k) i = v := by rw [hst1.1]; simp
        refine next v w' _ hsame hv1 hgood' (fun j hj hkl => ?_) (fun _ _ => by rw [hv1]; exact hF) (fun l' h2 h3 => ?_)
        · intro ha hb'
          exact hst j i _ _ _ hb' (fun e => by subst e; rw [hnl] at hj; cases hj) (hkl i hlt (.inr rfl)) (hprej j hj) (hf j hj (fun k hk h => hkl k hk (.inl h)) ha hb') hK
        · have h4 : ∀ j, listed.getD j false = true → l' j = l j := fun j hj => (h2 j hj).trans (hl1 j hj)
          have h5 := hcons l' h4
          refine ⟨?_, fun j hj => (h5 j hj).trans (hsame j hj).symm⟩
          have hst2 := (hU l').1 i o ho
          have hw2 : Region.wanted o (yielded ops (lex ops a0 (U l') i).tmps) = true := by
            rw [wanted_agree (hagree l' h5), ← hwa]; exact hwant
          unfold Step at hst2
          rw [if_pos hw2, if_pos hl] at hst2
          rw [hst2.1, h3]; simp
      · rw [if_neg hl] at hstep
        have hq := hstep w hgood hfacts
        refine wp_of_quiet hq hex.symm (next _ w l (fun _ _ => rfl) rfl hgood2 (fun j hj hkl => hf j hj (fun k hk h => hkl k hk (.inl h))) (fun _ hb' => absurd hb' hl) (fun l' h2 _ => ?_))
        have h5 := hcons l' h2
        refine ⟨?_, h5⟩
        have hst2 := (hU l').1 i o ho
        have hag2 := hagree l' h5
        have hw2 : Region.wanted o (yielded ops (lex ops a0 (U l') i).tmps) = true := by
          rw [wanted_agree hag2, ← hwa]; exact hwant
        unfold Step at hst2
        rw [if_pos hw2, if_neg hl] at hst2
        have hq2 := hst2 w hgood (fun j hj hp => ?_)
        · exact quiet_one hq2 hq ((exec_agree hag2 (hok.sel i o ho)).trans hex.symm)
        · have h6 := hfacts j hj hp
          have hj' : j < ops.size := by omega
          intro ha hb'
          rw [h5 j (hpre j hj' (av_pre hp))]
          exact h6 (by rw [← hwsame l' h5 j hj' (hpre j hj' (av_pre hp))]; exact ha) hb'
    · rw [if_neg hwant] at hstep
      rw [← hwa, if_neg hwant]
      have hwf : want ops a0 (U l) i = false := by unfold want; rw [ho]; simpa using hwant
      rw [← hstep]
      refine next _ w l (fun _ _ => rfl) rfl hgood2 (fun j hj hkl => hf j hj (fun k hk h => hkl k hk (.inl h))) (fun ha => by rw [hwf] at ha; cases ha) (fun l' h2 _ => ?_)
      have h5 := hcons l' h2
      refine ⟨?_, h5⟩
      have hst2 := (hU l').1 i o ho
      have hw2 : ¬ Region.wanted o (yielded ops (lex ops a0 (U l') i).tmps) = true := by
        rw [wanted_agree (hagree l' h5), ← hwa]; exact hwant
      unfold Step at hst2
      rw [if_neg hw2] at hst2
      rw [hst2, hstep]

theorem wp_region_free {id : Nat} {l : List Oper} {a : Act} {w : World} {Q' : Exit → Act → World → Prop} (hm : P.follows .mixedOrders = true) (hB : okB l.toArray = true) (loud : Nat → Bool) (F : Nat → Value → World → Prop) (T : Nat → Nat → Prop) (kills : Nat → Nat → Bool)
    (hst : ∀ i k v w w', loud i = true → i ≠ k → kills k i = false → pre l.toArray k i = false → F i v w → KeepsP (T k) w w' → F i v w')
    (h : walk P l.toArray w.drew loud F T kills (fun a' w' => Q' .normal a' w') l 0 (fun _ _ => True) a) : (Code.region id l.toArray true).wp P Q' a w := by
  refine wp_region_any hm ?_
  have hok := ok_of hB
  have hlex0 : ∀ u, lex l.toArray a u 0 = a := fun u => (fill_congr (v' := u) (S' := fun _ => false) _ 0 _ (fun j _ _ => ⟨by simp, fun _ => rfl⟩)).trans (fill_none _ 0 _)
  have hfl : ∀ l' : Nat → Value, ∃ u' : Nat → Value, (∀ j o, l.toArray[j]? = some o → Step P l.toArray w.drew loud F T kills a l' u' j o) ∧
      ∀ w', KeepsP (sa T) w.drew w' → (∀ j, j < l.toArray.size → unk l.toArray kills j = true → fact l.toArray loud F a u' j w') → Q' .normal (lex l.toArray a u' l.toArray.size) w' := fun l' => by
    obtain ⟨u', _, h2, h3⟩ := flat (Q := fun a' w' => Q' .normal a' w') hok l' l 0 (fun _ => undef) (fun _ _ => True) (by simp) (fun j o _ hj => by omega) (fun _ _ _ _ => trivial) (fun _ _ _ => trivial) (by rw [hlex0]; exact h)
    exact ⟨u', h2, h3⟩
  refine any (Q := fun a' w' => Q' .normal a' w') (a0 := a) hok (fun l' => Classical.choose (hfl l')) (fun l' => Classical.choose_spec (hfl l')) hst (fun _ _ h => h) _ _ _ _ ?_ ?_
  · have hno : ∀ j, (Array.replicate l.toArray.size false).getD j false = false := fun j => by
      simp only [Array.getD_eq_getD_getElem?, Array.getElem?_replicate]
      split <;> rfl
    refine ⟨by simp, fun i o _ hi => ?_, KeepsP.refl _ _, fun _ => undef, ?_, fun j hj _ => ?_, fun _ _ j hj => ?_⟩
    · rw [hno] at hi; cases hi
    · refine ((fill_congr (v' := fun _ => undef) (S' := fun _ => false) _ 0 _ (fun j _ _ => ⟨by simp only [hno], fun hj => ?_⟩)).trans (fill_none _ 0 _)).symm
      simp only [hno] at hj; cases hj
    · rw [hno] at hj; cases hj
    · rw [hno] at hj; cases hj
  · unfold count
    rw [List.countP_eq_length.2 (fun i hi => ?_)]
    · simp
    · have : (Array.replicate l.toArray.size false).getD i false = false := by
        simp only [Array.getD_eq_getD_getElem?, Array.getElem?_replicate]
        split <;> rfl
      rw [this]; rfl

theorem walk_quiet {o : Oper} {r : List Oper} {i : Nat} {fs : Nat → World → Prop} {a : Act} {c : Value} (hw : Region.wanted o (yielded ops a.tmps) = true) (hl : loud i = false)
    (h1 : ∀ w', KeepsP (sx ops T i) w0 w' → (∀ j, j < i → av ops kills j i = true → fs j w') → Quiet P o a w' c) (h2 : walk P ops w0 loud F T kills Q r (i + 1) fs (a.put o.dst c)) : walk P ops w0 loud F T kills Q (o :: r) i fs a := by
  unfold walk
  rw [if_pos hw, if_neg (by rw [hl]; simp)]
  exact ⟨c, h1, h2⟩
theorem walk_loud {o : Oper} {r : List Oper} {i : Nat} {fs : Nat → World → Prop} {a : Act} (hw : Region.wanted o (yielded ops a.tmps) = true) (hl : loud i = true)
    (h1 : ∀ w', KeepsP (sx ops T i) w0 w' → (∀ j, j < i → av ops kills j i = true → fs j w') → Loud P o a w' (fun v w'' => F i v w'' ∧ KeepsP (T i) w' w''))
    (h2 : ∀ v, walk P ops w0 loud F T kills Q r (i + 1) (fun j => if j = i then F i v else fs j) (a.put o.dst v)) : walk P ops w0 loud F T kills Q (o :: r) i fs a := by
  unfold walk
  rw [if_pos hw, if_pos hl]
  exact ⟨h1, h2⟩
theorem walk_nil {n : Nat} {fs : Nat → World → Prop} {a : Act} (h : ∀ w', KeepsP (sa T) w0 w' → (∀ j, j < n → unk ops kills j = true → fs j w') → Q a w') : walk P ops w0 loud F T kills Q [] n fs a := h
attribute [go_sem] Quiet quietUpon Loud loudUpon
attribute [irreducible] Loud Quiet walk
end
end Free
end Go.Proofs.YtpobepninifenaaGreat

namespace Go.Proofs.YtpobepninifenaaGreat
namespace Free
open Go Go.RowKit

section
variable (P : Program) (ops : Array Oper) (lo st : Nat → Bool) (T : Nat → Nat → Prop) (w0 : World) (Q : Act → World → Prop) (a0 : Act)

/-- THE WALK, in the order of the text. -/
def cwalk : List Oper → Nat → Act → World → Prop
  | [], _, a, w => Q a w
  | o :: r, i, a, w =>
    if Region.wanted o (yielded ops a.tmps) then
      if lo i then o.wp P a w (fun a' w' => a'.defers = a.defers ∧ KeepsP (T i) w w' ∧ cwalk r (i + 1) a' w') (fun _ _ _ => False)
      else if st i then ∃ c, (∀ w', KeepsP (sx ops T i) w0 w' → Quiet P o a w' c) ∧ cwalk r (i + 1) (a.put o.dst c) w
      else ∃ c, Quiet P o a w c ∧ cwalk r (i + 1) (a.put o.dst c) w
    else cwalk r (i + 1) (a.put o.dst undef) w

/-- What the region's text must be like; asked of the kernel. -/
def chainB : Bool := (List.range ops.size).all fun j => (List.range j).all fun i =>
  (!(lo i && lo j) || pre ops i j) && (!(lo i && !lo j && !st j) || pre ops i j) && (!(lo j && !lo i && !st i) || pre ops i j)
structure Chain : Prop where
  ll : ∀ i j, i < j → j < ops.size → lo i = true → lo j = true → pre ops i j = true
  lr : ∀ i j, i < j → j < ops.size → lo i = true → lo j = false → st j = false → pre ops i j = true
  rl : ∀ i j, i < j → j < ops.size → lo i = false → st i = false → lo j = true → pre ops i j = true
variable {ops lo st} in
theorem chain_of (h : chainB ops lo st = true) : Chain ops lo st := by
  have h1 : ∀ i j, i < j → j < ops.size → ((!(lo i && lo j) || pre ops i j) && (!(lo i && !lo j && !st j) || pre ops i j) && (!(lo j && !lo i && !st i) || pre ops i j)) = true := fun i j hij hj =>
    List.all_eq_true.1 (List.all_eq_true.1 h j (List.mem_range.2 hj)) i (List.mem_range.2 hij)
  refine ⟨fun i j a b c d => ?_, fun i j a b c d e => ?_, fun i j a b c d e => ?_⟩
  · have := h1 i j a b; simp [c, d] at this; exact this
  · have := h1 i j a b; simp [c, d, e] at this; exact this
  · have := h1 i j a b; simp [c, d, e] at this; exact this

def OKs (u : Nat → Value) (j : Nat) : Prop := ∀ o, ops[j]? = some o →
  if Region.wanted o (yielded ops (lex ops a0 u j).tmps) then ∀ w', KeepsP (sx ops T j) w0 w' → Quiet P o (lex ops a0 u j) w' (u j) else u j = undef
def StN (u : Nat → Value) (j : Nat) (w : World) : Prop := ∀ o, ops[j]? = some o →
  if Region.wanted o (yielded ops (lex ops a0 u j).tmps) then Quiet P o (lex ops a0 u j) w (u j) else u j = undef

variable {P ops lo st T w0 Q a0}
theorem OKs_congr {u u' : Nat → Value} {j : Nat} (h : ∀ i, i ≤ j → u i = u' i) (k : OKs P ops T w0 a0 u j) : OKs P ops T w0 a0 u' j := by
  intro o ho
  have := k o ho
  rw [lex_congr (fun i hi => h i (by omega)), h j (Nat.le_refl _)] at this
  exact this

/-- Some way in which an operation may end. -/
theorem some_end {o : Oper} {a : Act} {w : World} {K : Act → World → Prop} (h : o.wp P a w K (fun _ _ _ => False)) (hK : ∀ a' w', K a' w' → a'.defers = a.defers) : ∃ v w', K (a.put o.dst v) w' := by
  unfold Oper.wp at h
  generalize (execOp a.eval o).run P w = r at h
  cases r with
  | halt x w' => cases x <;> simp only [Oper.upon] at h
  | ok n w' =>
    cases n <;> simp only [Oper.upon] at h
    case value v => exact ⟨v, w', h⟩
    case skip => exact ⟨_, w', h⟩
    case defer d =>
      have := hK _ _ h
      cases hd : o.dst <;> simp [Act.put, hd] at this
    case enter f args =>
      obtain ⟨e, w'', fr, hR, _⟩ := h []
      cases e with
      | returned v => exact ⟨v, w'', hR⟩
      | panicked ch => exact hR.elim
      | outgrown => obtain ⟨_, _, hf⟩ := hR; exact hf.elim
    case row r args =>
      obtain ⟨v, w'', hR, _⟩ := h default []
      exact ⟨v, w'', hR⟩
/-- An operation that looks at the same. -/
theorem wp_moved {o : Oper} {a b : Act} {w : World} {K : Act → World → Prop} {K' : Act → World → Prop} {Q' : Exit → Act → World → Prop} (h : o.wp P a w K (fun _ _ _ => False)) (hK : ∀ a' w', K a' w' → a'.defers = a.defers)
    (e : execOp b.eval o = execOp a.eval o) (hk : ∀ v w', K (a.put o.dst v) w' → K' (b.put o.dst v) w') : o.wp P b w K' Q' := by
  unfold Oper.wp at h ⊢
  rw [e]
  generalize (execOp a.eval o).run P w = r at h ⊢
  cases r with
  | halt x w' => cases x <;> simp only [Oper.upon] at h
  | ok n w' =>
    cases n <;> simp only [Oper.upon] at h ⊢
    case value v => exact hk _ _ h
    case skip => exact hk _ _ h
    case defer d =>
      have := hK _ _ h
      cases hd : o.dst <;> simp [Act.put, hd] at this
    case enter f args =>
      refine Calls.mono h fun e w'' hR => ?_
      cases e with
      | returned v => exact hk _ _ hR
      | panicked ch => exact hR.elim
      | outgrown => obtain ⟨_, _, hf⟩ := hR; exact hf.elim
    case row r args => exact Rows.mono h fun v w'' hR => hk _ _ hR

theorem cw_head {r : List Oper} {k : Nat} {o : Oper} (hr : ops.toList.drop k = o :: r) : ops[k]? = some o ∧ ops.toList.drop (k + 1) = r := by
  refine ⟨?_, ?_⟩
  · have := congrArg (fun x : List Oper => x[0]?) hr
    simpa using this
  · have := congrArg List.tail hr
    simpa using this

/-- What a walk that has come to `k` in the world `w` says of all that follows. -/
theorem unroll (hok : Ok ops) : ∀ (r : List Oper) (k : Nat) (u0 : Nat → Value) (w : World), ops.toList.drop k = r → cwalk P ops lo st T w0 Q r k (lex ops a0 u0 k) w →
    ∃ u, (∀ j, j < k → u j = u0 j) ∧ (∀ j, k ≤ j → lo j = false → st j = true → OKs P ops T w0 a0 u j) ∧
      (∀ j, k ≤ j → (∀ l, k ≤ l → l ≤ j → lo l = false) → st j = false → StN P ops a0 u j w) ∧
      (∀ l, l < ops.size → k ≤ l → lo l = true → (∀ i, k ≤ i → i < l → lo i = false) → cwalk P ops lo st T w0 Q (ops.toList.drop l) l (lex ops a0 u l) w) ∧
      ((∀ l, k ≤ l → l < ops.size → lo l = false) → Q (lex ops a0 u ops.size) w)
  | [], k, u0, w, hr, h => by
    have hn : ops.size ≤ k := by simpa using hr
    have hx : lex ops a0 u0 k = lex ops a0 u0 ops.size := fill_congr _ 0 _ fun j _ hj => by
      have : j < ops.size := by simpa using hj
      exact ⟨by simp [this]; omega, fun _ => rfl⟩
    have hnone : ∀ j, k ≤ j → ops[j]? = none := fun j hj => by simp; omega
    refine ⟨u0, fun _ _ => rfl, fun j hj _ _ o ho => ?_, fun j hj _ _ o ho => ?_, fun l hl hk _ _ => by omega, fun _ => by rw [← hx]; exact h⟩
    · rw [hnone j hj] at ho; cases ho
    · rw [hnone j hj] at ho; cases ho
  | o :: r, k, u0, w, hr, h => by
    obtain ⟨ho, hr'⟩ := cw_head hr
    have hks : k < ops.size := (Array.getElem?_eq_some_iff.1 ho).1
    have hlex : ∀ c, lex ops a0 (fun j => if j = k then c else u0 j) k = lex ops a0 u0 k := fun c => lex_congr fun j hj => by simp; intro e; omega
    have hsucc : ∀ c, lex ops a0 (fun j => if j = k then c else u0 j) (k + 1) = (lex ops a0 u0 k).put o.dst c := fun c => by rw [lex_succ hok _ k o ho, hlex]; simp
    have h0 := h
    -- one step: the value `c`, the world `w1`
    have go : ∀ (c : Value) (w1 : World), cwalk P ops lo st T w0 Q r (k + 1) ((lex ops a0 u0 k).put o.dst c) w1 → (lo k = false → w1 = w) →
        (lo k = false → st k = true → if Region.wanted o (yielded ops (lex ops a0 u0 k).tmps) then ∀ w', KeepsP (sx ops T k) w0 w' → Quiet P o (lex ops a0 u0 k) w' c else c = undef) →
        (lo k = false → st k = false → if Region.wanted o (yielded ops (lex ops a0 u0 k).tmps) then Quiet P o (lex ops a0 u0 k) w c else c = undef) →
        ∃ u, (∀ j, j < k → u j = u0 j) ∧ (∀ j, k ≤ j → lo j = false → st j = true → OKs P ops T w0 a0 u j) ∧
          (∀ j, k ≤ j → (∀ l, k ≤ l → l ≤ j → lo l = false) → st j = false → StN P ops a0 u j w) ∧
          (∀ l, l < ops.size → k ≤ l → lo l = true → (∀ i, k ≤ i → i < l → lo i = false) → cwalk P ops lo st T w0 Q (ops.toList.drop l) l (lex ops a0 u l) w) ∧
          ((∀ l, k ≤ l → l < ops.size → lo l = false) → Q (lex ops a0 u ops.size) w) := by
      intro c w1 hcw hw1 hs1 hs2
      obtain ⟨u, e1, e2, e3, e4, e5⟩ := unroll hok r (k + 1) (fun j => if j = k then c else u0 j) w1 hr' (by rw [hsucc]; exact hcw)
      have hlow : ∀ j, j < k → u j = u0 j := fun j hj => by rw [e1 j (by omega)]; simp; intro e; omega
      have huk : u k = c := by rw [e1 k (by omega)]; simp
      have hlk : lex ops a0 u k = lex ops a0 u0 k := lex_congr hlow
      refine ⟨u, hlow, fun j hj h1 h2 => ?_, fun j hj h1 h2 => ?_, fun l hl hkl h1 h2 => ?_, fun h1 => ?_⟩
      · by_cases e : j = k
        · subst e
          intro o' ho'
          rw [ho] at ho'; cases ho'
          rw [hlk, huk]; exact hs1 h1 h2
        · exact e2 j (by omega) h1 h2
      · have hlk0 := h1 k (Nat.le_refl _) hj
        have hww := hw1 hlk0
        by_cases e : j = k
        · subst e
          intro o' ho'
          rw [ho] at ho'; cases ho'
          rw [hlk, huk]; exact hs2 hlk0 h2
        · have := e3 j (by omega) (fun l a b => h1 l (by omega) b) h2
          rw [hww] at this
          exact this
      · by_cases e : l = k
        · subst e
          rw [hr, hlk]; exact h0
        · have hlk0 := h2 k (Nat.le_refl _) (by omega)
          have := e4 l hl (by omega) h1 (fun i a b => h2 i (by omega) b)
          rw [hw1 hlk0] at this
          exact this
      · have := e5 (fun l a b => h1 l (by omega) b)
        rw [hw1 (h1 k (Nat.le_refl _) hks)] at this
        exact this
    unfold cwalk at h
    by_cases hw : Region.wanted o (yielded ops (lex ops a0 u0 k).tmps) = true
    · rw [if_pos hw] at h
      by_cases hl : lo k = true
      · rw [if_pos hl] at h
        obtain ⟨v, w1, _, _, hc1⟩ := some_end h (fun _ _ hh => hh.1)
        exact go v w1 hc1 (fun e => by rw [hl] at e; cases e) (fun e => by rw [hl] at e; cases e) (fun e => by rw [hl] at e; cases e)
      · rw [if_neg hl] at h
        by_cases hs : st k = true
        · rw [if_pos hs] at h
          obtain ⟨c, hq, hc⟩ := h
          exact go c w hc (fun _ => rfl) (fun _ _ => by rw [if_pos hw]; exact hq) (fun _ e => by rw [hs] at e; cases e)
        · rw [if_neg hs] at h
          obtain ⟨c, hq, hc⟩ := h
          exact go c w hc (fun _ => rfl) (fun _ e => absurd e hs) (fun _ _ => by rw [if_pos hw]; exact hq)
    · rw [if_neg hw] at h
      exact go undef w h (fun _ => rfl) (fun _ _ => by rw [if_neg hw]) (fun _ _ => by rw [if_neg hw])

/-- What holds at every point of a run in whatever order. -/
structure CInv (P : Program) (ops : Array Oper) (lo st : Nat → Bool) (T : Nat → Nat → Prop) (w0 : World) (Q : Act → World → Prop) (a0 : Act) (listed : Array Bool) (b : Act) (w : World) (k : Nat) (u : Nat → Value) : Prop where
  size : listed.size = ops.size
  closed : ∀ (i : Nat) (o : Oper), ops[i]? = some o → listed.getD i false = true → ∀ e ∈ o.after, Region.binds .any e = true → listed.getD e.on false = true
  good : KeepsP (fun b => ∃ j, listed.getD j false = true ∧ T j b) w0 w
  frame : b = fill u (fun j => listed.getD j false) ops.toList 0 a0
  loudk : ∀ j, j < ops.size → lo j = true → (listed.getD j false = true ↔ j < k)
  below : ∀ j, j < k → j < ops.size → lo j = false → st j = false → listed.getD j false = true
  stab : ∀ j, lo j = false → st j = true → OKs P ops T w0 a0 u j
  seg : ∀ j, k ≤ j → (∀ l, k ≤ l → l ≤ j → lo l = false) → st j = false → StN P ops a0 u j w
  next : ∀ l, l < ops.size → k ≤ l → lo l = true → (∀ i, k ≤ i → i < l → lo i = false) → cwalk P ops lo st T w0 Q (ops.toList.drop l) l (lex ops a0 u l) w
  fin : (∀ l, k ≤ l → l < ops.size → lo l = false) → Q (lex ops a0 u ops.size) w

theorem getD_lt {listed : Array Bool} {j : Nat} (h : listed.getD j false = true) : j < listed.size := by
  rcases Nat.lt_or_ge j listed.size with h1 | h1
  · exact h1
  · simp [Array.getD, Nat.not_lt.2 h1] at h

theorem lex_agree (hok : Ok ops) (u : Nat → Value) {j : Nat} (hj : j < ops.size) : Agree (ops[j].looksAt ops) (lex ops a0 u j) (fill u (fun k => pre ops k j && decide (k < ops.size)) ops.toList 0 a0) := by
  have hp' : ops[j]? = some ops[j] := by simp [hj]
  refine fill_agree _ 0 _ _ (Agree.refl _ _) fun k p hp hne t ht => ?_
  have hpk : ops[k]? = some p := by simpa using hp
  have hk : k < ops.size := (Array.getElem?_eq_some_iff.1 hpk).1
  simp only [Nat.zero_add] at hne
  have hkj : j ≠ k := fun e => by
    subst e
    have : pre ops j j = false := by
      cases hpp : pre ops j j
      · rfl
      · have := pre_lt hok (j + 1) j (by omega) hj j hj hpp; omega
    simp [this] at hne
  rcases hok.apart j _ k p hp' hpk hkj with h | h | h
  · have := pre_lt hok (j + 1) j (by omega) hj k hk h
    simp [this, h, hk] at hne
  · have h9 := pre_lt hok (k + 1) k (by omega) hk j hj h
    have h10 : pre ops k j = false := by
      cases hpp : pre ops k j
      · rfl
      · have := pre_lt hok (j + 1) j (by omega) hj k hk hpp; omega
    simp [h10] at hne
    omega
  · exact (Oper.apart_spec h).1 t ht

/-- The frame at hand agrees with the frame in the order of the text on what an operation that is ready looks at. -/
theorem ready_agree (hok : Ok ops) {listed : Array Bool} {u : Nat → Value} {i : Nat} {o : Oper} (ho : ops[i]? = some o) (hnl : listed.getD i false = false)
    (hc : ∀ (i : Nat) (o : Oper), ops[i]? = some o → listed.getD i false = true → ∀ e ∈ o.after, Region.binds .any e = true → listed.getD e.on false = true)
    (hedge : ∀ e ∈ o.after, Region.binds .any e = true → listed.getD e.on false = true) :
    Agree (o.looksAt ops) (lex ops a0 u i) (fill u (fun j => listed.getD j false) ops.toList 0 a0) := by
  have hlt : i < ops.size := (Array.getElem?_eq_some_iff.1 ho).1
  have hpre : ∀ j, j < ops.size → pre ops j i = true → listed.getD j false = true := closed_pre hok hc (i + 1) i (by omega) o ho hedge
  refine fill_agree _ 0 _ _ (Agree.refl _ _) fun j p hp hne t ht => ?_
  have hp' : ops[j]? = some p := by simpa using hp
  have hj : j < ops.size := (Array.getElem?_eq_some_iff.1 hp').1
  simp only [Nat.zero_add] at hne
  have hji : i ≠ j := fun e => by
    subst e
    rw [hnl] at hne
    simp at hne
  rcases hok.apart i o j p ho hp' hji with h | h | h
  · have h2 := pre_lt hok (i + 1) i (by omega) hlt j hj h
    rw [hpre j hj h] at hne
    simp [h2] at hne
  · have h2 := pre_lt hok (j + 1) j (by omega) hj i hlt h
    have h3 : listed.getD j false = false := by
      cases h4 : listed.getD j false
      · rfl
      · have := closed_pre hok hc (j + 1) j (by omega) p hp' (hc j p hp' h4) i hlt h
        rw [hnl] at this
        cases this
    rw [h3] at hne
    simp at hne
    omega
  · exact (Oper.apart_spec h).1 t ht

/-- Two readings of the walk give the same values to what has come up already. -/
theorem same_vals (hok : Ok ops) {listed : Array Bool} {u u' : Nat → Value} {i : Nat} (hnl : listed.getD i false = false) (hsz : listed.size = ops.size)
    (hc : ∀ (i : Nat) (o : Oper), ops[i]? = some o → listed.getD i false = true → ∀ e ∈ o.after, Region.binds .any e = true → listed.getD e.on false = true)
    (hlow : ∀ j, j < i → u' j = u j) (hs : ∀ j, i < j → listed.getD j false = true → OKs P ops T w0 a0 u j ∧ OKs P ops T w0 a0 u' j) :
    ∀ n j, j < n → listed.getD j false = true → u' j = u j
  | 0, j, h, _ => by omega
  | n + 1, j, h, hl => by
    have ih := same_vals hok hnl hsz hc hlow hs n
    rcases Nat.lt_trichotomy j i with hji | hji | hji
    · exact hlow j hji
    · subst hji; rw [hnl] at hl; cases hl
    · have hj : j < ops.size := by rw [← hsz]; exact getD_lt hl
      have hoj : ops[j]? = some ops[j] := by simp [hj]
      obtain ⟨k1, k2⟩ := hs j hji hl
      have hpre : ∀ q, q < ops.size → pre ops q j = true → listed.getD q false = true := closed_pre hok hc (j + 1) j (by omega) _ hoj (hc j _ hoj hl)
      have hag : Agree (ops[j].looksAt ops) (lex ops a0 u' j) (lex ops a0 u j) := by
        have e1 := lex_agree (a0 := a0) hok u hj
        have e2 := lex_agree (a0 := a0) hok u' hj
        have e3 : fill u' (fun k => pre ops k j && decide (k < ops.size)) ops.toList 0 a0 = fill u (fun k => pre ops k j && decide (k < ops.size)) ops.toList 0 a0 :=
          fill_congr _ 0 _ fun q _ _ => ⟨rfl, fun hq => by
            simp only [Bool.and_eq_true, decide_eq_true_eq] at hq
            exact ih q (by have := pre_lt hok (j + 1) j (by omega) hj q hq.2 hq.1; omega) (hpre q hq.2 hq.1)⟩
        rw [e3] at e2
        exact ⟨e2.1.trans e1.1.symm, fun t ht => (e2.2 t ht).trans (e1.2 t ht).symm⟩
      have hwn := wanted_agree (o := ops[j]) hag
      have hex := exec_agree hag (hok.sel j _ hoj)
      have q1 := k1 _ hoj
      have q2 := k2 _ hoj
      rw [hwn] at q2
      by_cases hwant : Region.wanted ops[j] (yielded ops (lex ops a0 u j).tmps) = true
      · rw [if_pos hwant] at q1 q2
        exact quiet_one (q2 w0 (KeepsP.refl _ _)) (q1 w0 (KeepsP.refl _ _)) hex
      · rw [if_neg hwant] at q1 q2
        rw [q1, q2]

theorem chain_any (hok : Ok ops) (hch : Chain ops lo st) {Q' : Exit → Act → World → Prop} (hQ : ∀ a w, Q a w → Q' .normal a w) :
    ∀ (fuel : Nat) (listed : Array Bool) (b : Act) (w : World) (k : Nat) (u : Nat → Value), CInv P ops lo st T w0 Q a0 listed b w k u → count listed ops.size = fuel → wpAny P .any ops Q' fuel listed b w := by
  have fin : ∀ (listed : Array Bool) (b : Act) (w : World) (k : Nat) (u : Nat → Value), CInv P ops lo st T w0 Q a0 listed b w k u → (∀ i, i < ops.size → listed.getD i false = true) → Q' .normal b w := by
    intro listed b w k u hI hall
    refine hQ _ _ ?_
    have : fill u (fun j => listed.getD j false) ops.toList 0 a0 = lex ops a0 u ops.size := fill_congr _ 0 _ fun j _ hj => by
      have : j < ops.size := by simpa using hj
      exact ⟨by rw [hall j this]; simp [this], fun _ => rfl⟩
    rw [hI.frame, this]
    refine hI.fin fun l hl hls => ?_
    cases hlo : lo l
    · rfl
    · have := (hI.loudk l hls hlo).1 (hall l hls)
      omega
  intro fuel
  induction fuel with
  | zero =>
    intro listed b w k u hI hc
    have hall : ∀ i, i < ops.size → listed.getD i false = true := fun i hi => by
      have := List.countP_eq_zero.1 hc i (List.mem_range.2 hi)
      simpa using this
    refine ⟨?_, fin listed b w k u hI hall⟩
    refine List.eq_nil_iff_forall_not_mem.2 fun i hi => ?_
    obtain ⟨h1, o, ho, _⟩ := mem_ready.1 hi
    have hlt : i < ops.size := (Array.getElem?_eq_some_iff.1 ho).1
    have h2 := hall i hlt
    have hs : i < listed.size := by rw [hI.size]; exact hlt
    simp [Array.getD, hs] at h1 h2
    rw [h1] at h2
    cases h2
  | succ fuel ih =>
    intro listed b w k u hI hc
    refine ⟨fun hr => fin listed b w k u hI (fun i hi => ready_sub hok hr hI.size (i + 1) i (by omega) hi), fun i hi => ?_⟩
    obtain ⟨h1, o, ho, hedge⟩ := mem_ready.1 hi
    have hlt : i < ops.size := (Array.getElem?_eq_some_iff.1 ho).1
    have hs : i < listed.size := by rw [hI.size]; exact hlt
    have hnl : listed.getD i false = false := by simpa [Array.getD, hs] using h1
    have hcount : count (listed.setIfInBounds i true) ops.size = fuel := by
      have := count_set hs hnl ops.size hlt
      omega
    have hpre : ∀ j, j < ops.size → pre ops j i = true → listed.getD j false = true := closed_pre hok hI.closed (i + 1) i (by omega) o ho hedge
    have hprej : ∀ j, listed.getD j false = true → pre ops i j = false := fun j hj => by
      cases hpp : pre ops i j
      · rfl
      · have hj' : j < ops.size := by rw [← hI.size]; exact getD_lt hj
        have := closed_pre hok hI.closed (j + 1) j (by omega) ops[j] (by simp [hj']) (hI.closed j ops[j] (by simp [hj']) hj) i hlt hpp
        rw [hnl] at this; cases this
    have hag : Agree (o.looksAt ops) (lex ops a0 u i) b := by rw [hI.frame]; exact ready_agree hok ho hnl hI.closed hedge
    have hex := exec_agree hag (hok.sel i o ho)
    have hwa := wanted_agree (o := o) hag
    have hclosed' : ∀ (k : Nat) (p : Oper), ops[k]? = some p → (listed.setIfInBounds i true).getD k false = true → ∀ e ∈ p.after, Region.binds .any e = true → (listed.setIfInBounds i true).getD e.on false = true := by
      intro k p hp hk e he hb
      rw [getD_set hs] at hk ⊢
      by_cases e1 : e.on = i
      · rw [if_pos e1]
      · rw [if_neg e1]
        by_cases e2 : k = i
        · subst e2; rw [ho] at hp; cases hp; exact hedge e he hb
        · rw [if_neg e2] at hk; exact hI.closed k p hp hk e he hb
    have hput : ∀ (u' : Nat → Value), (∀ j, listed.getD j false = true → u' j = u j) → b.put o.dst (u' i) = fill u' (fun j => (listed.setIfInBounds i true).getD j false) ops.toList 0 a0 := fun u' hu' => by
      have e1 : b = fill u' (fun j => listed.getD j false) ops.toList 0 a0 := by
        rw [hI.frame]; exact fill_congr _ 0 _ fun j _ _ => ⟨rfl, fun hj => (hu' j hj).symm⟩
      rw [e1]
      refine (fill_put (i := i) (o := o) hnl (by rw [getD_set hs, if_pos rfl]) (fun j hj => by rw [getD_set hs, if_neg hj]) _ 0 _ (Nat.zero_le _) (by simpa using ho) (fun j p hp hne t ht => ?_)).symm
      exact hok.dst i o j p ho (by simpa using hp) (by omega) t ht
    -- a read has come up
    have nextR : lo i = false → wpAny P .any ops Q' fuel (listed.setIfInBounds i true) (b.put o.dst (u i)) w := fun hlo => by
      refine ih _ _ _ k u ⟨by simp [hI.size], hclosed', hI.good.mono (fun b ⟨q, hq, ht⟩ => ⟨q, (by rw [getD_set hs]; split <;> first | rfl | exact hq), ht⟩), hput u (fun _ _ => rfl), fun j hj hl => ?_, fun j hj hjs h1 h2 => ?_, hI.stab, hI.seg, hI.next, hI.fin⟩ hcount
      · rw [getD_set hs, if_neg (fun e => by subst e; rw [hlo] at hl; cases hl)]
        exact hI.loudk j hj hl
      · rw [getD_set hs]
        split
        · rfl
        · exact hI.below j hj hjs h1 h2
    -- a loud one has come up (or is passed over)
    have nextL : lo i = true → ∀ (v : Value) (w' : World), KeepsP (T i) w w' → cwalk P ops lo st T w0 Q (ops.toList.drop (i + 1)) (i + 1) ((lex ops a0 u i).put o.dst v) w' → k ≤ i → (∀ l, k ≤ l → l < i → lo l = false) →
        wpAny P .any ops Q' fuel (listed.setIfInBounds i true) (b.put o.dst v) w' := fun hlo v w' hkw hcw hki hno => by
      have hgood' : KeepsP (fun b => ∃ j, (listed.setIfInBounds i true).getD j false = true ∧ T j b) w0 w' := (hI.good.mono (fun b ⟨q, hq, ht⟩ => ⟨q, (by rw [getD_set hs]; split <;> first | rfl | exact hq), ht⟩)).trans (hkw.mono (fun b hb => ⟨i, (by rw [getD_set hs, if_pos rfl]), hb⟩))
      have hlex : ∀ c, lex ops a0 (fun j => if j = i then c else u j) i = lex ops a0 u i := fun c => lex_congr fun j hj => by simp; intro e; omega
      have hsucc : lex ops a0 (fun j => if j = i then v else u j) (i + 1) = (lex ops a0 u i).put o.dst v := by rw [lex_succ hok _ i o ho, hlex]; simp
      obtain ⟨u', e1, e2, e3, e4, e5⟩ := unroll (P := P) (lo := lo) (st := st) (T := T) (w0 := w0) (Q := Q) (a0 := a0) hok _ (i + 1) (fun j => if j = i then v else u j) w' rfl (by rw [hsucc]; exact hcw)
      have hlow : ∀ j, j < i → u' j = u j := fun j hj => by rw [e1 j (by omega)]; simp; intro e; omega
      have hui : u' i = v := by rw [e1 i (by omega)]; simp
      have hsteady : ∀ j, i < j → listed.getD j false = true → lo j = false ∧ st j = true := fun j hj hl => by
        have hjs : j < ops.size := by rw [← hI.size]; exact getD_lt hl
        have hp := hprej j hl
        cases hlj : lo j
        · refine ⟨rfl, ?_⟩
          cases hsj : st j
          · have := hch.lr i j hj hjs hlo hlj hsj
            rw [hp] at this; cases this
          · rfl
        · have := hch.ll i j hj hjs hlo hlj
          rw [hp] at this; cases this
      have hsame : ∀ j, listed.getD j false = true → u' j = u j := fun j hj =>
        same_vals (P := P) (T := T) (w0 := w0) (a0 := a0) hok hnl hI.size hI.closed hlow (fun j hj hl => by
          obtain ⟨a, b⟩ := hsteady j hj hl
          exact ⟨hI.stab j a b, e2 j (by omega) a b⟩) (j + 1) j (by omega) hj
      have hfr := hput u' hsame
      rw [hui] at hfr
      refine ih _ _ _ (i + 1) u' ⟨by simp [hI.size], hclosed', hgood', hfr, fun j hj hl => ?_, fun j hj hjs h1 h2 => ?_, fun j h1 h2 => ?_, e3, e4, e5⟩ hcount
      · rw [getD_set hs]
        by_cases e : j = i
        · subst e; simp
        · rw [if_neg e, hI.loudk j hj hl]
          constructor
          · intro h; omega
          · intro h
            rcases Nat.lt_or_ge j k with h9 | h9
            · exact h9
            · have := hno j h9 (by omega)
              rw [hl] at this; cases this
      · rw [getD_set hs]
        by_cases e : j = i
        · rw [if_pos e]
        · rw [if_neg e]
          exact hpre j hjs (hch.rl j i (by omega) hlt h1 h2 hlo)
      · by_cases hj : j < i
        · exact OKs_congr (fun q hq => (hlow q (by omega)).symm) (hI.stab j h1 h2)
        · exact e2 j (by
            rcases Nat.lt_or_ge i j with e | e
            · omega
            · have e' : j = i := by omega
              rw [e', hlo] at h1; cases h1) h1 h2
    unfold wpOp
    simp only [ho]
    by_cases hlo : lo i = true
    · -- loud
      have hki : k ≤ i := by
        rcases Nat.lt_or_ge i k with h9 | h9
        · have := (hI.loudk i hlt hlo).2 h9
          rw [hnl] at this; cases this
        · exact h9
      have hno : ∀ l, k ≤ l → l < i → lo l = false := fun l h9 h10 => by
        cases hl : lo l
        · rfl
        · have h11 := hpre l (by omega) (hch.ll l i h10 hlt hl hlo)
          have := (hI.loudk l (by omega) hl).1 h11
          omega
      have hcw := hI.next i hlt hki hlo hno
      have hdrop : ops.toList.drop i = o :: ops.toList.drop (i + 1) := by
        rw [List.drop_eq_getElem_cons (by simpa using hlt)]
        have := (Array.getElem?_eq_some_iff.1 ho).2
        simp [this]
      rw [hdrop] at hcw
      unfold cwalk at hcw
      rw [hwa] at hcw
      by_cases hwant : Region.wanted o (yielded ops b.tmps) = true
      · rw [if_pos hwant]
        rw [if_pos hwant, if_pos hlo] at hcw
        exact .inl (wp_moved hcw (fun _ _ hh => hh.1) hex.symm fun v w' hh => nextL hlo v w' hh.2.1 hh.2.2 hki hno)
      · rw [if_neg hwant]
        rw [if_neg hwant] at hcw
        exact nextL hlo undef w (KeepsP.refl _ _) hcw hki hno
    · have hlo' : lo i = false := by simpa using hlo
      by_cases hst : st i = true
      · have hq := hI.stab i hlo' hst o ho
        rw [hwa] at hq
        by_cases hwant : Region.wanted o (yielded ops b.tmps) = true
        · rw [if_pos hwant]
          rw [if_pos hwant] at hq
          have hcl : KeepsP (sx ops T i) w0 w := hI.good.mono (fun b ⟨q, hq9, ht⟩ => ⟨q, (fun e => by rw [e, hnl] at hq9; cases hq9), hprej q hq9, ht⟩)
          exact .inl (wp_of_quiet (hq w hcl) hex.symm (nextR hlo'))
        · rw [if_neg hwant]
          rw [if_neg hwant] at hq
          rw [← hq]; exact nextR hlo'
      · have hst' : st i = false := by simpa using hst
        have hki : k ≤ i := by
          rcases Nat.lt_or_ge i k with h9 | h9
          · have := hI.below i h9 hlt hlo' hst'
            rw [hnl] at this; cases this
          · exact h9
        have hno : ∀ l, k ≤ l → l ≤ i → lo l = false := fun l h9 h10 => by
          cases hl : lo l
          · rfl
          · have hli : l < i := by
              rcases Nat.lt_or_ge l i with e | e
              · exact e
              · have : l = i := by omega
                subst this; rw [hlo'] at hl; cases hl
            have h11 := hpre l (by omega) (hch.lr l i hli hlt hl hlo' hst')
            have := (hI.loudk l (by omega) hl).1 h11
            omega
        have hq := hI.seg i hki hno hst' o ho
        rw [hwa] at hq
        by_cases hwant : Region.wanted o (yielded ops b.tmps) = true
        · rw [if_pos hwant]
          rw [if_pos hwant] at hq
          exact .inl (wp_of_quiet hq hex.symm (nextR hlo'))
        · rw [if_neg hwant]
          rw [if_neg hwant] at hq
          rw [← hq]; exact nextR hlo'

theorem wp_region_chain {id : Nat} {l : List Oper} {a : Act} {w : World} {Q' : Exit → Act → World → Prop} (lo st : Nat → Bool) (T : Nat → Nat → Prop) (hm : P.follows .mixedOrders = true) (hB : okB l.toArray = true) (hC : chainB l.toArray lo st = true)
    (h : cwalk P l.toArray lo st T w.drew (fun a' w' => Q' .normal a' w') l 0 a w.drew) : (Code.region id l.toArray true).wp P Q' a w := by
  refine wp_region_any hm ?_
  have hok := ok_of hB
  have hch := chain_of hC
  have hlex0 : ∀ u, lex l.toArray a u 0 = a := fun u => (fill_congr (v' := u) (S' := fun _ => false) _ 0 _ (fun j _ _ => ⟨by simp, fun _ => rfl⟩)).trans (fill_none _ 0 _)
  obtain ⟨u, _, e2, e3, e4, e5⟩ := unroll (P := P) (lo := lo) (st := st) (T := T) (w0 := w.drew) (Q := fun a' w' => Q' .normal a' w') (a0 := a) hok l 0 (fun _ => undef) w.drew (by simp) (by rw [hlex0]; exact h)
  have hno : ∀ j, (Array.replicate l.toArray.size false).getD j false = false := fun j => by
    simp only [Array.getD_eq_getD_getElem?, Array.getElem?_replicate]
    split <;> rfl
  refine chain_any (Q := fun a' w' => Q' .normal a' w') (a0 := a) hok hch (fun _ _ h => h) _ _ _ _ 0 u ⟨by simp, fun i o _ hi => ?_, KeepsP.refl _ _, ?_, fun j _ _ => ?_, fun j hj => by omega, fun j h1 h2 => e2 j (by omega) h1 h2, e3, e4, e5⟩ ?_
  · rw [hno] at hi; cases hi
  · refine ((fill_congr (v' := u) (S' := fun _ => false) _ 0 _ (fun j _ _ => ⟨by simp only [hno], fun _ => rfl⟩)).trans (fill_none _ 0 _)).symm
  · rw [hno]; simp
  · unfold count
    rw [List.countP_eq_length.2 (fun i hi => ?_)]
    · simp
    · rw [hno]; rfl

variable {P : Program} {ops : Array Oper} {lo st : Nat → Bool} {T : Nat → Nat → Prop} {w0 : World} {Q : Act → World → Prop}
theorem cw_nil {a : Act} {w : World} (h : Q a w) {i : Nat} : cwalk P ops lo st T w0 Q [] i a w := h
theorem cw_skip {o : Oper} {r : List Oper} {i : Nat} {a : Act} {w : World} (hw : Region.wanted o (yielded ops a.tmps) = false)
    (h : cwalk P ops lo st T w0 Q r (i + 1) (a.put o.dst undef) w) : cwalk P ops lo st T w0 Q (o :: r) i a w := by
  unfold cwalk
  rw [if_neg (by rw [hw]; simp)]
  exact h
/-- An operation that reads what the loud ones that may come up before it leave alone. -/
theorem cw_steady {o : Oper} {r : List Oper} {i : Nat} {a : Act} {w : World} {c : Value} (hg : o.guard = none) (hlo : lo i = false) (hst : st i = true)
    (hq : ∀ w', KeepsP (sx ops T i) w0 w' → Quiet P o a w' c) (h : cwalk P ops lo st T w0 Q r (i + 1) (a.put o.dst c) w) : cwalk P ops lo st T w0 Q (o :: r) i a w := by
  unfold cwalk
  rw [if_pos (by simp [Region.wanted, hg]), if_neg (by rw [hlo]; simp), if_pos hst]
  exact ⟨c, hq, h⟩
/-- .. whatever the loud ones do. -/
theorem cw_pure {o : Oper} {r : List Oper} {i : Nat} {a : Act} {w : World} {c : Value} (hg : o.guard = none) (hlo : lo i = false)
    (hq : ∀ w', Quiet P o a w' c) (h : cwalk P ops lo st T w0 Q r (i + 1) (a.put o.dst c) w) : cwalk P ops lo st T w0 Q (o :: r) i a w := by
  unfold cwalk
  rw [if_pos (by simp [Region.wanted, hg]), if_neg (by rw [hlo]; simp)]
  split
  · exact ⟨c, fun w' _ => hq w', h⟩
  · exact ⟨c, hq w, h⟩
/-- The cells that an operation may count on. -/
theorem sx_cell {i b off : Nat} {v : Value} {w' : World} (hk : KeepsP (sx ops T i) w0 w') (hc : w0.cell? ⟨b, off, none⟩ = some v) (hT : ∀ j, pre ops i j = false → ¬ T j b) : w'.cell? ⟨b, off, none⟩ = some v :=
  (hk.cell b off (lt_of_cell hc) (fun ⟨j, _, h1, h2⟩ => hT j h1 h2)).trans hc
/-- A loud operation, walked by the walk's own words. -/
theorem cw_loud {o : Oper} {r : List Oper} {i : Nat} {a : Act} {w : World} (hg : o.guard = none) (hlo : lo i = true)
    (h : ∀ K : Act → World → Prop, (∀ a' w', a'.defers = a.defers → KeepsP (T i) w w' → cwalk P ops lo st T w0 Q r (i + 1) a' w' → K a' w') → o.wp P a w K (fun _ _ _ => False)) : cwalk P ops lo st T w0 Q (o :: r) i a w := by
  unfold cwalk
  rw [if_pos (by simp [Region.wanted, hg]), if_pos hlo]
  exact h _ fun a' w' h1 h2 h3 => ⟨h1, h2, h3⟩
attribute [irreducible] cwalk
end
end Free
end Go.Proofs.YtpobepninifenaaGreat

namespace Go.Proofs.YtpobepninifenaaGreat
namespace Free
open Go Go.RowKit
variable {P : Program} {ops : Array Oper} {lo st : Nat → Bool} {T : Nat → Nat → Prop} {w0 : World} {Q : Act → World → Prop}
theorem cw_pureW {o : Oper} {r : List Oper} {i : Nat} {a : Act} {w : World} {c : Value} (hg : Region.wanted o (yielded ops a.tmps) = true) (hlo : lo i = false)
    (hq : ∀ w', Quiet P o a w' c) (h : cwalk P ops lo st T w0 Q r (i + 1) (a.put o.dst c) w) : cwalk P ops lo st T w0 Q (o :: r) i a w := by
  unfold cwalk
  rw [if_pos hg, if_neg (by rw [hlo]; simp)]
  split
  · exact ⟨c, fun w' _ => hq w', h⟩
  · exact ⟨c, hq w, h⟩
theorem cw_steadyW {o : Oper} {r : List Oper} {i : Nat} {a : Act} {w : World} {c : Value} (hg : Region.wanted o (yielded ops a.tmps) = true) (hlo : lo i = false) (hst : st i = true)
    (hq : ∀ w', KeepsP (sx ops T i) w0 w' → Quiet P o a w' c) (h : cwalk P ops lo st T w0 Q r (i + 1) (a.put o.dst c) w) : cwalk P ops lo st T w0 Q (o :: r) i a w := by
  unfold cwalk
  rw [if_pos hg, if_neg (by rw [hlo]; simp), if_pos hst]
  exact ⟨c, hq, h⟩
theorem cw_loudW {o : Oper} {r : List Oper} {i : Nat} {a : Act} {w : World} (hg : Region.wanted o (yielded ops a.tmps) = true) (hlo : lo i = true)
    (h : ∀ K : Act → World → Prop, (∀ a' w', a'.defers = a.defers → KeepsP (T i) w w' → cwalk P ops lo st T w0 Q r (i + 1) a' w' → K a' w') → o.wp P a w K (fun _ _ _ => False)) : cwalk P ops lo st T w0 Q (o :: r) i a w := by
  unfold cwalk
  rw [if_pos hg, if_pos hlo]
  exact h _ fun a' w' h1 h2 h3 => ⟨h1, h2, h3⟩
end Free
end Go.Proofs.YtpobepninifenaaGreat

namespace Go.Proofs.YtpobepninifenaaGreat
open Go Go.RowKit Go.Sort
namespace Sh
variable {α : Type} [Inhabited α] {s : Sh α} {w w' : World} {L : List α} {B e g n c : Nat}

theorem flat_cs (s : Sh α) (L : List α) : (flatK s.cf s.sz L.toArray).toList = s.cs L := by
  have hp := s.pos
  refine List.ext_getElem? fun i => ?_
  by_cases hi : i < L.length * s.sz
  · have h1 : i < (flatK s.cf s.sz L.toArray).size := by rw [size_flatK]; simpa using hi
    rw [Array.getElem?_toList, ← getElem?_pos_bang h1, get_flatK _ _ _ _ (by simpa using hi)]
    have hk : i / s.sz < L.length := (Nat.div_lt_iff_lt_mul hp).2 hi
    have hr : i % s.sz < s.sz := Nat.mod_lt _ hp
    have hdm : i / s.sz * s.sz + i % s.sz = i := by rw [Nat.mul_comm]; exact Nat.div_add_mod _ _
    have h4 := cs_get (s := s) L (i / s.sz) hk (i % s.sz) hr
    rw [hdm] at h4
    rw [h4]
    have e1 : (L.toArray)[i / s.sz]! = L[i / s.sz] := by simp [hk]
    rw [e1]
    have h5 : i % s.sz < (s.cf L[i / s.sz]).length := by rw [s.len]; exact hr
    rw [List.getElem?_eq_getElem h5]
    simp [h5]
  · rw [List.getElem?_eq_none (by simp; omega), List.getElem?_eq_none (by rw [cs_len]; omega)]
where
  getElem?_pos_bang {F : Array Value} {i : Nat} (h : i < F.size) : some F[i]! = F[i]? := by simp [h]
theorem O.holds (h : s.O w B e (.slice (some ⟨g, 0, none⟩) n c) L) : HoldsK s.cf s.sz w g 0 L.toArray := by
  rcases h with ⟨h1, ⟨h2, _⟩ | ⟨g', cap, cur, h2, hb, hg, h3, h4, h5, h6⟩⟩
  · cases h2
  · cases h2
    intro j hj
    have hj' : j < (s.cs L).length := by rw [← flat_cs]; simpa using hj
    have e1 : (flatK s.cf s.sz L.toArray)[j]! = (s.cs L)[j] := by
      have : (s.cs L)[j]? = (flatK s.cf s.sz L.toArray).toList[j]? := by rw [flat_cs]
      rw [List.getElem?_eq_getElem hj', Array.getElem?_toList, Array.getElem?_eq_getElem hj] at this
      rw [getElem!_pos _ j hj]
      exact (Option.some.inj this).symm
    have e2 : cur[j]? = some ((s.cs L)[j]) := by
      have : (cur.toList.take (L.length * s.sz))[j]? = (s.cs L)[j]? := by rw [← h6]
      rw [List.getElem?_eq_getElem hj', List.getElem?_take] at this
      split at this
      · simpa using this
      · cases this
    constructor
    · rw [Nat.zero_add, e1]
      simp [World.cell?, hg, e2]
    · simp [World.frozen?, hg]
theorem O.sorted {d' : Array α} {m : Nat} {os : Array Obj} (h : s.O w B e (.slice (some ⟨g, 0, none⟩) n c) L) (hd : d'.size = L.length) : s.O (sortWorldK s.cf s.sz w g 0 m d' os) B e (.slice (some ⟨g, 0, none⟩) n c) d'.toList ∧ Keeps [g] w (sortWorldK s.cf s.sz w g 0 m d' os) := by
  rcases h with ⟨h1, ⟨h2, _⟩ | ⟨g', cap, cur, h2, hb, hg, h3, h4, h5, h6⟩⟩
  · cases h2
  · have hn : n = L.length := by simp at h2; exact h2.2.1
    subst hn
    cases h2
    have hgl : g < w.heap.size := (Array.getElem?_eq_some_iff.1 hg).1
    have hheap : (sortWorldK s.cf s.sz w g 0 m d' os).heap = (w.heap.modify g (onCells (putCells id 0 (flatK s.cf s.sz d')))) ++ os := rfl
    have hblk : (sortWorldK s.cf s.sz w g 0 m d' os).heap[g]? = some (.cells (putCells id 0 (flatK s.cf s.sz d') cur) e (0, 0)) := by
      rw [hheap, Array.getElem?_append_left (by simpa using hgl), Array.getElem?_modify, if_pos rfl, hg]
      rfl
    have hfl : (flatK s.cf s.sz d').toList = s.cs d'.toList := by have := flat_cs s d'.toList; simpa using this
    have hcur : L.length * s.sz ≤ cur.size := by
      have := congrArg List.length h6
      rw [h1] at this
      simp only [List.length_take, Array.length_toList] at this
      omega
    refine ⟨⟨by rw [cs_len], .inr ⟨g, c, _, by simp [hd], hb, hblk, by simpa [hd] using h3, h4, by simpa [putCells] using h5, ?_⟩⟩, ⟨rfl, rfl, rfl, ?_, fun k hk hS => ?_⟩⟩
    · rw [← hfl]
      refine List.ext_getElem? fun i => ?_
      have hsz : (flatK s.cf s.sz d').size = L.length * s.sz := by rw [size_flatK, hd]
      by_cases hi : i < L.length * s.sz
      · rw [List.getElem?_take_of_lt (by simpa [hd] using hi), Array.getElem?_toList, Array.getElem?_toList]
        unfold putCells
        rw [Array.getElem?_mapIdx, Array.getElem?_eq_getElem (by omega)]
        simp [hsz, hi]
      · rw [List.getElem?_take, if_neg (by simpa [hd] using hi), List.getElem?_eq_none (by rw [Array.length_toList, hsz]; omega)]
    · rw [hheap]; simp
    · rw [hheap, Array.getElem?_append_left (by simpa using hk), Array.getElem?_modify, if_neg (by simpa using fun e : g = k => hS (by simp [e]))]
/-- What a permutation that is sorted by a strict total order is. -/
theorem perm_of_permIn {d d' : Array α} (h : PermIn 0 d.size d d') : d'.size = d.size ∧ d'.toList.Perm d.toList := by
  obtain ⟨h1, _, h2⟩ := h
  refine ⟨h1, ?_⟩
  rw [show d'.extract 0 d.size = d' by rw [← h1]; simp, show d.extract 0 d.size = d by simp] at h2
  exact h2
theorem pairwise_of_sortedIn {lt : α → α → Bool} {d : Array α} (h : SortedIn lt 0 d.size d) : d.toList.Pairwise (fun x y => lt y x = false) := by
  rw [List.pairwise_iff_getElem]
  intro i j hi hj hij
  have := h i j (Nat.zero_le _) hij (by simpa using hj)
  simp at hi hj
  simpa [hi, hj] using this
end Sh
end Go.Proofs.YtpobepninifenaaGreat

namespace Go.Proofs.YtpobepninifenaaGreat
open Go.RowKit Go.Sort

def cI (x y : Int) : Int := if x < y then -1 else if y < x then 1 else 0
set_option maxRecDepth 100000 in
set_option maxHeartbeats 1000000 in
theorem compareI_c (x y : Int) (w : World) : Calls Tryz.prog 49 #[.int .i64 x, .int .i64 y] w fun e w' => e = .returned (.int .i64 (cI x y)) ∧ w = w' := by
  unfold cI
  by_cases h1 : x < y
  · rw [if_pos h1]
    go_enter Tryz.func49, Tryz.ntmps49
    go_wp2
    go_ret
    exact ⟨rfl, rfl⟩
  · rw [if_neg h1]
    have h1' : decide (x < y) = false := by simpa using h1
    by_cases h2 : y < x
    · rw [if_pos h2]
      go_enter Tryz.func49, Tryz.ntmps49
      go_wp2
      go_ret
      exact ⟨rfl, rfl⟩
    · rw [if_neg h2]
      have h2' : decide (y < x) = false := by simpa using h2
      go_enter Tryz.func49, Tryz.ntmps49
      go_wp2
      go_ret
      exact ⟨rfl, rfl⟩
set_option maxRecDepth 100000 in
set_option maxHeartbeats 1000000 in
theorem compareU_c (x y : Nat) (w : World) : Calls Tryz.prog 125 #[.int .u64 x, .int .u64 y] w fun e w' => e = .returned (.int .i64 (cI x y)) ∧ w = w' := by
  unfold cI
  by_cases h1 : (x : Int) < y
  · rw [if_pos h1]
    go_enter Tryz.func125, Tryz.ntmps125
    go_wp2
    go_ret
    exact ⟨rfl, rfl⟩
  · rw [if_neg h1]
    have h1' : decide ((x : Int) < y) = false := by simpa using h1
    by_cases h2 : (y : Int) < x
    · rw [if_pos h2]
      go_enter Tryz.func125, Tryz.ntmps125
      go_wp2
      go_ret
      exact ⟨rfl, rfl⟩
    · rw [if_neg h2]
      have h2' : decide ((y : Int) < x) = false := by simpa using h2
      go_enter Tryz.func125, Tryz.ntmps125
      go_wp2
      go_ret
      exact ⟨rfl, rfl⟩
def orL : List Int → Int
  | [] => 0
  | x :: r => if x ≠ 0 then x else orL r
theorem orL_drop (L : List Int) (k : Nat) (hk : k < L.length) : orL (L.drop k) = if L[k] ≠ 0 then L[k] else orL (L.drop (k + 1)) := by
  rw [List.drop_eq_getElem_cons hk]; rfl
set_option maxRecDepth 100000 in
set_option maxHeartbeats 1000000 in
theorem or_c (w : World) (v : Value) (L : List Int) (h : shZ.R w v L) : Calls Tryz.prog 124 #[v] w fun e w' => e = .returned (.int .i64 (orL L)) ∧ w = w' := by
  obtain ⟨a, c, rfl, hlc, hcm, _⟩ := h.form
  have hel := fun k hk => h.elem (k := k) hk
  have hod := fun k hk => orL_drop L k hk
  obtain ⟨M, hM⟩ : ∃ N, L.length = N := ⟨_, rfl⟩
  rw [hM] at hlc ⊢
  have hMm : M ≤ 9223372036854775807 := by unfold maxLen at hcm; omega
  obtain ⟨r, hr⟩ : ∃ r, orL L = r := ⟨_, rfl⟩
  rw [hr]
  replace hr := Lib.hid hr
  replace hel := Lib.hid hel
  replace hod := Lib.hid hod
  replace hM := Lib.hid hM
  clear h
  go_enter Tryz.func124, Tryz.ntmps124
  go_wp2
  go_loop [8] (fun i => ∃ k : Nat, i = .int .i64 k ∧ k ≤ M ∧ Hid (orL (L.drop k) = r)) (fun i => M - (intOf i).toNat)
  case atStart => exact ⟨0, rfl, by omega, by show _ = _; simpa using hr.out⟩
  case round =>
    obtain ⟨k, rfl, hk, hrk⟩ := hrel
    by_cases hlt : k < M
    · obtain ⟨g, o, c', hv, he⟩ := hel.out k (by rw [hM.out]; exact hlt)
      cases hv
      have ho := hod.out k (by rw [hM.out]; exact hlt)
      obtain ⟨x, hx⟩ : ∃ x, L[k]'(by rw [hM.out]; exact hlt) = x := ⟨_, rfl⟩
      rw [hx] at he ho
      have e0 := he 0 _ rfl
      simp only [shZ, Nat.add_zero, Nat.mul_one] at e0
      replace hx := Lib.hid hx
      clear he
      by_cases h0 : x = 0
      · subst h0
        rw [if_neg (by simp)] at ho
        replace ho := Lib.hid ho
        go_wp2
        go_round
        case rel => exact ⟨k + 1, rfl, by omega, by show _ = _; rw [← ho.out]; exact hrk.out⟩
        case measure => simp [intOf]; omega
      · rw [if_pos h0] at ho
        have h0' : (x != 0) = true := by simpa using h0
        have hxr : x = r := by rw [← ho]; exact hrk.out
        subst hxr
        replace ho := Lib.hid ho
        replace h0 := Lib.hid h0
        go_wp2
        go_ret
        exact ⟨rfl, rfl⟩
    · have hr0 : r = 0 := by
        rw [← hrk.out, List.drop_eq_nil_of_le (by rw [hM.out]; omega)]; rfl
      subst hr0
      go_wp2
      go_ret
      exact ⟨rfl, rfl⟩
end Go.Proofs.YtpobepninifenaaGreat

namespace Go.Proofs
open Go.Shelf
def Tryz.sortAns_ren : Go.Shelf.Ren := ⟨fun | 6 => 129 | 15 => 128 | 14 => 157 | 28 => 155 | 29 => 156 | 20 => 171 | 21 => 172 | 22 => 173 | 23 => 174 | 24 => 175 | 25 => 176 | 26 => 177 | 27 => 178 | 46 => 183 | 47 => 167 | 48 => 168 | 49 => 184 | 50 => 185 | 57 => 187 | n => n, fun | 22 => 67 | 24 => 37 | 25 => 221 | 3 => 3 | 39 => 219 | 0 => 0 | 53 => 247 | 55 => 34 | 4 => 4 | 46 => 241 | 45 => 240 | 50 => 203 | 5 => 5 | 9 => 9 | 66 => 256 | 70 => 130 | 76 => 267 | 77 => 268 | n => n, fun | n => n⟩
theorem Tryz.sortAns : Go.Proofs.SlLaysF0.n6 Tryz.prog Tryz.sortAns_ren := {
  mixed := by kernel_rfl
  f6 := ⟨Tryz.f129.name, by decide, Tryz.func129.trans (congrArg some (by kernel_rfl))⟩
  f14 := ⟨Tryz.f157.name, by decide, Tryz.func157.trans (congrArg some (by kernel_rfl))⟩
  f15 := Tryz.func128.trans (congrArg some (by kernel_rfl))
  f20 := ⟨Tryz.f171.name, by decide, Tryz.func171.trans (congrArg some (by kernel_rfl))⟩
  f21 := ⟨Tryz.f172.name, by decide, Tryz.func172.trans (congrArg some (by kernel_rfl))⟩
  f22 := ⟨Tryz.f173.name, by decide, Tryz.func173.trans (congrArg some (by kernel_rfl))⟩
  f23 := ⟨Tryz.f174.name, by decide, Tryz.func174.trans (congrArg some (by kernel_rfl))⟩
  f24 := ⟨Tryz.f175.name, by decide, Tryz.func175.trans (congrArg some (by kernel_rfl))⟩
  f25 := ⟨Tryz.f176.name, by decide, Tryz.func176.trans (congrArg some (by kernel_rfl))⟩
  f26 := ⟨Tryz.f177.name, by decide, Tryz.func177.trans (congrArg some (by kernel_rfl))⟩
  f27 := ⟨Tryz.f178.name, by decide, Tryz.func178.trans (congrArg some (by kernel_rfl))⟩
  f28 := Tryz.func155.trans (congrArg some (by kernel_rfl))
  f29 := Tryz.func156.trans (congrArg some (by kernel_rfl))
  f46 := ⟨Tryz.f183.name, by decide, Tryz.func183.trans (congrArg some (by kernel_rfl))⟩
  f47 := Tryz.func167.trans (congrArg some (by kernel_rfl))
  f48 := Tryz.func168.trans (congrArg some (by kernel_rfl))
  f49 := ⟨Tryz.f184.name, by decide, Tryz.func184.trans (congrArg some (by kernel_rfl))⟩
  f50 := ⟨Tryz.f185.name, by decide, Tryz.func185.trans (congrArg some (by kernel_rfl))⟩
  f57 := ⟨Tryz.f187.name, by decide, Tryz.func187.trans (congrArg some (by kernel_rfl))⟩
  t0 := Tryz.underlying0
  a0 := Tryz.isAgg0
  z0 := Tryz.sizeOf0
  v0 := Tryz.zeroValue0
  t3 := Tryz.underlying3
  a3 := Tryz.isAgg3
  z3 := Tryz.sizeOf3
  v3 := Tryz.zeroValue3
  t4 := Tryz.underlying4
  a4 := Tryz.isAgg4
  z4 := Tryz.sizeOf4
  v4 := Tryz.zeroValue4
  t5 := Tryz.underlying5
  a5 := Tryz.isAgg5
  z5 := Tryz.sizeOf5
  v5 := Tryz.zeroValue5
  t9 := Tryz.underlying9
  a9 := Tryz.isAgg9
  z9 := Tryz.sizeOf9
  v9 := Tryz.zeroValue9
  t22 := Tryz.underlying67
  a22 := Tryz.isAgg67
  z22 := Tryz.sizeOf67
  v22 := Tryz.zeroValue67
  t25 := Tryz.underlying221
  a25 := Tryz.isAgg221
  z25 := Tryz.sizeOf221
  v25 := Tryz.zeroValue221
  t39 := Tryz.underlying219
  a39 := Tryz.isAgg219
  z39 := Tryz.sizeOf219
  v39 := Tryz.zeroValue219
  t45 := Tryz.underlying240
  a45 := Tryz.isAgg240
  z45 := Tryz.sizeOf240
  v45 := Tryz.zeroValue240
  t46 := Tryz.underlying241
  a46 := Tryz.isAgg241
  z46 := Tryz.sizeOf241
  v46 := Tryz.zeroValue241
  t50 := Tryz.underlying203
  a50 := Tryz.isAgg203
  z50 := Tryz.sizeOf203
  v50 := Tryz.zeroValue203
  t53 := Tryz.underlying247
  a53 := Tryz.isAgg247
  z53 := Tryz.sizeOf247
  v53 := Tryz.zeroValue247
  t55 := Tryz.underlying34
  a55 := Tryz.isAgg34
  z55 := Tryz.sizeOf34
  v55 := Tryz.zeroValue34
  t66 := Tryz.underlying256
  a66 := Tryz.isAgg256
  z66 := Tryz.sizeOf256
  v66 := Tryz.zeroValue256
  t70 := Tryz.underlying130
  a70 := Tryz.isAgg130
  z70 := Tryz.sizeOf130
  v70 := Tryz.zeroValue130
  t76 := Tryz.underlying267
  a76 := Tryz.isAgg267
  z76 := Tryz.sizeOf267
  v76 := Tryz.zeroValue267
  t77 := Tryz.underlying268
  a77 := Tryz.isAgg268
  z77 := Tryz.sizeOf268
  v77 := Tryz.zeroValue268 }
def Tryz.sortNeed_ren : Go.Shelf.Ren := ⟨fun | 6 => 122 | 15 => 128 | 14 => 145 | 28 => 155 | 29 => 156 | 20 => 158 | 21 => 159 | 22 => 160 | 23 => 161 | 24 => 162 | 25 => 163 | 26 => 164 | 27 => 165 | 46 => 179 | 47 => 167 | 48 => 168 | 49 => 180 | 50 => 181 | 57 => 186 | n => n, fun | 22 => 85 | 24 => 53 | 25 => 215 | 3 => 3 | 39 => 219 | 0 => 0 | 53 => 247 | 55 => 34 | 4 => 4 | 46 => 241 | 45 => 240 | 50 => 203 | 5 => 5 | 9 => 9 | 66 => 256 | 70 => 130 | 76 => 267 | 77 => 268 | n => n, fun | n => n⟩
theorem Tryz.sortNeed : Go.Proofs.SlLaysF0.n6 Tryz.prog Tryz.sortNeed_ren := {
  mixed := by kernel_rfl
  f6 := ⟨Tryz.f122.name, by decide, Tryz.func122.trans (congrArg some (by kernel_rfl))⟩
  f14 := ⟨Tryz.f145.name, by decide, Tryz.func145.trans (congrArg some (by kernel_rfl))⟩
  f15 := Tryz.func128.trans (congrArg some (by kernel_rfl))
  f20 := ⟨Tryz.f158.name, by decide, Tryz.func158.trans (congrArg some (by kernel_rfl))⟩
  f21 := ⟨Tryz.f159.name, by decide, Tryz.func159.trans (congrArg some (by kernel_rfl))⟩
  f22 := ⟨Tryz.f160.name, by decide, Tryz.func160.trans (congrArg some (by kernel_rfl))⟩
  f23 := ⟨Tryz.f161.name, by decide, Tryz.func161.trans (congrArg some (by kernel_rfl))⟩
  f24 := ⟨Tryz.f162.name, by decide, Tryz.func162.trans (congrArg some (by kernel_rfl))⟩
  f25 := ⟨Tryz.f163.name, by decide, Tryz.func163.trans (congrArg some (by kernel_rfl))⟩
  f26 := ⟨Tryz.f164.name, by decide, Tryz.func164.trans (congrArg some (by kernel_rfl))⟩
  f27 := ⟨Tryz.f165.name, by decide, Tryz.func165.trans (congrArg some (by kernel_rfl))⟩
  f28 := Tryz.func155.trans (congrArg some (by kernel_rfl))
  f29 := Tryz.func156.trans (congrArg some (by kernel_rfl))
  f46 := ⟨Tryz.f179.name, by decide, Tryz.func179.trans (congrArg some (by kernel_rfl))⟩
  f47 := Tryz.func167.trans (congrArg some (by kernel_rfl))
  f48 := Tryz.func168.trans (congrArg some (by kernel_rfl))
  f49 := ⟨Tryz.f180.name, by decide, Tryz.func180.trans (congrArg some (by kernel_rfl))⟩
  f50 := ⟨Tryz.f181.name, by decide, Tryz.func181.trans (congrArg some (by kernel_rfl))⟩
  f57 := ⟨Tryz.f186.name, by decide, Tryz.func186.trans (congrArg some (by kernel_rfl))⟩
  t0 := Tryz.underlying0
  a0 := Tryz.isAgg0
  z0 := Tryz.sizeOf0
  v0 := Tryz.zeroValue0
  t3 := Tryz.underlying3
  a3 := Tryz.isAgg3
  z3 := Tryz.sizeOf3
  v3 := Tryz.zeroValue3
  t4 := Tryz.underlying4
  a4 := Tryz.isAgg4
  z4 := Tryz.sizeOf4
  v4 := Tryz.zeroValue4
  t5 := Tryz.underlying5
  a5 := Tryz.isAgg5
  z5 := Tryz.sizeOf5
  v5 := Tryz.zeroValue5
  t9 := Tryz.underlying9
  a9 := Tryz.isAgg9
  z9 := Tryz.sizeOf9
  v9 := Tryz.zeroValue9
  t22 := Tryz.underlying85
  a22 := Tryz.isAgg85
  z22 := Tryz.sizeOf85
  v22 := Tryz.zeroValue85
  t25 := Tryz.underlying215
  a25 := Tryz.isAgg215
  z25 := Tryz.sizeOf215
  v25 := Tryz.zeroValue215
  t39 := Tryz.underlying219
  a39 := Tryz.isAgg219
  z39 := Tryz.sizeOf219
  v39 := Tryz.zeroValue219
  t45 := Tryz.underlying240
  a45 := Tryz.isAgg240
  z45 := Tryz.sizeOf240
  v45 := Tryz.zeroValue240
  t46 := Tryz.underlying241
  a46 := Tryz.isAgg241
  z46 := Tryz.sizeOf241
  v46 := Tryz.zeroValue241
  t50 := Tryz.underlying203
  a50 := Tryz.isAgg203
  z50 := Tryz.sizeOf203
  v50 := Tryz.zeroValue203
  t53 := Tryz.underlying247
  a53 := Tryz.isAgg247
  z53 := Tryz.sizeOf247
  v53 := Tryz.zeroValue247
  t55 := Tryz.underlying34
  a55 := Tryz.isAgg34
  z55 := Tryz.sizeOf34
  v55 := Tryz.zeroValue34
  t66 := Tryz.underlying256
  a66 := Tryz.isAgg256
  z66 := Tryz.sizeOf256
  v66 := Tryz.zeroValue256
  t70 := Tryz.underlying130
  a70 := Tryz.isAgg130
  z70 := Tryz.sizeOf130
  v70 := Tryz.zeroValue130
  t76 := Tryz.underlying267
  a76 := Tryz.isAgg267
  z76 := Tryz.sizeOf267
  v76 := Tryz.zeroValue267
  t77 := Tryz.underlying268
  a77 := Tryz.isAgg268
  z77 := Tryz.sizeOf268
  v77 := Tryz.zeroValue268 }
end Go.Proofs
