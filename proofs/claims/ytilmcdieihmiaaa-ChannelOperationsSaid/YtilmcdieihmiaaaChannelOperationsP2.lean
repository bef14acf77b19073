/- Texts that the law leans on, in the order in which they build. A region that draws its order, whatever its operations do: one obligation for each operation, in the order of the text, serves every order. An operation that is 'loud' (it makes or writes memory, or calls) says what it leaves by a fact on its value and the world that no other operation of the region can undo; every other operation yields one value in every world that can come up. The contracts of package wire's writers of bytes. The contract of the reference's encoding of a number. The contracts of the datagrams' makers. The contracts of package wire's reader of bytes. The closure that reads a number, where it fails. The closure that reads a number, where it succeeds. -/
import Derived.Test.YtilmcdieihmiaaaChannelOperationsP1
import Derived.Test.YtilmcdieihmiaaaRows
import Derived.Orders
namespace Go.Proofs.Ytilmcdieihmiaaa
namespace Free
open Go Go.RowKit

/-- `w'` is `w` with new blocks and draws, and with writes to blocks of `S` alone. -/
structure KeepsP (S : Nat → Prop) (w w' : World) : Prop where
  os : w'.os = w.os
  tape : w'.tape = w.tape
  output : w'.output = w.output
  size : w.heap.size ≤ w'.heap.size
  block : ∀ k, k < w.heap.size → ¬ S k → w'.heap[k]? = w.heap[k]?
theorem KeepsP.refl (S : Nat → Prop) (w : World) : KeepsP S w w := ⟨rfl, rfl, rfl, Nat.le_refl _, fun _ _ _ => rfl⟩
theorem KeepsP.trans {S : Nat → Prop} {a b c : World} (h : KeepsP S a b) (k : KeepsP S b c) : KeepsP S a c :=
  ⟨k.os.trans h.os, k.tape.trans h.tape, k.output.trans h.output, Nat.le_trans h.size k.size,
    fun i hi hs => (k.block i (Nat.lt_of_lt_of_le hi h.size) hs).trans (h.block i hi hs)⟩
theorem KeepsP.mono {S T : Nat → Prop} {w w' : World} (h : KeepsP S w w') (hst : ∀ k, S k → T k) : KeepsP T w w' :=
  ⟨h.os, h.tape, h.output, h.size, fun k hk hT => h.block k hk fun hs => hT (hst k hs)⟩
theorem KeepsP.of {w w' : World} {S : List Nat} {T : Nat → Prop} (h : Keeps S w w') (hst : ∀ k ∈ S, T k) : KeepsP T w w' :=
  ⟨h.os, h.tape, h.output, h.size, fun k hk hT => h.block k hk fun hs => hT (hst k hs)⟩
theorem KeepsP.to {w0 w w' : World} {S : List Nat} {T : Nat → Prop} (h : Keeps S w0 w) (k : KeepsP T w w') (hst : ∀ b, T b → b ∈ S ∨ w0.heap.size ≤ b) : Keeps S w0 w' :=
  ⟨k.os.trans h.os, k.tape.trans h.tape, k.output.trans h.output, Nat.le_trans h.size k.size,
    fun i hi hs => (k.block i (Nat.lt_of_lt_of_le hi h.size) (fun ht => by rcases hst i ht with h1 | h1; exact hs h1; omega)).trans (h.block i hi hs)⟩
theorem KeepsP.cell {S : Nat → Prop} {w w' : World} (h : KeepsP S w w') : ∀ b o, b < w.heap.size → ¬ S b → w'.cell? ⟨b, o, none⟩ = w.cell? ⟨b, o, none⟩ :=
  fun b o hb hs => World.cell?_of_block (w := w) (a := ⟨b, o, none⟩) (h.block b hb hs)
theorem KeepsP.frozen {S : Nat → Prop} {w w' : World} (h : KeepsP S w w') : ∀ b o, b < w.heap.size → ¬ S b → w'.frozen? ⟨b, o, none⟩ = w.frozen? ⟨b, o, none⟩ :=
  fun b o hb hs => World.frozen?_of_block (w := w) (a := ⟨b, o, none⟩) (h.block b hb hs)
theorem KeepsP.alloc (S : Nat → Prop) (w : World) (o : Obj) : KeepsP S w (w.alloc o) := ⟨rfl, rfl, rfl, by simp, fun k hk _ => Below.heap_alloc _ _ _ hk⟩
theorem KeepsP.setCell {S : Nat → Prop} (w : World) {p : Addr} (hp : S p.block) (u : Value) : KeepsP S w (w.setCell p u) :=
  ⟨rfl, rfl, rfl, by simp [World.setCell], fun k _ hs => Below.heap_setCell _ _ _ _ (by rintro rfl; exact hs hp)⟩
theorem KeepsP.grown {S : Nat → Prop} {w w' : World} {row : Option Nat} (hg : w.grownBy w' row) (hr : ∀ k, row = some k → S k) : KeepsP S w w' :=
  ⟨hg.os, hg.tape, hg.output, hg.size, fun k hk hs => hg.block k hk (fun e => hs (hr k e.symm))⟩

def fill (v : Nat → Value) (S : Nat → Bool) : List Oper → Nat → Act → Act
  | [], _, a => a
  | o :: r, k, a => fill v S r (k + 1) (if S k then a.put o.dst (v k) else a)

theorem fill_congr {v v' : Nat → Value} {S S' : Nat → Bool} : ∀ (l : List Oper) (k : Nat) (a : Act), (∀ j, k ≤ j → j < k + l.length → S j = S' j ∧ (S j = true → v j = v' j)) → fill v S l k a = fill v' S' l k a
  | [], _, _, _ => rfl
  | o :: r, k, a, h => by
    have h0 := h k (Nat.le_refl _) (by simp)
    unfold fill
    rw [fill_congr r (k + 1) _ (fun j hj hlt => h j (by omega) (by simp; omega))]
    congr 1
    rw [← h0.1]
    split
    · rw [h0.2 ‹_›]
    · rfl

theorem fill_none {v : Nat → Value} : ∀ (l : List Oper) (k : Nat) (a : Act), fill v (fun _ => false) l k a = a
  | [], _, _ => rfl
  | o :: r, k, a => by unfold fill; simp [fill_none r (k + 1) a]

theorem fill_comm {v : Nat → Value} {S : Nat → Bool} {x : Value} {d : Option Tmp} : ∀ (l : List Oper) (k : Nat) (a : Act), (∀ p ∈ l, ∀ t, d = some t → p.dst ≠ some t) →
    fill v S l k (a.put d x) = (fill v S l k a).put d x
  | [], _, _, _ => rfl
  | o :: r, k, a, h => by
    unfold fill
    split
    · rw [Act.put_comm a x (v k) (fun t ht => h o (by simp) t ht)]
      exact fill_comm r (k + 1) _ (fun p hp => h p (by simp [hp]))
    · exact fill_comm r (k + 1) _ (fun p hp => h p (by simp [hp]))

/-- One operation more. -/
theorem fill_put {v : Nat → Value} {S S' : Nat → Bool} {i : Nat} {o : Oper} (hi : S i = false) (hi' : S' i = true) (hS : ∀ j, j ≠ i → S' j = S j) : ∀ (l : List Oper) (k : Nat) (a : Act), k ≤ i → l[i - k]? = some o →
    (∀ j p, l[j]? = some p → k + j ≠ i → ∀ t, o.dst = some t → p.dst ≠ some t) → fill v S' l k a = (fill v S l k a).put o.dst (v i)
  | [], k, a, _, ho, _ => by simp at ho
  | p :: r, k, a, hk, ho, hd => by
    unfold fill
    by_cases e : k = i
    · subst e
      have hp : p = o := by simpa using ho
      subst hp
      rw [hi, hi']
      simp only [if_true, Bool.false_eq_true, if_false]
      have : fill v S' r (k + 1) (a.put p.dst (v k)) = fill v S r (k + 1) (a.put p.dst (v k)) :=
        fill_congr r (k + 1) _ (fun j hj _ => ⟨hS j (by omega), fun _ => rfl⟩)
      rw [this]
      refine fill_comm r (k + 1) a (fun q hq t ht => ?_)
      obtain ⟨j, hj⟩ := List.getElem?_of_mem hq
      exact hd (j + 1) q (by simpa using hj) (by omega) t ht
    · rw [hS k e]
      refine fill_put hi hi' hS r (k + 1) _ (by omega) ?_ (fun j q hq hne => hd (j + 1) q (by simpa using hq) (by omega))
      have : i - k = (i - (k + 1)) + 1 := by omega
      rw [this] at ho
      simpa using ho

def Agree (L : List Tmp) (a b : Act) : Prop := a.tmps.size = b.tmps.size ∧ ∀ t ∈ L, a.tmps[t]? = b.tmps[t]?
theorem Agree.refl (L : List Tmp) (a : Act) : Agree L a a := ⟨rfl, fun _ _ => rfl⟩
theorem Agree.symm {L : List Tmp} {a b : Act} (h : Agree L a b) : Agree L b a := ⟨h.1.symm, fun t ht => (h.2 t ht).symm⟩
theorem Agree.both {L : List Tmp} {a b : Act} (h : Agree L a b) (d : Option Tmp) (v : Value) : Agree L (a.put d v) (b.put d v) := by
  cases d with
  | none => exact h
  | some d =>
    refine ⟨by simp [Act.put, h.1], fun t ht => ?_⟩
    simp only [Act.put, Array.getElem?_setIfInBounds, h.1, h.2 t ht]
theorem Agree.left {L : List Tmp} {a b : Act} (h : Agree L a b) (d : Option Tmp) (v : Value) (hd : ∀ t, d = some t → t ∉ L) : Agree L (a.put d v) b := by
  cases d with
  | none => exact h
  | some d =>
    refine ⟨by simp [Act.put, h.1], fun t ht => ?_⟩
    have : d ≠ t := fun e => hd d rfl (e ▸ ht)
    simp only [Act.put, Array.getElem?_setIfInBounds_ne this, h.2 t ht]
theorem fill_agree {L : List Tmp} {v : Nat → Value} {S T : Nat → Bool} : ∀ (l : List Oper) (k : Nat) (a b : Act), Agree L a b →
    (∀ j p, l[j]? = some p → S (k + j) ≠ T (k + j) → ∀ t, p.dst = some t → t ∉ L) → Agree L (fill v S l k a) (fill v T l k b)
  | [], _, _, _, h, _ => h
  | o :: r, k, a, b, h, hd => by
    unfold fill
    have h0 := hd 0 o rfl
    refine fill_agree r (k + 1) _ _ ?_ (fun j p hp hne => hd (j + 1) p (by simpa using hp) (by rwa [show k + (j + 1) = k + 1 + j from by omega]))
    simp only [Nat.add_zero] at h0
    cases hs : S k <;> cases ht : T k <;> simp only [if_true, Bool.false_eq_true, if_false]
    · exact h
    · exact (h.symm.left _ _ (h0 (by simp [hs, ht]))).symm
    · exact h.left _ _ (h0 (by simp [hs, ht]))
    · exact h.both _ _

section
variable {ops : Array Oper}
theorem exec_agree {o : Oper} {a b : Act} (h : Agree (o.looksAt ops) a b) (hs : ∀ cs c, o.op ≠ .select cs c) : execOp a.eval o = execOp b.eval o := by
  refine execOp_congr o hs fun x hx => ?_
  cases x with
  | tmp t =>
    have ht : t ∈ o.looksAt ops := by
      unfold Oper.looksAt
      refine List.mem_append.2 (.inl (List.mem_filterMap.2 ⟨.tmp t, by simpa using hx, rfl⟩))
    have := h.2 t ht
    simp [Act.eval, this]
  | _ => rfl
theorem wanted_agree {o : Oper} {a b : Act} (h : Agree (o.looksAt ops) a b) : Region.wanted o (yielded ops a.tmps) = Region.wanted o (yielded ops b.tmps) := by
  unfold Region.wanted
  cases hg : o.guard with
  | none => rfl
  | some g =>
    obtain ⟨g, want⟩ := g
    simp only
    congr 1
    unfold yielded
    cases hd : (ops[g]?).bind (·.dst) with
    | none => rfl
    | some d =>
      have ht : d ∈ o.looksAt ops := by
        unfold Oper.looksAt
        refine List.mem_append.2 (.inr ?_)
        rw [hg]
        simp [hd]
      have := h.2 d ht
      simp [this]
end

def pre (ops : Array Oper) (j i : Nat) : Bool := ((Region.before ops).getD i 0).testBit j
/-- What operation `i` may know of operation `j`: `j` has run, and nothing that could undo its fact can have run. -/
def av (ops : Array Oper) (kills : Nat → Nat → Bool) (j i : Nat) : Bool := pre ops j i && (List.range ops.size).all fun k => !kills k j || k == i || pre ops i k
def unk (ops : Array Oper) (kills : Nat → Nat → Bool) (j : Nat) : Bool := (List.range ops.size).all fun k => !kills k j
theorem av_pre {ops : Array Oper} {kills : Nat → Nat → Bool} {j i : Nat} (h : av ops kills j i = true) : pre ops j i = true := by
  unfold av at h; simp only [Bool.and_eq_true] at h; exact h.1
theorem av_kill {ops : Array Oper} {kills : Nat → Nat → Bool} {j i : Nat} (h : av ops kills j i = true) {k : Nat} (hk : k < ops.size) (hkl : kills k j = true) : k = i ∨ pre ops i k = true := by
  unfold av at h
  simp only [Bool.and_eq_true] at h
  have := List.all_eq_true.1 h.2 k (List.mem_range.2 hk)
  simpa [hkl] using this
/-- What the region's text must be like; asked of the kernel. -/
def okB (ops : Array Oper) : Bool :=
  (List.range ops.size).all fun i => match ops[i]? with
    | none => false
    | some o =>
      (match o.op with | .select .. => false | _ => true) &&
      (o.after.toList.all fun e => !Region.binds .any e || decide (e.on < i)) &&
      (List.range ops.size).all fun j => match ops[j]? with
        | none => false
        | some p => (!pre ops j i || o.after.toList.any fun e => Region.binds .any e && (e.on == j || pre ops j e.on)) &&
          (i == j || ((match o.dst with | some d => p.dst != some d | none => true) && (pre ops j i || pre ops i j || p.apart ops o)))

structure Ok (ops : Array Oper) : Prop where
  sel : ∀ (i : Nat) (o : Oper), ops[i]? = some o → ∀ cs c, o.op ≠ .select cs c
  low : ∀ (i : Nat) (o : Oper), ops[i]? = some o → ∀ e ∈ o.after, Region.binds .any e = true → e.on < i
  road : ∀ (i : Nat) (o : Oper), ops[i]? = some o → ∀ j, j < ops.size → pre ops j i = true → ∃ e ∈ o.after, Region.binds .any e = true ∧ (e.on = j ∨ pre ops j e.on = true)
  dst : ∀ (i : Nat) (o : Oper) (j : Nat) (p : Oper), ops[i]? = some o → ops[j]? = some p → i ≠ j → ∀ t, o.dst = some t → p.dst ≠ some t
  apart : ∀ (i : Nat) (o : Oper) (j : Nat) (p : Oper), ops[i]? = some o → ops[j]? = some p → i ≠ j → pre ops j i = true ∨ pre ops i j = true ∨ p.apart ops o = true

theorem ok_of {ops : Array Oper} (h : okB ops = true) : Ok ops := by
  have h1 : ∀ (i : Nat) (o : Oper), ops[i]? = some o → (match o.op with | .select .. => false | _ => true) = true ∧ (o.after.toList.all fun e => !Region.binds .any e || decide (e.on < i)) = true ∧
      ∀ (j : Nat) (p : Oper), ops[j]? = some p → (!pre ops j i || o.after.toList.any fun e => Region.binds .any e && (e.on == j || pre ops j e.on)) = true ∧
          (i == j || ((match o.dst with | some d => p.dst != some d | none => true) && (pre ops j i || pre ops i j || p.apart ops o))) = true := by
    intro i o ho
    have hi : i < ops.size := (Array.getElem?_eq_some_iff.1 ho).1
    have := List.all_eq_true.1 h i (List.mem_range.2 hi)
    simp only [ho, Bool.and_eq_true] at this
    refine ⟨this.1.1, this.1.2, fun j p hp => ?_⟩
    have hj : j < ops.size := (Array.getElem?_eq_some_iff.1 hp).1
    have := List.all_eq_true.1 this.2 j (List.mem_range.2 hj)
    simpa only [hp, Bool.and_eq_true] using this
  refine ⟨fun i o ho cs c e => ?_, fun i o ho e he hb => ?_, fun i o ho j hj hp => ?_, fun i o j p ho hp hne t ht => ?_, fun i o j p ho hp hne => ?_⟩
  · have := (h1 i o ho).1
    simp [e] at this
  · have := List.all_eq_true.1 (h1 i o ho).2.1 e (by simpa using he)
    simpa [hb] using this
  · have hp' : ops[j]? = some ops[j] := by simp [hj]
    have := ((h1 i o ho).2.2 j _ hp').1
    simp only [hp, Bool.not_true, Bool.false_or, List.any_eq_true, Bool.and_eq_true, Bool.or_eq_true, beq_iff_eq] at this
    obtain ⟨e, he, hb⟩ := this
    exact ⟨e, by simpa using he, hb⟩
  · have := ((h1 i o ho).2.2 j p hp).2
    simp only [Bool.or_eq_true, Bool.and_eq_true, beq_iff_eq, hne, false_or] at this
    have h2 := this.1
    rw [ht] at h2
    simpa using h2
  · have := ((h1 i o ho).2.2 j p hp).2
    simp only [Bool.or_eq_true, Bool.and_eq_true, beq_iff_eq, hne, false_or] at this
    exact or_assoc.1 this.2

/-- What an operation that is not loud leaves: the world as it was, and this one value. -/
def quietUpon (w : World) (c : Value) : Result Next → Prop
  | .ok (.value u) w' => w' = w ∧ u = c
  | .ok .skip w' => w' = w ∧ undef = c
  | _ => False
/-- What a loud operation leaves. -/
def loudUpon (P : Program) (R : Value → World → Prop) : Result Next → Prop
  | .ok (.value u) w' => R u w'
  | .ok .skip w' => R undef w'
  | .ok (.enter f args) w' => Calls P f args w' fun e w'' => ∃ v, e = .returned v ∧ R v w''
  | _ => False
def Quiet (P : Program) (o : Oper) (a : Act) (w : World) (c : Value) : Prop := quietUpon w c ((execOp a.eval o).run P w)
def Loud (P : Program) (o : Oper) (a : Act) (w : World) (R : Value → World → Prop) : Prop := loudUpon P R ((execOp a.eval o).run P w)

theorem quiet_one {P : Program} {o : Oper} {a b : Act} {w : World} {c d : Value} (h : Quiet P o a w c) (k : Quiet P o b w d) (e : execOp a.eval o = execOp b.eval o) : c = d := by
  unfold Quiet at h k
  rw [e] at h
  generalize (execOp b.eval o).run P w = r at h k
  cases r with
  | halt x w' => exact h.elim
  | ok n w' =>
    cases n <;> simp only [quietUpon] at h k <;> first | exact h.elim | exact h.2.symm.trans k.2
theorem wp_of_quiet {P : Program} {o : Oper} {a b : Act} {w : World} {c : Value} {K : Act → World → Prop} {Q : Exit → Act → World → Prop} (h : Quiet P o a w c) (e : execOp b.eval o = execOp a.eval o) (hK : K (b.put o.dst c) w) : o.wp P b w K Q := by
  unfold Quiet at h
  unfold Oper.wp
  rw [e]
  generalize (execOp a.eval o).run P w = r at h
  cases r with
  | halt x w' => exact h.elim
  | ok n w' =>
    cases n <;> simp only [quietUpon] at h <;> first | exact h.elim | skip
    · obtain ⟨rfl, rfl⟩ := h; exact hK
    · obtain ⟨rfl, rfl⟩ := h; exact hK
theorem wp_of_loud {P : Program} {o : Oper} {a b : Act} {w : World} {R : Value → World → Prop} {K : Act → World → Prop} {Q : Exit → Act → World → Prop} (h : Loud P o a w R) (e : execOp b.eval o = execOp a.eval o)
    (hK : ∀ v w', R v w' → K (b.put o.dst v) w') : o.wp P b w K Q := by
  unfold Loud at h
  unfold Oper.wp
  rw [e]
  generalize (execOp a.eval o).run P w = r at h
  cases r with
  | halt x w' => exact h.elim
  | ok n w' =>
    cases n <;> simp only [loudUpon] at h <;> first | exact h.elim | skip
    · exact hK _ _ h
    · exact hK _ _ h
    · exact h.mono fun e' w'' he => by
        obtain ⟨v, rfl, hv⟩ := he
        exact hK _ _ hv

/-- The blocks that may have been written when operation `i` comes up. -/
def sx (ops : Array Oper) (T : Nat → Nat → Prop) (i : Nat) (b : Nat) : Prop := ∃ k, k ≠ i ∧ pre ops i k = false ∧ T k b
/-- .. and behind the region. -/
def sa (T : Nat → Nat → Prop) (b : Nat) : Prop := ∃ k, T k b
section
variable (P : Program) (ops : Array Oper) (w0 : World) (loud : Nat → Bool) (F : Nat → Value → World → Prop) (T : Nat → Nat → Prop) (kills : Nat → Nat → Bool) (Q : Act → World → Prop)

/-- THE WALK, in the order of the text. -/
def walk : List Oper → Nat → (Nat → World → Prop) → Act → Prop
  | [], n, fs, a => ∀ w', KeepsP (sa T) w0 w' → (∀ j, j < n → unk ops kills j = true → fs j w') → Q a w'
  | o :: r, i, fs, a =>
    if Region.wanted o (yielded ops a.tmps) then
      if loud i then
        (∀ w', KeepsP (sx ops T i) w0 w' → (∀ j, j < i → av ops kills j i = true → fs j w') → Loud P o a w' (fun v w'' => F i v w'' ∧ KeepsP (T i) w' w'')) ∧
        ∀ v, walk r (i + 1) (fun j => if j = i then F i v else fs j) (a.put o.dst v)
      else
        ∃ c, (∀ w', KeepsP (sx ops T i) w0 w' → (∀ j, j < i → av ops kills j i = true → fs j w') → Quiet P o a w' c) ∧ walk r (i + 1) fs (a.put o.dst c)
    else walk r (i + 1) fs (a.put o.dst undef)

variable (a0 : Act)
/-- The frame ahead of operation `i`, in the order of the text. -/
def lex (u : Nat → Value) (i : Nat) : Act := fill u (fun j => decide (j < i)) ops.toList 0 a0
def want (u : Nat → Value) (i : Nat) : Bool := match ops[i]? with | some o => Region.wanted o (yielded ops (lex ops a0 u i).tmps) | none => false
def fact (u : Nat → Value) (i : Nat) (w : World) : Prop := want ops a0 u i = true → loud i = true → F i (u i) w

def Step (l : Nat → Value) (u : Nat → Value) (i : Nat) (o : Oper) : Prop :=
  if Region.wanted o (yielded ops (lex ops a0 u i).tmps) then
    if loud i then u i = l i ∧ ∀ w', KeepsP (sx ops T i) w0 w' → (∀ j, j < i → av ops kills j i = true → fact ops loud F a0 u j w') → Loud P o (lex ops a0 u i) w' (fun v w'' => F i v w'' ∧ KeepsP (T i) w' w'')
    else ∀ w', KeepsP (sx ops T i) w0 w' → (∀ j, j < i → av ops kills j i = true → fact ops loud F a0 u j w') → Quiet P o (lex ops a0 u i) w' (u i)
  else u i = undef

variable {P ops w0 loud F T kills Q a0}

theorem lex_congr {u u' : Nat → Value} {i : Nat} (h : ∀ j, j < i → u j = u' j) : lex ops a0 u i = lex ops a0 u' i :=
  fill_congr _ 0 _ fun j _ _ => ⟨rfl, fun hj => h j (by simpa using hj)⟩
theorem want_congr {u u' : Nat → Value} {i : Nat} (h : ∀ j, j < i → u j = u' j) : want ops a0 u i = want ops a0 u' i := by
  unfold want; rw [lex_congr h]
theorem fact_congr {u u' : Nat → Value} {i : Nat} {w : World} (h : ∀ j, j ≤ i → u j = u' j) : fact ops loud F a0 u i w = fact ops loud F a0 u' i w := by
  unfold fact; rw [want_congr (fun j hj => h j (by omega)), h i (Nat.le_refl _)]
theorem step_congr {l u u' : Nat → Value} {i : Nat} {o : Oper} (h : ∀ j, j ≤ i → u j = u' j) (hs : Step P ops w0 loud F T kills a0 l u i o) : Step P ops w0 loud F T kills a0 l u' i o := by
  have hl : lex ops a0 u i = lex ops a0 u' i := lex_congr (fun j hj => h j (by omega))
  have hf : ∀ w', (∀ j, j < i → av ops kills j i = true → fact ops loud F a0 u' j w') → ∀ j, j < i → av ops kills j i = true → fact ops loud F a0 u j w' :=
    fun w' hh j hj hp => by rw [fact_congr (fun k hk => h k (by omega))]; exact hh j hj hp
  unfold Step at *
  rw [hl, h i (Nat.le_refl _)] at hs
  split
  · rename_i hw
    rw [if_pos hw] at hs
    split
    · rename_i hl2
      rw [if_pos hl2] at hs
      exact ⟨hs.1, fun w' hk hh => hs.2 w' hk (hf w' hh)⟩
    · rename_i hl2
      rw [if_neg hl2] at hs
      exact fun w' hk hh => hs w' hk (hf w' hh)
  · rename_i hw
    rw [if_neg hw] at hs
    exact hs
theorem lex_succ (hok : Ok ops) (u : Nat → Value) (i : Nat) (o : Oper) (ho : ops[i]? = some o) : lex ops a0 u (i + 1) = (lex ops a0 u i).put o.dst (u i) := by
  unfold lex
  refine fill_put (i := i) (o := o) (by simp) (by simp) (fun j hj => ?_) _ 0 _ (Nat.zero_le _) (by simpa using ho) (fun j p hp hne t ht => ?_)
  · by_cases h : j < i
    · simp [h]; omega
    · simp [h]; omega
  · exact hok.dst i o j p ho (by simpa using hp) (by omega) t ht

/-- For each choice of the loud operations' values there are values of all operations that fit. -/
theorem flat (hok : Ok ops) (l : Nat → Value) : ∀ (r : List Oper) (i : Nat) (u : Nat → Value) (fs : Nat → World → Prop), ops.toList.drop i = r →
    (∀ j o, ops[j]? = some o → j < i → Step P ops w0 loud F T kills a0 l u j o) → (∀ j w', j < i → fact ops loud F a0 u j w' → fs j w') → (∀ j w', i ≤ j → fs j w') →
    walk P ops w0 loud F T kills Q r i fs (lex ops a0 u i) →
    ∃ u' : Nat → Value, (∀ j, j < i → u' j = u j) ∧ (∀ j o, ops[j]? = some o → Step P ops w0 loud F T kills a0 l u' j o) ∧
      ∀ w', KeepsP (sa T) w0 w' → (∀ j, j < ops.size → unk ops kills j = true → fact ops loud F a0 u' j w') → Q (lex ops a0 u' ops.size) w'
  | [], i, u, fs, hr, hs, hf, hge, hw => by
    have hn : ops.size ≤ i := by simpa using hr
    have hx : lex ops a0 u i = lex ops a0 u ops.size := fill_congr _ 0 _ fun j _ hj => by
      have : j < ops.size := by simpa using hj
      exact ⟨by simp [this]; omega, fun _ => rfl⟩
    refine ⟨u, fun _ _ => rfl, fun j o ho => hs j o ho (by have := (Array.getElem?_eq_some_iff.1 ho).1; omega), fun w' hk hh => ?_⟩
    rw [← hx]
    refine hw w' hk (fun j hj hun => hf j w' hj ?_)
    by_cases h : j < ops.size
    · exact hh j h hun
    · unfold fact want
      have : ops[j]? = none := by simp; omega
      simp [this]
  | o :: r, i, u, fs, hr, hs, hf, hge, hw => by
    have ho : ops[i]? = some o := by
      have := congrArg (fun x : List Oper => x[0]?) hr
      simpa using this
    have hr' : ops.toList.drop (i + 1) = r := by
      have := congrArg List.tail hr
      simpa using this
    -- the value that this operation gets
    have go : ∀ (c : Value) (fs' : Nat → World → Prop), Step P ops w0 loud F T kills a0 l (fun j => if j = i then c else u j) i o →
        (∀ j w', j < i → fs j w' → fs' j w') → (∀ w', fact ops loud F a0 (fun j => if j = i then c else u j) i w' → fs' i w') → (∀ j w', i + 1 ≤ j → fs' j w') → walk P ops w0 loud F T kills Q r (i + 1) fs' ((lex ops a0 u i).put o.dst c) →
        ∃ u' : Nat → Value, (∀ j, j < i → u' j = u j) ∧ (∀ j o, ops[j]? = some o → Step P ops w0 loud F T kills a0 l u' j o) ∧
          ∀ w', KeepsP (sa T) w0 w' → (∀ j, j < ops.size → unk ops kills j = true → fact ops loud F a0 u' j w') → Q (lex ops a0 u' ops.size) w' := by
      intro c fs' hst hfs hfi hge' hwk
      have hu : ∀ j, j < i → (fun j => if j = i then c else u j) j = u j := fun j hj => by simp; intro e; omega
      have hl : lex ops a0 (fun j => if j = i then c else u j) (i + 1) = (lex ops a0 u i).put o.dst c := by
        rw [lex_succ hok _ i o ho, lex_congr hu]; simp
      obtain ⟨u', h1, h2, h3⟩ := flat hok l r (i + 1) (fun j => if j = i then c else u j) fs' hr'
        (fun j p hp hj => by
          by_cases e : j = i
          · subst e; rw [ho] at hp; cases hp; exact hst
          · exact step_congr (fun k hk => (hu k (by omega)).symm) (hs j p hp (by omega)))
        (fun j w' hj hh => by
          by_cases e : j = i
          · subst e; exact hfi w' hh
          · exact hfs j w' (by omega) (hf j w' (by omega) (by rw [← fact_congr (fun k hk => hu k (by omega))]; exact hh)))
        hge' (by rw [hl]; exact hwk)
      exact ⟨u', fun j hj => (h1 j (by omega)).trans (hu j hj), h2, h3⟩
    have hlex : ∀ c, lex ops a0 (fun j => if j = i then c else u j) i = lex ops a0 u i := fun c => lex_congr fun j hj => by simp; intro e; omega
    have hfc : ∀ c w', (∀ j, j < i → av ops kills j i = true → fact ops loud F a0 (fun j => if j = i then c else u j) j w') → ∀ j, j < i → av ops kills j i = true → fs j w' :=
      fun c w' hh j hj hp => hf j w' hj (by
        have := hh j hj hp
        rwa [fact_congr (u' := u) (fun k hk => by simp; intro e; omega)] at this)
    unfold walk at hw
    by_cases hwant : Region.wanted o (yielded ops (lex ops a0 u i).tmps) = true
    · rw [if_pos hwant] at hw
      by_cases hl : loud i = true
      · rw [if_pos hl] at hw
        refine go (l i) (fun j => if j = i then F i (l i) else fs j) ?_ (fun j w' hj hh => by rw [if_neg (show ¬ j = i by omega)]; exact hh) ?_ (fun j w' hj => by rw [if_neg (show ¬ j = i by omega)]; exact hge j w' (by omega)) (hw.2 (l i))
        · unfold Step
          rw [hlex, if_pos hwant, if_pos hl]
          exact ⟨by simp, fun w' hk hh => hw.1 w' hk (hfc _ w' hh)⟩
        · intro w' hh
          have h1 : want ops a0 (fun j => if j = i then l i else u j) i = true := by
            unfold want; rw [ho]; simp only; rw [hlex]; exact hwant
          have := hh h1 hl
          simpa using this
      · rw [if_neg hl] at hw
        obtain ⟨c, h1, h2⟩ := hw
        refine go c fs ?_ (fun _ _ _ hh => hh) (fun w' _ => hge i w' (Nat.le_refl _)) (fun j w' hj => hge j w' (by omega)) h2
        · unfold Step
          rw [hlex, if_pos hwant, if_neg hl]
          simp only [if_true]
          exact fun w' hk hh => h1 w' hk (hfc _ w' hh)
    · rw [if_neg hwant] at hw
      refine go undef fs ?_ (fun _ _ _ hh => hh) (fun w' _ => hge i w' (Nat.le_refl _)) (fun j w' hj => hge j w' (by omega)) hw
      · unfold Step
        rw [hlex, if_neg hwant]
        simp

theorem ready_sub {ops : Array Oper} {listed : Array Bool} (hok : Ok ops) (hr : Region.ready .any ops listed = []) (hsz : listed.size = ops.size) : ∀ n i, i < n → i < ops.size → listed.getD i false = true
  | 0, _, h, _ => by omega
  | n + 1, i, h, hi => by
    have ih := fun j (hj : j < i) => ready_sub hok hr hsz n j (by omega) (by omega)
    cases hl : listed.getD i false
    · have : i ∈ Region.ready .any ops listed := mem_ready.2 ⟨by
        have h1 : i < listed.size := by omega
        simpa [Array.getD, h1] using hl, ops[i], by simp [hi], fun e he hb => ih e.on (hok.low i _ (by simp [hi]) e he hb)⟩
      rw [hr] at this
      cases this
    · rfl

def count (listed : Array Bool) (n : Nat) : Nat := (List.range n).countP fun i => !listed.getD i false
theorem count_set {listed : Array Bool} {i : Nat} (hi : i < listed.size) (hl : listed.getD i false = false) : ∀ n, i < n → count (listed.setIfInBounds i true) n + 1 = count listed n := by
  have hset : ∀ j, (listed.setIfInBounds i true).getD j false = if j = i then true else listed.getD j false := fun j => by
    simp only [Array.getD_eq_getD_getElem?, Array.getElem?_setIfInBounds]
    by_cases e : i = j
    · subst e; simp [hi]
    · simp [e]; intro h; exact absurd h.symm e
  have same : ∀ n, n ≤ i → count (listed.setIfInBounds i true) n = count listed n := by
    intro n hn
    unfold count
    refine List.countP_congr fun j hj => ?_
    have := List.mem_range.1 hj
    rw [hset, if_neg (by omega)]
  intro n
  induction n with
  | zero => intro h; omega
  | succ n ih =>
    intro hn
    unfold count at *
    rw [List.range_succ, List.countP_append, List.countP_append]
    by_cases e : n = i
    · subst e
      rw [same n (Nat.le_refl _)]
      simp only [List.countP_cons, List.countP_nil, hset, hl]
      simp
    · have := ih (by omega)
      have hx : (listed.setIfInBounds i true).getD n false = listed.getD n false := by rw [hset, if_neg e]
      simp only [List.countP_cons, List.countP_nil, hx]
      omega
theorem getD_set {listed : Array Bool} {i j : Nat} (hi : i < listed.size) : (listed.setIfInBounds i true).getD j false = (if j = i then true else listed.getD j false) := by
  simp only [Array.getD_eq_getD_getElem?, Array.getElem?_setIfInBounds]
  by_cases e : i = j
  · subst e; simp [hi]
  · simp [e]; intro h; exact absurd h.symm e

/-- What holds at every point of a run in whatever order. -/
structure Inv (P : Program) (ops : Array Oper) (w0 : World) (loud : Nat → Bool) (F : Nat → Value → World → Prop) (T : Nat → Nat → Prop) (kills : Nat → Nat → Bool) (a0 : Act) (U : (Nat → Value) → Nat → Value) (listed : Array Bool) (b : Act) (w : World) : Prop where
  size : listed.size = ops.size
  closed : ∀ (i : Nat) (o : Oper), ops[i]? = some o → listed.getD i false = true → ∀ e ∈ o.after, Region.binds .any e = true → listed.getD e.on false = true
  good : KeepsP (fun b => ∃ k, listed.getD k false = true ∧ T k b) w0 w
  some : ∃ l, b = fill (U l) (fun j => listed.getD j false) ops.toList 0 a0 ∧ (∀ j, listed.getD j false = true → (∀ k, k < ops.size → listed.getD k false = true → kills k j = false) → fact ops loud F a0 (U l) j w) ∧
    ∀ l', (∀ j, listed.getD j false = true → l' j = l j) → ∀ j, listed.getD j false = true → U l' j = U l j

theorem closed_pre {ops : Array Oper} {listed : Array Bool} (hok : Ok ops) (hc : ∀ (i : Nat) (o : Oper), ops[i]? = some o → listed.getD i false = true → ∀ e ∈ o.after, Region.binds .any e = true → listed.getD e.on false = true) :
    ∀ n i, i < n → ∀ o, ops[i]? = some o → (∀ e ∈ o.after, Region.binds .any e = true → listed.getD e.on false = true) → ∀ j, j < ops.size → pre ops j i = true → listed.getD j false = true
  | 0, _, h, _, _, _, _, _, _ => by omega
  | n + 1, i, h, o, ho, hr, j, hj, hp => by
    obtain ⟨e, he, hb, h1⟩ := hok.road i o ho j hj hp
    have hl := hr e he hb
    rcases h1 with rfl | h1
    · exact hl
    · have hlt := hok.low i o ho e he hb
      have hi : i < ops.size := (Array.getElem?_eq_some_iff.1 ho).1
      have hoe : ops[e.on]? = some ops[e.on] := by simp [show e.on < ops.size by omega]
      exact closed_pre hok hc n e.on (by omega) _ hoe (hc e.on _ hoe hl) j hj h1

theorem pre_lt {ops : Array Oper} (hok : Ok ops) : ∀ n i, i < n → i < ops.size → ∀ j, j < ops.size → pre ops j i = true → j < i
  | 0, _, h, _, _, _, _ => by omega
  | n + 1, i, h, hi, j, hj, hp => by
    obtain ⟨e, he, hb, h1⟩ := hok.road i ops[i] (by simp [hi]) j hj hp
    have hlt := hok.low i ops[i] (by simp [hi]) e he hb
    rcases h1 with rfl | h1
    · exact hlt
    · have := pre_lt hok n e.on (by omega) (by omega) j hj h1
      omega

theorem any (hok : Ok ops) (U : (Nat → Value) → Nat → Value)
    (hU : ∀ l, (∀ j o, ops[j]? = some o → Step P ops w0 loud F T kills a0 l (U l) j o) ∧ ∀ w', KeepsP (sa T) w0 w' → (∀ j, j < ops.size → unk ops kills j = true → fact ops loud F a0 (U l) j w') → Q (lex ops a0 (U l) ops.size) w')
    (hst : ∀ i k v w w', loud i = true → i ≠ k → kills k i = false → pre ops k i = false → F i v w → KeepsP (T k) w w' → F i v w') {Q' : Exit → Act → World → Prop} (hQ : ∀ a w, Q a w → Q' .normal a w) :
    ∀ (fuel : Nat) (listed : Array Bool) (b : Act) (w : World), Inv P ops w0 loud F T kills a0 U listed b w → count listed ops.size = fuel → wpAny P .any ops Q' fuel listed b w := by
  -- the end: all have run
  have fin : ∀ (listed : Array Bool) (b : Act) (w : World), Inv P ops w0 loud F T kills a0 U listed b w → (∀ i, i < ops.size → listed.getD i false = true) → Q' .normal b w := by
    intro listed b w hI hall
    obtain ⟨l, rfl, hf, _⟩ := hI.some
    refine hQ _ _ ?_
    have : fill (U l) (fun j => listed.getD j false) ops.toList 0 a0 = lex ops a0 (U l) ops.size := fill_congr _ 0 _ fun j _ hj => by
      have : j < ops.size := by simpa using hj
      exact ⟨by rw [hall j this]; simp [this], fun _ => rfl⟩
    rw [this]
    exact (hU l).2 w (hI.good.mono (fun b ⟨k, _, hk⟩ => ⟨k, hk⟩)) (fun j hj hun => hf j (hall j hj) (fun k hk _ => by
      have := List.all_eq_true.1 hun k (List.mem_range.2 hk)
      simpa using this))
  intro fuel
  induction fuel with
  | zero =>
    intro listed b w hI hc
    have hall : ∀ i, i < ops.size → listed.getD i false = true := fun i hi => by
      have := List.countP_eq_zero.1 hc i (List.mem_range.2 hi)
      simpa using this
    refine ⟨?_, fin listed b w hI hall⟩
    refine List.eq_nil_iff_forall_not_mem.2 fun i hi => ?_
    obtain ⟨h1, o, ho, _⟩ := mem_ready.1 hi
    have hlt : i < ops.size := (Array.getElem?_eq_some_iff.1 ho).1
    have h2 := hall i hlt
    have hs : i < listed.size := by rw [hI.size]; exact hlt
    simp [Array.getD, hs] at h1 h2
    rw [h1] at h2
    cases h2
  | succ fuel ih =>
    intro listed b w hI hc
    refine ⟨fun hr => fin listed b w hI (fun i hi => ready_sub hok hr hI.size (i + 1) i (by omega) hi), fun i hi => ?_⟩
    obtain ⟨h1, o, ho, hedge⟩ := mem_ready.1 hi
    have hlt : i < ops.size := (Array.getElem?_eq_some_iff.1 ho).1
    have hs : i < listed.size := by rw [hI.size]; exact hlt
    have hnl : listed.getD i false = false := by simpa [Array.getD, hs] using h1
    have hcount : count (listed.setIfInBounds i true) ops.size = fuel := by
      have := count_set hs hnl ops.size hlt
      omega
    obtain ⟨l, hb, hf, hcons⟩ := hI.some
    have hpre : ∀ j, j < ops.size → pre ops j i = true → listed.getD j false = true := closed_pre hok hI.closed (i + 1) i (by omega) o ho hedge
    -- what the operation looks at is as in the order of the text
    have hagree : ∀ l', (∀ j, listed.getD j false = true → U l' j = U l j) → Agree (o.looksAt ops) (lex ops a0 (U l') i) b := by
      intro l' hl'
      have hb' : b = fill (U l') (fun j => listed.getD j false) ops.toList 0 a0 := by
        rw [hb]; exact fill_congr _ 0 _ fun j _ _ => ⟨rfl, fun hj => (hl' j hj).symm⟩
      rw [hb']
      refine fill_agree _ 0 _ _ (Agree.refl _ _) fun j p hp hne t ht => ?_
      have hp' : ops[j]? = some p := by simpa using hp
      have hj : j < ops.size := (Array.getElem?_eq_some_iff.1 hp').1
      simp only [Nat.zero_add] at hne
      have hji : i ≠ j := fun e => by
        subst e
        rw [hnl] at hne
        simp at hne
      rcases hok.apart i o j p ho hp' hji with h | h | h
      · have h2 := pre_lt hok (i + 1) i (by omega) hlt j hj h
        rw [hpre j hj h] at hne
        simp [h2] at hne
      · have h2 := pre_lt hok (j + 1) j (by omega) hj i hlt h
        have h3 : listed.getD j false = false := by
          cases h4 : listed.getD j false
          · rfl
          · have := closed_pre hok hI.closed (j + 1) j (by omega) p hp' (hI.closed j p hp' h4) i hlt h
            rw [hnl] at this
            cases this
        rw [h3] at hne
        simp at hne
        omega
      · exact (Oper.apart_spec h).1 t ht
    have hag := hagree l (fun _ _ => rfl)
    have hex := exec_agree hag (hok.sel i o ho)
    have hwa := wanted_agree (o := o) hag
    have hfacts : ∀ j, j < i → av ops kills j i = true → fact ops loud F a0 (U l) j w := fun j hj hp => hf j (hpre j (by omega) (av_pre hp)) (fun k hk hkl => by
      cases hkk : kills k j
      · rfl
      · rcases av_kill hp hk hkk with rfl | h
        · rw [hnl] at hkl; cases hkl
        · have hok' : ops[k]? = some ops[k] := by simp [hk]
          have := closed_pre hok hI.closed (k + 1) k (by omega) _ hok' (hI.closed k _ hok' hkl) i hlt h
          rw [hnl] at this; cases this)
    have hclosed' : ∀ (k : Nat) (p : Oper), ops[k]? = some p → (listed.setIfInBounds i true).getD k false = true → ∀ e ∈ p.after, Region.binds .any e = true → (listed.setIfInBounds i true).getD e.on false = true := by
      intro k p hp hk e he hb
      rw [getD_set hs] at hk ⊢
      by_cases e1 : e.on = i
      · rw [if_pos e1]
      · rw [if_neg e1]
        by_cases e2 : k = i
        · subst e2; rw [ho] at hp; cases hp; exact hedge e he hb
        · rw [if_neg e2] at hk; exact hI.closed k p hp hk e he hb
    have hprej : ∀ j, listed.getD j false = true → pre ops i j = false := fun j hj => by
      cases hpp : pre ops i j
      · rfl
      · have hj' : j < ops.size := by
          rcases Nat.lt_or_ge j listed.size with h | h
          · rw [← hI.size]; exact h
          · simp [Array.getD, Nat.not_lt.2 h] at hj
        have := closed_pre hok hI.closed (j + 1) j (by omega) ops[j] (by simp [hj']) (hI.closed j ops[j] (by simp [hj']) hj) i hlt hpp
        rw [hnl] at this; cases this
    have hgood : KeepsP (sx ops T i) w0 w := hI.good.mono (fun b ⟨k, hk, ht⟩ => ⟨k, (fun e => by subst e; rw [hnl] at hk; cases hk), hprej k hk, ht⟩)
    have hgood2 : KeepsP (fun b => ∃ k, (listed.setIfInBounds i true).getD k false = true ∧ T k b) w0 w := hI.good.mono (fun b ⟨k, hk, ht⟩ => ⟨k, (by rw [getD_set hs]; split <;> first | rfl | exact hk), ht⟩)
    have hwsame : ∀ l1, (∀ j, listed.getD j false = true → U l1 j = U l j) → ∀ j (hj' : j < ops.size), listed.getD j false = true → want ops a0 (U l1) j = want ops a0 (U l) j := by
      intro l1 h2 j hj' hj
      have hp' : ops[j]? = some ops[j] := by simp [hj']
      have hprej : ∀ k, k < ops.size → pre ops k j = true → listed.getD k false = true := closed_pre hok hI.closed (j + 1) j (by omega) _ hp' (hI.closed j _ hp' hj)
      unfold want
      rw [hp']
      refine wanted_agree (ops := ops) ?_
      -- both frames agree with the one that has the roads to j alone
      have ag : ∀ u : Nat → Value, Agree (ops[j].looksAt ops) (lex ops a0 u j) (fill u (fun k => pre ops k j && decide (k < ops.size)) ops.toList 0 a0) := by
        intro u
        refine fill_agree _ 0 _ _ (Agree.refl _ _) fun k p hp hne t ht => ?_
        have hpk : ops[k]? = some p := by simpa using hp
        have hk : k < ops.size := (Array.getElem?_eq_some_iff.1 hpk).1
        simp only [Nat.zero_add] at hne
        have hkj : j ≠ k := fun e => by
          subst e
          have : pre ops j j = false := by
            cases hpp : pre ops j j
            · rfl
            · have := pre_lt hok (j + 1) j (by omega) hj' j hj' hpp; omega
          simp [this] at hne
        rcases hok.apart j _ k p hp' hpk hkj with h | h | h
        · have := pre_lt hok (j + 1) j (by omega) hj' k hk h
          simp [this, h, hk] at hne
        · have h9 := pre_lt hok (k + 1) k (by omega) hk j hj' h
          have h10 : pre ops k j = false := by
            cases hpp : pre ops k j
            · rfl
            · have := pre_lt hok (j + 1) j (by omega) hj' k hk hpp; omega
          simp [h10] at hne
          omega
        · exact (Oper.apart_spec h).1 t ht
      have e2 : fill (U l1) (fun k => pre ops k j && decide (k < ops.size)) ops.toList 0 a0 = fill (U l) (fun k => pre ops k j && decide (k < ops.size)) ops.toList 0 a0 :=
        fill_congr _ 0 _ fun k _ _ => ⟨rfl, fun hk => by
          simp only [Bool.and_eq_true, decide_eq_true_eq] at hk
          exact h2 k (hprej k hk.2 hk.1)⟩
      have a1 := ag (U l1)
      rw [e2] at a1
      have a2 := ag (U l)
      exact ⟨a1.1.trans a2.1.symm, fun t ht => (a1.2 t ht).trans (a2.2 t ht).symm⟩
    have next : ∀ (v : Value) (w' : World) (l1 : Nat → Value), (∀ j, listed.getD j false = true → U l1 j = U l j) → U l1 i = v → KeepsP (fun b => ∃ k, (listed.setIfInBounds i true).getD k false = true ∧ T k b) w0 w' → (∀ j, listed.getD j false = true → (∀ k, k < ops.size → listed.getD k false = true ∨ k = i → kills k j = false) → fact ops loud F a0 (U l) j w') → fact ops loud F a0 (U l1) i w' →
        (∀ l', (∀ j, listed.getD j false = true → l' j = l1 j) → l' i = l1 i → U l' i = v ∧ ∀ j, listed.getD j false = true → U l' j = U l1 j) →
        wpAny P .any ops Q' fuel (listed.setIfInBounds i true) (b.put o.dst v) w' := by
      intro v w' l1 h2 h3 h4 h5 h6 h7
      refine ih _ _ _ ⟨by simp [hI.size], hclosed', h4, l1, ?_, ?_, ?_⟩ hcount
      · have e1 : b = fill (U l1) (fun j => listed.getD j false) ops.toList 0 a0 := by
          rw [hb]; exact fill_congr _ 0 _ fun j _ _ => ⟨rfl, fun hj => (h2 j hj).symm⟩
        rw [e1, ← h3]
        refine (fill_put (i := i) (o := o) hnl (by rw [getD_set hs, if_pos rfl]) (fun j hj => by rw [getD_set hs, if_neg hj]) _ 0 _ (Nat.zero_le _) (by simpa using ho) (fun j p hp hne t ht => ?_)).symm
        exact hok.dst i o j p ho (by simpa using hp) (by omega) t ht
      · intro j hj hkl
        rw [getD_set hs] at hj
        by_cases e : j = i
        · subst e; exact h6
        · rw [if_neg e] at hj
          intro ha hb'
          have h8 := h5 j hj (fun k hk hor => hkl k hk (by
            rw [getD_set hs]
            rcases hor with h | h
            · split <;> first | rfl | exact h
            · rw [if_pos h]))
          have hj' : j < ops.size := by
            have : j < listed.size := by
              rcases Nat.lt_or_ge j listed.size with h | h
              · exact h
              · simp [Array.getD, Nat.not_lt.2 h] at hj
            rw [← hI.size]; exact this
          rw [h2 j hj]
          refine h8 ?_ hb'
          rw [← hwsame l1 h2 j hj' hj]; exact ha
      · intro l' hl' j hj
        have hA : ∀ k, listed.getD k false = true → l' k = l1 k := fun k hk => hl' k (by rw [getD_set hs]; split <;> first | rfl | exact hk)
        have hB := h7 l' hA (hl' i (by rw [getD_set hs, if_pos rfl]))
        rw [getD_set hs] at hj
        by_cases e : j = i
        · subst e; rw [hB.1, h3]
        · rw [if_neg e] at hj; exact hB.2 j hj
    have hstep := (hU l).1 i o ho
    unfold wpOp
    simp only [ho]
    unfold Step at hstep
    by_cases hwant : Region.wanted o (yielded ops (lex ops a0 (U l) i).tmps) = true
    · rw [if_pos hwant] at hstep
      rw [← hwa, if_pos hwant]
      refine .inl ?_
      have hwantl : want ops a0 (U l) i = true := by unfold want; rw [ho]; exact hwant
      by_cases hl : loud i = true
      · rw [if_pos hl] at hstep
        refine wp_of_loud (hstep.2 w hgood hfacts) hex.symm fun v w' hv => ?_
        obtain ⟨hF, hK⟩ := hv
        have hgood' : KeepsP (fun b => ∃ k, (listed.setIfInBounds i true).getD k false = true ∧ T k b) w0 w' := (hI.good.mono (fun b ⟨k, hk, ht⟩ => ⟨k, (by rw [getD_set hs]; split <;> first | rfl | exact hk), ht⟩)).trans (hK.mono (fun b hb => ⟨i, (by rw [getD_set hs, if_pos rfl]), hb⟩))
        have hl1 : ∀ j, listed.getD j false = true → (fun k => if k = i then v else l k) j = l j := fun j hj => by
          have : j ≠ i := fun e => by subst e; rw [hnl] at hj; cases hj
          simp [this]
        have hsame := hcons _ hl1
        have hst1 := (hU (fun k => if k = i then v else l k)).1 i o ho
        have hag1 := hagree _ hsame
        have hw1 : Region.wanted o (yielded ops (lex ops a0 (U fun k => if k = i then v else l k) i).tmps) = true := by
          rw [wanted_agree hag1, ← hwa]; exact hwant
        unfold Step at hst1
        rw [if_pos hw1, if_pos hl] at hst1
        have hv1 : U (fun k => if k = i then v else l k) i = v := by rw [hst1.1]; simp
        refine next v w' _ hsame hv1 hgood' (fun j hj hkl => ?_) (fun _ _ => by rw [hv1]; exact hF) (fun l' h2 h3 => ?_)
        · intro ha hb'
          exact hst j i _ _ _ hb' (fun e => by subst e; rw [hnl] at hj; cases hj) (hkl i hlt (.inr rfl)) (hprej j hj) (hf j hj (fun k hk h => hkl k hk (.inl h)) ha hb') hK
        · have h4 : ∀ j, listed.getD j false = true → l' j = l j := fun j hj => (h2 j hj).trans (hl1 j hj)
          have h5 := hcons l' h4
          refine ⟨?_, fun j hj => (h5 j hj).trans (hsame j hj).symm⟩
          have hst2 := (hU l').1 i o ho
          have hw2 : Region.wanted o (yielded ops (lex ops a0 (U l') i).tmps) = true := by
            rw [wanted_agree (hagree l' h5), ← hwa]; exact hwant
          unfold Step at hst2
          rw [if_pos hw2, if_pos hl] at hst2
          rw [hst2.1, h3]; simp
      · rw [if_neg hl] at hstep
        have hq := hstep w hgood hfacts
        refine wp_of_quiet hq hex.symm (next _ w l (fun _ _ => rfl) rfl hgood2 (fun j hj hkl => hf j hj (fun k hk h => hkl k hk (.inl h))) (fun _ hb' => absurd hb' hl) (fun l' h2 _ => ?_))
        have h5 := hcons l' h2
        refine ⟨?_, h5⟩
        have hst2 := (hU l').1 i o ho
        have hag2 := hagree l' h5
        have hw2 : Region.wanted o (yielded ops (lex ops a0 (U l') i).tmps) = true := by
          rw [wanted_agree hag2, ← hwa]; exact hwant
        unfold Step at hst2
        rw [if_pos hw2, if_neg hl] at hst2
        have hq2 := hst2 w hgood (fun j hj hp => ?_)
        · exact quiet_one hq2 hq ((exec_agree hag2 (hok.sel i o ho)).trans hex.symm)
        · have h6 := hfacts j hj hp
          have hj' : j < ops.size := by omega
          intro ha hb'
          rw [h5 j (hpre j hj' (av_pre hp))]
          exact h6 (by rw [← hwsame l' h5 j hj' (hpre j hj' (av_pre hp))]; exact ha) hb'
    · rw [if_neg hwant] at hstep
      rw [← hwa, if_neg hwant]
      have hwf : want ops a0 (U l) i = false := by unfold want; rw [ho]; simpa using hwant
      rw [← hstep]
      refine next _ w l (fun _ _ => rfl) rfl hgood2 (fun j hj hkl => hf j hj (fun k hk h => hkl k hk (.inl h))) (fun ha => by rw [hwf] at ha; cases ha) (fun l' h2 _ => ?_)
      have h5 := hcons l' h2
      refine ⟨?_, h5⟩
      have hst2 := (hU l').1 i o ho
      have hw2 : ¬ Region.wanted o (yielded ops (lex ops a0 (U l') i).tmps) = true := by
        rw [wanted_agree (hagree l' h5), ← hwa]; exact hwant
      unfold Step at hst2
      rw [if_neg hw2] at hst2
      rw [hst2, hstep]

theorem wp_region_free {id : Nat} {l : List Oper} {a : Act} {w : World} {Q' : Exit → Act → World → Prop} (hm : P.follows .mixedOrders = true) (hB : okB l.toArray = true) (loud : Nat → Bool) (F : Nat → Value → World → Prop) (T : Nat → Nat → Prop) (kills : Nat → Nat → Bool)
    (hst : ∀ i k v w w', loud i = true → i ≠ k → kills k i = false → pre l.toArray k i = false → F i v w → KeepsP (T k) w w' → F i v w')
    (h : walk P l.toArray w.drew loud F T kills (fun a' w' => Q' .normal a' w') l 0 (fun _ _ => True) a) : (Code.region id l.toArray true).wp P Q' a w := by
  refine wp_region_any hm ?_
  have hok := ok_of hB
  have hlex0 : ∀ u, lex l.toArray a u 0 = a := fun u => (fill_congr (v' := u) (S' := fun _ => false) _ 0 _ (fun j _ _ => ⟨by simp, fun _ => rfl⟩)).trans (fill_none _ 0 _)
  have hfl : ∀ l' : Nat → Value, ∃ u' : Nat → Value, (∀ j o, l.toArray[j]? = some o → Step P l.toArray w.drew loud F T kills a l' u' j o) ∧
      ∀ w', KeepsP (sa T) w.drew w' → (∀ j, j < l.toArray.size → unk l.toArray kills j = true → fact l.toArray loud F a u' j w') → Q' .normal (lex l.toArray a u' l.toArray.size) w' := fun l' => by
    obtain ⟨u', _, h2, h3⟩ := flat (Q := fun a' w' => Q' .normal a' w') hok l' l 0 (fun _ => undef) (fun _ _ => True) (by simp) (fun j o _ hj => by omega) (fun _ _ _ _ => trivial) (fun _ _ _ => trivial) (by rw [hlex0]; exact h)
    exact ⟨u', h2, h3⟩
  refine any (Q := fun a' w' => Q' .normal a' w') (a0 := a) hok (fun l' => Classical.choose (hfl l')) (fun l' => Classical.choose_spec (hfl l')) hst (fun _ _ h => h) _ _ _ _ ?_ ?_
  · have hno : ∀ j, (Array.replicate l.toArray.size false).getD j false = false := fun j => by
      simp only [Array.getD_eq_getD_getElem?, Array.getElem?_replicate]
      split <;> rfl
    refine ⟨by simp, fun i o _ hi => ?_, KeepsP.refl _ _, fun _ => undef, ?_, fun j hj _ => ?_, fun _ _ j hj => ?_⟩
    · rw [hno] at hi; cases hi
    · refine ((fill_congr (v' := fun _ => undef) (S' := fun _ => false) _ 0 _ (fun j _ _ => ⟨by simp only [hno], fun hj => ?_⟩)).trans (fill_none _ 0 _)).symm
      simp only [hno] at hj; cases hj
    · rw [hno] at hj; cases hj
    · rw [hno] at hj; cases hj
  · unfold count
    rw [List.countP_eq_length.2 (fun i hi => ?_)]
    · simp
    · have : (Array.replicate l.toArray.size false).getD i false = false := by
        simp only [Array.getD_eq_getD_getElem?, Array.getElem?_replicate]
        split <;> rfl
      rw [this]; rfl

theorem walk_quiet {o : Oper} {r : List Oper} {i : Nat} {fs : Nat → World → Prop} {a : Act} {c : Value} (hw : Region.wanted o (yielded ops a.tmps) = true) (hl : loud i = false)
    (h1 : ∀ w', KeepsP (sx ops T i) w0 w' → (∀ j, j < i → av ops kills j i = true → fs j w') → Quiet P o a w' c) (h2 : walk P ops w0 loud F T kills Q r (i + 1) fs (a.put o.dst c)) : walk P ops w0 loud F T kills Q (o :: r) i fs a := by
  unfold walk
  rw [if_pos hw, if_neg (by rw [hl]; simp)]
  exact ⟨c, h1, h2⟩
theorem walk_skip {o : Oper} {r : List Oper} {i : Nat} {fs : Nat → World → Prop} {a : Act} (hw : Region.wanted o (yielded ops a.tmps) = false)
    (h2 : walk P ops w0 loud F T kills Q r (i + 1) fs (a.put o.dst undef)) : walk P ops w0 loud F T kills Q (o :: r) i fs a := by
  unfold walk
  rw [if_neg (by rw [hw]; simp)]
  exact h2
theorem walk_loud {o : Oper} {r : List Oper} {i : Nat} {fs : Nat → World → Prop} {a : Act} (hw : Region.wanted o (yielded ops a.tmps) = true) (hl : loud i = true)
    (h1 : ∀ w', KeepsP (sx ops T i) w0 w' → (∀ j, j < i → av ops kills j i = true → fs j w') → Loud P o a w' (fun v w'' => F i v w'' ∧ KeepsP (T i) w' w''))
    (h2 : ∀ v, walk P ops w0 loud F T kills Q r (i + 1) (fun j => if j = i then F i v else fs j) (a.put o.dst v)) : walk P ops w0 loud F T kills Q (o :: r) i fs a := by
  unfold walk
  rw [if_pos hw, if_pos hl]
  exact ⟨h1, h2⟩
theorem walk_nil {n : Nat} {fs : Nat → World → Prop} {a : Act} (h : ∀ w', KeepsP (sa T) w0 w' → (∀ j, j < n → unk ops kills j = true → fs j w') → Q a w') : walk P ops w0 loud F T kills Q [] n fs a := h
/-- `append` in such a region. -/
theorem loud_append {o : Oper} {a : Act} {w : World} {R : Value → World → Prop} (s x : Operand) (t : TypeId)
    (ho : o.op = .call { callee := .builtin .append, args := #[s, x], argTypes := #[t, t] }) (base : Nat) (e : TypeId) (i : TypeInfo) (z : Value) (size bytes : Nat) (ht : P.underlying t = some (.slice e)) (hi : P.info? e = some i) (hz : i.zero = some z)
    (hsize : i.size = size) (hby : i.bytes = bytes) (hzs : z.cells.size = size) (hsz : 0 < size) (v : Value) (n : Nat) (xs : List Value) (hs : a.eval s = v) (hown : w.ownsRow base e size v n xs)
    (v2 : Value) (m : Nat) (ys : List Value) (hx : a.eval x = v2) (hsl : Sl w size v2 m ys) (h1 : ∀ u ∈ ys, u.oneCell' = true) (h63 : n + m ≤ maxLen) (hbytes : (n + m) * bytes ≤ 140737488355328) (hbase : base ≤ w.heap.size)
    (h : ∀ v' w', w'.ownsRow base e size v' (n + m) (xs ++ ys) → w.grownBy w' v.ownBlock → R v' w') : Loud P o a w R := by
  obtain ⟨v', w', hr, h2, h3⟩ := run_append_sl (P := P) base t o.type e i z size bytes ht hi hz hsize hby hzs hsz v n xs hown v2 m ys hsl h1 h63 hbytes hbase
  unfold Loud execOp
  simp only [ho, resolve, invoke, builtin, Sem.run_bind, Sem.run_pure, Result.andThen_ok, List.map_toArray, List.map_cons, List.map_nil, hs, hx, hr]
  exact h v' w' h2 h3
attribute [go_sem] Quiet quietUpon Loud loudUpon

def plainCell : Value → Bool
  | .slice .. | .int .. | .bool .. | .pointer .. | .map .. | .string .. => true
  | _ => false
/-- The store of a struct of one cell. -/
theorem loud_store1 {o : Oper} {a : Act} {w : World} {R : Value → World → Prop} (t : TypeId) (x y : Operand) (ho : o.op = .store t x y) (hsz : ∀ w, (sizeOf t).run P w = .ok 1 w) (b f : Nat) (v old : Value)
    (hx : a.eval x = .pointer (some ⟨b, f, none⟩)) (hy : a.eval y = .agg #[v]) (h1 : plainCell v = true) (hc : w.cell? ⟨b, f, none⟩ = some old) (hf : w.frozen? ⟨b, f, none⟩ = false)
    (hR : R undef (w.setCell ⟨b, f, none⟩ v)) : Loud P o a w R := by
  unfold Loud execOp
  simp only [ho, hx, hy]
  cases v <;> first | (simp [plainCell] at h1; done) | (simp [go_sem, hc, hf, hsz]; exact hR)
attribute [irreducible] Loud Quiet walk
end
end Free
end Go.Proofs.Ytilmcdieihmiaaa

namespace Go.Proofs.Ytilmcdieihmiaaa
open Go.RowKit

theorem infoB : (Try.prog.info? 5).map (fun i => (i.zero, i.size, i.bytes)) = some (some (.int .u8 0), 1, 1) := by kernel_rfl
/-- The slice `v` reads as the bytes `l`, and is the call's own: it lies in a block from `base` on, at its head. -/
def Buf (w : World) (base : Nat) (v : Value) (l : List UInt8) : Prop := w.ownsRow base 5 1 v l.length (bys l)
theorem Buf.slB {w : World} {base : Nat} {v : Value} {l : List UInt8} (h : Buf w base v l) : SlB w v l := Sl.of_owns h
theorem Buf.nil (w : World) (base : Nat) : Buf w base (.slice none 0 0) [] := World.ownsRow_nil _ _ _ _
theorem Buf.form {w : World} {base : Nat} {v : Value} {l : List UInt8} (h : Buf w base v l) : ∃ a cap, v = .slice a l.length cap := h.slB.form
theorem Buf.of {w : World} {base n : Nat} {v : Value} {l m : List UInt8} (h : w.ownsRow base 5 1 v n (bys l ++ bys m)) : Buf w base v (l ++ m) := by
  have h1 := h.1
  unfold Buf
  rw [bys_append]
  have : (l ++ m).length = n := by simpa using h1
  rw [this]
  exact h
theorem byte_of {x : Int} (h0 : 0 ≤ x) : Value.int .u8 (x % 256) = .int .u8 ((UInt8.ofNat x.toNat).toNat : Int) := by
  congr 1; simp; omega

theorem wpl_pushB {ops : Array Oper} {rest : List Oper} {o : Oper} {a : Act} {Q : Exit → Act → World → Prop} (w : World) (base : Nat) (v : Value) (l : List UInt8) (x : Int) (hg : o.guard = none) (s t : Operand)
    (ho : o.op = .call { callee := .builtin .append, args := #[s, t], argTypes := #[23, 23] }) (hs : a.eval s = v) (ht : a.eval t = .slice (some ⟨w.heap.size, 0, none⟩) 1 1)
    (h : Buf w base v l) (b : UInt8) (hb : x = (b.toNat : Int)) (hl : l.length ≤ 140737488355300) (hbase : base ≤ w.heap.size)
    (K : ∀ v' w', Buf w' base v' (l ++ [b]) → Grw w w' v v' → wpList Try.prog ops Q rest (a.put o.dst v') w') : wpList Try.prog ops Q (o :: rest) a (w.alloc (.cells #[.int .u8 x] 5)) := by
  obtain ⟨i0, hi, hz0, hz1, hz2⟩ := info_parts infoB
  subst hb
  refine wpl_append_x hg s t _ ho base 5 i0 (.int .u8 0) 1 1 Try.underlying23 hi hz0 hz1 hz2 rfl (by decide) v l.length (bys l) hs (h.alloc _) _ 1 (bys [b]) ht (SlB.one w b _) (bys_one _) (by unfold maxLen; omega) (by omega) (by simp; omega) ?_
  intro v' w' h1 h2 _
  exact K v' w' (Buf.of h1) h2.alloc_left

theorem shr_byte (n k : Nat) : (n : Int) / 2 ^ (8 * k) % 256 = ((UInt8.ofNat (n / 256 ^ k % 256)).toNat : Int) := by
  have e : (256 : Nat) ^ k = 2 ^ (8 * k) := by rw [Nat.pow_mul]
  rw [e]
  simp
  
set_option maxRecDepth 100000 in
set_option maxHeartbeats 1000000 in
theorem appU_c (w : World) (base : Nat) (v0 : Value) (l : List UInt8) (n : Nat) (h : Buf w base v0 l) (hn : n < 18446744073709551616) (hl : l.length ≤ 140737488355000) (hb : base ≤ w.heap.size) :
    Calls Try.prog 53 #[v0, .int .u64 n] w fun e w' => ∃ v', e = .returned v' ∧ Buf w' base v' (l ++ encU n) ∧ Grw w w' v0 v' := by
  obtain ⟨i0, hi, hz0, hz1, hz2⟩ := info_parts infoB
  obtain ⟨K, hK⟩ : ∃ K, K = (digs n).length := ⟨_, rfl⟩
  have hK8 : K ≤ 8 := by rw [hK]; exact digs_len8 hn
  replace hK := Lib.hid hK
  go_enter Try.func53, Try.ntmps53
  go_wp2
  go_loop [5, 6] (fun k r => ∃ (j : Nat) (x : Nat), j ≤ K ∧ x < 18446744073709551616 ∧ k = .int .i64 j ∧ r = .int .u64 x ∧ Hid (j + (digs x).length = K)) (fun _ r => (intOf r).toNat)
  case atStart => exact ⟨0, n, by omega, hn, rfl, rfl, by show _ = _; rw [hK.out]; simp⟩
  case round =>
    obtain ⟨j, x, hj, hx, rfl, rfl, hjx⟩ := hrel
    by_cases hp : 0 < x
    · have hd := digs_len_pos hp
      have hj2 : Hid (j + 1 + (digs (x / 256)).length = K) := by have := hjx.out; show _ = _; omega
      have hj3 : j + 1 ≤ K := by have := hj2.out; omega
      clear hd hjx
      go_wp2
      go_round
      case rel => exact ⟨j + 1, x / 256, hj3, by omega, by go_num, by go_num, hj2⟩
      case measure => simp [intOf]; omega
    · have hx0 : x = 0 := by omega
      have hjK : j = K := by have := hjx.out; rw [hx0, digs_zero] at this; simpa using this
      subst hjK
      have h0 := h
      obtain ⟨a0, c0, rfl⟩ := h.form
      replace h0 := Lib.hid h0
      clear h hjx hx0
      go_wp2_with (at_builtin; (refine wpl_pushB _ base _ l _ rfl _ _ rfl rfl rfl h0.out (UInt8.ofNat j) (by simp; omega) (by omega) hb ?_; intro v1 w1 hB1 hG1))
      go_loopw [0, 7] (fun v i wr => ∃ (m : Nat) (L : List UInt8), m ≤ j ∧ i = .int .i64 ((j : Int) - 1 - m) ∧ Hid (L = l ++ [UInt8.ofNat j] ++ (digs n).take m) ∧ Buf wr base v L ∧ Grw w wr (.slice a0 l.length c0) v) (fun _ i _ => (intOf i + 1).toNat)
      case atStart => exact ⟨0, _, by omega, by simp, by show _ = _; simp, hB1, hG1⟩
      case round =>
        obtain ⟨m, L, hm, rfl, hL, hB, hG⟩ := hrel
        obtain ⟨am, cm, rfl⟩ := hB.form
        clear hB1 hG1
        have hsz := hG.grown.size
        have hlen : L.length ≤ 140737488355300 := by
          rw [hL.out]; simp only [List.length_append, List.length_take, List.length_cons, List.length_nil]; omega
        replace hB := Lib.hid hB
        replace hG := Lib.hid hG
        by_cases hmj : m < j
        · have hdg := digs_get j n (j - 1 - m) hK.out.symm (by omega)
          have hdg2 : Hid ((digs n)[m]? = some (UInt8.ofNat (n / 256 ^ (j - 1 - m) % 256))) := by rw [show j - 1 - (j - 1 - m) = m by omega] at hdg; exact hdg
          clear hdg
          go_wp2_with (at_builtin; (refine wpl_pushB _ base _ _ _ rfl _ _ rfl rfl rfl hB.out (UInt8.ofNat (n / 256 ^ (j - 1 - m) % 256)) (shr_byte _ _) hlen (by omega) ?_; intro v2 w2 hB2 hG2))
          go_roundw
          case rel => exact ⟨m + 1, _, by omega, by go_num, by show _ = _; rw [hL.out, List.take_add_one, hdg2.out]; simp, hB2, hG.out.trans hG2⟩
          case measure => simp [intOf]; omega
        · have hmj : m = j := by omega
          have hfin : Hid (L = l ++ encU n) := by
            show _ = _
            rw [hL.out, hmj]; unfold encU; rw [← hK.out, List.take_of_length_le (by rw [← hK.out]; omega)]; simp
          clear hL
          go_wp2
          go_ret
          exact ⟨_, rfl, by rw [← hfin.out]; exact hB.out, hG.out⟩

/-- `append(v, v2...)` of bytes, `v` the call's own. -/
theorem wpl_appB {ops : Array Oper} {rest : List Oper} {o : Oper} {a : Act} {Q : Exit → Act → World → Prop} (w : World) (base : Nat) (v : Value) (l : List UInt8) (hg : o.guard = none) (s t : Operand)
    (ho : o.op = .call { callee := .builtin .append, args := #[s, t], argTypes := #[23, 23] }) (hs : a.eval s = v) (v2 : Value) (m : List UInt8) (ht : a.eval t = v2)
    (h : Buf w base v l) (h2 : SlB w v2 m) (hl : l.length + m.length ≤ 140737488355328) (hbase : base ≤ w.heap.size)
    (K : ∀ v' w', Buf w' base v' (l ++ m) → Grw w w' v v' → wpList Try.prog ops Q rest (a.put o.dst v') w') : wpList Try.prog ops Q (o :: rest) a w := by
  obtain ⟨i0, hi, hz0, hz1, hz2⟩ := info_parts infoB
  refine wpl_append_x hg s t _ ho base 5 i0 (.int .u8 0) 1 1 Try.underlying23 hi hz0 hz1 hz2 rfl (by decide) v l.length (bys l) hs h _ m.length (bys m) ht h2 (bys_one _) (by unfold maxLen; omega) (by omega) hbase ?_
  intro v' w' h1 h2 _
  exact K v' w' (Buf.of h1) h2
theorem Buf.fresh (w : World) : Buf (w.alloc (.cells #[] 5)) w.heap.size (.slice (some ⟨w.heap.size, 0, none⟩) 0 0) [] := ownsRow_empty w _ _ _ (Nat.le_refl _)
theorem Buf.one (w : World) (b : UInt8) {x : Int} (hx : x = (b.toNat : Int)) : Buf (w.alloc (.cells #[.int .u8 x] 5)) w.heap.size (.slice (some ⟨w.heap.size, 0, none⟩) 1 1) [b] := by
  subst hx
  exact ⟨rfl, .inr ⟨_, 1, _, rfl, Nat.le_refl _, heap_alloc_new _ _, Nat.le_refl _, by simp [maxLen], rfl, rfl⟩⟩
theorem Buf.keep {w w' : World} {base : Nat} {v : Value} {l : List UInt8} (h : Buf w base v l) (hk : Keeps [] w w') : Buf w' base v l := ownsRow_block h (fun b _ hb => hk.block b hb (by simp))
theorem SlB.cap {w : World} {v : Value} {l : List UInt8} (h : SlB w v l) : l.length ≤ maxLen := by obtain ⟨_, a, c, rfl, h1, h2, _⟩ := h; omega

set_option maxRecDepth 100000 in
set_option maxHeartbeats 1000000 in
theorem clone_c (f : Nat) (hf : f = 37 ∨ f = 64) (w : World) (v0 : Value) (l : List UInt8) (h : SlB w v0 l) (hl : l.length ≤ 140737488355328) :
    Calls Try.prog f #[v0] w fun e w' => ∃ v', e = .returned v' ∧ Buf w' w.heap.size v' l ∧ Keeps [] w w' := by
  have q22 : ∀ (w : World) (a : Option Addr) (n c n' c' : Nat), (binOp .eql 23 (.slice a n c) (.slice none n' c')).run Try.prog w = .ok (.bool a.isNone) w := fun w a n c n' c' => Lib.run_eql_slice_nil w _ _ a n c n' c' Try.underlying23
  obtain ⟨a0, c0, rfl⟩ := h.form
  cases a0 with
  | none =>
    have hl0 : l = [] := by
      rcases h.cases with ⟨e, _⟩ | ⟨g, o, cap, e, _⟩
      · exact e
      · cases e
    subst hl0
    replace h := Lib.hid h
    rcases hf with rfl | rfl
    all_goals
      first | go_enter Try.func37, Try.ntmps37 | go_enter Try.func64, Try.ntmps64
      go_wp2
      go_ret
      exact ⟨_, rfl, Buf.nil _ _, Keeps.refl _ _⟩
  | some ad =>
    replace h := Lib.hid h
    rcases hf with rfl | rfl
    all_goals
      first | go_enter Try.func37, Try.ntmps37 | go_enter Try.func64, Try.ntmps64
      go_wp2_with (at_builtin; (refine wpl_appB _ w.heap.size (.slice (some ⟨w.heap.size, 0, none⟩) 0 0) [] rfl _ _ rfl rfl _ l rfl (Buf.fresh w) (h.out.keeps ((Keeps.refl [] w).alloc _)) (by simp; omega) (by simp) ?_; intro v1 w1 hB1 hG1))
      go_ret
      exact ⟨_, rfl, hB1, hG1.keeps ((Keeps.refl [] w).alloc _) (by simp [Value.ownBlock])⟩

/-- Bytes as a string. -/
def str (l : List UInt8) : ByteArray := ⟨l.toArray⟩
theorem run_str {w : World} {v : Value} {l : List UInt8} (h : SlB w v l) : (convert 23 9 v).run Try.prog w = .ok (.string (str l)) w := by
  rcases h.cases with ⟨rfl, a, c, rfl, _, _⟩ | ⟨g, o, c, rfl, _, _, _, _, hc⟩
  · cases a with
    | none => exact run_convert_bytes_nil w _ _ Try.underlying23 Try.underlying5 _ _ _ Try.underlying9
    | some a =>
      have := run_convert_bytes_arg (P := Try.prog) w 23 5 Try.underlying23 Try.underlying5 a.block a.off 0 c [] rfl (fun i hi => by omega) 9 Try.underlying9
      rw [run_convert_bytes_string w _ _ 5 _ _ _ Try.underlying23 Try.underlying5 Try.underlying9] at this ⊢
      simp [Conv.bytesToString, loadCells, loadCellsFrom] at this ⊢
      rfl
  · have := run_convert_bytes_arg (P := Try.prog) w 23 5 Try.underlying23 Try.underlying5 g o l.length c (l.map fun b => (b.toNat : Int)) (by simp) (fun i hi => by rw [hc i hi]; simp [hi]) 9 Try.underlying9
    rw [this]
    simp [strOfNums, str, Function.comp_def]
theorem str_inj {l m : List UInt8} (h : str l = str m) : l = m := by simpa [str] using h

set_option maxRecDepth 100000 in
set_option maxHeartbeats 1000000 in
theorem same_c (w : World) (va vb : Value) (l m : List UInt8) (ha : SlB w va l) (hb : SlB w vb m) :
    Calls Try.prog 34 #[va, vb] w fun e w' => e = .returned (.bool (decide (l = m))) ∧ w = w' := by
  have h1 := run_str ha
  have h2 := run_str hb
  obtain ⟨a0, c0, rfl⟩ := ha.form
  obtain ⟨a1, c1, rfl⟩ := hb.form
  clear ha hb
  generalize hx : str l = x at *
  generalize hy : str m = y at *
  replace hx := Lib.hid hx
  replace hy := Lib.hid hy
  go_enter Try.func34, Try.ntmps34
  go_wp2
  go_ret
  refine ⟨?_, rfl⟩
  show Ending.returned (Value.bool (x.toList == y.toList)) = _
  rw [← hx.out, ← hy.out]
  have : (l == m) = decide (l = m) := by rw [Bool.eq_iff_iff]; simp
  simp [str, this]
end Go.Proofs.Ytilmcdieihmiaaa

namespace Go.Proofs.Ytilmcdieihmiaaa
open Go.RowKit

theorem Buf.mono {w : World} {b b' : Nat} {v : Value} {l : List UInt8} (h : Buf w b v l) (hb : b' ≤ b) : Buf w b' v l := by
  refine ⟨h.1, ?_⟩
  rcases h.2 with hn | ⟨g, cap, cur, rfl, hg, rest⟩
  · exact .inl hn
  · exact .inr ⟨g, cap, cur, rfl, by omega, rest⟩
set_option maxRecDepth 100000 in
set_option maxHeartbeats 2000000 in
theorem refU_c (w : World) (v0 : Value) (l : List UInt8) (n : Nat) (h : SlB w v0 l) (hn : n < 18446744073709551616) (hl : l.length ≤ 140737488355000) :
    Calls Try.prog 49 #[v0, .int .u64 n] w fun e w' => ∃ v', e = .returned v' ∧ Buf w' w.heap.size v' (l ++ encU n) ∧ Keeps [] w w' := by
  obtain ⟨a0, c0, rfl⟩ := h.form
  replace h := Lib.hid h
  go_enter Try.func49, Try.ntmps49
  go_wp2_with fail
  go_loopw [1, 5] (fun n' d wr => ∃ (m : Nat) (L : List UInt8), m ≤ n ∧ n' = .int .u64 m ∧ Hid (digs n = digs m ++ L) ∧ Buf wr w.heap.size d L ∧ Keeps [] w wr) (fun n' _ _ => (intOf n').toNat)
  case atStart => exact ⟨n, [], by omega, rfl, by show _ = _; simp, Buf.fresh w, (Keeps.refl [] w).alloc _⟩
  case round =>
    obtain ⟨m, L, hm, rfl, hL, hB, hk⟩ := hrel
    obtain ⟨aL, cL, rfl⟩ := hB.form
    have hsz := hk.size
    have hLl : L.length ≤ 8 := by
      have h1 := congrArg List.length hL.out
      have h2 := digs_len8 (n := n) (by omega)
      simp at h1; omega
    replace hB := Lib.hid hB
    replace hk := Lib.hid hk
    by_cases hp : 0 < m
    · have hd : Hid (digs n = digs (m / 256) ++ (UInt8.ofNat (m % 256) :: L)) := by show _ = _; rw [hL.out, digs_pos hp]; simp
      clear hL
      go_wp2_with (at_builtin; (refine wpl_appB _ w.heap.size (.slice (some ⟨_, 0, none⟩) 1 1) [UInt8.ofNat (m % 256)] rfl _ _ rfl rfl _ L rfl ((Buf.one _ (UInt8.ofNat (m % 256)) (by simp)).mono (by omega)) (hB.out.slB.keeps ((Keeps.refl [] _).alloc _)) (by simp; omega) (by simp; omega) ?_; intro v2 w2 hB2 hG2))
      go_roundw
      case rel => exact ⟨m / 256, _, by omega, by go_num, hd, hB2, hG2.keeps (hk.out.alloc _) (by simp [Value.ownBlock]; omega)⟩
      case measure => simp [intOf]; omega
    · have hm0 : m = 0 := by omega
      have hdL : Hid (digs n = L) := by show _ = _; rw [hL.out, hm0, digs_zero]; simp
      clear hL hm
      subst hm0
      go_wp2_with (first
        | (at_builtin; (refine wpl_appB _ wr.heap.size (.slice (some ⟨wr.heap.size, 0, none⟩) 0 0) [] rfl (.tmp 17) (.tmp 18) rfl rfl _ l rfl (Buf.fresh wr) ((h.out.keeps hk.out).keeps ((Keeps.refl [] _).alloc _)) (by simp; omega) (by simp) ?_; intro v2 w2 hB2 hG2; have hkk2 := Lib.hid (hG2.keeps ((Keeps.refl [] wr).alloc _) (by simp [Value.ownBlock])); have hB2' := Lib.hid hB2; clear hB2 hG2))
        | (at_builtin; (refine wpl_pushB _ wr.heap.size v2 _ _ rfl (.tmp 19) (.tmp 23) rfl rfl rfl hB2'.out (UInt8.ofNat L.length) (by simp; omega) (by simp; omega) (by have := hkk2.out.size; omega) ?_; intro v3 w3 hB3 hG3; have hkk3 := Lib.hid (hG3.keeps hkk2.out (fun b hb => ownBlock_ge hB2'.out b hb)); have hB3' := Lib.hid hB3; clear hB3 hG3))
        | (at_builtin; (refine wpl_appB _ wr.heap.size v3 _ rfl (.tmp 24) (.tmp 25) rfl rfl _ L rfl hB3'.out (hB.out.slB.keeps hkk3.out) (by simp; omega) (by have := hkk3.out.size; omega) ?_; intro v4 w4 hB4 hG4; have hkk4 := Lib.hid (hG4.keeps hkk3.out (fun b hb => ownBlock_ge hB3'.out b hb)); have hB4' := Lib.hid hB4; clear hB4 hG4)))
      go_ret
      refine ⟨_, rfl, ?_, hk.out.trans hkk4.out⟩
      have := hB4'.out.mono hsz
      rw [← hdL.out] at this
      simpa [encU] using this
end Go.Proofs.Ytilmcdieihmiaaa

namespace Go.Proofs.Ytilmcdieihmiaaa
open Go.RowKit

set_option maxRecDepth 100000 in
set_option maxHeartbeats 2000000 in
theorem data_c (w : World) (v0 : Value) (l : List UInt8) (n : Nat) (h : SlB w v0 l) (hn : n < 9223372036854775808) (hl : l.length ≤ 140737488355000) :
    Calls Try.prog 38 #[.int .i64 n, v0] w fun e w' => ∃ v', e = .returned v' ∧ Buf w' w.heap.size v' (dataB n l) ∧ Keeps [] w w' := by
  obtain ⟨a0, c0, rfl⟩ := h.form
  replace h := Lib.hid h
  go_enter Try.func38, Try.ntmps38
  go_wp2_with fail
  refine (appU_c _ w.heap.size _ [1] n (Buf.one w 1 rfl) (by omega) (by simp) (by simp)).mono ?_
  rintro e w1 ⟨v1, rfl, hB1, hG1⟩
  have hk1 : Keeps [] w w1 := hG1.keeps ((Keeps.refl [] w).alloc _) (by simp [Value.ownBlock])
  have hlen := encU_len (n := n) (by omega)
  obtain ⟨a1, c1, rfl⟩ := hB1.form
  have hsz := hk1.size
  replace hB1 := Lib.hid hB1
  replace hk1 := Lib.hid hk1
  clear hG1
  go_wp2_with (at_builtin; (refine wpl_appB _ w.heap.size _ _ rfl _ _ rfl rfl _ l rfl hB1.out (h.out.keeps hk1.out) (by simp; omega) (by omega) ?_; intro v2 w2 hB2 hG2))
  go_ret
  exact ⟨_, rfl, hB2, hG2.keeps hk1.out (fun b hb => ownBlock_ge hB1.out b hb)⟩

set_option maxRecDepth 100000 in
set_option maxHeartbeats 2000000 in
theorem ack_c (w : World) (bc : Nat) (n : Nat) (h : w.cell? ⟨bc, 2, none⟩ = some (.int .i64 n)) (hn : n < 9223372036854775808) :
    Calls Try.prog 47 #[.pointer (some ⟨bc, 0, none⟩)] w fun e w' => ∃ v', e = .returned v' ∧ Buf w' w.heap.size v' (ackB n) ∧ Keeps [] w w' := by
  have hlt := lt_of_cell h
  go_enter Try.func47, Try.ntmps47
  go_wp2_with fail
  refine (appU_c _ w.heap.size _ [2] n (Buf.one w 2 rfl) (by omega) (by simp) (by simp)).mono ?_
  rintro e w1 ⟨v1, rfl, hB1, hG1⟩
  have hk1 : Keeps [] w w1 := hG1.keeps ((Keeps.refl [] w).alloc _) (by simp [Value.ownBlock])
  replace hB1 := Lib.hid hB1
  replace hk1 := Lib.hid hk1
  clear hG1
  go_wp2
  go_ret
  exact ⟨_, rfl, hB1.out, hk1.out⟩

set_option maxRecDepth 100000 in
set_option maxHeartbeats 2000000 in
theorem dataR_c (w : World) (v0 : Value) (l : List UInt8) (n : Nat) (h : SlB w v0 l) (hn : n < 9223372036854775808) (hl : l.length ≤ 140737488355000) :
    Calls Try.prog 29 #[.int .i64 n, v0] w fun e w' => ∃ v', e = .returned v' ∧ Buf w' w.heap.size v' (dataB n l) ∧ Keeps [] w w' := by
  obtain ⟨a0, c0, rfl⟩ := h.form
  replace h := Lib.hid h
  go_enter Try.func29, Try.ntmps29
  go_wp2_with fail
  refine (refU_c _ _ [1] n (Buf.one w 1 rfl).slB (by omega) (by simp)).mono ?_
  rintro e w1 ⟨v1, rfl, hB1, hk01⟩
  have hk1 : Keeps [] w w1 := ((Keeps.refl [] w).alloc _).trans hk01
  have hlen := encU_len (n := n) (by omega)
  obtain ⟨a1, c1, rfl⟩ := hB1.form
  have hsz := hk1.size
  have hB1 := Lib.hid (hB1.mono (b' := w.heap.size) (by simp))
  replace hk1 := Lib.hid hk1
  clear hk01
  go_wp2_with (at_builtin; (refine wpl_appB _ w.heap.size _ _ rfl _ _ rfl rfl _ l rfl hB1.out (h.out.keeps hk1.out) (by simp; omega) (by omega) ?_; intro v2 w2 hB2 hG2))
  go_ret
  exact ⟨_, rfl, hB2, hG2.keeps hk1.out (fun b hb => ownBlock_ge hB1.out b hb)⟩

set_option maxRecDepth 100000 in
set_option maxHeartbeats 2000000 in
theorem ackR_c (w : World) (n : Nat) (hn : n < 9223372036854775808) :
    Calls Try.prog 30 #[.int .i64 n] w fun e w' => ∃ v', e = .returned v' ∧ Buf w' w.heap.size v' (ackB n) ∧ Keeps [] w w' := by
  go_enter Try.func30, Try.ntmps30
  go_wp2_with fail
  refine (refU_c _ _ [2] n (Buf.one w 2 rfl).slB (by omega) (by simp)).mono ?_
  rintro e w1 ⟨v1, rfl, hB1, hk01⟩
  have hk1 : Keeps [] w w1 := ((Keeps.refl [] w).alloc _).trans hk01
  have hB1 := Lib.hid (hB1.mono (b' := w.heap.size) (by simp))
  replace hk1 := Lib.hid hk1
  clear hk01
  go_wp2
  go_ret
  exact ⟨_, rfl, hB1.out, hk1.out⟩
end Go.Proofs.Ytilmcdieihmiaaa

namespace Go.Proofs.Ytilmcdieihmiaaa
open Go.RowKit

/-- What a number's encoding at the head of `l` gives: the number and the rest. -/
def readU : List UInt8 → Option (Nat × List UInt8)
  | [] => none
  | k :: t => if k.toNat ≤ 8 ∧ k.toNat ≤ t.length ∧ (0 < k.toNat → t.headD 1 ≠ 0) then some (valU (t.take k.toNat), t.drop k.toNat) else none
/-- The reader at block `br`: what is left is the slice `v`, which reads as `l`; its error is `e`. -/
def Rd (w : World) (br : Nat) (v : Value) (l : List UInt8) (e : Int) : Prop := w.heap[br]? = some (.cells #[v, .int .i64 e] 115 (0, 0)) ∧ SlB w v l

theorem cell2_of {w : World} {b : Nat} {u v : Value} {t : TypeId} (h : w.heap[b]? = some (.cells #[u, v] t (0, 0))) : w.cell? ⟨b, 0, none⟩ = some u ∧ w.cell? ⟨b, 1, none⟩ = some v ∧ w.frozen? ⟨b, 0, none⟩ = false ∧ w.frozen? ⟨b, 1, none⟩ = false ∧ b < w.heap.size := by
  refine ⟨by simp [World.cell?, h], by simp [World.cell?, h], by simp [World.frozen?, h], by simp [World.frozen?, h], (Array.getElem?_eq_some_iff.1 h).1⟩

set_option maxRecDepth 100000 in
set_option maxHeartbeats 1000000 in
theorem newReader_c (w : World) (v0 : Value) (l : List UInt8) (h : SlB w v0 l) (hl : l.length ≤ 140737488355328) :
    Calls Try.prog 39 #[v0] w fun e w' => ∃ br v', e = .returned (.pointer (some ⟨br, 0, none⟩)) ∧ w.heap.size ≤ br ∧ Rd w' br v' l 0 ∧ Keeps [] w w' := by
  obtain ⟨a0, c0, rfl⟩ := h.form
  replace h := Lib.hid h
  go_enter Try.func39, Try.ntmps39
  go_wp2_with fail
  refine (clone_c _ (.inr rfl) _ _ l h.out hl).mono ?_
  rintro e w1 ⟨v1, rfl, hB1, hk1⟩
  obtain ⟨a1, c1, rfl⟩ := hB1.form
  have hsz := hk1.size
  replace hB1 := Lib.hid hB1
  replace hk1 := Lib.hid hk1
  go_wp2
  go_ret
  refine ⟨w1.heap.size, .slice a1 l.length c1, rfl, hsz, ⟨heap_alloc_new _ _, (hB1.out.keep ((Keeps.refl [] w1).alloc _)).slB⟩, hk1.out.alloc _⟩

set_option maxRecDepth 100000 in
set_option maxHeartbeats 1000000 in
theorem left_c (w : World) (br : Nat) (v : Value) (l : List UInt8) (e : Int) (h : Rd w br v l e) :
    Calls Try.prog 41 #[.pointer (some ⟨br, 0, none⟩)] w fun e w' => e = .returned (.int .i64 l.length) ∧ w = w' := by
  obtain ⟨c0, c1, f0, f1, hlt⟩ := cell2_of h.1
  obtain ⟨a0, cap0, rfl⟩ := h.2.form
  clear h
  go_enter Try.func41, Try.ntmps41
  go_wp2
  go_ret
  exact ⟨rfl, rfl⟩

/-- The error of a reader at the end. -/
def doneE (l : List UInt8) (e : Int) : Int := if e = 0 ∧ l ≠ [] then 11 else e
set_option maxRecDepth 100000 in
set_option maxHeartbeats 1000000 in
theorem done_c (w : World) (br : Nat) (v : Value) (l : List UInt8) (e : Int) (h : Rd w br v l e) :
    Calls Try.prog 42 #[.pointer (some ⟨br, 0, none⟩)] w fun en w' => en = .returned (.int .i64 (doneE l e)) ∧ w = w' := by
  obtain ⟨c0, c1, f0, f1, hlt⟩ := cell2_of h.1
  obtain ⟨a0, cap0, rfl⟩ := h.2.form
  clear h
  by_cases he : e = 0
  · subst he
    by_cases hl : l = []
    · subst hl
      go_enter Try.func42, Try.ntmps42
      go_wp2
      go_ret
      exact ⟨by simp [doneE], rfl⟩
    · have hp : 0 < l.length := List.length_pos_iff.2 hl
      replace hl := Lib.hid hl
      go_enter Try.func42, Try.ntmps42
      go_wp2
      go_ret
      exact ⟨by simp [doneE, hl.out], rfl⟩
  · have he2 : (e == 0) = false := by simp [he]
    replace he := Lib.hid he
    go_enter Try.func42, Try.ntmps42
    go_wp2
    go_ret
    exact ⟨by simp [doneE, he.out], rfl⟩

theorem cell1_of {w : World} {b : Nat} {u : Value} {t : TypeId} (h : w.heap[b]? = some (.cells #[u] t (0, 0))) : w.cell? ⟨b, 0, none⟩ = some u ∧ w.frozen? ⟨b, 0, none⟩ = false ∧ b < w.heap.size := by
  refine ⟨by simp [World.cell?, h], by simp [World.frozen?, h], (Array.getElem?_eq_some_iff.1 h).1⟩

end Go.Proofs.Ytilmcdieihmiaaa

namespace Go.Proofs.Ytilmcdieihmiaaa
open Go.RowKit

set_option maxRecDepth 100000 in
set_option maxHeartbeats 2000000 in
theorem uint1_bad (w : World) (br b1 b2 : Nat) (v : Value) (l : List UInt8) (h : Rd w br v l 0) (h1 : w.cell? ⟨b1, 0, none⟩ = some (.pointer (some ⟨br, 0, none⟩))) (hr : readU l = none) :
    Calls Try.prog 66 #[.pointer (some ⟨b1, 0, none⟩), .pointer (some ⟨b2, 0, none⟩)] w fun en w' => en = .returned (.int .i64 11) ∧ Keeps [] w w' := by
  obtain ⟨c0, c1, f0, f1, hlt⟩ := cell2_of h.1
  rcases h.2.cases with ⟨rfl, a, cp, rfl, _, _⟩ | ⟨g, o, cp, rfl, hn, hm, hp, hg, hc⟩
  · clear h hr
    go_enter Try.func66, Try.ntmps66
    go_wp2
    (refine wp_region_quiet_lit (by kernel_rfl) (by kernel_rfl) ?_; (repeat (first | go_big_quiet_step (fail) | quiet_step (fail))); with_reducible refine wpQuiet_nil ?_; intro _ hw'; obtain ⟨nq, hw''⟩ := hw'; subst hw'')
    go_wp2
    go_ret
    exact ⟨rfl, (Keeps.refl _ _).drewN _⟩
  · obtain ⟨k, t, rfl⟩ : ∃ k t, l = k :: t := by cases l with | nil => simp at hp | cons k t => exact ⟨k, t, rfl⟩
    have k0 := hc 0 (by simp)
    have k1 : 0 < t.length → w.cell? ⟨g, o + 1, none⟩ = some (.int .u8 ((t.headD 1).toNat : Int)) := fun ht => by
      have := hc 1 (by simp; omega)
      rw [this]; cases t with | nil => simp at ht | cons a b => rfl
    simp only [Nat.add_zero, List.getElem_cons_zero] at k0
    clear hc h hp
    have hcond : ¬ (k.toNat ≤ 8 ∧ k.toNat ≤ t.length ∧ (0 < k.toNat → t.headD 1 ≠ 0)) := fun hh => by
      rw [readU, if_pos hh] at hr; cases hr
    clear hr
    have hk := k.toNat_lt
    simp only [List.length_cons] at *
    generalize (t.headD 1) = t0 at *
    generalize k.toNat = kk at *
    generalize t.length = N at *
    have hNN : (N : Int) + 1 ≤ 9223372036854775807 := by unfold maxLen at hm; omega
    by_cases h8 : kk ≤ 8
    · have d8 : decide ((8 : Int) < (kk : Int)) = false := by simp; omega
      by_cases hN : kk ≤ N
      · have dN : decide ((N : Int) + 1 ≤ (kk : Int)) = false := by simp; omega
        have hk0 : 0 < kk := by
          rcases Nat.eq_zero_or_pos kk with e | e
          · exact absurd ⟨h8, hN, fun h => by omega⟩ hcond
          · exact e
        have dk : (0 : Int) < (kk : Int) := by omega
        have ht0 : t0 = 0 := by
          rcases Classical.em (t0 = 0) with e | e
          · exact e
          · exact absurd ⟨h8, hN, fun _ => e⟩ hcond
        subst ht0
        have k1' := k1 (by omega)
        simp at k1'
        clear hcond k1
        go_enter Try.func66, Try.ntmps66
        go_wp2
        (refine wp_region_quiet_lit (by kernel_rfl) (by kernel_rfl) ?_; (repeat (first | go_big_quiet_step (fail) | quiet_step (fail))); with_reducible refine wpQuiet_nil ?_; intro _ hw'; obtain ⟨nq, hw''⟩ := hw'; subst hw'')
        go_wp2
        go_ret
        exact ⟨rfl, (Keeps.refl _ _).drewN _⟩
      · have dN : (N : Int) + 1 ≤ (kk : Int) := by omega
        clear hcond k1
        go_enter Try.func66, Try.ntmps66
        go_wp2
        (refine wp_region_quiet_lit (by kernel_rfl) (by kernel_rfl) ?_; (repeat (first | go_big_quiet_step (fail) | quiet_step (fail))); with_reducible refine wpQuiet_nil ?_; intro _ hw'; obtain ⟨nq, hw''⟩ := hw'; subst hw'')
        go_wp2
        go_ret
        exact ⟨rfl, (Keeps.refl _ _).drewN _⟩
    · have d8 : (8 : Int) < (kk : Int) := by omega
      clear hcond k1
      go_enter Try.func66, Try.ntmps66
      go_wp2
      (refine wp_region_quiet_lit (by kernel_rfl) (by kernel_rfl) ?_; (repeat (first | go_big_quiet_step (fail) | quiet_step (fail))); with_reducible refine wpQuiet_nil ?_; intro _ hw'; obtain ⟨nq, hw''⟩ := hw'; subst hw'')
      go_wp2
      go_ret
      exact ⟨rfl, (Keeps.refl _ _).drewN _⟩

end Go.Proofs.Ytilmcdieihmiaaa

namespace Go.Proofs.Ytilmcdieihmiaaa
open Go.RowKit

theorem set2_0 {w : World} {b : Nat} {u v : Value} {t : TypeId} (h : w.heap[b]? = some (.cells #[u, v] t (0, 0))) (u' : Value) : (w.setCell ⟨b, 0, none⟩ u').heap[b]? = some (.cells #[u', v] t (0, 0)) := by
  obtain ⟨hlt, hk⟩ := Array.getElem?_eq_some_iff.1 h
  simp [World.setCell, Array.getElem?_modify, h]
theorem set2_1 {w : World} {b : Nat} {u v : Value} {t : TypeId} (h : w.heap[b]? = some (.cells #[u, v] t (0, 0))) (v' : Value) : (w.setCell ⟨b, 1, none⟩ v').heap[b]? = some (.cells #[u, v'] t (0, 0)) := by
  obtain ⟨hlt, hk⟩ := Array.getElem?_eq_some_iff.1 h
  simp [World.setCell, Array.getElem?_modify, h]
/-- One byte more, as the machine reckons it. -/
theorem or_byte (x y : Nat) (hx : (x : Int) < 72057594037927936) (hy : (y : Int) ≤ 255) : bits .or .u64 ((x : Int) * 256) (y : Int) = ((x * 256 + y : Nat) : Int) := by
  have h := u64_or_nat (x * 256) y (by omega) (by omega)
  have h2 : x * 256 + y = x * 256 ||| y := by
    have := Nat.shiftLeft_add_eq_or_of_lt (i := 8) (b := y) (by omega) x
    simpa [Nat.shiftLeft_eq] using this
  rw [h2, ← h]; simp

theorem rd_nobyte {w : World} {br : Nat} {v : Value} {l : List UInt8} {e : Int} (h : Rd w br v l e) : ∀ o x, w.cell? ⟨br, o, none⟩ ≠ some (.int .u8 x) := by
  obtain ⟨a, c, rfl⟩ := h.2.form
  exact no_byte h.1 (by simp)
theorem rd_tail (w wr : World) (br b2 g o N cp : Nat) (k : UInt8) (t : List UInt8) (j : Nat) (h : Rd w br (.slice (some ⟨g, o, none⟩) (t.length + 1) cp) (k :: t) 0) (hk : Keeps [b2] w wr)
    (hb : wr.heap[b2]? = some (.cells #[.int .u64 (valU (t.take j))] 83 (0, 0))) (hb0 : w.heap[b2]? = some (.cells #[.int .u64 0] 83 (0, 0))) (hN : t.length = N) (hj : j ≤ N) (hbr : br ≠ b2) :
    (wr.setCell ⟨br, 0, none⟩ (.slice (if cp = 1 + j then some ⟨g, o, none⟩ else some ⟨g, o + (1 + j), none⟩) (N + 1 - (1 + j)) (cp - (1 + j)))).drew.heap[b2]? = some (.cells #[.int .u64 (valU (t.take j))] 83 (0, 0)) ∧
    (∃ v', Rd (wr.setCell ⟨br, 0, none⟩ (.slice (if cp = 1 + j then some ⟨g, o, none⟩ else some ⟨g, o + (1 + j), none⟩) (N + 1 - (1 + j)) (cp - (1 + j)))).drew br v' (t.drop j) 0) ∧
    Keeps [br, b2] w (wr.setCell ⟨br, 0, none⟩ (.slice (if cp = 1 + j then some ⟨g, o, none⟩ else some ⟨g, o + (1 + j), none⟩) (N + 1 - (1 + j)) (cp - (1 + j)))).drew := by
  subst hN
  obtain ⟨q0, _, _, _, hlt⟩ := cell2_of h.1
  have hbr' := (hk.block br hlt (by simp; omega)).trans h.1
  have htl := SlB.tail h.2 (1 + j) (by simp; omega)
  have hk2 : Keeps [br, b2] w wr := hk.mono (fun x hx => by simp at hx; simp [hx])
  have hkb : KB w wr := hk.kb (by intro b hb; simp at hb; subst hb; exact no_byte hb0 (by simp))
  refine ⟨?_, ⟨_, ⟨set2_0 hbr' _, ?_⟩⟩, (hk2.setCell (.inr (by simp)) _).drew⟩
  · exact (Below.heap_setCell _ _ _ _ (by simp; omega)).trans hb
  · simp only [List.length_cons, Nat.add_comm 1 j, List.drop_succ_cons] at htl ⊢
    exact htl.kb (hkb.trans ((KB.setCell wr _ (cell2_of hbr').1 (by simp)).trans (KB.drew _)))

set_option maxRecDepth 100000 in
set_option maxHeartbeats 2000000 in
theorem uint1_ok (w : World) (br b1 b2 : Nat) (v : Value) (l rest : List UInt8) (x : Nat) (h : Rd w br v l 0) (h1 : w.cell? ⟨b1, 0, none⟩ = some (.pointer (some ⟨br, 0, none⟩))) (h2 : w.heap[b2]? = some (.cells #[.int .u64 0] 83 (0, 0)))
    (hne : b1 ≠ b2 ∧ br ≠ b2) (hr : readU l = some (x, rest)) :
    Calls Try.prog 66 #[.pointer (some ⟨b1, 0, none⟩), .pointer (some ⟨b2, 0, none⟩)] w fun en w' => en = .returned (.int .i64 0) ∧ w'.heap[b2]? = some (.cells #[.int .u64 x] 83 (0, 0)) ∧ (∃ v', Rd w' br v' rest 0) ∧ Keeps [br, b2] w w' := by
  obtain ⟨c0, c1, f0, f1, hlt⟩ := cell2_of h.1
  obtain ⟨e0, fe0, hlt2⟩ := cell1_of h2
  rcases h.2.cases with ⟨rfl, a, cp, rfl, _, _⟩ | ⟨g, o, cp, rfl, hn, hm, hp, hg, hc⟩
  · cases hr
  · obtain ⟨k, t, rfl⟩ : ∃ k t, l = k :: t := by cases l with | nil => simp at hp | cons k t => exact ⟨k, t, rfl⟩
    have k0 := hc 0 (by simp)
    have hgb : g ≠ b2 := fun e => by subst e; exact no_byte h2 (by simp) _ _ k0
    have k1 : 0 < t.length → w.cell? ⟨g, o + 1, none⟩ = some (.int .u8 ((t.headD 1).toNat : Int)) := fun ht => by
      have := hc 1 (by simp; omega)
      rw [this]; cases t with | nil => simp at ht | cons a b => rfl
    have kj : ∀ j (hj : j < t.length), w.cell? ⟨g, o + 1 + j, none⟩ = some (.int .u8 (t[j].toNat : Int)) := fun j hj => by
      have := hc (j + 1) (by simp; omega)
      rw [show o + 1 + j = o + (j + 1) by omega, this]; rfl
    simp only [Nat.add_zero, List.getElem_cons_zero] at k0
    clear hc hp
    have hcond : k.toNat ≤ 8 ∧ k.toNat ≤ t.length ∧ (0 < k.toNat → t.headD 1 ≠ 0) := by
      rcases Classical.em (k.toNat ≤ 8 ∧ k.toNat ≤ t.length ∧ (0 < k.toNat → t.headD 1 ≠ 0)) with e | e
      · exact e
      · rw [readU, if_neg e] at hr; cases hr
    rw [readU, if_pos hcond] at hr
    simp only [Option.some.injEq, Prod.mk.injEq] at hr
    obtain ⟨h8, hN, ht0⟩ := hcond
    obtain ⟨hx, hrest⟩ := hr
    have hk : k.toNat ≤ 255 := by have := k.toNat_lt; omega
    have hh := Lib.hid h
    have hh2 := Lib.hid h2
    replace hx := Lib.hid hx
    replace hrest := Lib.hid hrest
    replace kj := Lib.hid kj
    clear h h2
    simp only [List.length_cons] at *
    obtain ⟨t0, htt0⟩ : ∃ t0, t.headD 1 = t0 := ⟨_, rfl⟩
    rw [htt0] at k1 ht0
    clear htt0
    obtain ⟨kk, hkk⟩ : ∃ kk, k.toNat = kk := ⟨_, rfl⟩
    rw [hkk] at k0 h8 hN ht0 hk hx hrest
    clear hkk
    obtain ⟨N, hNt⟩ : ∃ N, t.length = N := ⟨_, rfl⟩
    rw [hNt] at hN k1 hn c0
    replace hNt := Lib.hid hNt
    have hNN : (N : Int) + 1 ≤ 9223372036854775807 := by unfold maxLen at hm; omega
    have d8 : decide ((8 : Int) < (kk : Int)) = false := by simp; omega
    have nz : ((N : Int) + 1 == 0) = false := by simp; omega
    have wk : IntKind.i64.wrap (kk : Int) = kk := IntWalk.i64_in _ (by omega)
    have dN : decide ((N : Int) + 1 ≤ (kk : Int)) = false := by simp; omega
    have hfacts : (∃ _ : (0 : Int) < (kk : Int), 0 < kk ∧ w.cell? ⟨g, o + 1, none⟩ = some (.int .u8 (t0.toNat : Int)) ∧ ((t0.toNat : Int) == 0) = false) ∨ (decide ((0 : Int) < (kk : Int)) = false ∧ decide (0 < kk) = false) := by
      by_cases hk0 : 0 < kk
      · refine .inl ⟨by omega, hk0, k1 (by omega), ?_⟩
        have := ht0 hk0
        have h9 : t0.toNat ≠ 0 := fun e => this (UInt8.toNat_inj.1 (by simpa using e))
        simp; omega
      · exact .inr ⟨by simp; omega, by simp; omega⟩
    clear ht0 k1
    have hcp : 1 < cp ∨ (cp = 1 ∧ N = 0 ∧ kk = 0) := by omega
    rcases hcp with hcp | ⟨hcp1, hcp2, hcp3⟩
    · rcases hfacts with ⟨dk, hk0, k1', t0n⟩ | ⟨dk, dk2⟩
      all_goals
        go_enter Try.func66, Try.ntmps66
        go_wp2
        (refine wp_region_quiet_lit (by kernel_rfl) (by kernel_rfl) ?_; (repeat (first | go_big_quiet_step (fail) | quiet_step (fail))); with_reducible refine wpQuiet_nil ?_; intro _ hw'; obtain ⟨nq, hw''⟩ := hw'; subst hw'')
        go_wp2
        go_loopw [5, 69] (fun _ i wr => ∃ j : Nat, j ≤ kk ∧ i = .int .i64 j ∧ wr.heap[b2]? = some (.cells #[.int .u64 (valU (t.take j))] 83 (0, 0)) ∧ Keeps [b2] w wr) (fun _ i _ => kk - (intOf i).toNat)
        case atStart => exact ⟨0, by omega, rfl, hh2.out, (Keeps.refl _ w).drewN _⟩
        case round =>
          obtain ⟨j, hj, rfl, hb2, hkw⟩ := hrel
          obtain ⟨eb, fb, lb⟩ := cell1_of hb2
          have q0 := (hkw.cell br 0 hlt (by simp; omega)).trans c0
          have q1 := (hkw.frozen br 0 hlt (by simp; omega)).trans f0
          have q2 := (hkw.cell b1 0 (lt_of_cell h1) (by simp; omega)).trans h1
          have hvl := valU_lt j (t.take j) (by rw [List.length_take]; have := hNt.out; omega)
          by_cases hlt3 : j < kk
          · have hjt : j < t.length := by have := hNt.out; omega
            have hcj := (hkw.cell g (o + 1 + j) hg (by simp; omega)).trans (kj.out j hjt)
            have hb8 : (t[j].toNat : Int) ≤ 255 := by have := t[j].toNat_lt; omega
            have hstep : Hid (valU (t.take (j + 1)) = valU (t.take j) * 256 + t[j].toNat) := by show _ = _; rw [List.take_succ_eq_append_getElem hjt, valU_snoc]
            have hvb : (valU (t.take j) : Int) < 72057594037927936 := by
              have : (256 : Nat) ^ j ≤ 256 ^ 7 := Nat.pow_le_pow_right (by omega) (by omega)
              omega
            clear hvl
            generalize t[j].toNat = y at *
            generalize hvv : valU (t.take j) = vv at *
            replace hb2 := Lib.hid hb2
            replace hkw := Lib.hid hkw
            replace hvv := Lib.hid hvv
            go_wp2
            go_roundw
            case rel => exact ⟨j + 1, by omega, by go_num, by rw [or_byte _ _ hvb hb8, hstep.out]; exact one_setCell hb2.out, hkw.out.setCell (.inr (by simp)) _⟩
            case measure => simp [intOf]; omega
          · have hjk : j = kk := by omega
            subst hjk
            replace hb2 := Lib.hid hb2
            replace hkw := Lib.hid hkw
            clear hvl
            go_wp2
            go_region
            have hfin := rd_tail w wr br b2 g o N cp k t j hh.out hkw.out hb2.out hh2.out hNt.out hN (by omega)
            rw [hx.out, hrest.out] at hfin
            generalize hW : (wr.setCell ⟨br, 0, none⟩ (.slice (if cp = 1 + j then some ⟨g, o, none⟩ else some ⟨g, o + (1 + j), none⟩) (N + 1 - (1 + j)) (cp - (1 + j)))).drew = W at *
            replace hfin := Lib.hid hfin
            clear hW
            (repeat go_step)
            go_ret
            exact ⟨rfl, hfin.out⟩
    · clear hfacts
      subst hcp1 hcp2 hcp3
      have k0' : w.cell? ⟨g, o, none⟩ = some (.int .u8 0) := by simpa using k0
      simp only [Nat.zero_add] at c0
      have c0' : w.cell? ⟨br, 0, none⟩ = some (.slice (some ⟨g, o, none⟩) 1 1) := c0
      clear hk h8 k0 d8 dN wk c0 nz hm hn hN hNN
      go_enter Try.func66, Try.ntmps66
      go_wp2
      (refine wp_region_quiet_lit (by kernel_rfl) (by kernel_rfl) ?_; (repeat (first | go_big_quiet_step (fail) | quiet_step (fail))); with_reducible refine wpQuiet_nil ?_; intro _ hw'; obtain ⟨nq, hw''⟩ := hw'; subst hw'')
      go_wp2
      go_loopw [5, 69] (fun _ i wr => i = .int .i64 0 ∧ ∃ n, wr = w.drewN n) (fun _ i _ => 0)
      case atStart => exact ⟨rfl, _, rfl⟩
      case round =>
        obtain ⟨rfl, n, rfl⟩ := hrel
        have hkw : Keeps [b2] w (w.drewN n) := (Keeps.refl _ w).drewN n
        have hfin := rd_tail w (w.drewN n) br b2 g o 0 1 k t 0 hh.out hkw (by simpa [valU] using hh2.out) hh2.out hNt.out (by omega) hne.2
        rw [hx.out, hrest.out] at hfin
        simp only [Nat.add_zero, if_true, Nat.zero_add, Nat.sub_self] at hfin
        clear hkw
        replace hfin := Lib.hid hfin
        go_wp2
        go_region
        (repeat go_step)
        go_ret
        exact ⟨rfl, hfin.out⟩
end Go.Proofs.Ytilmcdieihmiaaa
