/- Texts that the laws lean on, in the order in which they build. A region that draws its order, parted in two by which of two operations comes first; each part is a chain. Of whatever program. The chapter's example holds. Sequences of operations on an end and on the model. Byte slices, and lists of byte slices, among a law's arguments, opened. The operations among a law's arguments, opened. Two facts on the program that every law's statement asks for. A run of operations on a new end and on the model. A datagram that comes a second time gives nothing and changes nothing: the plain law. The walk of the law on a second receipt. -/
import Derived.Test.YtilmcdieihmiaaaK5
import Derived.Lib.SlBytesConst
import Derived.Deep.Matrix
set_option linter.unusedVariables false
set_option linter.unusedSimpArgs false
namespace Go.Proofs.Ytilmcdieihmiaaa
namespace Free
open Go Go.RowKit

/-- What stays of an operation if only its edges, and the numbers of operations, are changed. -/
structure Like (o o' : Oper) : Prop where
  op : o'.op = o.op
  dst : o'.dst = o.dst
  type : o'.type = o.type
theorem Like.refl (o : Oper) : Like o o := ⟨rfl, rfl, rfl⟩
theorem Like.wp {P : Program} {o o' : Oper} (h : Like o o') {a : Act} {w : World} {K : Act → World → Prop} {Q : Exit → Act → World → Prop} (hw : o'.wp P a w K Q) : o.wp P a w K Q := by
  obtain ⟨d, op, t, p, af, g⟩ := o
  obtain ⟨d', op', t', p', af', g'⟩ := o'
  obtain ⟨h1, h2, h3⟩ := h
  simp only at h1 h2 h3
  subst h1 h2 h3
  exact hw
theorem Like.asks {P : Program} {o o' : Oper} (h : Like o o') {a : Act} {w : World} (hw : o'.asks P a w) : o.asks P a w := by
  obtain ⟨d, op, t, p, af, g⟩ := o
  obtain ⟨d', op', t', p', af', g'⟩ := o'
  obtain ⟨h1, h2, h3⟩ := h
  simp only at h1 h2 h3
  subst h1 h2 h3
  exact hw
variable {P : Program} {Q : Exit → Act → World → Prop}
theorem wpOp_like {ops ops' : Array Oper} {i i' : Nat} {o o' : Oper} {K : Act → World → Prop} {a : Act} {w : World} (ho : ops[i]? = some o) (ho' : ops'[i']? = some o') (hl : Like o o') (hw : Region.wanted o' (yielded ops' a.tmps) = Region.wanted o (yielded ops a.tmps))
    (h : wpOp P ops' Q i' K a w) : wpOp P ops Q i K a w := by
  unfold wpOp at *
  rw [ho]
  rw [ho'] at h
  simp only at h ⊢
  rw [hw, hl.dst] at h
  split
  · rename_i hh
    rw [if_pos hh] at h
    rcases h with h | ⟨h1, h2⟩
    · exact .inl (hl.wp h)
    · exact .inr ⟨hl.asks h1, h2⟩
  · rename_i hh
    rw [if_neg hh] at h
    exact h
/-- The operations of a region under other numbers. -/
structure Ren (ops ops' : Array Oper) (p : Nat → Nat) : Prop where
  size : ops'.size = ops.size
  lt : ∀ i, p i < ops.size ↔ i < ops.size
  inj : ∀ i j, p i = p j → i = j
  sur : ∀ j, ∃ i, p i = j
  like : ∀ i o, ops[i]? = some o → ∃ o', ops'[p i]? = some o' ∧ Like o o' ∧ ∀ tmps, Region.wanted o' (yielded ops' tmps) = Region.wanted o (yielded ops tmps)
def RelL (n : Nat) (p : Nat → Nat) (L L' : Array Bool) : Prop := L.size = n ∧ L'.size = n ∧ ∀ i, L'.getD (p i) false = L.getD i false
theorem RelL.set {n : Nat} {p : Nat → Nat} {L L' : Array Bool} (h : RelL n p L L') (hp : ∀ i, p i < n ↔ i < n) (hi : ∀ i j, p i = p j → i = j) (i : Nat) : RelL n p (L.setIfInBounds i true) (L'.setIfInBounds (p i) true) := by
  obtain ⟨h1, h2, h3⟩ := h
  refine ⟨by simp [h1], by simp [h2], fun j => ?_⟩
  have h4 := h3 j
  have h5 := hp i
  simp only [Array.getD_eq_getD_getElem?, Array.getElem?_setIfInBounds, h1, h2] at h4 ⊢
  by_cases e : i = j
  · subst e
    simp only [if_true]
    by_cases hn : i < n
    · rw [if_pos hn, if_pos (h5.2 hn)]
    · rw [if_neg hn, if_neg (fun hh => hn (h5.1 hh))]
  · rw [if_neg e, if_neg (fun hh => e (hi _ _ hh))]
    exact h4
theorem getD_true {L : Array Bool} {i : Nat} : L.getD i true = false ↔ i < L.size ∧ L.getD i false = false := by
  by_cases h : i < L.size
  · simp [Array.getD, h]
  · simp [Array.getD, h]
/-- Which operations are ready. -/
def Go1 (ops : Array Oper) (L : Array Bool) (o : Oper) : Prop := ∀ e ∈ o.after, Region.binds .any e = true → L.getD e.on false = true
theorem ready_iff {ops : Array Oper} {L : Array Bool} {i : Nat} {o : Oper} (hL : L.size = ops.size) (ho : ops[i]? = some o) : i ∈ Region.ready .any ops L ↔ L.getD i false = false ∧ Go1 ops L o := by
  have hi := (Array.getElem?_eq_some_iff.1 ho).1
  rw [mem_ready, getD_true]
  constructor
  · rintro ⟨⟨_, h1⟩, o2, h2, h3⟩
    rw [ho] at h2; cases h2
    exact ⟨h1, h3⟩
  · rintro ⟨h1, h2⟩
    exact ⟨⟨by omega, h1⟩, o, ho, h2⟩
theorem ready_some {ops : Array Oper} {L : Array Bool} {i : Nat} (h : i ∈ Region.ready .any ops L) : ∃ o, ops[i]? = some o := by
  obtain ⟨_, o, ho, _⟩ := mem_ready.1 h; exact ⟨o, ho⟩
/-- As long as the same operations are ready, the numbers do not matter. -/
theorem wpAny_ren {ops ops' : Array Oper} {p : Nat → Nat} (hr : Ren ops ops' p) (Inv : Array Bool → Prop) (hInv : ∀ L i, Inv L → Inv (L.setIfInBounds i true))
    (hgo : ∀ L L', RelL ops.size p L L' → Inv L → ∀ i o o', ops[i]? = some o → ops'[p i]? = some o' → (Go1 ops L o ↔ Go1 ops' L' o')) :
    ∀ (fuel : Nat) (L L' : Array Bool) (a : Act) (w : World), RelL ops.size p L L' → Inv L → wpAny P .any ops' Q fuel L' a w → wpAny P .any ops Q fuel L a w := by
  have key : ∀ L L', RelL ops.size p L L' → Inv L → ∀ i, i ∈ Region.ready .any ops L → p i ∈ Region.ready .any ops' L' := by
    intro L L' hL hI i hi
    obtain ⟨o, ho⟩ := ready_some hi
    obtain ⟨o', ho', _, _⟩ := hr.like i o ho
    rw [ready_iff hL.1 ho] at hi
    rw [ready_iff (by rw [hL.2.1, hr.size]) ho', hL.2.2]
    exact ⟨hi.1, (hgo L L' hL hI i o o' ho ho').1 hi.2⟩
  have back : ∀ L L', RelL ops.size p L L' → Inv L → Region.ready .any ops L = [] → Region.ready .any ops' L' = [] := by
    intro L L' hL hI h
    refine List.eq_nil_iff_forall_not_mem.2 fun j hj => ?_
    obtain ⟨i, rfl⟩ := hr.sur j
    obtain ⟨o', ho'⟩ := ready_some hj
    have hlt : i < ops.size := (hr.lt i).1 (by rw [← hr.size]; exact (Array.getElem?_eq_some_iff.1 ho').1)
    obtain ⟨o2, ho2, _, _⟩ := hr.like i ops[i] (by simp [hlt])
    rw [ho'] at ho2; cases ho2
    rw [ready_iff (by rw [hL.2.1, hr.size]) ho', hL.2.2] at hj
    have : i ∈ Region.ready .any ops L := (ready_iff (o := ops[i]) hL.1 (by simp [hlt])).2 ⟨hj.1, (hgo L L' hL hI i _ _ (by simp [hlt]) ho').2 hj.2⟩
    rw [h] at this; cases this
  intro fuel
  induction fuel with
  | zero =>
    intro L L' a w hL hI h
    unfold wpAny at *
    refine ⟨List.eq_nil_iff_forall_not_mem.2 fun i hi => ?_, h.2⟩
    have := key L L' hL hI i hi
    rw [h.1] at this; cases this
  | succ n ih =>
    intro L L' a w hL hI h
    unfold wpAny at h ⊢
    refine ⟨fun h0 => h.1 (back L L' hL hI h0), fun i hi => ?_⟩
    obtain ⟨o, ho⟩ := ready_some hi
    obtain ⟨o', ho', hl, hw⟩ := hr.like i o ho
    exact wpOp_like ho ho' hl (hw _) (wpOp_mono (fun a w => ih _ _ a w (hL.set hr.lt hr.inj i) (hInv L i hI)) (h.2 _ (key L L' hL hI i hi)))
theorem wp_both {o : Oper} (hp : plainOp o.op = true) {a : Act} {w : World} {K1 K2 : Act → World → Prop} (h1 : o.wp P a w K1 Q) (h2 : o.wp P a w K2 Q) : o.wp P a w (fun a w => K1 a w ∧ K2 a w) Q := by
  have hpl := plain_exec P o hp a.eval w
  unfold Oper.wp at *
  generalize (execOp a.eval o).run P w = r at *
  cases r with
  | halt x w' => cases x <;> simp only [Oper.upon] at h1 ⊢ <;> exact h1
  | ok n w' =>
    cases n <;> simp only [plainRes] at hpl <;> simp only [Oper.upon] at h1 h2 ⊢
    · exact ⟨h1, h2⟩
    · exact ⟨h1, h2⟩
theorem wpOp_both {ops : Array Oper} {i : Nat} {o : Oper} (ho : ops[i]? = some o) (hp : plainOp o.op = true) {a : Act} {w : World} {K1 K2 : Act → World → Prop} (h1 : wpOp P ops Q i K1 a w) (h2 : wpOp P ops Q i K2 a w) : wpOp P ops Q i (fun a w => K1 a w ∧ K2 a w) a w := by
  unfold wpOp at *
  rw [ho] at h1 h2 ⊢
  simp only at h1 h2 ⊢
  split
  · rename_i hh
    rw [if_pos hh] at h1 h2
    rcases h1 with h1 | h1
    · rcases h2 with h2 | h2
      · exact .inl (wp_both hp h1 h2)
      · exact .inr h2
    · exact .inr h1
  · rename_i hh
    rw [if_neg hh] at h1 h2
    exact ⟨h1, h2⟩
/-- A region whose orders are those of two others: in the one `f` waits for `c`, in the other `c` for `f`. -/
theorem wpAny_two {ops ops1 ops2 : Array Oper} {p1 p2 : Nat → Nat} {c f : Nat} (hr1 : Ren ops ops1 p1) (hr2 : Ren ops ops2 p2) (hcf : c ≠ f)
    (e1 : ∀ L L', RelL ops.size p1 L L' → ∀ i o o', ops[i]? = some o → ops1[p1 i]? = some o' → (Go1 ops1 L' o' ↔ Go1 ops L o ∧ (i = f → L.getD c false = true)))
    (e2 : ∀ L L', RelL ops.size p2 L L' → ∀ i o o', ops[i]? = some o → ops2[p2 i]? = some o' → (Go1 ops2 L' o' ↔ Go1 ops L o ∧ (i = c → L.getD f false = true)))
    (hpl : ∀ i o, ops[i]? = some o → i ≠ c → i ≠ f → plainOp o.op = true ∨ ∃ e ∈ o.after, Region.binds .any e = true ∧ (e.on = c ∨ e.on = f)) :
    ∀ (fuel : Nat) (L L1 L2 : Array Bool) (a : Act) (w : World), RelL ops.size p1 L L1 → RelL ops.size p2 L L2 → L.getD c false = false → L.getD f false = false → wpAny P .any ops1 Q fuel L1 a w → wpAny P .any ops2 Q fuel L2 a w → wpAny P .any ops Q fuel L a w := by
  have r1 : ∀ L L', RelL ops.size p1 L L' → ∀ i, i ∈ Region.ready .any ops L → (i = f → L.getD c false = true) → p1 i ∈ Region.ready .any ops1 L' := by
    intro L L' hL i hi hx
    obtain ⟨o, ho⟩ := ready_some hi
    obtain ⟨o', ho', _, _⟩ := hr1.like i o ho
    rw [ready_iff hL.1 ho] at hi
    rw [ready_iff (by rw [hL.2.1, hr1.size]) ho', hL.2.2]
    exact ⟨hi.1, (e1 L L' hL i o o' ho ho').2 ⟨hi.2, hx⟩⟩
  have r2 : ∀ L L', RelL ops.size p2 L L' → ∀ i, i ∈ Region.ready .any ops L → (i = c → L.getD f false = true) → p2 i ∈ Region.ready .any ops2 L' := by
    intro L L' hL i hi hx
    obtain ⟨o, ho⟩ := ready_some hi
    obtain ⟨o', ho', _, _⟩ := hr2.like i o ho
    rw [ready_iff hL.1 ho] at hi
    rw [ready_iff (by rw [hL.2.1, hr2.size]) ho', hL.2.2]
    exact ⟨hi.1, (e2 L L' hL i o o' ho ho').2 ⟨hi.2, hx⟩⟩
  have b1 : ∀ L L', RelL ops.size p1 L L' → Region.ready .any ops L = [] → Region.ready .any ops1 L' = [] := by
    intro L L' hL h
    refine List.eq_nil_iff_forall_not_mem.2 fun j hj => ?_
    obtain ⟨i, rfl⟩ := hr1.sur j
    obtain ⟨o', ho'⟩ := ready_some hj
    have hlt : i < ops.size := (hr1.lt i).1 (by rw [← hr1.size]; exact (Array.getElem?_eq_some_iff.1 ho').1)
    rw [ready_iff (by rw [hL.2.1, hr1.size]) ho', hL.2.2] at hj
    have : i ∈ Region.ready .any ops L := (ready_iff (o := ops[i]) hL.1 (by simp [hlt])).2 ⟨hj.1, ((e1 L L' hL i _ _ (by simp [hlt]) ho').1 hj.2).1⟩
    rw [h] at this; cases this
  intro fuel
  induction fuel with
  | zero =>
    intro L L1 L2 a w hL1 hL2 hc hf h1 h2
    unfold wpAny at *
    refine ⟨List.eq_nil_iff_forall_not_mem.2 fun i hi => ?_, h1.2⟩
    by_cases e : i = f
    · have := r2 L L2 hL2 i hi (fun e2 => absurd (e2.symm.trans e) hcf)
      rw [h2.1] at this; cases this
    · have := r1 L L1 hL1 i hi (fun e2 => absurd e2 e)
      rw [h1.1] at this; cases this
  | succ n ih =>
    intro L L1 L2 a w hL1 hL2 hc hf h1 h2
    unfold wpAny at h1 h2 ⊢
    refine ⟨fun h0 => h1.1 (b1 L L1 hL1 h0), fun i hi => ?_⟩
    obtain ⟨o, ho⟩ := ready_some hi
    have hlt := (Array.getElem?_eq_some_iff.1 ho).1
    have hset : (L.setIfInBounds i true).getD i false = true := by
      have := hL1.1
      simp [Array.getD_eq_getD_getElem?, Array.getElem?_setIfInBounds, this, hlt]
    by_cases ec : i = c
    · subst ec
      obtain ⟨o', ho', hl, hw⟩ := hr1.like i o ho
      refine wpOp_like ho ho' hl (hw _) (wpOp_mono (fun a w => wpAny_ren hr1 (fun L => L.getD i false = true) (fun L j hh => ?_) (fun L L' hL hI j o o' hj hj' => ?_) _ _ _ a w (hL1.set hr1.lt hr1.inj i) hset) (h1.2 _ (r1 L L1 hL1 i hi (fun e2 => absurd e2 hcf))))
      · by_cases hj : j = i
        · subst hj
          have hi2 : j < L.size := by
            rcases Nat.lt_or_ge j L.size with h | h
            · exact h
            · simp [Array.getD, Nat.not_lt.2 h] at hh
          simp [Array.getD_eq_getD_getElem?, Array.getElem?_setIfInBounds, hi2]
        · rw [Array.getD_eq_getD_getElem?, Array.getElem?_setIfInBounds_ne hj, ← Array.getD_eq_getD_getElem?]; exact hh
      · rw [e1 L L' hL j o o' hj hj']
        exact ⟨fun h => ⟨h, fun _ => hI⟩, fun h => h.1⟩
    · by_cases ef : i = f
      · subst ef
        obtain ⟨o', ho', hl, hw⟩ := hr2.like i o ho
        refine wpOp_like ho ho' hl (hw _) (wpOp_mono (fun a w => wpAny_ren hr2 (fun L => L.getD i false = true) (fun L j hh => ?_) (fun L L' hL hI j o o' hj hj' => ?_) _ _ _ a w (hL2.set hr2.lt hr2.inj i) hset) (h2.2 _ (r2 L L2 hL2 i hi (fun e2 => absurd e2 ec))))
        · by_cases hj : j = i
          · subst hj
            have hi2 : j < L.size := by
              rcases Nat.lt_or_ge j L.size with h | h
              · exact h
              · simp [Array.getD, Nat.not_lt.2 h] at hh
            simp [Array.getD_eq_getD_getElem?, Array.getElem?_setIfInBounds, hi2]
          · rw [Array.getD_eq_getD_getElem?, Array.getElem?_setIfInBounds_ne hj, ← Array.getD_eq_getD_getElem?]; exact hh
        · rw [e2 L L' hL j o o' hj hj']
          exact ⟨fun h => ⟨h, fun _ => hI⟩, fun h => h.1⟩
      · have hg := ((ready_iff hL1.1 ho).1 hi).2
        have hp : plainOp o.op = true := by
          rcases hpl i o ho ec ef with h | ⟨e, he, hb, h⟩
          · exact h
          · have := hg e he hb
            rcases h with h | h
            · rw [h, hc] at this; cases this
            · rw [h, hf] at this; cases this
        obtain ⟨o1, ho1, hl1, hw1⟩ := hr1.like i o ho
        obtain ⟨o2, ho2, hl2, hw2⟩ := hr2.like i o ho
        have k1 := wpOp_like ho ho1 hl1 (hw1 _) (h1.2 _ (r1 L L1 hL1 i hi (fun e2 => absurd e2 ef)))
        have k2 := wpOp_like ho ho2 hl2 (hw2 _) (h2.2 _ (r2 L L2 hL2 i hi (fun e2 => absurd e2 ec)))
        refine wpOp_mono (fun a w hh => ih _ _ _ a w (hL1.set hr1.lt hr1.inj i) (hL2.set hr2.lt hr2.inj i) ?_ ?_ hh.1 hh.2) (wpOp_both ho hp k1 k2)
        · rw [Array.getD_eq_getD_getElem?, Array.getElem?_setIfInBounds_ne ec, ← Array.getD_eq_getD_getElem?]; exact hc
        · rw [Array.getD_eq_getD_getElem?, Array.getElem?_setIfInBounds_ne ef, ← Array.getD_eq_getD_getElem?]; exact hf
def renI (c f i : Nat) : Nat := if i = f then c else if c ≤ i ∧ i < f then i + 1 else i
def addA (o : Oper) (on : Nat) : Oper := { o with after := o.after.push ⟨on, .data⟩ }
def renO (c f : Nat) (o : Oper) : Oper := { o with after := o.after.map (fun e => { e with on := renI c f e.on }), guard := o.guard.map fun g => (renI c f g.1, g.2) }
def ops1L (l : List Oper) (c f : Nat) : List Oper := l.mapIdx fun i o => if i = f then addA o c else o
/-- `f` ahead of `c`. -/
def order2 (l : List Oper) (c f : Nat) : List Oper := l.take c ++ ((l.drop f).take 1 ++ ((l.drop c).take (f - c) ++ l.drop (f + 1)))
def ops2L (l : List Oper) (c f : Nat) : List Oper := (order2 l c f).mapIdx fun k o => renO c f (if k = c + 1 then addA o f else o)
def splitB (l : List Oper) (c f : Nat) : Bool := decide (c < f) && decide (f < l.length) && (List.range l.length).all fun i => match l[i]? with
  | none => true
  | some o => (i == c || i == f || plainOp o.op || o.after.toList.any fun e => Region.binds .any e && (e.on == c || e.on == f)) && (match o.guard with | none => true | some g => decide (g.1 < c))

theorem addA_like (o : Oper) (on : Nat) : Like o (addA o on) := ⟨rfl, rfl, rfl⟩
theorem renO_like (c f : Nat) (o : Oper) : Like o (renO c f o) := ⟨rfl, rfl, rfl⟩
theorem ite_like {o : Oper} {q : Prop} [Decidable q] {x : Oper} (h : Like o x) : Like o (if q then x else o) := by split; exact h; exact Like.refl o
theorem Like.trans {a b c : Oper} (h : Like a b) (k : Like b c) : Like a c := ⟨k.op.trans h.op, k.dst.trans h.dst, k.type.trans h.type⟩
theorem go_addA {ops : Array Oper} {L : Array Bool} {o : Oper} {on : Nat} : Go1 ops L (addA o on) ↔ Go1 ops L o ∧ L.getD on false = true := by
  unfold Go1 addA
  simp only [Array.mem_push]
  constructor
  · exact fun h => ⟨fun e he => h e (.inl he), h ⟨on, .data⟩ (.inr rfl) rfl⟩
  · rintro ⟨h1, h2⟩ e (he | rfl) hb
    · exact h1 e he hb
    · exact h2
section
variable {l : List Oper} {c f : Nat}
theorem ops1_get (i : Nat) : (ops1L l c f)[i]? = (l[i]?).map fun o => if i = f then addA o c else o := by
  simp [ops1L, List.getElem?_mapIdx]
theorem ops1_dst (i : Nat) : ((ops1L l c f).toArray[i]?).bind (·.dst) = (l.toArray[i]?).bind (·.dst) := by
  simp only [List.getElem?_toArray, ops1_get]
  cases l[i]? with
  | none => rfl
  | some o => simp only [Option.map_some, Option.bind_some]; split <;> rfl
theorem ren1 : Ren l.toArray (ops1L l c f).toArray (fun i => i) := by
  refine ⟨by simp [ops1L], fun i => Iff.rfl, fun _ _ h => h, fun j => ⟨j, rfl⟩, fun i o ho => ?_⟩
  refine ⟨if i = f then addA o c else o, by simp only [List.getElem?_toArray] at ho ⊢; rw [ops1_get, ho]; rfl, ite_like (addA_like o c), fun tmps => ?_⟩
  have hy : ∀ j, yielded (ops1L l c f).toArray tmps j = yielded l.toArray tmps j := fun j => by unfold yielded; rw [ops1_dst]
  have hg : (if i = f then addA o c else o).guard = o.guard := by split <;> rfl
  unfold Region.wanted
  rw [hg]
  cases o.guard with
  | none => rfl
  | some g => simp only [hy]
theorem e1 (L L' : Array Bool) (hL : RelL l.toArray.size (fun i => i) L L') (i : Nat) (o o' : Oper) (ho : l.toArray[i]? = some o) (ho' : (ops1L l c f).toArray[i]? = some o') :
    Go1 (ops1L l c f).toArray L' o' ↔ Go1 l.toArray L o ∧ (i = f → L.getD c false = true) := by
  simp only [List.getElem?_toArray] at ho ho'
  rw [ops1_get, ho] at ho'
  simp only [Option.map_some, Option.some.injEq] at ho'
  subst ho'
  have hs : ∀ x, Go1 (ops1L l c f).toArray L' x ↔ Go1 l.toArray L x := fun x => by
    unfold Go1
    exact ⟨fun h e he hb => (hL.2.2 e.on) ▸ h e he hb, fun h e he hb => (hL.2.2 e.on).symm ▸ h e he hb⟩
  rw [hs]
  by_cases e : i = f
  · rw [if_pos e, go_addA]; exact ⟨fun h => ⟨h.1, fun _ => h.2⟩, fun h => ⟨h.1, h.2 e⟩⟩
  · rw [if_neg e]; exact ⟨fun h => ⟨h, fun h2 => absurd h2 e⟩, fun h => h.1⟩
theorem renI_lt (hc : c < f) (hf : f < l.length) (i : Nat) : renI c f i < l.length ↔ i < l.length := by unfold renI; split <;> (try split) <;> omega
theorem renI_inj (hc : c < f) (i j : Nat) (h : renI c f i = renI c f j) : i = j := by
  unfold renI at h
  split at h <;> split at h <;> (try split at h) <;> (try split at h) <;> omega
theorem renI_sur (hc : c < f) (j : Nat) : ∃ i, renI c f i = j := by
  by_cases h1 : j = c
  · exact ⟨f, by unfold renI; simp [h1]⟩
  · by_cases h2 : c < j ∧ j ≤ f
    · exact ⟨j - 1, by unfold renI; rw [if_neg (by omega), if_pos (by omega)]; omega⟩
    · exact ⟨j, by unfold renI; rw [if_neg (by omega), if_neg (by omega)]⟩
theorem order2_len (hc : c < f) (hf : f < l.length) : (order2 l c f).length = l.length := by
  simp [order2]; omega
theorem order2_get (hc : c < f) (hf : f < l.length) (i : Nat) : (order2 l c f)[renI c f i]? = l[i]? := by
  have hl1 : (l.take c).length = c := by simp; omega
  have hl2 : ((l.drop f).take 1).length = 1 := by simp; omega
  have hl3 : ((l.drop c).take (f - c)).length = f - c := by simp; omega
  unfold order2 renI
  by_cases h1 : i = f
  · subst h1
    rw [if_pos rfl, List.getElem?_append_right (by omega), hl1, Nat.sub_self, List.getElem?_append_left (by omega), List.getElem?_take_of_lt (by omega), List.getElem?_drop]; rfl
  · rw [if_neg h1]
    by_cases h2 : c ≤ i ∧ i < f
    · rw [if_pos h2, List.getElem?_append_right (by omega), hl1, List.getElem?_append_right (by omega), hl2, List.getElem?_append_left (by omega), List.getElem?_take_of_lt (by omega), List.getElem?_drop]
      congr 1; omega
    · rw [if_neg h2]
      rcases Nat.lt_or_ge i c with h3 | h3
      · rw [List.getElem?_append_left (by omega), List.getElem?_take_of_lt h3]
      · rw [List.getElem?_append_right (by omega), hl1, List.getElem?_append_right (by omega), hl2, List.getElem?_append_right (by omega), hl3, List.getElem?_drop]
        congr 1; omega
theorem ops2_get (hc : c < f) (hf : f < l.length) (i : Nat) : (ops2L l c f)[renI c f i]? = (l[i]?).map fun o => renO c f (if i = c then addA o f else o) := by
  unfold ops2L
  rw [List.getElem?_mapIdx, order2_get hc hf]
  have : renI c f i = c + 1 ↔ i = c := by
    unfold renI
    split
    · omega
    · split <;> omega
  simp only [this]
theorem ops2_dst (hc : c < f) (hf : f < l.length) (i : Nat) : ((ops2L l c f).toArray[renI c f i]?).bind (·.dst) = (l.toArray[i]?).bind (·.dst) := by
  simp only [List.getElem?_toArray, ops2_get hc hf]
  cases l[i]? with
  | none => rfl
  | some o => simp only [Option.map_some, Option.bind_some]; split <;> rfl
theorem ren2 (hc : c < f) (hf : f < l.length) : Ren l.toArray (ops2L l c f).toArray (renI c f) := by
  refine ⟨by simp [ops2L, order2_len hc hf], fun i => by simpa using renI_lt hc hf i, renI_inj hc, renI_sur hc, fun i o ho => ?_⟩
  refine ⟨renO c f (if i = c then addA o f else o), by simp only [List.getElem?_toArray] at ho ⊢; rw [ops2_get hc hf, ho]; rfl, (ite_like (addA_like o f)).trans (renO_like c f _), fun tmps => ?_⟩
  have hy : ∀ j, yielded (ops2L l c f).toArray tmps (renI c f j) = yielded l.toArray tmps j := fun j => by unfold yielded; rw [ops2_dst hc hf]
  have hg : (renO c f (if i = c then addA o f else o)).guard = o.guard.map fun g => (renI c f g.1, g.2) := by split <;> rfl
  unfold Region.wanted
  rw [hg]
  cases o.guard with
  | none => rfl
  | some g => simp only [Option.map_some, hy]
theorem e2 (hc : c < f) (hf : f < l.length) (L L' : Array Bool) (hL : RelL l.toArray.size (renI c f) L L') (i : Nat) (o o' : Oper) (ho : l.toArray[i]? = some o) (ho' : (ops2L l c f).toArray[renI c f i]? = some o') :
    Go1 (ops2L l c f).toArray L' o' ↔ Go1 l.toArray L o ∧ (i = c → L.getD f false = true) := by
  simp only [List.getElem?_toArray] at ho ho'
  rw [ops2_get hc hf, ho] at ho'
  simp only [Option.map_some, Option.some.injEq] at ho'
  subst ho'
  have hs : ∀ x, Go1 (ops2L l c f).toArray L' (renO c f x) ↔ Go1 l.toArray L x := fun x => by
    unfold Go1 renO
    simp only [Array.mem_map, forall_exists_index, and_imp, forall_apply_eq_imp_iff₂]
    exact ⟨fun h e he hb => (hL.2.2 e.on) ▸ h e he hb, fun h e he hb => (hL.2.2 e.on).symm ▸ h e he hb⟩
  rw [hs]
  by_cases e : i = c
  · rw [if_pos e, go_addA]; exact ⟨fun h => ⟨h.1, fun _ => h.2⟩, fun h => ⟨h.1, h.2 e⟩⟩
  · rw [if_neg e]; exact ⟨fun h => ⟨h, fun h2 => absurd h2 e⟩, fun h => h.1⟩
end
theorem wpAny_chain {l : List Oper} {a : Act} {w : World} (lo st : Nat → Bool) (T : Nat → Nat → Prop) (hB : okB l.toArray = true) (hC : chainB l.toArray lo st = true)
    (h : cwalk P l.toArray lo st T w (fun a' w' => Q .normal a' w') l 0 a w) : wpAny P .any l.toArray Q l.toArray.size (Array.replicate l.toArray.size false) a w := by
  have hok := ok_of hB
  have hch := chain_of hC
  have hlex0 : ∀ u, lex l.toArray a u 0 = a := fun u => (fill_congr (v' := u) (S' := fun _ => false) _ 0 _ (fun j _ _ => ⟨by simp, fun _ => rfl⟩)).trans (fill_none _ 0 _)
  obtain ⟨u, _, e2, e3, e4, e5⟩ := unroll (P := P) (lo := lo) (st := st) (T := T) (w0 := w) (Q := fun a' w' => Q .normal a' w') (a0 := a) hok l 0 (fun _ => undef) w (by simp) (by rw [hlex0]; exact h)
  have hno : ∀ j, (Array.replicate l.toArray.size false).getD j false = false := fun j => by
    simp only [Array.getD_eq_getD_getElem?, Array.getElem?_replicate]
    split <;> rfl
  refine chain_any (Q := fun a' w' => Q .normal a' w') (a0 := a) hok hch (fun _ _ h => h) _ _ _ _ 0 u ⟨by simp, fun i o _ hi => ?_, KeepsP.refl _ _, ?_, fun j _ _ => ?_, fun j hj => by omega, fun j h1 h2 => e2 j (by omega) h1 h2, e3, e4, e5⟩ ?_
  · rw [hno] at hi; cases hi
  · refine ((fill_congr (v' := u) (S' := fun _ => false) _ 0 _ (fun j _ _ => ⟨by simp only [hno], fun _ => rfl⟩)).trans (fill_none _ 0 _)).symm
  · rw [hno]; simp
  · unfold count
    rw [List.countP_eq_length.2 (fun i hi => ?_)]
    · simp
    · rw [hno]; rfl
theorem Like.quiet {o o' : Oper} (h : Like o o') {a : Act} {w : World} {v : Value} (hq : Quiet P o a w v) : Quiet P o' a w v := by
  unfold Quiet at *
  obtain ⟨d, op, t, p, af, g⟩ := o
  obtain ⟨d', op', t', p', af', g'⟩ := o'
  obtain ⟨h1, h2, h3⟩ := h
  simp only at h1 h2 h3
  subst h1 h2 h3
  exact hq
theorem Like.symm {o o' : Oper} (h : Like o o') : Like o' o := ⟨h.op.symm, h.dst.symm, h.type.symm⟩
theorem cwalk_like {ops : Array Oper} {lo st : Nat → Bool} {T : Nat → Nat → Prop} {w0 : World} {R : Act → World → Prop} : ∀ (r r' : List Oper) (i : Nat) (a : Act) (w : World), r.length = r'.length →
    (∀ (j : Nat) (o o' : Oper), r[j]? = some o → r'[j]? = some o' → Like o o' ∧ ∀ tmps, Region.wanted o' (yielded ops tmps) = Region.wanted o (yielded ops tmps)) → cwalk P ops lo st T w0 R r i a w → cwalk P ops lo st T w0 R r' i a w
  | [], [], _, _, _, _, _, h => h
  | [], _ :: _, _, _, _, hl, _, _ => by cases hl
  | _ :: _, [], _, _, _, hl, _, _ => by cases hl
  | o :: r, o' :: r', i, a, w, hl, hr, h => by
    obtain ⟨h1, h2⟩ := hr 0 o o' rfl rfl
    have ih := fun (a : Act) (w : World) => cwalk_like (ops := ops) (lo := lo) (st := st) (T := T) (w0 := w0) (R := R) r r' (i + 1) a w (by simpa using hl) (fun j x y hx hy => hr (j + 1) x y (by simpa using hx) (by simpa using hy))
    unfold cwalk at h ⊢
    rw [h2]
    split
    · rename_i hh
      rw [if_pos hh] at h
      split
      · rename_i h3
        rw [if_pos h3] at h
        exact h1.symm.wp (Oper.wp_mono (fun a w hw => ⟨hw.1, hw.2.1, ih _ _ hw.2.2⟩) h)
      · rename_i h3
        rw [if_neg h3] at h
        rw [h1.dst]
        split
        · rename_i h4
          rw [if_pos h4] at h
          obtain ⟨c, h5, h6⟩ := h
          exact ⟨c, fun w' hw => h1.quiet (h5 w' hw), ih _ _ h6⟩
        · rename_i h4
          rw [if_neg h4] at h
          obtain ⟨c, h5, h6⟩ := h
          exact ⟨c, h1.quiet h5, ih _ _ h6⟩
    · rename_i hh
      rw [if_neg hh] at h
      rw [h1.dst]
      exact ih _ _ h
/-- A region with two acting operations `c` and `f` (in the text `c` is first) that no edge orders: once in the order of the text, once with `f` ahead of `c`. -/
theorem wp_region_float {id : Nat} {l : List Oper} {a : Act} {w : World} {Q' : Exit → Act → World → Prop} (c f : Nat) (lo st : Nat → Bool) (T : Nat → Nat → Prop) (lo2 st2 : Nat → Bool) (T2 : Nat → Nat → Prop) (hm : P.follows .mixedOrders = true) (hS : splitB l c f = true)
    (hB1 : okB (ops1L l c f).toArray = true) (hC1 : chainB (ops1L l c f).toArray lo st = true) (hB2 : okB (ops2L l c f).toArray = true) (hC2 : chainB (ops2L l c f).toArray lo2 st2 = true)
    (h1 : cwalk P (ops1L l c f).toArray lo st T w.drew (fun a' w' => Q' .normal a' w') l 0 a w.drew)
    (h2 : cwalk P (ops2L l c f).toArray lo2 st2 T2 w.drew (fun a' w' => Q' .normal a' w') (order2 l c f) 0 a w.drew) : (Code.region id l.toArray true).wp P Q' a w := by
  refine wp_region_any hm ?_
  unfold splitB at hS
  simp only [Bool.and_eq_true, decide_eq_true_eq] at hS
  obtain ⟨⟨hc, hf⟩, hall⟩ := hS
  have hop : ∀ (i : Nat) (o : Oper), l[i]? = some o → (i = c ∨ i = f ∨ plainOp o.op = true ∨ ∃ e ∈ o.after, Region.binds .any e = true ∧ (e.on = c ∨ e.on = f)) ∧ ∀ g, o.guard = some g → g.1 < c := by
    intro i o ho
    have := List.all_eq_true.1 hall i (List.mem_range.2 (List.getElem?_eq_some_iff.1 ho).1)
    rw [ho] at this
    simp only [Bool.and_eq_true, Bool.or_eq_true, beq_iff_eq, List.any_eq_true] at this
    refine ⟨?_, fun g hg => ?_⟩
    · rcases this.1 with ((h | h) | h) | ⟨e, he, h⟩
      · exact .inl h
      · exact .inr (.inl h)
      · exact .inr (.inr (.inl h))
      · exact .inr (.inr (.inr ⟨e, by simpa using he, h.1, h.2⟩))
    · have h2 := this.2
      rw [hg] at h2
      simpa using h2
  have hn1 : (ops1L l c f).toArray.size = l.toArray.size := (ren1 (l := l) (c := c) (f := f)).size
  have hn2 : (ops2L l c f).toArray.size = l.toArray.size := (ren2 hc hf).size
  have hren : ∀ g, g < c → renI c f g = g := fun g hg => by unfold renI; rw [if_neg (by omega), if_neg (by omega)]
  have g1 : cwalk P (ops1L l c f).toArray lo st T w.drew (fun a' w' => Q' .normal a' w') (ops1L l c f) 0 a w.drew := by
    refine cwalk_like l _ 0 a w.drew (by simp [ops1L]) (fun j o o' ho ho' => ?_) h1
    rw [ops1_get, ho] at ho'
    simp only [Option.map_some, Option.some.injEq] at ho'
    subst ho'
    refine ⟨ite_like (addA_like o c), fun tmps => ?_⟩
    have hg : (if j = f then addA o c else o).guard = o.guard := by split <;> rfl
    unfold Region.wanted
    rw [hg]
  have g2 : cwalk P (ops2L l c f).toArray lo2 st2 T2 w.drew (fun a' w' => Q' .normal a' w') (ops2L l c f) 0 a w.drew := by
    refine cwalk_like (order2 l c f) _ 0 a w.drew (by simp [ops2L]) (fun j o o' ho ho' => ?_) h2
    unfold ops2L at ho'
    rw [List.getElem?_mapIdx, ho] at ho'
    simp only [Option.map_some, Option.some.injEq] at ho'
    subst ho'
    refine ⟨(ite_like (addA_like o f)).trans (renO_like c f _), fun tmps => ?_⟩
    obtain ⟨i, rfl⟩ := renI_sur hc j
    rw [order2_get hc hf] at ho
    have hgd := (hop i o ho).2
    have hg : (renO c f (if renI c f i = c + 1 then addA o f else o)).guard = o.guard := by
      have : (renO c f (if renI c f i = c + 1 then addA o f else o)).guard = o.guard.map fun g => (renI c f g.1, g.2) := by split <;> rfl
      rw [this]
      cases hh : o.guard with
      | none => rfl
      | some g => simp only [Option.map_some]; rw [hren _ (hgd g hh)]
    unfold Region.wanted
    rw [hg]
  have k1 := wpAny_chain lo st T hB1 hC1 g1
  have k2 := wpAny_chain lo2 st2 T2 hB2 hC2 g2
  rw [hn1] at k1
  rw [hn2] at k2
  have hno : ∀ n j, (Array.replicate n false).getD j false = false := fun n j => by
    simp only [Array.getD_eq_getD_getElem?, Array.getElem?_replicate]
    split <;> rfl
  refine wpAny_two (ren1 (l := l) (c := c) (f := f)) (ren2 hc hf) (by omega) e1 (e2 hc hf) (fun i o ho h3 h4 => ?_) _ _ _ _ a _ ⟨by simp, by simp, fun i => rfl⟩ ⟨by simp, by simp, fun i => (hno _ _).trans (hno _ _).symm⟩ (hno _ _) (hno _ _) k1 k2
  rcases (hop i o (by simpa using ho)).1 with h | h | h | h
  · exact absurd h h3
  · exact absurd h h4
  · exact .inl h
  · exact .inr h
end Free
end Go.Proofs.Ytilmcdieihmiaaa

namespace Go.Proofs.Ytilmcdieihmiaaa
open Go.RowKit

theorem SlB.lit (w : World) (l : List UInt8) (t : TypeId) (f : Nat × Nat) (hl : l.length ≤ maxLen) : SlB (w.alloc (.cells (bys l).toArray t f)) (.slice (some ⟨w.heap.size, 0, none⟩) l.length l.length) l :=
  ⟨by simp [bys], _, _, rfl, Nat.le_refl _, hl, by simp, fun _ => ⟨_, 0, rfl, fun j u hj => by rw [World.cell?_alloc_mark]; simpa using hj⟩⟩
def tOne : Bytes := [111, 110, 101]
def tTwo : Bytes := [116, 119, 111]
theorem oneL (w : World) : SlB (w.alloc (.cells #[.int .u8 111, .int .u8 110, .int .u8 101] 5 (3, 4))) (.slice (some ⟨w.heap.size, 0, none⟩) 3 3) tOne := SlB.lit w tOne _ _ (by simp [tOne, maxLen])
theorem twoL (w : World) : SlB (w.alloc (.cells #[.int .u8 116, .int .u8 119, .int .u8 111] 5 (3, 4))) (.slice (some ⟨w.heap.size, 0, none⟩) 3 3) tTwo := SlB.lit w tTwo _ _ (by simp [tTwo, maxLen])
abbrev C00 : Chan := ⟨0, 0, 0, [], fun _ => none⟩
theorem got_early {C' : Chan} {outs : List Bytes} (h : Got C00 2 tTwo C' outs) : outs = [] ∧ C' = C00.put 2 tTwo := by
  rcases h with ⟨_, _, h | h⟩ | ⟨_, _, hD, _⟩
  · simp at h
  · simp at h
  · rcases hD.inv with ⟨h1, h2⟩ | ⟨l, o, h1, _⟩
    · exact ⟨h1, h2⟩
    · simp [Chan.put] at h1
theorem got_both {C' : Chan} {outs : List Bytes} (h : Got (C00.put 2 tTwo) 1 tOne C' outs) : outs = [tOne, tTwo] := by
  rcases h with ⟨_, _, h | h⟩ | ⟨_, _, hD, hno⟩
  · simp [Chan.put] at h
  · simp [Chan.put] at h
  · rcases hD.inv with ⟨h1, rfl⟩ | ⟨l, o, h1, rfl, hD2⟩
    · simp [Chan.put] at hno
    · have e1 : l = tOne := by simpa [Chan.put] using h1.symm
      subst e1
      rcases hD2.inv with ⟨h2, rfl⟩ | ⟨l2, o2, h2, rfl, hD3⟩
      · simp [Chan.put, Chan.take] at hno
      · have e1 : l2 = tTwo := by simpa [Chan.put, Chan.take] using h2.symm
        subst e1
        rcases hD3.inv with ⟨rfl, _⟩ | ⟨l3, o3, h3, _, _⟩
        · rfl
        · simp [Chan.put, Chan.take] at h3
theorem Ch.base {w : World} {B bc bm n : Nat} {C : Chan} (h : Ch w B bc bm n (.slice none 0 0) C) (hk : C.kept = []) (B' : Nat) : Ch w B' bc bm n (.slice none 0 0) C :=
  ⟨h.blk, by rw [hk]; exact KL.nil _ _, h.early⟩

set_option maxRecDepth 100000 in
set_option maxHeartbeats 4000000 in
theorem awake_c (w : World) : Calls Try.prog 10 #[] w fun e w' => e = .returned (.bool true) ∧ Keeps [] w w' := by
  have kc := fun (w : World) (C : Array Value) (n c : Nat) => Lib.run_convert_bytes_const (P := Try.prog) w 23 5 C n c Try.underlying23 Try.underlying5
  go_enter Try.func10, Try.ntmps10
  go_wp2_with fail
  refine (new_c _).mono ?_
  rintro e w1 ⟨ba, ma, rfl, ga1, ga2, ga3, hA, hk1⟩
  go_wp2_with fail
  refine (new_c _).mono ?_
  rintro e w2 ⟨bb, mb, rfl, gb1, gb2, gb3, hB, hk2⟩
  have ha := hA.cells.2.2.2.2.2.2
  have hma := hA.early.lt
  have hA2 := (hA.keeps hk2).base rfl w2.heap.size
  have hB2 := hB.base rfl w2.heap.size
  have hb := hB.cells.2.2.2.2.2.2
  have hmb := hB.early.lt
  have hk02 := hk1.trans hk2
  have hsz1 := hk1.size
  clear hA hB hk1 hk2
  replace hA2 := Lib.hid hA2
  replace hB2 := Lib.hid hB2
  replace hk02 := Lib.hid hk02
  go_wp2_with fail
  have hkA : Keeps [] w2 (w2.alloc (.cells #[.int .u8 111, .int .u8 110, .int .u8 101] 5 (3, 4))) := (Keeps.refl [] w2).alloc _
  refine (send_c _ w2.heap.size ba ma 0 _ _ C00 tOne (hA2.out.keeps hkA) (oneL w2) (by simp [tOne]) (by simp) (by simp) (by simp) (by simp [Value.ownBlock])).mono ?_
  rintro e w3 ⟨vk3, vd3, rfl, hA3, hd3, hk3, hkb3, hcb3, how3⟩
  have hB3 := (hB2.out.keeps hkA).keepS hk3 (by simp [Value.ownBlock]; omega) (by simp [Value.ownBlock]; omega) (by simp [Value.ownBlock]) hkb3
  have hk03 : Keeps [] w w3 := (hk02.out.trans hkA).fresh hk3 (by simp [Value.ownBlock]; omega)
  have hvk3 : ∀ b, vk3.ownBlock = some b → w2.heap.size ≤ b := fun b hb => by
    obtain ⟨cs, hown, _⟩ := hA3.kept
    exact ownBlock_ge hown b hb
  have hsz3 := hkA.size
  have hsz32 := hk3.size
  simp only [List.nil_append, Nat.zero_add] at hA3 hd3 ⊢
  obtain ⟨a3, c3, rfl⟩ := hd3.form
  clear hA2 hB2 hk02 hkA hk3 hkb3 how3
  replace hA3 := Lib.hid hA3
  replace hB3 := Lib.hid hB3
  replace hd3 := Lib.hid hd3
  replace hk03 := Lib.hid hk03
  replace hcb3 := Lib.hid hcb3
  replace hvk3 := Lib.hid hvk3
  generalize hD1 : (dataB 1 tOne).length = n1 at *
  go_wp2_with fail
  have hkA : Keeps [] w3 (w3.alloc (.cells #[.int .u8 116, .int .u8 119, .int .u8 111] 5 (3, 4))) := (Keeps.refl [] w3).alloc _
  refine (send_c _ w2.heap.size ba ma 0 _ _ _ tTwo (hA3.out.keeps hkA) (twoL w3) (by simp [tTwo]) (by simp) (by simp) (by have := hkA.size; omega) hcb3.out).mono ?_
  rintro e w4 ⟨vk4, vd4, rfl, hA4, hd4, hk4, hkb4, hcb4, how4⟩
  have hB4 := (hB3.out.keeps hkA).keepS hk4 (by simp; exact ⟨by omega, fun e => by have := hvk3.out _ e; omega⟩) (by simp; exact ⟨by omega, fun e => by have := hvk3.out _ e; omega⟩) (by simp [Value.ownBlock]) hkb4
  have hk04 : Keeps [] w w4 := (hk03.out.trans hkA).fresh hk4 (by simp; exact ⟨by omega, fun b hb => by have := hvk3.out _ hb; have := hk03.out.size; omega⟩)
  have hd34 := (hd3.out.keeps hkA).kb hkb4
  simp only [Nat.reduceAdd] at hd4 ⊢
  obtain ⟨a4, c4, rfl⟩ := hd4.form
  clear hA3 hB3 hk03 hkA hk4 hkb4 how4 hA4 hd3
  replace hB4 := Lib.hid hB4
  replace hd4 := Lib.hid hd4
  replace hd34 := Lib.hid hd34
  replace hk04 := Lib.hid hk04
  generalize hD2 : (dataB 2 tTwo).length = n2 at *
  go_wp2_with fail
  refine (recv_c _ w2.heap.size bb mb 0 _ _ C00 2 tTwo hB4.out (by simp [Value.ownBlock]) hd4.out (by simp [tTwo]) (by simp) (by simp) (by simp) (by simp) (fun s hs => by simp at hs)).mono ?_
  rintro e w5 ⟨v5, C5, outs5, m5, rfl, hL5, hB5, hm5, hG5, hk5, hkb5⟩
  obtain ⟨rfl, rfl⟩ := got_early hG5
  obtain ⟨a5, c5, rfl⟩ := hL5.form
  have hd35 := hd34.out.kb hkb5
  have hk05 : Keeps [] w w5 := hk04.out.fresh hk5 (by simp; omega)
  simp only [List.length_nil]
  clear hL5 hB4 hd4 hd34 hk04 hG5 hk5 hkb5
  replace hB5 := Lib.hid hB5
  replace hd35 := Lib.hid hd35
  replace hk05 := Lib.hid hk05
  go_wp2_with fail
  refine (recv_c _ w2.heap.size bb mb m5 _ _ _ 1 tOne hB5.out (by simp [Value.ownBlock]) hd35.out (by simp [tOne]) (by simp) (by simp [Chan.put]) (by omega) (by simp [Chan.put]) (fun s hs => ?near)).mono ?_
  case near =>
    simp only [Chan.put] at hs ⊢
    split at hs
    · omega
    · simp at hs
  rintro e w6 ⟨v6, C6, outs6, m6, rfl, hL6, hB6, hm6, hG6, hk6, hkb6⟩
  obtain rfl := got_both hG6
  have hk06 : Keeps [] w w6 := hk05.out.fresh hk6 (by simp; omega)
  rcases hL6.sls.cases with ⟨h0, _⟩ | ⟨g, o, cp, rfl, hn, hm, hp, hc⟩
  · simp at h0
  · obtain ⟨x, hx, hX⟩ := hc 0 (by simp)
    obtain ⟨y, hy, hY⟩ := hc 1 (by simp)
    simp only [List.getElem_cons_zero, List.getElem_cons_succ, Nat.add_zero, List.length_cons, List.length_nil, Nat.zero_add, Nat.reduceAdd] at hx hX hy hY hn hp ⊢
    have hcx := run_str hX
    have hcy := run_str hY
    obtain ⟨ax, cx, rfl⟩ := hX.form
    obtain ⟨ay, cy, rfl⟩ := hY.form
    rw [show str tOne = ⟨#[111, 110, 101]⟩ from rfl] at hcx
    rw [show str tTwo = ⟨#[116, 119, 111]⟩ from rfl] at hcy
    clear hc hX hY hL6 hB6 hG6 hk6 hkb6 hB5 hd35 hk05
    replace hk06 := Lib.hid hk06
    go_wp2
    go_ret
    exact ⟨rfl, hk06.out⟩
end Go.Proofs.Ytilmcdieihmiaaa

namespace Go.Proofs.Ytilmcdieihmiaaa
open Go.RowKit

theorem step_c (w : World) (B bc bm n T D : Nat) (vk vke vee vd : Value) (C : Chan) (E : REnd) (k : Nat) (N : Int) (d : Bytes) (h : BothW w B bc bm n vk vke vee C E) (hJ : Joint C E T D) (hT : T < 900000) (hn : n ≤ T) (hD : D ≤ 100000) (hN : -9223372036854775808 ≤ N ∧ N ≤ 9223372036854775807) (hd : SlB w vd d) (hdl : d.length ≤ D) :
    Calls Try.prog 19 #[.pointer (some ⟨bc, 0, none⟩), .agg #[.int .i64 E.sent, .int .i64 E.acked, vke, .int .i64 E.received, vee], .agg #[.int .u8 k, .int .i64 N, vd]] w (StepPost w B bc bm n T D vk C k N d) := by
  by_cases h4 : 4 < k
  · exact step_other w B bc bm n T D vk vke vee vd C E k N d h hJ hT hn hD hN hd hdl h4
  · rcases (show k = 0 ∨ k = 1 ∨ k = 2 ∨ k = 3 ∨ k = 4 by omega) with rfl | rfl | rfl | rfl | rfl
    · exact step_send0 w B bc bm n T D vk vke vee vd C E N d h hJ hT hn hD hN hd hdl
    · exact step_send1 w B bc bm n T D vk vke vee vd C E N d h hJ hT hn hD hN hd hdl
    · exact step_recv2 w B bc bm n T D vk vke vee vd C E N d h hJ hT hn hD hN hd hdl
    · exact step_recv3 w B bc bm n T D vk vke vee vd C E N d h hJ hT hn hD hN hd hdl
    · exact step_recv4 w B bc bm n T D vk vke vee vd C E N d h hJ hT hn hD hN hd hdl
theorem keepsP_remade {S : Nat → Prop} (w : World) (A B : Obj) (hS : S w.heap.size) : Free.KeepsP S (w.alloc A) (w.alloc B) :=
  ⟨rfl, rfl, rfl, by simp, fun k hk hn => by
    have hk' : k < w.heap.size + 1 := by simpa using hk
    have hne : k ≠ w.heap.size := fun e => hn (e ▸ hS)
    rw [Below.heap_alloc _ _ _ (by omega), Below.heap_alloc _ _ _ (by omega)]⟩
/-- What holds ahead of each round, seen from `w`; the model's end lies in block `bx`. -/
structure RunI (w wr : World) (bc bm bx T D : Nat) (C : Chan) (E : REnd) : Prop where
  ex : ∃ B n vk vke vee, BothW wr B bc bm n vk vke vee C E ∧ n ≤ T ∧ wr.heap[bx]? = some (.cells #[.int .i64 E.sent, .int .i64 E.acked, vke, .int .i64 E.received, vee] tyEnd) ∧ ∀ b ∈ own3 bc bm vk, w.heap.size ≤ b ∧ b ≠ bx
  joint : Joint C E T D
  keeps : Keeps [] w wr
  fresh : w.heap.size ≤ bx
theorem RunI.next {w wr w5 w7 w8 : World} {bc bm bx T D n n' B : Nat} {vk vk' vke vee : Value} {C' : Chan} {E' : REnd} (hkw : Keeps [] w wr) (hfr : w.heap.size ≤ bx) (hbxl : bx < wr.heap.size) (hown : ∀ b ∈ own3 bc bm vk, w.heap.size ≤ b ∧ b ≠ bx) (hk5 : Keeps (own3 bc bm vk) wr w5)
    (hW5 : BothW w5 B bc bm n' vk' vke vee C' E') (how : vk'.ownBlock = vk.ownBlock ∨ ∀ b, vk'.ownBlock = some b → wr.heap.size ≤ b) (hn : n ≤ T) (hn5 : n' ≤ n + 1) (hJ : Joint C' E' (T + 1) D) (hk7 : Keeps [] w5 w7) (hk8 : Keeps [bx] w7 w8) (hkb : KB w7 w8)
    (hb : w8.heap[bx]? = some (.cells #[.int .i64 E'.sent, .int .i64 E'.acked, vke, .int .i64 E'.received, vee] tyEnd)) (hsb : vke.ownBlock ≠ some bx ∧ vee.ownBlock ≠ some bx) : RunI w w8 bc bm bx (T + 1) D C' E' := by
  have hW7 := hW5.keeps hk7
  have hown' : ∀ b ∈ own3 bc bm vk', w.heap.size ≤ b ∧ b ≠ bx := fun b hb => by
    simp only [own3, List.mem_cons, Option.mem_toList] at hb
    rcases hb with rfl | rfl | hb
    · exact hown _ (by simp [own3])
    · exact hown _ (by simp [own3])
    · rcases how with e | h
      · exact hown b (by simp [own3, ← e, hb])
      · have := h b hb
        have := hkw.size
        exact ⟨by omega, by omega⟩
  have hsz := hk8.size
  refine ⟨⟨B, n', vk', vke, vee, ⟨?_, Nat.le_trans hW7.hB hsz, hW7.ne, ⟨hW7.re.kept.keepS hk8 (by simpa using hsb.1) hkb, hW7.re.early.keepS hk8 (by simpa using hsb.2) hkb⟩, hW7.sep, fun b hb => Nat.lt_of_lt_of_le (hW7.lt b hb) hsz, hW7.nk.keep hk8 (by simpa using hsb.1) (fun b e => hW7.lt b (.inl e)), hW7.ny.keep hk8 (by simpa using hsb.2) (fun b e => hW7.lt b (.inr e))⟩, by omega, hb, hown'⟩, hJ, ?_, hfr⟩
  · exact hW7.ch.keepS hk8 (by simpa using fun e : bc = bx => (hown' bc (by simp [own3])).2 e) (by simpa using fun e : bm = bx => (hown' bm (by simp [own3])).2 e) (fun b hb e => by simp at hb; subst hb; exact (hown' b (by simp [own3, e])).2 rfl) hkb
  · exact (((hkw.fresh hk5 (fun b hb => .inr (hown b hb).1)).trans hk7)).fresh hk8 (fun b hb => by simp at hb; subst hb; exact .inr hfr)
theorem BothW.keep1 {w w' : World} {B bc bm n x : Nat} {vk vke vee : Value} {C : Chan} {E : REnd} (h : BothW w B bc bm n vk vke vee C E) (hk : Keeps [x] w w') (hkb : KB w w') (hx : x ∉ own3 bc bm vk) (h1 : vke.ownBlock ≠ some x) (h2 : vee.ownBlock ≠ some x) : BothW w' B bc bm n vk vke vee C E := by
  simp only [own3, List.mem_cons, not_or, Option.mem_toList] at hx
  refine ⟨h.ch.keepS hk (by simpa using fun e : bc = x => hx.1 e.symm) (by simpa using fun e : bm = x => hx.2.1 e.symm) (fun b hb e => by simp at hb; subst hb; exact hx.2.2 e) hkb, Nat.le_trans h.hB hk.size, h.ne, ⟨h.re.kept.keepS hk (by simpa using h1) hkb, h.re.early.keepS hk (by simpa using h2) hkb⟩, h.sep, fun b hb => Nat.lt_of_lt_of_le (h.lt b hb) hk.size,
    h.nk.keep hk (by simpa using h1) (fun b e => h.lt b (.inl e)), h.ny.keep hk (by simpa using h2) (fun b e => h.lt b (.inr e))⟩
set_option maxRecDepth 100000 in
set_option maxHeartbeats 4000000 in
theorem ops_c (w : World) (v0 : Value) (L : List OpV) (h : SOps w v0 L) :
    Calls Try.prog 5 #[v0] w fun e w' => e = .returned (.bool true) ∧ Keeps [] w w' := by
  obtain ⟨a, c, rfl, hlc, hcm, _⟩ := Gen.SlR.form h
  obtain ⟨N, hN⟩ : ∃ N, L.length = N := ⟨_, rfl⟩
  rw [hN] at hlc h ⊢
  unfold maxLen at hcm
  replace hN := Lib.hid hN
  replace h := Lib.hid h
  go_enter Try.func5, Try.ntmps5
  go_wp2_with fail
  refine (awake_c _).mono ?_
  rintro e w1 ⟨rfl, hk1⟩
  go_wp2_with fail
  refine (heavy_c _ _ L (h.out.keeps hk1)).mono ?_
  rintro e w2 ⟨rfl, hk2⟩
  have hk02 := hk1.trans hk2
  clear hk1 hk2
  cases hb : hvB L with
  | true =>
    clear hb
    go_wp2
    go_ret
    exact ⟨rfl, hk02⟩
  | false =>
    have hL30 : N ≤ 30 := by
      unfold hvB at hb
      rw [Bool.or_eq_false_iff] at hb
      have := hb.2
      have := hN.out
      simp at *
      omega
    have hLd : ∀ x ∈ L, x.d.length ≤ 5000 := by
      unfold hvB at hb
      rw [Bool.or_eq_false_iff, List.any_eq_false] at hb
      intro x hx
      have := hb.1 x hx
      simpa using this
    clear hb
    replace hLd := Lib.hid hLd
    replace hk02 := Lib.hid hk02
    go_wp2_with fail
    refine (new_c _).mono ?_
    rintro e w3 ⟨bc, bm, rfl, hbc, hbm, hne, hC, hk3⟩
    have hk03 := hk02.out.trans hk3
    have hsz2 := hk02.out.size
    have hI0 : Hid (RunI w (w3.alloc zEnd) bc bm w3.heap.size 0 5000 ⟨0, 0, 0, [], fun _ => none⟩ ⟨0, 0, [], 0, []⟩) := by
      have hkA : Keeps [] w3 (w3.alloc zEnd) := (Keeps.refl _ _).alloc _
      have hlt1 := hC.cells.2.2.2.2.2.2
      have hlt2 := hC.early.lt
      refine ⟨⟨w3.heap.size, 0, .slice none 0 0, .slice none 0 0, .slice none 0 0, ⟨hC.keeps hkA, by simp, by simp [Value.ownBlock], ⟨SLs.nil _, SE.nil _⟩, fun b _ => ⟨by simp [Value.ownBlock], by simp [Value.ownBlock]⟩, fun b hb => by simp [Value.ownBlock] at hb, NE.none _ _ _, NE.none _ _ _⟩, Nat.le_refl _, heap_alloc_new w3 _, fun b hb => ?_⟩, Joint.new 5000, hk03.trans hkA, hk03.size⟩
      simp [own3, Value.ownBlock] at hb
      rcases hb with rfl | rfl <;> omega
    generalize hbx : w3.heap.size = bx at hI0
    have hbxw : w.heap.size ≤ bx := hI0.out.fresh
    go_wp2
    clear hC hk03 hk3 hbx
    go_loopw [5] (fun i wr => ∃ (k : Nat) (C : Chan) (E : REnd), i = .int .i64 k ∧ k ≤ N ∧ RunI w wr bc bm bx k 5000 C E) (fun i _ => N - (intOf i).toNat)
    case atStart => exact ⟨0, _, _, rfl, by omega, hI0.out⟩
    case round =>
      obtain ⟨k, C, E, rfl, hk, hI⟩ := hrel
      clear hI0
      by_cases hlt : k < N
      · obtain ⟨⟨B, n, vk, vke, vee, hW, hn, hbx, hown⟩, hJ, hkw, _⟩ := hI
        have hkL : k < L.length := by rw [hN.out]; exact hlt
        obtain ⟨g, o, c', ad, cd, hv, x0, x1, x2, hd, hok, hg⟩ := h.out.op hkL
        cases hv
        have hdl := hLd.out _ (List.getElem_mem hkL)
        generalize hOP : L[k] = OP at x0 x1 x2 hd hok hdl
        obtain ⟨K0, N0, D0⟩ := OP
        simp only at x0 x1 x2 hd hdl
        replace x0 := hkw.val x0
        replace x1 := hkw.val x1
        replace x2 := hkw.val x2
        replace hd := hd.keeps hkw
        have hgw : g < wr.heap.size := Nat.lt_of_lt_of_le hg hkw.size
        obtain ⟨p0, p1, p2, p3, p4, pf, plt⟩ := cells5 hbx
        obtain ⟨ae, ce, rfl⟩ := hW.re.early.form
        obtain ⟨ak, ck, rfl, _⟩ := hW.re.kept.form
        obtain ⟨s, hse⟩ : ∃ s, E.sent = s := ⟨_, rfl⟩
        obtain ⟨a, hae⟩ : ∃ s, E.acked = s := ⟨_, rfl⟩
        obtain ⟨r, hre⟩ : ∃ s, E.received = s := ⟨_, rfl⟩
        obtain ⟨KN, hK⟩ : ∃ s, E.kept.length = s := ⟨_, rfl⟩
        obtain ⟨EN, hEN⟩ : ∃ s, E.early.length = s := ⟨_, rfl⟩
        obtain ⟨DN, hDN⟩ : ∃ s, D0.length = s := ⟨_, rfl⟩
        have hst := fun (W : World) (hk : Keeps [] wr W) => step_c W B bc bm n k 5000 vk _ _ _ C E K0 N0 D0 (hW.keeps hk) hJ (by omega) hn (by omega) hok.2 (hd.keeps hk) hdl
        rw [hse, hae, hre, hK, hEN, hDN] at hst
        rw [hse, hae, hre, hK, hEN] at hbx
        rw [hse] at p0
        rw [hae] at p1
        rw [hK] at p2
        rw [hre] at p3
        rw [hEN] at p4
        rw [hDN] at x2
        have hol : ∀ b ∈ own3 bc bm vk, b < wr.heap.size := fun b hb => by
          simp only [own3, List.mem_cons, Option.mem_toList] at hb
          rcases hb with rfl | rfl | hb
          · exact hW.ch.cells.2.2.2.2.2.2
          · exact hW.ch.early.lt
          · exact (ge_own hW.ch.kept b hb).2
        replace hol := Lib.hid hol
        replace hst := Lib.hid hst
        replace hbx := Lib.hid hbx
        replace hkw := Lib.hid hkw
        replace hown := Lib.hid hown
        clear hse hae hre hK hEN hDN hd hJ hdl hok hOP hW
        go_wp2
        refine Free.wp_region_float 6 10 (fun i => i == 6 || i == 10 || i == 11) (fun i => true) (fun j b => j = 6 ∨ (j = 11 ∧ wr.heap.size ≤ b)) (fun i => i == 6 || i == 7 || i == 11) (fun i => true) (fun j b => j = 7 ∨ (j = 11 ∧ wr.heap.size ≤ b)) (by kernel_rfl) (by kernel_rfl) (by kernel_rfl) (by kernel_rfl) (by kernel_rfl) (by kernel_rfl) ?_ ?_
        · (repeat (first | (apply Free.cw_pure rfl rfl; (intro w'; go_simp <;> exact rfl); go_frame) | (apply Free.cw_steady rfl rfl rfl; (intro w' hS; have q0 := Free.sx_cell hS p0 (fun j hp hT => Or.elim hT (fun h => by obtain rfl := h; exact absurd hp (by decide +kernel)) (fun h => by have := h.2; omega)); have q1 := Free.sx_cell hS p1 (fun j hp hT => Or.elim hT (fun h => by obtain rfl := h; exact absurd hp (by decide +kernel)) (fun h => by have := h.2; omega)); have q2 := Free.sx_cell hS p2 (fun j hp hT => Or.elim hT (fun h => by obtain rfl := h; exact absurd hp (by decide +kernel)) (fun h => by have := h.2; omega)); have q3 := Free.sx_cell hS p3 (fun j hp hT => Or.elim hT (fun h => by obtain rfl := h; exact absurd hp (by decide +kernel)) (fun h => by have := h.2; omega)); have q4 := Free.sx_cell hS p4 (fun j hp hT => Or.elim hT (fun h => by obtain rfl := h; exact absurd hp (by decide +kernel)) (fun h => by have := h.2; omega)); have q5 := Free.sx_cell hS x0 (fun j hp hT => Or.elim hT (fun h => by obtain rfl := h; exact absurd hp (by decide +kernel)) (fun h => by have := h.2; omega)); have q6 := Free.sx_cell hS x1 (fun j hp hT => Or.elim hT (fun h => by obtain rfl := h; exact absurd hp (by decide +kernel)) (fun h => by have := h.2; omega)); have q7 := Free.sx_cell hS x2 (fun j hp hT => Or.elim hT (fun h => by obtain rfl := h; exact absurd hp (by decide +kernel)) (fun h => by have := h.2; omega)); go_simp <;> exact rfl); go_frame) | (refine Free.cw_skip rfl ?_; go_frame)))
          refine Free.cw_loud rfl rfl (fun K hK => ?_)
          go_wp2_with fail
          refine (hst.out _ ((Keeps.refl [] wr).drew)).mono ?_
          rintro e w5 ⟨vk', n', C', vke', vee', E', rfl, hW5, hJ5, hn5, _, hk5, hkb5, how5⟩
          refine hK _ _ rfl (Free.KeepsP.of hk5 (fun b hb => .inl trivial)) ?_
          clear hK K
          obtain ⟨ae2, ce2, rfl⟩ := hW5.re.early.form
          obtain ⟨ak2, ck2, rfl, _⟩ := hW5.re.kept.form
          obtain ⟨s2, hs2⟩ : ∃ x, E'.sent = x := ⟨_, rfl⟩
          obtain ⟨q2, hq2⟩ : ∃ x, E'.acked = x := ⟨_, rfl⟩
          obtain ⟨r2, hr2⟩ : ∃ x, E'.received = x := ⟨_, rfl⟩
          obtain ⟨K2, hK2⟩ : ∃ x, E'.kept.length = x := ⟨_, rfl⟩
          obtain ⟨N2, hN2⟩ : ∃ x, E'.early.length = x := ⟨_, rfl⟩
          rw [hs2, hq2, hr2, hK2, hN2]
          rw [hK2, hN2] at hW5
          have hbx5 := (hk5.block bx plt (fun hm => (hown.out bx hm).2 rfl)).trans hbx.out
          have hsz5 := hk5.size
          replace hs2 := Lib.hid hs2
          replace hq2 := Lib.hid hq2
          replace hr2 := Lib.hid hr2
          replace hK2 := Lib.hid hK2
          replace hN2 := Lib.hid hN2
          replace hbx5 := Lib.hid hbx5
          replace hW5 := Lib.hid hW5
          (repeat (apply Free.cw_pure rfl rfl; (intro w'; go_simp <;> exact rfl); go_frame))
          refine Free.cw_loud rfl rfl (fun K hK => ?_)
          go_wp2
          refine hK _ _ rfl (Free.KeepsP.alloc _ _ _) ?_
          clear hK K
          (repeat (apply Free.cw_pure rfl rfl; (intro w'; go_simp <;> exact rfl); go_frame))
          refine Free.cw_loud rfl rfl (fun K hK => ?_)
          go_wp2
          refine hK _ _ rfl (keepsP_remade _ _ _ (.inr ⟨trivial, by simpa using hsz5⟩)) ?_
          clear hK K
          (repeat (apply Free.cw_pure rfl rfl; (intro w'; go_simp <;> exact rfl); go_frame))
          refine Free.cw_nil ?_
          have hkA : Keeps [] w5 (w5.alloc (.cells #[.int .i64 s2, .int .i64 q2, .slice ak2 K2 ck2, .int .i64 r2, .slice ae2 N2 ce2] tyEnd)) := (Keeps.refl _ _).alloc _
          have hy6 := heap_alloc_new w5 (.cells #[.int .i64 s2, .int .i64 q2, .slice ak2 K2 ck2, .int .i64 r2, .slice ae2 N2 ce2] tyEnd)
          have hszA : (w5.alloc (.cells #[.int .i64 s2, .int .i64 q2, .slice ak2 K2 ck2, .int .i64 r2, .slice ae2 N2 ce2] tyEnd)).heap.size = w5.heap.size + 1 := by simp
          have hW6 := Lib.hid (hW5.out.keeps hkA)
          have hk6 : Hid (Keeps (own3 bc bm vk) wr (w5.alloc (.cells #[.int .i64 s2, .int .i64 q2, .slice ak2 K2 ck2, .int .i64 r2, .slice ae2 N2 ce2] tyEnd))) := ((Keeps.refl [] wr).drew.of_nil.trans hk5).trans hkA.of_nil
          have hbx6 := Lib.hid ((hkA.block bx (by simp at hsz5; omega) (by simp)).trans hbx5.out)
          obtain ⟨bz, hbz⟩ : ∃ b, w5.heap.size = b := ⟨_, rfl⟩
          have hbzx : bz ≠ bx := by simp at hsz5; omega
          rw [hbz] at hy6 ⊢
          clear hkA hszA hW5 hk5 hbx5 hkb5
          generalize (w5.alloc (.cells #[.int .i64 s2, .int .i64 q2, .slice ak2 K2 ck2, .int .i64 r2, .slice ae2 N2 ce2] tyEnd)) = w6 at *
          clear hbz
          obtain ⟨y0, y1, y2, y3, y4, yf, ylt⟩ := cells5 hy6
          have hsent := hJ5.sent
          have hrecv := hJ5.recv
          have hag := hJ5.agr
          have hsm := sameS_c w6 B bc bm n' vk' (.slice ak2 K2 ck2) (.slice ae2 N2 ce2) C' hW6.out.ch (by rw [hag.kept]; exact hW6.out.re.kept) ⟨_, _, _, rfl⟩ (by omega) hJ5.sum (by rw [hag.received]; omega) (fun l hl => by have := hJ5.len l hl; omega)
          rw [hag.sent, hag.acked, hag.received, hs2.out, hq2.out, hr2.out] at hsm
          replace hsm := Lib.hid hsm
          replace hy6 := Lib.hid hy6
          replace hJ5 := Lib.hid hJ5
          replace how5 := Lib.hid how5
          clear hag p0 p1 p2 p3 p4 pf
          go_wp2_with fail
          refine hsm.out.mono ?_
          rintro e w7 ⟨rfl, hk7⟩
          have hy7 := (hk7.block _ ylt (by simp)).trans hy6.out
          obtain ⟨y0, y1, y2, y3, y4, yf, ylt⟩ := cells5 hy7
          have hbx7 := (hk7.block bx (lt_of_block hbx6.out) (by simp)).trans hbx6.out
          obtain ⟨p0, p1, p2, p3, p4, pf, plt7⟩ := cells5 hbx7
          have hfin := set5_all (w := w7) hbx7 (by simp [noB]) (.int .i64 s2) (.int .i64 q2) (.slice ak2 K2 ck2) (.int .i64 r2) (.slice ae2 N2 ce2)
          replace hfin := Lib.hid hfin
          replace hbx7 := Lib.hid hbx7
          have hk7' := Lib.hid hk7
          clear hy7 hk7 hsm
          go_wp2
          go_roundw
          case rel =>
            obtain ⟨g1, g2, g3⟩ := hfin.out
            have hnb : ∀ v : Value, NE w6 v → v.ownBlock ≠ some bx := fun v hv e => hv bx e _ _ hbx6.out
            exact ⟨k + 1, C', E', rfl, by omega, RunI.next hkw.out hbxw plt hown.out hk6.out hW6.out how5.out hn hn5 hJ5.out hk7'.out g2 g3 (by rw [hs2.out, hq2.out, hr2.out]; exact g1) ⟨hnb _ hW6.out.nk, hnb _ hW6.out.ny⟩⟩
          case measure => simp [intOf]; omega
        · simp only [Free.order2, List.take_succ_cons, List.take_zero, List.drop_succ_cons, List.drop_zero, List.cons_append, List.nil_append]
          (repeat (first | (apply Free.cw_pure rfl rfl; (intro w'; go_simp <;> exact rfl); go_frame) | (apply Free.cw_steady rfl rfl rfl; (intro w' hS; have q0 := Free.sx_cell hS p0 (fun j hp hT => Or.elim hT (fun h => by obtain rfl := h; exact absurd hp (by decide +kernel)) (fun h => by have := h.2; omega)); have q1 := Free.sx_cell hS p1 (fun j hp hT => Or.elim hT (fun h => by obtain rfl := h; exact absurd hp (by decide +kernel)) (fun h => by have := h.2; omega)); have q2 := Free.sx_cell hS p2 (fun j hp hT => Or.elim hT (fun h => by obtain rfl := h; exact absurd hp (by decide +kernel)) (fun h => by have := h.2; omega)); have q3 := Free.sx_cell hS p3 (fun j hp hT => Or.elim hT (fun h => by obtain rfl := h; exact absurd hp (by decide +kernel)) (fun h => by have := h.2; omega)); have q4 := Free.sx_cell hS p4 (fun j hp hT => Or.elim hT (fun h => by obtain rfl := h; exact absurd hp (by decide +kernel)) (fun h => by have := h.2; omega)); have q5 := Free.sx_cell hS x0 (fun j hp hT => Or.elim hT (fun h => by obtain rfl := h; exact absurd hp (by decide +kernel)) (fun h => by have := h.2; omega)); have q6 := Free.sx_cell hS x1 (fun j hp hT => Or.elim hT (fun h => by obtain rfl := h; exact absurd hp (by decide +kernel)) (fun h => by have := h.2; omega)); have q7 := Free.sx_cell hS x2 (fun j hp hT => Or.elim hT (fun h => by obtain rfl := h; exact absurd hp (by decide +kernel)) (fun h => by have := h.2; omega)); go_simp <;> exact rfl); go_frame) | (refine Free.cw_skip rfl ?_; go_frame)))
          refine Free.cw_loud rfl rfl (fun K hK => ?_)
          go_wp2
          refine hK _ _ rfl (Free.KeepsP.alloc _ _ _) ?_
          clear hK K
          refine Free.cw_loud rfl rfl (fun K hK => ?_)
          go_wp2_with fail
          refine (hst.out _ (((Keeps.refl [] wr).alloc _).drew)).mono ?_
          rintro e w5 ⟨vk', n', C', vke', vee', E', rfl, hW5, hJ5, hn5, _, hk5, hkb5, how5⟩
          refine hK _ _ rfl (Free.KeepsP.of hk5 (fun b hb => .inl trivial)) ?_
          clear hK K
          obtain ⟨ae2, ce2, rfl⟩ := hW5.re.early.form
          obtain ⟨ak2, ck2, rfl, _⟩ := hW5.re.kept.form
          obtain ⟨s2, hs2⟩ : ∃ x, E'.sent = x := ⟨_, rfl⟩
          obtain ⟨q2, hq2⟩ : ∃ x, E'.acked = x := ⟨_, rfl⟩
          obtain ⟨r2, hr2⟩ : ∃ x, E'.received = x := ⟨_, rfl⟩
          obtain ⟨K2, hK2⟩ : ∃ x, E'.kept.length = x := ⟨_, rfl⟩
          obtain ⟨N2, hN2⟩ : ∃ x, E'.early.length = x := ⟨_, rfl⟩
          rw [hs2, hq2, hr2, hK2, hN2]
          rw [hK2, hN2] at hW5
          have hz5 := (hk5.block wr.heap.size (by simp) (fun hm => by have := hol.out _ hm; omega)).trans (heap_alloc_new wr _)
          have hbx5 := (hk5.block bx (by simp; omega) (fun hm => (hown.out bx hm).2 rfl)).trans ((((Keeps.refl [] wr).alloc zEnd).drew.block bx plt (by simp)).trans hbx.out)
          have hsz5 := hk5.size
          obtain ⟨z0, z1, z2, z3, z4, zf, zlt⟩ := cells5 hz5
          have hfin := set5_all (w := w5) hz5 (by simp [noB]) (.int .i64 s2) (.int .i64 q2) (.slice ak2 K2 ck2) (.int .i64 r2) (.slice ae2 N2 ce2)
          replace hfin := Lib.hid hfin
          replace hs2 := Lib.hid hs2
          replace hq2 := Lib.hid hq2
          replace hr2 := Lib.hid hr2
          replace hK2 := Lib.hid hK2
          replace hN2 := Lib.hid hN2
          replace hbx5 := Lib.hid hbx5
          replace hz5 := Lib.hid hz5
          replace hW5 := Lib.hid hW5
          (repeat (apply Free.cw_pure rfl rfl; (intro w'; go_simp <;> exact rfl); go_frame))
          refine Free.cw_loud rfl rfl (fun K hK => ?_)
          go_wp2
          refine hK _ _ rfl (Free.KeepsP.of hfin.out.2.1 (fun b hb => .inr ⟨trivial, by simp at hb; omega⟩)) ?_
          clear hK K
          (repeat (apply Free.cw_pure rfl rfl; (intro w'; go_simp <;> exact rfl); go_frame))
          refine Free.cw_nil ?_
          obtain ⟨hy6, g2, g3⟩ := hfin.out
          have hnz : ∀ v : Value, NE w5 v → v.ownBlock ≠ some wr.heap.size := fun v hv e => hv _ e _ _ hz5.out
          have hW6 := Lib.hid (hW5.out.keep1 g2 g3 (fun hm => by
            simp only [own3, List.mem_cons, Option.mem_toList] at hm
            rcases hm with e | e | e
            · have := hol.out bc (by simp [own3]); omega
            · have := hol.out bm (by simp [own3]); omega
            · rcases how5 with h | h
              · have := hol.out wr.heap.size (by simp [own3, ← h, e]); omega
              · have := h _ e; simp at this; omega) (hnz _ hW5.out.nk) (hnz _ hW5.out.ny))
          have hk6 := Lib.hid ((((Keeps.refl [] wr).alloc zEnd).drew.of_nil.trans hk5).fresh g2 (fun b hb => .inr (by simp at hb; omega)))
          have hbx6 := Lib.hid ((g2.block bx (lt_of_block hbx5.out) (by simp; omega)).trans hbx5.out)
          replace how5 : vk'.ownBlock = vk.ownBlock ∨ ∀ b, vk'.ownBlock = some b → wr.heap.size ≤ b := how5.elim .inl (fun h => .inr fun b e => by have := h b e; simp at this; omega)
          obtain ⟨bz, hbz⟩ : ∃ b, wr.heap.size = b := ⟨_, rfl⟩
          have hbzx : bz ≠ bx := by omega
          rw [hbz] at hy6 g2 g3 hW6 hk6 hbx6 ⊢
          clear hfin hW5 hk5 hbx5 hkb5 g2 g3 z0 z1 z2 z3 z4 zf zlt hnz hz5
          generalize (((((w5.setCell ⟨bz, 0, none⟩ (.int .i64 s2)).setCell ⟨bz, 1, none⟩ (.int .i64 q2)).setCell ⟨bz, 2, none⟩ (.slice ak2 K2 ck2)).setCell ⟨bz, 3, none⟩ (.int .i64 r2)).setCell ⟨bz, 4, none⟩ (.slice ae2 N2 ce2)) = w6 at *
          obtain ⟨y0, y1, y2, y3, y4, yf, ylt⟩ := cells5 hy6
          have hsent := hJ5.sent
          have hrecv := hJ5.recv
          have hag := hJ5.agr
          have hsm := sameS_c w6 B bc bm n' vk' (.slice ak2 K2 ck2) (.slice ae2 N2 ce2) C' hW6.out.ch (by rw [hag.kept]; exact hW6.out.re.kept) ⟨_, _, _, rfl⟩ (by omega) hJ5.sum (by rw [hag.received]; omega) (fun l hl => by have := hJ5.len l hl; omega)
          rw [hag.sent, hag.acked, hag.received, hs2.out, hq2.out, hr2.out] at hsm
          replace hsm := Lib.hid hsm
          replace hy6 := Lib.hid hy6
          replace hJ5 := Lib.hid hJ5
          replace how5 := Lib.hid how5
          clear hag p0 p1 p2 p3 p4 pf
          go_wp2_with fail
          refine hsm.out.mono ?_
          rintro e w7 ⟨rfl, hk7⟩
          have hy7 := (hk7.block _ ylt (by simp)).trans hy6.out
          obtain ⟨y0, y1, y2, y3, y4, yf, ylt⟩ := cells5 hy7
          have hbx7 := (hk7.block bx (lt_of_block hbx6.out) (by simp)).trans hbx6.out
          obtain ⟨p0, p1, p2, p3, p4, pf, plt7⟩ := cells5 hbx7
          have hfin := set5_all (w := w7) hbx7 (by simp [noB]) (.int .i64 s2) (.int .i64 q2) (.slice ak2 K2 ck2) (.int .i64 r2) (.slice ae2 N2 ce2)
          replace hfin := Lib.hid hfin
          replace hbx7 := Lib.hid hbx7
          have hk7' := Lib.hid hk7
          clear hy7 hk7 hsm
          go_wp2
          go_roundw
          case rel =>
            obtain ⟨g1, g2, g3⟩ := hfin.out
            have hnb : ∀ v : Value, NE w6 v → v.ownBlock ≠ some bx := fun v hv e => hv bx e _ _ hbx6.out
            exact ⟨k + 1, C', E', rfl, by omega, RunI.next hkw.out hbxw plt hown.out hk6.out hW6.out how5.out hn hn5 hJ5.out hk7'.out g2 g3 (by rw [hs2.out, hq2.out, hr2.out]; exact g1) ⟨hnb _ hW6.out.nk, hnb _ hW6.out.ny⟩⟩
          case measure => simp [intOf]; omega
      · replace hkw := Lib.hid hI.keeps
        clear hI
        go_wp2
        go_ret
        exact ⟨rfl, hkw.out⟩
end Go.Proofs.Ytilmcdieihmiaaa

namespace Go.Proofs.Ytilmcdieihmiaaa
open Go.ChangeShapes Go.WideShapes Go.ChangeAt Go.RowKit

def u8 (z : Int) : UInt8 := UInt8.ofNat z.toNat
theorem u8_back {z : Int} (h : (Lit.int .u8 z).wf = true) : ((u8 z).toNat : Int) = z := by
  have hb : 0 ≤ z ∧ z ≤ 255 := by simpa [Lit.wf, IntKind.min, IntKind.max, IntKind.signed, IntKind.bits] using h
  simp [u8]; omega
theorem slB_of {W : World} {A : Option Addr} {L C : Nat} {Z : List Int} (hl : L ≤ C) (hc : C ≤ maxLen) (hz : Z.length = C) (hw : ∀ n ∈ Z, (Lit.int .u8 n).wf = true) (hA : A = none → C = 0)
    (hcell : ∀ a', A = some a' → ∀ c, c < C → W.cell? (a'.add c) = some (.int .u8 (Z.getD c 0))) : SlB W (.slice A L C) ((Z.take L).map u8) ∧ ((Z.take L).map u8).length = L := by
  have hlen : ((Z.take L).map u8).length = L := by simp; omega
  refine ⟨⟨by simp [bys], A, C, by rw [hlen], by omega, hc, hA, fun hp => ?_⟩, hlen⟩
  have hp' : 0 < L := by simp [bys] at hp; omega
  cases A with
  | none => have := hA rfl; omega
  | some a =>
    obtain ⟨b, off, spot⟩ := a
    have h0 := hcell _ rfl 0 (by omega)
    have hspot : spot = none := by simpa [Addr.add] using World.cell?_spot h0
    subst hspot
    refine ⟨b, off, rfl, fun j u hj => ?_⟩
    have hjl : j < L := by
      have := (List.getElem?_eq_some_iff.1 hj).1
      simp [bys] at this; omega
    have hjz : j < Z.length := by omega
    have e : u = .int .u8 (Z[j]) := by
      have hw' := u8_back (hw Z[j] (List.getElem_mem _))
      simp [bys, List.getElem?_take, hjl, hjz] at hj
      rw [← hj, hw']
    subst e
    have := hcell _ rfl j (by omega)
    rw [add_plain] at this
    rw [this]
    simp [List.getD, hjz]

theorem ceB : Try.prog.cellsOf 5 = 1 := by kernel_rfl
theorem ceL : Try.prog.cellsOf 23 = 1 := by kernel_rfl
set_option maxRecDepth 100000 in
set_option maxHeartbeats 1000000 in
theorem open_bytesT {H : Type} {t e : TypeId} (ht : Try.prog.underlying t = some (.slice e)) (he : Try.prog.underlying e = some (.int .u8)) (hce : Try.prog.cellsOf e = 1) {enc : TypeId × Value → H} {W : World} {base : Nat} {r : Reach} {v : Value} {d : DataW H} {ps : List MemPlace} (hv : Value.okWide Try.prog W r base t v)
    (h : DataW.Trod enc Try.prog W 0 (fun _ => true) true t v d ps) : ∃ l : List UInt8, SlB W v l := by
  obtain ⟨a0, n0, c0, rfl⟩ := okWide_slice ht hv
  obtain ⟨fuel, hf⟩ := h
  rcases open_ints ht he hce hf with ⟨hcs, _⟩ | ⟨a', len', cap', zs, hcs, hb', hl', hm', hz, hy, hcell, hwz⟩
  · simp [Value.cells] at hcs
    obtain ⟨rfl, rfl, rfl⟩ := hcs
    exact ⟨[], SlB.nil _⟩
  · simp [Value.cells] at hcs
    obtain ⟨rfl, rfl, rfl⟩ := hcs
    simp only [if_true] at hz
    exact ⟨_, (slB_of hl' hm' hz hwz (fun e => by cases e) (fun a'' e c hc => by cases e; exact hcell c (by rw [hz]; exact hc))).1⟩

set_option maxRecDepth 100000 in
set_option maxHeartbeats 1000000 in
theorem open_textsT {H : Type} {t e q : TypeId} (ht : Try.prog.underlying t = some (.slice e)) (he : Try.prog.underlying e = some (.slice q)) (hq : Try.prog.underlying q = some (.int .u8)) (hce : Try.prog.cellsOf e = 1) (hcq : Try.prog.cellsOf q = 1) {enc : TypeId × Value → H} {W : World} {base : Nat} {r : Reach} {v : Value} {d : DataW H} {ps : List MemPlace} (hv : Value.okWide Try.prog W r base t v)
    (h : DataW.Trod enc Try.prog W 0 (fun _ => true) true t v d ps) : ∃ ls : List (List UInt8), SLs W v ls := by
  obtain ⟨a0, n0, c0, rfl⟩ := okWide_slice ht hv
  obtain ⟨fuel, hf⟩ := h
  rcases Go.Deep.open_int_rows ht he hq hce hcq hf with ⟨hcs, _⟩ | ⟨a, len, cap, A, L, C, Z, hcs, _, hl, hm, _, hx⟩
  · simp [Value.cells] at hcs
    obtain ⟨rfl, rfl, rfl⟩ := hcs
    exact ⟨[], SLs.nil _⟩
  · simp [Value.cells] at hcs
    obtain ⟨rfl, rfl, rfl⟩ := hcs
    refine ⟨(List.range n0).map fun r => ((Z r).take (L r)).map u8, (List.range n0).map fun r => .slice (A r) (L r) (C r), ⟨by simp, some a, c0, by simp, by simpa using hl, hm, by simp, fun hp => ?_⟩, fun k c l h1 h2 => ?_⟩
    · have hn : 0 < n0 := by simpa using hp
      obtain ⟨b, off, spot⟩ := a
      have hspot : spot = none := by simpa [Addr.add] using World.cell?_spot (hx 0 (by omega)).1
      subst hspot
      refine ⟨b, off, rfl, fun j u hj => ?_⟩
      have hjl : j < n0 := by have := (List.getElem?_eq_some_iff.1 hj).1; simpa using this
      simp [hjl] at hj
      subst hj
      have := (hx j (by omega)).1
      rwa [add_plain] at this
    · have hk : k < n0 := by have := (List.getElem?_eq_some_iff.1 h1).1; simpa using this
      simp [hk] at h1 h2
      subst h1; subst h2
      obtain ⟨_, r1, r2, r3, r4, r5, r6⟩ := hx k (by omega)
      simpa using (slB_of r1 r2 r3 r4 r5 (fun a' e => (r6 a' e).2)).1
set_option maxRecDepth 100000 in
set_option maxHeartbeats 1000000 in
theorem open_bytes {H : Type} {enc : TypeId × Value → H} {W : World} {base : Nat} {r : Reach} {v : Value} {d : DataW H} {ps : List MemPlace} (hv : Value.okWide Try.prog W r base 23 v)
    (h : DataW.Trod enc Try.prog W 0 (fun _ => true) true 23 v d ps) : ∃ l : List UInt8, SlB W v l :=
  open_bytesT Try.underlying23 Try.underlying5 ceB hv h
set_option maxRecDepth 100000 in
set_option maxHeartbeats 1000000 in
theorem open_texts {H : Type} {enc : TypeId × Value → H} {W : World} {base : Nat} {r : Reach} {v : Value} {d : DataW H} {ps : List MemPlace} (hv : Value.okWide Try.prog W r base 22 v)
    (h : DataW.Trod enc Try.prog W 0 (fun _ => true) true 22 v d ps) : ∃ ls : List (List UInt8), SLs W v ls :=
  open_textsT Try.underlying22 Try.underlying23 Try.underlying5 ceL ceB hv h
end Go.Proofs.Ytilmcdieihmiaaa

namespace Go.Proofs.Ytilmcdieihmiaaa
open Go.ChangeShapes Go.WideShapes Go.ChangeAt Go.RowKit

set_option maxRecDepth 100000 in
set_option maxHeartbeats 1000000 in
theorem cs_bytes {w : World} {c : Value} (h : Gen.Cs Try.prog w 23 [c]) : ∃ l, SlB w c l := by
  obtain ⟨L, hL, _⟩ := Gen.SlR.open (R := fun _ cs (x : UInt8) => cs = [.int .u8 (x.toNat : Int)]) Try.underlying23 ceB (by decide) (fun cs hcs => by
    obtain ⟨k, hk, wk⟩ := Gen.Cs.int Try.underlying5 hcs
    exact ⟨u8 k, by rw [hk, u8_back wk]⟩) h
  exact ⟨L, Gen.SlR.map hL⟩
set_option maxRecDepth 100000 in
set_option maxHeartbeats 1000000 in
theorem cs_op {w : World} {cs : List Value} (h : Gen.Cs Try.prog w 48 cs) : ∃ x, OpR w cs x := by
  obtain ⟨hl, hall⟩ := Gen.Cs.struct Try.underlying48 h
  rw [show Try.prog.cellsOf 48 = 3 by kernel_rfl] at hl
  obtain ⟨a, b, c, rfl⟩ : ∃ a b c, cs = [a, b, c] := by
    match cs, hl with
    | [a, b, c], _ => exact ⟨a, b, c, rfl⟩
  have h0 := hall 0 _ rfl
  have h1 := hall 1 _ rfl
  have h2 := hall 2 _ rfl
  replace h0 : Gen.Cs Try.prog w 5 (([a, b, c].drop 0).take (Try.prog.cellsOf 5)) := h0
  replace h1 : Gen.Cs Try.prog w 3 (([a, b, c].drop 1).take (Try.prog.cellsOf 3)) := h1
  replace h2 : Gen.Cs Try.prog w 23 (([a, b, c].drop 2).take (Try.prog.cellsOf 23)) := h2
  rw [show Try.prog.cellsOf 5 = 1 by kernel_rfl] at h0
  rw [show Try.prog.cellsOf 3 = 1 by kernel_rfl] at h1
  rw [show Try.prog.cellsOf 23 = 1 by kernel_rfl] at h2
  obtain ⟨k, hk, wk⟩ := Gen.Cs.int Try.underlying5 h0
  obtain ⟨n, hn, wn⟩ := Gen.Cs.int Try.underlying3 h1
  simp at hk hn h2
  subst hk hn
  have hb : 0 ≤ k ∧ k ≤ 255 := by simpa [Lit.wf, IntKind.min, IntKind.max, IntKind.signed, IntKind.bits] using wk
  have hn : -9223372036854775808 ≤ n ∧ n ≤ 9223372036854775807 := by simpa [Lit.wf, IntKind.min, IntKind.max, IntKind.signed, IntKind.bits] using wn
  obtain ⟨l, hl⟩ := cs_bytes h2
  exact ⟨⟨k.toNat, n, l⟩, c, by simp; omega, hl, by simp [OpV.ok]; omega⟩
set_option maxRecDepth 100000 in
set_option maxHeartbeats 1000000 in
theorem open_ops {H : Type} {enc : TypeId × Value → H} {W : World} {base : Nat} {r : Reach} {v : Value} {d : DataW H} {ps : List MemPlace} (hv : Value.okWide Try.prog W r base 40 v)
    (h : DataW.Trod enc Try.prog W 0 (fun _ => true) true 40 v d ps) : ∃ L, SOps W v L := by
  obtain ⟨a0, n0, c0, rfl⟩ := okWide_slice Try.underlying40 hv
  obtain ⟨L, hL, _⟩ := Gen.SlR.open (R := OpR) Try.underlying40 (show Try.prog.cellsOf 48 = 3 by kernel_rfl) (by decide) (fun cs hcs => cs_op hcs) (Gen.Cs.of_trod rfl h)
  exact ⟨L, hL⟩
set_option maxRecDepth 100000 in
set_option maxHeartbeats 1000000 in
theorem open_op {H : Type} {enc : TypeId × Value → H} {W : World} {base : Nat} {r : Reach} {v : Value} {d : DataW H} {ps : List MemPlace} (_hv : Value.okWide Try.prog W r base 48 v)
    (h : DataW.Trod enc Try.prog W 0 (fun _ => true) true 48 v d ps) : ∃ x, OpR W v.cells.toList x := cs_op (Gen.Cs.of_agg h)
set_option maxRecDepth 100000 in
set_option maxHeartbeats 1000000 in
theorem open_opv {H : Type} {enc : TypeId × Value → H} {W : World} {base : Nat} {r : Reach} {v : Value} {d : DataW H} {ps : List MemPlace} (hv : Value.okWide Try.prog W r base 48 v)
    (h : DataW.Trod enc Try.prog W 0 (fun _ => true) true 48 v d ps) : ∃ (k : Nat) (n : Int) (c : Value) (b : Bytes), v = .agg #[.int .u8 k, .int .i64 n, c] ∧ SlB W c b ∧ k < 256 ∧ -9223372036854775808 ≤ n ∧ n ≤ 9223372036854775807 := by
  obtain ⟨⟨k, n, b⟩, c, hc, hb, h1, h2⟩ := open_op hv h
  obtain ⟨cs, rfl, _⟩ := okWide_struct Try.underlying48 hv
  refine ⟨k, n, c, b, ?_, hb, h1, h2⟩
  have : cs.toList = [.int .u8 k, .int .i64 n, c] := hc
  rw [← Array.toArray_toList (xs := cs), this]
end Go.Proofs.Ytilmcdieihmiaaa

namespace Go.Proofs.Ytilmcdieihmiaaa
open Go.ChangeShapes Go.WideShapes Go.ChangeAt Go.RowKit
theorem own : ownKnob Try.prog.godebug = none := by kernel_rfl
theorem laidOut : laidOutB Try.prog = true := by kernel_rfl
end Go.Proofs.Ytilmcdieihmiaaa

namespace Go.Proofs.Ytilmcdieihmiaaa
open Go.RowKit

/-- What a run leaves. -/
def RunPost (w : World) (N : Nat) (e : Ending) (w' : World) : Prop :=
  ∃ B bc bm n vk vke vee C E, e = .returned (.tuple #[.pointer (some ⟨bc, 0, none⟩), .agg #[.int .i64 E.sent, .int .i64 E.acked, vke, .int .i64 E.received, vee], .bool true]) ∧ BothW w' B bc bm n vk vke vee C E ∧ Joint C E N 5000 ∧ n ≤ N ∧ (∀ b ∈ own3 bc bm vk, w.heap.size ≤ b) ∧ Keeps [] w w'
set_option maxRecDepth 100000 in
set_option maxHeartbeats 1600000 in
theorem run_c (w : World) (v0 : Value) (L : List OpV) (h : SOps w v0 L) (hL30 : L.length ≤ 30) (hLd : ∀ x ∈ L, x.d.length ≤ 5000) :
    Calls Try.prog 28 #[v0] w (RunPost w L.length) := by
  obtain ⟨a, c, rfl, hlc, hcm, _⟩ := Gen.SlR.form h
  obtain ⟨N, hN⟩ : ∃ N, L.length = N := ⟨_, rfl⟩
  have hkA : Keeps [] w (w.alloc zEnd) := (Keeps.refl _ _).alloc _
  have hr0 := heap_alloc_new w zEnd
  have hszA : (w.alloc zEnd).heap.size = w.heap.size + 1 := by simp
  rw [hN] at hlc h hL30 ⊢
  unfold maxLen at hcm
  replace h := Lib.hid (h.keeps hkA)
  replace hN := Lib.hid hN
  replace hLd := Lib.hid hLd
  replace hkA := Lib.hid hkA
  replace hr0 := Lib.hid hr0
  go_enter Try.func28, Try.ntmps28
  go_wp2_with fail
  generalize w.alloc zEnd = W at *
  refine (new_c _).mono ?_
  rintro e w3 ⟨bc, bm, rfl, hbc, hbm, hne, hC, hk3⟩
  go_wp2
  have hI0 : Hid (RunI W (w3.alloc zEnd) bc bm w3.heap.size 0 5000 ⟨0, 0, 0, [], fun _ => none⟩ ⟨0, 0, [], 0, []⟩) := by
    have hkB : Keeps [] w3 (w3.alloc zEnd) := (Keeps.refl _ _).alloc _
    have hlt1 := hC.cells.2.2.2.2.2.2
    have hlt2 := hC.early.lt
    refine ⟨⟨w3.heap.size, 0, .slice none 0 0, .slice none 0 0, .slice none 0 0, ⟨hC.keeps hkB, by simp, by simp [Value.ownBlock], ⟨SLs.nil _, SE.nil _⟩, fun b _ => ⟨by simp [Value.ownBlock], by simp [Value.ownBlock]⟩, fun b hb => by simp [Value.ownBlock] at hb, NE.none _ _ _, NE.none _ _ _⟩, Nat.le_refl _, heap_alloc_new w3 _, fun b hb => ?_⟩, Joint.new 5000, hk3.trans hkB, hk3.size⟩
    simp [own3, Value.ownBlock] at hb
    rcases hb with rfl | rfl <;> omega
  generalize hbx : w3.heap.size = bx at hI0 ⊢
  have hbxw : W.heap.size ≤ bx := hI0.out.fresh
  clear hC hk3 hbx
  go_loopw [7, 8] (fun ok i wr => ∃ (k : Nat) (C : Chan) (E : REnd), ok = .bool true ∧ i = .int .i64 k ∧ k ≤ N ∧ RunI W wr bc bm bx k 5000 C E) (fun _ i _ => N - (intOf i).toNat)
  case atStart => exact ⟨0, _, _, rfl, rfl, by omega, hI0.out⟩
  case round =>
    obtain ⟨k, C, E, rfl, rfl, hk, hI⟩ := hrel
    clear hI0
    by_cases hlt : k < N
    · skip
      obtain ⟨⟨B, n, vk, vke, vee, hW, hn, hbx, hown⟩, hJ, hkw, _⟩ := hI
      have hkL : k < L.length := by rw [hN.out]; exact hlt
      obtain ⟨g, o, c', ad, cd, hv, x0, x1, x2, hd, hok, hg⟩ := h.out.op hkL
      cases hv
      have hdl := hLd.out _ (List.getElem_mem hkL)
      generalize hOP : L[k] = OP at x0 x1 x2 hd hok hdl
      obtain ⟨K0, N0, D0⟩ := OP
      simp only at x0 x1 x2 hd hdl
      replace x0 := hkw.val x0
      replace x1 := hkw.val x1
      replace x2 := hkw.val x2
      replace hd := hd.keeps hkw
      have hgw : g < wr.heap.size := Nat.lt_of_lt_of_le hg hkw.size
      obtain ⟨p0, p1, p2, p3, p4, pf, plt⟩ := cells5 hbx
      obtain ⟨ae, ce, rfl⟩ := hW.re.early.form
      obtain ⟨ak, ck, rfl, _⟩ := hW.re.kept.form
      obtain ⟨s, hse⟩ : ∃ s, E.sent = s := ⟨_, rfl⟩
      obtain ⟨a, hae⟩ : ∃ s, E.acked = s := ⟨_, rfl⟩
      obtain ⟨r, hre⟩ : ∃ s, E.received = s := ⟨_, rfl⟩
      obtain ⟨KN, hK⟩ : ∃ s, E.kept.length = s := ⟨_, rfl⟩
      obtain ⟨EN, hEN⟩ : ∃ s, E.early.length = s := ⟨_, rfl⟩
      obtain ⟨DN, hDN⟩ : ∃ s, D0.length = s := ⟨_, rfl⟩
      have hst := fun (W : World) (hk : Keeps [] wr W) => step_c W B bc bm n k 5000 vk _ _ _ C E K0 N0 D0 (hW.keeps hk) hJ (by omega) hn (by omega) hok.2 (hd.keeps hk) hdl
      rw [hse, hae, hre, hK, hEN, hDN] at hst
      rw [hse, hae, hre, hK, hEN] at hbx
      rw [hse] at p0
      rw [hae] at p1
      rw [hK] at p2
      rw [hre] at p3
      rw [hEN] at p4
      rw [hDN] at x2
      have hol : ∀ b ∈ own3 bc bm vk, b < wr.heap.size := fun b hb => by
        simp only [own3, List.mem_cons, Option.mem_toList] at hb
        rcases hb with rfl | rfl | hb
        · exact hW.ch.cells.2.2.2.2.2.2
        · exact hW.ch.early.lt
        · exact (ge_own hW.ch.kept b hb).2
      replace hol := Lib.hid hol
      replace hst := Lib.hid hst
      replace hbx := Lib.hid hbx
      replace hkw := Lib.hid hkw
      replace hown := Lib.hid hown
      clear hse hae hre hK hEN hDN hd hJ hdl hok hOP hW
      go_wp2
      refine Free.wp_region_chain (fun i => i == 6 || i == 10) (fun i => true) (fun j b => j = 6 ∨ j = 10) (by kernel_rfl) (by kernel_rfl) (by kernel_rfl) ?_
      (repeat (first | (apply Free.cw_pure rfl rfl; (intro w'; go_simp <;> exact rfl); go_frame) | (apply Free.cw_steady rfl rfl rfl; (intro w' hS; have q0 := Free.sx_cell hS p0 (fun j hp hT => Or.elim hT (fun h => by obtain rfl := h; exact absurd hp (by decide +kernel)) (fun h => by obtain rfl := h; exact absurd hp (by decide +kernel))); have q1 := Free.sx_cell hS p1 (fun j hp hT => Or.elim hT (fun h => by obtain rfl := h; exact absurd hp (by decide +kernel)) (fun h => by obtain rfl := h; exact absurd hp (by decide +kernel))); have q2 := Free.sx_cell hS p2 (fun j hp hT => Or.elim hT (fun h => by obtain rfl := h; exact absurd hp (by decide +kernel)) (fun h => by obtain rfl := h; exact absurd hp (by decide +kernel))); have q3 := Free.sx_cell hS p3 (fun j hp hT => Or.elim hT (fun h => by obtain rfl := h; exact absurd hp (by decide +kernel)) (fun h => by obtain rfl := h; exact absurd hp (by decide +kernel))); have q4 := Free.sx_cell hS p4 (fun j hp hT => Or.elim hT (fun h => by obtain rfl := h; exact absurd hp (by decide +kernel)) (fun h => by obtain rfl := h; exact absurd hp (by decide +kernel))); have q5 := Free.sx_cell hS x0 (fun j hp hT => Or.elim hT (fun h => by obtain rfl := h; exact absurd hp (by decide +kernel)) (fun h => by obtain rfl := h; exact absurd hp (by decide +kernel))); have q6 := Free.sx_cell hS x1 (fun j hp hT => Or.elim hT (fun h => by obtain rfl := h; exact absurd hp (by decide +kernel)) (fun h => by obtain rfl := h; exact absurd hp (by decide +kernel))); have q7 := Free.sx_cell hS x2 (fun j hp hT => Or.elim hT (fun h => by obtain rfl := h; exact absurd hp (by decide +kernel)) (fun h => by obtain rfl := h; exact absurd hp (by decide +kernel))); go_simp <;> exact rfl); go_frame) | (refine Free.cw_skip rfl ?_; go_frame)))
      refine Free.cw_loud rfl rfl (fun K hK => ?_)
      go_wp2_with fail
      refine (hst.out _ ((Keeps.refl [] wr).drew)).mono ?_
      rintro e w5 ⟨vk', n', C', vke', vee', E', rfl, hW5, hJ5, hn5, _, hk5, hkb5, how5⟩
      refine hK _ _ rfl (Free.KeepsP.of hk5 (fun b hb => .inl trivial)) ?_
      clear hK K
      obtain ⟨ae2, ce2, rfl⟩ := hW5.re.early.form
      obtain ⟨ak2, ck2, rfl, _⟩ := hW5.re.kept.form
      obtain ⟨s2, hs2⟩ : ∃ x, E'.sent = x := ⟨_, rfl⟩
      obtain ⟨q2, hq2⟩ : ∃ x, E'.acked = x := ⟨_, rfl⟩
      obtain ⟨r2, hr2⟩ : ∃ x, E'.received = x := ⟨_, rfl⟩
      obtain ⟨K2, hK2⟩ : ∃ x, E'.kept.length = x := ⟨_, rfl⟩
      obtain ⟨N2, hN2⟩ : ∃ x, E'.early.length = x := ⟨_, rfl⟩
      rw [hs2, hq2, hr2, hK2, hN2]
      rw [hK2, hN2] at hW5
      have hbx5 := (hk5.block bx plt (fun hm => (hown.out bx hm).2 rfl)).trans hbx.out
      have hsz5 := hk5.size
      obtain ⟨z0, z1, z2, z3, z4, zf, zlt⟩ := cells5 hbx5
      have hfin := set5_all (w := w5) hbx5 (by simp [noB]) (.int .i64 s2) (.int .i64 q2) (.slice ak2 K2 ck2) (.int .i64 r2) (.slice ae2 N2 ce2)
      replace hfin := Lib.hid hfin
      replace hs2 := Lib.hid hs2
      replace hq2 := Lib.hid hq2
      replace hr2 := Lib.hid hr2
      replace hK2 := Lib.hid hK2
      replace hN2 := Lib.hid hN2
      replace hbx5 := Lib.hid hbx5
      replace hW5 := Lib.hid hW5
      replace hk5 := Lib.hid hk5
      replace how5 := Lib.hid how5
      (repeat (apply Free.cw_pure rfl rfl; (intro w'; go_simp <;> exact rfl); go_frame))
      refine Free.cw_loud rfl rfl (fun K hK => ?_)
      go_wp2
      refine hK _ _ rfl (Free.KeepsP.of hfin.out.2.1 (fun b hb => .inr trivial)) ?_
      clear hK K
      (repeat (apply Free.cw_pure rfl rfl; (intro w'; go_simp <;> exact rfl); go_frame))
      refine Free.cw_nil ?_
      go_wp2
      go_roundw
      case rel =>
        obtain ⟨g1, g2, g3⟩ := hfin.out
        have hnb : ∀ v : Value, NE w5 v → v.ownBlock ≠ some bx := fun v hv e => hv bx e _ _ hbx5.out
        exact ⟨k + 1, C', E', rfl, rfl, by omega, RunI.next hkw.out hbxw plt hown.out ((Keeps.refl [] wr).drew.of_nil.trans hk5.out) hW5.out how5.out hn hn5 hJ5 (Keeps.refl _ _) g2 g3 (by rw [hs2.out, hq2.out, hr2.out]; exact g1) ⟨hnb _ hW5.out.nk, hnb _ hW5.out.ny⟩⟩
      case measure => simp [intOf]; omega
    · have hkN : k = N := by omega
      subst hkN
      obtain ⟨⟨B, n, vk, vke, vee, hW, hn, hbx, hown⟩, hJ, hkw, _⟩ := hI
      obtain ⟨p0, p1, p2, p3, p4, pf, plt⟩ := cells5 hbx
      have hrb := (hkw.block w.heap.size (by omega) (by simp)).trans hr0.out
      obtain ⟨z0, z1, z2, z3, z4, zf, zlt⟩ := cells5 hrb
      have hfin := set5_all (w := wr) hrb (by simp [noB]) (.int .i64 E.sent) (.int .i64 E.acked) vke (.int .i64 E.received) vee
      obtain ⟨ae, ce, rfl⟩ := hW.re.early.form
      obtain ⟨ak, ck, rfl, _⟩ := hW.re.kept.form
      have hbxn : bx ≠ w.heap.size := by omega
      replace hfin := Lib.hid hfin
      replace hW := Lib.hid hW
      replace hown := Lib.hid hown
      replace hkw := Lib.hid hkw
      replace hrb := Lib.hid hrb
      clear hbx
      go_wp2
      refine Free.wp_region_chain (fun i => i == 4) (fun i => true) (fun j b => j = 4 ∧ b = w.heap.size) (by kernel_rfl) (by kernel_rfl) (by kernel_rfl) ?_
      (repeat (first | (apply Free.cw_pure rfl rfl; (intro w'; go_simp <;> exact rfl); go_frame) | (apply Free.cw_steady rfl rfl rfl; (intro w' hS; have q0 := Free.sx_cell hS p0 (fun _ _ hT => hbxn hT.2); have q1 := Free.sx_cell hS p1 (fun _ _ hT => hbxn hT.2); have q2 := Free.sx_cell hS p2 (fun _ _ hT => hbxn hT.2); have q3 := Free.sx_cell hS p3 (fun _ _ hT => hbxn hT.2); have q4 := Free.sx_cell hS p4 (fun _ _ hT => hbxn hT.2); go_simp <;> exact rfl); go_frame) | (refine Free.cw_skip rfl ?_; go_frame)))
      refine Free.cw_loud rfl rfl (fun K hK => ?_)
      go_wp2
      refine hK _ _ rfl (Free.KeepsP.of hfin.out.2.1.drews (fun b hb => ⟨trivial, by simpa using hb⟩)) ?_
      clear hK K
      (repeat (apply Free.cw_pure rfl rfl; (intro w'; go_simp <;> exact rfl); go_frame))
      refine Free.cw_nil ?_
      go_wp2
      obtain ⟨g1, g2, g3⟩ := hfin.out
      refine bodyPost_ret (results_mid3 rfl _ _ _ _ _ _ _ _ _ _ rfl g1) rfl ?_
      have hnb : ∀ v : Value, NE wr v → v.ownBlock ≠ some w.heap.size := fun v hv e => hv _ e _ _ hrb.out
      exact ⟨B, bc, bm, n, vk, _, _, C, E, rfl, (hW.out.keep1 g2 g3 (fun hm => by have := (hown.out _ hm).1; omega) (hnb _ hW.out.nk) (hnb _ hW.out.ny)).keeps ((Keeps.refl [] _).drew), hJ, hn, fun b hb => by have := (hown.out b hb).1; omega, ((hkA.out.trans hkw.out).fresh g2 (by simp)).drew⟩
end Go.Proofs.Ytilmcdieihmiaaa

namespace Go.Proofs.Ytilmcdieihmiaaa
open Go.RowKit

theorem Dr.had {C C1 : Chan} {o : List Bytes} {q : Nat} (h : Dr C C1 o) (hq : (∃ l, C.early q = some l) ∨ q ≤ C.received) : (∃ l, C1.early q = some l) ∨ q ≤ C1.received := by
  induction h with
  | refl => exact hq
  | step _ _ ih =>
    rename_i C2 _ _ _ _
    simp only [Chan.take]
    rcases ih with ⟨l, hl⟩ | h
    · by_cases e : (q : Int) = (C2.received : Int) + 1
      · exact .inr (by omega)
      · exact .inl ⟨l, by simp [e, hl]⟩
    · exact .inr (by omega)
theorem Dr.recv_le {C C1 : Chan} {o : List Bytes} (h : Dr C C1 o) : C.received ≤ C1.received := by
  induction h with
  | refl => exact Nat.le_refl _
  | step _ _ ih => simp only [Chan.take]; omega
theorem Chan.ackd_ackd (C : Chan) (q : Nat) : (C.ackd q).ackd q = C.ackd q := by
  unfold Chan.ackd
  by_cases h : C.acked < q ∧ q ≤ C.sent
  · simp [h]
  · simp [h]
theorem Rcv.again {C C1 C2 : Chan} {d : Bytes} {o o2 : List Bytes} {k k2 : Int} (h : Rcv C d C1 o k) (h2 : Rcv C1 d C2 o2 k2) : C2 = C1 ∧ o2 = [] := by
  rcases h with ⟨hb, rfl, rfl, rfl⟩ | ⟨t, q, rfl, hr, rfl, rfl, rfl⟩ | ⟨t, q, rest, rfl, hr, hq, h1⟩
  · rcases h2 with ⟨_, rfl, rfl, rfl⟩ | ⟨t, q, rfl, hr, _⟩ | ⟨t, q, rest, rfl, hr, hq, _⟩
    · exact ⟨rfl, rfl⟩
    · exact (hb.not_ack hr).elim
    · exact (hb.not_data hr hq).elim
  · rcases h2 with ⟨hb, _⟩ | ⟨t, q', e, hr', rfl, rfl, rfl⟩ | ⟨t, q, rest, e, _⟩
    · exact (hb.not_ack hr).elim
    · cases e
      rw [hr] at hr'; cases hr'
      exact ⟨C.ackd_ackd q, rfl⟩
    · cases e
  · rcases h2 with ⟨hb, _⟩ | ⟨t, q', e, hr', _⟩ | ⟨t, q', rest', e, hr', _, h2⟩
    · exact (hb.not_data hr hq).elim
    · cases e
    · cases e
      rw [hr] at hr'; cases hr'
      rcases h1 with ⟨hf, rfl, rfl, rfl⟩ | ⟨hn, hg, rfl⟩
      · rcases h2 with ⟨_, rfl, rfl, rfl⟩ | ⟨hn, _⟩
        · exact ⟨rfl, rfl⟩
        · omega
      · have hg' : C.received ≤ C1.received ∧ ((∃ l, C1.early q = some l) ∨ q ≤ C1.received) := by
          rcases hg with ⟨rfl, _, hc⟩ | ⟨_, _, hD, _⟩
          · exact ⟨Nat.le_refl _, hc⟩
          · have h0 : (C.put q rest).received = C.received := rfl
            exact ⟨by have := hD.recv_le; omega, hD.had (.inl ⟨rest, by simp [Chan.put]⟩)⟩
        rcases h2 with ⟨hf, _⟩ | ⟨_, hg2, _⟩
        · omega
        · rcases hg2 with ⟨rfl, rfl, _⟩ | ⟨hn0, hlt, _⟩
          · exact ⟨rfl, rfl⟩
          · rcases hg'.2 with ⟨l, hl⟩ | h
            · rw [hn0] at hl; cases hl
            · omega
end Go.Proofs.Ytilmcdieihmiaaa

namespace Go.Proofs.Ytilmcdieihmiaaa
open Go.RowKit

theorem SOps.one {w : World} {k DN : Nat} {N : Int} {ad : Option Addr} {cd : Nat} {d : Bytes} (hl : d.length = DN) (hd : SlB w (.slice ad DN cd) d) (hk : k < 256) (hN : -9223372036854775808 ≤ N ∧ N ≤ 9223372036854775807) :
    SOps (w.alloc (.cells #[.int .u8 k, .int .i64 N, .slice ad DN cd] 48)) (.slice (some ⟨w.heap.size, 0, none⟩) 1 1) [⟨k, N, d⟩] := by
  have hkA : Keeps [] w (w.alloc (.cells #[.int .u8 k, .int .i64 N, .slice ad DN cd] 48)) := (Keeps.refl _ _).alloc _
  refine ⟨[.int .u8 k, .int .i64 N, .slice ad DN cd], ⟨by simp, _, _, rfl, Nat.le_refl _, by simp [maxLen], by simp, fun _ => ⟨_, 0, rfl, fun j u hj => ?_⟩⟩, fun j hj => ?_⟩
  · rw [World.cell?_alloc_mark]; simpa using hj
  · simp at hj; subst hj
    exact ⟨_, rfl, by simpa using hd.keeps hkA, hk, hN⟩
set_option maxRecDepth 100000 in
set_option maxHeartbeats 4000000 in
theorem twice_c (w : World) (v0 vd : Value) (L : List OpV) (k : Nat) (N : Int) (d : Bytes) (h : SOps w v0 L) (hd : SlB w vd d) (hk : k < 256) (hN : -9223372036854775808 ≤ N ∧ N ≤ 9223372036854775807) :
    Calls Try.prog 7 #[v0, .agg #[.int .u8 k, .int .i64 N, vd]] w fun e w' => e = .returned (.bool true) ∧ Keeps [] w w' := by
  obtain ⟨a, c, rfl, hlc, hcm, _⟩ := Gen.SlR.form h
  obtain ⟨ad, cd, rfl⟩ := hd.form
  obtain ⟨M, hM⟩ : ∃ N, L.length = N := ⟨_, rfl⟩
  obtain ⟨DN, hDN⟩ : ∃ N, d.length = N := ⟨_, rfl⟩
  rw [hM] at hlc h ⊢
  rw [hDN] at hd ⊢
  unfold maxLen at hcm
  replace hM := Lib.hid hM
  replace hDN := Lib.hid hDN
  replace h := Lib.hid h
  replace hd := Lib.hid hd
  have hb0 := heap_alloc_new w (.cells #[.int .u8 k, .int .i64 N, .slice ad DN cd] 48)
  have hkA : Keeps [] w (w.alloc (.cells #[.int .u8 k, .int .i64 N, .slice ad DN cd] 48)) := (Keeps.refl _ _).alloc _
  replace hb0 := Lib.hid hb0
  replace hkA := Lib.hid hkA
  go_enter Try.func7, Try.ntmps7
  go_wp2_with fail
  refine (awake_c _).mono ?_
  rintro e w1 ⟨rfl, hk1⟩
  have hk01 := hkA.out.trans hk1
  go_wp2_with fail
  refine (heavy_c _ _ L (h.out.keeps hk01)).mono ?_
  rintro e w2 ⟨rfl, hk2⟩
  have hk02 := hk01.trans hk2
  have hb2 := ((hk1.trans hk2).block _ (by simp) (by simp)).trans hb0.out
  have hlt2 := lt_of_block hb2
  obtain ⟨x0, x1, x2⟩ := cells3 hb2
  clear hk1 hk2 hk01
  replace hk02 := Lib.hid hk02
  replace hb2 := Lib.hid hb2
  cases hb : hvB L with
  | true =>
    clear hb
    go_wp2
    go_ret
    exact ⟨rfl, hk02.out⟩
  | false =>
    have hL30 : M ≤ 30 := by
      unfold hvB at hb
      rw [Bool.or_eq_false_iff] at hb
      have := hb.2
      have := hM.out
      simp at *
      omega
    have hLd : ∀ x ∈ L, x.d.length ≤ 5000 := by
      unfold hvB at hb
      rw [Bool.or_eq_false_iff, List.any_eq_false] at hb
      intro x hx
      have := hb.1 x hx
      simpa using this
    clear hb
    replace hLd := Lib.hid hLd
    go_wp2_with fail
    have hS1 := SOps.one hDN.out (hd.out.keeps hk02.out) hk hN
    refine (heavy_c _ _ [⟨k, N, d⟩] hS1).mono ?_
    rintro e w3 ⟨rfl, hk3⟩
    have hk03 := hk02.out.trans (((Keeps.refl [] w2).alloc _).trans hk3)
    have hb3 := ((((Keeps.refl [] w2).alloc _).trans hk3).block _ hlt2 (by simp)).trans hb2.out
    have hlt3 := lt_of_block hb3
    obtain ⟨x0, x1, x2⟩ := cells3 hb3
    have hhv : hvB [⟨k, N, d⟩] = decide (5000 < DN) := by simp [hvB, hDN.out]
    rw [hhv]
    clear hk3 hS1 hb2 hk02 hlt2
    replace hk03 := Lib.hid hk03
    replace hb3 := Lib.hid hb3
    by_cases hD5 : 5000 < DN
    · have e5 : decide (5000 < DN) = true := by simpa using hD5
      rw [e5]
      go_wp2
      go_ret
      exact ⟨rfl, hk03.out⟩
    have e5 : decide (5000 < DN) = false := by simpa using hD5
    rw [e5]
    clear e5
    by_cases hk2 : k < 2
    · go_wp2
      go_ret
      exact ⟨rfl, hk03.out⟩
    by_cases hk4 : 4 < k
    · go_wp2
      go_ret
      exact ⟨rfl, hk03.out⟩
    go_wp2_with fail
    have hc2 : decide ((k : Int) < 2) = false := by simp; omega
    have hc4 : decide (4 < (k : Int)) = false := by simp; omega
    have hM30 := hL30
    rw [← hM.out] at h hL30
    have hrun := run_c w3 _ L (h.out.keeps hk03.out) hL30 hLd.out
    rw [hM.out] at hrun
    refine hrun.mono ?_
    rintro e w4 ⟨B, bc, bm, n, vk, vke, vee, C, E, rfl, hW, hJ, hn, hown, hk4'⟩
    have hk04 := hk03.out.trans hk4'
    have hb4 := (hk4'.block _ hlt3 (by simp)).trans hb3.out
    have hlt4 := lt_of_block hb4
    have hsz4 := hk4'.size
    obtain ⟨x0, x1, x2⟩ := cells3 hb4
    obtain ⟨ae, ce, rfl⟩ := hW.re.early.form
    obtain ⟨ak, ck, rfl, _⟩ := hW.re.kept.form
    obtain ⟨s, hse⟩ : ∃ s, E.sent = s := ⟨_, rfl⟩
    obtain ⟨q, hqe⟩ : ∃ s, E.acked = s := ⟨_, rfl⟩
    obtain ⟨r, hre⟩ : ∃ s, E.received = s := ⟨_, rfl⟩
    obtain ⟨KN, hK⟩ : ∃ s, E.kept.length = s := ⟨_, rfl⟩
    obtain ⟨EN, hEN⟩ : ∃ s, E.early.length = s := ⟨_, rfl⟩
    rw [hse, hqe, hre, hK, hEN]
    rw [hK, hEN] at hW
    replace hse := Lib.hid hse
    replace hqe := Lib.hid hqe
    replace hre := Lib.hid hre
    replace hK := Lib.hid hK
    replace hEN := Lib.hid hEN
    replace hW := Lib.hid hW
    replace hJ := Lib.hid hJ
    replace hown := Lib.hid hown
    replace hk04 := Lib.hid hk04
    replace hb4 := Lib.hid hb4
    clear hrun hk4' hb3 hk03
    go_wp2_with fail
    have hol : ∀ b ∈ own3 bc bm vk, b < w4.heap.size := fun b hb => by
      simp only [own3, List.mem_cons, Option.mem_toList] at hb
      rcases hb with rfl | rfl | hb
      · exact hW.out.ch.cells.2.2.2.2.2.2
      · exact hW.out.ch.early.lt
      · exact (ge_own hW.out.ch.kept b hb).2
    have hkB : Keeps [] w4 (w4.alloc (.cells #[.int .i64 s, .int .i64 q, .slice ak KN ck, .int .i64 r, .slice ae EN ce] tyEnd)) := (Keeps.refl _ _).alloc _
    have hst := step_c _ B bc bm n M 5000 vk _ _ _ C E k N d (hW.out.keeps hkB) hJ.out (by omega) hn (by omega) hN ((hd.out.keeps hk04.out).keeps hkB) (by rw [hDN.out]; omega)
    rw [hse.out, hqe.out, hre.out] at hst
    refine hst.mono ?_
    clear hst
    rintro e w5 ⟨vk1, n1, C1, vke1, vee1, E1, rfl, hW1, hJ1, hn1, hS1, hk1, hkb1, how1⟩
    have hb5 := (hk1.block _ (by simp; omega) (fun hm => by have := hown.out _ hm; omega)).trans ((hkB.block _ hlt4 (by simp)).trans hb4.out)
    have hr5 := (hk1.block w4.heap.size (by simp) (fun hm => by have := hol _ hm; omega)).trans (heap_alloc_new w4 _)
    have hlt5 := lt_of_block hb5
    have hltr := lt_of_block hr5
    obtain ⟨x0, x1, x2⟩ := cells3 hb5
    obtain ⟨z0, z1, z2, z3, z4, zf, zlt⟩ := cells5 hr5
    obtain ⟨ae1, ce1, rfl⟩ := hW1.re.early.form
    obtain ⟨ak1, ck1, rfl, _⟩ := hW1.re.kept.form
    obtain ⟨s1, hse1⟩ : ∃ s, E1.sent = s := ⟨_, rfl⟩
    obtain ⟨q1, hqe1⟩ : ∃ s, E1.acked = s := ⟨_, rfl⟩
    obtain ⟨r1, hre1⟩ : ∃ s, E1.received = s := ⟨_, rfl⟩
    obtain ⟨KN1, hK1⟩ : ∃ s, E1.kept.length = s := ⟨_, rfl⟩
    obtain ⟨EN1, hEN1⟩ : ∃ s, E1.early.length = s := ⟨_, rfl⟩
    rw [hse1, hqe1, hre1, hK1, hEN1]
    rw [hK1, hEN1] at hW1
    have hk05 := (hk04.out.trans hkB).fresh hk1 (fun b hb => .inr (by have := hown.out b hb; have := hk04.out.size; omega))
    have how5 : ∀ b ∈ own3 bc bm vk1, w3.heap.size ≤ b ∧ b ≠ w4.heap.size := fun b hb => by
      simp only [own3, List.mem_cons, Option.mem_toList] at hb
      rcases hb with rfl | rfl | hb
      · have := hol b (by simp [own3]); have := hown.out b (by simp [own3]); omega
      · have := hol b (by simp [own3]); have := hown.out b (by simp [own3]); omega
      · rcases how1 with h | h
        · have := hol b (by simp [own3, ← h, hb]); have := hown.out b (by simp [own3, ← h, hb]); omega
        · have := h b hb; simp at this; omega
    replace hse1 := Lib.hid hse1
    replace hqe1 := Lib.hid hqe1
    replace hre1 := Lib.hid hre1
    replace hK1 := Lib.hid hK1
    replace hEN1 := Lib.hid hEN1
    replace hW1 := Lib.hid hW1
    replace hJ1 := Lib.hid hJ1
    replace hS1 := Lib.hid hS1
    replace hk05 := Lib.hid hk05
    replace hb5 := Lib.hid hb5
    have hfin := set5_all hr5 (by simp [noB]) (.int .i64 s1) (.int .i64 q1) (.slice ak1 KN1 ck1) (.int .i64 r1) (.slice ae1 EN1 ce1)
    replace hfin := Lib.hid hfin
    replace hr5 := Lib.hid hr5
    replace how5 := Lib.hid how5
    clear hb4 hk04 hJ hW hol hkB hk1 hkb1 how1 hown hse hqe hre hK hEN
    obtain ⟨g1, g2, g3⟩ := hfin.out
    have hnb : ∀ v : Value, NE w5 v → v.ownBlock ≠ some w4.heap.size := fun v hv e => hv _ e _ _ hr5.out
    have hW6 := hW1.out.keep1 g2 g3 (fun hm => (how5.out _ hm).2 rfl) (hnb _ hW1.out.nk) (hnb _ hW1.out.ny)
    have hk06 := hk05.out.fresh g2 (fun b hb => .inr (by simp at hb; subst hb; omega))
    have hb6 := (g2.block w.heap.size hlt5 (by simp; omega)).trans hb5.out
    have hsz6 := g2.size
    clear g2 g3 hnb hW1 hk05 hb5 hr5 hfin x0 x1 x2
    obtain ⟨x0, x1, x2⟩ := cells3 hb6
    obtain ⟨z0, z1, z2, z3, z4, zf, zlt⟩ := cells5 g1
    replace hk06 := Lib.hid hk06
    replace hb6 := Lib.hid hb6
    replace hW6 := Lib.hid hW6
    replace g1 := Lib.hid g1
    clear z0 z1 z2 z3 z4 zf zlt
    have hgen : ∃ w6, ((((w5.setCell ⟨w4.heap.size, 0, none⟩ (.int .i64 s1)).setCell ⟨w4.heap.size, 1, none⟩ (.int .i64 q1)).setCell ⟨w4.heap.size, 2, none⟩ (.slice ak1 KN1 ck1)).setCell ⟨w4.heap.size, 3, none⟩ (.int .i64 r1)).setCell ⟨w4.heap.size, 4, none⟩ (.slice ae1 EN1 ce1) = w6 := ⟨_, rfl⟩
    obtain ⟨w6, hgen⟩ := hgen
    rw [hgen] at hW6 hk06 hb6 g1 hsz6 x0 x1 x2
    have hlt6 := lt_of_block hb6.out
    have hltr6 := lt_of_block g1.out
    have hsz3 : w.heap.size ≤ w3.heap.size := by omega
    obtain ⟨z0, z1, z2, z3, z4, zf, zlt⟩ := cells5 g1.out
    have hdD : SlB w6 (.slice ad DN cd) d := hd.out.keeps hk06.out
    rcases (show k = 2 ∨ k = 3 ∨ k = 4 by omega) with rfl | rfl | rfl
    · replace hdD := Lib.hid hdD
      go_wp2_with fail
      refine (dataRi_c _ _ d N hdD.out (by rw [hDN.out]; omega)).mono ?_
      rintro e wX ⟨vx, rfl, hBX, hkX⟩
      have hdX := hBX.slB
      obtain ⟨adx, cdx, rfl⟩ := hdX.form
      have hLX0 : (dataB (uOf N) d).length ≤ DN + 10 := by have := encU_len (uOf_lt N); have := hDN.out; simp [dataB]; omega
      obtain ⟨LX, hLX⟩ : ∃ n, (dataB (uOf N) d).length = n := ⟨_, rfl⟩
      rw [hLX] at hdX hLX0 ⊢
      replace hLX := Lib.hid hLX
      have hlx : Hid ((dataB (uOf N) d).length ≤ 140737488350000) := by rw [hLX.out]; show _ ≤ _; omega
      have hWX := hW6.out.keeps hkX
      have hg1X := (hkX.block _ hltr6 (by simp)).trans g1.out
      have hb6X := (hkX.block _ hlt6 (by simp)).trans hb6.out
      obtain ⟨x0, x1, x2⟩ := cells3 hb6X
      obtain ⟨z0, z1, z2, z3, z4, zf, zlt⟩ := cells5 hg1X
      have hszX := hkX.size
      have hkX6 := hk06.out.trans hkX
      replace hkX6 := Lib.hid hkX6
      replace hWX := Lib.hid hWX
      replace hg1X := Lib.hid hg1X
      clear hb6X hkX
      replace hdX := Lib.hid hdX
      go_wp2_with fail
      have hrr := recvRR wX (M + 1) 5000 _ _ _ C1 E1 (dataB (uOf N) d) hWX.out.re hJ1.out (by omega) hdX.out hlx.out
      rw [hse1.out, hqe1.out, hre1.out] at hrr
      refine hrr.mono ?_
      clear hrr
      rintro e w7 ⟨vk7, ve7, vo7, E7, outs7, k7, rfl, hRE7, hL7, hR7, hk7, how7, hoe7⟩
      obtain ⟨ak7, ck7, rfl, _⟩ := hRE7.kept.form
      obtain ⟨ae7, ce7, rfl⟩ := hRE7.early.form
      obtain ⟨a7, c7, rfl⟩ := hL7.form
      replace hk7 := hk7.trans ((Keeps.refl [] w7).alloc (.cells #[.int .i64 E7.sent, .int .i64 E7.acked, .slice ak7 E7.kept.length ck7, .int .i64 E7.received, .slice ae7 E7.early.length ce7] tyEnd))
      have hW7 := hWX.out.keeps hk7
      have hd7 := hdX.out.keeps hk7
      have hg7 := (hk7.block _ zlt (by simp)).trans hg1X.out
      have hsz7 := hk7.size
      obtain ⟨z0, z1, z2, z3, z4, zf, zlt⟩ := cells5 hg7
      have hk07 := hkX6.out.trans hk7
      replace hk07 := Lib.hid hk07
      replace hW7 := Lib.hid hW7
      replace hd7 := Lib.hid hd7
      replace hg7 := Lib.hid hg7
      replace hR7 := Lib.hid hR7
      clear hRE7 hL7 hk7 hWX hdX hg1X how7 hoe7
      go_wp2_with fail
      refine (recvC (w7.alloc (.cells #[.int .i64 E7.sent, .int .i64 E7.acked, .slice ak7 E7.kept.length ck7, .int .i64 E7.received, .slice ae7 E7.early.length ce7] tyEnd)) B bc bm n1 (M + 1) 5000 vk1 _ C1 E1 (dataB (uOf N) d) hW7.out.ch hW7.out.ne hW7.out.hB hJ1.out (by omega) (by omega) hd7.out hlx.out).mono ?_
      rintro e w8 ⟨v8, vk8, C8, outs8, n8, k8, rfl, hL8, hC8, hn8, hR8, hk8, hkb8, hne8, how8⟩
      obtain ⟨hJ8, rfl, rfl⟩ := hJ1.out.rcv hR8 hR7.out
      obtain ⟨o9, c9, hRc⟩ := (hS1.out).1 (by omega) (by omega)
      obtain ⟨rfl, rfl⟩ := hRc.again hR8
      have hS8 : ∀ b ∈ [bc, bm], b ∈ own3 bc bm vk1 := fun b hb => by simp [own3] at hb ⊢; rcases hb with h | h <;> simp [h]
      have hg8 := (hk8.block _ zlt (fun hm => (how5.out _ (hS8 _ hm)).2 rfl)).trans hg7.out
      obtain ⟨z0, z1, z2, z3, z4, zf, zlt⟩ := cells5 hg8
      have hkept : SLs w8 (.slice ak1 KN1 ck1) C8.kept := by
        rw [hJ1.out.agr.kept]
        exact hW7.out.re.kept.keepS hk8 (fun b hb => (hW7.out.sep b (hS8 b hb)).1) hkb8
      obtain ⟨a8, c8, rfl⟩ := hL8.form
      have hk08 := hk07.out.fresh hk8 (fun b hb => .inr (by have := (how5.out _ (hS8 _ hb)).1; have := hsz3; omega))
      have hsm := sameS_c w8 B bc bm n8 vk8 (.slice ak1 KN1 ck1) (.slice ae1 EN1 ce1) C8 hC8 hkept ⟨_, _, _, rfl⟩ (by have := hJ1.out.sent; omega) hJ1.out.sum (by have := hJ1.out.recv; have := hJ1.out.agr.received; omega) (fun l hl => by have := hJ1.out.len l hl; omega)
      rw [hJ1.out.agr.sent, hJ1.out.agr.acked, hJ1.out.agr.received, hse1.out, hqe1.out, hre1.out] at hsm
      replace hsm := Lib.hid hsm
      replace hk08 := Lib.hid hk08
      clear hg8 hkept hC8 hL8 hk8 hkb8 hk07 hW7 hd7 hg7 hR7 hR8 hRc hJ8
      go_wp2_with fail
      refine hsm.out.mono ?_
      rintro e w9 ⟨rfl, hk9⟩
      go_wp2
      go_ret
      exact ⟨rfl, hk08.out.trans hk9⟩
    · replace hdD := Lib.hid hdD
      go_wp2_with fail
      refine (ackRi_c _ N).mono ?_
      rintro e wX ⟨vx, rfl, hBX, hkX⟩
      have hdX := hBX.slB
      obtain ⟨adx, cdx, rfl⟩ := hdX.form
      have hLX0 : (ackB (uOf N)).length ≤ DN + 11 := by have := encU_len (uOf_lt N); simp [ackB]; omega
      obtain ⟨LX, hLX⟩ : ∃ n, (ackB (uOf N)).length = n := ⟨_, rfl⟩
      rw [hLX] at hdX hLX0 ⊢
      replace hLX := Lib.hid hLX
      have hlx : Hid ((ackB (uOf N)).length ≤ 140737488350000) := by rw [hLX.out]; show _ ≤ _; omega
      have hWX := hW6.out.keeps hkX
      have hg1X := (hkX.block _ hltr6 (by simp)).trans g1.out
      have hb6X := (hkX.block _ hlt6 (by simp)).trans hb6.out
      obtain ⟨x0, x1, x2⟩ := cells3 hb6X
      obtain ⟨z0, z1, z2, z3, z4, zf, zlt⟩ := cells5 hg1X
      have hszX := hkX.size
      have hkX6 := hk06.out.trans hkX
      replace hkX6 := Lib.hid hkX6
      replace hWX := Lib.hid hWX
      replace hg1X := Lib.hid hg1X
      clear hb6X hkX
      replace hdX := Lib.hid hdX
      go_wp2_with fail
      have hrr := recvRR wX (M + 1) 5000 _ _ _ C1 E1 (ackB (uOf N)) hWX.out.re hJ1.out (by omega) hdX.out hlx.out
      rw [hse1.out, hqe1.out, hre1.out] at hrr
      refine hrr.mono ?_
      clear hrr
      rintro e w7 ⟨vk7, ve7, vo7, E7, outs7, k7, rfl, hRE7, hL7, hR7, hk7, how7, hoe7⟩
      obtain ⟨ak7, ck7, rfl, _⟩ := hRE7.kept.form
      obtain ⟨ae7, ce7, rfl⟩ := hRE7.early.form
      obtain ⟨a7, c7, rfl⟩ := hL7.form
      replace hk7 := hk7.trans ((Keeps.refl [] w7).alloc (.cells #[.int .i64 E7.sent, .int .i64 E7.acked, .slice ak7 E7.kept.length ck7, .int .i64 E7.received, .slice ae7 E7.early.length ce7] tyEnd))
      have hW7 := hWX.out.keeps hk7
      have hd7 := hdX.out.keeps hk7
      have hg7 := (hk7.block _ zlt (by simp)).trans hg1X.out
      have hsz7 := hk7.size
      obtain ⟨z0, z1, z2, z3, z4, zf, zlt⟩ := cells5 hg7
      have hk07 := hkX6.out.trans hk7
      replace hk07 := Lib.hid hk07
      replace hW7 := Lib.hid hW7
      replace hd7 := Lib.hid hd7
      replace hg7 := Lib.hid hg7
      replace hR7 := Lib.hid hR7
      clear hRE7 hL7 hk7 hWX hdX hg1X how7 hoe7
      go_wp2_with fail
      refine (recvC (w7.alloc (.cells #[.int .i64 E7.sent, .int .i64 E7.acked, .slice ak7 E7.kept.length ck7, .int .i64 E7.received, .slice ae7 E7.early.length ce7] tyEnd)) B bc bm n1 (M + 1) 5000 vk1 _ C1 E1 (ackB (uOf N)) hW7.out.ch hW7.out.ne hW7.out.hB hJ1.out (by omega) (by omega) hd7.out hlx.out).mono ?_
      rintro e w8 ⟨v8, vk8, C8, outs8, n8, k8, rfl, hL8, hC8, hn8, hR8, hk8, hkb8, hne8, how8⟩
      obtain ⟨hJ8, rfl, rfl⟩ := hJ1.out.rcv hR8 hR7.out
      obtain ⟨o9, c9, hRc⟩ := (hS1.out).1 (by omega) (by omega)
      obtain ⟨rfl, rfl⟩ := hRc.again hR8
      have hS8 : ∀ b ∈ [bc, bm], b ∈ own3 bc bm vk1 := fun b hb => by simp [own3] at hb ⊢; rcases hb with h | h <;> simp [h]
      have hg8 := (hk8.block _ zlt (fun hm => (how5.out _ (hS8 _ hm)).2 rfl)).trans hg7.out
      obtain ⟨z0, z1, z2, z3, z4, zf, zlt⟩ := cells5 hg8
      have hkept : SLs w8 (.slice ak1 KN1 ck1) C8.kept := by
        rw [hJ1.out.agr.kept]
        exact hW7.out.re.kept.keepS hk8 (fun b hb => (hW7.out.sep b (hS8 b hb)).1) hkb8
      obtain ⟨a8, c8, rfl⟩ := hL8.form
      have hk08 := hk07.out.fresh hk8 (fun b hb => .inr (by have := (how5.out _ (hS8 _ hb)).1; have := hsz3; omega))
      have hsm := sameS_c w8 B bc bm n8 vk8 (.slice ak1 KN1 ck1) (.slice ae1 EN1 ce1) C8 hC8 hkept ⟨_, _, _, rfl⟩ (by have := hJ1.out.sent; omega) hJ1.out.sum (by have := hJ1.out.recv; have := hJ1.out.agr.received; omega) (fun l hl => by have := hJ1.out.len l hl; omega)
      rw [hJ1.out.agr.sent, hJ1.out.agr.acked, hJ1.out.agr.received, hse1.out, hqe1.out, hre1.out] at hsm
      replace hsm := Lib.hid hsm
      replace hk08 := Lib.hid hk08
      clear hg8 hkept hC8 hL8 hk8 hkb8 hk07 hW7 hd7 hg7 hR7 hR8 hRc hJ8
      go_wp2_with fail
      refine hsm.out.mono ?_
      rintro e w9 ⟨rfl, hk9⟩
      go_wp2
      go_ret
      exact ⟨rfl, hk08.out.trans hk9⟩
    · obtain ⟨wX, hwX⟩ : ∃ wX, wX = w6 := ⟨_, rfl⟩
      have hkX : Keeps [] w6 wX := by rw [hwX]; exact Keeps.refl _ _
      have hdX : SlB wX (.slice ad DN cd) d := by rw [hwX]; exact hdD
      rw [← hwX] at hgen
      have hlx : Hid (d.length ≤ 140737488350000) := by rw [hDN.out]; show _ ≤ _; omega
      clear hdD hwX
      have hWX := hW6.out.keeps hkX
      have hg1X := (hkX.block _ hltr6 (by simp)).trans g1.out
      have hb6X := (hkX.block _ hlt6 (by simp)).trans hb6.out
      obtain ⟨x0, x1, x2⟩ := cells3 hb6X
      obtain ⟨z0, z1, z2, z3, z4, zf, zlt⟩ := cells5 hg1X
      have hszX := hkX.size
      have hkX6 := hk06.out.trans hkX
      replace hkX6 := Lib.hid hkX6
      replace hWX := Lib.hid hWX
      replace hg1X := Lib.hid hg1X
      clear hb6X hkX
      replace hdX := Lib.hid hdX
      go_wp2_with fail
      have hrr := recvRR wX (M + 1) 5000 _ _ _ C1 E1 d hWX.out.re hJ1.out (by omega) hdX.out hlx.out
      rw [hse1.out, hqe1.out, hre1.out] at hrr
      refine hrr.mono ?_
      clear hrr
      rintro e w7 ⟨vk7, ve7, vo7, E7, outs7, k7, rfl, hRE7, hL7, hR7, hk7, how7, hoe7⟩
      obtain ⟨ak7, ck7, rfl, _⟩ := hRE7.kept.form
      obtain ⟨ae7, ce7, rfl⟩ := hRE7.early.form
      obtain ⟨a7, c7, rfl⟩ := hL7.form
      replace hk7 := hk7.trans ((Keeps.refl [] w7).alloc (.cells #[.int .i64 E7.sent, .int .i64 E7.acked, .slice ak7 E7.kept.length ck7, .int .i64 E7.received, .slice ae7 E7.early.length ce7] tyEnd))
      have hW7 := hWX.out.keeps hk7
      have hd7 := hdX.out.keeps hk7
      have hg7 := (hk7.block _ zlt (by simp)).trans hg1X.out
      have hsz7 := hk7.size
      obtain ⟨z0, z1, z2, z3, z4, zf, zlt⟩ := cells5 hg7
      have hk07 := hkX6.out.trans hk7
      replace hk07 := Lib.hid hk07
      replace hW7 := Lib.hid hW7
      replace hd7 := Lib.hid hd7
      replace hg7 := Lib.hid hg7
      replace hR7 := Lib.hid hR7
      clear hRE7 hL7 hk7 hWX hdX hg1X how7 hoe7
      go_wp2_with fail
      refine (recvC (w7.alloc (.cells #[.int .i64 E7.sent, .int .i64 E7.acked, .slice ak7 E7.kept.length ck7, .int .i64 E7.received, .slice ae7 E7.early.length ce7] tyEnd)) B bc bm n1 (M + 1) 5000 vk1 _ C1 E1 d hW7.out.ch hW7.out.ne hW7.out.hB hJ1.out (by omega) (by omega) hd7.out hlx.out).mono ?_
      rintro e w8 ⟨v8, vk8, C8, outs8, n8, k8, rfl, hL8, hC8, hn8, hR8, hk8, hkb8, hne8, how8⟩
      obtain ⟨hJ8, rfl, rfl⟩ := hJ1.out.rcv hR8 hR7.out
      obtain ⟨o9, c9, hRc⟩ := (hS1.out).1 (by omega) (by omega)
      obtain ⟨rfl, rfl⟩ := hRc.again hR8
      have hS8 : ∀ b ∈ [bc, bm], b ∈ own3 bc bm vk1 := fun b hb => by simp [own3] at hb ⊢; rcases hb with h | h <;> simp [h]
      have hg8 := (hk8.block _ zlt (fun hm => (how5.out _ (hS8 _ hm)).2 rfl)).trans hg7.out
      obtain ⟨z0, z1, z2, z3, z4, zf, zlt⟩ := cells5 hg8
      have hkept : SLs w8 (.slice ak1 KN1 ck1) C8.kept := by
        rw [hJ1.out.agr.kept]
        exact hW7.out.re.kept.keepS hk8 (fun b hb => (hW7.out.sep b (hS8 b hb)).1) hkb8
      obtain ⟨a8, c8, rfl⟩ := hL8.form
      have hk08 := hk07.out.fresh hk8 (fun b hb => .inr (by have := (how5.out _ (hS8 _ hb)).1; have := hsz3; omega))
      have hsm := sameS_c w8 B bc bm n8 vk8 (.slice ak1 KN1 ck1) (.slice ae1 EN1 ce1) C8 hC8 hkept ⟨_, _, _, rfl⟩ (by have := hJ1.out.sent; omega) hJ1.out.sum (by have := hJ1.out.recv; have := hJ1.out.agr.received; omega) (fun l hl => by have := hJ1.out.len l hl; omega)
      rw [hJ1.out.agr.sent, hJ1.out.agr.acked, hJ1.out.agr.received, hse1.out, hqe1.out, hre1.out] at hsm
      replace hsm := Lib.hid hsm
      replace hk08 := Lib.hid hk08
      clear hg8 hkept hC8 hL8 hk8 hkb8 hk07 hW7 hd7 hg7 hR7 hR8 hRc hJ8
      go_wp2_with fail
      refine hsm.out.mono ?_
      rintro e w9 ⟨rfl, hk9⟩
      go_wp2
      go_ret
      exact ⟨rfl, hk08.out.trans hk9⟩
end Go.Proofs.Ytilmcdieihmiaaa
