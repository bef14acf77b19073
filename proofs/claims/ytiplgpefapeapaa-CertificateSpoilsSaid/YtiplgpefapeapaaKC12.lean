/- Texts that the laws lean on, in the order in which they build. A region that draws its order, parted in two by which of two operations comes first; each part is a chain. Of whatever program. The specification's Claim. The specification's WellFormed. -/
import Derived.Test.YtiplgpefapeapaaKC11
set_option linter.unusedVariables false
set_option linter.unusedSimpArgs false
namespace Go.Proofs.Ytiplgpefapeapaa
namespace Free
open Go Go.RowKit

/-- What stays of an operation if only its edges, and the numbers of operations, are changed. -/
structure Like (o o' : Oper) : Prop where
  op : o'.op = o.op
  dst : o'.dst = o.dst
  type : o'.type = o.type
theorem Like.refl (o : Oper) : Like o o := ⟨rfl, rfl, rfl⟩
theorem Like.wp {P : Program} {o o' : Oper} (h : Like o o') {a : Act} {w : World} {K : Act → World → Prop} {Q : Exit → Act → World → Prop} (hw : o'.wp P a w K Q) : o.wp P a w K Q := by
  obtain ⟨d, op, t, p, af, g⟩ := o
  obtain ⟨d', op', t', p', af', g'⟩ := o'
  obtain ⟨h1, h2, h3⟩ := h
  simp only at h1 h2 h3
  subst h1 h2 h3
  exact hw
theorem Like.asks {P : Program} {o o' : Oper} (h : Like o o') {a : Act} {w : World} (hw : o'.asks P a w) : o.asks P a w := by
  obtain ⟨d, op, t, p, af, g⟩ := o
  obtain ⟨d', op', t', p', af', g'⟩ := o'
  obtain ⟨h1, h2, h3⟩ := h
  simp only at h1 h2 h3
  subst h1 h2 h3
  exact hw
variable {P : Program} {Q : Exit → Act → World → Prop}
theorem wpOp_like {ops ops' : Array Oper} {i i' : Nat} {o o' : Oper} {K : Act → World → Prop} {a : Act} {w : World} (ho : ops[i]? = some o) (ho' : ops'[i']? = some o') (hl : Like o o') (hw : Region.wanted o' (yielded ops' a.tmps) = Region.wanted o (yielded ops a.tmps))
    (h : wpOp P ops' Q i' K a w) : wpOp P ops Q i K a w := by
  unfold wpOp at *
  rw [ho]
  rw [ho'] at h
  simp only at h ⊢
  rw [hw, hl.dst] at h
  split
  · rename_i hh
    rw [if_pos hh] at h
    rcases h with h | ⟨h1, h2⟩
    · exact .inl (hl.wp h)
    · exact .inr ⟨hl.asks h1, h2⟩
  · rename_i hh
    rw [if_neg hh] at h
    exact h
/-- The operations of a region under other numbers. -/
structure Ren (ops ops' : Array Oper) (p : Nat → Nat) : Prop where
  size : ops'.size = ops.size
  lt : ∀ i, p i < ops.size ↔ i < ops.size
  inj : ∀ i j, p i = p j → i = j
  sur : ∀ j, ∃ i, p i = j
  like : ∀ i o, ops[i]? = some o → ∃ o', ops'[p i]? = some o' ∧ Like o o' ∧ ∀ tmps, Region.wanted o' (yielded ops' tmps) = Region.wanted o (yielded ops tmps)
def RelL (n : Nat) (p : Nat → Nat) (L L' : Array Bool) : Prop := L.size = n ∧ L'.size = n ∧ ∀ i, L'.getD (p i) false = L.getD i false
theorem RelL.set {n : Nat} {p : Nat → Nat} {L L' : Array Bool} (h : RelL n p L L') (hp : ∀ i, p i < n ↔ i < n) (hi : ∀ i j, p i = p j → i = j) (i : Nat) : RelL n p (L.setIfInBounds i true) (L'.setIfInBounds (p i) true) := by
  obtain ⟨h1, h2, h3⟩ := h
  refine ⟨by simp [h1], by simp [h2], fun j => ?_⟩
  have h4 := h3 j
  have h5 := hp i
  simp only [Array.getD_eq_getD_getElem?, Array.getElem?_setIfInBounds, h1, h2] at h4 ⊢
  by_cases e : i = j
  · subst e
    simp only [if_true]
    by_cases hn : i < n
    · rw [if_pos hn, if_pos (h5.2 hn)]
    · rw [if_neg hn, if_neg (fun hh => hn (h5.1 hh))]
  · rw [if_neg e, if_neg (fun hh => e (hi _ _ hh))]
    exact h4
theorem getD_true {L : Array Bool} {i : Nat} : L.getD i true = false ↔ i < L.size ∧ L.getD i false = false := by
  by_cases h : i < L.size
  · simp [Array.getD, h]
  · simp [Array.getD, h]
/-- Which operations are ready. -/
def Go1 (ops : Array Oper) (L : Array Bool) (o : Oper) : Prop := ∀ e ∈ o.after, Region.binds .any e = true → L.getD e.on false = true
theorem ready_iff {ops : Array Oper} {L : Array Bool} {i : Nat} {o : Oper} (hL : L.size = ops.size) (ho : ops[i]? = some o) : i ∈ Region.ready .any ops L ↔ L.getD i false = false ∧ Go1 ops L o := by
  have hi := (Array.getElem?_eq_some_iff.1 ho).1
  rw [mem_ready, getD_true]
  constructor
  · rintro ⟨⟨_, h1⟩, o2, h2, h3⟩
    rw [ho] at h2; cases h2
    exact ⟨h1, h3⟩
  · rintro ⟨h1, h2⟩
    exact ⟨⟨by omega, h1⟩, o, ho, h2⟩
theorem ready_some {ops : Array Oper} {L : Array Bool} {i : Nat} (h : i ∈ Region.ready .any ops L) : ∃ o, ops[i]? = some o := by
  obtain ⟨_, o, ho, _⟩ := mem_ready.1 h; exact ⟨o, ho⟩
/-- As long as the same operations are ready, the numbers do not matter. -/
theorem wpAny_ren {ops ops' : Array Oper} {p : Nat → Nat} (hr : Ren ops ops' p) (Inv : Array Bool → Prop) (hInv : ∀ L i, Inv L → Inv (L.setIfInBounds i true))
    (hgo : ∀ L L', RelL ops.size p L L' → Inv L → ∀ i o o', ops[i]? = some o → ops'[p i]? = some o' → (Go1 ops L o ↔ Go1 ops' L' o')) :
    ∀ (fuel : Nat) (L L' : Array Bool) (a : Act) (w : World), RelL ops.size p L L' → Inv L → wpAny P .any ops' Q fuel L' a w → wpAny P .any ops Q fuel L a w := by
  have key : ∀ L L', RelL ops.size p L L' → Inv L → ∀ i, i ∈ Region.ready .any ops L → p i ∈ Region.ready .any ops' L' := by
    intro L L' hL hI i hi
    obtain ⟨o, ho⟩ := ready_some hi
    obtain ⟨o', ho', _, _⟩ := hr.like i o ho
    rw [ready_iff hL.1 ho] at hi
    rw [ready_iff (by rw [hL.2.1, hr.size]) ho', hL.2.2]
    exact ⟨hi.1, (hgo L L' hL hI i o o' ho ho').1 hi.2⟩
  have back : ∀ L L', RelL ops.size p L L' → Inv L → Region.ready .any ops L = [] → Region.ready .any ops' L' = [] := by
    intro L L' hL hI h
    refine List.eq_nil_iff_forall_not_mem.2 fun j hj => ?_
    obtain ⟨i, rfl⟩ := hr.sur j
    obtain ⟨o', ho'⟩ := ready_some hj
    have hlt : i < ops.size := (hr.lt i).1 (by rw [← hr.size]; exact (Array.getElem?_eq_some_iff.1 ho').1)
    obtain ⟨o2, ho2, _, _⟩ := hr.like i ops[i] (by simp [hlt])
    rw [ho'] at ho2; cases ho2
    rw [ready_iff (by rw [hL.2.1, hr.size]) ho', hL.2.2] at hj
    have : i ∈ Region.ready .any ops L := (ready_iff (o := ops[i]) hL.1 (by simp [hlt])).2 ⟨hj.1, (hgo L L' hL hI i _ _ (by simp [hlt]) ho').2 hj.2⟩
    rw [h] at this; cases this
  intro fuel
  induction fuel with
  | zero =>
    intro L L' a w hL hI h
    unfold wpAny at *
    refine ⟨List.eq_nil_iff_forall_not_mem.2 fun i hi => ?_, h.2⟩
    have := key L L' hL hI i hi
    rw [h.1] at this; cases this
  | succ n ih =>
    intro L L' a w hL hI h
    unfold wpAny at h ⊢
    refine ⟨fun h0 => h.1 (back L L' hL hI h0), fun i hi => ?_⟩
    obtain ⟨o, ho⟩ := ready_some hi
    obtain ⟨o', ho', hl, hw⟩ := hr.like i o ho
    exact wpOp_like ho ho' hl (hw _) (wpOp_mono (fun a w => ih _ _ a w (hL.set hr.lt hr.inj i) (hInv L i hI)) (h.2 _ (key L L' hL hI i hi)))
theorem wp_both {o : Oper} (hp : plainOp o.op = true) {a : Act} {w : World} {K1 K2 : Act → World → Prop} (h1 : o.wp P a w K1 Q) (h2 : o.wp P a w K2 Q) : o.wp P a w (fun a w => K1 a w ∧ K2 a w) Q := by
  have hpl := plain_exec P o hp a.eval w
  unfold Oper.wp at *
  generalize (execOp a.eval o).run P w = r at *
  cases r with
  | halt x w' => cases x <;> simp only [Oper.upon] at h1 ⊢ <;> exact h1
  | ok n w' =>
    cases n <;> simp only [plainRes] at hpl <;> simp only [Oper.upon] at h1 h2 ⊢
    · exact ⟨h1, h2⟩
    · exact ⟨h1, h2⟩
theorem wpOp_both {ops : Array Oper} {i : Nat} {o : Oper} (ho : ops[i]? = some o) (hp : plainOp o.op = true) {a : Act} {w : World} {K1 K2 : Act → World → Prop} (h1 : wpOp P ops Q i K1 a w) (h2 : wpOp P ops Q i K2 a w) : wpOp P ops Q i (fun a w => K1 a w ∧ K2 a w) a w := by
  unfold wpOp at *
  rw [ho] at h1 h2 ⊢
  simp only at h1 h2 ⊢
  split
  · rename_i hh
    rw [if_pos hh] at h1 h2
    rcases h1 with h1 | h1
    · rcases h2 with h2 | h2
      · exact .inl (wp_both hp h1 h2)
      · exact .inr h2
    · exact .inr h1
  · rename_i hh
    rw [if_neg hh] at h1 h2
    exact ⟨h1, h2⟩
/-- A region whose orders are those of two others: in the one `f` waits for `c`, in the other `c` for `f`. -/
theorem wpAny_two {ops ops1 ops2 : Array Oper} {p1 p2 : Nat → Nat} {c f : Nat} (hr1 : Ren ops ops1 p1) (hr2 : Ren ops ops2 p2) (hcf : c ≠ f)
    (e1 : ∀ L L', RelL ops.size p1 L L' → ∀ i o o', ops[i]? = some o → ops1[p1 i]? = some o' → (Go1 ops1 L' o' ↔ Go1 ops L o ∧ (i = f → L.getD c false = true)))
    (e2 : ∀ L L', RelL ops.size p2 L L' → ∀ i o o', ops[i]? = some o → ops2[p2 i]? = some o' → (Go1 ops2 L' o' ↔ Go1 ops L o ∧ (i = c → L.getD f false = true)))
    (hpl : ∀ i o, ops[i]? = some o → i ≠ c → i ≠ f → plainOp o.op = true ∨ ∃ e ∈ o.after, Region.binds .any e = true ∧ (e.on = c ∨ e.on = f)) :
    ∀ (fuel : Nat) (L L1 L2 : Array Bool) (a : Act) (w : World), RelL ops.size p1 L L1 → RelL ops.size p2 L L2 → L.getD c false = false → L.getD f false = false → wpAny P .any ops1 Q fuel L1 a w → wpAny P .any ops2 Q fuel L2 a w → wpAny P .any ops Q fuel L a w := by
  have r1 : ∀ L L', RelL ops.size p1 L L' → ∀ i, i ∈ Region.ready .any ops L → (i = f → L.getD c false = true) → p1 i ∈ Region.ready .any ops1 L' := by
    intro L L' hL i hi hx
    obtain ⟨o, ho⟩ := ready_some hi
    obtain ⟨o', ho', _, _⟩ := hr1.like i o ho
    rw [ready_iff hL.1 ho] at hi
    rw [ready_iff (by rw [hL.2.1, hr1.size]) ho', hL.2.2]
    exact ⟨hi.1, (e1 L L' hL i o o' ho ho').2 ⟨hi.2, hx⟩⟩
  have r2 : ∀ L L', RelL ops.size p2 L L' → ∀ i, i ∈ Region.ready .any ops L → (i = c → L.getD f false = true) → p2 i ∈ Region.ready .any ops2 L' := by
    intro L L' hL i hi hx
    obtain ⟨o, ho⟩ := ready_some hi
    obtain ⟨o', ho', _, _⟩ := hr2.like i o ho
    rw [ready_iff hL.1 ho] at hi
    rw [ready_iff (by rw [hL.2.1, hr2.size]) ho', hL.2.2]
    exact ⟨hi.1, (e2 L L' hL i o o' ho ho').2 ⟨hi.2, hx⟩⟩
  have b1 : ∀ L L', RelL ops.size p1 L L' → Region.ready .any ops L = [] → Region.ready .any ops1 L' = [] := by
    intro L L' hL h
    refine List.eq_nil_iff_forall_not_mem.2 fun j hj => ?_
    obtain ⟨i, rfl⟩ := hr1.sur j
    obtain ⟨o', ho'⟩ := ready_some hj
    have hlt : i < ops.size := (hr1.lt i).1 (by rw [← hr1.size]; exact (Array.getElem?_eq_some_iff.1 ho').1)
    rw [ready_iff (by rw [hL.2.1, hr1.size]) ho', hL.2.2] at hj
    have : i ∈ Region.ready .any ops L := (ready_iff (o := ops[i]) hL.1 (by simp [hlt])).2 ⟨hj.1, ((e1 L L' hL i _ _ (by simp [hlt]) ho').1 hj.2).1⟩
    rw [h] at this; cases this
  intro fuel
  induction fuel with
  | zero =>
    intro L L1 L2 a w hL1 hL2 hc hf h1 h2
    unfold wpAny at *
    refine ⟨List.eq_nil_iff_forall_not_mem.2 fun i hi => ?_, h1.2⟩
    by_cases e : i = f
    · have := r2 L L2 hL2 i hi (fun e2 => absurd (e2.symm.trans e) hcf)
      rw [h2.1] at this; cases this
    · have := r1 L L1 hL1 i hi (fun e2 => absurd e2 e)
      rw [h1.1] at this; cases this
  | succ n ih =>
    intro L L1 L2 a w hL1 hL2 hc hf h1 h2
    unfold wpAny at h1 h2 ⊢
    refine ⟨fun h0 => h1.1 (b1 L L1 hL1 h0), fun i hi => ?_⟩
    obtain ⟨o, ho⟩ := ready_some hi
    have hlt := (Array.getElem?_eq_some_iff.1 ho).1
    have hset : (L.setIfInBounds i true).getD i false = true := by
      have := hL1.1
      simp [Array.getD_eq_getD_getElem?, Array.getElem?_setIfInBounds, this, hlt]
    by_cases ec : i = c
    · subst ec
      obtain ⟨o', ho', hl, hw⟩ := hr1.like i o ho
      refine wpOp_like ho ho' hl (hw _) (wpOp_mono (fun a w => wpAny_ren hr1 (fun L => L.getD i false = true) (fun L j hh => ?_) (fun L L' hL hI j o o' hj hj' => ?_) _ _ _ a w (hL1.set hr1.lt hr1.inj i) hset) (h1.2 _ (r1 L L1 hL1 i hi (fun e2 => absurd e2 hcf))))
      · by_cases hj : j = i
        · subst hj
          have hi2 : j < L.size := by
            rcases Nat.lt_or_ge j L.size with h | h
            · exact h
            · simp [Array.getD, Nat.not_lt.2 h] at hh
          simp [Array.getD_eq_getD_getElem?, Array.getElem?_setIfInBounds, hi2]
        · rw [Array.getD_eq_getD_getElem?, Array.getElem?_setIfInBounds_ne hj, ← Array.getD_eq_getD_getElem?]; exact hh
      · rw [e1 L L' hL j o o' hj hj']
        exact ⟨fun h => ⟨h, fun _ => hI⟩, fun h => h.1⟩
    · by_cases ef : i = f
      · subst ef
        obtain ⟨o', ho', hl, hw⟩ := hr2.like i o ho
        refine wpOp_like ho ho' hl (hw _) (wpOp_mono (fun a w => wpAny_ren hr2 (fun L => L.getD i false = true) (fun L j hh => ?_) (fun L L' hL hI j o o' hj hj' => ?_) _ _ _ a w (hL2.set hr2.lt hr2.inj i) hset) (h2.2 _ (r2 L L2 hL2 i hi (fun e2 => absurd e2 ec))))
        · by_cases hj : j = i
          · subst hj
            have hi2 : j < L.size := by
              rcases Nat.lt_or_ge j L.size with h | h
              · exact h
              · simp [Array.getD, Nat.not_lt.2 h] at hh
            simp [Array.getD_eq_getD_getElem?, Array.getElem?_setIfInBounds, hi2]
          · rw [Array.getD_eq_getD_getElem?, Array.getElem?_setIfInBounds_ne hj, ← Array.getD_eq_getD_getElem?]; exact hh
        · rw [e2 L L' hL j o o' hj hj']
          exact ⟨fun h => ⟨h, fun _ => hI⟩, fun h => h.1⟩
      · have hg := ((ready_iff hL1.1 ho).1 hi).2
        have hp : plainOp o.op = true := by
          rcases hpl i o ho ec ef with h | ⟨e, he, hb, h⟩
          · exact h
          · have := hg e he hb
            rcases h with h | h
            · rw [h, hc] at this; cases this
            · rw [h, hf] at this; cases this
        obtain ⟨o1, ho1, hl1, hw1⟩ := hr1.like i o ho
        obtain ⟨o2, ho2, hl2, hw2⟩ := hr2.like i o ho
        have k1 := wpOp_like ho ho1 hl1 (hw1 _) (h1.2 _ (r1 L L1 hL1 i hi (fun e2 => absurd e2 ef)))
        have k2 := wpOp_like ho ho2 hl2 (hw2 _) (h2.2 _ (r2 L L2 hL2 i hi (fun e2 => absurd e2 ec)))
        refine wpOp_mono (fun a w hh => ih _ _ _ a w (hL1.set hr1.lt hr1.inj i) (hL2.set hr2.lt hr2.inj i) ?_ ?_ hh.1 hh.2) (wpOp_both ho hp k1 k2)
        · rw [Array.getD_eq_getD_getElem?, Array.getElem?_setIfInBounds_ne ec, ← Array.getD_eq_getD_getElem?]; exact hc
        · rw [Array.getD_eq_getD_getElem?, Array.getElem?_setIfInBounds_ne ef, ← Array.getD_eq_getD_getElem?]; exact hf
def renI (c f i : Nat) : Nat := if i = f then c else if c ≤ i ∧ i < f then i + 1 else i
def addA (o : Oper) (on : Nat) : Oper := { o with after := o.after.push ⟨on, .data⟩ }
def renO (c f : Nat) (o : Oper) : Oper := { o with after := o.after.map (fun e => { e with on := renI c f e.on }), guard := o.guard.map fun g => (renI c f g.1, g.2) }
def ops1L (l : List Oper) (c f : Nat) : List Oper := l.mapIdx fun i o => if i = f then addA o c else o
/-- `f` ahead of `c`. -/
def order2 (l : List Oper) (c f : Nat) : List Oper := l.take c ++ ((l.drop f).take 1 ++ ((l.drop c).take (f - c) ++ l.drop (f + 1)))
def ops2L (l : List Oper) (c f : Nat) : List Oper := (order2 l c f).mapIdx fun k o => renO c f (if k = c + 1 then addA o f else o)
def splitB (l : List Oper) (c f : Nat) : Bool := decide (c < f) && decide (f < l.length) && (List.range l.length).all fun i => match l[i]? with
  | none => true
  | some o => (i == c || i == f || plainOp o.op || o.after.toList.any fun e => Region.binds .any e && (e.on == c || e.on == f)) && (match o.guard with | none => true | some g => decide (g.1 < c))

theorem addA_like (o : Oper) (on : Nat) : Like o (addA o on) := ⟨rfl, rfl, rfl⟩
theorem renO_like (c f : Nat) (o : Oper) : Like o (renO c f o) := ⟨rfl, rfl, rfl⟩
theorem ite_like {o : Oper} {q : Prop} [Decidable q] {x : Oper} (h : Like o x) : Like o (if q then x else o) := by split; exact h; exact Like.refl o
theorem Like.trans {a b c : Oper} (h : Like a b) (k : Like b c) : Like a c := ⟨k.op.trans h.op, k.dst.trans h.dst, k.type.trans h.type⟩
theorem go_addA {ops : Array Oper} {L : Array Bool} {o : Oper} {on : Nat} : Go1 ops L (addA o on) ↔ Go1 ops L o ∧ L.getD on false = true := by
  unfold Go1 addA
  simp only [Array.mem_push]
  constructor
  · exact fun h => ⟨fun e he => h e (.inl he), h ⟨on, .data⟩ (.inr rfl) rfl⟩
  · rintro ⟨h1, h2⟩ e (he | rfl) hb
    · exact h1 e he hb
    · exact h2
section
variable {l : List Oper} {c f : Nat}
theorem ops1_get (i : Nat) : (ops1L l c f)[i]? = (l[i]?).map fun o => if i = f then addA o c else o := by
  simp [ops1L, List.getElem?_mapIdx]
theorem ops1_dst (i : Nat) : ((ops1L l c f).toArray[i]?).bind (·.dst) = (l.toArray[i]?).bind (·.dst) := by
  simp only [List.getElem?_toArray, ops1_get]
  cases l[i]? with
  | none => rfl
  | some o => simp only [Option.map_some, Option.bind_some]; split <;> rfl
theorem ren1 : Ren l.toArray (ops1L l c f).toArray (fun i => i) := by
  refine ⟨by simp [ops1L], fun i => Iff.rfl, fun _ _ h => h, fun j => ⟨j, rfl⟩, fun i o ho => ?_⟩
  refine ⟨if i = f then addA o c else o, by simp only [List.getElem?_toArray] at ho ⊢; rw [ops1_get, ho]; rfl, ite_like (addA_like o c), fun tmps => ?_⟩
  have hy : ∀ j, yielded (ops1L l c f).toArray tmps j = yielded l.toArray tmps j := fun j => by unfold yielded; rw [ops1_dst]
  have hg : (if i = f then addA o c else o).guard = o.guard := by split <;> rfl
  unfold Region.wanted
  rw [hg]
  cases o.guard with
  | none => rfl
  | some g => simp only [hy]
theorem e1 (L L' : Array Bool) (hL : RelL l.toArray.size (fun i => i) L L') (i : Nat) (o o' : Oper) (ho : l.toArray[i]? = some o) (ho' : (ops1L l c f).toArray[i]? = some o') :
    Go1 (ops1L l c f).toArray L' o' ↔ Go1 l.toArray L o ∧ (i = f → L.getD c false = true) := by
  simp only [List.getElem?_toArray] at ho ho'
  rw [ops1_get, ho] at ho'
  simp only [Option.map_some, Option.some.injEq] at ho'
  subst ho'
  have hs : ∀ x, Go1 (ops1L l c f).toArray L' x ↔ Go1 l.toArray L x := fun x => by
    unfold Go1
    exact ⟨fun h e he hb => (hL.2.2 e.on) ▸ h e he hb, fun h e he hb => (hL.2.2 e.on).symm ▸ h e he hb⟩
  rw [hs]
  by_cases e : i = f
  · rw [if_pos e, go_addA]; exact ⟨fun h => ⟨h.1, fun _ => h.2⟩, fun h => ⟨h.1, h.2 e⟩⟩
  · rw [if_neg e]; exact ⟨fun h => ⟨h, fun h2 => absurd h2 e⟩, fun h => h.1⟩
theorem renI_lt (hc : c < f) (hf : f < l.length) (i : Nat) : renI c f i < l.length ↔ i < l.length := by unfold renI; split <;> (try split) <;> omega
theorem renI_inj (hc : c < f) (i j : Nat) (h : renI c f i = renI c f j) : i = j := by
  unfold renI at h
  split at h <;> split at h <;> (try split at h) <;> (try split at h) <;> omega
theorem renI_sur (hc : c < f) (j : Nat) : ∃ i, renI c f i = j := by
  by_cases h1 : j = c
  · exact ⟨f, by unfold renI; simp [h1]⟩
  · by_cases h2 : c < j ∧ j ≤ f
    · exact ⟨j - 1, by unfold renI; rw [if_neg (by omega), if_pos (by omega)]; omega⟩
    · exact ⟨j, by unfold renI; rw [if_neg (by omega), if_neg (by omega)]⟩
theorem order2_len (hc : c < f) (hf : f < l.length) : (order2 l c f).length = l.length := by
  simp [order2]; omega
theorem order2_get (hc : c < f) (hf : f < l.length) (i : Nat) : (order2 l c f)[renI c f i]? = l[i]? := by
  have hl1 : (l.take c).length = c := by simp; omega
  have hl2 : ((l.drop f).take 1).length = 1 := by simp; omega
  have hl3 : ((l.drop c).take (f - c)).length = f - c := by simp; omega
  unfold order2 renI
  by_cases h1 : i = f
  · subst h1
    rw [if_pos rfl, List.getElem?_append_right (by omega), hl1, Nat.sub_self, List.getElem?_append_left (by omega), List.getElem?_take_of_lt (by omega), List.getElem?_drop]; rfl
  · rw [if_neg h1]
    by_cases h2 : c ≤ i ∧ i < f
    · rw [if_pos h2, List.getElem?_append_right (by omega), hl1, List.getElem?_append_right (by omega), hl2, List.getElem?_append_left (by omega), List.getElem?_take_of_lt (by omega), List.getElem?_drop]
      congr 1; omega
    · rw [if_neg h2]
      rcases Nat.lt_or_ge i c with h3 | h3
      · rw [List.getElem?_append_left (by omega), List.getElem?_take_of_lt h3]
      · rw [List.getElem?_append_right (by omega), hl1, List.getElem?_append_right (by omega), hl2, List.getElem?_append_right (by omega), hl3, List.getElem?_drop]
        congr 1; omega
theorem ops2_get (hc : c < f) (hf : f < l.length) (i : Nat) : (ops2L l c f)[renI c f i]? = (l[i]?).map fun o => renO c f (if i = c then addA o f else o) := by
  unfold ops2L
  rw [List.getElem?_mapIdx, order2_get hc hf]
  have : renI c f i = c + 1 ↔ i = c := by
    unfold renI
    split
    · omega
    · split <;> omega
  simp only [this]
theorem ops2_dst (hc : c < f) (hf : f < l.length) (i : Nat) : ((ops2L l c f).toArray[renI c f i]?).bind (·.dst) = (l.toArray[i]?).bind (·.dst) := by
  simp only [List.getElem?_toArray, ops2_get hc hf]
  cases l[i]? with
  | none => rfl
  | some o => simp only [Option.map_some, Option.bind_some]; split <;> rfl
theorem ren2 (hc : c < f) (hf : f < l.length) : Ren l.toArray (ops2L l c f).toArray (renI c f) := by
  refine ⟨by simp [ops2L, order2_len hc hf], fun i => by simpa using renI_lt hc hf i, renI_inj hc, renI_sur hc, fun i o ho => ?_⟩
  refine ⟨renO c f (if i = c then addA o f else o), by simp only [List.getElem?_toArray] at ho ⊢; rw [ops2_get hc hf, ho]; rfl, (ite_like (addA_like o f)).trans (renO_like c f _), fun tmps => ?_⟩
  have hy : ∀ j, yielded (ops2L l c f).toArray tmps (renI c f j) = yielded l.toArray tmps j := fun j => by unfold yielded; rw [ops2_dst hc hf]
  have hg : (renO c f (if i = c then addA o f else o)).guard = o.guard.map fun g => (renI c f g.1, g.2) := by split <;> rfl
  unfold Region.wanted
  rw [hg]
  cases o.guard with
  | none => rfl
  | some g => simp only [Option.map_some, hy]
theorem e2 (hc : c < f) (hf : f < l.length) (L L' : Array Bool) (hL : RelL l.toArray.size (renI c f) L L') (i : Nat) (o o' : Oper) (ho : l.toArray[i]? = some o) (ho' : (ops2L l c f).toArray[renI c f i]? = some o') :
    Go1 (ops2L l c f).toArray L' o' ↔ Go1 l.toArray L o ∧ (i = c → L.getD f false = true) := by
  simp only [List.getElem?_toArray] at ho ho'
  rw [ops2_get hc hf, ho] at ho'
  simp only [Option.map_some, Option.some.injEq] at ho'
  subst ho'
  have hs : ∀ x, Go1 (ops2L l c f).toArray L' (renO c f x) ↔ Go1 l.toArray L x := fun x => by
    unfold Go1 renO
    simp only [Array.mem_map, forall_exists_index, and_imp, forall_apply_eq_imp_iff₂]
    exact ⟨fun h e he hb => (hL.2.2 e.on) ▸ h e he hb, fun h e he hb => (hL.2.2 e.on).symm ▸ h e he hb⟩
  rw [hs]
  by_cases e : i = c
  · rw [if_pos e, go_addA]; exact ⟨fun h => ⟨h.1, fun _ => h.2⟩, fun h => ⟨h.1, h.2 e⟩⟩
  · rw [if_neg e]; exact ⟨fun h => ⟨h, fun h2 => absurd h2 e⟩, fun h => h.1⟩
end
theorem wpAny_chain {l : List Oper} {a : Act} {w : World} (lo st : Nat → Bool) (T : Nat → Nat → Prop) (hB : okB l.toArray = true) (hC : chainB l.toArray lo st = true)
    (h : cwalk P l.toArray lo st T w (fun a' w' => Q .normal a' w') l 0 a w) : wpAny P .any l.toArray Q l.toArray.size (Array.replicate l.toArray.size false) a w := by
  have hok := ok_of hB
  have hch := chain_of hC
  have hlex0 : ∀ u, lex l.toArray a u 0 = a := fun u => (fill_congr (v' := u) (S' := fun _ => false) _ 0 _ (fun j _ _ => ⟨by simp, fun _ => rfl⟩)).trans (fill_none _ 0 _)
  obtain ⟨u, _, e2, e3, e4, e5⟩ := unroll (P := P) (lo := lo) (st := st) (T := T) (w0 := w) (Q := fun a' w' => Q .normal a' w') (a0 := a) hok l 0 (fun _ => undef) w (by simp) (by rw [hlex0]; exact h)
  have hno : ∀ j, (Array.replicate l.toArray.size false).getD j false = false := fun j => by
    simp only [Array.getD_eq_getD_getElem?, Array.getElem?_replicate]
    split <;> rfl
  refine chain_any (Q := fun a' w' => Q .normal a' w') (a0 := a) hok hch (fun _ _ h => h) _ _ _ _ 0 u ⟨by simp, fun i o _ hi => ?_, KeepsP.refl _ _, ?_, fun j _ _ => ?_, fun j hj => by omega, fun j h1 h2 => e2 j (by omega) h1 h2, e3, e4, e5⟩ ?_
  · rw [hno] at hi; cases hi
  · refine ((fill_congr (v' := u) (S' := fun _ => false) _ 0 _ (fun j _ _ => ⟨by simp only [hno], fun _ => rfl⟩)).trans (fill_none _ 0 _)).symm
  · rw [hno]; simp
  · unfold count
    rw [List.countP_eq_length.2 (fun i hi => ?_)]
    · simp
    · rw [hno]; rfl
theorem Like.quiet {o o' : Oper} (h : Like o o') {a : Act} {w : World} {v : Value} (hq : Quiet P o a w v) : Quiet P o' a w v := by
  unfold Quiet at *
  obtain ⟨d, op, t, p, af, g⟩ := o
  obtain ⟨d', op', t', p', af', g'⟩ := o'
  obtain ⟨h1, h2, h3⟩ := h
  simp only at h1 h2 h3
  subst h1 h2 h3
  exact hq
theorem Like.symm {o o' : Oper} (h : Like o o') : Like o' o := ⟨h.op.symm, h.dst.symm, h.type.symm⟩
theorem cwalk_like {ops : Array Oper} {lo st : Nat → Bool} {T : Nat → Nat → Prop} {w0 : World} {R : Act → World → Prop} : ∀ (r r' : List Oper) (i : Nat) (a : Act) (w : World), r.length = r'.length →
    (∀ (j : Nat) (o o' : Oper), r[j]? = some o → r'[j]? = some o' → Like o o' ∧ ∀ tmps, Region.wanted o' (yielded ops tmps) = Region.wanted o (yielded ops tmps)) → cwalk P ops lo st T w0 R r i a w → cwalk P ops lo st T w0 R r' i a w
  | [], [], _, _, _, _, _, h => h
  | [], _ :: _, _, _, _, hl, _, _ => by cases hl
  | _ :: _, [], _, _, _, hl, _, _ => by cases hl
  | o :: r, o' :: r', i, a, w, hl, hr, h => by
    obtain ⟨h1, h2⟩ := hr 0 o o' rfl rfl
    have ih := fun (a : Act) (w : World) => cwalk_like (ops := ops) (lo := lo) (st := st) (T := T) (w0 := w0) (R := R) r r' (i + 1) a w (by simpa using hl) (fun j x y hx hy => hr (j + 1) x y (by simpa using hx) (by simpa using hy))
    unfold cwalk at h ⊢
    rw [h2]
    split
    · rename_i hh
      rw [if_pos hh] at h
      split
      · rename_i h3
        rw [if_pos h3] at h
        exact h1.symm.wp (Oper.wp_mono (fun a w hw => ⟨hw.1, hw.2.1, ih _ _ hw.2.2⟩) h)
      · rename_i h3
        rw [if_neg h3] at h
        rw [h1.dst]
        split
        · rename_i h4
          rw [if_pos h4] at h
          obtain ⟨c, h5, h6⟩ := h
          exact ⟨c, fun w' hw => h1.quiet (h5 w' hw), ih _ _ h6⟩
        · rename_i h4
          rw [if_neg h4] at h
          obtain ⟨c, h5, h6⟩ := h
          exact ⟨c, h1.quiet h5, ih _ _ h6⟩
    · rename_i hh
      rw [if_neg hh] at h
      rw [h1.dst]
      exact ih _ _ h
/-- A region with two acting operations `c` and `f` (in the text `c` is first) that no edge orders: once in the order of the text, once with `f` ahead of `c`. -/
theorem wp_region_float {id : Nat} {l : List Oper} {a : Act} {w : World} {Q' : Exit → Act → World → Prop} (c f : Nat) (lo st : Nat → Bool) (T : Nat → Nat → Prop) (lo2 st2 : Nat → Bool) (T2 : Nat → Nat → Prop) (hm : P.follows .mixedOrders = true) (hS : splitB l c f = true)
    (hB1 : okB (ops1L l c f).toArray = true) (hC1 : chainB (ops1L l c f).toArray lo st = true) (hB2 : okB (ops2L l c f).toArray = true) (hC2 : chainB (ops2L l c f).toArray lo2 st2 = true)
    (h1 : cwalk P (ops1L l c f).toArray lo st T w.drew (fun a' w' => Q' .normal a' w') l 0 a w.drew)
    (h2 : cwalk P (ops2L l c f).toArray lo2 st2 T2 w.drew (fun a' w' => Q' .normal a' w') (order2 l c f) 0 a w.drew) : (Code.region id l.toArray true).wp P Q' a w := by
  refine wp_region_any hm ?_
  unfold splitB at hS
  simp only [Bool.and_eq_true, decide_eq_true_eq] at hS
  obtain ⟨⟨hc, hf⟩, hall⟩ := hS
  have hop : ∀ (i : Nat) (o : Oper), l[i]? = some o → (i = c ∨ i = f ∨ plainOp o.op = true ∨ ∃ e ∈ o.after, Region.binds .any e = true ∧ (e.on = c ∨ e.on = f)) ∧ ∀ g, o.guard = some g → g.1 < c := by
    intro i o ho
    have := List.all_eq_true.1 hall i (List.mem_range.2 (List.getElem?_eq_some_iff.1 ho).1)
    rw [ho] at this
    simp only [Bool.and_eq_true, Bool.or_eq_true, beq_iff_eq, List.any_eq_true] at this
    refine ⟨?_, fun g hg => ?_⟩
    · rcases this.1 with ((h | h) | h) | ⟨e, he, h⟩
      · exact .inl h
      · exact .inr (.inl h)
      · exact .inr (.inr (.inl h))
      · exact .inr (.inr (.inr ⟨e, by simpa using he, h.1, h.2⟩))
    · have h2 := this.2
      rw [hg] at h2
      simpa using h2
  have hn1 : (ops1L l c f).toArray.size = l.toArray.size := (ren1 (l := l) (c := c) (f := f)).size
  have hn2 : (ops2L l c f).toArray.size = l.toArray.size := (ren2 hc hf).size
  have hren : ∀ g, g < c → renI c f g = g := fun g hg => by unfold renI; rw [if_neg (by omega), if_neg (by omega)]
  have g1 : cwalk P (ops1L l c f).toArray lo st T w.drew (fun a' w' => Q' .normal a' w') (ops1L l c f) 0 a w.drew := by
    refine cwalk_like l _ 0 a w.drew (by simp [ops1L]) (fun j o o' ho ho' => ?_) h1
    rw [ops1_get, ho] at ho'
    simp only [Option.map_some, Option.some.injEq] at ho'
    subst ho'
    refine ⟨ite_like (addA_like o c), fun tmps => ?_⟩
    have hg : (if j = f then addA o c else o).guard = o.guard := by split <;> rfl
    unfold Region.wanted
    rw [hg]
  have g2 : cwalk P (ops2L l c f).toArray lo2 st2 T2 w.drew (fun a' w' => Q' .normal a' w') (ops2L l c f) 0 a w.drew := by
    refine cwalk_like (order2 l c f) _ 0 a w.drew (by simp [ops2L]) (fun j o o' ho ho' => ?_) h2
    unfold ops2L at ho'
    rw [List.getElem?_mapIdx, ho] at ho'
    simp only [Option.map_some, Option.some.injEq] at ho'
    subst ho'
    refine ⟨(ite_like (addA_like o f)).trans (renO_like c f _), fun tmps => ?_⟩
    obtain ⟨i, rfl⟩ := renI_sur hc j
    rw [order2_get hc hf] at ho
    have hgd := (hop i o ho).2
    have hg : (renO c f (if renI c f i = c + 1 then addA o f else o)).guard = o.guard := by
      have : (renO c f (if renI c f i = c + 1 then addA o f else o)).guard = o.guard.map fun g => (renI c f g.1, g.2) := by split <;> rfl
      rw [this]
      cases hh : o.guard with
      | none => rfl
      | some g => simp only [Option.map_some]; rw [hren _ (hgd g hh)]
    unfold Region.wanted
    rw [hg]
  have k1 := wpAny_chain lo st T hB1 hC1 g1
  have k2 := wpAny_chain lo2 st2 T2 hB2 hC2 g2
  rw [hn1] at k1
  rw [hn2] at k2
  have hno : ∀ n j, (Array.replicate n false).getD j false = false := fun n j => by
    simp only [Array.getD_eq_getD_getElem?, Array.getElem?_replicate]
    split <;> rfl
  refine wpAny_two (ren1 (l := l) (c := c) (f := f)) (ren2 hc hf) (by omega) e1 (e2 hc hf) (fun i o ho h3 h4 => ?_) _ _ _ _ a _ ⟨by simp, by simp, fun i => rfl⟩ ⟨by simp, by simp, fun i => (hno _ _).trans (hno _ _).symm⟩ (hno _ _) (hno _ _) k1 k2
  rcases (hop i o (by simpa using ho)).1 with h | h | h | h
  · exact absurd h h3
  · exact absurd h h4
  · exact .inl h
  · exact .inr h
end Free
end Go.Proofs.Ytiplgpefapeapaa

namespace Go.Proofs.Ytiplgpefapeapaa
open Go.RowKit

theorem putF_len : ∀ (xs l : List T3), (xs.foldl (fun l x => putN x l) l).length ≤ l.length + xs.length
  | [], l => by simp
  | x :: r, l => by
    rw [List.foldl_cons]
    have h3 := putF_len r (putN x l)
    have h4 := putN_len x l
    simp only [List.length_cons]
    omega
theorem ofL_len (Y : List Ans) (m : Int) (h : ∀ a ∈ Y, a.ins.length ≤ 1000) : (ofL Y m).length ≤ 1000 * Y.length := by
  suffices hs : ∀ (Y : List Ans) (l : List T3), (∀ a ∈ Y, a.ins.length ≤ 1000) → (Y.foldl (ofA m) l).length ≤ l.length + 1000 * Y.length by
    have := hs Y [] h
    unfold ofL
    simpa using this
  intro Y
  induction Y with
  | nil => intro l _; simp
  | cons a Y ih =>
    intro l h
    rw [List.foldl_cons]
    have h1 := ih (ofA m l a) (fun b hb => h b (by simp [hb]))
    have h2 : (ofA m l a).length ≤ l.length + a.ins.length := by
      unfold ofA
      split
      · exact putF_len a.ins l
      · omega
    have h3 := h a (by simp)
    simp only [List.length_cons]
    omega
theorem insN_len (n : T3) (l : List T3) : (insN n l).length = l.length + 1 := by simpa using (insN_perm n l).length_eq
theorem scnF_len (Y : List Ans) (m : Int) : ∀ (L l : List T3), (L.foldl (scnR Y m) l).length = l.length + L.length
  | [], l => by simp
  | x :: r, l => by
    rw [List.foldl_cons, scnF_len Y m r]
    unfold scnR
    rw [insN_len]
    simp only [List.length_cons]
    omega
theorem clmF_len (Y0 : List Ans) (m : Int) : ∀ (Y : List Ans) (p : PCl), (Y.foldl (clmA Y0 m) p).st.length ≤ p.st.length + Y.length ∧ (Y.foldl (clmA Y0 m) p).ch.length ≤ p.ch.length + Y.length
  | [], p => by simp
  | a :: Y, p => by
    rw [List.foldl_cons]
    have h := clmF_len Y0 m Y (clmA Y0 m p a)
    have h2 : (clmA Y0 m p a).st.length ≤ p.st.length + 1 ∧ (clmA Y0 m p a).ch.length ≤ p.ch.length + 1 := by
      unfold clmA
      split
      · split
        · simp only [insN_len]; omega
        · simp only [insN_len]; omega
      · omega
    simp only [List.length_cons]
    omega
theorem scn_succ (Y : List Ans) (m : Int) (L : List T3) (k : Nat) (h : k < L.length) : (L.take (k + 1)).foldl (scnR Y m) [] = insN (L[k].1, L[k].2.1, luL Y (L[k].1, m, L[k].2.1)) ((L.take k).foldl (scnR Y m) []) := foldl_succ _ _ _ _ h
theorem clm_succ (Y0 : List Ans) (m : Int) (p : PCl) (Y : List Ans) (k : Nat) (h : k < Y.length) : (Y.take (k + 1)).foldl (clmA Y0 m) p = clmA Y0 m ((Y.take k).foldl (clmA Y0 m) p) Y[k] := foldl_succ _ _ _ _ h
theorem loadCl5 (w : World) (g : Nat) (t : TypeId) (x0 x1 x2 x3 x4 : Value) (f : Nat × Nat) (hg : w.heap[g]? = some (.cells #[x0, x1, x2, x3, x4] t f)) : (loadVar tC ⟨g, 0, none⟩).run Try.prog w = .ok (.agg #[x0, x1, x2, x3, x4]) w :=
  run_loadVar_row w g t tC #[x0, x1, x2, x3, x4] f _ hg Try.underlying37 rfl (show (Try.prog.info? tC).map (·.size) = some 5 by kernel_rfl)
theorem results_cl5 {fn : Func} {p : Tmp} (h : fn.results = #[.cell p tC]) (tmps : Array Value) (w : World) (g : Nat) (t : TypeId) (x0 x1 x2 x3 x4 : Value) (f : Nat × Nat) (hp : tmps.getD p undef = .pointer (some ⟨g, 0, none⟩))
    (hg : w.heap[g]? = some (.cells #[x0, x1, x2, x3, x4] t f)) : (results fn tmps).run Try.prog w = .ok (.agg #[x0, x1, x2, x3, x4]) w := by
  have hp' : tmps[p]?.getD undef = .pointer (some ⟨g, 0, none⟩) := by simpa using hp
  simp [results, h, hp', asAddr, loadCl5 w g t x0 x1 x2 x3 x4 f hg]
/-- A list that reads as needs does not lie in a block of a claim. -/
theorem need_notC {w : World} {v : Value} {L : List T3} (h : shT.R w v L) {X : Nat} {x0 x1 x2 x3 x4 : Value} (hX : w.heap[X]? = some (.cells #[x0, x1, x2, x3, x4] tC (0, 0))) (h0 : ∀ n : Nat, x0 ≠ .int .u64 n) (h1 : ∀ n : Nat, x1 ≠ .int .u64 n) (h2 : ∀ n : Nat, x2 ≠ .int .u64 n) (h3 : ∀ n : Nat, x3 ≠ .int .u64 n) (h4 : ∀ n : Nat, x4 ≠ .int .u64 n) (hne : L ≠ []) : v.ownBlock ≠ some X := by
  have hl : 0 < L.length := List.length_pos_iff.2 hne
  obtain ⟨g, o, c, rfl, he⟩ := h.elem hl
  intro e
  simp [Value.ownBlock] at e
  subst e
  have h5 := he 1 _ rfl
  simp only [Nat.zero_mul, Nat.add_zero] at h5
  simp only [World.cell?, hX] at h5
  match o, h5 with
  | 0, h5 => simp at h5; exact h1 _ h5
  | 1, h5 => simp at h5; exact h2 _ h5
  | 2, h5 => simp at h5; exact h3 _ h5
  | 3, h5 => simp at h5; exact h4 _ h5
  | o + 4, h5 => simp at h5
/-- The claim as it is gathered, in its block. -/
structure CB (w : World) (X : Nat) (p : PCl) (v1 v2 v3 : Option Addr × Nat × Nat) : Prop where
  cells : w.heap[X]? = some (.cells #[.int .i64 p.m, .int .i64 p.ep, slv v1, slv v2, slv v3] tC (0, 0))
  st : Nd w (slv v1) p.st
  sc : Nd w (slv v2) p.sc
  ch : Nd w (slv v3) p.ch
theorem CB.keeps {w w' : World} {X : Nat} {p : PCl} {v1 v2 v3 : Option Addr × Nat × Nat} (h : CB w X p v1 v2 v3) (hk : Keeps [] w w') : CB w' X p v1 v2 v3 := ⟨(hk.block _ (lt_of_blk h.cells) (by simp)).trans h.cells, h.st.keeps hk, h.sc.keeps hk, h.ch.keeps hk⟩
theorem tag_Cl {w : World} {b : Nat} {cs : Array Value} {f : Nat × Nat} (h : w.heap[b]? = some (Obj.cells cs tC f)) : ∀ c ∈ [b], ∀ (cs' : Array Value) (f' : Nat × Nat), w.heap[c]? ≠ some (Obj.cells cs' tN f') := fun c hc cs' f' e => by
  simp only [List.mem_singleton] at hc
  subst hc
  rw [h] at e
  cases e
theorem CB.setEp {w : World} {X : Nat} {p : PCl} {v1 v2 v3 : Option Addr × Nat × Nat} (h : CB w X p v1 v2 v3) (e : Int) : CB (w.setCell ⟨X, 1, none⟩ (.int .i64 e)) X { p with ep := e } v1 v2 v3 ∧ Keeps [X] w (w.setCell ⟨X, 1, none⟩ (.int .i64 e)) := by
  have hk : Keeps [X] w (w.setCell ⟨X, 1, none⟩ (.int .i64 e)) := (Keeps.refl _ _).setCell (.inr (by simp)) _
  have ht := tag_Cl h.cells
  exact ⟨⟨by simp [World.setCell, Array.getElem?_modify, h.cells], h.st.keepS hk ht, h.sc.keepS hk ht, h.ch.keepS hk ht⟩, hk⟩
theorem CB.setSt {w : World} {X : Nat} {p : PCl} {v1 v2 v3 : Option Addr × Nat × Nat} (h : CB w X p v1 v2 v3) {v : Option Addr × Nat × Nat} {L : List T3} (hn : Nd w (slv v) L) : CB (w.setCell ⟨X, 2, none⟩ (slv v)) X { p with st := L } v v2 v3 ∧ Keeps [X] w (w.setCell ⟨X, 2, none⟩ (slv v)) := by
  have hk : Keeps [X] w (w.setCell ⟨X, 2, none⟩ (slv v)) := (Keeps.refl _ _).setCell (.inr (by simp)) _
  have ht := tag_Cl h.cells
  exact ⟨⟨by simp [World.setCell, Array.getElem?_modify, h.cells], hn.keepS hk ht, h.sc.keepS hk ht, h.ch.keepS hk ht⟩, hk⟩
theorem CB.setSc {w : World} {X : Nat} {p : PCl} {v1 v2 v3 : Option Addr × Nat × Nat} (h : CB w X p v1 v2 v3) {v : Option Addr × Nat × Nat} {L : List T3} (hn : Nd w (slv v) L) : CB (w.setCell ⟨X, 3, none⟩ (slv v)) X { p with sc := L } v1 v v3 ∧ Keeps [X] w (w.setCell ⟨X, 3, none⟩ (slv v)) := by
  have hk : Keeps [X] w (w.setCell ⟨X, 3, none⟩ (slv v)) := (Keeps.refl _ _).setCell (.inr (by simp)) _
  have ht := tag_Cl h.cells
  exact ⟨⟨by simp [World.setCell, Array.getElem?_modify, h.cells], h.st.keepS hk ht, hn.keepS hk ht, h.ch.keepS hk ht⟩, hk⟩
theorem CB.setCh {w : World} {X : Nat} {p : PCl} {v1 v2 v3 : Option Addr × Nat × Nat} (h : CB w X p v1 v2 v3) {v : Option Addr × Nat × Nat} {L : List T3} (hn : Nd w (slv v) L) : CB (w.setCell ⟨X, 4, none⟩ (slv v)) X { p with ch := L } v1 v2 v ∧ Keeps [X] w (w.setCell ⟨X, 4, none⟩ (slv v)) := by
  have hk : Keeps [X] w (w.setCell ⟨X, 4, none⟩ (slv v)) := (Keeps.refl _ _).setCell (.inr (by simp)) _
  have ht := tag_Cl h.cells
  exact ⟨⟨by simp [World.setCell, Array.getElem?_modify, h.cells], h.st.keepS hk ht, h.sc.keepS hk ht, hn.keepS hk ht⟩, hk⟩
theorem CB.notL {w : World} {X : Nat} {p : PCl} {v1 v2 v3 : Option Addr × Nat × Nat} (h : CB w X p v1 v2 v3) {v : Value} {L : List T3} (hL : shT.R w v L) (hne : L ≠ []) : v.ownBlock ≠ some X :=
  need_notC hL h.cells (fun n e => by cases e) (fun n e => by cases e) (fun n e => by cases e) (fun n e => by cases e) (fun n e => by cases e) hne
abbrev ctO (x0 x1 x2 : Int) (x3 : Nat) (x4 : Int) (x5 : Option Addr) (x6 x7 : Nat) (x8 : Option Addr) (x9 x10 : Nat) : Obj := .cells #[.int .i64 x0, .int .i64 x1, .int .i64 x2, .int .u64 x3, .int .i64 x4, .slice x5 x6 x7, .slice x8 x9 x10] tCt
def ClmRP (w : World) (p : PCl) (e : Ending) (w' : World) : Prop := ∃ x : ClV, e = .returned (.agg #[.int .i64 x.m, .int .i64 x.ep, slv x.v1, slv x.v2, slv x.v3]) ∧ CR w' x p ∧ Keeps [] w w'
set_option maxRecDepth 100000 in
set_option maxHeartbeats 16000000 in
theorem claimS_c (w : World) (x : CtV) (Y : List Ans) (h : RdA w (slv x.va) Y) (hl : Y.length ≤ 1000) (hin : ∀ a ∈ Y, a.ins.length ≤ 1000) (m : Int) :
    Calls Try.prog 25 #[ctV x, .int .i64 m] w fun e w' => ClmRP w (clmR Y m) e w' := by
  have hof := fun (W : World) (hk : Keeps [] w W) => ofR_c W x Y (h.keeps hk) hl hin m
  have hou := fun (W : World) (hk : Keeps [] w W) => outS_c W x Y (h.keeps hk) hl hin
  have hfi := fun (W : World) (hk : Keeps [] w W) => findR_c W x Y (h.keeps hk)
  have hOl := ofL_len Y m hin
  obtain ⟨x0, x1, x2, x3, x4, ⟨x5, x6, x7⟩, ⟨x8, x9, x10⟩⟩ := x
  simp only [ctV, slv] at hof hou hfi
  simp only [slv] at h
  obtain ⟨_, _, e1, hla, hca⟩ := h.form
  simp only [Value.slice.injEq] at e1
  obtain ⟨-, e1, -⟩ := e1
  have hx6m : x6 ≤ 1000 := by omega
  obtain ⟨hb1, hb2, hb3, hkA, hsz⟩ := blks3 w (.cells #[.int .i64 x0, .int .i64 x1, .int .i64 x2, .int .u64 x3, .int .i64 x4, .slice x5 x6 x7, .slice x8 x9 x10] tCt) (.cells #[.int .i64 0, .int .i64 0, .slice none 0 0, .slice none 0 0, .slice none 0 0] tC) (.cells #[.int .i64 m, .int .i64 0, .slice none 0 0, .slice none 0 0, .slice none 0 0] tC)
  obtain ⟨r, hr⟩ : ∃ r, clmR Y m = r := ⟨_, rfl⟩
  obtain ⟨OL, hOL⟩ : ∃ l, ofL Y m = l := ⟨_, rfl⟩
  have hr0 : Y.foldl (clmA Y m) ⟨m, 0, [], OL.foldl (scnR Y m) [], []⟩ = r := by rw [← hr, ← hOL]; rfl
  unfold OfPost at hof
  rw [hOL] at hOl hof
  rw [hr]
  have hY := Lib.hid h
  replace hof := Lib.hid hof
  replace hou := Lib.hid hou
  replace hfi := Lib.hid hfi
  replace hr := Lib.hid hr
  replace hr0 := Lib.hid hr0
  replace hOL := Lib.hid hOL
  replace hOl := Lib.hid hOl
  replace e1 := Lib.hid e1
  replace hb1 := Lib.hid hb1
  replace hb2 := Lib.hid hb2
  replace hb3 := Lib.hid hb3
  replace hkA := Lib.hid hkA
  replace hsz := Lib.hid hsz
  replace hin := Lib.hid hin
  clear h
  simp only [ctV, slv]
  go_enter Try.func25, Try.ntmps25
  go_upto_region 2 with fail
  generalize (((w.alloc (.cells #[.int .i64 x0, .int .i64 x1, .int .i64 x2, .int .u64 x3, .int .i64 x4, .slice x5 x6 x7, .slice x8 x9 x10] tCt)).alloc (.cells #[.int .i64 0, .int .i64 0, .slice none 0 0, .slice none 0 0, .slice none 0 0] tC)).alloc (.cells #[.int .i64 m, .int .i64 0, .slice none 0 0, .slice none 0 0, .slice none 0 0] tC)) = W at *
  obtain ⟨B, hB⟩ : ∃ B, w.heap.size = B := ⟨_, rfl⟩
  rw [hB] at hb1 hb2 hb3 hsz ⊢
  obtain ⟨X, hX⟩ : ∃ X, B + 1 + 1 = X := ⟨_, rfl⟩
  obtain ⟨Rb, hRb⟩ : ∃ X, B + 1 = X := ⟨_, rfl⟩
  rw [hX] at hb3 hsz
  rw [hRb] at hb2
  have hCB : Hid (CB W X ⟨m, 0, [], [], []⟩ (none, 0, 0) (none, 0, 0) (none, 0, 0)) := Lib.hid ⟨hb3.out, Nd.nil _, Nd.nil _, Nd.nil _⟩
  have hne1 : B ≠ X := by omega
  have hne2 : Rb ≠ X := by omega
  have hwX : w.heap.size ≤ X := by omega
  rw [hX, hRb]
  replace hX := Lib.hid hX
  replace hRb := Lib.hid hRb
  replace hB := Lib.hid hB
  replace hne1 := Lib.hid hne1
  replace hne2 := Lib.hid hne2
  replace hwX := Lib.hid hwX
  obtain ⟨i0, i1, i2, i3, i4, i5, i6, if', il⟩ := cl7 hb1.out
  go_wp2_with fail
  refine (hof.out _ hkA.out).mono ?_
  rintro e w1 ⟨v, rfl, hR, hk1⟩
  have hk01 := Lib.hid (hkA.out.trans hk1)
  replace hb1 := Lib.hid ((hk1.block _ (lt_of_blk hb1.out) (by simp)).trans hb1.out)
  replace hb2 := Lib.hid ((hk1.block _ (lt_of_blk hb2.out) (by simp)).trans hb2.out)
  replace hCB := Lib.hid (hCB.out.keeps hk1)
  clear i0 i1 i2 i3 i4 i5 i6 if' il hb3 hkA hsz hk1 hof
  obtain ⟨oa, oc, hv, hc1, hc2, _⟩ := hR.form
  subst hv
  have hc3 : oc ≤ 9223372036854775807 := by unfold maxLen at hc2; omega
  obtain ⟨N, hN⟩ : ∃ N, OL.length = N := ⟨_, rfl⟩
  rw [hN] at hR hc1 hOl ⊢
  have hNb : N ≤ 1000000 := by have := hOl.out; omega
  replace hR := Lib.hid hR
  replace hN := Lib.hid hN
  go_wp2
  go_loopw [7] (fun i wr => ∃ (k : Nat) (v2 : Option Addr × Nat × Nat), i = .int .i64 k ∧ k ≤ N ∧ Hid (CB wr X ⟨m, 0, [], (OL.take k).foldl (scnR Y m) [], []⟩ (none, 0, 0) v2 (none, 0, 0)) ∧ Hid (Keeps [X] w1 wr)) (fun i _ => N - (intOf i).toNat)
  case atStart => exact ⟨0, (none, 0, 0), rfl, by omega, hCB, Lib.hid (Keeps.refl _ _)⟩
  case round =>
    obtain ⟨k, v2, rfl, hk, hCr, hkr⟩ := hrel
    have hb1r := Lib.hid ((hkr.out.block _ (lt_of_blk hb1.out) (by simpa using hne1.out)).trans hb1.out)
    have hRr := hR.out.keepE hkr.out (fun b hb hne => by simp only [List.mem_singleton] at hb; subst hb; exact hCB.out.notL hR.out hne)
    have hk0r := Lib.hid (hk01.out.fresh hkr.out (fun b hb => by simp only [List.mem_singleton] at hb; subst hb; exact .inr hwX.out))
    by_cases hlt : k < N
    · have hlt2 : (k : Int) < N := by omega
      have hkl : k < OL.length := by rw [hN.out]; exact hlt
      have hsucc := scn_succ Y m OL k hkl
      obtain ⟨g, o, c', hv, he⟩ := hRr.elem hkl
      rw [hN.out] at hv
      cases hv
      obtain ⟨⟨n0, n1, n2⟩, hz⟩ : ∃ z, OL[k] = z := ⟨_, rfl⟩
      rw [hz] at he hsucc
      have t0 := he 0 _ rfl
      have t1 := he 1 _ rfl
      have t2 := he 2 _ rfl
      simp only [shT, Nat.add_zero] at t0 t1 t2
      simp only at hsucc
      have hfl : ((OL.take k).foldl (scnR Y m) []).length = k := by rw [scnF_len, List.length_take, hN.out, List.length_nil]; omega
      obtain ⟨SL, hSL⟩ : ∃ l, (OL.take k).foldl (scnR Y m) [] = l := ⟨_, rfl⟩
      rw [hSL] at hsucc hfl hCr
      replace hsucc := Lib.hid hsucc
      replace hSL := Lib.hid hSL
      replace hz := Lib.hid hz
      replace hfl := Lib.hid hfl
      clear he
      obtain ⟨i0, i1, i2, i3, i4, i5, i6, if', il⟩ := cl7 hb1r.out
      go_upto_region 6 with fail
      have hcall := fun (W : World) (hk : Keeps [] w W) => hfi.out W hk n0 m n1
      replace hcall := Lib.hid hcall
      go_cut [8] from 19 to 57 (fun b wx => ∃ (b8 : Nat) (z0 z1 : Value) (z2 : Value) (z3 z4 z5 : Value) (lu : Int) (z7 : Value), b = .pointer (some ⟨b8, 0, none⟩) ∧ Hid (wx.heap[b8]? = some (.cells #[z0, z1, z2, z3, z4, z5, .int .i64 lu, z7] tA (0, 0))) ∧ Hid (lu = luL Y (n0, m, n1)) ∧ Hid (wr.heap.size ≤ b8) ∧ Hid (Keeps [] wr wx))
      case first =>
        refine Free.wp_region_float 12 16 (fun i => i == 12 || i == 16 || i == 17) (fun i => true) (fun j b => j = 17 ∧ wr.heap.size ≤ b) (fun i => i == 12 || i == 13 || i == 17) (fun i => true) (fun j b => j = 17 ∧ wr.heap.size ≤ b) (by kernel_rfl) (by kernel_rfl) (by kernel_rfl) (by kernel_rfl) (by kernel_rfl) (by kernel_rfl) ?_ ?_
        · skip
          (repeat (first | (apply Free.cw_pure rfl rfl; (intro w'; go_simp <;> exact rfl); go_frame) | (apply Free.cw_steady rfl rfl rfl; (intro w' hS; have q0 := Free.sx_cell hS i0 (fun _ _ hT => Nat.not_le_of_lt (lt_of_cell i0) hT.2); have q1 := Free.sx_cell hS i1 (fun _ _ hT => Nat.not_le_of_lt (lt_of_cell i1) hT.2); have q2 := Free.sx_cell hS i2 (fun _ _ hT => Nat.not_le_of_lt (lt_of_cell i2) hT.2); have q3 := Free.sx_cell hS i3 (fun _ _ hT => Nat.not_le_of_lt (lt_of_cell i3) hT.2); have q4 := Free.sx_cell hS i4 (fun _ _ hT => Nat.not_le_of_lt (lt_of_cell i4) hT.2); have q5 := Free.sx_cell hS i5 (fun _ _ hT => Nat.not_le_of_lt (lt_of_cell i5) hT.2); have q6 := Free.sx_cell hS i6 (fun _ _ hT => Nat.not_le_of_lt (lt_of_cell i6) hT.2); have q7 := Free.sx_cell hS t0 (fun _ _ hT => Nat.not_le_of_lt (lt_of_cell t0) hT.2); have q8 := Free.sx_cell hS t1 (fun _ _ hT => Nat.not_le_of_lt (lt_of_cell t1) hT.2); go_simp <;> exact rfl); go_frame) | (refine Free.cw_skip rfl ?_; go_frame)))
          refine Free.cw_loud rfl rfl (fun K hK => ?_)
          go_wp2_with fail
          refine (hcall.out _ (hk0r.out.drew)).mono ?_
          rintro e w2 ⟨⟨z0, z1, z2, z3, z4, z5, z6, z7, z8, z9⟩, rfl, hz2, hk2⟩
          refine hK _ _ rfl (Free.KeepsP.of hk2 (by simp)) ?_
          clear hK K
          simp only [aV, AnV.v]
          (repeat (apply Free.cw_pure rfl rfl; (intro w'; go_simp <;> exact rfl); go_frame))
          refine Free.cw_loud rfl rfl (fun K hK => ?_)
          go_wp2
          refine hK _ _ rfl (Free.KeepsP.alloc _ _ _) ?_
          clear hK K
          (repeat (apply Free.cw_pure rfl rfl; (intro w'; go_simp <;> exact rfl); go_frame))
          refine Free.cw_loud rfl rfl (fun K hK => ?_)
          go_wp2
          refine hK _ _ rfl (keepsP_remade (S := fun b => True ∧ wr.heap.size ≤ b) w2 _ _ ⟨trivial, by have := hk2.size; simpa using this⟩) ?_
          clear hK K
          (repeat (apply Free.cw_pure rfl rfl; (intro w'; go_simp <;> exact rfl); go_frame))
          refine Free.cw_nil ?_
          have hkq := Lib.hid ((((Keeps.refl [] wr).drew).trans hk2).alloc (.cells #[.int .i64 z0, .int .i64 z1, .int .u64 z2, .int .i64 z3, .bool z4, .bool z5, .int .i64 z6, .slice z7 z8 z9] tA))
          have hbq := Lib.hid (heap_alloc_new w2 (.cells #[.int .i64 z0, .int .i64 z1, .int .u64 z2, .int .i64 z3, .bool z4, .bool z5, .int .i64 z6, .slice z7 z8 z9] tA))
          have hluq : Hid (z6 = luL Y (n0, m, n1)) := Lib.hid (by rw [← findA_lu]; exact hz2.lu)
          have hszq : Hid (wr.heap.size ≤ w2.heap.size) := Lib.hid (by have := hk2.size; simpa using this)
          clear hz2 hk2
          go_wp2
          go_meet
          case rel => exact ⟨_, _, _, _, _, _, _, _, _, rfl, hbq, hluq, hszq, hkq⟩
        · skip
          (repeat (first | (apply Free.cw_pure rfl rfl; (intro w'; go_simp <;> exact rfl); go_frame) | (apply Free.cw_steady rfl rfl rfl; (intro w' hS; have q0 := Free.sx_cell hS i0 (fun _ _ hT => Nat.not_le_of_lt (lt_of_cell i0) hT.2); have q1 := Free.sx_cell hS i1 (fun _ _ hT => Nat.not_le_of_lt (lt_of_cell i1) hT.2); have q2 := Free.sx_cell hS i2 (fun _ _ hT => Nat.not_le_of_lt (lt_of_cell i2) hT.2); have q3 := Free.sx_cell hS i3 (fun _ _ hT => Nat.not_le_of_lt (lt_of_cell i3) hT.2); have q4 := Free.sx_cell hS i4 (fun _ _ hT => Nat.not_le_of_lt (lt_of_cell i4) hT.2); have q5 := Free.sx_cell hS i5 (fun _ _ hT => Nat.not_le_of_lt (lt_of_cell i5) hT.2); have q6 := Free.sx_cell hS i6 (fun _ _ hT => Nat.not_le_of_lt (lt_of_cell i6) hT.2); have q7 := Free.sx_cell hS t0 (fun _ _ hT => Nat.not_le_of_lt (lt_of_cell t0) hT.2); have q8 := Free.sx_cell hS t1 (fun _ _ hT => Nat.not_le_of_lt (lt_of_cell t1) hT.2); go_simp <;> exact rfl); go_frame) | (refine Free.cw_skip rfl ?_; go_frame)))
          refine Free.cw_loud rfl rfl (fun K hK => ?_)
          go_wp2
          refine hK _ _ rfl (Free.KeepsP.alloc _ _ _) ?_
          clear hK K
          (repeat (first | (apply Free.cw_pure rfl rfl; (intro w'; go_simp <;> exact rfl); go_frame) | (apply Free.cw_steady rfl rfl rfl; (intro w' hS; have q0 := Free.sx_cell hS i0 (fun _ _ hT => Nat.not_le_of_lt (lt_of_cell i0) hT.2); have q1 := Free.sx_cell hS i1 (fun _ _ hT => Nat.not_le_of_lt (lt_of_cell i1) hT.2); have q2 := Free.sx_cell hS i2 (fun _ _ hT => Nat.not_le_of_lt (lt_of_cell i2) hT.2); have q3 := Free.sx_cell hS i3 (fun _ _ hT => Nat.not_le_of_lt (lt_of_cell i3) hT.2); have q4 := Free.sx_cell hS i4 (fun _ _ hT => Nat.not_le_of_lt (lt_of_cell i4) hT.2); have q5 := Free.sx_cell hS i5 (fun _ _ hT => Nat.not_le_of_lt (lt_of_cell i5) hT.2); have q6 := Free.sx_cell hS i6 (fun _ _ hT => Nat.not_le_of_lt (lt_of_cell i6) hT.2); have q7 := Free.sx_cell hS t0 (fun _ _ hT => Nat.not_le_of_lt (lt_of_cell t0) hT.2); have q8 := Free.sx_cell hS t1 (fun _ _ hT => Nat.not_le_of_lt (lt_of_cell t1) hT.2); go_simp <;> exact rfl); go_frame) | (refine Free.cw_skip rfl ?_; go_frame)))
          refine Free.cw_loud rfl rfl (fun K hK => ?_)
          go_wp2_with fail
          refine (hcall.out _ ((hk0r.out.drew).alloc _)).mono ?_
          rintro e w2 ⟨⟨z0, z1, z2, z3, z4, z5, z6, z7, z8, z9⟩, rfl, hz2, hk2⟩
          refine hK _ _ rfl (Free.KeepsP.of hk2 (by simp)) ?_
          clear hK K
          simp only [aV, AnV.v]
          (repeat (apply Free.cw_pure rfl rfl; (intro w'; go_simp <;> exact rfl); go_frame))
          refine Free.cw_loud rfl rfl (fun K hK => ?_)
          have hnb := (hk2.block wr.heap.size (by simp) (by simp)).trans (heap_alloc_new wr.drew _)
          obtain ⟨d0, d1, d2, d3, d4, d5, d6, d7, df, dl⟩ := cl8 hnb
          obtain ⟨s1, s2⟩ := sc8 (.int .i64 z0) (.int .i64 z1) (.int .u64 z2) (.int .i64 z3) (.bool z4) (.bool z5) (.int .i64 z6) (.slice z7 z8 z9) hnb
          have hkq0 := (((Keeps.refl [] wr).drew).alloc (.cells #[.int .i64 0, .int .i64 0, .int .u64 0, .int .i64 0, .bool false, .bool false, .int .i64 0, .slice none 0 0] tA)).trans hk2
          have hkq := Lib.hid (hkq0.fresh s2 (fun b hb => by simp only [List.mem_singleton] at hb; subst hb; exact .inr (Nat.le_refl _)))
          have hluq : Hid (z6 = luL Y (n0, m, n1)) := Lib.hid (by rw [← findA_lu]; exact hz2.lu)
          replace s1 := Lib.hid s1
          replace s2 := Lib.hid s2
          clear hz2 hk2 hkq0 hnb
          go_wp2
          apply hK
          · rfl
          · exact Free.KeepsP.of s2.out (fun b hb => by simp only [List.mem_singleton] at hb; subst hb; exact ⟨trivial, Nat.le_refl _⟩)
          clear hK K
          (repeat (apply Free.cw_pure rfl rfl; (intro w'; go_simp <;> exact rfl); go_frame))
          refine Free.cw_nil ?_
          go_wp2
          go_meet
          case rel => exact ⟨_, _, _, _, _, _, _, _, _, rfl, s1, hluq, Lib.hid (Nat.le_refl _), hkq⟩
      case rest =>
        obtain ⟨b8, z0, z1, z2, z3, z4, z5, lu, z7, rfl, hb8, hlu, hb8s, hkc⟩ := hcut
        have hbAc := Lib.hid ((hkc.out.block _ (lt_of_blk hb1r.out) (by simp)).trans hb1r.out)
        have hCc := hCr.out.keeps hkc.out
        have t0' := hkc.out.val t0
        have t1' := hkc.out.val t1
        rw [← hlu.out] at hsucc
        have hne8 : b8 ≠ X := by have h1 := hb8s.out; have h2 := lt_of_blk hCr.out.cells; omega
        have hgX : g ≠ X := fun e => by
          have := hCr.out.notL hRr (fun h0 => by rw [h0] at hkl; simp at hkl)
          exact this (by simp [Value.ownBlock, e])
        clear i0 i1 i2 i3 i4 i5 i6 if' il t0 t1 t2 hcall
        obtain ⟨c0, c1, c2, c3, c4, cf, cl⟩ := cl5 hCc.cells
        obtain ⟨p0, p1, p2, p3, p4, p5, p6, p7, pf, pl⟩ := cl8 hb8.out
        have hneed := fun (W : World) (hk : Keeps [] wc W) => needR_c W (slv v2) SL (n0, n1, lu) (hCc.sc.keeps hk).1 (by rw [hfl.out]; omega)
        obtain ⟨v21, v22, v23⟩ := v2
        simp only [slv] at c3 hneed
        simp only [tV] at hneed
        replace hneed := Lib.hid hneed
        replace hCc := Lib.hid hCc
        go_upto_region 7 with fail
        refine Free.wp_region_chain (fun i => i == 15 || i == 17) (fun i => true) (fun j b => j = 17 ∧ b = X) (by kernel_rfl) (by kernel_rfl) (by kernel_rfl) ?_
        (repeat (first | (apply Free.cw_pure rfl rfl; (intro w'; go_simp <;> exact rfl); go_frame) | (apply Free.cw_steady rfl rfl rfl; (intro w' hS; have q0 := Free.sx_cell hS c3 (fun j hp hT => by obtain ⟨rfl, _⟩ := hT; exact absurd hp (by decide +kernel)); have q1 := Free.sx_cell hS t0' (fun _ _ hT => hgX hT.2); have q2 := Free.sx_cell hS t1' (fun _ _ hT => hgX hT.2); have q3 := Free.sx_cell hS p6 (fun _ _ hT => hne8 hT.2); go_simp <;> exact rfl); go_frame) | (refine Free.cw_skip rfl ?_; go_frame)))
        refine Free.cw_loud rfl rfl (fun K hK => ?_)
        go_wp2_with fail
        refine (hneed.out _ ((Keeps.refl [] wc).drew)).mono ?_
        rintro e w3 ⟨v', rfl, hO3, hk3⟩
        refine hK _ _ rfl (Free.KeepsP.of hk3 (by simp)) ?_
        clear hK K hneed
        have hk3d := ((Keeps.refl [] wc).drew).trans hk3
        have hC3 := hCc.out.keeps hk3d
        obtain ⟨ga, gcp, hgv, _⟩ := hO3.r.form
        subst hgv
        obtain ⟨pn, hpn⟩ : ∃ n, (insN (n0, n1, lu) SL).length = n := ⟨_, rfl⟩
        rw [hpn] at hO3 ⊢
        rw [← hsucc.out] at hO3
        have hN3 := Nd.of_O hO3
        obtain ⟨hC4, hk4⟩ := hC3.setSc (v := (ga, pn, gcp)) hN3
        obtain ⟨d0, d1, d2, d3, d4, df, dl⟩ := cl5 hC3.cells
        have hkz := Lib.hid ((hkr.out.trans (hkc.out.trans hk3d).of_nil).trans hk4)
        replace hC4 := Lib.hid hC4
        replace hk4 := Lib.hid hk4
        replace hpn := Lib.hid hpn
        clear hC3 hN3 hO3 hk3 hk3d
        (repeat (apply Free.cw_pure rfl rfl; (intro w'; go_simp <;> exact rfl); go_frame))
        refine Free.cw_loud rfl rfl (fun K hK => ?_)
        go_wp2
        refine hK _ _ rfl (Free.KeepsP.of hk4.out (fun b hb => ⟨trivial, by simpa using hb⟩)) ?_
        clear hK K
        (repeat (apply Free.cw_pure rfl rfl; (intro w'; go_simp <;> exact rfl); go_frame))
        refine Free.cw_nil ?_
        go_wp2
        go_roundw
        case rel => exact ⟨k + 1, _, rfl, by omega, hC4, hkz⟩
        case measure => simp [intOf]; omega
    · have hlt2 : ¬ ((k : Int) < N) := by omega
      have hkN : (OL.take k).foldl (scnR Y m) [] = OL.foldl (scnR Y m) [] := by rw [List.take_of_length_le (by rw [hN.out]; omega)]
      rw [hkN] at hCr
      have hr1 := hr0.out
      obtain ⟨P0, hP0⟩ : ∃ p, (⟨m, 0, [], OL.foldl (scnR Y m) [], []⟩ : PCl) = p := ⟨_, rfl⟩
      rw [hP0] at hCr hr1
      have hPl := clmF_len Y m
      have hP1 : P0.st.length = 0 ∧ P0.ch.length = 0 := by rw [← hP0]; exact ⟨rfl, rfl⟩
      replace hP0 := Lib.hid hP0
      replace hPl := Lib.hid hPl
      replace hP1 := Lib.hid hP1
      replace hr1 := Lib.hid hr1
      clear hRr hkN hb1r hk0r
      go_wp2
      go_loopw [10] (fun i wr => ∃ (k : Nat) (p : PCl) (v1 v2 v3 : Option Addr × Nat × Nat), i = .int .i64 k ∧ k ≤ x6 ∧ Hid (p = (Y.take k).foldl (clmA Y m) P0) ∧ Hid (CB wr X p v1 v2 v3) ∧ Hid (Keeps [X] w1 wr)) (fun i _ => x6 - (intOf i).toNat)
      case atStart => exact ⟨0, P0, _, _, _, rfl, by omega, Lib.hid rfl, hCr, hkr⟩
      case round =>
        obtain ⟨k, p, ⟨a1, a2, a3⟩, ⟨b1, b2, b3⟩, ⟨c1, c2, c3⟩, rfl, hk, hp, hCr, hkr⟩ := hrel
        have hb1r := Lib.hid ((hkr.out.block _ (lt_of_blk hb1.out) (by simpa using hne1.out)).trans hb1.out)
        have hk0r := Lib.hid (hk01.out.fresh hkr.out (fun b hb => by simp only [List.mem_singleton] at hb; subst hb; exact .inr hwX.out))
        by_cases hlt : k < x6
        · have hlt2 : (k : Int) < x6 := by omega
          have hkl : k < Y.length := by rw [← e1.out]; exact hlt
          have hsucc := clm_succ Y m P0 Y k hkl
          have hpl : p.st.length ≤ k ∧ p.ch.length ≤ k := by
            have h1 := hPl.out (Y.take k) P0
            have h2 := hP1.out
            rw [List.length_take] at h1
            rw [hp.out]
            omega
          rw [← hp.out] at hsucc
          obtain ⟨g, o, c', y, hv, hy, he⟩ := hY.out.elem hkl
          rw [← e1.out] at hv
          cases hv
          obtain ⟨a, ha⟩ : ∃ a, Y[k] = a := ⟨_, rfl⟩
          rw [ha] at hy hsucc
          have m0 := hy.m
          have m1 := hy.ow
          have m2 := hy.n
          have m3 := hy.ep
          obtain ⟨y0, y1, y2, y3, y4, y5, y6, y7, y8, y9⟩ := y
          simp only at m0 m1 m2 m3
          have e0 := hk0r.out.val (he 0 _ rfl)
          have e1' := hk0r.out.val (he 1 _ rfl)
          have e2 := hk0r.out.val (he 2 _ rfl)
          have e3 := hk0r.out.val (he 3 _ rfl)
          have e4 := hk0r.out.val (he 4 _ rfl)
          have e5 := hk0r.out.val (he 5 _ rfl)
          have e6 := hk0r.out.val (he 6 _ rfl)
          have e7 := hk0r.out.val (he 7 _ rfl)
          simp only [AnV.v, Nat.add_zero] at e0 e1' e2 e3 e4 e5 e6 e7
          have hbN := heap_alloc_new wr (.cells #[.int .i64 y0, .int .i64 y1, .int .u64 y2, .int .i64 y3, .bool y4, .bool y5, .int .i64 y6, .slice y7 y8 y9] tA)
          have hka := (Keeps.refl [] wr).alloc (.cells #[.int .i64 y0, .int .i64 y1, .int .u64 y2, .int .i64 y3, .bool y4, .bool y5, .int .i64 y6, .slice y7 y8 y9] tA)
          have hAn := (hka.block _ (lt_of_blk hb1r.out) (by simp)).trans hb1r.out
          have hCn := hCr.out.keeps hka
          have hkn := Lib.hid (hkr.out.trans hka.of_nil)
          have hkG := Lib.hid (hk0r.out.trans hka)
          have hXN0 : wr.heap.size ≠ X := by have := lt_of_blk hCr.out.cells; omega
          obtain ⟨i0, i1, i2, i3, i4, i5, i6, if', il⟩ := cl7 hb1r.out
          replace ha := Lib.hid ha
          replace hp := Lib.hid hp.out
          replace hpl := Lib.hid hpl
          replace m0 := Lib.hid m0
          replace m1 := Lib.hid m1
          replace m2 := Lib.hid m2
          replace m3 := Lib.hid m3
          replace hsucc := Lib.hid hsucc
          replace hbN := Lib.hid hbN
          replace hAn := Lib.hid hAn
          replace hCn := Lib.hid hCn
          clear he hy hka
          go_upto_region 12 with fail
          generalize (wr.alloc (.cells #[.int .i64 y0, .int .i64 y1, .int .u64 y2, .int .i64 y3, .bool y4, .bool y5, .int .i64 y6, .slice y7 y8 y9] tA)) = WN at *
          obtain ⟨XN, hXN⟩ : ∃ X, wr.heap.size = X := ⟨_, rfl⟩
          rw [hXN] at hbN hXN0 ⊢
          replace hXN := Lib.hid hXN
          replace hXN0 := Lib.hid hXN0
          clear i0 i1 i2 i3 i4 i5 i6 if' il e0 e1' e2 e3 e4 e5 e6 e7
          obtain ⟨i0, i1, i2, i3, i4, i5, i6, if', il⟩ := cl7 hAn.out
          obtain ⟨e0, e1', e2, e3, e4, e5, e6, e7, ef, el⟩ := cl8 hbN.out
          obtain ⟨d0, d1, d2, d3, d4, df, dl⟩ := cl5 hCn.out.cells
          by_cases hm : y0 = m
          case neg =>
            have bm : (y0 != m) = true := by simpa using hm
            have hpn : Hid (p = (Y.take (k + 1)).foldl (clmA Y m) P0) := Lib.hid (by rw [hsucc.out]; unfold clmA; rw [if_neg (by rw [← m0.out]; exact hm)])
            replace hm := Lib.hid hm
            go_wp2
            go_roundw
            case rel => exact ⟨k + 1, p, _, _, _, rfl, by omega, hpn, hCn, hkn⟩
            case measure => simp [intOf]; omega
          case pos =>
          have bm : (y0 != m) = false := by simpa using hm
          obtain ⟨hC5, hkS⟩ := hCn.out.setEp y3
          have hA5 := (hkS.block _ (lt_of_blk hAn.out) (by simpa using hne1.out)).trans hAn.out
          have hN5 := (hkS.block _ (lt_of_blk hbN.out) (by simpa using hXN0.out)).trans hbN.out
          have hk5 := Lib.hid (hkn.out.trans hkS)
          replace hm := Lib.hid hm
          replace hkS := Lib.hid hkS
          replace hC5 := Lib.hid hC5
          replace hA5 := Lib.hid hA5
          replace hN5 := Lib.hid hN5
          go_upto_region 14 with fail
          generalize (WN.setCell ⟨X, 1, none⟩ (.int .i64 y3)) = W5 at *
          clear i0 i1 i2 i3 i4 i5 i6 if' il e0 e1' e2 e3 e4 e5 e6 e7 ef el d0 d1 d2 d3 d4 df dl
          obtain ⟨i0, i1, i2, i3, i4, i5, i6, if', il⟩ := cl7 hA5.out
          obtain ⟨e0, e1', e2, e3, e4, e5, e6, e7, ef, el⟩ := cl8 hN5.out
          have hk05 := hk01.out.fresh hk5.out (fun b hb => by simp only [List.mem_singleton] at hb; subst hb; exact .inr hwX.out)
          obtain ⟨oo, hoo⟩ : ∃ oo, outR Y (y1, m, y2) = oo := ⟨_, rfl⟩
          have hcall := hou.out W5 hk05 y1 m y2
          rw [hoo] at hcall
          replace hoo := Lib.hid hoo
          replace hcall := Lib.hid hcall
          go_wp2_with fail
          refine hcall.out.mono ?_
          rintro e w6 ⟨rfl, hk6⟩
          have hC6 := hC5.out.keeps hk6
          have hN6 := (hk6.block _ (lt_of_blk hN5.out) (by simp)).trans hN5.out
          clear i0 i1 i2 i3 i4 i5 i6 if' il e0 e1' e2 e3 e4 e5 e6 e7 ef el hcall
          obtain ⟨e0, e1', e2, e3, e4, e5, e6, e7, ef, el⟩ := cl8 hN6
          obtain ⟨d0, d1, d2, d3, d4, df, dl⟩ := cl5 hC6.cells
          cases oo with
          | some o2 =>
            have hneed := fun (W : World) (hk : Keeps [] W5 W) => needR_c W (slv (a1, a2, a3)) p.st (y1, y2, o2) (hC5.out.st.keeps hk).1 (by have := hpl.out; omega)
            have hstep : clmA Y m p a = { p with ep := y3, st := insN (y1, y2, o2) p.st } := by
              unfold clmA
              rw [if_pos (by rw [← m0.out]; exact hm.out), ← m1.out, ← m2.out, ← m3.out, hoo.out]
            rw [hstep] at hsucc
            simp only [tV] at hneed
            replace hneed := Lib.hid hneed
            replace hsucc := Lib.hid hsucc
            go_wp2_with fail
            refine (hneed.out _ hk6).mono ?_
            rintro e w7 ⟨v', rfl, hO7, hk7⟩
            have hC7 := hC6.keeps hk7
            obtain ⟨ga, gcp, hgv, _⟩ := hO7.r.form
            subst hgv
            obtain ⟨pn, hpn⟩ : ∃ n, (insN (y1, y2, o2) p.st).length = n := ⟨_, rfl⟩
            rw [hpn] at hO7 ⊢
            obtain ⟨hC8, hk8⟩ := hC7.setSt (v := (ga, pn, gcp)) (Nd.of_O hO7)
            have hC8' : Hid (CB (w7.setCell ⟨X, 2, none⟩ (.slice ga pn gcp)) X ((Y.take (k + 1)).foldl (clmA Y m) P0) (ga, pn, gcp) (b1, b2, b3) (c1, c2, c3)) := Lib.hid (by rw [hsucc.out]; exact hC8)
            obtain ⟨d0, d1, d2, d3, d4, df, dl⟩ := cl5 hC7.cells
            have hkz := Lib.hid ((hk5.out.trans (hk6.trans hk7).of_nil).trans hk8)
            replace hpn := Lib.hid hpn
            clear hC8 hk8 hC7 hO7 hk7 hneed
            go_wp2
            go_roundw
            case rel => exact ⟨k + 1, _, _, _, _, rfl, by omega, Lib.hid rfl, hC8', hkz⟩
            case measure => simp [intOf]; omega
          | none =>
            have hneed := fun (W : World) (hk : Keeps [] W5 W) => needR_c W (slv (c1, c2, c3)) p.ch (y1, y2, 0) (hC5.out.ch.keeps hk).1 (by have := hpl.out; omega)
            have hstep : clmA Y m p a = { p with ep := y3, ch := insN (y1, y2, 0) p.ch } := by
              unfold clmA
              rw [if_pos (by rw [← m0.out]; exact hm.out), ← m1.out, ← m2.out, ← m3.out, hoo.out]
            rw [hstep] at hsucc
            simp only [tV] at hneed
            replace hneed := Lib.hid hneed
            replace hsucc := Lib.hid hsucc
            go_wp2_with fail
            refine (hneed.out _ hk6).mono ?_
            rintro e w7 ⟨v', rfl, hO7, hk7⟩
            have hC7 := hC6.keeps hk7
            obtain ⟨ga, gcp, hgv, _⟩ := hO7.r.form
            subst hgv
            obtain ⟨pn, hpn⟩ : ∃ n, (insN (y1, y2, 0) p.ch).length = n := ⟨_, rfl⟩
            rw [hpn] at hO7 ⊢
            obtain ⟨hC8, hk8⟩ := hC7.setCh (v := (ga, pn, gcp)) (Nd.of_O hO7)
            have hC8' : Hid (CB (w7.setCell ⟨X, 4, none⟩ (.slice ga pn gcp)) X ((Y.take (k + 1)).foldl (clmA Y m) P0) (a1, a2, a3) (b1, b2, b3) (ga, pn, gcp)) := Lib.hid (by rw [hsucc.out]; exact hC8)
            obtain ⟨d0, d1, d2, d3, d4, df, dl⟩ := cl5 hC7.cells
            have hkz := Lib.hid ((hk5.out.trans (hk6.trans hk7).of_nil).trans hk8)
            replace hpn := Lib.hid hpn
            clear hC8 hk8 hC7 hO7 hk7 hneed
            go_wp2
            go_roundw
            case rel => exact ⟨k + 1, _, _, _, _, rfl, by omega, Lib.hid rfl, hC8', hkz⟩
            case measure => simp [intOf]; omega
        · have hlt2 : ¬ ((k : Int) < x6) := by omega
          have hkY : k = Y.length := by have := e1.out; omega
          have hpr : p = r := by rw [hp.out, hkY, List.take_length, hr1.out]
          rw [hpr] at hCr
          have hb2r := (hkr.out.block _ (lt_of_blk hb2.out) (by simpa using hne2.out)).trans hb2.out
          obtain ⟨d0, d1, d2, d3, d4, df, dl⟩ := cl5 hCr.out.cells
          obtain ⟨f0, f1, f2, f3, f4, ff, fl⟩ := cl5 hb2r
          obtain ⟨i0, i1, i2, i3, i4, i5, i6, if', il⟩ := cl7 hb1r.out
          simp only [slv] at d2 d3 d4
          replace hb2r := Lib.hid hb2r
          replace hkY := Lib.hid hkY
          replace hpr := Lib.hid hpr
          go_wp2
          obtain ⟨s1, s2⟩ := sc5 (.int .i64 r.m) (.int .i64 r.ep) (.slice a1 a2 a3) (.slice b1 b2 b3) (.slice c1 c2 c3) hb2r.out
          have ht := tag_Cl hb2r.out
          have hst := (hCr.out.st.keepS s2 ht).1
          have hsc := (hCr.out.sc.keepS s2 ht).1
          have hch := (hCr.out.ch.keepS s2 ht).1
          have hkz := hk0r.out.fresh s2 (fun b hb => by simp only [List.mem_singleton] at hb; subst hb; exact .inr (by have h1 := hRb.out; have h2 := hB.out; omega))
          refine bodyPost_ret (results_cl5 rfl _ _ _ _ _ _ _ _ _ _ rfl s1) rfl ?_
          exact ⟨⟨r.m, r.ep, (a1, a2, a3), (b1, b2, b3), (c1, c2, c3)⟩, rfl, ⟨rfl, rfl, hst, hsc, hch⟩, hkz⟩
end Go.Proofs.Ytiplgpefapeapaa

namespace Go.Proofs.Ytiplgpefapeapaa
open Go.RowKit

set_option maxRecDepth 100000 in
set_option maxHeartbeats 16000000 in
theorem wfR_c (w : World) (x : CtV) (c : Ct) (h : CtW w x c) (hf : c.Few) :
    Calls Try.prog 20 #[ctV x] w fun e w' => e = .returned (.bool (wf c)) ∧ Keeps [] w w' := by
  have him := h.im
  have his := h.is
  have hs0 := h.s0
  have han := h.an
  have hcl := h.cl
  obtain ⟨x0, x1, x2, x3, x4, ⟨x5, x6, x7⟩, ⟨x8, x9, x10⟩⟩ := x
  simp only [slv] at han hcl
  simp only at him his hs0
  obtain ⟨_, _, e1, hla, hca⟩ := han.form
  obtain ⟨_, _, e2, hlc, hcc⟩ := hcl.form
  simp only [Value.slice.injEq] at e1 e2
  obtain ⟨-, e1, -⟩ := e1
  obtain ⟨-, e2, -⟩ := e2
  have hx6 : x6 ≤ 1000 := by have := hf.an; omega
  have hx9 : x9 ≤ 1000 := by have := hf.cl; omega
  have hA := heap_alloc_new w (.cells #[.int .i64 x0, .int .i64 x1, .int .i64 x2, .int .u64 x3, .int .i64 x4, .slice x5 x6 x7, .slice x8 x9 x10] tCt)
  have hkA := (Keeps.refl [] w).alloc (.cells #[.int .i64 x0, .int .i64 x1, .int .i64 x2, .int .u64 x3, .int .i64 x4, .slice x5 x6 x7, .slice x8 x9 x10] tCt)
  obtain ⟨W, hW⟩ : ∃ W, w.alloc (.cells #[.int .i64 x0, .int .i64 x1, .int .i64 x2, .int .u64 x3, .int .i64 x4, .slice x5 x6 x7, .slice x8 x9 x10] tCt) = W := ⟨_, rfl⟩
  obtain ⟨B, hB⟩ : ∃ B, w.heap.size = B := ⟨_, rfl⟩
  rw [hW] at hA hkA
  rw [hB] at hA
  obtain ⟨r, hr⟩ : ∃ r, wf c = r := ⟨_, rfl⟩
  rw [hr]
  unfold wf at hr
  rw [← him, ← his, ← hs0] at hr
  obtain ⟨m1, hm1⟩ : ∃ b, mach x0 = b := ⟨_, rfl⟩
  obtain ⟨m2, hm2⟩ : ∃ b, mach x2 = b := ⟨_, rfl⟩
  have hc1 := fun W => machR_c x0 W
  have hc2 := fun W => machR_c x2 W
  rw [hm1] at hc1 hr
  rw [hm2] at hc2 hr
  replace hc1 := Lib.hid hc1
  replace hc2 := Lib.hid hc2
  replace hr := Lib.hid hr
  replace han := Lib.hid han
  replace hcl := Lib.hid hcl
  replace hkA := Lib.hid hkA
  replace hW := Lib.hid hW
  replace hB := Lib.hid hB
  replace e1 := Lib.hid e1
  replace e2 := Lib.hid e2
  replace hf := Lib.hid hf
  replace hA := Lib.hid hA
  clear h hm1 hm2 him his hs0 hla hlc hca hcc
  simp only [ctV, slv]
  go_enter Try.func20, Try.ntmps20
  go_upto_region 1 with fail
  rw [hW.out, hB.out]
  obtain ⟨i0, i1, i2, i3, i4, i5, i6, if', il⟩ := cl7 hA.out
  go_wp2_with fail
  refine (hc1.out _).mono ?_
  rintro e w' ⟨rfl, hw⟩
  obtain rfl := hw
  clear hc1
  cases m1 with
  | false =>
    have hd : false = r := by rw [← hr.out]; simp
    replace hd := Lib.hid hd
    go_wp2
    go_ret
    exact ⟨by rw [← hd.out]; rfl, hkA.out⟩
  | true =>
  by_cases h1 : x1 < 1
  · have hd : false = r := by
      rw [← hr.out]
      have : decide (1 ≤ x1) = false := by simpa using h1
      rw [this]; simp
    replace hd := Lib.hid hd
    go_wp2
    go_ret
    exact ⟨by rw [← hd.out]; rfl, hkA.out⟩
  have h1d : decide (x1 < 1) = false := by simpa using h1
  have h1e : decide (1 ≤ x1) = true := by simpa using h1
  rw [h1e] at hr
  go_wp2_with fail
  refine (hc2.out _).mono ?_
  rintro e w' ⟨rfl, hw⟩
  obtain rfl := hw
  clear hc2
  cases m2 with
  | false =>
    have hd : false = r := by rw [← hr.out]; simp
    replace hd := Lib.hid hd
    go_wp2
    go_ret
    exact ⟨by rw [← hd.out]; rfl, hkA.out⟩
  | true =>
  have hl6 : decide ((1024 : Int) < x6) = false := by simp; omega
  simp only [Bool.and_self, Bool.true_and] at hr
  clear h1 h1d h1e
  go_wp2
  go_loopw [3] (fun i wr => ∃ k : Nat, i = .int .i64 k ∧ k ≤ x6 ∧ Hid (∀ j (hj : j < c.an.length), j < k → ansOk c.an[j] = true) ∧ Hid (∀ j (hj : j + 1 < c.an.length), j + 1 < k → qlt (c.an[j]'(by omega)).q c.an[j + 1].q) ∧ Hid (Keeps [] W wr)) (fun i _ => x6 - (intOf i).toNat)
  case atStart => exact ⟨0, rfl, by omega, Lib.hid (fun _ _ h => by omega), Lib.hid (fun _ _ h => by omega), Lib.hid (Keeps.refl _ _)⟩
  case round =>
    clear i0 i1 i2 i3 i4 i5 i6 if' il
    obtain ⟨k, rfl, hk, hno, hin, hkw⟩ := hrel
    have hAr := (hkw.out.block _ (lt_of_blk hA.out) (by simp)).trans hA.out
    obtain ⟨i0, i1, i2, i3, i4, i5, i6, if', il⟩ := cl7 hAr
    have hkF := Lib.hid (hkA.out.trans hkw.out)
    by_cases hlt : k < x6
    · have hlt2 : (k : Int) < x6 := by omega
      have hkl : k < c.an.length := by rw [← e1.out]; exact hlt
      obtain ⟨g, o, c', y, hv, hy, he⟩ := (han.out.keeps hkF.out).elem hkl
      rw [← e1.out] at hv
      cases hv
      have hans := fun (W : World) (hk : Keeps [] wr W) => answerR_c W y _ (InR.keep hy hk (by simp)) (by have := hf.out.ins _ (List.getElem_mem hkl); omega)
      obtain ⟨y0, y1, y2, y3, y4, y5, y6, y7, y8, y9⟩ := y
      have hyq : AnV.q ⟨y0, y1, y2, y3, y4, y5, y6, y7, y8, y9⟩ = c.an[k].q := by
        have hm := hy.m
        have hw := hy.ow
        have hn := hy.n
        unfold AnV.q Ans.q
        rw [hm, hw, hn]
      have g0 := he 0 _ rfl
      have g1 := he 1 _ rfl
      have g2 := he 2 _ rfl
      have g3 := he 3 _ rfl
      have g4 := he 4 _ rfl
      have g5 := he 5 _ rfl
      have g6 := he 6 _ rfl
      have g7 := he 7 _ rfl
      simp only [AnV.v, Nat.add_zero] at g0 g1 g2 g3 g4 g5 g6 g7
      simp only [aV, AnV.v] at hans
      obtain ⟨b, hb⟩ : ∃ b, ansOk c.an[k] = b := ⟨_, rfl⟩
      rw [hb] at hans
      replace hans := Lib.hid hans
      replace hb := Lib.hid hb
      replace hyq := Lib.hid hyq
      clear he hy
      cases b with
      | false =>
        have hd : false = r := by rw [← hr.out, all_no hkl hb.out]; simp
        replace hd := Lib.hid hd
        go_wp2
        refine Free.wp_region_chain (fun i => i == 5 || i == 22) (fun i => true) (fun _ _ => False) (by kernel_rfl) (by kernel_rfl) (by kernel_rfl) ?_
        (repeat (first | (apply Free.cw_pureW rfl rfl; (intro w'; go_simp <;> exact rfl); go_frame) | (apply Free.cw_steadyW rfl rfl rfl; (intro w' hS; have q0 := Free.sx_cell hS i5 (fun _ _ hT => hT); have q1 := Free.sx_cell hS g0 (fun _ _ hT => hT); have q2 := Free.sx_cell hS g1 (fun _ _ hT => hT); have q3 := Free.sx_cell hS g2 (fun _ _ hT => hT); have q4 := Free.sx_cell hS g3 (fun _ _ hT => hT); have q5 := Free.sx_cell hS g4 (fun _ _ hT => hT); have q6 := Free.sx_cell hS g5 (fun _ _ hT => hT); have q7 := Free.sx_cell hS g6 (fun _ _ hT => hT); have q8 := Free.sx_cell hS g7 (fun _ _ hT => hT); go_simp <;> exact rfl); go_frame) | (refine Free.cw_skip rfl ?_; go_frame)))
        refine Free.cw_loudW rfl rfl (fun K hK => ?_)
        go_wp2_with fail
        refine (hans.out _ (Keeps.refl [] wr).drew).mono ?_
        rintro e w5 ⟨rfl, hk5⟩
        refine hK _ _ rfl (Free.KeepsP.of hk5 (by simp)) ?_
        clear hK K hans
        (repeat (first | (apply Free.cw_pureW rfl rfl; (intro w'; go_simp <;> exact rfl); go_frame) | (apply Free.cw_steadyW rfl rfl rfl; (intro w' hS; have q0 := Free.sx_cell hS i5 (fun _ _ hT => hT); have q1 := Free.sx_cell hS g0 (fun _ _ hT => hT); have q2 := Free.sx_cell hS g1 (fun _ _ hT => hT); have q3 := Free.sx_cell hS g2 (fun _ _ hT => hT); have q4 := Free.sx_cell hS g3 (fun _ _ hT => hT); have q5 := Free.sx_cell hS g4 (fun _ _ hT => hT); have q6 := Free.sx_cell hS g5 (fun _ _ hT => hT); have q7 := Free.sx_cell hS g6 (fun _ _ hT => hT); have q8 := Free.sx_cell hS g7 (fun _ _ hT => hT); go_simp <;> exact rfl); go_frame) | (refine Free.cw_skip rfl ?_; go_frame)))
        refine Free.cw_nil ?_
        have hkz := Lib.hid (hkF.out.trans (((Keeps.refl [] wr).drew).trans hk5))
        go_wp2
        go_ret
        exact ⟨by rw [← hd.out]; rfl, hkz.out⟩
      | true =>
      have hno2 : Hid (∀ j (hj : j < c.an.length), j < k + 1 → ansOk c.an[j] = true) := Lib.hid (fun j hj hjk => by
        by_cases e : j = k
        · subst e; exact hb.out
        · exact hno.out j hj (by omega))
      by_cases hk0 : k = 0
      · have hkz0 : decide ((0 : Int) < (k : Int)) = false := by simp; omega
        have hkz1 : decide (0 < k) = false := by simp; omega
        have hin2 : Hid (∀ j (hj : j + 1 < c.an.length), j + 1 < k + 1 → qlt (c.an[j]'(by omega)).q c.an[j + 1].q) := Lib.hid (fun j hj hjk => by omega)
        replace hk0 := Lib.hid hk0
        go_wp2
        refine Free.wp_region_chain (fun i => i == 5 || i == 22) (fun i => true) (fun _ _ => False) (by kernel_rfl) (by kernel_rfl) (by kernel_rfl) ?_
        (repeat (first | (apply Free.cw_pureW rfl rfl; (intro w'; go_simp <;> exact rfl); go_frame) | (apply Free.cw_steadyW rfl rfl rfl; (intro w' hS; have q0 := Free.sx_cell hS i5 (fun _ _ hT => hT); have q1 := Free.sx_cell hS g0 (fun _ _ hT => hT); have q2 := Free.sx_cell hS g1 (fun _ _ hT => hT); have q3 := Free.sx_cell hS g2 (fun _ _ hT => hT); have q4 := Free.sx_cell hS g3 (fun _ _ hT => hT); have q5 := Free.sx_cell hS g4 (fun _ _ hT => hT); have q6 := Free.sx_cell hS g5 (fun _ _ hT => hT); have q7 := Free.sx_cell hS g6 (fun _ _ hT => hT); have q8 := Free.sx_cell hS g7 (fun _ _ hT => hT); go_simp <;> exact rfl); go_frame) | (refine Free.cw_skip rfl ?_; go_frame)))
        refine Free.cw_loudW rfl rfl (fun K hK => ?_)
        go_wp2_with fail
        refine (hans.out _ (Keeps.refl [] wr).drew).mono ?_
        rintro e w5 ⟨rfl, hk5⟩
        refine hK _ _ rfl (Free.KeepsP.of hk5 (by simp)) ?_
        clear hK K hans
        (repeat (first | (apply Free.cw_pureW rfl rfl; (intro w'; go_simp <;> exact rfl); go_frame) | (apply Free.cw_steadyW rfl rfl rfl; (intro w' hS; have q0 := Free.sx_cell hS i5 (fun _ _ hT => hT); have q1 := Free.sx_cell hS g0 (fun _ _ hT => hT); have q2 := Free.sx_cell hS g1 (fun _ _ hT => hT); have q3 := Free.sx_cell hS g2 (fun _ _ hT => hT); have q4 := Free.sx_cell hS g3 (fun _ _ hT => hT); have q5 := Free.sx_cell hS g4 (fun _ _ hT => hT); have q6 := Free.sx_cell hS g5 (fun _ _ hT => hT); have q7 := Free.sx_cell hS g6 (fun _ _ hT => hT); have q8 := Free.sx_cell hS g7 (fun _ _ hT => hT); go_simp <;> exact rfl); go_frame) | (refine Free.cw_skip rfl ?_; go_frame)))
        refine Free.cw_nil ?_
        have hkz := Lib.hid (hkw.out.trans (((Keeps.refl [] wr).drew).trans hk5))
        clear hk5
        go_wp2
        go_roundw
        case rel => exact ⟨k + 1, rfl, by omega, hno2, hin2, hkz⟩
        case measure => simp [intOf]; omega
      · have hkz0 : decide ((0 : Int) < (k : Int)) = true := by simp; omega
        have hkz1 : decide (0 < k) = true := by simp; omega
        obtain ⟨m, hm⟩ : ∃ m, k = m + 1 := ⟨k - 1, by omega⟩
        have hml : m < c.an.length := by omega
        have hmM : (m : Int) < x6 := by omega
        have hwm : IntKind.i64.wrap ((k : Int) - 1) = m := by rw [IntWalk.i64_in _ (by omega)]; omega
        obtain ⟨g2, o2, c2, z, hv2, hz, he2⟩ := (han.out.keeps hkF.out).elem hml
        rw [← e1.out] at hv2
        cases hv2
        obtain ⟨z0, z1, z2, z3, z4, z5, z6, z7, z8, z9⟩ := z
        have hzq : AnV.q ⟨z0, z1, z2, z3, z4, z5, z6, z7, z8, z9⟩ = c.an[m].q := by
          have hm := hz.m
          have hw := hz.ow
          have hn := hz.n
          unfold AnV.q Ans.q
          rw [hm, hw, hn]
        have f0 := he2 0 _ rfl
        have f1 := he2 1 _ rfl
        have f2 := he2 2 _ rfl
        have f3 := he2 3 _ rfl
        have f4 := he2 4 _ rfl
        have f5 := he2 5 _ rfl
        have f6 := he2 6 _ rfl
        have f7 := he2 7 _ rfl
        simp only [AnV.v, Nat.add_zero] at f0 f1 f2 f3 f4 f5 f6 f7
        have hbc := fun w => beforeR_c w ⟨z0, z1, z2, z3, z4, z5, z6, z7, z8, z9⟩ ⟨y0, y1, y2, y3, y4, y5, y6, y7, y8, y9⟩
        rw [hzq, hyq.out] at hbc
        simp only [aV, AnV.v] at hbc
        obtain ⟨d, hdd⟩ : ∃ d, decide (qlt c.an[m].q c.an[k].q) = d := ⟨_, rfl⟩
        rw [hdd] at hbc
        replace hbc := Lib.hid hbc
        replace hdd := Lib.hid hdd
        replace hm := Lib.hid hm
        replace hk0 := Lib.hid hk0
        replace hzq := Lib.hid hzq
        clear he2 hz
        go_wp2
        refine Free.wp_region_chain (fun i => i == 5 || i == 22) (fun i => true) (fun _ _ => False) (by kernel_rfl) (by kernel_rfl) (by kernel_rfl) ?_
        (repeat (first | (apply Free.cw_pureW rfl rfl; (intro w'; go_simp <;> exact rfl); go_frame) | (apply Free.cw_steadyW rfl rfl rfl; (intro w' hS; have q0 := Free.sx_cell hS i5 (fun _ _ hT => hT); have q1 := Free.sx_cell hS g0 (fun _ _ hT => hT); have q2 := Free.sx_cell hS g1 (fun _ _ hT => hT); have q3 := Free.sx_cell hS g2 (fun _ _ hT => hT); have q4 := Free.sx_cell hS g3 (fun _ _ hT => hT); have q5 := Free.sx_cell hS g4 (fun _ _ hT => hT); have q6 := Free.sx_cell hS g5 (fun _ _ hT => hT); have q7 := Free.sx_cell hS g6 (fun _ _ hT => hT); have q8 := Free.sx_cell hS g7 (fun _ _ hT => hT); have q9 := Free.sx_cell hS f0 (fun _ _ hT => hT); have q10 := Free.sx_cell hS f1 (fun _ _ hT => hT); have q11 := Free.sx_cell hS f2 (fun _ _ hT => hT); have q12 := Free.sx_cell hS f3 (fun _ _ hT => hT); have q13 := Free.sx_cell hS f4 (fun _ _ hT => hT); have q14 := Free.sx_cell hS f5 (fun _ _ hT => hT); have q15 := Free.sx_cell hS f6 (fun _ _ hT => hT); have q16 := Free.sx_cell hS f7 (fun _ _ hT => hT); go_simp <;> exact rfl); go_frame) | (refine Free.cw_skip rfl ?_; go_frame)))
        refine Free.cw_loudW rfl rfl (fun K hK => ?_)
        go_wp2_with fail
        refine (hans.out _ (Keeps.refl [] wr).drew).mono ?_
        rintro e w5 ⟨rfl, hk5⟩
        refine hK _ _ rfl (Free.KeepsP.of hk5 (by simp)) ?_
        clear hK K hans
        (repeat (first | (apply Free.cw_pureW rfl rfl; (intro w'; go_simp <;> exact rfl); go_frame) | (apply Free.cw_steadyW rfl rfl rfl; (intro w' hS; have q0 := Free.sx_cell hS i5 (fun _ _ hT => hT); have q1 := Free.sx_cell hS g0 (fun _ _ hT => hT); have q2 := Free.sx_cell hS g1 (fun _ _ hT => hT); have q3 := Free.sx_cell hS g2 (fun _ _ hT => hT); have q4 := Free.sx_cell hS g3 (fun _ _ hT => hT); have q5 := Free.sx_cell hS g4 (fun _ _ hT => hT); have q6 := Free.sx_cell hS g5 (fun _ _ hT => hT); have q7 := Free.sx_cell hS g6 (fun _ _ hT => hT); have q8 := Free.sx_cell hS g7 (fun _ _ hT => hT); have q9 := Free.sx_cell hS f0 (fun _ _ hT => hT); have q10 := Free.sx_cell hS f1 (fun _ _ hT => hT); have q11 := Free.sx_cell hS f2 (fun _ _ hT => hT); have q12 := Free.sx_cell hS f3 (fun _ _ hT => hT); have q13 := Free.sx_cell hS f4 (fun _ _ hT => hT); have q14 := Free.sx_cell hS f5 (fun _ _ hT => hT); have q15 := Free.sx_cell hS f6 (fun _ _ hT => hT); have q16 := Free.sx_cell hS f7 (fun _ _ hT => hT); go_simp <;> exact rfl); go_frame) | (refine Free.cw_skip rfl ?_; go_frame)))
        refine Free.cw_loudW rfl rfl (fun K hK => ?_)
        go_wp2_with fail
        refine (hbc.out _).mono ?_
        rintro e w6 ⟨rfl, hk6⟩
        refine hK _ _ rfl (Free.KeepsP.of hk6 (by simp)) ?_
        clear hK K hbc
        (repeat (apply Free.cw_pureW rfl rfl; (intro w'; go_simp <;> exact rfl); go_frame))
        refine Free.cw_nil ?_
        have hkz := Lib.hid (hkw.out.trans ((((Keeps.refl [] wr).drew).trans hk5).trans hk6))
        have hkz2 := Lib.hid (hkA.out.trans hkz.out)
        clear hk5 hk6
        cases d with
        | false =>
          have hd : false = r := by
            rw [← hr.out]
            have : incA c.an = false := Bool.eq_false_iff.2 (fun hi => of_decide_eq_false hdd.out (by
              have := incA_iff.1 hi m (by have := hm.out; omega)
              have e := hm.out
              subst e
              exact this))
            rw [this]; simp
          replace hd := Lib.hid hd
          go_wp2
          go_ret
          exact ⟨by rw [← hd.out]; rfl, hkz2.out⟩
        | true =>
          have hin2 : Hid (∀ j (hj : j + 1 < c.an.length), j + 1 < k + 1 → qlt (c.an[j]'(by omega)).q c.an[j + 1].q) := Lib.hid (fun j hj hjk => by
            by_cases e : j + 1 = k
            · have hjm : j = m := by have := hm.out; omega
              subst hjm
              have := of_decide_eq_true hdd.out
              simp only [e]
              exact this
            · exact hin.out j hj (by omega))
          go_wp2
          go_roundw
          case rel => exact ⟨k + 1, rfl, by omega, hno2, hin2, hkz⟩
          case measure => simp [intOf]; omega
    · have hlt2 : ¬ ((k : Int) < x6) := by omega
      have h1 : incA c.an = true := incA_iff.2 (fun j hj => hin.out j hj (by have := e1.out; omega))
      have h2 : c.an.all ansOk = true := all_take (fun j hj => hno.out j hj (by have := e1.out; omega))
      rw [h1, h2, Bool.true_and, Bool.and_true] at hr
      clear hno hin h1 h2
      go_wp2
      generalize wr = W2 at *
      go_loopw [4] (fun i wr => ∃ k : Nat, i = .int .i64 k ∧ k ≤ x9 ∧ Hid (∀ j (hj : j + 1 < c.cl.length), j + 1 < k → (c.cl[j]'(by omega)).m < c.cl[j + 1].m) ∧ Hid (Keeps [] W2 wr)) (fun i _ => x9 - (intOf i).toNat)
      case atStart => exact ⟨0, rfl, by omega, Lib.hid (fun _ _ h => by omega), Lib.hid (Keeps.refl _ _)⟩
      case round =>
        clear i0 i1 i2 i3 i4 i5 i6 if' il
        obtain ⟨k, rfl, hk, hin, hkq⟩ := hrel
        have hAq := (hkq.out.block _ (lt_of_blk hAr) (by simp)).trans hAr
        obtain ⟨i0, i1, i2, i3, i4, i5, i6, if', il⟩ := cl7 hAq
        have hkG := Lib.hid (hkF.out.trans hkq.out)
        by_cases hlt : k < x9
        · have hlt2 : (k : Int) < x9 := by omega
          have hkl : k < c.cl.length := by rw [← e2.out]; exact hlt
          obtain ⟨g, o, c', x, hv, hx, g0, g1, g2, g3, g4⟩ := (hcl.out.keeps hkG.out).elem hkl
          rw [← e2.out] at hv
          cases hv
          obtain ⟨hi1, hi2, hi3⟩ := hf.out.ns _ (List.getElem_mem hkl)
          obtain ⟨_, _, ev1, _⟩ := hx.st.form
          obtain ⟨_, _, ev2, _⟩ := hx.sc.form
          obtain ⟨_, _, ev3, _⟩ := hx.ch.form
          have hm0 := hx.m
          obtain ⟨y0, y1, ⟨y2, y3, y4⟩, ⟨y5, y6, y7⟩, ⟨y8, y9, y10⟩⟩ := x
          simp only [slv, Value.slice.injEq] at ev1 ev2 ev3
          simp only [slv] at g0 g1 g2 g3 g4
          simp only at hm0
          obtain ⟨-, ev1, -⟩ := ev1
          obtain ⟨-, ev2, -⟩ := ev2
          obtain ⟨-, ev3, -⟩ := ev3
          have hn1 : decide ((1024 : Int) < y3) = false := by simp; omega
          have hn2 : decide ((1024 : Int) < y6) = false := by simp; omega
          have hn3 : decide ((1024 : Int) < y9) = false := by simp; omega
          have hbC := heap_alloc_new wr (.cells #[.int .i64 y0, .int .i64 y1, .slice y2 y3 y4, .slice y5 y6 y7, .slice y8 y9 y10] tC)
          have hkn := (Keeps.refl [] wr).alloc (.cells #[.int .i64 y0, .int .i64 y1, .slice y2 y3 y4, .slice y5 y6 y7, .slice y8 y9 y10] tC)
          have hA9 := (hkn.block _ (lt_of_blk hAq) (by simp)).trans hAq
          have hkq9 := Lib.hid (hkq.out.trans hkn)
          have hkF9 := Lib.hid (hkG.out.trans hkn)
          replace hm0 := Lib.hid hm0
          replace hbC := Lib.hid hbC
          clear hx ev1 ev2 ev3 hi1 hi2 hi3 hkn
          go_upto_region 12 with fail
          generalize (wr.alloc (.cells #[.int .i64 y0, .int .i64 y1, .slice y2 y3 y4, .slice y5 y6 y7, .slice y8 y9 y10] tC)) = WC at *
          obtain ⟨XC, hXC⟩ : ∃ X, wr.heap.size = X := ⟨_, rfl⟩
          rw [hXC] at hbC ⊢
          replace hXC := Lib.hid hXC
          clear g0 g1 g2 g3 g4 i0 i1 i2 i3 i4 i5 i6 if' il
          obtain ⟨i0, i1, i2, i3, i4, i5, i6, if', il⟩ := cl7 hA9
          obtain ⟨g0, g1, g2, g3, g4, gf, gl⟩ := cl5 hbC.out
          by_cases hk0 : k = 0
          · have hkz0 : decide ((0 : Int) < (k : Int)) = false := by simp; omega
            have hkz1 : decide (0 < k) = false := by simp; omega
            have hin2 : Hid (∀ j (hj : j + 1 < c.cl.length), j + 1 < k + 1 → (c.cl[j]'(by omega)).m < c.cl[j + 1].m) := Lib.hid (fun j hj hjk => by omega)
            replace hk0 := Lib.hid hk0
            (refine wp_region_quiet_lit (by kernel_rfl) (by kernel_rfl) ?_; (repeat (first | go_big_quiet_step (fail) | quiet_step (fail))); with_reducible refine wpQuiet_nil ?_; intro _ hw'; obtain ⟨nq, hw''⟩ := hw'; subst hw'')
            go_wp2
            go_roundw
            case rel => exact ⟨k + 1, rfl, by omega, hin2, Lib.hid (hkq9.out.drewN _)⟩
            case measure => simp [intOf]; omega
          · have hkz0 : decide ((0 : Int) < (k : Int)) = true := by simp; omega
            have hkz1 : decide (0 < k) = true := by simp; omega
            obtain ⟨m, hm⟩ : ∃ m, k = m + 1 := ⟨k - 1, by omega⟩
            have hml : m < c.cl.length := by omega
            have hmM : (m : Int) < x9 := by omega
            have hwm : IntKind.i64.wrap ((k : Int) - 1) = m := by rw [IntWalk.i64_in _ (by omega)]; omega
            obtain ⟨g', o', c'', z, hv2, hz, f0, _, _, _, _⟩ := (hcl.out.keeps hkF9.out).elem hml
            rw [← e2.out] at hv2
            cases hv2
            have hz0 := hz.m
            replace hz0 := Lib.hid hz0
            replace hm := Lib.hid hm
            replace hk0 := Lib.hid hk0
            by_cases hq : y0 ≤ z.m
            · have hqd : decide (y0 ≤ z.m) = true := by simpa using hq
              have hd : false = r := by
                rw [← hr.out]
                refine (Bool.eq_false_iff.2 (fun hi => ?_)).symm
                have := incC_iff.1 hi m (by have := hm.out; omega)
                have e := hm.out
                subst e
                have h1 := hm0.out
                have h2 := hz0.out
                omega
              replace hd := Lib.hid hd
              have hke := Lib.hid hkF9.out
              (refine wp_region_quiet_lit (by kernel_rfl) (by kernel_rfl) ?_; (repeat (first | go_big_quiet_step (fail) | quiet_step (fail))); with_reducible refine wpQuiet_nil ?_; intro _ hw'; obtain ⟨nq, hw''⟩ := hw'; subst hw'')
              go_wp2
              go_ret
              exact ⟨by rw [← hd.out]; rfl, hke.out.drewN _⟩
            · have hqd : decide (y0 ≤ z.m) = false := by simpa using hq
              have hin2 : Hid (∀ j (hj : j + 1 < c.cl.length), j + 1 < k + 1 → (c.cl[j]'(by omega)).m < c.cl[j + 1].m) := Lib.hid (fun j hj hjk => by
                by_cases e : j + 1 = k
                · have hjm : j = m := by have := hm.out; omega
                  subst hjm
                  have h1 := hm0.out
                  have h2 := hz0.out
                  simp only [e]
                  omega
                · exact hin.out j hj (by omega))
              (refine wp_region_quiet_lit (by kernel_rfl) (by kernel_rfl) ?_; (repeat (first | go_big_quiet_step (fail) | quiet_step (fail))); with_reducible refine wpQuiet_nil ?_; intro _ hw'; obtain ⟨nq, hw''⟩ := hw'; subst hw'')
              go_wp2
              go_roundw
              case rel => exact ⟨k + 1, rfl, by omega, hin2, Lib.hid (hkq9.out.drewN _)⟩
              case measure => simp [intOf]; omega
        · have hlt2 : ¬ ((k : Int) < x9) := by omega
          have hd : true = r := by rw [← hr.out]; exact (incC_iff.2 (fun j hj => hin.out j hj (by have := e2.out; omega))).symm
          replace hd := Lib.hid hd
          go_wp2
          go_ret
          exact ⟨by rw [← hd.out]; rfl, hkG.out⟩
end Go.Proofs.Ytiplgpefapeapaa
