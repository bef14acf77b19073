/- Buffers that grow by append, with a frame that composes; lists of bytes. Of whatever program. -/
import Derived.Test.YtilmcdieihmiaaaLib
import Derived.Lib.Hide
namespace Go.Proofs.Ytilmcdieihmiaaa
open Go.RowKit Go.ChangeShapes

/-- From `w` to `w'` a slice `v` has become `v'`: new blocks, writes to the block of `v` alone; `v'` lies where `v` lay, or in a new block. -/
structure Grw (w w' : World) (v v' : Value) : Prop where
  grown : w.grownBy w' v.ownBlock
  own : v'.ownBlock = v.ownBlock ∨ ∃ k, v'.ownBlock = some k ∧ w.heap.size ≤ k

theorem Grw.refl (w : World) (v : Value) : Grw w w v v := ⟨⟨rfl, rfl, rfl, Nat.le_refl _, fun _ _ _ => rfl⟩, .inl rfl⟩
theorem Grw.trans {a b c : World} {u v x : Value} (h : Grw a b u v) (k : Grw b c v x) : Grw a c u x := by
  refine ⟨⟨k.grown.os.trans h.grown.os, k.grown.tape.trans h.grown.tape, k.grown.output.trans h.grown.output, Nat.le_trans h.grown.size k.grown.size, fun i hi hne => ?_⟩, ?_⟩
  · refine (k.grown.block i (Nat.lt_of_lt_of_le hi h.grown.size) ?_).trans (h.grown.block i hi hne)
    rcases h.own with e | ⟨j, e, hj⟩
    · rw [e]; exact hne
    · rw [e]; intro e2; cases e2; omega
  · rcases k.own with e | ⟨j, e, hj⟩
    · rw [e]; exact h.own
    · exact .inr ⟨j, e, Nat.le_trans h.grown.size hj⟩
theorem Grw.alloc_left {a c : World} {v x : Value} {o : Obj} (k : Grw (a.alloc o) c v x) : Grw a c v x := by
  refine ⟨⟨k.grown.os, k.grown.tape, k.grown.output, Nat.le_trans (by simp) k.grown.size, fun i hi hne => ?_⟩, ?_⟩
  · exact (k.grown.block i (by simp; omega) hne).trans (Below.heap_alloc _ _ _ hi)
  · rcases k.own with e | ⟨j, e, hj⟩
    · exact .inl e
    · exact .inr ⟨j, e, by simp at hj; omega⟩
/-- Seen from the time ahead of the buffer's making. -/
theorem Grw.keeps {a w w' : World} {v v' : Value} (h : Keeps [] a w) (k : Grw w w' v v') (hv : ∀ b, v.ownBlock = some b → a.heap.size ≤ b) : Keeps [] a w' :=
  h.grown k.grown (fun b hb => .inl (hv b hb))
theorem ownBlock_ge {w : World} {base e sz n : Nat} {v : Value} {cs : List Value} (h : w.ownsRow base e sz v n cs) : ∀ b, v.ownBlock = some b → base ≤ b := fun b hb => (h.lt b hb).1

/-- Every cell of the block of the slice `v` is as `p` asks. -/
def AllC (w : World) (v : Value) (p : Value → Prop) : Prop := ∀ g, v.ownBlock = some g → ∀ o u, w.cell? ⟨g, o, none⟩ = some u → p u
theorem AllC.of_block {w : World} {g n c : Nat} {p : Value → Prop} {cs : Array Value} {t : TypeId} {f : Nat × Nat} (h : w.heap[g]? = some (.cells cs t f)) (hp : ∀ u ∈ cs.toList, p u) : AllC w (.slice (some ⟨g, 0, none⟩) n c) p := fun g' e o u hu => by
  simp [Value.ownBlock] at e
  subst e
  have : cs[o]? = some u := by simpa [World.cell?, h] using hu
  exact hp _ (by simpa using Array.mem_of_getElem? this)
theorem AllC.to_block {w : World} {g n c : Nat} {p : Value → Prop} {cs : Array Value} {t : TypeId} {f : Nat × Nat} (h : AllC w (.slice (some ⟨g, 0, none⟩) n c) p) (hg : w.heap[g]? = some (.cells cs t f)) : ∀ u ∈ cs.toList, p u := fun u hu => by
  obtain ⟨o, ho, rfl⟩ := List.getElem_of_mem hu
  exact h g rfl o _ (by simp at ho; simp [World.cell?, hg, ho])
theorem mem_zeroCells {z : Array Value} {n : Nat} {u : Value} (h : u ∈ (Builtin.zeroCells z n).toList) : u ∈ z.toList := by
  simp only [Builtin.zeroCells] at h
  simp at h
  obtain ⟨i, hi, rfl⟩ := h
  have hz : 0 < z.size := by
    rcases Nat.eq_zero_or_pos z.size with e | e
    · rw [e] at hi; omega
    · exact e
  have := Nat.mod_lt i hz
  simp [this]
/-- `append(v, v2...)`, `v` the call's own. -/
theorem run_append_x {P : Program} {w : World} (base : Nat) (t ty e : TypeId) (i : TypeInfo) (z : Value) (size bytes : Nat) (ht : P.underlying t = some (.slice e)) (hi : P.info? e = some i) (hz : i.zero = some z)
    (hsize : i.size = size) (hby : i.bytes = bytes) (hzs : z.cells.size = size) (hsz : 0 < size) (v : Value) (n : Nat) (xs : List Value) (hown : w.ownsRow base e size v n xs)
    (v2 : Value) (m : Nat) (ys : List Value) (hsl : Sl w size v2 m ys) (h1 : ∀ u ∈ ys, u.oneCell' = true) (h63 : n + m ≤ maxLen) (hbytes : (n + m) * bytes ≤ 140737488355328) (hbase : base ≤ w.heap.size) :
    ∃ v' w', (Builtin.append_ #[t, t] ty #[v, v2]).run P w = .ok v' w' ∧ w'.ownsRow base e size v' (n + m) (xs ++ ys) ∧ Grw w w' v v' ∧ ∀ p : Value → Prop, (∀ u ∈ ys, p u) → (∀ u ∈ z.cells.toList, p u) → AllC w v p → AllC w' v' p := by
  obtain ⟨v', w', hr, h2, h3⟩ := run_append_sl (P := P) base t ty e i z size bytes ht hi hz hsize hby hzs hsz v n xs hown v2 m ys hsl h1 h63 hbytes hbase
  suffices hs : (v'.ownBlock = v.ownBlock ∨ ∃ k, v'.ownBlock = some k ∧ w.heap.size ≤ k) ∧ ∀ p : Value → Prop, (∀ u ∈ ys, p u) → (∀ u ∈ z.cells.toList, p u) → AllC w v p → AllC w' v' p from ⟨v', w', hr, h2, ⟨h3, hs.1⟩, hs.2⟩
  obtain ⟨hl, a, cap, rfl, _, _, h0, hc⟩ := hsl
  subst hsize
  subst hby
  cases a with
  | none =>
    have hys : ys = [] := by
      cases ys with
      | nil => rfl
      | cons y r => obtain ⟨g, o, e, _⟩ := hc (by simp); cases e
    subst hys
    have hm : m = 0 := by
      have : m * i.size = 0 := by simpa using hl.symm
      rcases Nat.mul_eq_zero.1 this with h | h <;> omega
    subst hm
    have hc0 := h0 rfl
    subst hc0
    have hr2 := run_append_owned_none (P := P) (w := w) base t ty e i _ ht hi v n xs hown
    rw [hr] at hr2
    cases hr2
    exact ⟨.inl rfl, fun _ _ _ h => h⟩
  | some ad =>
    have hcells : ∀ j u, ys[j]? = some u → w.cell? (ad.add j) = some u := by
      intro j u hj
      have hp : 0 < ys.length := by have := (List.getElem?_eq_some_iff.1 hj).1; omega
      obtain ⟨g, o, e, hc'⟩ := hc hp
      cases e
      rw [Go.WideShapes.add_plain]
      exact hc' j u hj
    have hml : (maxLen : Nat) = 9223372036854775807 := rfl
    rcases hown.2 with ⟨rfl, rfl⟩ | ⟨g, cp, cur, rfl, hbg, hg, hnc, hcm, hcs, htake⟩
    · by_cases hm : m = 0
      · subst hm
        have hys : ys = [] := List.eq_nil_of_length_eq_zero (by simpa using hl)
        subst hys
        rcases h2.2 with ⟨rfl, _⟩ | ⟨g, cp, cur, rfl, _, _⟩
        · exact ⟨.inl rfl, fun _ _ _ _ g hg => by simp [Value.ownBlock] at hg⟩
        · exfalso
          simp [Builtin.append_, run_underlying ht, sizeOf, typeInfo, hi, Builtin.lenOf, Builtin.firstCells, loadCells, loadCellsFrom] at hr
      · have hr2 := run_append_nil (P := P) w t ty e i z ht hi hz ad m cap ys hl hcells (by omega) (by omega) (by have hb := hbytes; simp only [Nat.zero_add] at hb; omega)
        rw [hr] at hr2
        cases hr2
        refine ⟨.inr ⟨_, rfl, Nat.le_refl _⟩, fun p h1 h2 _ => AllC.of_block (heap_alloc_new w.drew _) fun u hu => ?_⟩
        simp only [Array.toList_append, List.mem_append] at hu
        rcases hu with hu | hu
        · exact h1 u hu
        · exact h2 u (mem_zeroCells hu)
    · by_cases hroom : n + m ≤ cp
      · have hfit : n * i.size + ys.length ≤ cur.size := by rw [hl, hcs, ← Nat.add_mul]; exact Nat.mul_le_mul_right _ hroom
        have hr2 := run_append_room (P := P) w t ty e i ht hi g n cp cur hg ad m cap ys hl hcells h1 hroom hfit
        rw [hr] at hr2
        cases hr2
        refine ⟨.inl rfl, fun p h1 _ h3 => AllC.of_block (setRow_heap w g cur _ e _ hg) fun u hu => ?_⟩
        have h4 := h3.to_block hg
        simp only [List.mem_append] at hu
        rcases hu with (hu | hu) | hu
        · exact h4 u (List.mem_of_mem_take hu)
        · exact h1 u hu
        · exact h4 u (List.mem_of_mem_drop hu)
      · have holds : ∀ j u, xs[j]? = some u → w.cell? ((⟨g, 0, none⟩ : Addr).add j) = some u := hown.cells (g := g) rfl
        have hr2 := run_append_grow (P := P) w t ty e i z ht hi hz ⟨g, 0, none⟩ n cp xs hown.1 holds ad m cap ys hl hcells (by omega) (by omega) (growslice_fits (by omega) hbytes)
        rw [hr] at hr2
        cases hr2
        refine ⟨.inr ⟨_, rfl, Nat.le_refl _⟩, fun p h1 h2 h3 => AllC.of_block (heap_alloc_new w.drew _) fun u hu => ?_⟩
        have h4 := h3.to_block hg
        simp only [Array.toList_append, List.mem_append] at hu
        rcases hu with (hu | hu) | hu
        · rw [← htake] at hu; exact h4 u (List.mem_of_mem_take hu)
        · exact h1 u hu
        · exact h2 u (mem_zeroCells hu)

/-- .. at the operation. -/
theorem wpl_append_x {P : Program} {w : World} {ops : Array Oper} {rest : List Oper} {o : Oper} {a : Act} {Q : Exit → Act → World → Prop} (hg : o.guard = none) (s x : Operand) (t : TypeId)
    (ho : o.op = .call { callee := .builtin .append, args := #[s, x], argTypes := #[t, t] }) (base : Nat) (e : TypeId) (i : TypeInfo) (z : Value) (size bytes : Nat) (ht : P.underlying t = some (.slice e)) (hi : P.info? e = some i) (hz : i.zero = some z)
    (hsize : i.size = size) (hby : i.bytes = bytes) (hzs : z.cells.size = size) (hsz : 0 < size) (v : Value) (n : Nat) (xs : List Value) (hs : a.eval s = v) (hown : w.ownsRow base e size v n xs)
    (v2 : Value) (m : Nat) (ys : List Value) (hx : a.eval x = v2) (hsl : Sl w size v2 m ys) (h1 : ∀ u ∈ ys, u.oneCell' = true) (h63 : n + m ≤ maxLen) (hbytes : (n + m) * bytes ≤ 140737488355328) (hbase : base ≤ w.heap.size)
    (h : ∀ v' w', w'.ownsRow base e size v' (n + m) (xs ++ ys) → Grw w w' v v' → (∀ p : Value → Prop, (∀ u ∈ ys, p u) → (∀ u ∈ z.cells.toList, p u) → AllC w v p → AllC w' v' p) → wpList P ops Q rest (a.put o.dst v') w') : wpList P ops Q (o :: rest) a w := by
  refine wpList_plain hg fun K hK => ?_
  obtain ⟨v', w', hr, h2, h3, h4⟩ := run_append_x (P := P) base t o.type e i z size bytes ht hi hz hsize hby hzs hsz v n xs hown v2 m ys hsl h1 h63 hbytes hbase
  unfold Oper.wp execOp
  simp only [ho, resolve, invoke, builtin, Sem.run_bind, Sem.run_pure, Result.andThen_ok, List.map_toArray, List.map_cons, List.map_nil, hs, hx, hr]
  exact hK _ _ (h v' w' h2 h3 h4)

/-- .. at one operation. -/
theorem wp_append_x {P : Program} {w : World} {o : Oper} {a : Act} {K : Act → World → Prop} {Q : Exit → Act → World → Prop} (s x : Operand) (t : TypeId)
    (ho : o.op = .call { callee := .builtin .append, args := #[s, x], argTypes := #[t, t] }) (base : Nat) (e : TypeId) (i : TypeInfo) (z : Value) (size bytes : Nat) (ht : P.underlying t = some (.slice e)) (hi : P.info? e = some i) (hz : i.zero = some z)
    (hsize : i.size = size) (hby : i.bytes = bytes) (hzs : z.cells.size = size) (hsz : 0 < size) (v : Value) (n : Nat) (xs : List Value) (hs : a.eval s = v) (hown : w.ownsRow base e size v n xs)
    (v2 : Value) (m : Nat) (ys : List Value) (hx : a.eval x = v2) (hsl : Sl w size v2 m ys) (h1 : ∀ u ∈ ys, u.oneCell' = true) (h63 : n + m ≤ maxLen) (hbytes : (n + m) * bytes ≤ 140737488355328) (hbase : base ≤ w.heap.size)
    (h : ∀ v' w', w'.ownsRow base e size v' (n + m) (xs ++ ys) → Grw w w' v v' → (∀ p : Value → Prop, (∀ u ∈ ys, p u) → (∀ u ∈ z.cells.toList, p u) → AllC w v p → AllC w' v' p) → K (a.put o.dst v') w') : o.wp P a w K Q := by
  obtain ⟨v', w', hr, h2, h3, h4⟩ := run_append_x (P := P) base t o.type e i z size bytes ht hi hz hsize hby hzs hsz v n xs hown v2 m ys hsl h1 h63 hbytes hbase
  unfold Oper.wp execOp
  simp only [ho, resolve, invoke, builtin, Sem.run_bind, Sem.run_pure, Result.andThen_ok, List.map_toArray, List.map_cons, List.map_nil, hs, hx, hr]
  exact h v' w' h2 h3 h4

/-- Bytes as cells. -/
abbrev bys (l : List UInt8) : List Value := l.map fun b => Value.int .u8 (b.toNat : Int)
theorem bys_one (l : List UInt8) : ∀ u ∈ bys l, u.oneCell' = true := fun u hu => by obtain ⟨x, _, rfl⟩ := List.mem_map.1 hu; rfl
theorem bys_append (l m : List UInt8) : bys (l ++ m) = bys l ++ bys m := List.map_append
/-- The slice `v` reads as the bytes `l`. -/
def SlB (w : World) (v : Value) (l : List UInt8) : Prop := Sl w 1 v l.length (bys l)
theorem SlB.keeps {w w' : World} {v : Value} {l : List UInt8} (h : SlB w v l) (hk : Keeps [] w w') : SlB w' v l := Sl.keeps h hk
theorem SlB.nil (w : World) : SlB w (.slice none 0 0) [] := Sl.nil w 1
theorem SlB.one (w : World) (b : UInt8) (e : TypeId) : SlB (w.alloc (.cells #[.int .u8 (b.toNat : Int)] e)) (.slice (some ⟨w.heap.size, 0, none⟩) 1 1) [b] := Sl.one w _ e
/-- The two forms that a slice of bytes has. -/
theorem SlB.cases {w : World} {v : Value} {l : List UInt8} (h : SlB w v l) :
    (l = [] ∧ ∃ a cap, v = .slice a 0 cap ∧ cap ≤ maxLen ∧ (a = none → cap = 0)) ∨
    ∃ g o cap, v = .slice (some ⟨g, o, none⟩) l.length cap ∧ l.length ≤ cap ∧ cap ≤ maxLen ∧ 0 < l.length ∧ g < w.heap.size ∧ ∀ k (hk : k < l.length), w.cell? ⟨g, o + k, none⟩ = some (.int .u8 (l[k].toNat : Int)) := by
  obtain ⟨_, a, cap, rfl, h2, h3, h0, h4⟩ := h
  by_cases hl : l = []
  · subst hl; exact .inl ⟨rfl, a, cap, rfl, h3, h0⟩
  · have hp : 0 < l.length := List.length_pos_iff.2 hl
    obtain ⟨g, o, rfl, hc⟩ := h4 (by simpa using hp)
    have hcell : ∀ k (hk : k < l.length), w.cell? ⟨g, o + k, none⟩ = some (.int .u8 (l[k].toNat : Int)) := fun k hk => hc k _ (by simp [hk])
    exact .inr ⟨g, o, cap, rfl, h2, h3, hp, lt_of_cell (hcell 0 hp), hcell⟩
theorem SlB.form {w : World} {v : Value} {l : List UInt8} (h : SlB w v l) : ∃ a cap, v = .slice a l.length cap := by
  obtain ⟨_, a, cap, rfl, _⟩ := h; exact ⟨a, cap, rfl⟩
theorem SlB.tail {w : World} {g o n cap : Nat} {l : List UInt8} (h : SlB w (.slice (some ⟨g, o, none⟩) n cap) l) (a : Nat) (ha : a ≤ l.length) :
    SlB w (.slice (if cap = a then some ⟨g, o, none⟩ else some ⟨g, o + a, none⟩) (l.length - a) (cap - a)) (l.drop a) := by
  obtain ⟨a', c', e⟩ := h.form
  cases e
  have := Sl.tail1 h a ha
  simpa [SlB, bys, List.map_drop] using this
/-- Every cell that holds a byte holds it still. -/
def KB (w w' : World) : Prop := ∀ b o x, w.cell? ⟨b, o, none⟩ = some (.int .u8 x) → w'.cell? ⟨b, o, none⟩ = some (.int .u8 x)
theorem KB.refl (w : World) : KB w w := fun _ _ _ h => h
theorem KB.trans {a b c : World} (h : KB a b) (k : KB b c) : KB a c := fun i o x hx => k i o x (h i o x hx)
theorem Keeps.kb {S : List Nat} {w w' : World} (h : Keeps S w w') (hS : ∀ b ∈ S, ∀ o x, w.cell? ⟨b, o, none⟩ ≠ some (.int .u8 x)) : KB w w' := fun b o x hx => by
  by_cases hb : b ∈ S
  · exact absurd hx (hS b hb o x)
  · rw [h.cell b o (lt_of_cell hx) hb]; exact hx
theorem Keeps.kb0 {w w' : World} (h : Keeps [] w w') : KB w w' := h.kb (by simp)
theorem KB.alloc (w : World) (o : Obj) : KB w (w.alloc o) := ((Keeps.refl [] w).alloc o).kb0
theorem KB.drew (w : World) : KB w w.drew := fun _ _ _ h => h
theorem KB.setCell (w : World) {b o : Nat} {u : Value} (v : Value) (h : w.cell? ⟨b, o, none⟩ = some u) (hu : ∀ x, u ≠ .int .u8 x) : KB w (w.setCell ⟨b, o, none⟩ v) := fun i j x hx => by
  rw [World.cell?_setCell_other]
  · exact hx
  · intro e; cases e; rw [h] at hx; cases hx; exact hu _ rfl
theorem SlB.kb {w w' : World} {v : Value} {l : List UInt8} (h : SlB w v l) (hk : KB w w') : SlB w' v l := by
  obtain ⟨h1, a, cap, rfl, h2, h3, h0, h4⟩ := h
  refine ⟨h1, a, cap, rfl, h2, h3, h0, fun hp => ?_⟩
  obtain ⟨g, o, rfl, hc⟩ := h4 hp
  refine ⟨g, o, rfl, fun j u hj => ?_⟩
  have := hc j u hj
  obtain ⟨b, _, rfl⟩ := List.mem_map.1 (List.mem_of_getElem? hj)
  exact hk _ _ _ this
/-- A block of written-out cells without bytes. -/
theorem no_byte {w : World} {b : Nat} {cs : Array Value} {t : TypeId} {f : Nat × Nat} (h : w.heap[b]? = some (.cells cs t f)) (hc : ∀ u ∈ cs.toList, ∀ x, u ≠ .int .u8 x) : ∀ o x, w.cell? ⟨b, o, none⟩ ≠ some (.int .u8 x) := fun o x e => by
  have : cs[o]? = some (.int .u8 x) := by simpa [World.cell?, h] using e
  exact hc _ (by simpa using Array.mem_of_getElem? this) x rfl
theorem Grw.keepsO {w w' : World} {v v' : Value} (k : Grw w w' v v') : Keeps v.ownBlock.toList w w' :=
  ⟨k.grown.os, k.grown.tape, k.grown.output, k.grown.size, fun i hi hn => k.grown.block i hi (fun e => hn (by rw [← e]; simp))⟩
/-- A slice grows whose block has no bytes. -/
theorem Grw.kb {w w' : World} {v v' : Value} (k : Grw w w' v v') (h : AllC w v (fun u => ∀ x, u ≠ .int .u8 x)) : KB w w' :=
  k.keepsO.kb fun b hb o x e => h b (by simpa using hb) o _ e x rfl
end Go.Proofs.Ytilmcdieihmiaaa
