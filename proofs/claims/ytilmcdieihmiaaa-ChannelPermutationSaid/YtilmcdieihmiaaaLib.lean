/- General laws on worlds, slices and maps, and how a law's statement follows from the walk of its body. Of whatever program. -/
import Derived.WalkKit
import Derived.ProofKit
import Derived.OpenShut
import Derived.WalkSpells
import Derived.WalkLawsBesides
import Derived.Deep.QuietTactic
import Derived.BigQuiet
import Derived.Maps.OwnSet
namespace Go.Proofs.Ytilmcdieihmiaaa
open Go.RowKit Go.ChangeShapes

/-- `w'` is `w` with new blocks and draws, and with writes to blocks of `S` alone. -/
structure Keeps (S : List Nat) (w w' : World) : Prop where
  os : w'.os = w.os
  tape : w'.tape = w.tape
  output : w'.output = w.output
  size : w.heap.size ≤ w'.heap.size
  block : ∀ k, k < w.heap.size → k ∉ S → w'.heap[k]? = w.heap[k]?

theorem Keeps.refl (S : List Nat) (w : World) : Keeps S w w := ⟨rfl, rfl, rfl, Nat.le_refl _, fun _ _ _ => rfl⟩
theorem Keeps.trans {S : List Nat} {a b c : World} (h : Keeps S a b) (k : Keeps S b c) : Keeps S a c :=
  ⟨k.os.trans h.os, k.tape.trans h.tape, k.output.trans h.output, Nat.le_trans h.size k.size,
    fun i hi hs => (k.block i (Nat.lt_of_lt_of_le hi h.size) hs).trans (h.block i hi hs)⟩
theorem Keeps.mono {S T : List Nat} {w w' : World} (h : Keeps S w w') (hst : ∀ k ∈ S, k ∈ T) : Keeps T w w' :=
  ⟨h.os, h.tape, h.output, h.size, fun k hk hT => h.block k hk fun hs => hT (hst k hs)⟩
theorem Keeps.of_nil {T : List Nat} {w w' : World} (h : Keeps [] w w') : Keeps T w w' := h.mono (by simp)
/-- Blocks that were not there when the outer world began may be written. -/
theorem Keeps.fresh {S T : List Nat} {a b c : World} (h : Keeps S a b) (k : Keeps T b c) (hT : ∀ x ∈ T, x ∈ S ∨ a.heap.size ≤ x) : Keeps S a c :=
  ⟨k.os.trans h.os, k.tape.trans h.tape, k.output.trans h.output, Nat.le_trans h.size k.size,
    fun i hi hs => (k.block i (Nat.lt_of_lt_of_le hi h.size) (fun hx => by rcases hT i hx with h1 | h1; exact hs h1; omega)).trans (h.block i hi hs)⟩
/-- What is written behind the first world's size, or is named in `T`. -/
theorem Keeps.trans' {S T : List Nat} {a b c : World} (h : Keeps T a b) (k : Keeps S b c) (hT : ∀ x ∈ S, x ∈ T ∨ a.heap.size ≤ x) : Keeps T a c := h.fresh k hT
theorem Keeps.drew {S : List Nat} {a w : World} (h : Keeps S a w) : Keeps S a w.drew := ⟨h.os, h.tape, h.output, h.size, h.block⟩
theorem Keeps.drewN {S : List Nat} {a w : World} (h : Keeps S a w) : ∀ n, Keeps S a (w.drewN n) := fun _ => ⟨h.os, h.tape, h.output, h.size, h.block⟩
theorem Keeps.alloc {S : List Nat} {a w : World} (h : Keeps S a w) (o : Obj) : Keeps S a (w.alloc o) :=
  h.trans ⟨rfl, rfl, rfl, by simp, fun k hk _ => Below.heap_alloc _ _ _ (by omega)⟩
theorem Keeps.setCell {S : List Nat} {a w : World} (h : Keeps S a w) {p : Addr} (hp : a.heap.size ≤ p.block ∨ p.block ∈ S) (u : Value) : Keeps S a (w.setCell p u) :=
  ⟨h.os, h.tape, h.output, by simpa [World.setCell] using h.size, fun k hk hs => by
    rw [Below.heap_setCell]
    · exact h.block k hk hs
    · rintro rfl
      rcases hp with h1 | h1
      · omega
      · exact hs h1⟩
theorem Keeps.grown {S : List Nat} {a w w' : World} {row : Option Nat} (h : Keeps S a w) (hg : w.grownBy w' row) (hr : ∀ k, row = some k → a.heap.size ≤ k ∨ k ∈ S) : Keeps S a w' :=
  ⟨hg.os.trans h.os, hg.tape.trans h.tape, hg.output.trans h.output, Nat.le_trans h.size hg.size,
    fun k hk hs => (hg.block k (Nat.lt_of_lt_of_le hk h.size) (fun e => by rcases hr k e.symm with h1 | h1; omega; exact hs h1)).trans (h.block k hk hs)⟩
theorem Keeps.of_grown {w w' : World} {b : Nat} (hg : w.grownBy w' (some b)) : Keeps [b] w w' :=
  (Keeps.refl [b] w).grown hg (fun k e => by cases e; exact .inr (by simp))
theorem Keeps.below {w w' : World} (h : Keeps [] w w') : Below w.heap.size w w' := ⟨h.os, h.tape, h.output, h.size, fun k hk => h.block k hk (by simp)⟩
theorem Keeps.of_below {S : List Nat} {w w' : World} (h : Below w.heap.size w w') : Keeps S w w' := ⟨h.os, h.tape, h.output, h.size, fun k hk _ => h.block k hk⟩
theorem Keeps.cell {S : List Nat} {w w' : World} (h : Keeps S w w') : ∀ b o, b < w.heap.size → b ∉ S → w'.cell? ⟨b, o, none⟩ = w.cell? ⟨b, o, none⟩ :=
  fun b o hb hs => World.cell?_of_block (w := w) (a := ⟨b, o, none⟩) (h.block b hb hs)
theorem Keeps.frozen {S : List Nat} {w w' : World} (h : Keeps S w w') : ∀ b o, b < w.heap.size → b ∉ S → w'.frozen? ⟨b, o, none⟩ = w.frozen? ⟨b, o, none⟩ :=
  fun b o hb hs => World.frozen?_of_block (w := w) (a := ⟨b, o, none⟩) (h.block b hb hs)
theorem Keeps.cell0 {w w' : World} (h : Keeps [] w w') : ∀ b o, b < w.heap.size → w'.cell? ⟨b, o, none⟩ = w.cell? ⟨b, o, none⟩ := fun b o hb => h.cell b o hb (by simp)
theorem Keeps.frozen0 {w w' : World} (h : Keeps [] w w') : ∀ b o, b < w.heap.size → w'.frozen? ⟨b, o, none⟩ = w.frozen? ⟨b, o, none⟩ := fun b o hb => h.frozen b o hb (by simp)

theorem Keeps.val {w w' : World} (h : Keeps [] w w') {b o : Nat} {v : Value} (hc : w.cell? ⟨b, o, none⟩ = some v) : w'.cell? ⟨b, o, none⟩ = some v :=
  (h.cell0 b o (World.block_lt_of_cell? w ⟨b, o, none⟩ hc)).trans hc
theorem lt_of_cell {w : World} {b o : Nat} {v : Value} (h : w.cell? ⟨b, o, none⟩ = some v) : b < w.heap.size := World.block_lt_of_cell? w ⟨b, o, none⟩ h

/-- The slice value `v` of `n` elements of `sz` cells each reads as the cells `cs`. -/
def Sl (w : World) (sz : Nat) (v : Value) (n : Nat) (cs : List Value) : Prop :=
  cs.length = n * sz ∧ ∃ a cap, v = .slice a n cap ∧ n ≤ cap ∧ cap ≤ maxLen ∧ (a = none → cap = 0) ∧
    (0 < cs.length → ∃ g o, a = some ⟨g, o, none⟩ ∧ ∀ j u, cs[j]? = some u → w.cell? ⟨g, o + j, none⟩ = some u)

theorem Sl.nil (w : World) (sz : Nat) : Sl w sz (.slice none 0 0) 0 [] := ⟨by simp, none, 0, rfl, by simp, by simp, by simp, by simp⟩
theorem Sl.keep {w w' : World} {sz n : Nat} {v : Value} {cs : List Value} (h : Sl w sz v n cs)
    (hk : ∀ b o, b < w.heap.size → (w'.cell? ⟨b, o, none⟩ = w.cell? ⟨b, o, none⟩ ∨ w.cell? ⟨b, o, none⟩ = none)) : Sl w' sz v n cs := by
  obtain ⟨h1, a, cap, rfl, h2, h3, h0, h4⟩ := h
  refine ⟨h1, a, cap, rfl, h2, h3, h0, fun hp => ?_⟩
  obtain ⟨g, o, rfl, hc⟩ := h4 hp
  refine ⟨g, o, rfl, fun j u hj => ?_⟩
  have := hc j u hj
  rcases hk g (o + j) (lt_of_cell this) with h5 | h5
  · rw [h5]; exact this
  · rw [h5] at this; cases this
theorem Sl.keeps {w w' : World} {sz n : Nat} {v : Value} {cs : List Value} (h : Sl w sz v n cs) (hk : Keeps [] w w') : Sl w' sz v n cs :=
  h.keep fun b o hb => .inl (hk.cell0 b o hb)
/-- Writes to a map's block do not touch a slice. -/
theorem Sl.keeps_map {w w' : World} {sz n m : Nat} {v : Value} {cs : List Value} (h : Sl w sz v n cs) (hk : Keeps [m] w w') (hm : ∀ o, w.cell? ⟨m, o, none⟩ = none) : Sl w' sz v n cs :=
  h.keep fun b o hb => by
    by_cases e : b = m
    · subst e; exact .inr (hm o)
    · exact .inl (hk.cell b o hb (by simpa using e))
theorem Sl.of_owns {w : World} {base sz n : Nat} {e : TypeId} {v : Value} {cs : List Value} (h : w.ownsRow base e sz v n cs) : Sl w sz v n cs := by
  obtain ⟨h1, h2⟩ := h
  refine ⟨h1, ?_⟩
  rcases h2 with ⟨rfl, rfl⟩ | ⟨g, cap, cur, rfl, _, hg, hn, hc, hs, ht⟩
  · exact ⟨none, 0, rfl, by simp, by simp, by simp, fun hp => by simp at h1; simp [h1] at hp⟩
  · refine ⟨_, cap, rfl, hn, hc, by simp, fun _ => ⟨g, 0, rfl, fun j u hj => ?_⟩⟩
    rw [Nat.zero_add, cell_of_row w g j cur e (0, 0) hg]
    rw [← ht, List.getElem?_take] at hj
    split at hj
    · simpa using hj
    · cases hj

/-- `append(v, v2...)`, `v` the call's own, `v2` whatever reads as `ys`. -/
theorem run_append_sl {P : Program} {w : World} (base : Nat) (t ty e : TypeId) (i : TypeInfo) (z : Value) (size bytes : Nat) (ht : P.underlying t = some (.slice e)) (hi : P.info? e = some i) (hz : i.zero = some z)
    (hsize : i.size = size) (hby : i.bytes = bytes) (hzs : z.cells.size = size) (hsz : 0 < size) (v : Value) (n : Nat) (xs : List Value) (hown : w.ownsRow base e size v n xs)
    (v2 : Value) (m : Nat) (ys : List Value) (hsl : Sl w size v2 m ys) (h1 : ∀ u ∈ ys, u.oneCell' = true) (h63 : n + m ≤ maxLen) (hbytes : (n + m) * bytes ≤ 140737488355328) (hbase : base ≤ w.heap.size) :
    ∃ v' w', (Builtin.append_ #[t, t] ty #[v, v2]).run P w = .ok v' w' ∧ w'.ownsRow base e size v' (n + m) (xs ++ ys) ∧ w.grownBy w' v.ownBlock := by
  obtain ⟨hl, a, cap, rfl, _, _, h0, hc⟩ := hsl
  cases a with
  | none =>
    have hys : ys = [] := by
      cases ys with
      | nil => rfl
      | cons y r => obtain ⟨g, o, e, _⟩ := hc (by simp); cases e
    subst hys
    have hm : m = 0 := by
      have : m * size = 0 := by simpa using hl.symm
      rcases Nat.mul_eq_zero.1 this with h | h <;> omega
    subst hm
    have := h0 rfl
    subst this
    exact ⟨v, w, run_append_owned_none (P := P) (w := w) base t ty e i size ht hi v n xs hown, by simpa using hown, ⟨rfl, rfl, rfl, Nat.le_refl _, fun _ _ _ => rfl⟩⟩
  | some ad =>
    have hcells : ∀ j u, ys[j]? = some u → w.cell? (ad.add j) = some u := by
      intro j u hj
      have hp : 0 < ys.length := by have := (List.getElem?_eq_some_iff.1 hj).1; omega
      obtain ⟨g, o, e, hc'⟩ := hc hp
      cases e
      rw [Go.WideShapes.add_plain]
      exact hc' j u hj
    obtain ⟨v', w', hr, h2, h3, _⟩ := run_append_own (P := P) w base t ty e i z size bytes ht hi hz hsize hby hzs hsz v n xs hown ad m cap ys hl hcells h1 h63 hbytes hbase
    exact ⟨v', w', hr, h2, h3⟩
theorem wpl_append {P : Program} {w : World} {ops : Array Oper} {rest : List Oper} {o : Oper} {a : Act} {Q : Exit → Act → World → Prop} (hg : o.guard = none) (s x : Operand) (t : TypeId)
    (ho : o.op = .call { callee := .builtin .append, args := #[s, x], argTypes := #[t, t] }) (base : Nat) (e : TypeId) (i : TypeInfo) (z : Value) (size bytes : Nat) (ht : P.underlying t = some (.slice e)) (hi : P.info? e = some i) (hz : i.zero = some z)
    (hsize : i.size = size) (hby : i.bytes = bytes) (hzs : z.cells.size = size) (hsz : 0 < size) (v : Value) (n : Nat) (xs : List Value) (hs : a.eval s = v) (hown : w.ownsRow base e size v n xs)
    (v2 : Value) (m : Nat) (ys : List Value) (hx : a.eval x = v2) (hsl : Sl w size v2 m ys) (h1 : ∀ u ∈ ys, u.oneCell' = true) (h63 : n + m ≤ maxLen) (hbytes : (n + m) * bytes ≤ 140737488355328) (hbase : base ≤ w.heap.size)
    (h : ∀ v' w', w'.ownsRow base e size v' (n + m) (xs ++ ys) → w.grownBy w' v.ownBlock → wpList P ops Q rest (a.put o.dst v') w') : wpList P ops Q (o :: rest) a w := by
  refine wpList_plain hg fun K hK => ?_
  obtain ⟨v', w', hr, h2, h3⟩ := run_append_sl (P := P) base t o.type e i z size bytes ht hi hz hsize hby hzs hsz v n xs hown v2 m ys hsl h1 h63 hbytes hbase
  unfold Oper.wp execOp
  simp only [ho, resolve, invoke, builtin, Sem.run_bind, Sem.run_pure, Result.andThen_ok, List.map_toArray, List.map_cons, List.map_nil, hs, hx, hr]
  exact hK _ _ (h v' w' h2 h3)
theorem ownsRow_block {w w' : World} {base e sz n : Nat} {v : Value} {cs : List Value} (h : w.ownsRow base e sz v n cs) (hk : ∀ b, base ≤ b → b < w.heap.size → w'.heap[b]? = w.heap[b]?) : w'.ownsRow base e sz v n cs := by
  refine ⟨h.1, ?_⟩
  rcases h.2 with hn | ⟨g, cap, cur, rfl, hb, hg, rest⟩
  · exact .inl hn
  · exact .inr ⟨g, cap, cur, rfl, hb, (hk g hb (Array.getElem?_eq_some_iff.1 hg).1).trans hg, rest⟩
/-- A part of a slice. -/
theorem Sl.part {w : World} {sz g o n cap : Nat} {cs : List Value} (h : Sl w sz (.slice (some ⟨g, o, none⟩) n cap) n cs) (a b : Nat) (hab : a ≤ b) (hb : b ≤ n) :
    Sl w sz (.slice (some ⟨g, o + a * sz, none⟩) (b - a) (cap - a)) (b - a) ((cs.take (b * sz)).drop (a * sz)) := by
  obtain ⟨hl, a', cap', e, h2, h3, _, h4⟩ := h
  cases e
  have hbs : b * sz ≤ n * sz := Nat.mul_le_mul_right _ hb
  have has : a * sz ≤ b * sz := Nat.mul_le_mul_right _ hab
  refine ⟨by simp only [List.length_drop, List.length_take, hl, Nat.sub_mul]; omega, _, _, rfl, by omega, by omega, by simp, fun hp => ?_⟩
  simp only [List.length_drop, List.length_take, hl] at hp
  obtain ⟨g', o', e, hc⟩ := h4 (by omega)
  cases e
  refine ⟨g, _, rfl, fun j u hj => ?_⟩
  rw [List.getElem?_drop, List.getElem?_take] at hj
  split at hj
  · have := hc _ _ hj
    rwa [← Nat.add_assoc] at this
  · cases hj
/-- `x[a:]`, elements of one cell, as the walk spells it. -/
theorem Sl.tail1 {w : World} {g o n cap : Nat} {cs : List Value} (h : Sl w 1 (.slice (some ⟨g, o, none⟩) n cap) n cs) (a : Nat) (ha : a ≤ n) :
    Sl w 1 (.slice (if cap = a then some ⟨g, o, none⟩ else some ⟨g, o + a, none⟩) (n - a) (cap - a)) (n - a) (cs.drop a) := by
  have h' := h.part a n ha (Nat.le_refl _)
  obtain ⟨hl, _⟩ := h
  simp only [Nat.mul_one] at h' hl
  rw [List.take_of_length_le (by omega)] at h'
  by_cases hc : cap = a
  · rw [if_pos hc]
    obtain ⟨h1, a', c', e, h2, h3, _, _⟩ := h'
    cases e
    exact ⟨h1, _, _, rfl, h2, h3, by simp, fun hp => by simp at hp; omega⟩
  · rw [if_neg hc]; exact h'
theorem ownsRow_pos {w : World} {base e sz n : Nat} {v : Value} {cs : List Value} (h : w.ownsRow base e sz v n cs) (hn : 0 < n) : ∃ g cap, v = .slice (some ⟨g, 0, none⟩) n cap ∧ base ≤ g := by
  rcases h.2 with ⟨_, h0⟩ | ⟨g, cap, cur, rfl, hb, _⟩
  · omega
  · exact ⟨g, cap, rfl, hb⟩
theorem ownsRow_empty (w : World) (base e sz : Nat) (hb : base ≤ w.heap.size) : (w.alloc (.cells #[] e)).ownsRow base e sz (.slice (some ⟨w.heap.size, 0, none⟩) 0 0) 0 [] :=
  World.ownsRow_made w #[] 0 hb (by simp) (by simp)
/-- A one-element slice of one cell that was just laid. -/
theorem Sl.one (w : World) (u : Value) (e : TypeId) : Sl (w.alloc (.cells #[u] e)) 1 (.slice (some ⟨w.heap.size, 0, none⟩) 1 1) 1 [u] :=
  ⟨rfl, _, _, rfl, Nat.le_refl _, by simp [maxLen], by simp, fun _ => ⟨_, 0, rfl, fun j x hj => by
    match j, hj with
    | 0, hj => simp at hj; subst hj; simp⟩⟩
theorem map_no_cells {w : World} {b : Nat} {es : Array MapEntry} {c : Nat} (h : w.heap[b]? = some (.map es c)) (o : Nat) : w.cell? ⟨b, o, none⟩ = none := by
  simp [World.cell?, h]
theorem owns_no_cells {H : Type} {P : Program} {k : TypeId} {R : Value → Option (DataW H × List MemPlace)} {w : World} {b n : Nat} {D : DataW H} (h : w.ownsMap P k R b n D) (o : Nat) : w.cell? ⟨b, o, none⟩ = none := by
  obtain ⟨es, c, hb, _⟩ := h
  exact map_no_cells hb o
theorem owns_keep {H : Type} {P : Program} {k : TypeId} {R : Value → Option (DataW H × List MemPlace)} {w w' : World} {b n : Nat} {D : DataW H} {S : List Nat} (h : w.ownsMap P k R b n D) (hk : Keeps S w w') (hb : b ∉ S) : w'.ownsMap P k R b n D := by
  have hlt := h.lt
  obtain ⟨es, c, hb', r⟩ := h
  exact ⟨es, c, (hk.block b hlt hb).trans hb', r⟩

/-- What the law's statement asks behind the call: the result is true, the arguments read as before, nothing else has turned. -/
theorem below_trodAll {H : Type} {enc : TypeId × Value → H} {P : Program} {W W' : World} (hl : laidOutB P = true) (hb : Below W.heap.size W W') :
    ∀ (ts : List TypeId) (vs : List Value) (ds : List (DataW H)) (ps : List MemPlace), (∀ t ∈ ts, P.readableRec t = true ∧ t < P.types.size) →
      DataW.TrodAll enc P W 0 (fun _ => true) true ts vs ds ps → (∀ x ∈ ps, x.block < W.heap.size) → DataW.TrodAll enc P W' 0 (fun b => decide (b < W.heap.size)) true ts vs ds ps
  | [], vs, ds, ps, _, h, _ => by
    obtain ⟨rfl, rfl, rfl⟩ := trodAll_nil h
    exact trodAll_mk0
  | t :: ts, vs, ds, ps, hr, h, hlt => by
    obtain ⟨v, vs', d, ds', p, q, rfl, rfl, rfl, h1, h2⟩ := trodAll_cons h
    exact trodAll_cons_mk (Below.trod hl (hr t (by simp)).1 (hr t (by simp)).2 h1 hb (fun x hx => hlt x (by simp [hx])))
      (below_trodAll hl hb ts vs' ds' q (fun t ht => hr t (by simp [ht])) h2 (fun x hx => hlt x (by simp [hx])))

theorem law_post {H : Type} {enc : TypeId × Value → H} {P : Program} {f : Func} {s : ChangeSpec} {W W' : World} {args : Array Value} {ds gs : List (DataW H)} {before : List MemPlace} {tb : TypeId}
    (hl : laidOutB P = true) (hr : ∀ t ∈ f.params.toList, P.readableRec t = true ∧ t < P.types.size) (hrt : f.resultTypes = #[tb]) (htb : P.underlying tb = some .bool) (hv : s.vars = [])
    (hW : DataW.Whole enc P f.params.toList s.vars false W args.toList ds gs before) (hs : s.fn H (ds ++ gs) = { results := [.lit (.bool true)], args := ds })
    (hk : Keeps [] W W') : s.post enc P f false true false false W args (.bool true) W' := by
  have hW' := hW
  obtain ⟨p, q, hA, hV, hbe, _, _⟩ := hW
  rw [hv] at hV
  obtain ⟨rfl, rfl⟩ := trodVars_none hV
  rw [List.append_nil] at hbe
  subst hbe
  refine ⟨_, _, _, [], before, [], hW', ?_, ?_, ?_, hk.below.frame _, fun h => by cases h⟩
  · rw [hs, hrt]; exact trodAll_mk1 (shut_bool htb _)
  · rw [hs]; exact below_trodAll hl hk.below _ _ _ _ hr hA (fun x hx => by simpa using hW'.lt x hx)
  · rw [hs, hv]; rfl
end Go.Proofs.Ytilmcdieihmiaaa
