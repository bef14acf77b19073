/- Texts that the laws lean on, in the order in which they build. General laws on worlds, slices and maps, and how a law's statement follows from the walk of its body. Of whatever program. Buffers that grow by append, with a frame that composes; lists of bytes. Of whatever program. Data among a law's arguments, opened, of whatever type; slices of elements of several cells. Of whatever program. Slices of elements of several cells that read as a list of whatever. Of whatever program. Slices whose elements are flat (their cells lead nowhere): of whatever type, of whatever program. A map in memory, whatever its keys, as a list of its entries in whatever order. Of whatever program. Traces: the shapes of questions, needs, answers; the map of the answers. Functions of Go's library at the types of the traces. -/
import Derived.Test.YtpobepninifenaaGreatRows
import Derived.WalkKit
import Derived.ProofKit
import Derived.OpenShut
import Derived.WalkSpells
import Derived.WalkLawsBesides
import Derived.Deep.QuietTactic
import Derived.BigQuiet
import Derived.Maps.OwnSet
import Derived.Lib.Hide
import Derived.Deep.Slices
import Derived.Maps.OwnOps
import Derived.Maps.Ext
import Derived.Maps.RangeWalk
import Derived.DeepKeys4
import Derived.Laws.StructEq
set_option linter.unusedVariables false
set_option linter.unusedSimpArgs false
namespace Go.Proofs.YtpobepninifenaaGreat
open Go.RowKit Go.ChangeShapes

/-- `w'` is `w` with new blocks and draws, and with writes to blocks of `S` alone. -/
structure Keeps (S : List Nat) (w w' : World) : Prop where
  os : w'.os = w.os
  tape : w'.tape = w.tape
  output : w'.output = w.output
  size : w.heap.size ≤ w'.heap.size
  block : ∀ k, k < w.heap.size → k ∉ S → w'.heap[k]? = w.heap[k]?

theorem Keeps.refl (S : List Nat) (w : World) : Keeps S w w := ⟨rfl, rfl, rfl, Nat.le_refl _, fun _ _ _ => rfl⟩
theorem Keeps.trans {S : List Nat} {a b c : World} (h : Keeps S a b) (k : Keeps S b c) : Keeps S a c :=
  ⟨k.os.trans h.os, k.tape.trans h.tape, k.output.trans h.output, Nat.le_trans h.size k.size,
    fun i hi hs => (k.block i (Nat.lt_of_lt_of_le hi h.size) hs).trans (h.block i hi hs)⟩
theorem Keeps.mono {S T : List Nat} {w w' : World} (h : Keeps S w w') (hst : ∀ k ∈ S, k ∈ T) : Keeps T w w' :=
  ⟨h.os, h.tape, h.output, h.size, fun k hk hT => h.block k hk fun hs => hT (hst k hs)⟩
theorem Keeps.of_nil {T : List Nat} {w w' : World} (h : Keeps [] w w') : Keeps T w w' := h.mono (by simp)
/-- Blocks that were not there when the outer world began may be written. -/
theorem Keeps.fresh {S T : List Nat} {a b c : World} (h : Keeps S a b) (k : Keeps T b c) (hT : ∀ x ∈ T, x ∈ S ∨ a.heap.size ≤ x) : Keeps S a c :=
  ⟨k.os.trans h.os, k.tape.trans h.tape, k.output.trans h.output, Nat.le_trans h.size k.size,
    fun i hi hs => (k.block i (Nat.lt_of_lt_of_le hi h.size) (fun hx => by rcases hT i hx with h1 | h1; exact hs h1; omega)).trans (h.block i hi hs)⟩
theorem Keeps.drew {S : List Nat} {a w : World} (h : Keeps S a w) : Keeps S a w.drew := ⟨h.os, h.tape, h.output, h.size, h.block⟩
theorem Keeps.drewN {S : List Nat} {a w : World} (h : Keeps S a w) : ∀ n, Keeps S a (w.drewN n) := fun _ => ⟨h.os, h.tape, h.output, h.size, h.block⟩
theorem Keeps.alloc {S : List Nat} {a w : World} (h : Keeps S a w) (o : Obj) : Keeps S a (w.alloc o) :=
  h.trans ⟨rfl, rfl, rfl, by simp, fun k hk _ => Below.heap_alloc _ _ _ (by omega)⟩
theorem Keeps.setCell {S : List Nat} {a w : World} (h : Keeps S a w) {p : Addr} (hp : a.heap.size ≤ p.block ∨ p.block ∈ S) (u : Value) : Keeps S a (w.setCell p u) :=
  ⟨h.os, h.tape, h.output, by simpa [World.setCell] using h.size, fun k hk hs => by
    rw [Below.heap_setCell]
    · exact h.block k hk hs
    · rintro rfl
      rcases hp with h1 | h1
      · omega
      · exact hs h1⟩
theorem Keeps.grown {S : List Nat} {a w w' : World} {row : Option Nat} (h : Keeps S a w) (hg : w.grownBy w' row) (hr : ∀ k, row = some k → a.heap.size ≤ k ∨ k ∈ S) : Keeps S a w' :=
  ⟨hg.os.trans h.os, hg.tape.trans h.tape, hg.output.trans h.output, Nat.le_trans h.size hg.size,
    fun k hk hs => (hg.block k (Nat.lt_of_lt_of_le hk h.size) (fun e => by rcases hr k e.symm with h1 | h1; omega; exact hs h1)).trans (h.block k hk hs)⟩
theorem Keeps.of_grown {w w' : World} {b : Nat} (hg : w.grownBy w' (some b)) : Keeps [b] w w' :=
  (Keeps.refl [b] w).grown hg (fun k e => by cases e; exact .inr (by simp))
theorem Keeps.below {w w' : World} (h : Keeps [] w w') : Below w.heap.size w w' := ⟨h.os, h.tape, h.output, h.size, fun k hk => h.block k hk (by simp)⟩
theorem Keeps.of_below {S : List Nat} {w w' : World} (h : Below w.heap.size w w') : Keeps S w w' := ⟨h.os, h.tape, h.output, h.size, fun k hk _ => h.block k hk⟩
theorem Keeps.cell {S : List Nat} {w w' : World} (h : Keeps S w w') : ∀ b o, b < w.heap.size → b ∉ S → w'.cell? ⟨b, o, none⟩ = w.cell? ⟨b, o, none⟩ :=
  fun b o hb hs => World.cell?_of_block (w := w) (a := ⟨b, o, none⟩) (h.block b hb hs)
theorem Keeps.frozen {S : List Nat} {w w' : World} (h : Keeps S w w') : ∀ b o, b < w.heap.size → b ∉ S → w'.frozen? ⟨b, o, none⟩ = w.frozen? ⟨b, o, none⟩ :=
  fun b o hb hs => World.frozen?_of_block (w := w) (a := ⟨b, o, none⟩) (h.block b hb hs)
theorem Keeps.cell0 {w w' : World} (h : Keeps [] w w') : ∀ b o, b < w.heap.size → w'.cell? ⟨b, o, none⟩ = w.cell? ⟨b, o, none⟩ := fun b o hb => h.cell b o hb (by simp)
theorem Keeps.val {w w' : World} (h : Keeps [] w w') {b o : Nat} {v : Value} (hc : w.cell? ⟨b, o, none⟩ = some v) : w'.cell? ⟨b, o, none⟩ = some v :=
  (h.cell0 b o (World.block_lt_of_cell? w ⟨b, o, none⟩ hc)).trans hc
theorem lt_of_cell {w : World} {b o : Nat} {v : Value} (h : w.cell? ⟨b, o, none⟩ = some v) : b < w.heap.size := World.block_lt_of_cell? w ⟨b, o, none⟩ h

/-- The slice value `v` of `n` elements of `sz` cells each reads as the cells `cs`. -/
def Sl (w : World) (sz : Nat) (v : Value) (n : Nat) (cs : List Value) : Prop :=
  cs.length = n * sz ∧ ∃ a cap, v = .slice a n cap ∧ n ≤ cap ∧ cap ≤ maxLen ∧ (a = none → cap = 0) ∧
    (0 < cs.length → ∃ g o, a = some ⟨g, o, none⟩ ∧ ∀ j u, cs[j]? = some u → w.cell? ⟨g, o + j, none⟩ = some u)

theorem Sl.nil (w : World) (sz : Nat) : Sl w sz (.slice none 0 0) 0 [] := ⟨by simp, none, 0, rfl, by simp, by simp, by simp, by simp⟩
theorem Sl.keep {w w' : World} {sz n : Nat} {v : Value} {cs : List Value} (h : Sl w sz v n cs)
    (hk : ∀ b o, b < w.heap.size → (w'.cell? ⟨b, o, none⟩ = w.cell? ⟨b, o, none⟩ ∨ w.cell? ⟨b, o, none⟩ = none)) : Sl w' sz v n cs := by
  obtain ⟨h1, a, cap, rfl, h2, h3, h0, h4⟩ := h
  refine ⟨h1, a, cap, rfl, h2, h3, h0, fun hp => ?_⟩
  obtain ⟨g, o, rfl, hc⟩ := h4 hp
  refine ⟨g, o, rfl, fun j u hj => ?_⟩
  have := hc j u hj
  rcases hk g (o + j) (lt_of_cell this) with h5 | h5
  · rw [h5]; exact this
  · rw [h5] at this; cases this
theorem Sl.keeps {w w' : World} {sz n : Nat} {v : Value} {cs : List Value} (h : Sl w sz v n cs) (hk : Keeps [] w w') : Sl w' sz v n cs :=
  h.keep fun b o hb => .inl (hk.cell0 b o hb)
theorem Sl.of_owns {w : World} {base sz n : Nat} {e : TypeId} {v : Value} {cs : List Value} (h : w.ownsRow base e sz v n cs) : Sl w sz v n cs := by
  obtain ⟨h1, h2⟩ := h
  refine ⟨h1, ?_⟩
  rcases h2 with ⟨rfl, rfl⟩ | ⟨g, cap, cur, rfl, _, hg, hn, hc, hs, ht⟩
  · exact ⟨none, 0, rfl, by simp, by simp, by simp, fun hp => by simp at h1; simp [h1] at hp⟩
  · refine ⟨_, cap, rfl, hn, hc, by simp, fun _ => ⟨g, 0, rfl, fun j u hj => ?_⟩⟩
    rw [Nat.zero_add, cell_of_row w g j cur e (0, 0) hg]
    rw [← ht, List.getElem?_take] at hj
    split at hj
    · simpa using hj
    · cases hj

/-- `append(v, v2...)`, `v` the call's own, `v2` whatever reads as `ys`. -/
theorem run_append_sl {P : Program} {w : World} (base : Nat) (t ty e : TypeId) (i : TypeInfo) (z : Value) (size bytes : Nat) (ht : P.underlying t = some (.slice e)) (hi : P.info? e = some i) (hz : i.zero = some z)
    (hsize : i.size = size) (hby : i.bytes = bytes) (hzs : z.cells.size = size) (hsz : 0 < size) (v : Value) (n : Nat) (xs : List Value) (hown : w.ownsRow base e size v n xs)
    (v2 : Value) (m : Nat) (ys : List Value) (hsl : Sl w size v2 m ys) (h1 : ∀ u ∈ ys, u.oneCell' = true) (h63 : n + m ≤ maxLen) (hbytes : (n + m) * bytes ≤ 140737488355328) (hbase : base ≤ w.heap.size) :
    ∃ v' w', (Builtin.append_ #[t, t] ty #[v, v2]).run P w = .ok v' w' ∧ w'.ownsRow base e size v' (n + m) (xs ++ ys) ∧ w.grownBy w' v.ownBlock := by
  obtain ⟨hl, a, cap, rfl, _, _, h0, hc⟩ := hsl
  cases a with
  | none =>
    have hys : ys = [] := by
      cases ys with
      | nil => rfl
      | cons y r => obtain ⟨g, o, e, _⟩ := hc (by simp); cases e
    subst hys
    have hm : m = 0 := by
      have : m * size = 0 := by simpa using hl.symm
      rcases Nat.mul_eq_zero.1 this with h | h <;> omega
    subst hm
    have := h0 rfl
    subst this
    exact ⟨v, w, run_append_owned_none (P := P) (w := w) base t ty e i size ht hi v n xs hown, by simpa using hown, ⟨rfl, rfl, rfl, Nat.le_refl _, fun _ _ _ => rfl⟩⟩
  | some ad =>
    have hcells : ∀ j u, ys[j]? = some u → w.cell? (ad.add j) = some u := by
      intro j u hj
      have hp : 0 < ys.length := by have := (List.getElem?_eq_some_iff.1 hj).1; omega
      obtain ⟨g, o, e, hc'⟩ := hc hp
      cases e
      rw [Go.WideShapes.add_plain]
      exact hc' j u hj
    obtain ⟨v', w', hr, h2, h3, _⟩ := run_append_own (P := P) w base t ty e i z size bytes ht hi hz hsize hby hzs hsz v n xs hown ad m cap ys hl hcells h1 h63 hbytes hbase
    exact ⟨v', w', hr, h2, h3⟩
/-- A part of a slice. -/
theorem Sl.part {w : World} {sz g o n cap : Nat} {cs : List Value} (h : Sl w sz (.slice (some ⟨g, o, none⟩) n cap) n cs) (a b : Nat) (hab : a ≤ b) (hb : b ≤ n) :
    Sl w sz (.slice (some ⟨g, o + a * sz, none⟩) (b - a) (cap - a)) (b - a) ((cs.take (b * sz)).drop (a * sz)) := by
  obtain ⟨hl, a', cap', e, h2, h3, _, h4⟩ := h
  cases e
  have hbs : b * sz ≤ n * sz := Nat.mul_le_mul_right _ hb
  have has : a * sz ≤ b * sz := Nat.mul_le_mul_right _ hab
  refine ⟨by simp only [List.length_drop, List.length_take, hl, Nat.sub_mul]; omega, _, _, rfl, by omega, by omega, by simp, fun hp => ?_⟩
  simp only [List.length_drop, List.length_take, hl] at hp
  obtain ⟨g', o', e, hc⟩ := h4 (by omega)
  cases e
  refine ⟨g, _, rfl, fun j u hj => ?_⟩
  rw [List.getElem?_drop, List.getElem?_take] at hj
  split at hj
  · have := hc _ _ hj
    rwa [← Nat.add_assoc] at this
  · cases hj
theorem ownsRow_empty (w : World) (base e sz : Nat) (hb : base ≤ w.heap.size) : (w.alloc (.cells #[] e)).ownsRow base e sz (.slice (some ⟨w.heap.size, 0, none⟩) 0 0) 0 [] :=
  World.ownsRow_made w #[] 0 hb (by simp) (by simp)
/-- What the law's statement asks behind the call: the result is true, the arguments read as before, nothing else has turned. -/
theorem below_trodAll {H : Type} {enc : TypeId × Value → H} {P : Program} {W W' : World} (hl : laidOutB P = true) (hb : Below W.heap.size W W') :
    ∀ (ts : List TypeId) (vs : List Value) (ds : List (DataW H)) (ps : List MemPlace), (∀ t ∈ ts, P.readableRec t = true ∧ t < P.types.size) →
      DataW.TrodAll enc P W 0 (fun _ => true) true ts vs ds ps → (∀ x ∈ ps, x.block < W.heap.size) → DataW.TrodAll enc P W' 0 (fun b => decide (b < W.heap.size)) true ts vs ds ps
  | [], vs, ds, ps, _, h, _ => by
    obtain ⟨rfl, rfl, rfl⟩ := trodAll_nil h
    exact trodAll_mk0
  | t :: ts, vs, ds, ps, hr, h, hlt => by
    obtain ⟨v, vs', d, ds', p, q, rfl, rfl, rfl, h1, h2⟩ := trodAll_cons h
    exact trodAll_cons_mk (Below.trod hl (hr t (by simp)).1 (hr t (by simp)).2 h1 hb (fun x hx => hlt x (by simp [hx])))
      (below_trodAll hl hb ts vs' ds' q (fun t ht => hr t (by simp [ht])) h2 (fun x hx => hlt x (by simp [hx])))

theorem law_post {H : Type} {enc : TypeId × Value → H} {P : Program} {f : Func} {s : ChangeSpec} {W W' : World} {args : Array Value} {ds gs : List (DataW H)} {before : List MemPlace} {tb : TypeId}
    (hl : laidOutB P = true) (hr : ∀ t ∈ f.params.toList, P.readableRec t = true ∧ t < P.types.size) (hrt : f.resultTypes = #[tb]) (htb : P.underlying tb = some .bool) (hv : s.vars = [])
    (hW : DataW.Whole enc P f.params.toList s.vars false W args.toList ds gs before) (hs : s.fn H (ds ++ gs) = { results := [.lit (.bool true)], args := ds })
    (hk : Keeps [] W W') : s.post enc P f false true false false W args (.bool true) W' := by
  have hW' := hW
  obtain ⟨p, q, hA, hV, hbe, _, _⟩ := hW
  rw [hv] at hV
  obtain ⟨rfl, rfl⟩ := trodVars_none hV
  rw [List.append_nil] at hbe
  subst hbe
  refine ⟨_, _, _, [], before, [], hW', ?_, ?_, ?_, hk.below.frame _, fun h => by cases h⟩
  · rw [hs, hrt]; exact trodAll_mk1 (shut_bool htb _)
  · rw [hs]; exact below_trodAll hl hk.below _ _ _ _ hr hA (fun x hx => by simpa using hW'.lt x hx)
  · rw [hs, hv]; rfl
end Go.Proofs.YtpobepninifenaaGreat

namespace Go.Proofs.YtpobepninifenaaGreat
open Go.RowKit Go.ChangeShapes

/-- From `w` to `w'` a slice `v` has become `v'`: new blocks, writes to the block of `v` alone; `v'` lies where `v` lay, or in a new block. -/
structure Grw (w w' : World) (v v' : Value) : Prop where
  grown : w.grownBy w' v.ownBlock
  own : v'.ownBlock = v.ownBlock ∨ ∃ k, v'.ownBlock = some k ∧ w.heap.size ≤ k

/-- Seen from the time ahead of the buffer's making. -/
theorem Grw.keeps {a w w' : World} {v v' : Value} (h : Keeps [] a w) (k : Grw w w' v v') (hv : ∀ b, v.ownBlock = some b → a.heap.size ≤ b) : Keeps [] a w' :=
  h.grown k.grown (fun b hb => .inl (hv b hb))
theorem ownBlock_ge {w : World} {base e sz n : Nat} {v : Value} {cs : List Value} (h : w.ownsRow base e sz v n cs) : ∀ b, v.ownBlock = some b → base ≤ b := fun b hb => (h.lt b hb).1

/-- Every cell of the block of the slice `v` is as `p` asks. -/
def AllC (w : World) (v : Value) (p : Value → Prop) : Prop := ∀ g, v.ownBlock = some g → ∀ o u, w.cell? ⟨g, o, none⟩ = some u → p u
theorem AllC.of_block {w : World} {g n c : Nat} {p : Value → Prop} {cs : Array Value} {t : TypeId} {f : Nat × Nat} (h : w.heap[g]? = some (.cells cs t f)) (hp : ∀ u ∈ cs.toList, p u) : AllC w (.slice (some ⟨g, 0, none⟩) n c) p := fun g' e o u hu => by
  simp [Value.ownBlock] at e
  subst e
  have : cs[o]? = some u := by simpa [World.cell?, h] using hu
  exact hp _ (by simpa using Array.mem_of_getElem? this)
theorem AllC.to_block {w : World} {g n c : Nat} {p : Value → Prop} {cs : Array Value} {t : TypeId} {f : Nat × Nat} (h : AllC w (.slice (some ⟨g, 0, none⟩) n c) p) (hg : w.heap[g]? = some (.cells cs t f)) : ∀ u ∈ cs.toList, p u := fun u hu => by
  obtain ⟨o, ho, rfl⟩ := List.getElem_of_mem hu
  exact h g rfl o _ (by simp at ho; simp [World.cell?, hg, ho])
theorem mem_zeroCells {z : Array Value} {n : Nat} {u : Value} (h : u ∈ (Builtin.zeroCells z n).toList) : u ∈ z.toList := by
  simp only [Builtin.zeroCells] at h
  simp at h
  obtain ⟨i, hi, rfl⟩ := h
  have hz : 0 < z.size := by
    rcases Nat.eq_zero_or_pos z.size with e | e
    · rw [e] at hi; omega
    · exact e
  have := Nat.mod_lt i hz
  simp [this]
/-- `append(v, v2...)`, `v` the call's own. -/
theorem run_append_x {P : Program} {w : World} (base : Nat) (t ty e : TypeId) (i : TypeInfo) (z : Value) (size bytes : Nat) (ht : P.underlying t = some (.slice e)) (hi : P.info? e = some i) (hz : i.zero = some z)
    (hsize : i.size = size) (hby : i.bytes = bytes) (hzs : z.cells.size = size) (hsz : 0 < size) (v : Value) (n : Nat) (xs : List Value) (hown : w.ownsRow base e size v n xs)
    (v2 : Value) (m : Nat) (ys : List Value) (hsl : Sl w size v2 m ys) (h1 : ∀ u ∈ ys, u.oneCell' = true) (h63 : n + m ≤ maxLen) (hbytes : (n + m) * bytes ≤ 140737488355328) (hbase : base ≤ w.heap.size) :
    ∃ v' w', (Builtin.append_ #[t, t] ty #[v, v2]).run P w = .ok v' w' ∧ w'.ownsRow base e size v' (n + m) (xs ++ ys) ∧ Grw w w' v v' ∧ ∀ p : Value → Prop, (∀ u ∈ ys, p u) → (∀ u ∈ z.cells.toList, p u) → AllC w v p → AllC w' v' p := by
  obtain ⟨v', w', hr, h2, h3⟩ := run_append_sl (P := P) base t ty e i z size bytes ht hi hz hsize hby hzs hsz v n xs hown v2 m ys hsl h1 h63 hbytes hbase
  suffices hs : (v'.ownBlock = v.ownBlock ∨ ∃ k, v'.ownBlock = some k ∧ w.heap.size ≤ k) ∧ ∀ p : Value → Prop, (∀ u ∈ ys, p u) → (∀ u ∈ z.cells.toList, p u) → AllC w v p → AllC w' v' p from ⟨v', w', hr, h2, ⟨h3, hs.1⟩, hs.2⟩
  obtain ⟨hl, a, cap, rfl, _, _, h0, hc⟩ := hsl
  subst hsize
  subst hby
  cases a with
  | none =>
    have hys : ys = [] := by
      cases ys with
      | nil => rfl
      | cons y r => obtain ⟨g, o, e, _⟩ := hc (by simp); cases e
    subst hys
    have hm : m = 0 := by
      have : m * i.size = 0 := by simpa using hl.symm
      rcases Nat.mul_eq_zero.1 this with h | h <;> omega
    subst hm
    have hc0 := h0 rfl
    subst hc0
    have hr2 := run_append_owned_none (P := P) (w := w) base t ty e i _ ht hi v n xs hown
    rw [hr] at hr2
    cases hr2
    exact ⟨.inl rfl, fun _ _ _ h => h⟩
  | some ad =>
    have hcells : ∀ j u, ys[j]? = some u → w.cell? (ad.add j) = some u := by
      intro j u hj
      have hp : 0 < ys.length := by have := (List.getElem?_eq_some_iff.1 hj).1; omega
      obtain ⟨g, o, e, hc'⟩ := hc hp
      cases e
      rw [Go.WideShapes.add_plain]
      exact hc' j u hj
    have hml : (maxLen : Nat) = 9223372036854775807 := rfl
    rcases hown.2 with ⟨rfl, rfl⟩ | ⟨g, cp, cur, rfl, hbg, hg, hnc, hcm, hcs, htake⟩
    · by_cases hm : m = 0
      · subst hm
        have hys : ys = [] := List.eq_nil_of_length_eq_zero (by simpa using hl)
        subst hys
        rcases h2.2 with ⟨rfl, _⟩ | ⟨g, cp, cur, rfl, _, _⟩
        · exact ⟨.inl rfl, fun _ _ _ _ g hg => by simp [Value.ownBlock] at hg⟩
        · exfalso
          simp [Builtin.append_, run_underlying ht, sizeOf, typeInfo, hi, Builtin.lenOf, Builtin.firstCells, loadCells, loadCellsFrom] at hr
      · have hr2 := run_append_nil (P := P) w t ty e i z ht hi hz ad m cap ys hl hcells (by omega) (by omega) (by have hb := hbytes; simp only [Nat.zero_add] at hb; omega)
        rw [hr] at hr2
        cases hr2
        refine ⟨.inr ⟨_, rfl, Nat.le_refl _⟩, fun p h1 h2 _ => AllC.of_block (heap_alloc_new w.drew _) fun u hu => ?_⟩
        simp only [Array.toList_append, List.mem_append] at hu
        rcases hu with hu | hu
        · exact h1 u hu
        · exact h2 u (mem_zeroCells hu)
    · by_cases hroom : n + m ≤ cp
      · have hfit : n * i.size + ys.length ≤ cur.size := by rw [hl, hcs, ← Nat.add_mul]; exact Nat.mul_le_mul_right _ hroom
        have hr2 := run_append_room (P := P) w t ty e i ht hi g n cp cur hg ad m cap ys hl hcells h1 hroom hfit
        rw [hr] at hr2
        cases hr2
        refine ⟨.inl rfl, fun p h1 _ h3 => AllC.of_block (setRow_heap w g cur _ e _ hg) fun u hu => ?_⟩
        have h4 := h3.to_block hg
        simp only [List.mem_append] at hu
        rcases hu with (hu | hu) | hu
        · exact h4 u (List.mem_of_mem_take hu)
        · exact h1 u hu
        · exact h4 u (List.mem_of_mem_drop hu)
      · have holds : ∀ j u, xs[j]? = some u → w.cell? ((⟨g, 0, none⟩ : Addr).add j) = some u := hown.cells (g := g) rfl
        have hr2 := run_append_grow (P := P) w t ty e i z ht hi hz ⟨g, 0, none⟩ n cp xs hown.1 holds ad m cap ys hl hcells (by omega) (by omega) (growslice_fits (by omega) hbytes)
        rw [hr] at hr2
        cases hr2
        refine ⟨.inr ⟨_, rfl, Nat.le_refl _⟩, fun p h1 h2 h3 => AllC.of_block (heap_alloc_new w.drew _) fun u hu => ?_⟩
        have h4 := h3.to_block hg
        simp only [Array.toList_append, List.mem_append] at hu
        rcases hu with (hu | hu) | hu
        · rw [← htake] at hu; exact h4 u (List.mem_of_mem_take hu)
        · exact h1 u hu
        · exact h2 u (mem_zeroCells hu)

/-- .. at the operation. -/
theorem wpl_append_x {P : Program} {w : World} {ops : Array Oper} {rest : List Oper} {o : Oper} {a : Act} {Q : Exit → Act → World → Prop} (hg : o.guard = none) (s x : Operand) (t : TypeId)
    (ho : o.op = .call { callee := .builtin .append, args := #[s, x], argTypes := #[t, t] }) (base : Nat) (e : TypeId) (i : TypeInfo) (z : Value) (size bytes : Nat) (ht : P.underlying t = some (.slice e)) (hi : P.info? e = some i) (hz : i.zero = some z)
    (hsize : i.size = size) (hby : i.bytes = bytes) (hzs : z.cells.size = size) (hsz : 0 < size) (v : Value) (n : Nat) (xs : List Value) (hs : a.eval s = v) (hown : w.ownsRow base e size v n xs)
    (v2 : Value) (m : Nat) (ys : List Value) (hx : a.eval x = v2) (hsl : Sl w size v2 m ys) (h1 : ∀ u ∈ ys, u.oneCell' = true) (h63 : n + m ≤ maxLen) (hbytes : (n + m) * bytes ≤ 140737488355328) (hbase : base ≤ w.heap.size)
    (h : ∀ v' w', w'.ownsRow base e size v' (n + m) (xs ++ ys) → Grw w w' v v' → (∀ p : Value → Prop, (∀ u ∈ ys, p u) → (∀ u ∈ z.cells.toList, p u) → AllC w v p → AllC w' v' p) → wpList P ops Q rest (a.put o.dst v') w') : wpList P ops Q (o :: rest) a w := by
  refine wpList_plain hg fun K hK => ?_
  obtain ⟨v', w', hr, h2, h3, h4⟩ := run_append_x (P := P) base t o.type e i z size bytes ht hi hz hsize hby hzs hsz v n xs hown v2 m ys hsl h1 h63 hbytes hbase
  unfold Oper.wp execOp
  simp only [ho, resolve, invoke, builtin, Sem.run_bind, Sem.run_pure, Result.andThen_ok, List.map_toArray, List.map_cons, List.map_nil, hs, hx, hr]
  exact hK _ _ (h v' w' h2 h3 h4)

/-- .. at one operation. -/
theorem wp_append_x {P : Program} {w : World} {o : Oper} {a : Act} {K : Act → World → Prop} {Q : Exit → Act → World → Prop} (s x : Operand) (t : TypeId)
    (ho : o.op = .call { callee := .builtin .append, args := #[s, x], argTypes := #[t, t] }) (base : Nat) (e : TypeId) (i : TypeInfo) (z : Value) (size bytes : Nat) (ht : P.underlying t = some (.slice e)) (hi : P.info? e = some i) (hz : i.zero = some z)
    (hsize : i.size = size) (hby : i.bytes = bytes) (hzs : z.cells.size = size) (hsz : 0 < size) (v : Value) (n : Nat) (xs : List Value) (hs : a.eval s = v) (hown : w.ownsRow base e size v n xs)
    (v2 : Value) (m : Nat) (ys : List Value) (hx : a.eval x = v2) (hsl : Sl w size v2 m ys) (h1 : ∀ u ∈ ys, u.oneCell' = true) (h63 : n + m ≤ maxLen) (hbytes : (n + m) * bytes ≤ 140737488355328) (hbase : base ≤ w.heap.size)
    (h : ∀ v' w', w'.ownsRow base e size v' (n + m) (xs ++ ys) → Grw w w' v v' → (∀ p : Value → Prop, (∀ u ∈ ys, p u) → (∀ u ∈ z.cells.toList, p u) → AllC w v p → AllC w' v' p) → K (a.put o.dst v') w') : o.wp P a w K Q := by
  obtain ⟨v', w', hr, h2, h3, h4⟩ := run_append_x (P := P) base t o.type e i z size bytes ht hi hz hsize hby hzs hsz v n xs hown v2 m ys hsl h1 h63 hbytes hbase
  unfold Oper.wp execOp
  simp only [ho, resolve, invoke, builtin, Sem.run_bind, Sem.run_pure, Result.andThen_ok, List.map_toArray, List.map_cons, List.map_nil, hs, hx, hr]
  exact h v' w' h2 h3 h4

theorem Grw.keepsO {w w' : World} {v v' : Value} (k : Grw w w' v v') : Keeps v.ownBlock.toList w w' :=
  ⟨k.grown.os, k.grown.tape, k.grown.output, k.grown.size, fun i hi hn => k.grown.block i hi (fun e => hn (by rw [← e]; simp))⟩
end Go.Proofs.YtpobepninifenaaGreat

namespace Go.Proofs.YtpobepninifenaaGreat
namespace Gen
open Go Go.ChangeShapes Go.WideShapes Go.ChangeAt Go.RowKit

/-- The cells `cs` are data of type `t`. -/
def Cs (P : Program) (w : World) (t : TypeId) (cs : List Value) : Prop :=
  ∃ (H : Type) (enc : TypeId × Value → H) (fuel : Nat) (x : DataW H × List MemPlace), DataW.trod enc P w 0 (fun _ => true) true fuel t cs = some x
variable {P : Program} {w : World}
theorem Cs.of_trod {H : Type} {enc : TypeId × Value → H} {t : TypeId} {v : Value} {d : DataW H} {ps : List MemPlace} (hv : v.cells.toList = [v]) (h : DataW.Trod enc P w 0 (fun _ => true) true t v d ps) : Cs P w t [v] := by
  obtain ⟨fuel, hf⟩ := h
  rw [hv] at hf
  exact ⟨H, enc, fuel, _, hf⟩
theorem Cs.int {t : TypeId} {k : IntKind} (ht : P.underlying t = some (.int k)) {cs : List Value} (h : Cs P w t cs) : ∃ n, cs = [.int k n] ∧ (Lit.int k n).wf = true := by
  obtain ⟨H, enc, fuel, x, hf⟩ := h
  obtain ⟨n, h1, _, h2⟩ := DataW.trod_int ht hf
  exact ⟨n, h1, h2⟩
theorem Cs.bool {t : TypeId} (ht : P.underlying t = some .bool) {cs : List Value} (h : Cs P w t cs) : ∃ b, cs = [.bool b] := by
  obtain ⟨H, enc, fuel, x, hf⟩ := h
  obtain ⟨b, h1, _⟩ := DataW.trod_bool ht hf
  exact ⟨b, h1⟩
theorem Cs.struct {t : TypeId} {fs : Array Field} (ht : P.underlying t = some (.struct fs)) {cs : List Value} (h : Cs P w t cs) : cs.length = P.cellsOf t ∧ ∀ (i : Nat) (f : Field), fs[i]? = some f → Cs P w f.type ((cs.drop f.offset).take (P.cellsOf f.type)) := by
  obtain ⟨H, enc, fuel, x, hf⟩ := h
  obtain ⟨xs, n, _, _, hl, hx, hall⟩ := DataW.trod_struct ht hf
  refine ⟨hl, fun i f hi => ?_⟩
  have h1 := hall i f hi
  have hlt : i < xs.length := by rw [hx]; exact (Array.getElem?_eq_some_iff.1 hi).1
  rw [List.getElem?_eq_getElem hlt] at h1
  exact ⟨H, enc, n, _, h1⟩
theorem Cs.slice {t e : TypeId} {sz : Nat} (ht : P.underlying t = some (.slice e)) (hsz : P.cellsOf e = sz) (hpos : 0 < sz) {cs : List Value} (h : Cs P w t cs) :
    ∃ v n es, cs = [v] ∧ Sl w sz v n es ∧ n ≤ maxLen ∧ ∀ k, k < n → Cs P w e ((es.drop (k * sz)).take sz) := by
  obtain ⟨H, enc, fuel, x, hf⟩ := h
  subst hsz
  rcases Go.Deep.open_slice ht hf with ⟨rfl, _⟩ | ⟨a, len, cap, m, n, D, Pl, rfl, _, hl, hm, hmm, _, hx⟩
  · exact ⟨_, 0, [], rfl, Sl.nil _ _, by simp, fun k hk => by omega⟩
  · simp only [if_true] at hmm
    subst hmm
    obtain ⟨V, hV⟩ := Go.Deep.choose_lt (α := List Value) (p := fun i v => w.cells? 0 (a.add (i * P.cellsOf e)) (P.cellsOf e) = some v ∧ DataW.trod enc P w 0 (fun _ => true) true n e v = some (D i, Pl i)) hx
    have hVl : ∀ i, i < m → (V i).length = P.cellsOf e := fun i hi => (World.cells?_some (hV i hi).1).2.1
    have hchunk : ∀ (n : Nat), n ≤ m → ((List.range n).flatMap V).length = n * P.cellsOf e ∧ ∀ k, k < n → (((List.range n).flatMap V).drop (k * P.cellsOf e)).take (P.cellsOf e) = V k := by
      intro n
      induction n with
      | zero => exact fun _ => ⟨by simp, fun k hk => by omega⟩
      | succ n ih =>
        intro hn
        obtain ⟨h1, h2⟩ := ih (by omega)
        rw [List.range_succ, List.flatMap_append]
        simp only [List.flatMap_cons, List.flatMap_nil, List.append_nil]
        refine ⟨by rw [List.length_append, h1, hVl n (by omega)]; rw [Nat.add_mul, Nat.one_mul], fun k hk => ?_⟩
        rcases Nat.lt_succ_iff_lt_or_eq.1 hk with hkn | rfl
        · have hk2 : k * P.cellsOf e + P.cellsOf e ≤ n * P.cellsOf e := by rw [← Nat.succ_mul]; exact Nat.mul_le_mul_right _ hkn
          rw [List.drop_append_of_le_length (by omega), List.take_append_of_le_length (by rw [List.length_drop]; omega)]
          exact h2 k hkn
        · rw [List.drop_append, h1, List.drop_of_length_le (by omega)]
          simp only [Nat.sub_self, List.drop_zero, List.nil_append]
          exact List.take_of_length_le (by rw [hVl _ (by omega)]; exact Nat.le_refl _)
    obtain ⟨hl1, hl2⟩ := hchunk len hl
    refine ⟨_, len, (List.range len).flatMap V, rfl, ⟨hl1, some a, m, rfl, hl, hm, by simp, fun hp => ?_⟩, by omega, fun k hk => ?_⟩
    · obtain ⟨b, off, spot⟩ := a
      have hlen0 : 0 < len := by
        rcases Nat.eq_zero_or_pos len with e | e
        · subst e; simp at hp
        · exact e
      have hspot : spot = none := by
        have h0 := (World.cells?_some (hV 0 (by omega)).1).2.2 0 (by omega)
        rw [List.getElem?_eq_getElem (by rw [hVl 0 (by omega)]; omega)] at h0
        have := World.cell?_spot h0
        simpa [Addr.add] using this
      subst hspot
      refine ⟨b, off, rfl, fun j u hj => ?_⟩
      have hjl : j < len * P.cellsOf e := by rw [← hl1]; exact (List.getElem?_eq_some_iff.1 hj).1
      have hi : j / P.cellsOf e < len := (Nat.div_lt_iff_lt_mul hpos).2 hjl
      have hr : j % P.cellsOf e < P.cellsOf e := Nat.mod_lt _ hpos
      have hdm : j / P.cellsOf e * P.cellsOf e + j % P.cellsOf e = j := by rw [Nat.mul_comm]; exact Nat.div_add_mod _ _
      have hc := (World.cells?_some (hV (j / P.cellsOf e) (by omega)).1).2.2 (j % P.cellsOf e) hr
      have hvk := hl2 _ hi
      have e2 : (V (j / P.cellsOf e))[j % P.cellsOf e]? = some u := by
        rw [← hvk, List.getElem?_take_of_lt hr, List.getElem?_drop, hdm]; exact hj
      rw [add_plain, add_plain, Nat.add_assoc, hdm, e2] at hc
      exact hc
    · rw [hl2 k hk]
      exact ⟨H, enc, n, _, (hV k (by omega)).2⟩
end Gen
end Go.Proofs.YtpobepninifenaaGreat

namespace Go.Proofs.YtpobepninifenaaGreat
namespace Gen
open Go Go.RowKit
variable {P : Program} {α : Type} {R : World → List Value → α → Prop} {sz : Nat} {w w' : World} {v : Value} {L : List α}

/-- The slice value `v` reads as the list `L`; each element takes `sz` cells, which read as `R` says. -/
def SlR {α : Type} (R : World → List Value → α → Prop) (sz : Nat) (w : World) (v : Value) (L : List α) : Prop :=
  ∃ cs, Sl w sz v L.length cs ∧ ∀ k (hk : k < L.length), R w ((cs.drop (k * sz)).take sz) L[k]
theorem SlR.open {t e : TypeId} (ht : P.underlying t = some (.slice e)) (hsz : P.cellsOf e = sz) (hpos : 0 < sz) (hR : ∀ cs, Cs P w e cs → ∃ x, R w cs x) (h : Cs P w t [v]) : ∃ L, SlR R sz w v L ∧ L.length ≤ maxLen := by
  obtain ⟨v', n, es, e1, hs, hn, hx⟩ := Cs.slice ht hsz hpos h
  simp only [List.cons.injEq, and_true] at e1
  subst e1
  rcases Nat.eq_zero_or_pos n with e0 | e0
  · subst e0
    exact ⟨[], ⟨es, hs, fun k hk => by simp at hk⟩, by simp⟩
  haveI : Inhabited α := ⟨(hR _ (hx 0 e0)).choose⟩
  obtain ⟨f, hf⟩ := Go.Deep.choose_lt (α := α) (p := fun k x => R w ((es.drop (k * sz)).take sz) x) (fun k hk => hR _ (hx k hk))
  refine ⟨(List.range n).map f, ⟨es, by simpa using hs, fun k hk => ?_⟩, by simpa using hn⟩
  simp at hk
  simpa using hf k hk
theorem SlR.form (h : SlR R sz w v L) : ∃ a c, v = .slice a L.length c ∧ L.length ≤ c ∧ c ≤ maxLen ∧ (a = none → c = 0) := by
  obtain ⟨cs, ⟨_, a, c, rfl, h2, h3, h4, _⟩, _⟩ := h; exact ⟨a, c, rfl, h2, h3, h4⟩
theorem SlR.keepS {S : List Nat} (h : SlR R sz w v L) (hk : Keeps S w w') (hS : ∀ b ∈ S, v.ownBlock ≠ some b) (hR : ∀ cs x, R w cs x → R w' cs x) : SlR R sz w' v L := by
  obtain ⟨cs, ⟨h1, a, cap, rfl, h2, h3, h0, h4⟩, hE⟩ := h
  refine ⟨cs, ⟨h1, a, cap, rfl, h2, h3, h0, fun hp => ?_⟩, fun k hk => hR _ _ (hE k hk)⟩
  obtain ⟨g, o, rfl, hc⟩ := h4 hp
  refine ⟨g, o, rfl, fun j u hj => ?_⟩
  have := hc j u hj
  rw [hk.cell g _ (lt_of_cell this) (fun hm => hS g hm rfl)]
  exact this
theorem SlR.keeps (h : SlR R sz w v L) (hk : Keeps [] w w') (hR : ∀ cs x, R w cs x → R w' cs x) : SlR R sz w' v L := h.keepS hk (by simp) hR
/-- The cells of one element. -/
theorem SlR.elem (h : SlR R sz w v L) (hpos : 0 < sz) {k : Nat} (hk : k < L.length) : ∃ g o c xs, v = .slice (some ⟨g, o, none⟩) L.length c ∧ xs.length = sz ∧ R w xs L[k] ∧ ∀ j u, xs[j]? = some u → w.cell? ⟨g, o + k * sz + j, none⟩ = some u := by
  obtain ⟨cs, ⟨h1, a, cap, rfl, h2, h3, h0, h4⟩, hE⟩ := h
  have hk2 : k * sz + sz ≤ L.length * sz := by rw [← Nat.succ_mul]; exact Nat.mul_le_mul_right _ hk
  obtain ⟨g, o, rfl, hc⟩ := h4 (by omega)
  refine ⟨g, o, cap, _, rfl, ?_, hE k hk, fun j u hj => ?_⟩
  · rw [List.length_take, List.length_drop]; omega
  · have hj2 : j < sz := by
      have := (List.getElem?_eq_some_iff.1 hj).1
      rw [List.length_take] at this; omega
    rw [List.getElem?_take_of_lt hj2, List.getElem?_drop] at hj
    rw [Nat.add_assoc]
    exact hc _ _ hj
end Gen
end Go.Proofs.YtpobepninifenaaGreat

namespace Go.Proofs.YtpobepninifenaaGreat
open Go Go.RowKit

/-- A shape: how many cells an element takes, and which. -/
structure Sh (α : Type) where
  sz : Nat
  cf : α → List Value
  len : ∀ x, (cf x).length = sz
  pos : 0 < sz
  one : ∀ x, ∀ u ∈ cf x, u.oneCell' = true
namespace Sh
variable {α : Type} {s : Sh α} {w w' : World} {v v' : Value} {L M : List α} {B : Nat} {e : TypeId}

def cs (s : Sh α) : List α → List Value
  | [] => []
  | x :: t => s.cf x ++ cs s t
theorem cs_len : ∀ L : List α, (s.cs L).length = L.length * s.sz
  | [] => by simp [cs]
  | x :: t => by simp [cs, s.len, cs_len t, Nat.add_mul]; omega
theorem cs_append : ∀ L M : List α, s.cs (L ++ M) = s.cs L ++ s.cs M
  | [], _ => rfl
  | x :: t, M => by simp [cs, cs_append t M]
theorem cs_one : ∀ L : List α, ∀ u ∈ s.cs L, u.oneCell' = true
  | [], u, h => by cases h
  | x :: t, u, h => by
    rcases List.mem_append.1 h with h | h
    · exact s.one x u h
    · exact cs_one t u h
theorem cs_get : ∀ (L : List α) (k : Nat) (hk : k < L.length) (j : Nat), j < s.sz → (s.cs L)[k * s.sz + j]? = (s.cf L[k])[j]?
  | x :: t, 0, _, j, hj => by
    have : (s.cs (x :: t))[0 * s.sz + j]? = (s.cf x ++ s.cs t)[j]? := by simp [cs]
    rw [this, List.getElem?_append_left (by rw [s.len]; exact hj)]
    rfl
  | x :: t, k + 1, hk, j, hj => by
    have := cs_get t k (by simpa using hk) j hj
    simp only [cs, List.getElem_cons_succ]
    rw [List.getElem?_append_right (by rw [s.len, Nat.add_mul]; omega), ← this]
    congr 1
    rw [s.len, Nat.add_mul]; omega
theorem cs_take : ∀ (L : List α) (k : Nat), (s.cs L).take (k * s.sz) = s.cs (L.take k)
  | [], k => by simp [cs]
  | x :: t, 0 => by simp [cs]
  | x :: t, k + 1 => by
    have h1 := cs_take t k
    simp only [cs, List.take_succ_cons]
    have h2 := s.len x
    rw [List.take_append, h2, List.take_of_length_le (by rw [h2, Nat.add_mul]; omega), show (k + 1) * s.sz - s.sz = k * s.sz by rw [Nat.add_mul]; omega, h1]
theorem cs_drop : ∀ (L : List α) (k : Nat), (s.cs L).drop (k * s.sz) = s.cs (L.drop k)
  | [], k => by simp [cs]
  | x :: t, 0 => by simp [cs]
  | x :: t, k + 1 => by
    have h1 := cs_drop t k
    have h2 := s.len x
    simp only [cs, List.drop_succ_cons]
    rw [List.drop_append, h2, List.drop_of_length_le (by rw [h2, Nat.add_mul]; omega), show (k + 1) * s.sz - s.sz = k * s.sz by rw [Nat.add_mul]; omega, h1]
    rfl

/-- The slice `v` reads as the list `L`. -/
def R (s : Sh α) (w : World) (v : Value) (L : List α) : Prop := Sl w s.sz v L.length (s.cs L)
theorem R.nil (s : Sh α) (w : World) : s.R w (.slice none 0 0) [] := Sl.nil w _
theorem R.keeps (h : s.R w v L) (hk : Keeps [] w w') : s.R w' v L := Sl.keeps h hk
theorem R.keepS {S : List Nat} (h : s.R w v L) (hk : Keeps S w w') (hS : ∀ b ∈ S, v.ownBlock ≠ some b) : s.R w' v L := by
  obtain ⟨h1, a, cap, rfl, h2, h3, h0, h4⟩ := h
  refine ⟨h1, a, cap, rfl, h2, h3, h0, fun hp => ?_⟩
  obtain ⟨g, o, rfl, hc⟩ := h4 hp
  refine ⟨g, o, rfl, fun j u hj => ?_⟩
  have := hc j u hj
  rw [hk.cell g _ (lt_of_cell this) (fun hm => hS g hm rfl)]
  exact this
theorem R.form (h : s.R w v L) : ∃ a c, v = .slice a L.length c ∧ L.length ≤ c ∧ c ≤ maxLen ∧ (a = none → c = 0) := by
  obtain ⟨_, a, c, rfl, h2, h3, h4, _⟩ := h; exact ⟨a, c, rfl, h2, h3, h4⟩
theorem R.elem (h : s.R w v L) {k : Nat} (hk : k < L.length) : ∃ g o c, v = .slice (some ⟨g, o, none⟩) L.length c ∧ ∀ j u, (s.cf L[k])[j]? = some u → w.cell? ⟨g, o + k * s.sz + j, none⟩ = some u := by
  obtain ⟨_, a, c, rfl, h2, h3, h4, h5⟩ := h
  have hp := s.pos
  have : 1 * s.sz ≤ L.length * s.sz := Nat.mul_le_mul_right _ (by omega)
  obtain ⟨g, o, rfl, hc⟩ := h5 (by rw [cs_len]; omega)
  refine ⟨g, o, c, rfl, fun j u hu => ?_⟩
  have hj : j < s.sz := by have := (List.getElem?_eq_some_iff.1 hu).1; rwa [s.len] at this
  rw [Nat.add_assoc]
  exact hc (k * s.sz + j) u ((cs_get L k hk j hj).trans hu)
theorem R.part {g o n cap : Nat} (h : s.R w (.slice (some ⟨g, o, none⟩) n cap) L) (a b : Nat) (hab : a ≤ b) (hb : b ≤ L.length) : s.R w (.slice (some ⟨g, o + a * s.sz, none⟩) (b - a) (cap - a)) ((L.take b).drop a) := by
  obtain ⟨a', c', e⟩ : ∃ a c, Value.slice (some ⟨g, o, none⟩) n cap = .slice a L.length c := by obtain ⟨_, a, cap, e, _⟩ := h; exact ⟨a, cap, e⟩
  cases e
  have h' := Sl.part h a b hab hb
  rw [cs_take, cs_drop] at h'
  unfold R
  rw [List.length_drop, List.length_take, Nat.min_eq_left hb]
  exact h'
theorem R.tail {g o n cap : Nat} (h : s.R w (.slice (some ⟨g, o, none⟩) n cap) L) (a : Nat) (ha : a ≤ L.length) :
    s.R w (.slice (if cap = a then some ⟨g, o, none⟩ else some ⟨g, o + a * s.sz, none⟩) (L.length - a) (cap - a)) (L.drop a) := by
  have h' := h.part a L.length ha (Nat.le_refl _)
  rw [List.take_of_length_le (Nat.le_refl _)] at h'
  by_cases hc : cap = a
  · rw [if_pos hc]
    have hLc : L.length ≤ cap := by obtain ⟨_, a', c', e, h2, _⟩ := h; cases e; exact h2
    have hd : L.drop a = [] := List.drop_of_length_le (by omega)
    rw [hd, show L.length - a = 0 by omega]
    exact ⟨by simp [cs], _, _, rfl, by simp, by unfold maxLen; omega, by simp, by simp [cs]⟩
  · rw [if_neg hc]; exact h'
theorem R.tail' {a : Option Addr} {n cap : Nat} (h : s.R w (.slice a n cap) L) (k : Nat) (hk : k ≤ L.length) :
    s.R w (.slice (if cap = k then a else a.map (·.add (k * s.sz))) (L.length - k) (cap - k)) (L.drop k) := by
  have h0 := h
  obtain ⟨_, a', c', e, h2, h3, h4, h5⟩ := h0
  cases e
  by_cases hc : cap = k
  · rw [if_pos hc]
    have hd : L.drop k = [] := List.drop_of_length_le (by omega)
    rw [hd, show L.length - k = 0 by omega]
    exact ⟨by simp [cs], _, _, rfl, by simp, by unfold maxLen; omega, fun e => by have := h4 e; omega, by simp [cs]⟩
  · rw [if_neg hc]
    by_cases hl : L.length = 0
    · obtain rfl : L = [] := List.length_eq_zero_iff.1 hl
      simp at hk
      subst hk
      refine ⟨by simp [cs], _, _, rfl, by simp, by omega, fun e => ?_, by simp [cs]⟩
      cases a with
      | none => exact h4 rfl
      | some x => cases e
    · have hp := s.pos
      have : 1 * s.sz ≤ L.length * s.sz := Nat.mul_le_mul_right _ (by omega)
      obtain ⟨g, o, rfl, _⟩ := h5 (by rw [cs_len]; omega)
      have := h.tail k hk
      rw [if_neg hc] at this
      simpa only [Option.map_some, WideShapes.add_plain] using this
theorem R.init' {a : Option Addr} {n cap : Nat} (h : s.R w (.slice a n cap) L) (b : Nat) (hb : b ≤ L.length) : s.R w (.slice a b cap) (L.take b) := by
  obtain ⟨h1, a', c', e, h2, h3, h4, h5⟩ := h
  cases e
  refine ⟨cs_len _ |>.trans (by simp), a, cap, ?_, ?_, h3, h4, fun hp => ?_⟩
  · simp [Nat.min_eq_left hb]
  · simp; omega
  · rw [← cs_take] at hp ⊢
    obtain ⟨g, o, e, hc⟩ := h5 (by simp at hp; omega)
    refine ⟨g, o, e, fun j u hj => ?_⟩
    rw [List.getElem?_take] at hj
    split at hj
    · exact hc j u hj
    · cases hj
/-- What was just laid. -/
theorem R.made (s : Sh α) (w : World) (L : List α) (xs : Array Value) (t : TypeId) (hx : xs.toList = s.cs L) (hl : L.length ≤ maxLen) (n : Nat) (hn : n = L.length) : s.R (w.alloc (.cells xs t)) (.slice (some ⟨w.heap.size, 0, none⟩) n n) L := by
  subst hn
  refine ⟨cs_len L, _, _, rfl, Nat.le_refl _, hl, by simp, fun _ => ⟨_, 0, rfl, fun j u hj => ?_⟩⟩
  rw [World.cell?_alloc_mark, Nat.zero_add]
  rw [← hx] at hj
  simpa using hj
theorem R.of_slR {Rel : World → List Value → α → Prop} (hR : ∀ cs x, Rel w cs x → cs = s.cf x) (h : Gen.SlR Rel s.sz w v L) : s.R w v L := by
  obtain ⟨cs', h1, h2⟩ := h
  have hl : cs'.length = L.length * s.sz := h1.1
  have : cs' = s.cs L := by
    refine List.ext_getElem? fun i => ?_
    by_cases hi : i < L.length * s.sz
    · have hp := s.pos
      have hk : i / s.sz < L.length := (Nat.div_lt_iff_lt_mul hp).2 hi
      have hr : i % s.sz < s.sz := Nat.mod_lt _ hp
      have hdm : i / s.sz * s.sz + i % s.sz = i := by rw [Nat.mul_comm]; exact Nat.div_add_mod _ _
      have h3 := hR _ _ (h2 _ hk)
      have h4 := cs_get L (i / s.sz) hk (i % s.sz) hr
      rw [hdm] at h4
      rw [h4, ← h3, List.getElem?_take_of_lt hr, List.getElem?_drop, hdm]
    · rw [List.getElem?_eq_none (by omega), List.getElem?_eq_none (by rw [cs_len]; omega)]
  rw [this] at h1
  exact h1

/-- .. and is the call's own: it lies at the head of a block from `B` on. -/
def O (s : Sh α) (w : World) (B : Nat) (e : TypeId) (v : Value) (L : List α) : Prop := w.ownsRow B e s.sz v L.length (s.cs L)
theorem O.r (h : s.O w B e v L) : s.R w v L := Sl.of_owns h
theorem O.nil (s : Sh α) (w : World) (B : Nat) (e : TypeId) : s.O w B e (.slice none 0 0) [] := World.ownsRow_nil _ _ _ _
theorem O.fresh (s : Sh α) (w : World) (B : Nat) (e : TypeId) (h : B ≤ w.heap.size) : s.O (w.alloc (.cells #[] e)) B e (.slice (some ⟨w.heap.size, 0, none⟩) 0 0) [] := ownsRow_empty w _ _ _ h
theorem O.keepS {S : List Nat} (h : s.O w B e v L) (hk : Keeps S w w') (hS : ∀ b ∈ S, v.ownBlock ≠ some b) : s.O w' B e v L := by
  refine ⟨h.1, ?_⟩
  rcases h.2 with hn | ⟨g, cap, cur, rfl, hb, hg, rest⟩
  · exact .inl hn
  · exact .inr ⟨g, cap, cur, rfl, hb, (hk.block g (Array.getElem?_eq_some_iff.1 hg).1 (fun hm => hS g hm rfl)).trans hg, rest⟩
theorem O.keeps (h : s.O w B e v L) (hk : Keeps [] w w') : s.O w' B e v L := h.keepS hk (by simp)
theorem O.ge (h : s.O w B e v L) : ∀ b, v.ownBlock = some b → B ≤ b := ownBlock_ge h
theorem O.lt (h : s.O w B e v L) : ∀ b, v.ownBlock = some b → b < w.heap.size := fun b hb => (World.ownsRow.lt h b hb).2
theorem O.form (h : s.O w B e v L) : ∃ a c, v = .slice a L.length c := by obtain ⟨a, c, e, _⟩ := h.r.form; exact ⟨a, c, e⟩
/-- `append(v, v2...)`. -/
theorem wpl_app {P : Program} {ops : Array Oper} {rest : List Oper} {o : Oper} {a : Act} {Q : Exit → Act → World → Prop} (s : Sh α) (B : Nat) {e t : TypeId} {z : Value} {by_ : Nat} (hinf : (P.info? e).map (fun i => (i.zero, i.size, i.bytes)) = some (some z, s.sz, by_)) (hz : z.cells.size = s.sz) (ht : P.underlying t = some (.slice e))
    (v v2 : Value) (L M : List α) (hg : o.guard = none) (x y : Operand) (ho : o.op = .call { callee := .builtin .append, args := #[x, y], argTypes := #[t, t] }) (hs : a.eval x = v) (hx : a.eval y = v2) (h : s.O w B e v L) (hsl : s.R w v2 M)
    (hl : (L.length + M.length) * (by_ + 1) ≤ 140737488355328) (hB : B ≤ w.heap.size)
    (hK : ∀ v' w', s.O w' B e v' (L ++ M) → Grw w w' v v' → wpList P ops Q rest (a.put o.dst v') w') : wpList P ops Q (o :: rest) a w := by
  obtain ⟨i0, hi, hz0, hz1, hz2⟩ := info_parts hinf
  have h1 : L.length + M.length ≤ (L.length + M.length) * (by_ + 1) := Nat.le_mul_of_pos_right _ (by omega)
  have h2 : (L.length + M.length) * by_ ≤ (L.length + M.length) * (by_ + 1) := Nat.mul_le_mul_left _ (by omega)
  refine wpl_append_x hg x y _ ho B e i0 z s.sz by_ ht hi hz0 hz1 hz2 hz s.pos v L.length (s.cs L) hs h v2 M.length (s.cs M) hx hsl (cs_one M) (by unfold maxLen; omega) (by omega) hB ?_
  intro v' w' h1 h2 _
  refine hK v' w' ?_ h2
  unfold O
  rw [cs_append, List.length_append]
  exact h1
theorem wp_app {P : Program} {o : Oper} {a : Act} {K : Act → World → Prop} {Q : Exit → Act → World → Prop} (s : Sh α) (B : Nat) {e t : TypeId} {z : Value} {by_ : Nat} (hinf : (P.info? e).map (fun i => (i.zero, i.size, i.bytes)) = some (some z, s.sz, by_)) (hz : z.cells.size = s.sz) (ht : P.underlying t = some (.slice e))
    (v v2 : Value) (L M : List α) (x y : Operand) (ho : o.op = .call { callee := .builtin .append, args := #[x, y], argTypes := #[t, t] }) (hs : a.eval x = v) (hx : a.eval y = v2) (h : s.O w B e v L) (hsl : s.R w v2 M)
    (hl : (L.length + M.length) * (by_ + 1) ≤ 140737488355328) (hB : B ≤ w.heap.size)
    (hK : ∀ v' w', s.O w' B e v' (L ++ M) → Grw w w' v v' → K (a.put o.dst v') w') : o.wp P a w K Q := by
  obtain ⟨i0, hi, hz0, hz1, hz2⟩ := info_parts hinf
  have h1 : L.length + M.length ≤ (L.length + M.length) * (by_ + 1) := Nat.le_mul_of_pos_right _ (by omega)
  have h2 : (L.length + M.length) * by_ ≤ (L.length + M.length) * (by_ + 1) := Nat.mul_le_mul_left _ (by omega)
  refine wp_append_x x y _ ho B e i0 z s.sz by_ ht hi hz0 hz1 hz2 hz s.pos v L.length (s.cs L) hs h v2 M.length (s.cs M) hx hsl (cs_one M) (by unfold maxLen; omega) (by omega) hB ?_
  intro v' w' h1 h2 _
  refine hK v' w' ?_ h2
  unfold O
  rw [cs_append, List.length_append]
  exact h1
/-- What the growth of the call's own leaves. -/
theorem O.grew {W : World} (hk : Keeps [] W w) (h : s.O w B e v L) (hg : Grw w w' v v') (hB : W.heap.size ≤ B) : Keeps [] W w' := Grw.keeps hk hg (fun b hb => Nat.le_trans hB (h.ge b hb))
/-- One cell of one element is stored. -/
theorem cs_set : ∀ (L : List α) (k : Nat) (hk : k < L.length) (y : α) (j : Nat) (u : Value), (s.cf y) = (s.cf L[k]).set j u → j < s.sz → s.cs (L.set k y) = (s.cs L).set (k * s.sz + j) u
  | x :: t, 0, _, y, j, u, hy, hj => by
    simp only [List.set_cons_zero, cs, Nat.zero_mul, Nat.zero_add]
    rw [hy, List.set_append_left _ _ (by rw [s.len]; exact hj)]
    rfl
  | x :: t, k + 1, hk, y, j, u, hy, hj => by
    have := cs_set t k (by simpa using hk) y j u hy hj
    simp only [List.set_cons_succ, cs, this]
    rw [List.set_append_right _ _ (by rw [s.len, Nat.add_mul]; omega)]
    congr 2
    rw [s.len, Nat.add_mul]; omega
theorem O.set {g n c : Nat} (h : s.O w B e (.slice (some ⟨g, 0, none⟩) n c) L) {k : Nat} (hk : k < L.length) (y : α) (j : Nat) (u : Value) (hy : s.cf y = (s.cf L[k]).set j u) (hj : j < s.sz) (hu : u.oneCell' = true) :
    s.O (w.setCell ⟨g, k * s.sz + j, none⟩ u) B e (.slice (some ⟨g, 0, none⟩) n c) (L.set k y) := by
  rcases h with ⟨h1, ⟨h2, _⟩ | ⟨g', cap, cur, h2, hb, hg, h3, h4, h5, h6⟩⟩
  · cases h2
  · have hn : n = L.length := by simp at h2; exact h2.2.1
    subst hn
    cases h2
    have hkl : k * s.sz + j < L.length * s.sz := by
      have : (k + 1) * s.sz ≤ L.length * s.sz := Nat.mul_le_mul_right _ hk
      rw [Nat.add_mul] at this; omega
    refine ⟨by rw [cs_len], .inr ⟨g, c, cur.set! (k * s.sz + j) u, by simp, hb, ?_, by simpa using h3, h4, by simpa using h5, ?_⟩⟩
    · simp [World.setCell, Array.getElem?_modify, hg]
    · rw [cs_set L k hk y j u hy hj, ← h6, List.length_set]
      simp [List.take_set]
end Sh
end Go.Proofs.YtpobepninifenaaGreat

namespace Go.Proofs.YtpobepninifenaaGreat
namespace MapS
open Go Go.RowKit

/-- How the keys of a map type read. -/
structure KT (P : Program) (kt : TypeId) (κ : Type) where
  kv : κ → Value
  ok : κ → Prop
  law : Maps.Keyed P kt
  key : ∀ x, ok x → ∃ l, keyOf P kt (kv x) = some l
  inj : ∀ x y, kv x = kv y → x = y
variable {P : Program} {kt t e : TypeId} {κ : Type} [DecidableEq κ] {α : Type} (K : KT P kt κ) (vf : α → Value)
abbrev Es (κ α : Type) := List (κ × α)
def raw (v : Value) : Option (DataW Value × List MemPlace) := some (.held v, [])
def get (k : κ) : Es κ α → Option α
  | [] => none
  | (x, u) :: r => if x = k then some u else get k r
def del (k : κ) (L : Es κ α) : Es κ α := L.filter (fun p => !decide (p.1 = k))
def ND (L : Es κ α) : Prop := (L.map (·.1)).Nodup
variable {vf} {k x : κ} {v u : α} {L L2 : Es κ α}

theorem get_mem : ∀ {L : Es κ α}, get k L = some v → (k, v) ∈ L
  | [], h => by cases h
  | (x, u) :: r, h => by
    unfold get at h
    split at h
    · rename_i e; cases h; subst e; simp
    · exact List.mem_cons_of_mem _ (get_mem h)
theorem get_none : ∀ {L : Es κ α}, get k L = none ↔ ∀ p ∈ L, p.1 ≠ k
  | [] => by simp [get]
  | (x, u) :: r => by
    unfold get
    split
    · rename_i e; subst e; simp
    · rename_i e; rw [get_none (L := r)]; simp [e]
theorem get_of_mem : ∀ {L : Es κ α}, ND L → (k, v) ∈ L → get k L = some v
  | [], _, h => by simp at h
  | (x, u) :: r, ha, h => by
    obtain ⟨h1, h2⟩ := List.nodup_cons.1 ha
    unfold get
    rcases List.mem_cons.1 h with e | hm
    · cases e; simp
    · rw [if_neg (fun e => h1 (List.mem_map.2 ⟨_, hm, e.symm⟩))]
      exact get_of_mem h2 hm
theorem get_iff (h : ND L) : get k L = some v ↔ (k, v) ∈ L := ⟨get_mem, get_of_mem h⟩
theorem get_perm (h : ND L) (hp : L.Perm L2) : get k L2 = get k L := by
  have h' : ND L2 := (hp.map _).nodup_iff.1 h
  cases hg : get k L with
  | some v => exact (get_iff h').2 (hp.mem_iff.1 (get_mem hg))
  | none =>
    rw [get_none] at hg ⊢
    exact fun p hp' => hg p (hp.mem_iff.2 hp')
theorem get_append (j : κ) : ∀ {L N : Es κ α}, get j (L ++ N) = (get j L).or (get j N)
  | [], N => by simp [get]
  | (x, u) :: r, N => by
    simp only [List.cons_append, get]
    split
    · rfl
    · exact get_append j
theorem nd_snoc (h : ND L) (hn : get k L = none) (v : α) : ND (L ++ [(k, v)]) := by
  unfold ND at h ⊢
  rw [List.map_append, List.nodup_append]
  refine ⟨h, by simp, fun a ha b hb => ?_⟩
  simp at hb; subst hb
  obtain ⟨p, hp, rfl⟩ := List.mem_map.1 ha
  exact get_none.1 hn p hp
theorem get_del (j : κ) : ∀ {L : Es κ α}, get j (del k L) = if j = k then none else get j L
  | [] => by simp [del, get]
  | (x, u) :: r => by
    have ih := get_del j (L := r)
    unfold del at ih ⊢
    by_cases e : x = k
    · rw [List.filter_cons_of_neg (by simp [e]), ih]
      simp only [get]
      by_cases e2 : j = k
      · simp [e2]
      · rw [if_neg e2, if_neg e2, if_neg (by rw [e]; exact fun h => e2 h.symm)]
    · rw [List.filter_cons_of_pos (by simp [e])]
      simp only [get, ih]
      by_cases e2 : x = j
      · rw [if_pos e2, if_neg (by rw [← e2]; exact e), if_pos e2]
      · rw [if_neg e2, if_neg e2]
theorem nd_del (h : ND L) : ND (del k L) := List.Nodup.sublist (List.Sublist.map _ (List.filter_sublist)) h
theorem len_del : ∀ {L : Es κ α}, ND L → (del k L).length + (if (get k L).isSome then 1 else 0) = L.length
  | [], _ => by simp [del, get]
  | (x, u) :: r, h => by
    obtain ⟨h1, h2⟩ := List.nodup_cons.1 h
    have ih := len_del (L := r) h2
    unfold del at ih ⊢
    by_cases e : x = k
    · subst e
      have hn : get x r = none := get_none.2 (fun p hp e => h1 (List.mem_map.2 ⟨p, hp, e⟩))
      rw [hn] at ih
      rw [List.filter_cons_of_neg (by simp)]
      simp [get] at ih ⊢; omega
    · rw [List.filter_cons_of_pos (by simp [e])]
      simp only [get, if_neg e, List.length_cons]
      omega
/-- The datum answers as the list. -/
def Rep (K : KT P kt κ) (vf : α → Value) (D : DataW Value) (L : Es κ α) : Prop :=
  ∀ x l, keyOf P kt (K.kv x) = some l → match get x L with
    | none => Maps.has D l = false
    | some u => Maps.has D l = true ∧ ∀ z, D.atKey l z = .held (vf u)
variable {D : DataW Value}
theorem Rep.no (h : Rep K vf D L) {l : Lit} (hl : keyOf P kt (K.kv x) = some l) (hg : get x L = none) : Maps.has D l = false := by have := h x l hl; rw [hg] at this; exact this
theorem Rep.yes (h : Rep K vf D L) {l : Lit} (hl : keyOf P kt (K.kv x) = some l) (hg : get x L = some u) : Maps.has D l = true ∧ ∀ z, D.atKey l z = .held (vf u) := by have := h x l hl; rw [hg] at this; exact this
theorem Rep.hs (h : Rep K vf D L) {l : Lit} (hl : keyOf P kt (K.kv x) = some l) : Maps.has D l = (get x L).isSome := by
  cases hg : get x L with
  | none => rw [h.no K hl hg]; rfl
  | some u => rw [(h.yes K hl hg).1]; rfl
/-- .. and has no other keys. -/
def Dom (K : KT P kt κ) (f : Lit → Bool) (L : Es κ α) : Prop := ∀ l, f l = true → ∃ x, keyOf P kt (K.kv x) = some l ∧ (get x L).isSome = true
/-- The map in block `b` has the entries `L`. -/
structure M (K : KT P kt κ) (vf : α → Value) (w : World) (b : Nat) (L : Es κ α) : Prop where
  own : ∃ D, w.ownsMap P kt raw b L.length D ∧ Maps.size D = L.length ∧ Rep K vf D L ∧ Dom K (Maps.has D) L
  nd : ND L
  ok : ∀ p ∈ L, K.ok p.1
variable {w w' : World} {b : Nat}
theorem tight {n : Nat} {D : DataW Value} (h : w.ownsMap P kt raw b n D) : w.ownsMap P kt raw b (Maps.size D) D := by
  obtain ⟨es, c, hb, F, _, hD⟩ := h
  refine ⟨es, c, hb, F, ?_, hD⟩
  have := congrArg Maps.size hD
  simp only [Maps.size, length_sorted, List.length_map, Array.length_toList] at this
  simp only [Maps.size]
  omega
theorem M.made (w : World) : M K vf (w.alloc (.map #[] 0)) w.heap.size [] :=
  ⟨⟨.map [], World.ownsMap_made w _ _ _, rfl, fun x l _ => rfl, fun l h => by simp [Maps.has] at h⟩, List.Pairwise.nil, by simp⟩
theorem M.kept {S : List Nat} (h : M K vf w b L) (hk : Keeps S w w') (hS : b ∉ S) : M K vf w' b L := by
  obtain ⟨⟨D, ⟨es, clock, hb, F, hs, hD⟩, h2, h3⟩, ha, hw⟩ := h
  exact ⟨⟨D, ⟨es, clock, (hk.block b (Array.getElem?_eq_some_iff.1 hb).1 hS).trans hb, F, hs, hD⟩, h2, h3⟩, ha, hw⟩
theorem M.keeps (h : M K vf w b L) (hk : Keeps [] w w') : M K vf w' b L := h.kept K hk (by simp)
theorem M.lt (h : M K vf w b L) : b < w.heap.size := by obtain ⟨⟨D, h, _⟩, _⟩ := h; exact h.lt
section
variable (ht : P.underlying t = some (.map kt e)) (z : Value) (hz : ∀ w, (zeroValue e).run P w = .ok z w)
include ht hz
theorem M.look (h : M K vf w b L) (hk : K.ok k) : (Instr.lookup t (.map (some b)) (K.kv k) false).run P w = .ok (((get k L).map vf).getD z) w := by
  obtain ⟨⟨D, h1, h2, h3, h4⟩, hn, ho⟩ := h
  obtain ⟨l, hl⟩ := K.key k hk
  obtain ⟨v, ps, hrun, hv⟩ := h1.lookup K.law ht (hz w) (zd := .held z) (zp := []) rfl hl
  simp only [raw, Option.some.injEq, Prod.mk.injEq] at hv
  rw [hrun]
  congr 1
  cases hg : get k L with
  | none =>
    rw [Maps.atKey_of_not_has (h3.no K hl hg)] at hv
    have := hv.1; cases this; rfl
  | some u =>
    rw [(h3.yes K hl hg).2] at hv
    have := hv.1; cases this; rfl
theorem M.look_ok (h : M K vf w b L) (hk : K.ok k) : (Instr.lookup t (.map (some b)) (K.kv k) true).run P w = .ok (.tuple #[((get k L).map vf).getD z, .bool (get k L).isSome]) w := by
  obtain ⟨⟨D, h1, h2, h3, h4⟩, hn, ho⟩ := h
  obtain ⟨l, hl⟩ := K.key k hk
  obtain ⟨v, ps, hrun, hv⟩ := World.ownsMap.look_ok h1 K.law ht (hz w) (zd := .held z) (zp := []) rfl hl
  simp only [raw, Option.some.injEq, Prod.mk.injEq] at hv
  rw [hrun, h3.hs K hl]
  cases hg : get k L with
  | none =>
    rw [Maps.atKey_of_not_has (h3.no K hl hg)] at hv
    have := hv.1; cases this; rfl
  | some u =>
    rw [(h3.yes K hl hg).2] at hv
    have := hv.1; cases this; rfl
omit hz in
theorem store (h : M K vf w b L) (hk : K.ok k) (hn : L.length < maxLen) (v : α) :
    ∃ w' D, (Instr.mapUpdate t (.map (some b)) (K.kv k) (vf v)).run P w = .ok () w' ∧ w'.ownsMap P kt raw b (Maps.size D) D ∧ Maps.size D = (if (get k L).isSome then L.length else L.length + 1) ∧
      (∀ x l, keyOf P kt (K.kv x) = some l → match (if x = k then some v else get x L) with | none => Maps.has D l = false | some u => Maps.has D l = true ∧ ∀ z, D.atKey l z = .held (vf u)) ∧ (∀ l, Maps.has D l = true → keyOf P kt (K.kv k) = some l ∨ ∃ x, keyOf P kt (K.kv x) = some l ∧ (get x L).isSome = true) ∧ Keeps [b] w w' := by
  obtain ⟨⟨D, h1, h2, h3, h4⟩, hnd, ho⟩ := h
  obtain ⟨l, hl⟩ := K.key k hk
  obtain ⟨w', hrun, hown', htu⟩ := h1.store K.law ht hn hl (d := .held (vf v)) (ps := []) rfl
  refine ⟨w', _, hrun, tight hown', ?_, fun x l' hl' => ?_, fun l' hl' => ?_, Keeps.of_grown htu.grown⟩
  · rw [Maps.size_put (h1.tidy K.law), h3.hs K hl, h2]
  · by_cases e : x = k
    · subst e
      rw [hl] at hl'; cases hl'
      rw [if_pos rfl]
      exact ⟨Maps.has_put_same h1.isMap (K.law.key hl) _, fun z => Maps.atKey_put_same h1.isMap (K.law.key hl) _ _⟩
    · have hne : l' ≠ l := fun e' => by subst e'; exact e (K.inj _ _ (K.law.inj hl' hl))
      rw [if_neg e, Maps.has_put_other hne]
      have := h3 x l' hl'
      cases hg : get x L with
      | none => rw [hg] at this; exact this
      | some u => rw [hg] at this; exact ⟨this.1, fun z => (Maps.atKey_put_other hne _ _).trans (this.2 z)⟩
  · by_cases e : l' = l
    · subst e; exact .inl hl
    · rw [Maps.has_put_other e] at hl'
      exact .inr (h4 l' hl')
omit hz in
/-- A new key. -/
theorem M.putNew (h : M K vf w b L) (hk : K.ok k) (hg : get k L = none) (hn : L.length < maxLen) (v : α) :
    ∃ w', (Instr.mapUpdate t (.map (some b)) (K.kv k) (vf v)).run P w = .ok () w' ∧ M K vf w' b (L ++ [(k, v)]) ∧ Keeps [b] w w' := by
  obtain ⟨w', D, hr, ho, hs, hR, hdm, hkp⟩ := store K ht h hk hn v
  rw [hg] at hs
  have hs' : Maps.size D = (L ++ [(k, v)]).length := by simpa using hs
  have e2 : ∀ x, get x (L ++ [(k, v)]) = if x = k then some v else get x L := fun x => by
    rw [get_append (κ := κ)]
    by_cases e : x = k
    · subst e; rw [hg]; simp [get]
    · rw [if_neg e]; have e' : ¬ k = x := fun h => e h.symm
      simp [get, e']
  refine ⟨w', hr, ⟨⟨D, hs' ▸ ho, hs', fun x l hl => ?_, fun l hl => ?_⟩, nd_snoc h.nd hg v, fun p hp => ?_⟩, hkp⟩
  · have := hR x l hl
    rw [e2]; exact this
  · rcases hdm l hl with h1 | ⟨x, h1, h2⟩
    · exact ⟨k, h1, by rw [e2, if_pos rfl]; rfl⟩
    · refine ⟨x, h1, ?_⟩
      rw [e2]; split
      · rfl
      · exact h2
  · rcases List.mem_append.1 hp with hp | hp
    · exact h.ok p hp
    · simp at hp; subst hp; exact hk
omit hz in
theorem M.drop (h : M K vf w b L) (hk : K.ok k) (ty : TypeId) :
    ∃ w', (Builtin.delete_ #[t, kt] ty #[.map (some b), K.kv k]).run P w = .ok (.tuple #[]) w' ∧ M K vf w' b (del k L) ∧ Keeps [b] w w' := by
  obtain ⟨⟨D, h1, h2, h3, h4⟩, hnd, ho⟩ := h
  obtain ⟨l, hl⟩ := K.key k hk
  obtain ⟨w', hrun, hown', htu⟩ := h1.drop K.law ht hl ty
  have hsd := Maps.size_del (k := l) (h1.tidy K.law)
  rw [h3.hs K hl, h2] at hsd
  have hld := len_del (k := k) hnd
  have hs' : Maps.size (D.del l) = (del k L).length := by omega
  refine ⟨w', hrun, ⟨⟨_, hs' ▸ tight hown', hs', fun x l' hl' => ?_, fun l' hl' => ?_⟩, nd_del hnd, fun p hp => ho p (List.mem_filter.1 hp).1⟩, Keeps.of_grown htu.grown⟩
  rotate_left
  · by_cases e : l' = l
    · subst e; rw [Maps.has_del_same] at hl'; cases hl'
    · rw [Maps.has_del_other e] at hl'
      obtain ⟨x, h5, h6⟩ := h4 l' hl'
      exact ⟨x, h5, by rw [get_del, if_neg (fun e' => by subst e'; rw [hl] at h5; cases h5; exact e rfl)]; exact h6⟩
  rw [get_del]
  by_cases e : x = k
  · subst e
    rw [hl] at hl'; cases hl'
    rw [if_pos rfl]
    exact Maps.has_del_same
  · have hne : l' ≠ l := fun e' => by subst e'; exact e (K.inj _ _ (K.law.inj hl' hl))
    rw [if_neg e, Maps.has_del_other hne]
    have := h3 x l' hl'
    cases hg : get x L with
    | none => rw [hg] at this; exact this
    | some u => rw [hg] at this; exact ⟨this.1, fun z => (Maps.atKey_del_other hne _).trans (this.2 z)⟩
omit hz in
theorem M.len (h : M K vf w b L) (ty : TypeId) : (Builtin.len_ #[t] ty #[.map (some b)]).run P w = .ok (.int .i64 L.length) w := by
  obtain ⟨⟨D, h1, h2, h3, h4⟩, _⟩ := h
  rw [h1.len ht ty, h2]
end
/-- An iteration over the map: `rest` is still to come. -/
structure Rg (K : KT P kt κ) (vf : α → Value) (w : World) (b r : Nat) (L rest : Es κ α) : Prop where
  ex : ∃ n D left cnt, w.ranges P kt raw b r n D left cnt ∧ Rep K vf D L ∧ (∀ x l, keyOf P kt (K.kv x) = some l → left l = (get x rest).isSome) ∧ Dom K left rest
  nd : ND L
  nr : ND rest
  sub : ∀ p ∈ rest, p ∈ L
  ok : ∀ p ∈ L, K.ok p.1
section
variable {ops : Array Oper} {rest : List Oper} {o : Oper} {a : Act} {Q : Exit → Act → World → Prop}
theorem wpl_range (hg : o.guard = none) (m : Operand) (hop : o.op = Op.range t m) (ht : P.underlying t = some (.map kt e)) (hm : a.eval m = .map (some b)) (h : M K vf w b L)
    (hK : ∀ w', Rg K vf w' b w.heap.size L L → w.grownBy w' none → w'.heap.size = w.heap.size + 1 → wpList P ops Q rest (a.put o.dst (.pointer (some ⟨w.heap.size, 0, none⟩))) w') : wpList P ops Q (o :: rest) a w := by
  obtain ⟨⟨D, h1, h2, h3, h4⟩, hnd, ho⟩ := h
  refine wpList_range_own w hg m t hop kt e K.law ht raw b L.length D hm h1 (fun w' hr hg2 hs => hK w' ⟨⟨_, _, _, _, hr, h3, fun x l hl => h3.hs K hl, h4⟩, hnd, hnd, fun _ h => h, ho⟩ hg2 hs)
theorem wpl_next (hg : o.guard = none) (it : Operand) (hop : o.op = Op.next it false) {r : Nat} {R : Es κ α} (hit : a.eval it = .pointer (some ⟨r, 0, none⟩)) (h : Rg K vf w b r L R)
    (hDone : R = [] → wpList P ops Q rest (a.put o.dst (.tuple #[.bool false])) w)
    (hMore : ∀ (x : κ) (u : α) (R' : Es κ α) (w' : World), K.ok x → get x L = some u → (x, u) ∈ R → R.Perm ((x, u) :: R') → Rg K vf w' b r L R' → w.grownBy w' (some r) → w'.heap.size = w.heap.size →
      (Instr.entry (.pointer (some ⟨r, 0, none⟩))).run P w' = .ok (.tuple #[K.kv x, vf u]) w' → wpList P ops Q rest (a.put o.dst (.tuple #[.bool true, K.kv x, vf u])) w') : wpList P ops Q (o :: rest) a w := by
  obtain ⟨⟨n, D, left, cnt, hr, hR, hl, hdm⟩, hnd, hnr, hsub, hok⟩ := h
  refine wpList_next_ranges w hg it hop kt K.law raw id id (fun key _ _ => ⟨key, rfl⟩) (fun v _ _ => ⟨v, rfl⟩) b r n D left cnt hit hr ?_ ?_
  · intro _ h0
    refine hDone ?_
    cases R with
    | nil => rfl
    | cons p t =>
      obtain ⟨l, hl'⟩ := K.key p.1 (hok p (hsub p (by simp)))
      have := hl p.1 l hl'
      rw [h0 l] at this
      simp [get] at this
  · intro key c kl y w' cnt' hkey hlk hv hat hr' _ hg2 hs hen
    obtain ⟨x, hkx, _⟩ := hdm kl hlk
    obtain rfl : key = K.kv x := K.law.inj hkey hkx
    replace hkey := hkx
    have hlx := hl x kl hkey
    rw [hlk] at hlx
    obtain ⟨u, hu⟩ := Option.isSome_iff_exists.1 hlx.symm
    have hum := get_mem hu
    have hgL := get_of_mem hnd (hsub _ hum)
    have hc : c = vf u := by
      simp only [raw, id, Option.some.injEq] at hv
      have h1 := hat (.held c)
      rw [(hR.yes K hkey hgL).2] at h1
      rw [← hv] at h1
      cases h1; rfl
    subst hc
    have hp : R.Perm ((x, u) :: del x R) := by
      have hnk : ∀ {S : Es κ α}, ND S → (x, u) ∈ S → S.Perm ((x, u) :: del x S) := by
        intro S
        induction S with
        | nil => intro _ h; simp at h
        | cons q s ih =>
          intro hn hm
          obtain ⟨n1, n2⟩ := List.nodup_cons.1 hn
          rcases List.mem_cons.1 hm with rfl | hm
          · have hself : del x s = s := List.filter_eq_self.2 (fun p hp => by
              have : p.1 ≠ x := fun e => n1 (List.mem_map.2 ⟨p, hp, e⟩)
              simp [this])
            have : del x ((x, u) :: s) = s := by
              unfold del at hself ⊢
              rw [List.filter_cons_of_neg (by simp)]; exact hself
            rw [this]
          · have hqx : q.1 ≠ x := fun e => n1 (List.mem_map.2 ⟨(x, u), hm, e.symm⟩)
            have : del x (q :: s) = q :: del x s := by unfold del; rw [List.filter_cons_of_pos (by simp [hqx])]
            rw [this]
            exact ((ih n2 hm).cons q).trans (List.Perm.swap _ _ _)
      exact hnk hnr hum
    refine hMore x u (del x R) w' ?_ hgL hum hp ⟨⟨n, D, _, cnt', hr', hR, fun z l hz => ?_, fun l hl' => ?_⟩, hnd, nd_del hnr, fun p hm => hsub p (List.mem_filter.1 hm).1, hok⟩ hg2 hs hen
    · exact hok _ (hsub _ hum)
    · show (left l && !l.sameKey kl) = _
      rw [get_del]
      by_cases e : z = x
      · subst e
        rw [hkey] at hz; cases hz
        rw [if_pos rfl]
        simp [WideAt.sameKey_self (K.law.key hkey)]
      · have hne : l ≠ kl := fun e' => by subst e'; exact e (K.inj _ _ (K.law.inj hz hkey))
        rw [if_neg e, hl z l hz]
        simp [Maps.sameKey_ne hne]
    · simp only [Bool.and_eq_true, Bool.not_eq_true'] at hl'
      obtain ⟨z, h5, h6⟩ := hdm l hl'.1
      refine ⟨z, h5, ?_⟩
      rw [get_del, if_neg (fun e => ?_)]
      · exact h6
      · subst e
        rw [hkey] at h5; cases h5
        rw [WideAt.sameKey_self (K.law.key hkey)] at hl'
        cases hl'.2
end
end MapS
end Go.Proofs.YtpobepninifenaaGreat

namespace Go.Proofs.YtpobepninifenaaGreat
open Go.RowKit

theorem own : ownKnob Tryz.prog.godebug = none := by kernel_rfl
theorem laidOut : laidOutB Tryz.prog = true := by kernel_rfl
abbrev W64 (x : Int) : Prop := (Lit.int .i64 x).wf = true
theorem w64_iff {x : Int} : W64 x ↔ -9223372036854775808 ≤ x ∧ x ≤ 9223372036854775807 := by simp [W64, Lit.wf, IntKind.min, IntKind.max, IntKind.signed, IntKind.bits]
/-- A question: machine, owner, number. -/
abbrev Qn := Int × Int × Nat
/-- A need (Peer, Number, Stamp), an entry of an inset (Client, Number, Out). -/
abbrev T3 := Int × Nat × Int
abbrev tQ : Nat := 156
abbrev tN : Nat := 53
abbrev tI : Nat := 154
abbrev tA : Nat := 37
abbrev tC : Nat := 90
abbrev tT : Nat := 117
def shQ : Sh Qn := ⟨3, fun x => [.int .i64 x.1, .int .i64 x.2.1, .int .u64 x.2.2], fun _ => rfl, by decide, fun x u hu => by simp at hu; rcases hu with rfl | rfl | rfl <;> rfl⟩
def shT : Sh T3 := ⟨3, fun x => [.int .i64 x.1, .int .u64 x.2.1, .int .i64 x.2.2], fun _ => rfl, by decide, fun x u hu => by simp at hu; rcases hu with rfl | rfl | rfl <;> rfl⟩
def shZ : Sh Int := ⟨1, fun x => [.int .i64 x], fun _ => rfl, by decide, fun x u hu => by simp at hu; subst hu; rfl⟩
/-- An answer as its cells: the inset is a slice. -/
structure AnV where
  m : Int
  ow : Int
  n : Nat
  ep : Int
  kn : Bool
  rt : Bool
  lu : Int
  a : Option Addr
  k : Nat
  c : Nat
def AnV.v (x : AnV) : Value := .slice x.a x.k x.c
def AnV.cs (x : AnV) : List Value := [.int .i64 x.m, .int .i64 x.ow, .int .u64 x.n, .int .i64 x.ep, .bool x.kn, .bool x.rt, .int .i64 x.lu, x.v]
def shA : Sh AnV := ⟨8, AnV.cs, fun _ => rfl, by decide, fun x u hu => by simp [AnV.cs, AnV.v] at hu; rcases hu with rfl | rfl | rfl | rfl | rfl | rfl | rfl | rfl <;> rfl⟩
/-- A claim as its cells. -/
structure ClV where
  m : Int
  ep : Int
  v1 : Option Addr × Nat × Nat
  v2 : Option Addr × Nat × Nat
  v3 : Option Addr × Nat × Nat
abbrev slv (x : Option Addr × Nat × Nat) : Value := .slice x.1 x.2.1 x.2.2
def ClV.cs (x : ClV) : List Value := [.int .i64 x.m, .int .i64 x.ep, slv x.v1, slv x.v2, slv x.v3]
def shC : Sh ClV := ⟨5, ClV.cs, fun _ => rfl, by decide, fun x u hu => by simp [ClV.cs] at hu; rcases hu with rfl | rfl | rfl | rfl | rfl <;> rfl⟩
abbrev qV (x : Qn) : Value := .agg #[.int .i64 x.1, .int .i64 x.2.1, .int .u64 x.2.2]
abbrev tV (x : T3) : Value := .agg #[.int .i64 x.1, .int .u64 x.2.1, .int .i64 x.2.2]
def aV (x : AnV) : Value := .agg #[.int .i64 x.m, .int .i64 x.ow, .int .u64 x.n, .int .i64 x.ep, .bool x.kn, .bool x.rt, .int .i64 x.lu, x.v]
def AnV.zero : AnV := ⟨0, 0, 0, 0, false, false, 0, none, 0, 0⟩
theorem infoQ : (Tryz.prog.info? tQ).map (fun i => (i.zero, i.size, i.bytes)) = some (some (qV (0, 0, 0)), 3, 24) := by kernel_rfl
theorem infoN : (Tryz.prog.info? tN).map (fun i => (i.zero, i.size, i.bytes)) = some (some (tV (0, 0, 0)), 3, 24) := by kernel_rfl
theorem infoI : (Tryz.prog.info? tI).map (fun i => (i.zero, i.size, i.bytes)) = some (some (tV (0, 0, 0)), 3, 24) := by kernel_rfl
theorem infoA : (Tryz.prog.info? tA).map (fun i => (i.zero, i.size, i.bytes)) = some (some (aV .zero), 8, 72) := by kernel_rfl
theorem infoC : (Tryz.prog.info? tC).map (fun i => (i.zero, i.size, i.bytes)) = some (some (.agg #[.int .i64 0, .int .i64 0, .slice none 0 0, .slice none 0 0, .slice none 0 0]), 5, 88) := by kernel_rfl
theorem infoZ : (Tryz.prog.info? 3).map (fun i => (i.zero, i.size, i.bytes)) = some (some (.int .i64 0), 1, 8) := by kernel_rfl
theorem zeroA (w : World) : (zeroValue tA).run Tryz.prog w = .ok (aV .zero) w := by kernel_rfl
/-- The map's keys. -/
def qOk (x : Qn) : Prop := W64 x.1 ∧ W64 x.2.1 ∧ x.2.2 < 18446744073709551616
theorem w64u {n : Nat} (h : n < 18446744073709551616) : (Lit.int .u64 (n : Int)).wf = true := by simp [Lit.wf, IntKind.min, IntKind.max, IntKind.signed, IntKind.bits]; omega
theorem qLaw : WideMaps.KeyLaw Tryz.prog tQ := deep_law_laid laidOut (m := 4) (by omega) (of_decide_eq_true (by kernel_rfl)) (by kernel_rfl) (by rw [Tryz.underlying156])
theorem q_key (x : Qn) (h : qOk x) : ∃ l, keyOf Tryz.prog tQ (qV x) = some l := by
  obtain ⟨m, o, n⟩ := x
  obtain ⟨hm, ho, hn⟩ := h
  simp only at hm ho hn
  obtain ⟨d, hd⟩ : ∃ d, Tryz.prog.types.size = d + 2 := ⟨Tryz.prog.types.size - 2, by have : 2 ≤ Tryz.prog.types.size := of_decide_eq_true (by kernel_rfl); omega⟩
  have h1 : Tryz.prog.keyType tQ = true := by kernel_rfl
  have h2 : (qV (m, o, n)).formed Tryz.prog tQ = true := by kernel_rfl
  have c1 : Tryz.prog.cellsOf tQ = 3 := by kernel_rfl
  have c3 : Tryz.prog.cellsOf 3 = 1 := by kernel_rfl
  have c4 : Tryz.prog.cellsOf 34 = 1 := by kernel_rfl
  unfold keyOf
  simp only [Tryz.underlying156, h1, h2, hd, Bool.and_self, if_true]
  have hk : Tryz.prog.keyLits (d + 2 + 1) tQ (qV (m, o, n)).cells.toList = some [.int .i64 m, .int .i64 o, .int .u64 n] := by
    have wm : (Lit.int .i64 m).wf = true := hm
    have wo : (Lit.int .i64 o).wf = true := ho
    have wn := w64u hn
    simp [Program.keyLits, Tryz.underlying156, Tryz.underlying3, Tryz.underlying34, c1, c3, c4, Value.cells, wm, wo, wn]
  rw [hk]
  exact ⟨_, rfl⟩
def ktQ : MapS.KT Tryz.prog tQ Qn := ⟨qV, qOk, Maps.Keyed.of_law qLaw, q_key, fun x y h => by
  obtain ⟨a, b, c⟩ := x
  obtain ⟨a', b', c'⟩ := y
  simp [qV] at h
  obtain ⟨h1, h2, h3⟩ := h
  rw [h1, h2, show c = c' by omega]⟩
theorem eqQ0 (w : World) (x0 : Int) (x1 : Int) (x2 : Int) (y0 : Int) (y1 : Int) (y2 : Int) : (Op.equalIn 10000 tQ (.agg #[.int .i64 x0, .int .i64 x1, .int .u64 x2]) (.agg #[.int .i64 y0, .int .i64 y1, .int .u64 y2])).run Tryz.prog w = .ok (x0 == y0 && x1 == y1 && x2 == y2) w := by
  have h1 : Tryz.prog.underlying tQ = some (.struct (Tryz.prog.fieldsOf tQ)) := by kernel_rfl
  have h2 : Tryz.prog.stoodInHeld tQ = false := by kernel_rfl
  have h3 : (Tryz.prog.fieldsOf tQ).toList.map (fun f => (f.name != "_", f.type, f.offset)) = [(true, 3, 0), (true, 3, 1), (true, 34, 2)] := by kernel_rfl
  obtain ⟨f0, f1, f2, hf⟩ : ∃ f0 f1 f2, (Tryz.prog.fieldsOf tQ).toList = [f0, f1, f2] := by
    generalize (Tryz.prog.fieldsOf tQ).toList = l at h3
    have hl := congrArg List.length h3
    simp only [List.length_map, List.length_cons, List.length_nil] at hl
    match l, hl with
    | [f0, f1, f2], _ => exact ⟨f0, f1, f2, rfl⟩
  rw [hf] at h3
  simp only [List.map_cons, List.map_nil, List.cons.injEq, Prod.mk.injEq, and_true, bne_iff_ne, ne_eq] at h3
  obtain ⟨⟨n0, t0, o0⟩, ⟨n1, t1, o1⟩, n2, t2, o2⟩ := h3
  rw [run_equalIn_agg w 9999 _ _ _ h1 h2, hf]
  have p0 : ∀ (x0 : Int) (x1 : Int) (x2 : Int) (w : World), (part 3 #[.int .i64 x0, .int .i64 x1, .int .u64 x2] 0).run Tryz.prog w = .ok (.int .i64 x0) w := fun x0 x1 x2 w => by kernel_rfl
  have p1 : ∀ (x0 : Int) (x1 : Int) (x2 : Int) (w : World), (part 3 #[.int .i64 x0, .int .i64 x1, .int .u64 x2] 1).run Tryz.prog w = .ok (.int .i64 x1) w := fun x0 x1 x2 w => by kernel_rfl
  have p2 : ∀ (x0 : Int) (x1 : Int) (x2 : Int) (w : World), (part 34 #[.int .i64 x0, .int .i64 x1, .int .u64 x2] 2).run Tryz.prog w = .ok (.int .u64 x2) w := fun x0 x1 x2 w => by kernel_rfl
  have e_int : ∀ (x y : Int) (w : World), (Op.equalIn 9999 3 (.int .i64 x) (.int .i64 y)).run Tryz.prog w = .ok (x == y) w := fun x y w => run_equalIn_int w 9998 _ _ _ x y Tryz.underlying3
  have e_u64 : ∀ (x y : Int) (w : World), (Op.equalIn 9999 34 (.int .u64 x) (.int .u64 y)).run Tryz.prog w = .ok (x == y) w := fun x y w => run_equalIn_int w 9998 _ _ _ x y Tryz.underlying34
  simp only [Op.eqFields, n0, t0, o0, n1, t1, o1, n2, t2, o2, ne_eq, not_false_eq_true, if_true, Sem.run_bind, p0, p1, p2, e_int, e_u64, Result.andThen]
  cases b0 : (x0 == y0)
  · simp [p0, p1, p2, e_int, e_u64, b0]
  · cases b1 : (x1 == y1)
    · simp [p0, p1, p2, e_int, e_u64, b0, b1]
    · cases b2 : (x2 == y2)
      · simp [p0, p1, p2, e_int, e_u64, b0, b1, b2]
      · simp [p0, p1, p2, e_int, e_u64, b0, b1, b2]
end Go.Proofs.YtpobepninifenaaGreat

namespace Go.Proofs.YtpobepninifenaaGreat
open Go.RowKit

theorem lt_of_blk {w : World} {b : Nat} {o : Obj} (h : w.heap[b]? = some o) : b < w.heap.size := (Array.getElem?_eq_some_iff.1 h).1
theorem cells3t {w : World} {b : Nat} {x0 x1 x2 : Value} {t : TypeId} {f : Nat × Nat} (h : w.heap[b]? = some (.cells #[x0, x1, x2] t f)) : w.cell? ⟨b, 0, none⟩ = some x0 ∧ w.cell? ⟨b, 1, none⟩ = some x1 ∧ w.cell? ⟨b, 2, none⟩ = some x2 :=
  ⟨by simp [World.cell?, h], by simp [World.cell?, h], by simp [World.cell?, h]⟩
theorem eqN0 (w : World) (x0 : Int) (x1 : Int) (x2 : Int) (y0 : Int) (y1 : Int) (y2 : Int) : (Op.equalIn 10000 tN (.agg #[.int .i64 x0, .int .u64 x1, .int .i64 x2]) (.agg #[.int .i64 y0, .int .u64 y1, .int .i64 y2])).run Tryz.prog w = .ok (x0 == y0 && x1 == y1 && x2 == y2) w := by
  have h1 : Tryz.prog.underlying tN = some (.struct (Tryz.prog.fieldsOf tN)) := by kernel_rfl
  have h2 : Tryz.prog.stoodInHeld tN = false := by kernel_rfl
  have h3 : (Tryz.prog.fieldsOf tN).toList.map (fun f => (f.name != "_", f.type, f.offset)) = [(true, 3, 0), (true, 34, 1), (true, 3, 2)] := by kernel_rfl
  obtain ⟨f0, f1, f2, hf⟩ : ∃ f0 f1 f2, (Tryz.prog.fieldsOf tN).toList = [f0, f1, f2] := by
    generalize (Tryz.prog.fieldsOf tN).toList = l at h3
    have hl := congrArg List.length h3
    simp only [List.length_map, List.length_cons, List.length_nil] at hl
    match l, hl with
    | [f0, f1, f2], _ => exact ⟨f0, f1, f2, rfl⟩
  rw [hf] at h3
  simp only [List.map_cons, List.map_nil, List.cons.injEq, Prod.mk.injEq, and_true, bne_iff_ne, ne_eq] at h3
  obtain ⟨⟨n0, t0, o0⟩, ⟨n1, t1, o1⟩, n2, t2, o2⟩ := h3
  rw [run_equalIn_agg w 9999 _ _ _ h1 h2, hf]
  have p0 : ∀ (x0 : Int) (x1 : Int) (x2 : Int) (w : World), (part 3 #[.int .i64 x0, .int .u64 x1, .int .i64 x2] 0).run Tryz.prog w = .ok (.int .i64 x0) w := fun x0 x1 x2 w => by kernel_rfl
  have p1 : ∀ (x0 : Int) (x1 : Int) (x2 : Int) (w : World), (part 34 #[.int .i64 x0, .int .u64 x1, .int .i64 x2] 1).run Tryz.prog w = .ok (.int .u64 x1) w := fun x0 x1 x2 w => by kernel_rfl
  have p2 : ∀ (x0 : Int) (x1 : Int) (x2 : Int) (w : World), (part 3 #[.int .i64 x0, .int .u64 x1, .int .i64 x2] 2).run Tryz.prog w = .ok (.int .i64 x2) w := fun x0 x1 x2 w => by kernel_rfl
  have e_int : ∀ (x y : Int) (w : World), (Op.equalIn 9999 3 (.int .i64 x) (.int .i64 y)).run Tryz.prog w = .ok (x == y) w := fun x y w => run_equalIn_int w 9998 _ _ _ x y Tryz.underlying3
  have e_u64 : ∀ (x y : Int) (w : World), (Op.equalIn 9999 34 (.int .u64 x) (.int .u64 y)).run Tryz.prog w = .ok (x == y) w := fun x y w => run_equalIn_int w 9998 _ _ _ x y Tryz.underlying34
  simp only [Op.eqFields, n0, t0, o0, n1, t1, o1, n2, t2, o2, ne_eq, not_false_eq_true, if_true, Sem.run_bind, p0, p1, p2, e_int, e_u64, Result.andThen]
  cases b0 : (x0 == y0)
  · simp [p0, p1, p2, e_int, e_u64, b0]
  · cases b1 : (x1 == y1)
    · simp [p0, p1, p2, e_int, e_u64, b0, b1]
    · cases b2 : (x2 == y2)
      · simp [p0, p1, p2, e_int, e_u64, b0, b1, b2]
      · simp [p0, p1, p2, e_int, e_u64, b0, b1, b2]
theorem eqQ (w : World) (x y : Qn) : (binOp .eql tQ (qV x) (qV y)).run Tryz.prog w = .ok (.bool (decide (x = y))) w := by
  obtain ⟨a, b, c⟩ := x
  obtain ⟨a', b', c'⟩ := y
  rw [run_eql_struct, eqQ0, Result.andThen_ok]
  congr 2
  rw [Bool.eq_iff_iff]
  simp
  omega
set_option maxRecDepth 100000 in
set_option maxHeartbeats 2000000 in
theorem indexQ_c (w : World) (v : Value) (L : List Qn) (q : Qn) (h : shQ.R w v L) :
    Calls Tryz.prog 119 #[v, qV q] w fun e w' => ∃ i : Int, e = .returned (.int .i64 i) ∧ (q ∈ L → 0 ≤ i) ∧ (q ∉ L → i = -1) ∧ Keeps [] w w' := by
  obtain ⟨a, c, rfl, hlc, hcm, _⟩ := h.form
  have hel := fun k hk => h.elem (k := k) hk
  obtain ⟨M, hM⟩ : ∃ N, L.length = N := ⟨_, rfl⟩
  rw [hM] at hlc ⊢
  have hMm : M ≤ 9223372036854775807 := by unfold maxLen at hcm; omega
  obtain ⟨q0, q1, q2⟩ := q
  have hkA : Keeps [] w (w.alloc (.cells #[.int .i64 q0, .int .i64 q1, .int .u64 (q2 : Nat)] tQ)) := (Keeps.refl _ _).alloc _
  have hb0 := heap_alloc_new w (.cells #[.int .i64 q0, .int .i64 q1, .int .u64 (q2 : Nat)] tQ)
  replace hel := Lib.hid hel
  replace hM := Lib.hid hM
  replace hkA := Lib.hid hkA
  replace hb0 := Lib.hid hb0
  clear h
  go_enter Tryz.func119, Tryz.ntmps119
  go_wp2
  generalize (w.alloc (.cells #[.int .i64 q0, .int .i64 q1, .int .u64 (q2 : Nat)] tQ)) = W at *
  obtain ⟨X, hX⟩ : ∃ X, w.heap.size = X := ⟨_, rfl⟩
  rw [hX] at hb0 ⊢
  replace hX := Lib.hid hX
  go_loopw [8, 5] (fun i _ wr => ∃ k : Nat, i = .int .i64 k ∧ k ≤ M ∧ (∀ j (hj : j < L.length), j < k → L[j] ≠ (q0, q1, q2)) ∧ Keeps [] W wr) (fun i _ _ => M - (intOf i).toNat)
  case atStart => exact ⟨0, rfl, by omega, fun _ _ h => by omega, Keeps.refl _ _⟩
  case round =>
    obtain ⟨k, rfl, hk, hno, hkW⟩ := hrel
    obtain ⟨y0, y1, y2⟩ := cells3t ((hkW.block _ (lt_of_blk hb0.out) (by simp)).trans hb0.out)
    have hkw := hkA.out.trans hkW
    replace hno := Lib.hid hno
    replace hkW := Lib.hid hkW
    by_cases hlt : k < M
    · obtain ⟨g, o, c', hv, he⟩ := hel.out k (by rw [hM.out]; exact hlt)
      cases hv
      obtain ⟨⟨x0, x1, x2⟩, hx⟩ : ∃ x, L[k]'(by rw [hM.out]; exact hlt) = x := ⟨_, rfl⟩
      rw [hx] at he
      have e0 := hkw.val (he 0 _ rfl)
      have e1 := hkw.val (he 1 _ rfl)
      have e2 := hkw.val (he 2 _ rfl)
      simp only [shQ, Nat.add_zero] at e0 e1 e2
      have hq := fun w => eqQ w (q0, q1, q2) (x0, x1, x2)
      simp only [qV] at hq
      replace hx := Lib.hid hx
      replace hkw := Lib.hid hkw
      clear he
      by_cases h1 : (q0, q1, q2) = (x0, x1, x2)
      · rw [decide_eq_true h1] at hq
        replace h1 := Lib.hid h1
        go_wp2
        (refine wp_region_quiet_lit (by kernel_rfl) (by kernel_rfl) ?_; (repeat (first | go_big_quiet_step (fail) | quiet_step (fail))); with_reducible refine wpQuiet_nil ?_; intro _ hw'; obtain ⟨nq, hw''⟩ := hw'; subst hw'')
        go_wp2
        go_ret
        exact ⟨k, rfl, fun _ => by omega, fun h => absurd (h1.out ▸ hx.out ▸ List.getElem_mem _) h, hkw.out.drewN _⟩
      · rw [decide_eq_false h1] at hq
        replace h1 := Lib.hid h1
        go_wp2
        (refine wp_region_quiet_lit (by kernel_rfl) (by kernel_rfl) ?_; (repeat (first | go_big_quiet_step (fail) | quiet_step (fail))); with_reducible refine wpQuiet_nil ?_; intro _ hw'; obtain ⟨nq, hw''⟩ := hw'; subst hw'')
        go_wp2
        go_roundw
        case rel => exact ⟨k + 1, rfl, by omega, fun j hj hjk => by
            by_cases e : j = k
            · subst e; rw [hx.out]; exact fun e => h1.out e.symm
            · exact hno.out j hj (by omega), hkW.out.drewN _⟩
        case measure => simp [intOf]; omega
    · replace hkw := Lib.hid hkw
      go_wp2
      go_ret
      exact ⟨-1, rfl, fun h => by
        obtain ⟨j, hj, e⟩ := List.getElem_of_mem h
        exact absurd e (hno.out j hj (by rw [hM.out] at hj; omega)), fun _ => rfl, hkw.out⟩
set_option maxRecDepth 100000 in
set_option maxHeartbeats 1000000 in
theorem containsQ_c (w : World) (v : Value) (L : List Qn) (q : Qn) (h : shQ.R w v L) :
    Calls Tryz.prog 77 #[v, qV q] w fun e w' => e = .returned (.bool (decide (q ∈ L))) ∧ Keeps [] w w' := by
  obtain ⟨a, c, rfl, _, _, _⟩ := h.form
  have hkA : Keeps [] w (w.alloc (.cells #[.int .i64 q.1, .int .i64 q.2.1, .int .u64 (q.2.2 : Nat)] tQ)) := (Keeps.refl _ _).alloc _
  have hI := indexQ_c _ _ L q (h.keeps hkA)
  obtain ⟨q0, q1, q2⟩ := q
  simp only [qV] at hI hkA
  replace hkA := Lib.hid hkA
  replace hI := Lib.hid hI
  clear h
  go_enter Tryz.func77, Tryz.ntmps77
  go_wp2_with fail
  refine hI.out.mono ?_
  rintro e w1 ⟨i, rfl, h1, h2, hk1⟩
  by_cases hm : (q0, q1, q2) ∈ L
  · have h0 := h1 hm
    have hd := decide_eq_true hm
    replace hm := Lib.hid hm
    replace h2 := Lib.hid h2
    go_wp2
    go_ret
    exact ⟨by rw [hd]; rfl, hkA.out.trans hk1⟩
  · have h0 := h2 hm
    have hd := decide_eq_false hm
    subst h0
    replace hm := Lib.hid hm
    replace h1 := Lib.hid h1
    go_wp2
    go_ret
    exact ⟨by rw [hd]; rfl, hkA.out.trans hk1⟩

theorem eqN (w : World) (x y : T3) : (binOp .eql tN (tV x) (tV y)).run Tryz.prog w = .ok (.bool (decide (x = y))) w := by
  obtain ⟨a, b, c⟩ := x
  obtain ⟨a', b', c'⟩ := y
  rw [run_eql_struct, eqN0, Result.andThen_ok]
  congr 2
  rw [Bool.eq_iff_iff]
  simp
  omega
theorem neN (w : World) (x y : T3) : (binOp .neq tN (tV x) (tV y)).run Tryz.prog w = .ok (.bool (decide (x ≠ y))) w := by
  obtain ⟨a, b, c⟩ := x
  obtain ⟨a', b', c'⟩ := y
  rw [run_neq_struct, eqN0, Result.andThen_ok]
  congr 2
  rw [Bool.eq_iff_iff]
  simp
  omega

set_option maxRecDepth 100000 in
set_option maxHeartbeats 2000000 in
theorem indexN_c (w : World) (v : Value) (L : List T3) (q : T3) (h : shT.R w v L) :
    Calls Tryz.prog 144 #[v, tV q] w fun e w' => ∃ i : Int, e = .returned (.int .i64 i) ∧ (q ∈ L → 0 ≤ i) ∧ (q ∉ L → i = -1) ∧ Keeps [] w w' := by
  obtain ⟨a, c, rfl, hlc, hcm, _⟩ := h.form
  have hel := fun k hk => h.elem (k := k) hk
  obtain ⟨M, hM⟩ : ∃ N, L.length = N := ⟨_, rfl⟩
  rw [hM] at hlc ⊢
  have hMm : M ≤ 9223372036854775807 := by unfold maxLen at hcm; omega
  obtain ⟨q0, q1, q2⟩ := q
  have hkA : Keeps [] w (w.alloc (.cells #[.int .i64 q0, .int .u64 (q1 : Nat), .int .i64 q2] tN)) := (Keeps.refl _ _).alloc _
  have hb0 := heap_alloc_new w (.cells #[.int .i64 q0, .int .u64 (q1 : Nat), .int .i64 q2] tN)
  replace hel := Lib.hid hel
  replace hM := Lib.hid hM
  replace hkA := Lib.hid hkA
  replace hb0 := Lib.hid hb0
  clear h
  go_enter Tryz.func144, Tryz.ntmps144
  go_wp2
  generalize (w.alloc (.cells #[.int .i64 q0, .int .u64 (q1 : Nat), .int .i64 q2] tN)) = W at *
  obtain ⟨X, hX⟩ : ∃ X, w.heap.size = X := ⟨_, rfl⟩
  rw [hX] at hb0 ⊢
  replace hX := Lib.hid hX
  go_loopw [8, 5] (fun i _ wr => ∃ k : Nat, i = .int .i64 k ∧ k ≤ M ∧ (∀ j (hj : j < L.length), j < k → L[j] ≠ (q0, q1, q2)) ∧ Keeps [] W wr) (fun i _ _ => M - (intOf i).toNat)
  case atStart => exact ⟨0, rfl, by omega, fun _ _ h => by omega, Keeps.refl _ _⟩
  case round =>
    obtain ⟨k, rfl, hk, hno, hkW⟩ := hrel
    obtain ⟨y0, y1, y2⟩ := cells3t ((hkW.block _ (lt_of_blk hb0.out) (by simp)).trans hb0.out)
    have hkw := hkA.out.trans hkW
    replace hno := Lib.hid hno
    replace hkW := Lib.hid hkW
    by_cases hlt : k < M
    · obtain ⟨g, o, c', hv, he⟩ := hel.out k (by rw [hM.out]; exact hlt)
      cases hv
      obtain ⟨⟨x0, x1, x2⟩, hx⟩ : ∃ x, L[k]'(by rw [hM.out]; exact hlt) = x := ⟨_, rfl⟩
      rw [hx] at he
      have e0 := hkw.val (he 0 _ rfl)
      have e1 := hkw.val (he 1 _ rfl)
      have e2 := hkw.val (he 2 _ rfl)
      simp only [shT, Nat.add_zero] at e0 e1 e2
      have hq := fun w => eqN w (q0, q1, q2) (x0, x1, x2)
      simp only [tV] at hq
      replace hx := Lib.hid hx
      replace hkw := Lib.hid hkw
      clear he
      by_cases h1 : (q0, q1, q2) = (x0, x1, x2)
      · rw [decide_eq_true h1] at hq
        replace h1 := Lib.hid h1
        go_wp2
        (refine wp_region_quiet_lit (by kernel_rfl) (by kernel_rfl) ?_; (repeat (first | go_big_quiet_step (fail) | quiet_step (fail))); with_reducible refine wpQuiet_nil ?_; intro _ hw'; obtain ⟨nq, hw''⟩ := hw'; subst hw'')
        go_wp2
        go_ret
        exact ⟨k, rfl, fun _ => by omega, fun h => absurd (h1.out ▸ hx.out ▸ List.getElem_mem _) h, hkw.out.drewN _⟩
      · rw [decide_eq_false h1] at hq
        replace h1 := Lib.hid h1
        go_wp2
        (refine wp_region_quiet_lit (by kernel_rfl) (by kernel_rfl) ?_; (repeat (first | go_big_quiet_step (fail) | quiet_step (fail))); with_reducible refine wpQuiet_nil ?_; intro _ hw'; obtain ⟨nq, hw''⟩ := hw'; subst hw'')
        go_wp2
        go_roundw
        case rel => exact ⟨k + 1, rfl, by omega, fun j hj hjk => by
            by_cases e : j = k
            · subst e; rw [hx.out]; exact fun e => h1.out e.symm
            · exact hno.out j hj (by omega), hkW.out.drewN _⟩
        case measure => simp [intOf]; omega
    · replace hkw := Lib.hid hkw
      go_wp2
      go_ret
      exact ⟨-1, rfl, fun h => by
        obtain ⟨j, hj, e⟩ := List.getElem_of_mem h
        exact absurd e (hno.out j hj (by rw [hM.out] at hj; omega)), fun _ => rfl, hkw.out⟩
set_option maxRecDepth 100000 in
set_option maxHeartbeats 1000000 in
theorem containsN_c (w : World) (v : Value) (L : List T3) (q : T3) (h : shT.R w v L) :
    Calls Tryz.prog 121 #[v, tV q] w fun e w' => e = .returned (.bool (decide (q ∈ L))) ∧ Keeps [] w w' := by
  obtain ⟨a, c, rfl, _, _, _⟩ := h.form
  have hkA : Keeps [] w (w.alloc (.cells #[.int .i64 q.1, .int .u64 (q.2.1 : Nat), .int .i64 q.2.2] tN)) := (Keeps.refl _ _).alloc _
  have hI := indexN_c _ _ L q (h.keeps hkA)
  obtain ⟨q0, q1, q2⟩ := q
  simp only [tV] at hI hkA
  replace hkA := Lib.hid hkA
  replace hI := Lib.hid hI
  clear h
  go_enter Tryz.func121, Tryz.ntmps121
  go_wp2_with fail
  refine hI.out.mono ?_
  rintro e w1 ⟨i, rfl, h1, h2, hk1⟩
  by_cases hm : (q0, q1, q2) ∈ L
  · have h0 := h1 hm
    have hd := decide_eq_true hm
    replace hm := Lib.hid hm
    replace h2 := Lib.hid h2
    go_wp2
    go_ret
    exact ⟨by rw [hd]; rfl, hkA.out.trans hk1⟩
  · have h0 := h2 hm
    have hd := decide_eq_false hm
    subst h0
    replace hm := Lib.hid hm
    replace h1 := Lib.hid h1
    go_wp2
    go_ret
    exact ⟨by rw [hd]; rfl, hkA.out.trans hk1⟩

/-- Every block of insets is as it was. -/
def KI (w w' : World) : Prop := ∀ (b : Nat) (cs : Array Value) (f : Nat × Nat), w.heap[b]? = some (Obj.cells cs tI f) → w'.heap[b]? = some (Obj.cells cs tI f)
theorem KI.trans {a b c : World} (h : KI a b) (k : KI b c) : KI a c := fun i cs f hx => k i cs f (h i cs f hx)
theorem Keeps.ki {S : List Nat} {w w' : World} (h : Keeps S w w') (hS : ∀ b ∈ S, ∀ (cs : Array Value) (f : Nat × Nat), w.heap[b]? ≠ some (Obj.cells cs tI f)) : KI w w' := fun b cs f hx =>
  (h.block b (lt_of_blk hx) (fun hm => hS b hm cs f hx)).trans hx
theorem Keeps.ki0 {w w' : World} (h : Keeps [] w w') : KI w w' := h.ki (by simp)
/-- A stored inset. -/
def InsO (w : World) (v : Value) (L : List T3) : Prop := ∃ B, shT.O w B tI v L
theorem InsO.r {w : World} {v : Value} {L : List T3} (h : InsO w v L) : shT.R w v L := by obtain ⟨B, h⟩ := h; exact h.r
theorem InsO.ki {w w' : World} {v : Value} {L : List T3} (h : InsO w v L) (hk : KI w w') : InsO w' v L := by
  obtain ⟨B, h1, h2⟩ := h
  refine ⟨B, h1, ?_⟩
  rcases h2 with hn | ⟨g, cap, cur, rfl, hb, hg, rest⟩
  · exact .inl hn
  · exact .inr ⟨g, cap, cur, rfl, hb, hk g cur (0, 0) hg, rest⟩
set_option maxRecDepth 100000 in
set_option maxHeartbeats 2000000 in
theorem cloneI_c (w : World) (v : Value) (L : List T3) (h : shT.R w v L) (hl : L.length ≤ 1000000) :
    Calls Tryz.prog 90 #[v] w fun e w' => ∃ v', e = .returned v' ∧ shT.O w' w.heap.size tI v' L ∧ Keeps [] w w' := by
  have q22 : ∀ (w : World) (a : Option Addr) (n c n' c' : Nat), (binOp .eql 35 (.slice a n c) (.slice none n' c')).run Tryz.prog w = .ok (.bool a.isNone) w := fun w a n c n' c' => Lib.run_eql_slice_nil w _ _ a n c n' c' Tryz.underlying35
  obtain ⟨a, c, rfl, hlc, hcm, hnil⟩ := h.form
  obtain ⟨M, hM⟩ : ∃ M, L.length = M := ⟨_, rfl⟩
  rw [hM] at hl hlc h ⊢
  replace hM := Lib.hid hM
  replace h := Lib.hid h
  cases a with
  | none =>
    have h0 := hnil rfl
    have hL : L = [] := List.length_eq_zero_iff.1 (by rw [hM.out]; omega)
    replace hL := Lib.hid hL
    clear hnil
    go_enter Tryz.func90, Tryz.ntmps90
    go_wp2
    go_ret
    exact ⟨_, rfl, by rw [hL.out]; exact Sh.O.nil _ _ _ _, Keeps.refl _ _⟩
  | some ad =>
    clear hnil
    go_enter Tryz.func90, Tryz.ntmps90
    go_wp2_with (at_builtin; (refine Sh.wpl_app shT w.heap.size infoI rfl Tryz.underlying35 (.slice (some ⟨w.heap.size, 0, none⟩) 0 0) (.slice (some ad) M c) [] L rfl (.tmp 5) (.tmp 6) rfl rfl rfl (Sh.O.fresh _ w _ _ (Nat.le_refl _)) (h.out.keeps ((Keeps.refl [] w).alloc _)) (by have := hM.out; simp only [List.length_nil]; omega) (by simp) ?_; intro v2 w2 hO2 hG2; have hkk2 := Lib.hid (hG2.keeps ((Keeps.refl [] w).alloc _) (by simp [Value.ownBlock])); have hO2' := Lib.hid hO2; clear hO2 hG2))
    go_ret
    exact ⟨_, rfl, hO2'.out, hkk2.out⟩
end Go.Proofs.YtpobepninifenaaGreat
