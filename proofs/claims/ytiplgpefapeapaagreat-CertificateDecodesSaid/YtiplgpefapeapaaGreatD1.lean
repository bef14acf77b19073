/- Texts that the laws lean on, in the order in which they build. General laws on worlds, slices and maps, and how a law's statement follows from the walk of its body. Of whatever program. Buffers that grow by append, with a frame that composes; lists of bytes. Of whatever program. The digits of a number to the base 256, and its encoding on the wire. No program. A region that draws its order, whatever its operations do: one obligation for each operation, in the order of the text, serves every order. An operation that is 'loud' (it makes or writes memory, or calls) says what it leaves by a fact on its value and the world that no other operation of the region can undo; every other operation yields one value in every world that can come up. (XWire, of a program without bytes.Clone.) The contracts of package wire's writers of bytes. The contract of the reference's encoding of a number. AppendBool; what the growth of a buffer leaves, draws between. The specification's encoding of a truth value. Integers on the wire: the program's AppendInt and the specification's Int. Data among a law's arguments, opened, of whatever type; slices of elements of several cells. Of whatever program. Slices of elements of several cells that read as a list of whatever. Of whatever program. -/
import Derived.Test.YtiplgpefapeapaaGreatRows
import Derived.WalkKit
import Derived.ProofKit
import Derived.OpenShut
import Derived.WalkSpells
import Derived.WalkLawsBesides
import Derived.Deep.QuietTactic
import Derived.BigQuiet
import Derived.Maps.OwnSet
import Derived.Lib.Hide
import Derived.Orders
import Derived.Lib.Zigzag
import Derived.Laws.Bits64
import Derived.Deep.Slices
set_option linter.unusedVariables false
set_option linter.unusedSimpArgs false
namespace Go.Proofs.YtiplgpefapeapaaGreat
open Go.RowKit Go.ChangeShapes

/-- `w'` is `w` with new blocks and draws, and with writes to blocks of `S` alone. -/
structure Keeps (S : List Nat) (w w' : World) : Prop where
  os : w'.os = w.os
  tape : w'.tape = w.tape
  output : w'.output = w.output
  size : w.heap.size ≤ w'.heap.size
  block : ∀ k, k < w.heap.size → k ∉ S → w'.heap[k]? = w.heap[k]?

theorem Keeps.refl (S : List Nat) (w : World) : Keeps S w w := ⟨rfl, rfl, rfl, Nat.le_refl _, fun _ _ _ => rfl⟩
theorem Keeps.trans {S : List Nat} {a b c : World} (h : Keeps S a b) (k : Keeps S b c) : Keeps S a c :=
  ⟨k.os.trans h.os, k.tape.trans h.tape, k.output.trans h.output, Nat.le_trans h.size k.size,
    fun i hi hs => (k.block i (Nat.lt_of_lt_of_le hi h.size) hs).trans (h.block i hi hs)⟩
theorem Keeps.mono {S T : List Nat} {w w' : World} (h : Keeps S w w') (hst : ∀ k ∈ S, k ∈ T) : Keeps T w w' :=
  ⟨h.os, h.tape, h.output, h.size, fun k hk hT => h.block k hk fun hs => hT (hst k hs)⟩
theorem Keeps.of_nil {T : List Nat} {w w' : World} (h : Keeps [] w w') : Keeps T w w' := h.mono (by simp)
/-- Blocks that were not there when the outer world began may be written. -/
theorem Keeps.fresh {S T : List Nat} {a b c : World} (h : Keeps S a b) (k : Keeps T b c) (hT : ∀ x ∈ T, x ∈ S ∨ a.heap.size ≤ x) : Keeps S a c :=
  ⟨k.os.trans h.os, k.tape.trans h.tape, k.output.trans h.output, Nat.le_trans h.size k.size,
    fun i hi hs => (k.block i (Nat.lt_of_lt_of_le hi h.size) (fun hx => by rcases hT i hx with h1 | h1; exact hs h1; omega)).trans (h.block i hi hs)⟩
/-- What is written behind the first world's size, or is named in `T`. -/
theorem Keeps.trans' {S T : List Nat} {a b c : World} (h : Keeps T a b) (k : Keeps S b c) (hT : ∀ x ∈ S, x ∈ T ∨ a.heap.size ≤ x) : Keeps T a c := h.fresh k hT
theorem Keeps.drew {S : List Nat} {a w : World} (h : Keeps S a w) : Keeps S a w.drew := ⟨h.os, h.tape, h.output, h.size, h.block⟩
theorem Keeps.drewN {S : List Nat} {a w : World} (h : Keeps S a w) : ∀ n, Keeps S a (w.drewN n) := fun _ => ⟨h.os, h.tape, h.output, h.size, h.block⟩
theorem Keeps.alloc {S : List Nat} {a w : World} (h : Keeps S a w) (o : Obj) : Keeps S a (w.alloc o) :=
  h.trans ⟨rfl, rfl, rfl, by simp, fun k hk _ => Below.heap_alloc _ _ _ (by omega)⟩
theorem Keeps.setCell {S : List Nat} {a w : World} (h : Keeps S a w) {p : Addr} (hp : a.heap.size ≤ p.block ∨ p.block ∈ S) (u : Value) : Keeps S a (w.setCell p u) :=
  ⟨h.os, h.tape, h.output, by simpa [World.setCell] using h.size, fun k hk hs => by
    rw [Below.heap_setCell]
    · exact h.block k hk hs
    · rintro rfl
      rcases hp with h1 | h1
      · omega
      · exact hs h1⟩
theorem Keeps.grown {S : List Nat} {a w w' : World} {row : Option Nat} (h : Keeps S a w) (hg : w.grownBy w' row) (hr : ∀ k, row = some k → a.heap.size ≤ k ∨ k ∈ S) : Keeps S a w' :=
  ⟨hg.os.trans h.os, hg.tape.trans h.tape, hg.output.trans h.output, Nat.le_trans h.size hg.size,
    fun k hk hs => (hg.block k (Nat.lt_of_lt_of_le hk h.size) (fun e => by rcases hr k e.symm with h1 | h1; omega; exact hs h1)).trans (h.block k hk hs)⟩
theorem Keeps.of_grown {w w' : World} {b : Nat} (hg : w.grownBy w' (some b)) : Keeps [b] w w' :=
  (Keeps.refl [b] w).grown hg (fun k e => by cases e; exact .inr (by simp))
theorem Keeps.below {w w' : World} (h : Keeps [] w w') : Below w.heap.size w w' := ⟨h.os, h.tape, h.output, h.size, fun k hk => h.block k hk (by simp)⟩
theorem Keeps.of_below {S : List Nat} {w w' : World} (h : Below w.heap.size w w') : Keeps S w w' := ⟨h.os, h.tape, h.output, h.size, fun k hk _ => h.block k hk⟩
theorem Keeps.cell {S : List Nat} {w w' : World} (h : Keeps S w w') : ∀ b o, b < w.heap.size → b ∉ S → w'.cell? ⟨b, o, none⟩ = w.cell? ⟨b, o, none⟩ :=
  fun b o hb hs => World.cell?_of_block (w := w) (a := ⟨b, o, none⟩) (h.block b hb hs)
theorem Keeps.frozen {S : List Nat} {w w' : World} (h : Keeps S w w') : ∀ b o, b < w.heap.size → b ∉ S → w'.frozen? ⟨b, o, none⟩ = w.frozen? ⟨b, o, none⟩ :=
  fun b o hb hs => World.frozen?_of_block (w := w) (a := ⟨b, o, none⟩) (h.block b hb hs)
theorem Keeps.cell0 {w w' : World} (h : Keeps [] w w') : ∀ b o, b < w.heap.size → w'.cell? ⟨b, o, none⟩ = w.cell? ⟨b, o, none⟩ := fun b o hb => h.cell b o hb (by simp)
theorem Keeps.val {w w' : World} (h : Keeps [] w w') {b o : Nat} {v : Value} (hc : w.cell? ⟨b, o, none⟩ = some v) : w'.cell? ⟨b, o, none⟩ = some v :=
  (h.cell0 b o (World.block_lt_of_cell? w ⟨b, o, none⟩ hc)).trans hc
theorem lt_of_cell {w : World} {b o : Nat} {v : Value} (h : w.cell? ⟨b, o, none⟩ = some v) : b < w.heap.size := World.block_lt_of_cell? w ⟨b, o, none⟩ h

/-- The slice value `v` of `n` elements of `sz` cells each reads as the cells `cs`. -/
def Sl (w : World) (sz : Nat) (v : Value) (n : Nat) (cs : List Value) : Prop :=
  cs.length = n * sz ∧ ∃ a cap, v = .slice a n cap ∧ n ≤ cap ∧ cap ≤ maxLen ∧ (a = none → cap = 0) ∧
    (0 < cs.length → ∃ g o, a = some ⟨g, o, none⟩ ∧ ∀ j u, cs[j]? = some u → w.cell? ⟨g, o + j, none⟩ = some u)

theorem Sl.nil (w : World) (sz : Nat) : Sl w sz (.slice none 0 0) 0 [] := ⟨by simp, none, 0, rfl, by simp, by simp, by simp, by simp⟩
theorem Sl.keep {w w' : World} {sz n : Nat} {v : Value} {cs : List Value} (h : Sl w sz v n cs)
    (hk : ∀ b o, b < w.heap.size → (w'.cell? ⟨b, o, none⟩ = w.cell? ⟨b, o, none⟩ ∨ w.cell? ⟨b, o, none⟩ = none)) : Sl w' sz v n cs := by
  obtain ⟨h1, a, cap, rfl, h2, h3, h0, h4⟩ := h
  refine ⟨h1, a, cap, rfl, h2, h3, h0, fun hp => ?_⟩
  obtain ⟨g, o, rfl, hc⟩ := h4 hp
  refine ⟨g, o, rfl, fun j u hj => ?_⟩
  have := hc j u hj
  rcases hk g (o + j) (lt_of_cell this) with h5 | h5
  · rw [h5]; exact this
  · rw [h5] at this; cases this
theorem Sl.keeps {w w' : World} {sz n : Nat} {v : Value} {cs : List Value} (h : Sl w sz v n cs) (hk : Keeps [] w w') : Sl w' sz v n cs :=
  h.keep fun b o hb => .inl (hk.cell0 b o hb)
theorem Sl.of_owns {w : World} {base sz n : Nat} {e : TypeId} {v : Value} {cs : List Value} (h : w.ownsRow base e sz v n cs) : Sl w sz v n cs := by
  obtain ⟨h1, h2⟩ := h
  refine ⟨h1, ?_⟩
  rcases h2 with ⟨rfl, rfl⟩ | ⟨g, cap, cur, rfl, _, hg, hn, hc, hs, ht⟩
  · exact ⟨none, 0, rfl, by simp, by simp, by simp, fun hp => by simp at h1; simp [h1] at hp⟩
  · refine ⟨_, cap, rfl, hn, hc, by simp, fun _ => ⟨g, 0, rfl, fun j u hj => ?_⟩⟩
    rw [Nat.zero_add, cell_of_row w g j cur e (0, 0) hg]
    rw [← ht, List.getElem?_take] at hj
    split at hj
    · simpa using hj
    · cases hj

/-- `append(v, v2...)`, `v` the call's own, `v2` whatever reads as `ys`. -/
theorem run_append_sl {P : Program} {w : World} (base : Nat) (t ty e : TypeId) (i : TypeInfo) (z : Value) (size bytes : Nat) (ht : P.underlying t = some (.slice e)) (hi : P.info? e = some i) (hz : i.zero = some z)
    (hsize : i.size = size) (hby : i.bytes = bytes) (hzs : z.cells.size = size) (hsz : 0 < size) (v : Value) (n : Nat) (xs : List Value) (hown : w.ownsRow base e size v n xs)
    (v2 : Value) (m : Nat) (ys : List Value) (hsl : Sl w size v2 m ys) (h1 : ∀ u ∈ ys, u.oneCell' = true) (h63 : n + m ≤ maxLen) (hbytes : (n + m) * bytes ≤ 140737488355328) (hbase : base ≤ w.heap.size) :
    ∃ v' w', (Builtin.append_ #[t, t] ty #[v, v2]).run P w = .ok v' w' ∧ w'.ownsRow base e size v' (n + m) (xs ++ ys) ∧ w.grownBy w' v.ownBlock := by
  obtain ⟨hl, a, cap, rfl, _, _, h0, hc⟩ := hsl
  cases a with
  | none =>
    have hys : ys = [] := by
      cases ys with
      | nil => rfl
      | cons y r => obtain ⟨g, o, e, _⟩ := hc (by simp); cases e
    subst hys
    have hm : m = 0 := by
      have : m * size = 0 := by simpa using hl.symm
      rcases Nat.mul_eq_zero.1 this with h | h <;> omega
    subst hm
    have := h0 rfl
    subst this
    exact ⟨v, w, run_append_owned_none (P := P) (w := w) base t ty e i size ht hi v n xs hown, by simpa using hown, ⟨rfl, rfl, rfl, Nat.le_refl _, fun _ _ _ => rfl⟩⟩
  | some ad =>
    have hcells : ∀ j u, ys[j]? = some u → w.cell? (ad.add j) = some u := by
      intro j u hj
      have hp : 0 < ys.length := by have := (List.getElem?_eq_some_iff.1 hj).1; omega
      obtain ⟨g, o, e, hc'⟩ := hc hp
      cases e
      rw [Go.WideShapes.add_plain]
      exact hc' j u hj
    obtain ⟨v', w', hr, h2, h3, _⟩ := run_append_own (P := P) w base t ty e i z size bytes ht hi hz hsize hby hzs hsz v n xs hown ad m cap ys hl hcells h1 h63 hbytes hbase
    exact ⟨v', w', hr, h2, h3⟩
theorem ownsRow_block {w w' : World} {base e sz n : Nat} {v : Value} {cs : List Value} (h : w.ownsRow base e sz v n cs) (hk : ∀ b, base ≤ b → b < w.heap.size → w'.heap[b]? = w.heap[b]?) : w'.ownsRow base e sz v n cs := by
  refine ⟨h.1, ?_⟩
  rcases h.2 with hn | ⟨g, cap, cur, rfl, hb, hg, rest⟩
  · exact .inl hn
  · exact .inr ⟨g, cap, cur, rfl, hb, (hk g hb (Array.getElem?_eq_some_iff.1 hg).1).trans hg, rest⟩
/-- A part of a slice. -/
theorem Sl.part {w : World} {sz g o n cap : Nat} {cs : List Value} (h : Sl w sz (.slice (some ⟨g, o, none⟩) n cap) n cs) (a b : Nat) (hab : a ≤ b) (hb : b ≤ n) :
    Sl w sz (.slice (some ⟨g, o + a * sz, none⟩) (b - a) (cap - a)) (b - a) ((cs.take (b * sz)).drop (a * sz)) := by
  obtain ⟨hl, a', cap', e, h2, h3, _, h4⟩ := h
  cases e
  have hbs : b * sz ≤ n * sz := Nat.mul_le_mul_right _ hb
  have has : a * sz ≤ b * sz := Nat.mul_le_mul_right _ hab
  refine ⟨by simp only [List.length_drop, List.length_take, hl, Nat.sub_mul]; omega, _, _, rfl, by omega, by omega, by simp, fun hp => ?_⟩
  simp only [List.length_drop, List.length_take, hl] at hp
  obtain ⟨g', o', e, hc⟩ := h4 (by omega)
  cases e
  refine ⟨g, _, rfl, fun j u hj => ?_⟩
  rw [List.getElem?_drop, List.getElem?_take] at hj
  split at hj
  · have := hc _ _ hj
    rwa [← Nat.add_assoc] at this
  · cases hj
/-- `x[a:]`, elements of one cell, as the walk spells it. -/
theorem Sl.tail1 {w : World} {g o n cap : Nat} {cs : List Value} (h : Sl w 1 (.slice (some ⟨g, o, none⟩) n cap) n cs) (a : Nat) (ha : a ≤ n) :
    Sl w 1 (.slice (if cap = a then some ⟨g, o, none⟩ else some ⟨g, o + a, none⟩) (n - a) (cap - a)) (n - a) (cs.drop a) := by
  have h' := h.part a n ha (Nat.le_refl _)
  obtain ⟨hl, _⟩ := h
  simp only [Nat.mul_one] at h' hl
  rw [List.take_of_length_le (by omega)] at h'
  by_cases hc : cap = a
  · rw [if_pos hc]
    obtain ⟨h1, a', c', e, h2, h3, _, _⟩ := h'
    cases e
    exact ⟨h1, _, _, rfl, h2, h3, by simp, fun hp => by simp at hp; omega⟩
  · rw [if_neg hc]; exact h'
theorem ownsRow_empty (w : World) (base e sz : Nat) (hb : base ≤ w.heap.size) : (w.alloc (.cells #[] e)).ownsRow base e sz (.slice (some ⟨w.heap.size, 0, none⟩) 0 0) 0 [] :=
  World.ownsRow_made w #[] 0 hb (by simp) (by simp)
/-- A one-element slice of one cell that was just laid. -/
theorem Sl.one (w : World) (u : Value) (e : TypeId) : Sl (w.alloc (.cells #[u] e)) 1 (.slice (some ⟨w.heap.size, 0, none⟩) 1 1) 1 [u] :=
  ⟨rfl, _, _, rfl, Nat.le_refl _, by simp [maxLen], by simp, fun _ => ⟨_, 0, rfl, fun j x hj => by
    match j, hj with
    | 0, hj => simp at hj; subst hj; simp⟩⟩
theorem map_no_cells {w : World} {b : Nat} {es : Array MapEntry} {c : Nat} (h : w.heap[b]? = some (.map es c)) (o : Nat) : w.cell? ⟨b, o, none⟩ = none := by
  simp [World.cell?, h]
theorem owns_no_cells {H : Type} {P : Program} {k : TypeId} {R : Value → Option (DataW H × List MemPlace)} {w : World} {b n : Nat} {D : DataW H} (h : w.ownsMap P k R b n D) (o : Nat) : w.cell? ⟨b, o, none⟩ = none := by
  obtain ⟨es, c, hb, _⟩ := h
  exact map_no_cells hb o
/-- What the law's statement asks behind the call: the result is true, the arguments read as before, nothing else has turned. -/
theorem below_trodAll {H : Type} {enc : TypeId × Value → H} {P : Program} {W W' : World} (hl : laidOutB P = true) (hb : Below W.heap.size W W') :
    ∀ (ts : List TypeId) (vs : List Value) (ds : List (DataW H)) (ps : List MemPlace), (∀ t ∈ ts, P.readableRec t = true ∧ t < P.types.size) →
      DataW.TrodAll enc P W 0 (fun _ => true) true ts vs ds ps → (∀ x ∈ ps, x.block < W.heap.size) → DataW.TrodAll enc P W' 0 (fun b => decide (b < W.heap.size)) true ts vs ds ps
  | [], vs, ds, ps, _, h, _ => by
    obtain ⟨rfl, rfl, rfl⟩ := trodAll_nil h
    exact trodAll_mk0
  | t :: ts, vs, ds, ps, hr, h, hlt => by
    obtain ⟨v, vs', d, ds', p, q, rfl, rfl, rfl, h1, h2⟩ := trodAll_cons h
    exact trodAll_cons_mk (Below.trod hl (hr t (by simp)).1 (hr t (by simp)).2 h1 hb (fun x hx => hlt x (by simp [hx])))
      (below_trodAll hl hb ts vs' ds' q (fun t ht => hr t (by simp [ht])) h2 (fun x hx => hlt x (by simp [hx])))

theorem law_post {H : Type} {enc : TypeId × Value → H} {P : Program} {f : Func} {s : ChangeSpec} {W W' : World} {args : Array Value} {ds gs : List (DataW H)} {before : List MemPlace} {tb : TypeId}
    (hl : laidOutB P = true) (hr : ∀ t ∈ f.params.toList, P.readableRec t = true ∧ t < P.types.size) (hrt : f.resultTypes = #[tb]) (htb : P.underlying tb = some .bool) (hv : s.vars = [])
    (hW : DataW.Whole enc P f.params.toList s.vars false W args.toList ds gs before) (hs : s.fn H (ds ++ gs) = { results := [.lit (.bool true)], args := ds })
    (hk : Keeps [] W W') : s.post enc P f false true false false W args (.bool true) W' := by
  have hW' := hW
  obtain ⟨p, q, hA, hV, hbe, _, _⟩ := hW
  rw [hv] at hV
  obtain ⟨rfl, rfl⟩ := trodVars_none hV
  rw [List.append_nil] at hbe
  subst hbe
  refine ⟨_, _, _, [], before, [], hW', ?_, ?_, ?_, hk.below.frame _, fun h => by cases h⟩
  · rw [hs, hrt]; exact trodAll_mk1 (shut_bool htb _)
  · rw [hs]; exact below_trodAll hl hk.below _ _ _ _ hr hA (fun x hx => by simpa using hW'.lt x hx)
  · rw [hs, hv]; rfl
end Go.Proofs.YtiplgpefapeapaaGreat

namespace Go.Proofs.YtiplgpefapeapaaGreat
open Go.RowKit Go.ChangeShapes

/-- From `w` to `w'` a slice `v` has become `v'`: new blocks, writes to the block of `v` alone; `v'` lies where `v` lay, or in a new block. -/
structure Grw (w w' : World) (v v' : Value) : Prop where
  grown : w.grownBy w' v.ownBlock
  own : v'.ownBlock = v.ownBlock ∨ ∃ k, v'.ownBlock = some k ∧ w.heap.size ≤ k

theorem Grw.refl (w : World) (v : Value) : Grw w w v v := ⟨⟨rfl, rfl, rfl, Nat.le_refl _, fun _ _ _ => rfl⟩, .inl rfl⟩
theorem Grw.trans {a b c : World} {u v x : Value} (h : Grw a b u v) (k : Grw b c v x) : Grw a c u x := by
  refine ⟨⟨k.grown.os.trans h.grown.os, k.grown.tape.trans h.grown.tape, k.grown.output.trans h.grown.output, Nat.le_trans h.grown.size k.grown.size, fun i hi hne => ?_⟩, ?_⟩
  · refine (k.grown.block i (Nat.lt_of_lt_of_le hi h.grown.size) ?_).trans (h.grown.block i hi hne)
    rcases h.own with e | ⟨j, e, hj⟩
    · rw [e]; exact hne
    · rw [e]; intro e2; cases e2; omega
  · rcases k.own with e | ⟨j, e, hj⟩
    · rw [e]; exact h.own
    · exact .inr ⟨j, e, Nat.le_trans h.grown.size hj⟩
theorem Grw.alloc_left {a c : World} {v x : Value} {o : Obj} (k : Grw (a.alloc o) c v x) : Grw a c v x := by
  refine ⟨⟨k.grown.os, k.grown.tape, k.grown.output, Nat.le_trans (by simp) k.grown.size, fun i hi hne => ?_⟩, ?_⟩
  · exact (k.grown.block i (by simp; omega) hne).trans (Below.heap_alloc _ _ _ hi)
  · rcases k.own with e | ⟨j, e, hj⟩
    · exact .inl e
    · exact .inr ⟨j, e, by simp at hj; omega⟩
/-- Seen from the time ahead of the buffer's making. -/
theorem Grw.keeps {a w w' : World} {v v' : Value} (h : Keeps [] a w) (k : Grw w w' v v') (hv : ∀ b, v.ownBlock = some b → a.heap.size ≤ b) : Keeps [] a w' :=
  h.grown k.grown (fun b hb => .inl (hv b hb))
theorem ownBlock_ge {w : World} {base e sz n : Nat} {v : Value} {cs : List Value} (h : w.ownsRow base e sz v n cs) : ∀ b, v.ownBlock = some b → base ≤ b := fun b hb => (h.lt b hb).1

/-- Every cell of the block of the slice `v` is as `p` asks. -/
def AllC (w : World) (v : Value) (p : Value → Prop) : Prop := ∀ g, v.ownBlock = some g → ∀ o u, w.cell? ⟨g, o, none⟩ = some u → p u
theorem AllC.of_block {w : World} {g n c : Nat} {p : Value → Prop} {cs : Array Value} {t : TypeId} {f : Nat × Nat} (h : w.heap[g]? = some (.cells cs t f)) (hp : ∀ u ∈ cs.toList, p u) : AllC w (.slice (some ⟨g, 0, none⟩) n c) p := fun g' e o u hu => by
  simp [Value.ownBlock] at e
  subst e
  have : cs[o]? = some u := by simpa [World.cell?, h] using hu
  exact hp _ (by simpa using Array.mem_of_getElem? this)
theorem AllC.to_block {w : World} {g n c : Nat} {p : Value → Prop} {cs : Array Value} {t : TypeId} {f : Nat × Nat} (h : AllC w (.slice (some ⟨g, 0, none⟩) n c) p) (hg : w.heap[g]? = some (.cells cs t f)) : ∀ u ∈ cs.toList, p u := fun u hu => by
  obtain ⟨o, ho, rfl⟩ := List.getElem_of_mem hu
  exact h g rfl o _ (by simp at ho; simp [World.cell?, hg, ho])
theorem mem_zeroCells {z : Array Value} {n : Nat} {u : Value} (h : u ∈ (Builtin.zeroCells z n).toList) : u ∈ z.toList := by
  simp only [Builtin.zeroCells] at h
  simp at h
  obtain ⟨i, hi, rfl⟩ := h
  have hz : 0 < z.size := by
    rcases Nat.eq_zero_or_pos z.size with e | e
    · rw [e] at hi; omega
    · exact e
  have := Nat.mod_lt i hz
  simp [this]
/-- `append(v, v2...)`, `v` the call's own. -/
theorem run_append_x {P : Program} {w : World} (base : Nat) (t ty e : TypeId) (i : TypeInfo) (z : Value) (size bytes : Nat) (ht : P.underlying t = some (.slice e)) (hi : P.info? e = some i) (hz : i.zero = some z)
    (hsize : i.size = size) (hby : i.bytes = bytes) (hzs : z.cells.size = size) (hsz : 0 < size) (v : Value) (n : Nat) (xs : List Value) (hown : w.ownsRow base e size v n xs)
    (v2 : Value) (m : Nat) (ys : List Value) (hsl : Sl w size v2 m ys) (h1 : ∀ u ∈ ys, u.oneCell' = true) (h63 : n + m ≤ maxLen) (hbytes : (n + m) * bytes ≤ 140737488355328) (hbase : base ≤ w.heap.size) :
    ∃ v' w', (Builtin.append_ #[t, t] ty #[v, v2]).run P w = .ok v' w' ∧ w'.ownsRow base e size v' (n + m) (xs ++ ys) ∧ Grw w w' v v' ∧ ∀ p : Value → Prop, (∀ u ∈ ys, p u) → (∀ u ∈ z.cells.toList, p u) → AllC w v p → AllC w' v' p := by
  obtain ⟨v', w', hr, h2, h3⟩ := run_append_sl (P := P) base t ty e i z size bytes ht hi hz hsize hby hzs hsz v n xs hown v2 m ys hsl h1 h63 hbytes hbase
  suffices hs : (v'.ownBlock = v.ownBlock ∨ ∃ k, v'.ownBlock = some k ∧ w.heap.size ≤ k) ∧ ∀ p : Value → Prop, (∀ u ∈ ys, p u) → (∀ u ∈ z.cells.toList, p u) → AllC w v p → AllC w' v' p from ⟨v', w', hr, h2, ⟨h3, hs.1⟩, hs.2⟩
  obtain ⟨hl, a, cap, rfl, _, _, h0, hc⟩ := hsl
  subst hsize
  subst hby
  cases a with
  | none =>
    have hys : ys = [] := by
      cases ys with
      | nil => rfl
      | cons y r => obtain ⟨g, o, e, _⟩ := hc (by simp); cases e
    subst hys
    have hm : m = 0 := by
      have : m * i.size = 0 := by simpa using hl.symm
      rcases Nat.mul_eq_zero.1 this with h | h <;> omega
    subst hm
    have hc0 := h0 rfl
    subst hc0
    have hr2 := run_append_owned_none (P := P) (w := w) base t ty e i _ ht hi v n xs hown
    rw [hr] at hr2
    cases hr2
    exact ⟨.inl rfl, fun _ _ _ h => h⟩
  | some ad =>
    have hcells : ∀ j u, ys[j]? = some u → w.cell? (ad.add j) = some u := by
      intro j u hj
      have hp : 0 < ys.length := by have := (List.getElem?_eq_some_iff.1 hj).1; omega
      obtain ⟨g, o, e, hc'⟩ := hc hp
      cases e
      rw [Go.WideShapes.add_plain]
      exact hc' j u hj
    have hml : (maxLen : Nat) = 9223372036854775807 := rfl
    rcases hown.2 with ⟨rfl, rfl⟩ | ⟨g, cp, cur, rfl, hbg, hg, hnc, hcm, hcs, htake⟩
    · by_cases hm : m = 0
      · subst hm
        have hys : ys = [] := List.eq_nil_of_length_eq_zero (by simpa using hl)
        subst hys
        rcases h2.2 with ⟨rfl, _⟩ | ⟨g, cp, cur, rfl, _, _⟩
        · exact ⟨.inl rfl, fun _ _ _ _ g hg => by simp [Value.ownBlock] at hg⟩
        · exfalso
          simp [Builtin.append_, run_underlying ht, sizeOf, typeInfo, hi, Builtin.lenOf, Builtin.firstCells, loadCells, loadCellsFrom] at hr
      · have hr2 := run_append_nil (P := P) w t ty e i z ht hi hz ad m cap ys hl hcells (by omega) (by omega) (by have hb := hbytes; simp only [Nat.zero_add] at hb; omega)
        rw [hr] at hr2
        cases hr2
        refine ⟨.inr ⟨_, rfl, Nat.le_refl _⟩, fun p h1 h2 _ => AllC.of_block (heap_alloc_new w.drew _) fun u hu => ?_⟩
        simp only [Array.toList_append, List.mem_append] at hu
        rcases hu with hu | hu
        · exact h1 u hu
        · exact h2 u (mem_zeroCells hu)
    · by_cases hroom : n + m ≤ cp
      · have hfit : n * i.size + ys.length ≤ cur.size := by rw [hl, hcs, ← Nat.add_mul]; exact Nat.mul_le_mul_right _ hroom
        have hr2 := run_append_room (P := P) w t ty e i ht hi g n cp cur hg ad m cap ys hl hcells h1 hroom hfit
        rw [hr] at hr2
        cases hr2
        refine ⟨.inl rfl, fun p h1 _ h3 => AllC.of_block (setRow_heap w g cur _ e _ hg) fun u hu => ?_⟩
        have h4 := h3.to_block hg
        simp only [List.mem_append] at hu
        rcases hu with (hu | hu) | hu
        · exact h4 u (List.mem_of_mem_take hu)
        · exact h1 u hu
        · exact h4 u (List.mem_of_mem_drop hu)
      · have holds : ∀ j u, xs[j]? = some u → w.cell? ((⟨g, 0, none⟩ : Addr).add j) = some u := hown.cells (g := g) rfl
        have hr2 := run_append_grow (P := P) w t ty e i z ht hi hz ⟨g, 0, none⟩ n cp xs hown.1 holds ad m cap ys hl hcells (by omega) (by omega) (growslice_fits (by omega) hbytes)
        rw [hr] at hr2
        cases hr2
        refine ⟨.inr ⟨_, rfl, Nat.le_refl _⟩, fun p h1 h2 h3 => AllC.of_block (heap_alloc_new w.drew _) fun u hu => ?_⟩
        have h4 := h3.to_block hg
        simp only [Array.toList_append, List.mem_append] at hu
        rcases hu with (hu | hu) | hu
        · rw [← htake] at hu; exact h4 u (List.mem_of_mem_take hu)
        · exact h1 u hu
        · exact h2 u (mem_zeroCells hu)

/-- .. at the operation. -/
theorem wpl_append_x {P : Program} {w : World} {ops : Array Oper} {rest : List Oper} {o : Oper} {a : Act} {Q : Exit → Act → World → Prop} (hg : o.guard = none) (s x : Operand) (t : TypeId)
    (ho : o.op = .call { callee := .builtin .append, args := #[s, x], argTypes := #[t, t] }) (base : Nat) (e : TypeId) (i : TypeInfo) (z : Value) (size bytes : Nat) (ht : P.underlying t = some (.slice e)) (hi : P.info? e = some i) (hz : i.zero = some z)
    (hsize : i.size = size) (hby : i.bytes = bytes) (hzs : z.cells.size = size) (hsz : 0 < size) (v : Value) (n : Nat) (xs : List Value) (hs : a.eval s = v) (hown : w.ownsRow base e size v n xs)
    (v2 : Value) (m : Nat) (ys : List Value) (hx : a.eval x = v2) (hsl : Sl w size v2 m ys) (h1 : ∀ u ∈ ys, u.oneCell' = true) (h63 : n + m ≤ maxLen) (hbytes : (n + m) * bytes ≤ 140737488355328) (hbase : base ≤ w.heap.size)
    (h : ∀ v' w', w'.ownsRow base e size v' (n + m) (xs ++ ys) → Grw w w' v v' → (∀ p : Value → Prop, (∀ u ∈ ys, p u) → (∀ u ∈ z.cells.toList, p u) → AllC w v p → AllC w' v' p) → wpList P ops Q rest (a.put o.dst v') w') : wpList P ops Q (o :: rest) a w := by
  refine wpList_plain hg fun K hK => ?_
  obtain ⟨v', w', hr, h2, h3, h4⟩ := run_append_x (P := P) base t o.type e i z size bytes ht hi hz hsize hby hzs hsz v n xs hown v2 m ys hsl h1 h63 hbytes hbase
  unfold Oper.wp execOp
  simp only [ho, resolve, invoke, builtin, Sem.run_bind, Sem.run_pure, Result.andThen_ok, List.map_toArray, List.map_cons, List.map_nil, hs, hx, hr]
  exact hK _ _ (h v' w' h2 h3 h4)

/-- .. at one operation. -/
theorem wp_append_x {P : Program} {w : World} {o : Oper} {a : Act} {K : Act → World → Prop} {Q : Exit → Act → World → Prop} (s x : Operand) (t : TypeId)
    (ho : o.op = .call { callee := .builtin .append, args := #[s, x], argTypes := #[t, t] }) (base : Nat) (e : TypeId) (i : TypeInfo) (z : Value) (size bytes : Nat) (ht : P.underlying t = some (.slice e)) (hi : P.info? e = some i) (hz : i.zero = some z)
    (hsize : i.size = size) (hby : i.bytes = bytes) (hzs : z.cells.size = size) (hsz : 0 < size) (v : Value) (n : Nat) (xs : List Value) (hs : a.eval s = v) (hown : w.ownsRow base e size v n xs)
    (v2 : Value) (m : Nat) (ys : List Value) (hx : a.eval x = v2) (hsl : Sl w size v2 m ys) (h1 : ∀ u ∈ ys, u.oneCell' = true) (h63 : n + m ≤ maxLen) (hbytes : (n + m) * bytes ≤ 140737488355328) (hbase : base ≤ w.heap.size)
    (h : ∀ v' w', w'.ownsRow base e size v' (n + m) (xs ++ ys) → Grw w w' v v' → (∀ p : Value → Prop, (∀ u ∈ ys, p u) → (∀ u ∈ z.cells.toList, p u) → AllC w v p → AllC w' v' p) → K (a.put o.dst v') w') : o.wp P a w K Q := by
  obtain ⟨v', w', hr, h2, h3, h4⟩ := run_append_x (P := P) base t o.type e i z size bytes ht hi hz hsize hby hzs hsz v n xs hown v2 m ys hsl h1 h63 hbytes hbase
  unfold Oper.wp execOp
  simp only [ho, resolve, invoke, builtin, Sem.run_bind, Sem.run_pure, Result.andThen_ok, List.map_toArray, List.map_cons, List.map_nil, hs, hx, hr]
  exact h v' w' h2 h3 h4

/-- Bytes as cells. -/
abbrev bys (l : List UInt8) : List Value := l.map fun b => Value.int .u8 (b.toNat : Int)
theorem bys_one (l : List UInt8) : ∀ u ∈ bys l, u.oneCell' = true := fun u hu => by obtain ⟨x, _, rfl⟩ := List.mem_map.1 hu; rfl
theorem bys_append (l m : List UInt8) : bys (l ++ m) = bys l ++ bys m := List.map_append
/-- The slice `v` reads as the bytes `l`. -/
def SlB (w : World) (v : Value) (l : List UInt8) : Prop := Sl w 1 v l.length (bys l)
theorem SlB.keeps {w w' : World} {v : Value} {l : List UInt8} (h : SlB w v l) (hk : Keeps [] w w') : SlB w' v l := Sl.keeps h hk
theorem SlB.nil (w : World) : SlB w (.slice none 0 0) [] := Sl.nil w 1
theorem SlB.one (w : World) (b : UInt8) (e : TypeId) : SlB (w.alloc (.cells #[.int .u8 (b.toNat : Int)] e)) (.slice (some ⟨w.heap.size, 0, none⟩) 1 1) [b] := Sl.one w _ e
/-- The two forms that a slice of bytes has. -/
theorem SlB.cases {w : World} {v : Value} {l : List UInt8} (h : SlB w v l) :
    (l = [] ∧ ∃ a cap, v = .slice a 0 cap ∧ cap ≤ maxLen ∧ (a = none → cap = 0)) ∨
    ∃ g o cap, v = .slice (some ⟨g, o, none⟩) l.length cap ∧ l.length ≤ cap ∧ cap ≤ maxLen ∧ 0 < l.length ∧ g < w.heap.size ∧ ∀ k (hk : k < l.length), w.cell? ⟨g, o + k, none⟩ = some (.int .u8 (l[k].toNat : Int)) := by
  obtain ⟨_, a, cap, rfl, h2, h3, h0, h4⟩ := h
  by_cases hl : l = []
  · subst hl; exact .inl ⟨rfl, a, cap, rfl, h3, h0⟩
  · have hp : 0 < l.length := List.length_pos_iff.2 hl
    obtain ⟨g, o, rfl, hc⟩ := h4 (by simpa using hp)
    have hcell : ∀ k (hk : k < l.length), w.cell? ⟨g, o + k, none⟩ = some (.int .u8 (l[k].toNat : Int)) := fun k hk => hc k _ (by simp [hk])
    exact .inr ⟨g, o, cap, rfl, h2, h3, hp, lt_of_cell (hcell 0 hp), hcell⟩
theorem SlB.form {w : World} {v : Value} {l : List UInt8} (h : SlB w v l) : ∃ a cap, v = .slice a l.length cap := by
  obtain ⟨_, a, cap, rfl, _⟩ := h; exact ⟨a, cap, rfl⟩
theorem SlB.tail {w : World} {g o n cap : Nat} {l : List UInt8} (h : SlB w (.slice (some ⟨g, o, none⟩) n cap) l) (a : Nat) (ha : a ≤ l.length) :
    SlB w (.slice (if cap = a then some ⟨g, o, none⟩ else some ⟨g, o + a, none⟩) (l.length - a) (cap - a)) (l.drop a) := by
  obtain ⟨a', c', e⟩ := h.form
  cases e
  have := Sl.tail1 h a ha
  simpa [SlB, bys, List.map_drop] using this
/-- Every cell that holds a byte holds it still. -/
def KB (w w' : World) : Prop := ∀ b o x, w.cell? ⟨b, o, none⟩ = some (.int .u8 x) → w'.cell? ⟨b, o, none⟩ = some (.int .u8 x)
theorem KB.refl (w : World) : KB w w := fun _ _ _ h => h
theorem KB.trans {a b c : World} (h : KB a b) (k : KB b c) : KB a c := fun i o x hx => k i o x (h i o x hx)
theorem Keeps.kb {S : List Nat} {w w' : World} (h : Keeps S w w') (hS : ∀ b ∈ S, ∀ o x, w.cell? ⟨b, o, none⟩ ≠ some (.int .u8 x)) : KB w w' := fun b o x hx => by
  by_cases hb : b ∈ S
  · exact absurd hx (hS b hb o x)
  · rw [h.cell b o (lt_of_cell hx) hb]; exact hx
theorem Keeps.kb0 {w w' : World} (h : Keeps [] w w') : KB w w' := h.kb (by simp)
theorem KB.alloc (w : World) (o : Obj) : KB w (w.alloc o) := ((Keeps.refl [] w).alloc o).kb0
theorem KB.drew (w : World) : KB w w.drew := fun _ _ _ h => h
theorem KB.setCell (w : World) {b o : Nat} {u : Value} (v : Value) (h : w.cell? ⟨b, o, none⟩ = some u) (hu : ∀ x, u ≠ .int .u8 x) : KB w (w.setCell ⟨b, o, none⟩ v) := fun i j x hx => by
  rw [World.cell?_setCell_other]
  · exact hx
  · intro e; cases e; rw [h] at hx; cases hx; exact hu _ rfl
theorem SlB.kb {w w' : World} {v : Value} {l : List UInt8} (h : SlB w v l) (hk : KB w w') : SlB w' v l := by
  obtain ⟨h1, a, cap, rfl, h2, h3, h0, h4⟩ := h
  refine ⟨h1, a, cap, rfl, h2, h3, h0, fun hp => ?_⟩
  obtain ⟨g, o, rfl, hc⟩ := h4 hp
  refine ⟨g, o, rfl, fun j u hj => ?_⟩
  have := hc j u hj
  obtain ⟨b, _, rfl⟩ := List.mem_map.1 (List.mem_of_getElem? hj)
  exact hk _ _ _ this
/-- A block of written-out cells without bytes. -/
theorem no_byte {w : World} {b : Nat} {cs : Array Value} {t : TypeId} {f : Nat × Nat} (h : w.heap[b]? = some (.cells cs t f)) (hc : ∀ u ∈ cs.toList, ∀ x, u ≠ .int .u8 x) : ∀ o x, w.cell? ⟨b, o, none⟩ ≠ some (.int .u8 x) := fun o x e => by
  have : cs[o]? = some (.int .u8 x) := by simpa [World.cell?, h] using e
  exact hc _ (by simpa using Array.mem_of_getElem? this) x rfl
theorem Grw.keepsO {w w' : World} {v v' : Value} (k : Grw w w' v v') : Keeps v.ownBlock.toList w w' :=
  ⟨k.grown.os, k.grown.tape, k.grown.output, k.grown.size, fun i hi hn => k.grown.block i hi (fun e => hn (by rw [← e]; simp))⟩
/-- A slice grows whose block has no bytes. -/
theorem Grw.kb {w w' : World} {v v' : Value} (k : Grw w w' v v') (h : AllC w v (fun u => ∀ x, u ≠ .int .u8 x)) : KB w w' :=
  k.keepsO.kb fun b hb o x e => h b (by simpa using hb) o _ e x rfl
end Go.Proofs.YtiplgpefapeapaaGreat

namespace Go.Proofs.YtiplgpefapeapaaGreat

/-- The digits of a number, the most significant one first. -/
def digs (n : Nat) : List UInt8 := if h : n = 0 then [] else digs (n / 256) ++ [UInt8.ofNat (n % 256)]
termination_by n
decreasing_by omega
theorem digs_zero : digs 0 = [] := by rw [digs]; simp
theorem digs_pos {n : Nat} (h : 0 < n) : digs n = digs (n / 256) ++ [UInt8.ofNat (n % 256)] := by rw [digs]; simp [show n ≠ 0 by omega]
theorem digs_len_pos {n : Nat} (h : 0 < n) : (digs n).length = (digs (n / 256)).length + 1 := by rw [digs_pos h]; simp
theorem digs_len_lt : ∀ (k n : Nat), n < 256 ^ k → (digs n).length ≤ k
  | 0, n, h => by have : n = 0 := by simpa using h
                  subst this; simp [digs_zero]
  | k + 1, n, h => by
    rcases Nat.eq_zero_or_pos n with rfl | hp
    · simp [digs_zero]
    · rw [digs_len_pos hp]
      have := digs_len_lt k (n / 256) (by rw [Nat.pow_succ] at h; omega)
      omega
theorem digs_len8 {n : Nat} (h : n < 18446744073709551616) : (digs n).length ≤ 8 := digs_len_lt 8 n (by simpa using h)
/-- The encoding of a number. -/
def encU (n : Nat) : List UInt8 := UInt8.ofNat (digs n).length :: digs n
theorem encU_len {n : Nat} (h : n < 18446744073709551616) : (encU n).length ≤ 9 := by have := digs_len8 h; simp [encU]; omega
/-- The number that digits stand for. -/
def valU (l : List UInt8) : Nat := l.foldl (fun n b => n * 256 + b.toNat) 0
theorem valU_snoc (l : List UInt8) (b : UInt8) : valU (l ++ [b]) = valU l * 256 + b.toNat := by simp [valU]
theorem valU_lt : ∀ (k : Nat) (l : List UInt8), l.length = k → valU l < 256 ^ k
  | 0, l, h => by rw [List.length_eq_zero_iff.1 h]; simp [valU]
  | k + 1, l, h => by
    obtain ⟨m, b, rfl⟩ : ∃ m b, l = m ++ [b] := ⟨l.dropLast, l.getLast (by intro e; subst e; simp at h), (List.dropLast_concat_getLast _).symm⟩
    have := valU_lt k m (by simpa using h)
    have hb := b.toNat_lt
    rw [valU_snoc, Nat.pow_succ]; omega
theorem digs_valU : ∀ (k : Nat) (l : List UInt8), l.length = k → (∀ b, l[0]? = some b → b ≠ 0) → digs (valU l) = l
  | 0, l, h, _ => by rw [List.length_eq_zero_iff.1 h]; simp [valU, digs_zero]
  | k + 1, l, h, h0 => by
    obtain ⟨m, b, rfl⟩ : ∃ m b, l = m ++ [b] := ⟨l.dropLast, l.getLast (by intro e; subst e; simp at h), (List.dropLast_concat_getLast _).symm⟩
    have hm : m.length = k := by simpa using h
    have hb := b.toNat_lt
    rcases Nat.eq_zero_or_pos k with rfl | hk
    · have : m = [] := List.length_eq_zero_iff.1 hm
      subst this
      have hb0 : b ≠ 0 := h0 b (by simp)
      have hp : 0 < b.toNat := by
        rcases Nat.eq_zero_or_pos b.toNat with e | e
        · exact absurd (UInt8.toNat_inj.1 (by simpa using e)) hb0
        · exact e
      simp only [valU, List.nil_append, List.foldl_cons, List.foldl_nil, Nat.zero_mul, Nat.zero_add]
      rw [digs_pos hp, show b.toNat / 256 = 0 by omega, digs_zero, show b.toNat % 256 = b.toNat by omega]; simp
    · have h0' : ∀ c, m[0]? = some c → c ≠ 0 := fun c hc => h0 c (by rw [List.getElem?_append_left (by omega)]; exact hc)
      have ih := digs_valU k m hm h0'
      have hpos : 0 < valU m := by
        rcases Nat.eq_zero_or_pos (valU m) with e | e
        · rw [e, digs_zero] at ih; subst ih; simp at hm; omega
        · exact e
      rw [valU_snoc, digs_pos (by omega), show (valU m * 256 + b.toNat) / 256 = valU m by omega, ih, show (valU m * 256 + b.toNat) % 256 = b.toNat by omega]; simp
end Go.Proofs.YtiplgpefapeapaaGreat

namespace Go.Proofs.YtiplgpefapeapaaGreat
namespace Free
open Go Go.RowKit

/-- `w'` is `w` with new blocks and draws, and with writes to blocks of `S` alone. -/
structure KeepsP (S : Nat → Prop) (w w' : World) : Prop where
  os : w'.os = w.os
  tape : w'.tape = w.tape
  output : w'.output = w.output
  size : w.heap.size ≤ w'.heap.size
  block : ∀ k, k < w.heap.size → ¬ S k → w'.heap[k]? = w.heap[k]?
theorem KeepsP.refl (S : Nat → Prop) (w : World) : KeepsP S w w := ⟨rfl, rfl, rfl, Nat.le_refl _, fun _ _ _ => rfl⟩
theorem KeepsP.trans {S : Nat → Prop} {a b c : World} (h : KeepsP S a b) (k : KeepsP S b c) : KeepsP S a c :=
  ⟨k.os.trans h.os, k.tape.trans h.tape, k.output.trans h.output, Nat.le_trans h.size k.size,
    fun i hi hs => (k.block i (Nat.lt_of_lt_of_le hi h.size) hs).trans (h.block i hi hs)⟩
theorem KeepsP.mono {S T : Nat → Prop} {w w' : World} (h : KeepsP S w w') (hst : ∀ k, S k → T k) : KeepsP T w w' :=
  ⟨h.os, h.tape, h.output, h.size, fun k hk hT => h.block k hk fun hs => hT (hst k hs)⟩
theorem KeepsP.of {w w' : World} {S : List Nat} {T : Nat → Prop} (h : Keeps S w w') (hst : ∀ k ∈ S, T k) : KeepsP T w w' :=
  ⟨h.os, h.tape, h.output, h.size, fun k hk hT => h.block k hk fun hs => hT (hst k hs)⟩
theorem KeepsP.to {w0 w w' : World} {S : List Nat} {T : Nat → Prop} (h : Keeps S w0 w) (k : KeepsP T w w') (hst : ∀ b, T b → b ∈ S ∨ w0.heap.size ≤ b) : Keeps S w0 w' :=
  ⟨k.os.trans h.os, k.tape.trans h.tape, k.output.trans h.output, Nat.le_trans h.size k.size,
    fun i hi hs => (k.block i (Nat.lt_of_lt_of_le hi h.size) (fun ht => by rcases hst i ht with h1 | h1; exact hs h1; omega)).trans (h.block i hi hs)⟩
theorem KeepsP.cell {S : Nat → Prop} {w w' : World} (h : KeepsP S w w') : ∀ b o, b < w.heap.size → ¬ S b → w'.cell? ⟨b, o, none⟩ = w.cell? ⟨b, o, none⟩ :=
  fun b o hb hs => World.cell?_of_block (w := w) (a := ⟨b, o, none⟩) (h.block b hb hs)
theorem KeepsP.frozen {S : Nat → Prop} {w w' : World} (h : KeepsP S w w') : ∀ b o, b < w.heap.size → ¬ S b → w'.frozen? ⟨b, o, none⟩ = w.frozen? ⟨b, o, none⟩ :=
  fun b o hb hs => World.frozen?_of_block (w := w) (a := ⟨b, o, none⟩) (h.block b hb hs)
theorem KeepsP.alloc (S : Nat → Prop) (w : World) (o : Obj) : KeepsP S w (w.alloc o) := ⟨rfl, rfl, rfl, by simp, fun k hk _ => Below.heap_alloc _ _ _ hk⟩
theorem KeepsP.setCell {S : Nat → Prop} (w : World) {p : Addr} (hp : S p.block) (u : Value) : KeepsP S w (w.setCell p u) :=
  ⟨rfl, rfl, rfl, by simp [World.setCell], fun k _ hs => Below.heap_setCell _ _ _ _ (by rintro rfl; exact hs hp)⟩
theorem KeepsP.grown {S : Nat → Prop} {w w' : World} {row : Option Nat} (hg : w.grownBy w' row) (hr : ∀ k, row = some k → S k) : KeepsP S w w' :=
  ⟨hg.os, hg.tape, hg.output, hg.size, fun k hk hs => hg.block k hk (fun e => hs (hr k e.symm))⟩

def fill (v : Nat → Value) (S : Nat → Bool) : List Oper → Nat → Act → Act
  | [], _, a => a
  | o :: r, k, a => fill v S r (k + 1) (if S k then a.put o.dst (v k) else a)

theorem fill_congr {v v' : Nat → Value} {S S' : Nat → Bool} : ∀ (l : List Oper) (k : Nat) (a : Act), (∀ j, k ≤ j → j < k + l.length → S j = S' j ∧ (S j = true → v j = v' j)) → fill v S l k a = fill v' S' l k a
  | [], _, _, _ => rfl
  | o :: r, k, a, h => by
    have h0 := h k (Nat.le_refl _) (by simp)
    unfold fill
    rw [fill_congr r (k + 1) _ (fun j hj hlt => h j (by omega) (by simp; omega))]
    congr 1
    rw [← h0.1]
    split
    · rw [h0.2 ‹_›]
    · rfl

theorem fill_none {v : Nat → Value} : ∀ (l : List Oper) (k : Nat) (a : Act), fill v (fun _ => false) l k a = a
  | [], _, _ => rfl
  | o :: r, k, a => by unfold fill; simp [fill_none r (k + 1) a]

theorem fill_comm {v : Nat → Value} {S : Nat → Bool} {x : Value} {d : Option Tmp} : ∀ (l : List Oper) (k : Nat) (a : Act), (∀ p ∈ l, ∀ t, d = some t → p.dst ≠ some t) →
    fill v S l k (a.put d x) = (fill v S l k a).put d x
  | [], _, _, _ => rfl
  | o :: r, k, a, h => by
    unfold fill
    split
    · rw [Act.put_comm a x (v k) (fun t ht => h o (by simp) t ht)]
      exact fill_comm r (k + 1) _ (fun p hp => h p (by simp [hp]))
    · exact fill_comm r (k + 1) _ (fun p hp => h p (by simp [hp]))

/-- One operation more. -/
theorem fill_put {v : Nat → Value} {S S' : Nat → Bool} {i : Nat} {o : Oper} (hi : S i = false) (hi' : S' i = true) (hS : ∀ j, j ≠ i → S' j = S j) : ∀ (l : List Oper) (k : Nat) (a : Act), k ≤ i → l[i - k]? = some o →
    (∀ j p, l[j]? = some p → k + j ≠ i → ∀ t, o.dst = some t → p.dst ≠ some t) → fill v S' l k a = (fill v S l k a).put o.dst (v i)
  | [], k, a, _, ho, _ => by simp at ho
  | p :: r, k, a, hk, ho, hd => by
    unfold fill
    by_cases e : k = i
    · subst e
      have hp : p = o := by simpa using ho
      subst hp
      rw [hi, hi']
      simp only [if_true, Bool.false_eq_true, if_false]
      have : fill v S' r (k + 1) (a.put p.dst (v k)) = fill v S r (k + 1) (a.put p.dst (v k)) :=
        fill_congr r (k + 1) _ (fun j hj _ => ⟨hS j (by omega), fun _ => rfl⟩)
      rw [this]
      refine fill_comm r (k + 1) a (fun q hq t ht => ?_)
      obtain ⟨j, hj⟩ := List.getElem?_of_mem hq
      exact hd (j + 1) q (by simpa using hj) (by omega) t ht
    · rw [hS k e]
      refine fill_put hi hi' hS r (k + 1) _ (by omega) ?_ (fun j q hq hne => hd (j + 1) q (by simpa using hq) (by omega))
      have : i - k = (i - (k + 1)) + 1 := by omega
      rw [this] at ho
      simpa using ho

def Agree (L : List Tmp) (a b : Act) : Prop := a.tmps.size = b.tmps.size ∧ ∀ t ∈ L, a.tmps[t]? = b.tmps[t]?
theorem Agree.refl (L : List Tmp) (a : Act) : Agree L a a := ⟨rfl, fun _ _ => rfl⟩
theorem Agree.symm {L : List Tmp} {a b : Act} (h : Agree L a b) : Agree L b a := ⟨h.1.symm, fun t ht => (h.2 t ht).symm⟩
theorem Agree.both {L : List Tmp} {a b : Act} (h : Agree L a b) (d : Option Tmp) (v : Value) : Agree L (a.put d v) (b.put d v) := by
  cases d with
  | none => exact h
  | some d =>
    refine ⟨by simp [Act.put, h.1], fun t ht => ?_⟩
    simp only [Act.put, Array.getElem?_setIfInBounds, h.1, h.2 t ht]
theorem Agree.left {L : List Tmp} {a b : Act} (h : Agree L a b) (d : Option Tmp) (v : Value) (hd : ∀ t, d = some t → t ∉ L) : Agree L (a.put d v) b := by
  cases d with
  | none => exact h
  | some d =>
    refine ⟨by simp [Act.put, h.1], fun t ht => ?_⟩
    have : d ≠ t := fun e => hd d rfl (e ▸ ht)
    simp only [Act.put, Array.getElem?_setIfInBounds_ne this, h.2 t ht]
theorem fill_agree {L : List Tmp} {v : Nat → Value} {S T : Nat → Bool} : ∀ (l : List Oper) (k : Nat) (a b : Act), Agree L a b →
    (∀ j p, l[j]? = some p → S (k + j) ≠ T (k + j) → ∀ t, p.dst = some t → t ∉ L) → Agree L (fill v S l k a) (fill v T l k b)
  | [], _, _, _, h, _ => h
  | o :: r, k, a, b, h, hd => by
    unfold fill
    have h0 := hd 0 o rfl
    refine fill_agree r (k + 1) _ _ ?_ (fun j p hp hne => hd (j + 1) p (by simpa using hp) (by rwa [show k + (j + 1) = k + 1 + j from by omega]))
    simp only [Nat.add_zero] at h0
    cases hs : S k <;> cases ht : T k <;> simp only [if_true, Bool.false_eq_true, if_false]
    · exact h
    · exact (h.symm.left _ _ (h0 (by simp [hs, ht]))).symm
    · exact h.left _ _ (h0 (by simp [hs, ht]))
    · exact h.both _ _

section
variable {ops : Array Oper}
theorem exec_agree {o : Oper} {a b : Act} (h : Agree (o.looksAt ops) a b) (hs : ∀ cs c, o.op ≠ .select cs c) : execOp a.eval o = execOp b.eval o := by
  refine execOp_congr o hs fun x hx => ?_
  cases x with
  | tmp t =>
    have ht : t ∈ o.looksAt ops := by
      unfold Oper.looksAt
      refine List.mem_append.2 (.inl (List.mem_filterMap.2 ⟨.tmp t, by simpa using hx, rfl⟩))
    have := h.2 t ht
    simp [Act.eval, this]
  | _ => rfl
theorem wanted_agree {o : Oper} {a b : Act} (h : Agree (o.looksAt ops) a b) : Region.wanted o (yielded ops a.tmps) = Region.wanted o (yielded ops b.tmps) := by
  unfold Region.wanted
  cases hg : o.guard with
  | none => rfl
  | some g =>
    obtain ⟨g, want⟩ := g
    simp only
    congr 1
    unfold yielded
    cases hd : (ops[g]?).bind (·.dst) with
    | none => rfl
    | some d =>
      have ht : d ∈ o.looksAt ops := by
        unfold Oper.looksAt
        refine List.mem_append.2 (.inr ?_)
        rw [hg]
        simp [hd]
      have := h.2 d ht
      simp [this]
end

def pre (ops : Array Oper) (j i : Nat) : Bool := ((Region.before ops).getD i 0).testBit j
/-- What operation `i` may know of operation `j`: `j` has run, and nothing that could undo its fact can have run. -/
def av (ops : Array Oper) (kills : Nat → Nat → Bool) (j i : Nat) : Bool := pre ops j i && (List.range ops.size).all fun k => !kills k j || k == i || pre ops i k
def unk (ops : Array Oper) (kills : Nat → Nat → Bool) (j : Nat) : Bool := (List.range ops.size).all fun k => !kills k j
theorem av_pre {ops : Array Oper} {kills : Nat → Nat → Bool} {j i : Nat} (h : av ops kills j i = true) : pre ops j i = true := by
  unfold av at h; simp only [Bool.and_eq_true] at h; exact h.1
theorem av_kill {ops : Array Oper} {kills : Nat → Nat → Bool} {j i : Nat} (h : av ops kills j i = true) {k : Nat} (hk : k < ops.size) (hkl : kills k j = true) : k = i ∨ pre ops i k = true := by
  unfold av at h
  simp only [Bool.and_eq_true] at h
  have := List.all_eq_true.1 h.2 k (List.mem_range.2 hk)
  simpa [hkl] using this
/-- What the region's text must be like; asked of the kernel. -/
def okB (ops : Array Oper) : Bool :=
  (List.range ops.size).all fun i => match ops[i]? with
    | none => false
    | some o =>
      (match o.op with | .select .. => false | _ => true) &&
      (o.after.toList.all fun e => !Region.binds .any e || decide (e.on < i)) &&
      (List.range ops.size).all fun j => match ops[j]? with
        | none => false
        | some p => (!pre ops j i || o.after.toList.any fun e => Region.binds .any e && (e.on == j || pre ops j e.on)) &&
          (i == j || ((match o.dst with | some d => p.dst != some d | none => true) && (pre ops j i || pre ops i j || p.apart ops o)))

structure Ok (ops : Array Oper) : Prop where
  sel : ∀ (i : Nat) (o : Oper), ops[i]? = some o → ∀ cs c, o.op ≠ .select cs c
  low : ∀ (i : Nat) (o : Oper), ops[i]? = some o → ∀ e ∈ o.after, Region.binds .any e = true → e.on < i
  road : ∀ (i : Nat) (o : Oper), ops[i]? = some o → ∀ j, j < ops.size → pre ops j i = true → ∃ e ∈ o.after, Region.binds .any e = true ∧ (e.on = j ∨ pre ops j e.on = true)
  dst : ∀ (i : Nat) (o : Oper) (j : Nat) (p : Oper), ops[i]? = some o → ops[j]? = some p → i ≠ j → ∀ t, o.dst = some t → p.dst ≠ some t
  apart : ∀ (i : Nat) (o : Oper) (j : Nat) (p : Oper), ops[i]? = some o → ops[j]? = some p → i ≠ j → pre ops j i = true ∨ pre ops i j = true ∨ p.apart ops o = true

theorem ok_of {ops : Array Oper} (h : okB ops = true) : Ok ops := by
  have h1 : ∀ (i : Nat) (o : Oper), ops[i]? = some o → (match o.op with | .select .. => false | _ => true) = true ∧ (o.after.toList.all fun e => !Region.binds .any e || decide (e.on < i)) = true ∧
      ∀ (j : Nat) (p : Oper), ops[j]? = some p → (!pre ops j i || o.after.toList.any fun e => Region.binds .any e && (e.on == j || pre ops j e.on)) = true ∧
          (i == j || ((match o.dst with | some d => p.dst != some d | none => true) && (pre ops j i || pre ops i j || p.apart ops o))) = true := by
    intro i o ho
    have hi : i < ops.size := (Array.getElem?_eq_some_iff.1 ho).1
    have := List.all_eq_true.1 h i (List.mem_range.2 hi)
    simp only [ho, Bool.and_eq_true] at this
    refine ⟨this.1.1, this.1.2, fun j p hp => ?_⟩
    have hj : j < ops.size := (Array.getElem?_eq_some_iff.1 hp).1
    have := List.all_eq_true.1 this.2 j (List.mem_range.2 hj)
    simpa only [hp, Bool.and_eq_true] using this
  refine ⟨fun i o ho cs c e => ?_, fun i o ho e he hb => ?_, fun i o ho j hj hp => ?_, fun i o j p ho hp hne t ht => ?_, fun i o j p ho hp hne => ?_⟩
  · have := (h1 i o ho).1
    simp [e] at this
  · have := List.all_eq_true.1 (h1 i o ho).2.1 e (by simpa using he)
    simpa [hb] using this
  · have hp' : ops[j]? = some ops[j] := by simp [hj]
    have := ((h1 i o ho).2.2 j _ hp').1
    simp only [hp, Bool.not_true, Bool.false_or, List.any_eq_true, Bool.and_eq_true, Bool.or_eq_true, beq_iff_eq] at this
    obtain ⟨e, he, hb⟩ := this
    exact ⟨e, by simpa using he, hb⟩
  · have := ((h1 i o ho).2.2 j p hp).2
    simp only [Bool.or_eq_true, Bool.and_eq_true, beq_iff_eq, hne, false_or] at this
    have h2 := this.1
    rw [ht] at h2
    simpa using h2
  · have := ((h1 i o ho).2.2 j p hp).2
    simp only [Bool.or_eq_true, Bool.and_eq_true, beq_iff_eq, hne, false_or] at this
    exact or_assoc.1 this.2

/-- What an operation that is not loud leaves: the world as it was, and this one value. -/
def quietUpon (w : World) (c : Value) : Result Next → Prop
  | .ok (.value u) w' => w' = w ∧ u = c
  | .ok .skip w' => w' = w ∧ undef = c
  | _ => False
/-- What a loud operation leaves. -/
def loudUpon (P : Program) (R : Value → World → Prop) : Result Next → Prop
  | .ok (.value u) w' => R u w'
  | .ok .skip w' => R undef w'
  | .ok (.enter f args) w' => Calls P f args w' fun e w'' => ∃ v, e = .returned v ∧ R v w''
  | _ => False
def Quiet (P : Program) (o : Oper) (a : Act) (w : World) (c : Value) : Prop := quietUpon w c ((execOp a.eval o).run P w)
def Loud (P : Program) (o : Oper) (a : Act) (w : World) (R : Value → World → Prop) : Prop := loudUpon P R ((execOp a.eval o).run P w)

theorem quiet_one {P : Program} {o : Oper} {a b : Act} {w : World} {c d : Value} (h : Quiet P o a w c) (k : Quiet P o b w d) (e : execOp a.eval o = execOp b.eval o) : c = d := by
  unfold Quiet at h k
  rw [e] at h
  generalize (execOp b.eval o).run P w = r at h k
  cases r with
  | halt x w' => exact h.elim
  | ok n w' =>
    cases n <;> simp only [quietUpon] at h k <;> first | exact h.elim | exact h.2.symm.trans k.2
theorem wp_of_quiet {P : Program} {o : Oper} {a b : Act} {w : World} {c : Value} {K : Act → World → Prop} {Q : Exit → Act → World → Prop} (h : Quiet P o a w c) (e : execOp b.eval o = execOp a.eval o) (hK : K (b.put o.dst c) w) : o.wp P b w K Q := by
  unfold Quiet at h
  unfold Oper.wp
  rw [e]
  generalize (execOp a.eval o).run P w = r at h
  cases r with
  | halt x w' => exact h.elim
  | ok n w' =>
    cases n <;> simp only [quietUpon] at h <;> first | exact h.elim | skip
    · obtain ⟨rfl, rfl⟩ := h; exact hK
    · obtain ⟨rfl, rfl⟩ := h; exact hK
theorem wp_of_loud {P : Program} {o : Oper} {a b : Act} {w : World} {R : Value → World → Prop} {K : Act → World → Prop} {Q : Exit → Act → World → Prop} (h : Loud P o a w R) (e : execOp b.eval o = execOp a.eval o)
    (hK : ∀ v w', R v w' → K (b.put o.dst v) w') : o.wp P b w K Q := by
  unfold Loud at h
  unfold Oper.wp
  rw [e]
  generalize (execOp a.eval o).run P w = r at h
  cases r with
  | halt x w' => exact h.elim
  | ok n w' =>
    cases n <;> simp only [loudUpon] at h <;> first | exact h.elim | skip
    · exact hK _ _ h
    · exact hK _ _ h
    · exact h.mono fun e' w'' he => by
        obtain ⟨v, rfl, hv⟩ := he
        exact hK _ _ hv

/-- The blocks that may have been written when operation `i` comes up. -/
def sx (ops : Array Oper) (T : Nat → Nat → Prop) (i : Nat) (b : Nat) : Prop := ∃ k, k ≠ i ∧ pre ops i k = false ∧ T k b
/-- .. and behind the region. -/
def sa (T : Nat → Nat → Prop) (b : Nat) : Prop := ∃ k, T k b
section
variable (P : Program) (ops : Array Oper) (w0 : World) (loud : Nat → Bool) (F : Nat → Value → World → Prop) (T : Nat → Nat → Prop) (kills : Nat → Nat → Bool) (Q : Act → World → Prop)

/-- THE WALK, in the order of the text. -/
def walk : List Oper → Nat → (Nat → World → Prop) → Act → Prop
  | [], n, fs, a => ∀ w', KeepsP (sa T) w0 w' → (∀ j, j < n → unk ops kills j = true → fs j w') → Q a w'
  | o :: r, i, fs, a =>
    if Region.wanted o (yielded ops a.tmps) then
      if loud i then
        (∀ w', KeepsP (sx ops T i) w0 w' → (∀ j, j < i → av ops kills j i = true → fs j w') → Loud P o a w' (fun v w'' => F i v w'' ∧ KeepsP (T i) w' w'')) ∧
        ∀ v, walk r (i + 1) (fun j => if j = i then F i v else fs j) (a.put o.dst v)
      else
        ∃ c, (∀ w', KeepsP (sx ops T i) w0 w' → (∀ j, j < i → av ops kills j i = true → fs j w') → Quiet P o a w' c) ∧ walk r (i + 1) fs (a.put o.dst c)
    else walk r (i + 1) fs (a.put o.dst undef)

variable (a0 : Act)
/-- The frame ahead of operation `i`, in the order of the text. -/
def lex (u : Nat → Value) (i : Nat) : Act := fill u (fun j => decide (j < i)) ops.toList 0 a0
def want (u : Nat → Value) (i : Nat) : Bool := match ops[i]? with | some o => Region.wanted o (yielded ops (lex ops a0 u i).tmps) | none => false
def fact (u : Nat → Value) (i : Nat) (w : World) : Prop := want ops a0 u i = true → loud i = true → F i (u i) w

def Step (l : Nat → Value) (u : Nat → Value) (i : Nat) (o : Oper) : Prop :=
  if Region.wanted o (yielded ops (lex ops a0 u i).tmps) then
    if loud i then u i = l i ∧ ∀ w', KeepsP (sx ops T i) w0 w' → (∀ j, j < i → av ops kills j i = true → fact ops loud F a0 u j w') → Loud P o (lex ops a0 u i) w' (fun v w'' => F i v w'' ∧ KeepsP (T i) w' w'')
    else ∀ w', KeepsP (sx ops T i) w0 w' → (∀ j, j < i → av ops kills j i = true → fact ops loud F a0 u j w') → Quiet P o (lex ops a0 u i) w' (u i)
  else u i = undef

variable {P ops w0 loud F T kills Q a0}

theorem lex_congr {u u' : Nat → Value} {i : Nat} (h : ∀ j, j < i → u j = u' j) : lex ops a0 u i = lex ops a0 u' i :=
  fill_congr _ 0 _ fun j _ _ => ⟨rfl, fun hj => h j (by simpa using hj)⟩
theorem want_congr {u u' : Nat → Value} {i : Nat} (h : ∀ j, j < i → u j = u' j) : want ops a0 u i = want ops a0 u' i := by
  unfold want; rw [lex_congr h]
theorem fact_congr {u u' : Nat → Value} {i : Nat} {w : World} (h : ∀ j, j ≤ i → u j = u' j) : fact ops loud F a0 u i w = fact ops loud F a0 u' i w := by
  unfold fact; rw [want_congr (fun j hj => h j (by omega)), h i (Nat.le_refl _)]
theorem step_congr {l u u' : Nat → Value} {i : Nat} {o : Oper} (h : ∀ j, j ≤ i → u j = u' j) (hs : Step P ops w0 loud F T kills a0 l u i o) : Step P ops w0 loud F T kills a0 l u' i o := by
  have hl : lex ops a0 u i = lex ops a0 u' i := lex_congr (fun j hj => h j (by omega))
  have hf : ∀ w', (∀ j, j < i → av ops kills j i = true → fact ops loud F a0 u' j w') → ∀ j, j < i → av ops kills j i = true → fact ops loud F a0 u j w' :=
    fun w' hh j hj hp => by rw [fact_congr (fun k hk => h k (by omega))]; exact hh j hj hp
  unfold Step at *
  rw [hl, h i (Nat.le_refl _)] at hs
  split
  · rename_i hw
    rw [if_pos hw] at hs
    split
    · rename_i hl2
      rw [if_pos hl2] at hs
      exact ⟨hs.1, fun w' hk hh => hs.2 w' hk (hf w' hh)⟩
    · rename_i hl2
      rw [if_neg hl2] at hs
      exact fun w' hk hh => hs w' hk (hf w' hh)
  · rename_i hw
    rw [if_neg hw] at hs
    exact hs
theorem lex_succ (hok : Ok ops) (u : Nat → Value) (i : Nat) (o : Oper) (ho : ops[i]? = some o) : lex ops a0 u (i + 1) = (lex ops a0 u i).put o.dst (u i) := by
  unfold lex
  refine fill_put (i := i) (o := o) (by simp) (by simp) (fun j hj => ?_) _ 0 _ (Nat.zero_le _) (by simpa using ho) (fun j p hp hne t ht => ?_)
  · by_cases h : j < i
    · simp [h]; omega
    · simp [h]; omega
  · exact hok.dst i o j p ho (by simpa using hp) (by omega) t ht

/-- For each choice of the loud operations' values there are values of all operations that fit. -/
theorem flat (hok : Ok ops) (l : Nat → Value) : ∀ (r : List Oper) (i : Nat) (u : Nat → Value) (fs : Nat → World → Prop), ops.toList.drop i = r →
    (∀ j o, ops[j]? = some o → j < i → Step P ops w0 loud F T kills a0 l u j o) → (∀ j w', j < i → fact ops loud F a0 u j w' → fs j w') → (∀ j w', i ≤ j → fs j w') →
    walk P ops w0 loud F T kills Q r i fs (lex ops a0 u i) →
    ∃ u' : Nat → Value, (∀ j, j < i → u' j = u j) ∧ (∀ j o, ops[j]? = some o → Step P ops w0 loud F T kills a0 l u' j o) ∧
      ∀ w', KeepsP (sa T) w0 w' → (∀ j, j < ops.size → unk ops kills j = true → fact ops loud F a0 u' j w') → Q (lex ops a0 u' ops.size) w'
  | [], i, u, fs, hr, hs, hf, hge, hw => by
    have hn : ops.size ≤ i := by simpa using hr
    have hx : lex ops a0 u i = lex ops a0 u ops.size := fill_congr _ 0 _ fun j _ hj => by
      have : j < ops.size := by simpa using hj
      exact ⟨by simp [this]; omega, fun _ => rfl⟩
    refine ⟨u, fun _ _ => rfl, fun j o ho => hs j o ho (by have := (Array.getElem?_eq_some_iff.1 ho).1; omega), fun w' hk hh => ?_⟩
    rw [← hx]
    refine hw w' hk (fun j hj hun => hf j w' hj ?_)
    by_cases h : j < ops.size
    · exact hh j h hun
    · unfold fact want
      have : ops[j]? = none := by simp; omega
      simp [this]
  | o :: r, i, u, fs, hr, hs, hf, hge, hw => by
    have ho : ops[i]? = some o := by
      have := congrArg (fun x : List Oper => x[0]?) hr
      simpa using this
    have hr' : ops.toList.drop (i + 1) = r := by
      have := congrArg List.tail hr
      simpa using this
    -- the value that this operation gets
    have go : ∀ (c : Value) (fs' : Nat → World → Prop), Step P ops w0 loud F T kills a0 l (fun j => if j = i then c else u j) i o →
        (∀ j w', j < i → fs j w' → fs' j w') → (∀ w', fact ops loud F a0 (fun j => if j = i then c else u j) i w' → fs' i w') → (∀ j w', i + 1 ≤ j → fs' j w') → walk P ops w0 loud F T kills Q r (i + 1) fs' ((lex ops a0 u i).put o.dst c) →
        ∃ u' : Nat → Value, (∀ j, j < i → u' j = u j) ∧ (∀ j o, ops[j]? = some o → Step P ops w0 loud F T kills a0 l u' j o) ∧
          ∀ w', KeepsP (sa T) w0 w' → (∀ j, j < ops.size → unk ops kills j = true → fact ops loud F a0 u' j w') → Q (lex ops a0 u' ops.size) w' := by
      intro c fs' hst hfs hfi hge' hwk
      have hu : ∀ j, j < i → (fun j => if j = i then c else u j) j = u j := fun j hj => by simp; intro e; omega
      have hl : lex ops a0 (fun j => if j = i then c else u j) (i + 1) = (lex ops a0 u i).put o.dst c := by
        rw [lex_succ hok _ i o ho, lex_congr hu]; simp
      obtain ⟨u', h1, h2, h3⟩ := flat hok l r (i + 1) (fun j => if j = i then c else u j) fs' hr'
        (fun j p hp hj => by
          by_cases e : j = i
          · subst e; rw [ho] at hp; cases hp; exact hst
          · exact step_congr (fun k hk => (hu k (by omega)).symm) (hs j p hp (by omega)))
        (fun j w' hj hh => by
          by_cases e : j = i
          · subst e; exact hfi w' hh
          · exact hfs j w' (by omega) (hf j w' (by omega) (by rw [← fact_congr (fun k hk => hu k (by omega))]; exact hh)))
        hge' (by rw [hl]; exact hwk)
      exact ⟨u', fun j hj => (h1 j (by omega)).trans (hu j hj), h2, h3⟩
    have hlex : ∀ c, lex ops a0 (fun j => if j = i then c else u j) i = lex ops a0 u i := fun c => lex_congr fun j hj => by simp; intro e; omega
    have hfc : ∀ c w', (∀ j, j < i → av ops kills j i = true → fact ops loud F a0 (fun j => if j = i then c else u j) j w') → ∀ j, j < i → av ops kills j i = true → fs j w' :=
      fun c w' hh j hj hp => hf j w' hj (by
        have := hh j hj hp
        rwa [fact_congr (u' := u) (fun k hk => by simp; intro e; omega)] at this)
    unfold walk at hw
    by_cases hwant : Region.wanted o (yielded ops (lex ops a0 u i).tmps) = true
    · rw [if_pos hwant] at hw
      by_cases hl : loud i = true
      · rw [if_pos hl] at hw
        refine go (l i) (fun j => if j = i then F i (l i) else fs j) ?_ (fun j w' hj hh => by rw [if_neg (show ¬ j = i by omega)]; exact hh) ?_ (fun j w' hj => by rw [if_neg (show ¬ j = i by omega)]; exact hge j w' (by omega)) (hw.2 (l i))
        · unfold Step
          rw [hlex, if_pos hwant, if_pos hl]
          exact ⟨by simp, fun w' hk hh => hw.1 w' hk (hfc _ w' hh)⟩
        · intro w' hh
          have h1 : want ops a0 (fun j => if j = i then l i else u j) i = true := by
            unfold want; rw [ho]; simp only; rw [hlex]; exact hwant
          have := hh h1 hl
          simpa using this
      · rw [if_neg hl] at hw
        obtain ⟨c, h1, h2⟩ := hw
        refine go c fs ?_ (fun _ _ _ hh => hh) (fun w' _ => hge i w' (Nat.le_refl _)) (fun j w' hj => hge j w' (by omega)) h2
        · unfold Step
          rw [hlex, if_pos hwant, if_neg hl]
          simp only [if_true]
          exact fun w' hk hh => h1 w' hk (hfc _ w' hh)
    · rw [if_neg hwant] at hw
      refine go undef fs ?_ (fun _ _ _ hh => hh) (fun w' _ => hge i w' (Nat.le_refl _)) (fun j w' hj => hge j w' (by omega)) hw
      · unfold Step
        rw [hlex, if_neg hwant]
        simp

theorem ready_sub {ops : Array Oper} {listed : Array Bool} (hok : Ok ops) (hr : Region.ready .any ops listed = []) (hsz : listed.size = ops.size) : ∀ n i, i < n → i < ops.size → listed.getD i false = true
  | 0, _, h, _ => by omega
  | n + 1, i, h, hi => by
    have ih := fun j (hj : j < i) => ready_sub hok hr hsz n j (by omega) (by omega)
    cases hl : listed.getD i false
    · have : i ∈ Region.ready .any ops listed := mem_ready.2 ⟨by
        have h1 : i < listed.size := by omega
        simpa [Array.getD, h1] using hl, ops[i], by simp [hi], fun e he hb => ih e.on (hok.low i _ (by simp [hi]) e he hb)⟩
      rw [hr] at this
      cases this
    · rfl

def count (listed : Array Bool) (n : Nat) : Nat := (List.range n).countP fun i => !listed.getD i false
theorem count_set {listed : Array Bool} {i : Nat} (hi : i < listed.size) (hl : listed.getD i false = false) : ∀ n, i < n → count (listed.setIfInBounds i true) n + 1 = count listed n := by
  have hset : ∀ j, (listed.setIfInBounds i true).getD j false = if j = i then true else listed.getD j false := fun j => by
    simp only [Array.getD_eq_getD_getElem?, Array.getElem?_setIfInBounds]
    by_cases e : i = j
    · subst e; simp [hi]
    · simp [e]; intro h; exact absurd h.symm e
  have same : ∀ n, n ≤ i → count (listed.setIfInBounds i true) n = count listed n := by
    intro n hn
    unfold count
    refine List.countP_congr fun j hj => ?_
    have := List.mem_range.1 hj
    rw [hset, if_neg (by omega)]
  intro n
  induction n with
  | zero => intro h; omega
  | succ n ih =>
    intro hn
    unfold count at *
    rw [List.range_succ, List.countP_append, List.countP_append]
    by_cases e : n = i
    · subst e
      rw [same n (Nat.le_refl _)]
      simp only [List.countP_cons, List.countP_nil, hset, hl]
      simp
    · have := ih (by omega)
      have hx : (listed.setIfInBounds i true).getD n false = listed.getD n false := by rw [hset, if_neg e]
      simp only [List.countP_cons, List.countP_nil, hx]
      omega
theorem getD_set {listed : Array Bool} {i j : Nat} (hi : i < listed.size) : (listed.setIfInBounds i true).getD j false = (if j = i then true else listed.getD j false) := by
  simp only [Array.getD_eq_getD_getElem?, Array.getElem?_setIfInBounds]
  by_cases e : i = j
  · subst e; simp [hi]
  · simp [e]; intro h; exact absurd h.symm e

/-- What holds at every point of a run in whatever order. -/
structure Inv (P : Program) (ops : Array Oper) (w0 : World) (loud : Nat → Bool) (F : Nat → Value → World → Prop) (T : Nat → Nat → Prop) (kills : Nat → Nat → Bool) (a0 : Act) (U : (Nat → Value) → Nat → Value) (listed : Array Bool) (b : Act) (w : World) : Prop where
  size : listed.size = ops.size
  closed : ∀ (i : Nat) (o : Oper), ops[i]? = some o → listed.getD i false = true → ∀ e ∈ o.after, Region.binds .any e = true → listed.getD e.on false = true
  good : KeepsP (fun b => ∃ k, listed.getD k false = true ∧ T k b) w0 w
  some : ∃ l, b = fill (U l) (fun j => listed.getD j false) ops.toList 0 a0 ∧ (∀ j, listed.getD j false = true → (∀ k, k < ops.size → listed.getD k false = true → kills k j = false) → fact ops loud F a0 (U l) j w) ∧
    ∀ l', (∀ j, listed.getD j false = true → l' j = l j) → ∀ j, listed.getD j false = true → U l' j = U l j

theorem closed_pre {ops : Array Oper} {listed : Array Bool} (hok : Ok ops) (hc : ∀ (i : Nat) (o : Oper), ops[i]? = some o → listed.getD i false = true → ∀ e ∈ o.after, Region.binds .any e = true → listed.getD e.on false = true) :
    ∀ n i, i < n → ∀ o, ops[i]? = some o → (∀ e ∈ o.after, Region.binds .any e = true → listed.getD e.on false = true) → ∀ j, j < ops.size → pre ops j i = true → listed.getD j false = true
  | 0, _, h, _, _, _, _, _, _ => by omega
  | n + 1, i, h, o, ho, hr, j, hj, hp => by
    obtain ⟨e, he, hb, h1⟩ := hok.road i o ho j hj hp
    have hl := hr e he hb
    rcases h1 with rfl | h1
    · exact hl
    · have hlt := hok.low i o ho e he hb
      have hi : i < ops.size := (Array.getElem?_eq_some_iff.1 ho).1
      have hoe : ops[e.on]? = some ops[e.on] := by simp [show e.on < ops.size by omega]
      exact closed_pre hok hc n e.on (by omega) _ hoe (hc e.on _ hoe hl) j hj h1

theorem pre_lt {ops : Array Oper} (hok : Ok ops) : ∀ n i, i < n → i < ops.size → ∀ j, j < ops.size → pre ops j i = true → j < i
  | 0, _, h, _, _, _, _ => by omega
  | n + 1, i, h, hi, j, hj, hp => by
    obtain ⟨e, he, hb, h1⟩ := hok.road i ops[i] (by simp [hi]) j hj hp
    have hlt := hok.low i ops[i] (by simp [hi]) e he hb
    rcases h1 with rfl | h1
    · exact hlt
    · have := pre_lt hok n e.on (by omega) (by omega) j hj h1
      omega

theorem any (hok : Ok ops) (U : (Nat → Value) → Nat → Value)
    (hU : ∀ l, (∀ j o, ops[j]? = some o → Step P ops w0 loud F T kills a0 l (U l) j o) ∧ ∀ w', KeepsP (sa T) w0 w' → (∀ j, j < ops.size → unk ops kills j = true → fact ops loud F a0 (U l) j w') → Q (lex ops a0 (U l) ops.size) w')
    (hst : ∀ i k v w w', loud i = true → i ≠ k → kills k i = false → pre ops k i = false → F i v w → KeepsP (T k) w w' → F i v w') {Q' : Exit → Act → World → Prop} (hQ : ∀ a w, Q a w → Q' .normal a w) :
    ∀ (fuel : Nat) (listed : Array Bool) (b : Act) (w : World), Inv P ops w0 loud F T kills a0 U listed b w → count listed ops.size = fuel → wpAny P .any ops Q' fuel listed b w := by
  -- the end: all have run
  have fin : ∀ (listed : Array Bool) (b : Act) (w : World), Inv P ops w0 loud F T kills a0 U listed b w → (∀ i, i < ops.size → listed.getD i false = true) → Q' .normal b w := by
    intro listed b w hI hall
    obtain ⟨l, rfl, hf, _⟩ := hI.some
    refine hQ _ _ ?_
    have : fill (U l) (fun j => listed.getD j false) ops.toList 0 a0 = lex ops a0 (U l) ops.size := fill_congr _ 0 _ fun j _ hj => by
      have : j < ops.size := by simpa using hj
      exact ⟨by rw [hall j this]; simp [this], fun _ => rfl⟩
    rw [this]
    exact (hU l).2 w (hI.good.mono (fun b ⟨k, _, hk⟩ => ⟨k, hk⟩)) (fun j hj hun => hf j (hall j hj) (fun k hk _ => by
      have := List.all_eq_true.1 hun k (List.mem_range.2 hk)
      simpa using this))
  intro fuel
  induction fuel with
  | zero =>
    intro listed b w hI hc
    have hall : ∀ i, i < ops.size → listed.getD i false = true := fun i hi => by
      have := List.countP_eq_zero.1 hc i (List.mem_range.2 hi)
      simpa using this
    refine ⟨?_, fin listed b w hI hall⟩
    refine List.eq_nil_iff_forall_not_mem.2 fun i hi => ?_
    obtain ⟨h1, o, ho, _⟩ := mem_ready.1 hi
    have hlt : i < ops.size := (Array.getElem?_eq_some_iff.1 ho).1
    have h2 := hall i hlt
    have hs : i < listed.size := by rw [hI.size]; exact hlt
    simp [Array.getD, hs] at h1 h2
    rw [h1] at h2
    cases h2
  | succ fuel ih =>
    intro listed b w hI hc
    refine ⟨fun hr => fin listed b w hI (fun i hi => ready_sub hok hr hI.size (i + 1) i (by omega) hi), fun i hi => ?_⟩
    obtain ⟨h1, o, ho, hedge⟩ := mem_ready.1 hi
    have hlt : i < ops.size := (Array.getElem?_eq_some_iff.1 ho).1
    have hs : i < listed.size := by rw [hI.size]; exact hlt
    have hnl : listed.getD i false = false := by simpa [Array.getD, hs] using h1
    have hcount : count (listed.setIfInBounds i true) ops.size = fuel := by
      have := count_set hs hnl ops.size hlt
      omega
    obtain ⟨l, hb, hf, hcons⟩ := hI.some
    have hpre : ∀ j, j < ops.size → pre ops j i = true → listed.getD j false = true := closed_pre hok hI.closed (i + 1) i (by omega) o ho hedge
    -- what the operation looks at is as in the order of the text
    have hagree : ∀ l', (∀ j, listed.getD j false = true → U l' j = U l j) → Agree (o.looksAt ops) (lex ops a0 (U l') i) b := by
      intro l' hl'
      have hb' : b = fill (U l') (fun j => listed.getD j false) ops.toList 0 a0 := by
        rw [hb]; exact fill_congr _ 0 _ fun j _ _ => ⟨rfl, fun hj => (hl' j hj).symm⟩
      rw [hb']
      refine fill_agree _ 0 _ _ (Agree.refl _ _) fun j p hp hne t ht => ?_
      have hp' : ops[j]? = some p := by simpa using hp
      have hj : j < ops.size := (Array.getElem?_eq_some_iff.1 hp').1
      simp only [Nat.zero_add] at hne
      have hji : i ≠ j := fun e => by
        subst e
        rw [hnl] at hne
        simp at hne
      rcases hok.apart i o j p ho hp' hji with h | h | h
      · have h2 := pre_lt hok (i + 1) i (by omega) hlt j hj h
        rw [hpre j hj h] at hne
        simp [h2] at hne
      · have h2 := pre_lt hok (j + 1) j (by omega) hj i hlt h
        have h3 : listed.getD j false = false := by
          cases h4 : listed.getD j false
          · rfl
          · have := closed_pre hok hI.closed (j + 1) j (by omega) p hp' (hI.closed j p hp' h4) i hlt h
            rw [hnl] at this
            cases this
        rw [h3] at hne
        simp at hne
        omega
      · exact (Oper.apart_spec h).1 t ht
    have hag := hagree l (fun _ _ => rfl)
    have hex := exec_agree hag (hok.sel i o ho)
    have hwa := wanted_agree (o := o) hag
    have hfacts : ∀ j, j < i → av ops kills j i = true → fact ops loud F a0 (U l) j w := fun j hj hp => hf j (hpre j (by omega) (av_pre hp)) (fun k hk hkl => by
      cases hkk : kills k j
      · rfl
      · rcases av_kill hp hk hkk with rfl | h
        · rw [hnl] at hkl; cases hkl
        · have hok' : ops[k]? = some ops[k] := by simp [hk]
          have := closed_pre hok hI.closed (k + 1) k (by omega) _ hok' (hI.closed k _ hok' hkl) i hlt h
          rw [hnl] at this; cases this)
    have hclosed' : ∀ (k : Nat) (p : Oper), ops[k]? = some p → (listed.setIfInBounds i true).getD k false = true → ∀ e ∈ p.after, Region.binds .any e = true → (listed.setIfInBounds i true).getD e.on false = true := by
      intro k p hp hk e he hb
      rw [getD_set hs] at hk ⊢
      by_cases e1 : e.on = i
      · rw [if_pos e1]
      · rw [if_neg e1]
        by_cases e2 : k = i
        · subst e2; rw [ho] at hp; cases hp; exact hedge e he hb
        · rw [if_neg e2] at hk; exact hI.closed k p hp hk e he hb
    have hprej : ∀ j, listed.getD j false = true → pre ops i j = false := fun j hj => by
      cases hpp : pre ops i j
      · rfl
      · have hj' : j < ops.size := by
          rcases Nat.lt_or_ge j listed.size with h | h
          · rw [← hI.size]; exact h
          · simp [Array.getD, Nat.not_lt.2 h] at hj
        have := closed_pre hok hI.closed (j + 1) j (by omega) ops[j] (by simp [hj']) (hI.closed j ops[j] (by simp [hj']) hj) i hlt hpp
        rw [hnl] at this; cases this
    have hgood : KeepsP (sx ops T i) w0 w := hI.good.mono (fun b ⟨k, hk, ht⟩ => ⟨k, (fun e => by subst e; rw [hnl] at hk; cases hk), hprej k hk, ht⟩)
    have hgood2 : KeepsP (fun b => ∃ k, (listed.setIfInBounds i true).getD k false = true ∧ T k b) w0 w := hI.good.mono (fun b ⟨k, hk, ht⟩ => ⟨k, (by rw [getD_set hs]; split <;> first | rfl | exact hk), ht⟩)
    have hwsame : ∀ l1, (∀ j, listed.getD j false = true → U l1 j = U l j) → ∀ j (hj' : j < ops.size), listed.getD j false = true → want ops a0 (U l1) j = want ops a0 (U l) j := by
      intro l1 h2 j hj' hj
      have hp' : ops[j]? = some ops[j] := by simp [hj']
      have hprej : ∀ k, k < ops.size → pre ops k j = true → listed.getD k false = true := closed_pre hok hI.closed (j + 1) j (by omega) _ hp' (hI.closed j _ hp' hj)
      unfold want
      rw [hp']
      refine wanted_agree (ops := ops) ?_
      -- both frames agree with the one that has the roads to j alone
      have ag : ∀ u : Nat → Value, Agree (ops[j].looksAt ops) (lex ops a0 u j) (fill u (fun k => pre ops k j && decide (k < ops.size)) ops.toList 0 a0) := by
        intro u
        refine fill_agree _ 0 _ _ (Agree.refl _ _) fun k p hp hne t ht => ?_
        have hpk : ops[k]? = some p := by simpa using hp
        have hk : k < ops.size := (Array.getElem?_eq_some_iff.1 hpk).1
        simp only [Nat.zero_add] at hne
        have hkj : j ≠ k := fun e => by
          subst e
          have : pre ops j j = false := by
            cases hpp : pre ops j j
            · rfl
            · have := pre_lt hok (j + 1) j (by omega) hj' j hj' hpp; omega
          simp [this] at hne
        rcases hok.apart j _ k p hp' hpk hkj with h | h | h
        · have := pre_lt hok (j + 1) j (by omega) hj' k hk h
          simp [this, h, hk] at hne
        · have h9 := pre_lt hok (k + 1) k (by omega) hk j hj' h
          have h10 : pre ops k j = false := by
            cases hpp : pre ops k j
            · rfl
            · have := pre_lt hok (j + 1) j (by omega) hj' k hk hpp; omega
          simp [h10] at hne
          omega
        · exact (Oper.apart_spec h).1 t ht
      have e2 : fill (U l1) (fun k => pre ops k j && decide (k < ops.size)) ops.toList 0 a0 = fill (U l) (fun k => pre ops k j && decide (k < ops.size)) ops.toList 0 a0 :=
        fill_congr _ 0 _ fun k _ _ => ⟨rfl, fun hk => by
          simp only [Bool.and_eq_true, decide_eq_true_eq] at hk
          exact h2 k (hprej k hk.2 hk.1)⟩
      have a1 := ag (U l1)
      rw [e2] at a1
      have a2 := ag (U l)
      exact ⟨a1.1.trans a2.1.symm, fun t ht => (a1.2 t ht).trans (a2.2 t ht).symm⟩
    have next : ∀ (v : Value) (w' : World) (l1 : Nat → Value), (∀ j, listed.getD j false = true → U l1 j = U l j) → U l1 i = v → KeepsP (fun b => ∃ k, (listed.setIfInBounds i true).getD k false = true ∧ T k b) w0 w' → (∀ j, listed.getD j false = true → (∀ k, k < ops.size → listed.getD k false = true ∨ k = i → kills k j = false) → fact ops loud F a0 (U l) j w') → fact ops loud F a0 (U l1) i w' →
        (∀ l', (∀ j, listed.getD j false = true → l' j = l1 j) → l' i = l1 i → U l' i = v ∧ ∀ j, listed.getD j false = true → U l' j = U l1 j) →
        wpAny P .any ops Q' fuel (listed.setIfInBounds i true) (b.put o.dst v) w' := by
      intro v w' l1 h2 h3 h4 h5 h6 h7
      refine ih _ _ _ ⟨by simp [hI.size], hclosed', h4, l1, ?_, ?_, ?_⟩ hcount
      · have e1 : b = fill (U l1) (fun j => listed.getD j false) ops.toList 0 a0 := by
          rw [hb]; exact fill_congr _ 0 _ fun j _ _ => ⟨rfl, fun hj => (h2 j hj).symm⟩
        rw [e1, ← h3]
        refine (fill_put (i := i) (o := o) hnl (by rw [getD_set hs, if_pos rfl]) (fun j hj => by rw [getD_set hs, if_neg hj]) _ 0 _ (Nat.zero_le _) (by simpa using ho) (fun j p hp hne t ht => ?_)).symm
        exact hok.dst i o j p ho (by simpa using hp) (by omega) t ht
      · intro j hj hkl
        rw [getD_set hs] at hj
        by_cases e : j = i
        · subst e; exact h6
        · rw [if_neg e] at hj
          intro ha hb'
          have h8 := h5 j hj (fun k hk hor => hkl k hk (by
            rw [getD_set hs]
            rcases hor with h | h
            · split <;> first | rfl | exact h
            · rw [if_pos h]))
          have hj' : j < ops.size := by
            have : j < listed.size := by
              rcases Nat.lt_or_ge j listed.size with h | h
              · exact h
              · simp [Array.getD, Nat.not_lt.2 h] at hj
            rw [← hI.size]; exact this
          rw [h2 j hj]
          refine h8 ?_ hb'
          rw [← hwsame l1 h2 j hj' hj]; exact ha
      · intro l' hl' j hj
        have hA : ∀ k, listed.getD k false = true → l' k = l1 k := fun k hk => hl' k (by rw [getD_set hs]; split <;> first | rfl | exact hk)
        have hB := h7 l' hA (hl' i (by rw [getD_set hs, if_pos rfl]))
        rw [getD_set hs] at hj
        by_cases e : j = i
        · subst e; rw [hB.1, h3]
        · rw [if_neg e] at hj; exact hB.2 j hj
    have hstep := (hU l).1 i o ho
    unfold wpOp
    simp only [ho]
    unfold Step at hstep
    by_cases hwant : Region.wanted o (yielded ops (lex ops a0 (U l) i).tmps) = true
    · rw [if_pos hwant] at hstep
      rw [← hwa, if_pos hwant]
      refine .inl ?_
      have hwantl : want ops a0 (U l) i = true := by unfold want; rw [ho]; exact hwant
      by_cases hl : loud i = true
      · rw [if_pos hl] at hstep
        refine wp_of_loud (hstep.2 w hgood hfacts) hex.symm fun v w' hv => ?_
        obtain ⟨hF, hK⟩ := hv
        have hgood' : KeepsP (fun b => ∃ k, (listed.setIfInBounds i true).getD k false = true ∧ T k b) w0 w' := (hI.good.mono (fun b ⟨k, hk, ht⟩ => ⟨k, (by rw [getD_set hs]; split <;> first | rfl | exact hk), ht⟩)).trans (hK.mono (fun b hb => ⟨i, (by rw [getD_set hs, if_pos rfl]), hb⟩))
        have hl1 : ∀ j, listed.getD j false = true → (fun k => if k = i then v else l k) j = l j := fun j hj => by
          have : j ≠ i := fun e => by subst e; rw [hnl] at hj; cases hj
          simp [this]
        have hsame := hcons _ hl1
        have hst1 := (hU (fun k => if k = i then v else l k)).1 i o ho
        have hag1 := hagree _ hsame
        have hw1 : Region.wanted o (yielded ops (lex ops a0 (U fun k => if k = i then v else l k) i).tmps) = true := by
          rw [wanted_agree hag1, ← hwa]; exact hwant
        unfold Step at hst1
        rw [if_pos hw1, if_pos hl] at hst1
        have hv1 : U (fun k => if k = i then v else l k) i = v := by rw [hst1.1]; simp
        refine next v w' _ hsame hv1 hgood' (fun j hj hkl => ?_) (fun _ _ => by rw [hv1]; exact hF) (fun l' h2 h3 => ?_)
        · intro ha hb'
          exact hst j i _ _ _ hb' (fun e => by subst e; rw [hnl] at hj; cases hj) (hkl i hlt (.inr rfl)) (hprej j hj) (hf j hj (fun k hk h => hkl k hk (.inl h)) ha hb') hK
        · have h4 : ∀ j, listed.getD j false = true → l' j = l j := fun j hj => (h2 j hj).trans (hl1 j hj)
          have h5 := hcons l' h4
          refine ⟨?_, fun j hj => (h5 j hj).trans (hsame j hj).symm⟩
          have hst2 := (hU l').1 i o ho
          have hw2 : Region.wanted o (yielded ops (lex ops a0 (U l') i).tmps) = true := by
            rw [wanted_agree (hagree l' h5), ← hwa]; exact hwant
          unfold Step at hst2
          rw [if_pos hw2, if_pos hl] at hst2
          rw [hst2.1, h3]; simp
      · rw [if_neg hl] at hstep
        have hq := hstep w hgood hfacts
        refine wp_of_quiet hq hex.symm (next _ w l (fun _ _ => rfl) rfl hgood2 (fun j hj hkl => hf j hj (fun k hk h => hkl k hk (.inl h))) (fun _ hb' => absurd hb' hl) (fun l' h2 _ => ?_))
        have h5 := hcons l' h2
        refine ⟨?_, h5⟩
        have hst2 := (hU l').1 i o ho
        have hag2 := hagree l' h5
        have hw2 : Region.wanted o (yielded ops (lex ops a0 (U l') i).tmps) = true := by
          rw [wanted_agree hag2, ← hwa]; exact hwant
        unfold Step at hst2
        rw [if_pos hw2, if_neg hl] at hst2
        have hq2 := hst2 w hgood (fun j hj hp => ?_)
        · exact quiet_one hq2 hq ((exec_agree hag2 (hok.sel i o ho)).trans hex.symm)
        · have h6 := hfacts j hj hp
          have hj' : j < ops.size := by omega
          intro ha hb'
          rw [h5 j (hpre j hj' (av_pre hp))]
          exact h6 (by rw [← hwsame l' h5 j hj' (hpre j hj' (av_pre hp))]; exact ha) hb'
    · rw [if_neg hwant] at hstep
      rw [← hwa, if_neg hwant]
      have hwf : want ops a0 (U l) i = false := by unfold want; rw [ho]; simpa using hwant
      rw [← hstep]
      refine next _ w l (fun _ _ => rfl) rfl hgood2 (fun j hj hkl => hf j hj (fun k hk h => hkl k hk (.inl h))) (fun ha => by rw [hwf] at ha; cases ha) (fun l' h2 _ => ?_)
      have h5 := hcons l' h2
      refine ⟨?_, h5⟩
      have hst2 := (hU l').1 i o ho
      have hw2 : ¬ Region.wanted o (yielded ops (lex ops a0 (U l') i).tmps) = true := by
        rw [wanted_agree (hagree l' h5), ← hwa]; exact hwant
      unfold Step at hst2
      rw [if_neg hw2] at hst2
      rw [hst2, hstep]

theorem wp_region_free {id : Nat} {l : List Oper} {a : Act} {w : World} {Q' : Exit → Act → World → Prop} (hm : P.follows .mixedOrders = true) (hB : okB l.toArray = true) (loud : Nat → Bool) (F : Nat → Value → World → Prop) (T : Nat → Nat → Prop) (kills : Nat → Nat → Bool)
    (hst : ∀ i k v w w', loud i = true → i ≠ k → kills k i = false → pre l.toArray k i = false → F i v w → KeepsP (T k) w w' → F i v w')
    (h : walk P l.toArray w.drew loud F T kills (fun a' w' => Q' .normal a' w') l 0 (fun _ _ => True) a) : (Code.region id l.toArray true).wp P Q' a w := by
  refine wp_region_any hm ?_
  have hok := ok_of hB
  have hlex0 : ∀ u, lex l.toArray a u 0 = a := fun u => (fill_congr (v' := u) (S' := fun _ => false) _ 0 _ (fun j _ _ => ⟨by simp, fun _ => rfl⟩)).trans (fill_none _ 0 _)
  have hfl : ∀ l' : Nat → Value, ∃ u' : Nat → Value, (∀ j o, l.toArray[j]? = some o → Step P l.toArray w.drew loud F T kills a l' u' j o) ∧
      ∀ w', KeepsP (sa T) w.drew w' → (∀ j, j < l.toArray.size → unk l.toArray kills j = true → fact l.toArray loud F a u' j w') → Q' .normal (lex l.toArray a u' l.toArray.size) w' := fun l' => by
    obtain ⟨u', _, h2, h3⟩ := flat (Q := fun a' w' => Q' .normal a' w') hok l' l 0 (fun _ => undef) (fun _ _ => True) (by simp) (fun j o _ hj => by omega) (fun _ _ _ _ => trivial) (fun _ _ _ => trivial) (by rw [hlex0]; exact h)
    exact ⟨u', h2, h3⟩
  refine any (Q := fun a' w' => Q' .normal a' w') (a0 := a) hok (fun l' => Classical.choose (hfl l')) (fun l' => Classical.choose_spec (hfl l')) hst (fun _ _ h => h) _ _ _ _ ?_ ?_
  · have hno : ∀ j, (Array.replicate l.toArray.size false).getD j false = false := fun j => by
      simp only [Array.getD_eq_getD_getElem?, Array.getElem?_replicate]
      split <;> rfl
    refine ⟨by simp, fun i o _ hi => ?_, KeepsP.refl _ _, fun _ => undef, ?_, fun j hj _ => ?_, fun _ _ j hj => ?_⟩
    · rw [hno] at hi; cases hi
    · refine ((fill_congr (v' := fun _ => undef) (S' := fun _ => false) _ 0 _ (fun j _ _ => ⟨by simp only [hno], fun hj => ?_⟩)).trans (fill_none _ 0 _)).symm
      simp only [hno] at hj; cases hj
    · rw [hno] at hj; cases hj
    · rw [hno] at hj; cases hj
  · unfold count
    rw [List.countP_eq_length.2 (fun i hi => ?_)]
    · simp
    · have : (Array.replicate l.toArray.size false).getD i false = false := by
        simp only [Array.getD_eq_getD_getElem?, Array.getElem?_replicate]
        split <;> rfl
      rw [this]; rfl

theorem walk_quiet {o : Oper} {r : List Oper} {i : Nat} {fs : Nat → World → Prop} {a : Act} {c : Value} (hw : Region.wanted o (yielded ops a.tmps) = true) (hl : loud i = false)
    (h1 : ∀ w', KeepsP (sx ops T i) w0 w' → (∀ j, j < i → av ops kills j i = true → fs j w') → Quiet P o a w' c) (h2 : walk P ops w0 loud F T kills Q r (i + 1) fs (a.put o.dst c)) : walk P ops w0 loud F T kills Q (o :: r) i fs a := by
  unfold walk
  rw [if_pos hw, if_neg (by rw [hl]; simp)]
  exact ⟨c, h1, h2⟩
theorem walk_loud {o : Oper} {r : List Oper} {i : Nat} {fs : Nat → World → Prop} {a : Act} (hw : Region.wanted o (yielded ops a.tmps) = true) (hl : loud i = true)
    (h1 : ∀ w', KeepsP (sx ops T i) w0 w' → (∀ j, j < i → av ops kills j i = true → fs j w') → Loud P o a w' (fun v w'' => F i v w'' ∧ KeepsP (T i) w' w''))
    (h2 : ∀ v, walk P ops w0 loud F T kills Q r (i + 1) (fun j => if j = i then F i v else fs j) (a.put o.dst v)) : walk P ops w0 loud F T kills Q (o :: r) i fs a := by
  unfold walk
  rw [if_pos hw, if_pos hl]
  exact ⟨h1, h2⟩
theorem walk_nil {n : Nat} {fs : Nat → World → Prop} {a : Act} (h : ∀ w', KeepsP (sa T) w0 w' → (∀ j, j < n → unk ops kills j = true → fs j w') → Q a w') : walk P ops w0 loud F T kills Q [] n fs a := h
attribute [go_sem] Quiet quietUpon Loud loudUpon
attribute [irreducible] Loud Quiet walk
end
end Free
end Go.Proofs.YtiplgpefapeapaaGreat

namespace Go.Proofs.YtiplgpefapeapaaGreat
open Go.RowKit

theorem infoB : (Tryz.prog.info? 5).map (fun i => (i.zero, i.size, i.bytes)) = some (some (.int .u8 0), 1, 1) := by kernel_rfl
/-- The slice `v` reads as the bytes `l`, and is the call's own: it lies in a block from `base` on, at its head. -/
def Buf (w : World) (base : Nat) (v : Value) (l : List UInt8) : Prop := w.ownsRow base 5 1 v l.length (bys l)
theorem Buf.slB {w : World} {base : Nat} {v : Value} {l : List UInt8} (h : Buf w base v l) : SlB w v l := Sl.of_owns h
theorem Buf.nil (w : World) (base : Nat) : Buf w base (.slice none 0 0) [] := World.ownsRow_nil _ _ _ _
theorem Buf.form {w : World} {base : Nat} {v : Value} {l : List UInt8} (h : Buf w base v l) : ∃ a cap, v = .slice a l.length cap := h.slB.form
theorem Buf.of {w : World} {base n : Nat} {v : Value} {l m : List UInt8} (h : w.ownsRow base 5 1 v n (bys l ++ bys m)) : Buf w base v (l ++ m) := by
  have h1 := h.1
  unfold Buf
  rw [bys_append]
  have : (l ++ m).length = n := by simpa using h1
  rw [this]
  exact h
theorem wpl_pushB {ops : Array Oper} {rest : List Oper} {o : Oper} {a : Act} {Q : Exit → Act → World → Prop} (w : World) (base : Nat) (v : Value) (l : List UInt8) (x : Int) (hg : o.guard = none) (s t : Operand)
    (ho : o.op = .call { callee := .builtin .append, args := #[s, t], argTypes := #[22, 22] }) (hs : a.eval s = v) (ht : a.eval t = .slice (some ⟨w.heap.size, 0, none⟩) 1 1)
    (h : Buf w base v l) (b : UInt8) (hb : x = (b.toNat : Int)) (hl : l.length ≤ 140737488355300) (hbase : base ≤ w.heap.size)
    (K : ∀ v' w', Buf w' base v' (l ++ [b]) → Grw w w' v v' → wpList Tryz.prog ops Q rest (a.put o.dst v') w') : wpList Tryz.prog ops Q (o :: rest) a (w.alloc (.cells #[.int .u8 x] 5)) := by
  obtain ⟨i0, hi, hz0, hz1, hz2⟩ := info_parts infoB
  subst hb
  refine wpl_append_x hg s t _ ho base 5 i0 (.int .u8 0) 1 1 Tryz.underlying22 hi hz0 hz1 hz2 rfl (by decide) v l.length (bys l) hs (h.alloc _) _ 1 (bys [b]) ht (SlB.one w b _) (bys_one _) (by unfold maxLen; omega) (by omega) (by simp; omega) ?_
  intro v' w' h1 h2 _
  exact K v' w' (Buf.of h1) h2.alloc_left

/-- `append(v, v2...)` of bytes, `v` the call's own. -/
theorem wpl_appB {ops : Array Oper} {rest : List Oper} {o : Oper} {a : Act} {Q : Exit → Act → World → Prop} (w : World) (base : Nat) (v : Value) (l : List UInt8) (hg : o.guard = none) (s t : Operand)
    (ho : o.op = .call { callee := .builtin .append, args := #[s, t], argTypes := #[22, 22] }) (hs : a.eval s = v) (v2 : Value) (m : List UInt8) (ht : a.eval t = v2)
    (h : Buf w base v l) (h2 : SlB w v2 m) (hl : l.length + m.length ≤ 140737488355328) (hbase : base ≤ w.heap.size)
    (K : ∀ v' w', Buf w' base v' (l ++ m) → Grw w w' v v' → wpList Tryz.prog ops Q rest (a.put o.dst v') w') : wpList Tryz.prog ops Q (o :: rest) a w := by
  obtain ⟨i0, hi, hz0, hz1, hz2⟩ := info_parts infoB
  refine wpl_append_x hg s t _ ho base 5 i0 (.int .u8 0) 1 1 Tryz.underlying22 hi hz0 hz1 hz2 rfl (by decide) v l.length (bys l) hs h _ m.length (bys m) ht h2 (bys_one _) (by unfold maxLen; omega) (by omega) hbase ?_
  intro v' w' h1 h2 _
  exact K v' w' (Buf.of h1) h2
theorem Buf.fresh (w : World) : Buf (w.alloc (.cells #[] 5)) w.heap.size (.slice (some ⟨w.heap.size, 0, none⟩) 0 0) [] := ownsRow_empty w _ _ _ (Nat.le_refl _)
theorem Buf.one (w : World) (b : UInt8) {x : Int} (hx : x = (b.toNat : Int)) : Buf (w.alloc (.cells #[.int .u8 x] 5)) w.heap.size (.slice (some ⟨w.heap.size, 0, none⟩) 1 1) [b] := by
  subst hx
  exact ⟨rfl, .inr ⟨_, 1, _, rfl, Nat.le_refl _, heap_alloc_new _ _, Nat.le_refl _, by simp [maxLen], rfl, rfl⟩⟩
theorem Buf.keep {w w' : World} {base : Nat} {v : Value} {l : List UInt8} (h : Buf w base v l) (hk : Keeps [] w w') : Buf w' base v l := ownsRow_block h (fun b _ hb => hk.block b hb (by simp))
theorem SlB.cap {w : World} {v : Value} {l : List UInt8} (h : SlB w v l) : l.length ≤ maxLen := by obtain ⟨_, a, c, rfl, h1, h2, _⟩ := h; omega

set_option maxRecDepth 100000 in
set_option maxHeartbeats 1000000 in
theorem clone_c (w : World) (v0 : Value) (l : List UInt8) (h : SlB w v0 l) (hl : l.length ≤ 140737488355328) :
    Calls Tryz.prog 76 #[v0] w fun e w' => ∃ v', e = .returned v' ∧ Buf w' w.heap.size v' l ∧ Keeps [] w w' := by
  have q22 : ∀ (w : World) (a : Option Addr) (n c n' c' : Nat), (binOp .eql 22 (.slice a n c) (.slice none n' c')).run Tryz.prog w = .ok (.bool a.isNone) w := fun w a n c n' c' => Lib.run_eql_slice_nil w _ _ a n c n' c' Tryz.underlying22
  obtain ⟨a0, c0, rfl⟩ := h.form
  cases a0 with
  | none =>
    have hl0 : l = [] := by
      rcases h.cases with ⟨e, _⟩ | ⟨g, o, cap, e, _⟩
      · exact e
      · cases e
    subst hl0
    replace h := Lib.hid h
    all_goals
      go_enter Tryz.func76, Tryz.ntmps76
      go_wp2
      go_ret
      exact ⟨_, rfl, Buf.nil _ _, Keeps.refl _ _⟩
  | some ad =>
    replace h := Lib.hid h
    all_goals
      go_enter Tryz.func76, Tryz.ntmps76
      go_wp2_with (at_builtin; (refine wpl_appB _ w.heap.size (.slice (some ⟨w.heap.size, 0, none⟩) 0 0) [] rfl _ _ rfl rfl _ l rfl (Buf.fresh w) (h.out.keeps ((Keeps.refl [] w).alloc _)) (by simp; omega) (by simp) ?_; intro v1 w1 hB1 hG1))
      go_ret
      exact ⟨_, rfl, hB1, hG1.keeps ((Keeps.refl [] w).alloc _) (by simp [Value.ownBlock])⟩

/-- Bytes as a string. -/
def str (l : List UInt8) : ByteArray := ⟨l.toArray⟩
theorem run_str {w : World} {v : Value} {l : List UInt8} (h : SlB w v l) : (convert 22 9 v).run Tryz.prog w = .ok (.string (str l)) w := by
  rcases h.cases with ⟨rfl, a, c, rfl, _, _⟩ | ⟨g, o, c, rfl, _, _, _, _, hc⟩
  · cases a with
    | none => exact run_convert_bytes_nil w _ _ Tryz.underlying22 Tryz.underlying5 _ _ _ Tryz.underlying9
    | some a =>
      have := run_convert_bytes_arg (P := Tryz.prog) w 22 5 Tryz.underlying22 Tryz.underlying5 a.block a.off 0 c [] rfl (fun i hi => by omega) 9 Tryz.underlying9
      rw [run_convert_bytes_string w _ _ 5 _ _ _ Tryz.underlying22 Tryz.underlying5 Tryz.underlying9] at this ⊢
      simp [Conv.bytesToString, loadCells, loadCellsFrom] at this ⊢
      rfl
  · have := run_convert_bytes_arg (P := Tryz.prog) w 22 5 Tryz.underlying22 Tryz.underlying5 g o l.length c (l.map fun b => (b.toNat : Int)) (by simp) (fun i hi => by rw [hc i hi]; simp [hi]) 9 Tryz.underlying9
    rw [this]
    simp [strOfNums, str, Function.comp_def]
end Go.Proofs.YtiplgpefapeapaaGreat

namespace Go.Proofs.YtiplgpefapeapaaGreat
open Go.RowKit

theorem Buf.mono {w : World} {b b' : Nat} {v : Value} {l : List UInt8} (h : Buf w b v l) (hb : b' ≤ b) : Buf w b' v l := by
  refine ⟨h.1, ?_⟩
  rcases h.2 with hn | ⟨g, cap, cur, rfl, hg, rest⟩
  · exact .inl hn
  · exact .inr ⟨g, cap, cur, rfl, by omega, rest⟩
set_option maxRecDepth 100000 in
set_option maxHeartbeats 2000000 in
theorem refU_c (w : World) (v0 : Value) (l : List UInt8) (n : Nat) (h : SlB w v0 l) (hn : n < 18446744073709551616) (hl : l.length ≤ 140737488355000) :
    Calls Tryz.prog 56 #[v0, .int .u64 n] w fun e w' => ∃ v', e = .returned v' ∧ Buf w' w.heap.size v' (l ++ encU n) ∧ Keeps [] w w' := by
  obtain ⟨a0, c0, rfl⟩ := h.form
  replace h := Lib.hid h
  go_enter Tryz.func56, Tryz.ntmps56
  go_wp2_with fail
  go_loopw [1, 5] (fun n' d wr => ∃ (m : Nat) (L : List UInt8), m ≤ n ∧ n' = .int .u64 m ∧ Hid (digs n = digs m ++ L) ∧ Buf wr w.heap.size d L ∧ Keeps [] w wr) (fun n' _ _ => (intOf n').toNat)
  case atStart => exact ⟨n, [], by omega, rfl, by show _ = _; simp, Buf.fresh w, (Keeps.refl [] w).alloc _⟩
  case round =>
    obtain ⟨m, L, hm, rfl, hL, hB, hk⟩ := hrel
    obtain ⟨aL, cL, rfl⟩ := hB.form
    have hsz := hk.size
    have hLl : L.length ≤ 8 := by
      have h1 := congrArg List.length hL.out
      have h2 := digs_len8 (n := n) (by omega)
      simp at h1; omega
    replace hB := Lib.hid hB
    replace hk := Lib.hid hk
    by_cases hp : 0 < m
    · have hd : Hid (digs n = digs (m / 256) ++ (UInt8.ofNat (m % 256) :: L)) := by show _ = _; rw [hL.out, digs_pos hp]; simp
      clear hL
      go_wp2_with (at_builtin; (refine wpl_appB _ w.heap.size (.slice (some ⟨_, 0, none⟩) 1 1) [UInt8.ofNat (m % 256)] rfl _ _ rfl rfl _ L rfl ((Buf.one _ (UInt8.ofNat (m % 256)) (by simp)).mono (by omega)) (hB.out.slB.keeps ((Keeps.refl [] _).alloc _)) (by simp; omega) (by simp; omega) ?_; intro v2 w2 hB2 hG2))
      go_roundw
      case rel => exact ⟨m / 256, _, by omega, by go_num, hd, hB2, hG2.keeps (hk.out.alloc _) (by simp [Value.ownBlock]; omega)⟩
      case measure => simp [intOf]; omega
    · have hm0 : m = 0 := by omega
      have hdL : Hid (digs n = L) := by show _ = _; rw [hL.out, hm0, digs_zero]; simp
      clear hL hm
      subst hm0
      go_wp2_with (first
        | (at_builtin; (refine wpl_appB _ wr.heap.size (.slice (some ⟨wr.heap.size, 0, none⟩) 0 0) [] rfl (.tmp 17) (.tmp 18) rfl rfl _ l rfl (Buf.fresh wr) ((h.out.keeps hk.out).keeps ((Keeps.refl [] _).alloc _)) (by simp; omega) (by simp) ?_; intro v2 w2 hB2 hG2; have hkk2 := Lib.hid (hG2.keeps ((Keeps.refl [] wr).alloc _) (by simp [Value.ownBlock])); have hB2' := Lib.hid hB2; clear hB2 hG2))
        | (at_builtin; (refine wpl_pushB _ wr.heap.size v2 _ _ rfl (.tmp 19) (.tmp 23) rfl rfl rfl hB2'.out (UInt8.ofNat L.length) (by simp; omega) (by simp; omega) (by have := hkk2.out.size; omega) ?_; intro v3 w3 hB3 hG3; have hkk3 := Lib.hid (hG3.keeps hkk2.out (fun b hb => ownBlock_ge hB2'.out b hb)); have hB3' := Lib.hid hB3; clear hB3 hG3))
        | (at_builtin; (refine wpl_appB _ wr.heap.size v3 _ rfl (.tmp 24) (.tmp 25) rfl rfl _ L rfl hB3'.out (hB.out.slB.keeps hkk3.out) (by simp; omega) (by have := hkk3.out.size; omega) ?_; intro v4 w4 hB4 hG4; have hkk4 := Lib.hid (hG4.keeps hkk3.out (fun b hb => ownBlock_ge hB3'.out b hb)); have hB4' := Lib.hid hB4; clear hB4 hG4)))
      go_ret
      refine ⟨_, rfl, ?_, hk.out.trans hkk4.out⟩
      have := hB4'.out.mono hsz
      rw [← hdL.out] at this
      simpa [encU] using this
end Go.Proofs.YtiplgpefapeapaaGreat

namespace Go.Proofs.YtiplgpefapeapaaGreat
open Go.RowKit

def encB (b : Bool) : List UInt8 := [if b then 1 else 0]
theorem Grw.ne {w w' : World} {v v' : Value} (g : Grw w w' v v') {X : Nat} (hv : v.ownBlock ≠ some X) (hX : X < w.heap.size) : v'.ownBlock ≠ some X := by
  rcases g.own with e | ⟨k, e, hk⟩
  · rw [e]; exact hv
  · rw [e]; intro h; cases h; omega
end Go.Proofs.YtiplgpefapeapaaGreat

namespace Go.Proofs.YtiplgpefapeapaaGreat
open Go.RowKit

set_option maxRecDepth 100000 in
set_option maxHeartbeats 2000000 in
theorem refB_c (w : World) (v0 : Value) (l : List UInt8) (b : Bool) (h : SlB w v0 l) (hl : l.length ≤ 140737488355000) :
    Calls Tryz.prog 57 #[v0, .bool b] w fun e w' => ∃ v', e = .returned v' ∧ SlB w' v' (l ++ encB b) ∧ Keeps [] w w' := by
  obtain ⟨a0, c0, rfl⟩ := h.form
  replace h := Lib.hid h
  cases b
  · go_enter Tryz.func57, Tryz.ntmps57
    go_wp2_with (first
      | (at_builtin; (refine wpl_appB _ w.heap.size (.slice (some ⟨w.heap.size, 0, none⟩) 0 0) [] rfl (.tmp 11) (.tmp 12) rfl rfl _ l rfl (Buf.fresh w) (h.out.keeps ((Keeps.refl [] w).alloc _)) (by simp; omega) (by simp) ?_; intro v2 w2 hB2 hG2; have hkk2 := Lib.hid (hG2.keeps ((Keeps.refl [] w).alloc _) (by simp [Value.ownBlock])); have hB2' := Lib.hid hB2; clear hB2 hG2))
      | (at_builtin; (refine wpl_pushB _ w.heap.size v2 _ _ rfl (.tmp 13) (.tmp 14) rfl rfl rfl hB2'.out (0 : UInt8) (by rfl) (by simp; omega) (by have := hkk2.out.size; omega) ?_; intro v3 w3 hB3 hG3; have hkk3 := Lib.hid (hG3.keeps hkk2.out (fun b hb => ownBlock_ge hB2'.out b hb)); have hB3' := Lib.hid hB3; clear hB3 hG3)))
    go_ret
    exact ⟨_, rfl, by have := hB3'.out.slB; simpa [encB] using this, hkk3.out⟩
  · go_enter Tryz.func57, Tryz.ntmps57
    go_wp2_with (first
      | (at_builtin; (refine wpl_appB _ w.heap.size (.slice (some ⟨w.heap.size, 0, none⟩) 0 0) [] rfl (.tmp 6) (.tmp 7) rfl rfl _ l rfl (Buf.fresh w) (h.out.keeps ((Keeps.refl [] w).alloc _)) (by simp; omega) (by simp) ?_; intro v2 w2 hB2 hG2; have hkk2 := Lib.hid (hG2.keeps ((Keeps.refl [] w).alloc _) (by simp [Value.ownBlock])); have hB2' := Lib.hid hB2; clear hB2 hG2))
      | (at_builtin; (refine wpl_pushB _ w.heap.size v2 _ _ rfl (.tmp 8) (.tmp 9) rfl rfl rfl hB2'.out (1 : UInt8) (by rfl) (by simp; omega) (by have := hkk2.out.size; omega) ?_; intro v3 w3 hB3 hG3; have hkk3 := Lib.hid (hG3.keeps hkk2.out (fun b hb => ownBlock_ge hB2'.out b hb)); have hB3' := Lib.hid hB3; clear hB3 hG3)))
    go_ret
    exact ⟨_, rfl, by have := hB3'.out.slB; simpa [encB] using this, hkk3.out⟩
end Go.Proofs.YtiplgpefapeapaaGreat

namespace Go.Proofs.YtiplgpefapeapaaGreat
open Go.RowKit Go.ChangeShapes

/-- The number that stands for an integer on the wire. -/
def zig (n : Int) : Nat := if 0 ≤ n then (2 * n).toNat else (-2 * n - 1).toNat
def encI (n : Int) : List UInt8 := encU (zig n)
theorem zig_lt {n : Int} (h : -9223372036854775808 ≤ n ∧ n ≤ 9223372036854775807) : zig n < 18446744073709551616 := by unfold zig; split <;> omega
theorem zig_pos {n : Int} (h0 : 0 ≤ n) : (zig n : Int) = 2 * n := by unfold zig; rw [if_pos h0]; omega
theorem zig_neg {n : Int} (h0 : n < 0) : (zig n : Int) = -2 * n - 1 := by unfold zig; rw [if_neg (by omega)]; omega
set_option maxRecDepth 100000 in
set_option maxHeartbeats 2000000 in
theorem refInt_c (w : World) (v0 : Value) (l : List UInt8) (n : Int) (h : SlB w v0 l) (hn : -9223372036854775808 ≤ n ∧ n ≤ 9223372036854775807) (hl : l.length ≤ 140737488355000) :
    Calls Tryz.prog 55 #[v0, .int .i64 n] w fun e w' => ∃ v', e = .returned v' ∧ SlB w' v' (l ++ encI n) ∧ Keeps [] w w' := by
  have hc := refU_c w v0 l (zig n) h (zig_lt hn) hl
  replace hc := Lib.hid hc
  by_cases h0 : 0 ≤ n
  · go_enter Tryz.func55, Tryz.ntmps55
    go_wp2_with fail
    rw [← zig_pos h0]
    refine hc.out.mono ?_
    rintro e w' ⟨v', rfl, hB, hk⟩
    replace hB := Lib.hid hB.slB
    go_wp2
    go_ret
    exact ⟨_, rfl, hB.out, hk⟩
  · replace h0 : n < 0 := by omega
    go_enter Tryz.func55, Tryz.ntmps55
    go_wp2_with fail
    rw [show 2 * -(n + 1) + 1 = (zig n : Int) by rw [zig_neg h0]; omega]
    refine hc.out.mono ?_
    rintro e w' ⟨v', rfl, hB, hk⟩
    replace hB := Lib.hid hB.slB
    go_wp2
    go_ret
    exact ⟨_, rfl, hB.out, hk⟩
end Go.Proofs.YtiplgpefapeapaaGreat

namespace Go.Proofs.YtiplgpefapeapaaGreat
namespace Gen
open Go Go.ChangeShapes Go.WideShapes Go.ChangeAt Go.RowKit

/-- The cells `cs` are data of type `t`. -/
def Cs (P : Program) (w : World) (t : TypeId) (cs : List Value) : Prop :=
  ∃ (H : Type) (enc : TypeId × Value → H) (fuel : Nat) (x : DataW H × List MemPlace), DataW.trod enc P w 0 (fun _ => true) true fuel t cs = some x
variable {P : Program} {w : World}
theorem Cs.of_trod {H : Type} {enc : TypeId × Value → H} {t : TypeId} {v : Value} {d : DataW H} {ps : List MemPlace} (hv : v.cells.toList = [v]) (h : DataW.Trod enc P w 0 (fun _ => true) true t v d ps) : Cs P w t [v] := by
  obtain ⟨fuel, hf⟩ := h
  rw [hv] at hf
  exact ⟨H, enc, fuel, _, hf⟩
theorem Cs.int {t : TypeId} {k : IntKind} (ht : P.underlying t = some (.int k)) {cs : List Value} (h : Cs P w t cs) : ∃ n, cs = [.int k n] ∧ (Lit.int k n).wf = true := by
  obtain ⟨H, enc, fuel, x, hf⟩ := h
  obtain ⟨n, h1, _, h2⟩ := DataW.trod_int ht hf
  exact ⟨n, h1, h2⟩
theorem Cs.bool {t : TypeId} (ht : P.underlying t = some .bool) {cs : List Value} (h : Cs P w t cs) : ∃ b, cs = [.bool b] := by
  obtain ⟨H, enc, fuel, x, hf⟩ := h
  obtain ⟨b, h1, _⟩ := DataW.trod_bool ht hf
  exact ⟨b, h1⟩
theorem Cs.struct {t : TypeId} {fs : Array Field} (ht : P.underlying t = some (.struct fs)) {cs : List Value} (h : Cs P w t cs) : cs.length = P.cellsOf t ∧ ∀ (i : Nat) (f : Field), fs[i]? = some f → Cs P w f.type ((cs.drop f.offset).take (P.cellsOf f.type)) := by
  obtain ⟨H, enc, fuel, x, hf⟩ := h
  obtain ⟨xs, n, _, _, hl, hx, hall⟩ := DataW.trod_struct ht hf
  refine ⟨hl, fun i f hi => ?_⟩
  have h1 := hall i f hi
  have hlt : i < xs.length := by rw [hx]; exact (Array.getElem?_eq_some_iff.1 hi).1
  rw [List.getElem?_eq_getElem hlt] at h1
  exact ⟨H, enc, n, _, h1⟩
theorem Cs.slice {t e : TypeId} {sz : Nat} (ht : P.underlying t = some (.slice e)) (hsz : P.cellsOf e = sz) (hpos : 0 < sz) {cs : List Value} (h : Cs P w t cs) :
    ∃ v n es, cs = [v] ∧ Sl w sz v n es ∧ n ≤ maxLen ∧ ∀ k, k < n → Cs P w e ((es.drop (k * sz)).take sz) := by
  obtain ⟨H, enc, fuel, x, hf⟩ := h
  subst hsz
  rcases Go.Deep.open_slice ht hf with ⟨rfl, _⟩ | ⟨a, len, cap, m, n, D, Pl, rfl, _, hl, hm, hmm, _, hx⟩
  · exact ⟨_, 0, [], rfl, Sl.nil _ _, by simp, fun k hk => by omega⟩
  · simp only [if_true] at hmm
    subst hmm
    obtain ⟨V, hV⟩ := Go.Deep.choose_lt (α := List Value) (p := fun i v => w.cells? 0 (a.add (i * P.cellsOf e)) (P.cellsOf e) = some v ∧ DataW.trod enc P w 0 (fun _ => true) true n e v = some (D i, Pl i)) hx
    have hVl : ∀ i, i < m → (V i).length = P.cellsOf e := fun i hi => (World.cells?_some (hV i hi).1).2.1
    have hchunk : ∀ (n : Nat), n ≤ m → ((List.range n).flatMap V).length = n * P.cellsOf e ∧ ∀ k, k < n → (((List.range n).flatMap V).drop (k * P.cellsOf e)).take (P.cellsOf e) = V k := by
      intro n
      induction n with
      | zero => exact fun _ => ⟨by simp, fun k hk => by omega⟩
      | succ n ih =>
        intro hn
        obtain ⟨h1, h2⟩ := ih (by omega)
        rw [List.range_succ, List.flatMap_append]
        simp only [List.flatMap_cons, List.flatMap_nil, List.append_nil]
        refine ⟨by rw [List.length_append, h1, hVl n (by omega)]; rw [Nat.add_mul, Nat.one_mul], fun k hk => ?_⟩
        rcases Nat.lt_succ_iff_lt_or_eq.1 hk with hkn | rfl
        · have hk2 : k * P.cellsOf e + P.cellsOf e ≤ n * P.cellsOf e := by rw [← Nat.succ_mul]; exact Nat.mul_le_mul_right _ hkn
          rw [List.drop_append_of_le_length (by omega), List.take_append_of_le_length (by rw [List.length_drop]; omega)]
          exact h2 k hkn
        · rw [List.drop_append, h1, List.drop_of_length_le (by omega)]
          simp only [Nat.sub_self, List.drop_zero, List.nil_append]
          exact List.take_of_length_le (by rw [hVl _ (by omega)]; exact Nat.le_refl _)
    obtain ⟨hl1, hl2⟩ := hchunk len hl
    refine ⟨_, len, (List.range len).flatMap V, rfl, ⟨hl1, some a, m, rfl, hl, hm, by simp, fun hp => ?_⟩, by omega, fun k hk => ?_⟩
    · obtain ⟨b, off, spot⟩ := a
      have hlen0 : 0 < len := by
        rcases Nat.eq_zero_or_pos len with e | e
        · subst e; simp at hp
        · exact e
      have hspot : spot = none := by
        have h0 := (World.cells?_some (hV 0 (by omega)).1).2.2 0 (by omega)
        rw [List.getElem?_eq_getElem (by rw [hVl 0 (by omega)]; omega)] at h0
        have := World.cell?_spot h0
        simpa [Addr.add] using this
      subst hspot
      refine ⟨b, off, rfl, fun j u hj => ?_⟩
      have hjl : j < len * P.cellsOf e := by rw [← hl1]; exact (List.getElem?_eq_some_iff.1 hj).1
      have hi : j / P.cellsOf e < len := (Nat.div_lt_iff_lt_mul hpos).2 hjl
      have hr : j % P.cellsOf e < P.cellsOf e := Nat.mod_lt _ hpos
      have hdm : j / P.cellsOf e * P.cellsOf e + j % P.cellsOf e = j := by rw [Nat.mul_comm]; exact Nat.div_add_mod _ _
      have hc := (World.cells?_some (hV (j / P.cellsOf e) (by omega)).1).2.2 (j % P.cellsOf e) hr
      have hvk := hl2 _ hi
      have e2 : (V (j / P.cellsOf e))[j % P.cellsOf e]? = some u := by
        rw [← hvk, List.getElem?_take_of_lt hr, List.getElem?_drop, hdm]; exact hj
      rw [add_plain, add_plain, Nat.add_assoc, hdm, e2] at hc
      exact hc
    · rw [hl2 k hk]
      exact ⟨H, enc, n, _, (hV k (by omega)).2⟩
end Gen
end Go.Proofs.YtiplgpefapeapaaGreat

namespace Go.Proofs.YtiplgpefapeapaaGreat
namespace Gen
open Go Go.RowKit
variable {P : Program} {α : Type} {R : World → List Value → α → Prop} {sz : Nat} {w w' : World} {v : Value} {L : List α}

/-- The slice value `v` reads as the list `L`; each element takes `sz` cells, which read as `R` says. -/
def SlR {α : Type} (R : World → List Value → α → Prop) (sz : Nat) (w : World) (v : Value) (L : List α) : Prop :=
  ∃ cs, Sl w sz v L.length cs ∧ ∀ k (hk : k < L.length), R w ((cs.drop (k * sz)).take sz) L[k]
theorem SlR.nil (w : World) : SlR R sz w (.slice none 0 0) [] := ⟨[], Sl.nil _ _, fun k hk => by simp at hk⟩
theorem SlR.open {t e : TypeId} (ht : P.underlying t = some (.slice e)) (hsz : P.cellsOf e = sz) (hpos : 0 < sz) (hR : ∀ cs, Cs P w e cs → ∃ x, R w cs x) (h : Cs P w t [v]) : ∃ L, SlR R sz w v L ∧ L.length ≤ maxLen := by
  obtain ⟨v', n, es, e1, hs, hn, hx⟩ := Cs.slice ht hsz hpos h
  simp only [List.cons.injEq, and_true] at e1
  subst e1
  rcases Nat.eq_zero_or_pos n with e0 | e0
  · subst e0
    exact ⟨[], ⟨es, hs, fun k hk => by simp at hk⟩, by simp⟩
  haveI : Inhabited α := ⟨(hR _ (hx 0 e0)).choose⟩
  obtain ⟨f, hf⟩ := Go.Deep.choose_lt (α := α) (p := fun k x => R w ((es.drop (k * sz)).take sz) x) (fun k hk => hR _ (hx k hk))
  refine ⟨(List.range n).map f, ⟨es, by simpa using hs, fun k hk => ?_⟩, by simpa using hn⟩
  simp at hk
  simpa using hf k hk
theorem SlR.form (h : SlR R sz w v L) : ∃ a c, v = .slice a L.length c ∧ L.length ≤ c ∧ c ≤ maxLen ∧ (a = none → c = 0) := by
  obtain ⟨cs, ⟨_, a, c, rfl, h2, h3, h4, _⟩, _⟩ := h; exact ⟨a, c, rfl, h2, h3, h4⟩
theorem SlR.keepS {S : List Nat} (h : SlR R sz w v L) (hk : Keeps S w w') (hS : ∀ b ∈ S, v.ownBlock ≠ some b) (hR : ∀ cs x, R w cs x → R w' cs x) : SlR R sz w' v L := by
  obtain ⟨cs, ⟨h1, a, cap, rfl, h2, h3, h0, h4⟩, hE⟩ := h
  refine ⟨cs, ⟨h1, a, cap, rfl, h2, h3, h0, fun hp => ?_⟩, fun k hk => hR _ _ (hE k hk)⟩
  obtain ⟨g, o, rfl, hc⟩ := h4 hp
  refine ⟨g, o, rfl, fun j u hj => ?_⟩
  have := hc j u hj
  rw [hk.cell g _ (lt_of_cell this) (fun hm => hS g hm rfl)]
  exact this
theorem SlR.keeps (h : SlR R sz w v L) (hk : Keeps [] w w') (hR : ∀ cs x, R w cs x → R w' cs x) : SlR R sz w' v L := h.keepS hk (by simp) hR
/-- The cells of one element. -/
theorem SlR.elem (h : SlR R sz w v L) (hpos : 0 < sz) {k : Nat} (hk : k < L.length) : ∃ g o c xs, v = .slice (some ⟨g, o, none⟩) L.length c ∧ xs.length = sz ∧ R w xs L[k] ∧ ∀ j u, xs[j]? = some u → w.cell? ⟨g, o + k * sz + j, none⟩ = some u := by
  obtain ⟨cs, ⟨h1, a, cap, rfl, h2, h3, h0, h4⟩, hE⟩ := h
  have hk2 : k * sz + sz ≤ L.length * sz := by rw [← Nat.succ_mul]; exact Nat.mul_le_mul_right _ hk
  obtain ⟨g, o, rfl, hc⟩ := h4 (by omega)
  refine ⟨g, o, cap, _, rfl, ?_, hE k hk, fun j u hj => ?_⟩
  · rw [List.length_take, List.length_drop]; omega
  · have hj2 : j < sz := by
      have := (List.getElem?_eq_some_iff.1 hj).1
      rw [List.length_take] at this; omega
    rw [List.getElem?_take_of_lt hj2, List.getElem?_drop] at hj
    rw [Nat.add_assoc]
    exact hc _ _ hj
/-- Elements of one cell each. -/
theorem SlR.map {f : α → Value} (h : SlR (fun _ cs x => cs = [f x]) 1 w v L) : Sl w 1 v L.length (L.map f) := by
  obtain ⟨cs, h1, h2⟩ := h
  have hl : cs.length = L.length := by have := h1.1; omega
  have : cs = L.map f := by
    refine List.ext_getElem? fun k => ?_
    by_cases hk : k < L.length
    · have h3 := h2 k hk
      rw [Nat.mul_one] at h3
      have h4 : ((cs.drop k).take 1)[0]? = some (f L[k]) := by rw [h3]; rfl
      rw [List.getElem?_take_of_lt (by decide), List.getElem?_drop, Nat.add_zero] at h4
      rw [h4]; simp [hk]
    · rw [List.getElem?_eq_none (by omega), List.getElem?_eq_none (by simp; omega)]
  rw [← this]; exact h1
end Gen
end Go.Proofs.YtiplgpefapeapaaGreat
