/- Texts that the laws lean on, in the order in which they build. Slices whose elements are flat (their cells lead nowhere): of whatever type, of whatever program. A map in memory, whatever its keys, as a list of its entries in whatever order. Of whatever program. Traces: the shapes of questions, needs, answers; the map of the answers. The cells of a block; blocks made one after the other. The byte form of a trace: the buffer in its variable; the closure that appends integers. The contracts of package wire's reader of bytes. The closure that reads a number, where it fails. The closure that reads a number, where it succeeds. The contracts of package wire's reader of numbers, and the reference's. The reference's reading of a number. The reference's reader: Uint. -/
import Derived.Test.YtiplgpefapeapaaGreatD1
import Derived.Test.YtiplgpefapeapaaGreatRows
import Derived.Maps.OwnOps
import Derived.Maps.OwnSet
import Derived.Maps.Ext
import Derived.Maps.RangeWalk
import Derived.DeepKeys4
import Derived.Laws.StructEq
set_option linter.unusedVariables false
set_option linter.unusedSimpArgs false
namespace Go.Proofs.YtiplgpefapeapaaGreat
open Go Go.RowKit

/-- A shape: how many cells an element takes, and which. -/
structure Sh (α : Type) where
  sz : Nat
  cf : α → List Value
  len : ∀ x, (cf x).length = sz
  pos : 0 < sz
  one : ∀ x, ∀ u ∈ cf x, u.oneCell' = true
namespace Sh
variable {α : Type} {s : Sh α} {w w' : World} {v v' : Value} {L M : List α} {B : Nat} {e : TypeId}

def cs (s : Sh α) : List α → List Value
  | [] => []
  | x :: t => s.cf x ++ cs s t
theorem cs_len : ∀ L : List α, (s.cs L).length = L.length * s.sz
  | [] => by simp [cs]
  | x :: t => by simp [cs, s.len, cs_len t, Nat.add_mul]; omega
theorem cs_append : ∀ L M : List α, s.cs (L ++ M) = s.cs L ++ s.cs M
  | [], _ => rfl
  | x :: t, M => by simp [cs, cs_append t M]
theorem cs_one : ∀ L : List α, ∀ u ∈ s.cs L, u.oneCell' = true
  | [], u, h => by cases h
  | x :: t, u, h => by
    rcases List.mem_append.1 h with h | h
    · exact s.one x u h
    · exact cs_one t u h
theorem cs_get : ∀ (L : List α) (k : Nat) (hk : k < L.length) (j : Nat), j < s.sz → (s.cs L)[k * s.sz + j]? = (s.cf L[k])[j]?
  | x :: t, 0, _, j, hj => by
    have : (s.cs (x :: t))[0 * s.sz + j]? = (s.cf x ++ s.cs t)[j]? := by simp [cs]
    rw [this, List.getElem?_append_left (by rw [s.len]; exact hj)]
    rfl
  | x :: t, k + 1, hk, j, hj => by
    have := cs_get t k (by simpa using hk) j hj
    simp only [cs, List.getElem_cons_succ]
    rw [List.getElem?_append_right (by rw [s.len, Nat.add_mul]; omega), ← this]
    congr 1
    rw [s.len, Nat.add_mul]; omega
theorem cs_take : ∀ (L : List α) (k : Nat), (s.cs L).take (k * s.sz) = s.cs (L.take k)
  | [], k => by simp [cs]
  | x :: t, 0 => by simp [cs]
  | x :: t, k + 1 => by
    have h1 := cs_take t k
    simp only [cs, List.take_succ_cons]
    have h2 := s.len x
    rw [List.take_append, h2, List.take_of_length_le (by rw [h2, Nat.add_mul]; omega), show (k + 1) * s.sz - s.sz = k * s.sz by rw [Nat.add_mul]; omega, h1]
theorem cs_drop : ∀ (L : List α) (k : Nat), (s.cs L).drop (k * s.sz) = s.cs (L.drop k)
  | [], k => by simp [cs]
  | x :: t, 0 => by simp [cs]
  | x :: t, k + 1 => by
    have h1 := cs_drop t k
    have h2 := s.len x
    simp only [cs, List.drop_succ_cons]
    rw [List.drop_append, h2, List.drop_of_length_le (by rw [h2, Nat.add_mul]; omega), show (k + 1) * s.sz - s.sz = k * s.sz by rw [Nat.add_mul]; omega, h1]
    rfl

/-- The slice `v` reads as the list `L`. -/
def R (s : Sh α) (w : World) (v : Value) (L : List α) : Prop := Sl w s.sz v L.length (s.cs L)
theorem R.nil (s : Sh α) (w : World) : s.R w (.slice none 0 0) [] := Sl.nil w _
theorem R.keeps (h : s.R w v L) (hk : Keeps [] w w') : s.R w' v L := Sl.keeps h hk
theorem R.keepS {S : List Nat} (h : s.R w v L) (hk : Keeps S w w') (hS : ∀ b ∈ S, v.ownBlock ≠ some b) : s.R w' v L := by
  obtain ⟨h1, a, cap, rfl, h2, h3, h0, h4⟩ := h
  refine ⟨h1, a, cap, rfl, h2, h3, h0, fun hp => ?_⟩
  obtain ⟨g, o, rfl, hc⟩ := h4 hp
  refine ⟨g, o, rfl, fun j u hj => ?_⟩
  have := hc j u hj
  rw [hk.cell g _ (lt_of_cell this) (fun hm => hS g hm rfl)]
  exact this
theorem R.form (h : s.R w v L) : ∃ a c, v = .slice a L.length c ∧ L.length ≤ c ∧ c ≤ maxLen ∧ (a = none → c = 0) := by
  obtain ⟨_, a, c, rfl, h2, h3, h4, _⟩ := h; exact ⟨a, c, rfl, h2, h3, h4⟩
theorem R.elem (h : s.R w v L) {k : Nat} (hk : k < L.length) : ∃ g o c, v = .slice (some ⟨g, o, none⟩) L.length c ∧ ∀ j u, (s.cf L[k])[j]? = some u → w.cell? ⟨g, o + k * s.sz + j, none⟩ = some u := by
  obtain ⟨_, a, c, rfl, h2, h3, h4, h5⟩ := h
  have hp := s.pos
  have : 1 * s.sz ≤ L.length * s.sz := Nat.mul_le_mul_right _ (by omega)
  obtain ⟨g, o, rfl, hc⟩ := h5 (by rw [cs_len]; omega)
  refine ⟨g, o, c, rfl, fun j u hu => ?_⟩
  have hj : j < s.sz := by have := (List.getElem?_eq_some_iff.1 hu).1; rwa [s.len] at this
  rw [Nat.add_assoc]
  exact hc (k * s.sz + j) u ((cs_get L k hk j hj).trans hu)
theorem R.part {g o n cap : Nat} (h : s.R w (.slice (some ⟨g, o, none⟩) n cap) L) (a b : Nat) (hab : a ≤ b) (hb : b ≤ L.length) : s.R w (.slice (some ⟨g, o + a * s.sz, none⟩) (b - a) (cap - a)) ((L.take b).drop a) := by
  obtain ⟨a', c', e⟩ : ∃ a c, Value.slice (some ⟨g, o, none⟩) n cap = .slice a L.length c := by obtain ⟨_, a, cap, e, _⟩ := h; exact ⟨a, cap, e⟩
  cases e
  have h' := Sl.part h a b hab hb
  rw [cs_take, cs_drop] at h'
  unfold R
  rw [List.length_drop, List.length_take, Nat.min_eq_left hb]
  exact h'
theorem R.tail {g o n cap : Nat} (h : s.R w (.slice (some ⟨g, o, none⟩) n cap) L) (a : Nat) (ha : a ≤ L.length) :
    s.R w (.slice (if cap = a then some ⟨g, o, none⟩ else some ⟨g, o + a * s.sz, none⟩) (L.length - a) (cap - a)) (L.drop a) := by
  have h' := h.part a L.length ha (Nat.le_refl _)
  rw [List.take_of_length_le (Nat.le_refl _)] at h'
  by_cases hc : cap = a
  · rw [if_pos hc]
    have hLc : L.length ≤ cap := by obtain ⟨_, a', c', e, h2, _⟩ := h; cases e; exact h2
    have hd : L.drop a = [] := List.drop_of_length_le (by omega)
    rw [hd, show L.length - a = 0 by omega]
    exact ⟨by simp [cs], _, _, rfl, by simp, by unfold maxLen; omega, by simp, by simp [cs]⟩
  · rw [if_neg hc]; exact h'
/-- What was just laid. -/
theorem R.made (s : Sh α) (w : World) (L : List α) (xs : Array Value) (t : TypeId) (hx : xs.toList = s.cs L) (hl : L.length ≤ maxLen) (n : Nat) (hn : n = L.length) : s.R (w.alloc (.cells xs t)) (.slice (some ⟨w.heap.size, 0, none⟩) n n) L := by
  subst hn
  refine ⟨cs_len L, _, _, rfl, Nat.le_refl _, hl, by simp, fun _ => ⟨_, 0, rfl, fun j u hj => ?_⟩⟩
  rw [World.cell?_alloc_mark, Nat.zero_add]
  rw [← hx] at hj
  simpa using hj
theorem R.of_slR {Rel : World → List Value → α → Prop} (hR : ∀ cs x, Rel w cs x → cs = s.cf x) (h : Gen.SlR Rel s.sz w v L) : s.R w v L := by
  obtain ⟨cs', h1, h2⟩ := h
  have hl : cs'.length = L.length * s.sz := h1.1
  have : cs' = s.cs L := by
    refine List.ext_getElem? fun i => ?_
    by_cases hi : i < L.length * s.sz
    · have hp := s.pos
      have hk : i / s.sz < L.length := (Nat.div_lt_iff_lt_mul hp).2 hi
      have hr : i % s.sz < s.sz := Nat.mod_lt _ hp
      have hdm : i / s.sz * s.sz + i % s.sz = i := by rw [Nat.mul_comm]; exact Nat.div_add_mod _ _
      have h3 := hR _ _ (h2 _ hk)
      have h4 := cs_get L (i / s.sz) hk (i % s.sz) hr
      rw [hdm] at h4
      rw [h4, ← h3, List.getElem?_take_of_lt hr, List.getElem?_drop, hdm]
    · rw [List.getElem?_eq_none (by omega), List.getElem?_eq_none (by rw [cs_len]; omega)]
  rw [this] at h1
  exact h1

/-- .. and is the call's own: it lies at the head of a block from `B` on. -/
def O (s : Sh α) (w : World) (B : Nat) (e : TypeId) (v : Value) (L : List α) : Prop := w.ownsRow B e s.sz v L.length (s.cs L)
theorem O.r (h : s.O w B e v L) : s.R w v L := Sl.of_owns h
theorem O.nil (s : Sh α) (w : World) (B : Nat) (e : TypeId) : s.O w B e (.slice none 0 0) [] := World.ownsRow_nil _ _ _ _
theorem O.fresh (s : Sh α) (w : World) (B : Nat) (e : TypeId) (h : B ≤ w.heap.size) : s.O (w.alloc (.cells #[] e)) B e (.slice (some ⟨w.heap.size, 0, none⟩) 0 0) [] := ownsRow_empty w _ _ _ h
theorem O.keepS {S : List Nat} (h : s.O w B e v L) (hk : Keeps S w w') (hS : ∀ b ∈ S, v.ownBlock ≠ some b) : s.O w' B e v L := by
  refine ⟨h.1, ?_⟩
  rcases h.2 with hn | ⟨g, cap, cur, rfl, hb, hg, rest⟩
  · exact .inl hn
  · exact .inr ⟨g, cap, cur, rfl, hb, (hk.block g (Array.getElem?_eq_some_iff.1 hg).1 (fun hm => hS g hm rfl)).trans hg, rest⟩
theorem O.keeps (h : s.O w B e v L) (hk : Keeps [] w w') : s.O w' B e v L := h.keepS hk (by simp)
theorem O.ge (h : s.O w B e v L) : ∀ b, v.ownBlock = some b → B ≤ b := ownBlock_ge h
theorem O.lt (h : s.O w B e v L) : ∀ b, v.ownBlock = some b → b < w.heap.size := fun b hb => (World.ownsRow.lt h b hb).2
theorem O.form (h : s.O w B e v L) : ∃ a c, v = .slice a L.length c := by obtain ⟨a, c, e, _⟩ := h.r.form; exact ⟨a, c, e⟩
/-- `append(v, v2...)`. -/
theorem wpl_app {P : Program} {ops : Array Oper} {rest : List Oper} {o : Oper} {a : Act} {Q : Exit → Act → World → Prop} (s : Sh α) (B : Nat) {e t : TypeId} {z : Value} {by_ : Nat} (hinf : (P.info? e).map (fun i => (i.zero, i.size, i.bytes)) = some (some z, s.sz, by_)) (hz : z.cells.size = s.sz) (ht : P.underlying t = some (.slice e))
    (v v2 : Value) (L M : List α) (hg : o.guard = none) (x y : Operand) (ho : o.op = .call { callee := .builtin .append, args := #[x, y], argTypes := #[t, t] }) (hs : a.eval x = v) (hx : a.eval y = v2) (h : s.O w B e v L) (hsl : s.R w v2 M)
    (hl : (L.length + M.length) * (by_ + 1) ≤ 140737488355328) (hB : B ≤ w.heap.size)
    (hK : ∀ v' w', s.O w' B e v' (L ++ M) → Grw w w' v v' → wpList P ops Q rest (a.put o.dst v') w') : wpList P ops Q (o :: rest) a w := by
  obtain ⟨i0, hi, hz0, hz1, hz2⟩ := info_parts hinf
  have h1 : L.length + M.length ≤ (L.length + M.length) * (by_ + 1) := Nat.le_mul_of_pos_right _ (by omega)
  have h2 : (L.length + M.length) * by_ ≤ (L.length + M.length) * (by_ + 1) := Nat.mul_le_mul_left _ (by omega)
  refine wpl_append_x hg x y _ ho B e i0 z s.sz by_ ht hi hz0 hz1 hz2 hz s.pos v L.length (s.cs L) hs h v2 M.length (s.cs M) hx hsl (cs_one M) (by unfold maxLen; omega) (by omega) hB ?_
  intro v' w' h1 h2 _
  refine hK v' w' ?_ h2
  unfold O
  rw [cs_append, List.length_append]
  exact h1
theorem wp_app {P : Program} {o : Oper} {a : Act} {K : Act → World → Prop} {Q : Exit → Act → World → Prop} (s : Sh α) (B : Nat) {e t : TypeId} {z : Value} {by_ : Nat} (hinf : (P.info? e).map (fun i => (i.zero, i.size, i.bytes)) = some (some z, s.sz, by_)) (hz : z.cells.size = s.sz) (ht : P.underlying t = some (.slice e))
    (v v2 : Value) (L M : List α) (x y : Operand) (ho : o.op = .call { callee := .builtin .append, args := #[x, y], argTypes := #[t, t] }) (hs : a.eval x = v) (hx : a.eval y = v2) (h : s.O w B e v L) (hsl : s.R w v2 M)
    (hl : (L.length + M.length) * (by_ + 1) ≤ 140737488355328) (hB : B ≤ w.heap.size)
    (hK : ∀ v' w', s.O w' B e v' (L ++ M) → Grw w w' v v' → K (a.put o.dst v') w') : o.wp P a w K Q := by
  obtain ⟨i0, hi, hz0, hz1, hz2⟩ := info_parts hinf
  have h1 : L.length + M.length ≤ (L.length + M.length) * (by_ + 1) := Nat.le_mul_of_pos_right _ (by omega)
  have h2 : (L.length + M.length) * by_ ≤ (L.length + M.length) * (by_ + 1) := Nat.mul_le_mul_left _ (by omega)
  refine wp_append_x x y _ ho B e i0 z s.sz by_ ht hi hz0 hz1 hz2 hz s.pos v L.length (s.cs L) hs h v2 M.length (s.cs M) hx hsl (cs_one M) (by unfold maxLen; omega) (by omega) hB ?_
  intro v' w' h1 h2 _
  refine hK v' w' ?_ h2
  unfold O
  rw [cs_append, List.length_append]
  exact h1
/-- What the growth of the call's own leaves. -/
theorem O.grew {W : World} (hk : Keeps [] W w) (h : s.O w B e v L) (hg : Grw w w' v v') (hB : W.heap.size ≤ B) : Keeps [] W w' := Grw.keeps hk hg (fun b hb => Nat.le_trans hB (h.ge b hb))
/-- One cell of one element is stored. -/
theorem cs_set : ∀ (L : List α) (k : Nat) (hk : k < L.length) (y : α) (j : Nat) (u : Value), (s.cf y) = (s.cf L[k]).set j u → j < s.sz → s.cs (L.set k y) = (s.cs L).set (k * s.sz + j) u
  | x :: t, 0, _, y, j, u, hy, hj => by
    simp only [List.set_cons_zero, cs, Nat.zero_mul, Nat.zero_add]
    rw [hy, List.set_append_left _ _ (by rw [s.len]; exact hj)]
    rfl
  | x :: t, k + 1, hk, y, j, u, hy, hj => by
    have := cs_set t k (by simpa using hk) y j u hy hj
    simp only [List.set_cons_succ, cs, this]
    rw [List.set_append_right _ _ (by rw [s.len, Nat.add_mul]; omega)]
    congr 2
    rw [s.len, Nat.add_mul]; omega
theorem O.set {g n c : Nat} (h : s.O w B e (.slice (some ⟨g, 0, none⟩) n c) L) {k : Nat} (hk : k < L.length) (y : α) (j : Nat) (u : Value) (hy : s.cf y = (s.cf L[k]).set j u) (hj : j < s.sz) (hu : u.oneCell' = true) :
    s.O (w.setCell ⟨g, k * s.sz + j, none⟩ u) B e (.slice (some ⟨g, 0, none⟩) n c) (L.set k y) := by
  rcases h with ⟨h1, ⟨h2, _⟩ | ⟨g', cap, cur, h2, hb, hg, h3, h4, h5, h6⟩⟩
  · cases h2
  · have hn : n = L.length := by simp at h2; exact h2.2.1
    subst hn
    cases h2
    have hkl : k * s.sz + j < L.length * s.sz := by
      have : (k + 1) * s.sz ≤ L.length * s.sz := Nat.mul_le_mul_right _ hk
      rw [Nat.add_mul] at this; omega
    refine ⟨by rw [cs_len], .inr ⟨g, c, cur.set! (k * s.sz + j) u, by simp, hb, ?_, by simpa using h3, h4, by simpa using h5, ?_⟩⟩
    · simp [World.setCell, Array.getElem?_modify, hg]
    · rw [cs_set L k hk y j u hy hj, ← h6, List.length_set]
      simp [List.take_set]
end Sh
end Go.Proofs.YtiplgpefapeapaaGreat

namespace Go.Proofs.YtiplgpefapeapaaGreat
namespace MapS
open Go Go.RowKit

/-- How the keys of a map type read. -/
structure KT (P : Program) (kt : TypeId) (κ : Type) where
  kv : κ → Value
  ok : κ → Prop
  law : Maps.Keyed P kt
  key : ∀ x, ok x → ∃ l, keyOf P kt (kv x) = some l
  inj : ∀ x y, kv x = kv y → x = y
variable {P : Program} {kt t e : TypeId} {κ : Type} [DecidableEq κ] {α : Type} (K : KT P kt κ) (vf : α → Value)
abbrev Es (κ α : Type) := List (κ × α)
def raw (v : Value) : Option (DataW Value × List MemPlace) := some (.held v, [])
def get (k : κ) : Es κ α → Option α
  | [] => none
  | (x, u) :: r => if x = k then some u else get k r
def del (k : κ) (L : Es κ α) : Es κ α := L.filter (fun p => !decide (p.1 = k))
def set (k : κ) (v : α) (L : Es κ α) : Es κ α := L.map (fun p => if p.1 = k then (k, v) else p)
def ND (L : Es κ α) : Prop := (L.map (·.1)).Nodup
variable {vf} {k x : κ} {v u : α} {L L2 : Es κ α}

theorem get_mem : ∀ {L : Es κ α}, get k L = some v → (k, v) ∈ L
  | [], h => by cases h
  | (x, u) :: r, h => by
    unfold get at h
    split at h
    · rename_i e; cases h; subst e; simp
    · exact List.mem_cons_of_mem _ (get_mem h)
theorem get_none : ∀ {L : Es κ α}, get k L = none ↔ ∀ p ∈ L, p.1 ≠ k
  | [] => by simp [get]
  | (x, u) :: r => by
    unfold get
    split
    · rename_i e; subst e; simp
    · rename_i e; rw [get_none (L := r)]; simp [e]
theorem get_of_mem : ∀ {L : Es κ α}, ND L → (k, v) ∈ L → get k L = some v
  | [], _, h => by simp at h
  | (x, u) :: r, ha, h => by
    obtain ⟨h1, h2⟩ := List.nodup_cons.1 ha
    unfold get
    rcases List.mem_cons.1 h with e | hm
    · cases e; simp
    · rw [if_neg (fun e => h1 (List.mem_map.2 ⟨_, hm, e.symm⟩))]
      exact get_of_mem h2 hm
theorem get_iff (h : ND L) : get k L = some v ↔ (k, v) ∈ L := ⟨get_mem, get_of_mem h⟩
theorem get_perm (h : ND L) (hp : L.Perm L2) : get k L2 = get k L := by
  have h' : ND L2 := (hp.map _).nodup_iff.1 h
  cases hg : get k L with
  | some v => exact (get_iff h').2 (hp.mem_iff.1 (get_mem hg))
  | none =>
    rw [get_none] at hg ⊢
    exact fun p hp' => hg p (hp.mem_iff.2 hp')
theorem get_append (j : κ) : ∀ {L N : Es κ α}, get j (L ++ N) = (get j L).or (get j N)
  | [], N => by simp [get]
  | (x, u) :: r, N => by
    simp only [List.cons_append, get]
    split
    · rfl
    · exact get_append j
theorem nd_snoc (h : ND L) (hn : get k L = none) (v : α) : ND (L ++ [(k, v)]) := by
  unfold ND at h ⊢
  rw [List.map_append, List.nodup_append]
  refine ⟨h, by simp, fun a ha b hb => ?_⟩
  simp at hb; subst hb
  obtain ⟨p, hp, rfl⟩ := List.mem_map.1 ha
  exact get_none.1 hn p hp
theorem set_keys (v : α) : ∀ L : Es κ α, (set k v L).map (·.1) = L.map (·.1)
  | [] => rfl
  | (x, u) :: r => by
    have ih := set_keys v r
    unfold set at ih ⊢
    simp only [List.map_cons]
    rw [ih]
    split
    · rename_i e; rw [e]
    · rfl
theorem nd_set (h : ND L) (v : α) : ND (set k v L) := by unfold ND; rw [set_keys]; exact h
theorem get_set (j : κ) (v : α) : ∀ {L : Es κ α}, get j (set k v L) = if j = k ∧ (get k L).isSome then some v else get j L
  | [] => by simp [set, get]
  | (x, u) :: r => by
    have ih := get_set j v (L := r)
    unfold set at ih ⊢
    simp only [List.map_cons]
    by_cases e : x = k
    · subst e
      simp only [if_true, get]
      by_cases e2 : x = j
      · subst e2; simp
      · rw [if_neg e2, ih, if_neg e2, if_neg (fun h => e2 h.1.symm), if_neg (fun h => e2 h.1.symm)]
    · simp only [if_neg e, get]
      by_cases e2 : x = j
      · subst e2; simp [e]
      · rw [if_neg e2, ih, if_neg e2]
theorem get_del (j : κ) : ∀ {L : Es κ α}, get j (del k L) = if j = k then none else get j L
  | [] => by simp [del, get]
  | (x, u) :: r => by
    have ih := get_del j (L := r)
    unfold del at ih ⊢
    by_cases e : x = k
    · rw [List.filter_cons_of_neg (by simp [e]), ih]
      simp only [get]
      by_cases e2 : j = k
      · simp [e2]
      · rw [if_neg e2, if_neg e2, if_neg (by rw [e]; exact fun h => e2 h.symm)]
    · rw [List.filter_cons_of_pos (by simp [e])]
      simp only [get, ih]
      by_cases e2 : x = j
      · rw [if_pos e2, if_neg (by rw [← e2]; exact e), if_pos e2]
      · rw [if_neg e2, if_neg e2]
theorem nd_del (h : ND L) : ND (del k L) := List.Nodup.sublist (List.Sublist.map _ (List.filter_sublist)) h
theorem len_del : ∀ {L : Es κ α}, ND L → (del k L).length + (if (get k L).isSome then 1 else 0) = L.length
  | [], _ => by simp [del, get]
  | (x, u) :: r, h => by
    obtain ⟨h1, h2⟩ := List.nodup_cons.1 h
    have ih := len_del (L := r) h2
    unfold del at ih ⊢
    by_cases e : x = k
    · subst e
      have hn : get x r = none := get_none.2 (fun p hp e => h1 (List.mem_map.2 ⟨p, hp, e⟩))
      rw [hn] at ih
      rw [List.filter_cons_of_neg (by simp)]
      simp [get] at ih ⊢; omega
    · rw [List.filter_cons_of_pos (by simp [e])]
      simp only [get, if_neg e, List.length_cons]
      omega
/-- The datum answers as the list. -/
def Rep (K : KT P kt κ) (vf : α → Value) (D : DataW Value) (L : Es κ α) : Prop :=
  ∀ x l, keyOf P kt (K.kv x) = some l → match get x L with
    | none => Maps.has D l = false
    | some u => Maps.has D l = true ∧ ∀ z, D.atKey l z = .held (vf u)
variable {D : DataW Value}
theorem Rep.no (h : Rep K vf D L) {l : Lit} (hl : keyOf P kt (K.kv x) = some l) (hg : get x L = none) : Maps.has D l = false := by have := h x l hl; rw [hg] at this; exact this
theorem Rep.yes (h : Rep K vf D L) {l : Lit} (hl : keyOf P kt (K.kv x) = some l) (hg : get x L = some u) : Maps.has D l = true ∧ ∀ z, D.atKey l z = .held (vf u) := by have := h x l hl; rw [hg] at this; exact this
theorem Rep.hs (h : Rep K vf D L) {l : Lit} (hl : keyOf P kt (K.kv x) = some l) : Maps.has D l = (get x L).isSome := by
  cases hg : get x L with
  | none => rw [h.no K hl hg]; rfl
  | some u => rw [(h.yes K hl hg).1]; rfl
/-- .. and has no other keys. -/
def Dom (K : KT P kt κ) (f : Lit → Bool) (L : Es κ α) : Prop := ∀ l, f l = true → ∃ x, keyOf P kt (K.kv x) = some l ∧ (get x L).isSome = true
/-- The map in block `b` has the entries `L`. -/
structure M (K : KT P kt κ) (vf : α → Value) (w : World) (b : Nat) (L : Es κ α) : Prop where
  own : ∃ D, w.ownsMap P kt raw b L.length D ∧ Maps.size D = L.length ∧ Rep K vf D L ∧ Dom K (Maps.has D) L
  nd : ND L
  ok : ∀ p ∈ L, K.ok p.1
variable {w w' : World} {b : Nat}
theorem tight {n : Nat} {D : DataW Value} (h : w.ownsMap P kt raw b n D) : w.ownsMap P kt raw b (Maps.size D) D := by
  obtain ⟨es, c, hb, F, _, hD⟩ := h
  refine ⟨es, c, hb, F, ?_, hD⟩
  have := congrArg Maps.size hD
  simp only [Maps.size, length_sorted, List.length_map, Array.length_toList] at this
  simp only [Maps.size]
  omega
theorem M.made (w : World) : M K vf (w.alloc (.map #[] 0)) w.heap.size [] :=
  ⟨⟨.map [], World.ownsMap_made w _ _ _, rfl, fun x l _ => rfl, fun l h => by simp [Maps.has] at h⟩, List.Pairwise.nil, by simp⟩
theorem M.kept {S : List Nat} (h : M K vf w b L) (hk : Keeps S w w') (hS : b ∉ S) : M K vf w' b L := by
  obtain ⟨⟨D, ⟨es, clock, hb, F, hs, hD⟩, h2, h3⟩, ha, hw⟩ := h
  exact ⟨⟨D, ⟨es, clock, (hk.block b (Array.getElem?_eq_some_iff.1 hb).1 hS).trans hb, F, hs, hD⟩, h2, h3⟩, ha, hw⟩
theorem M.keeps (h : M K vf w b L) (hk : Keeps [] w w') : M K vf w' b L := h.kept K hk (by simp)
theorem M.lt (h : M K vf w b L) : b < w.heap.size := by obtain ⟨⟨D, h, _⟩, _⟩ := h; exact h.lt
theorem M.noCells (h : M K vf w b L) (o : Nat) : w.cell? ⟨b, o, none⟩ = none := by obtain ⟨⟨D, h, _⟩, _⟩ := h; exact owns_no_cells h o
theorem M.perm (h : M K vf w b L) {L' : Es κ α} (hp : L.Perm L') : M K vf w b L' := by
  obtain ⟨⟨D, h1, h2, h3, h4⟩, hn, ho⟩ := h
  refine ⟨⟨D, by rw [← hp.length_eq]; exact h1, by rw [← hp.length_eq]; exact h2, fun x l hl => ?_, fun l hl => by obtain ⟨x, e, g⟩ := h4 l hl; exact ⟨x, e, by rw [get_perm hn hp]; exact g⟩⟩, (hp.map _).nodup_iff.1 hn, fun p hm => ho p (hp.mem_iff.2 hm)⟩
  rw [get_perm hn hp]; exact h3 x l hl
section
variable (ht : P.underlying t = some (.map kt e)) (z : Value) (hz : ∀ w, (zeroValue e).run P w = .ok z w)
include ht hz
theorem M.look (h : M K vf w b L) (hk : K.ok k) : (Instr.lookup t (.map (some b)) (K.kv k) false).run P w = .ok (((get k L).map vf).getD z) w := by
  obtain ⟨⟨D, h1, h2, h3, h4⟩, hn, ho⟩ := h
  obtain ⟨l, hl⟩ := K.key k hk
  obtain ⟨v, ps, hrun, hv⟩ := h1.lookup K.law ht (hz w) (zd := .held z) (zp := []) rfl hl
  simp only [raw, Option.some.injEq, Prod.mk.injEq] at hv
  rw [hrun]
  congr 1
  cases hg : get k L with
  | none =>
    rw [Maps.atKey_of_not_has (h3.no K hl hg)] at hv
    have := hv.1; cases this; rfl
  | some u =>
    rw [(h3.yes K hl hg).2] at hv
    have := hv.1; cases this; rfl
theorem M.look_ok (h : M K vf w b L) (hk : K.ok k) : (Instr.lookup t (.map (some b)) (K.kv k) true).run P w = .ok (.tuple #[((get k L).map vf).getD z, .bool (get k L).isSome]) w := by
  obtain ⟨⟨D, h1, h2, h3, h4⟩, hn, ho⟩ := h
  obtain ⟨l, hl⟩ := K.key k hk
  obtain ⟨v, ps, hrun, hv⟩ := World.ownsMap.look_ok h1 K.law ht (hz w) (zd := .held z) (zp := []) rfl hl
  simp only [raw, Option.some.injEq, Prod.mk.injEq] at hv
  rw [hrun, h3.hs K hl]
  cases hg : get k L with
  | none =>
    rw [Maps.atKey_of_not_has (h3.no K hl hg)] at hv
    have := hv.1; cases this; rfl
  | some u =>
    rw [(h3.yes K hl hg).2] at hv
    have := hv.1; cases this; rfl
omit hz in
theorem store (h : M K vf w b L) (hk : K.ok k) (hn : L.length < maxLen) (v : α) :
    ∃ w' D, (Instr.mapUpdate t (.map (some b)) (K.kv k) (vf v)).run P w = .ok () w' ∧ w'.ownsMap P kt raw b (Maps.size D) D ∧ Maps.size D = (if (get k L).isSome then L.length else L.length + 1) ∧
      (∀ x l, keyOf P kt (K.kv x) = some l → match (if x = k then some v else get x L) with | none => Maps.has D l = false | some u => Maps.has D l = true ∧ ∀ z, D.atKey l z = .held (vf u)) ∧ (∀ l, Maps.has D l = true → keyOf P kt (K.kv k) = some l ∨ ∃ x, keyOf P kt (K.kv x) = some l ∧ (get x L).isSome = true) ∧ Keeps [b] w w' := by
  obtain ⟨⟨D, h1, h2, h3, h4⟩, hnd, ho⟩ := h
  obtain ⟨l, hl⟩ := K.key k hk
  obtain ⟨w', hrun, hown', htu⟩ := h1.store K.law ht hn hl (d := .held (vf v)) (ps := []) rfl
  refine ⟨w', _, hrun, tight hown', ?_, fun x l' hl' => ?_, fun l' hl' => ?_, Keeps.of_grown htu.grown⟩
  · rw [Maps.size_put (h1.tidy K.law), h3.hs K hl, h2]
  · by_cases e : x = k
    · subst e
      rw [hl] at hl'; cases hl'
      rw [if_pos rfl]
      exact ⟨Maps.has_put_same h1.isMap (K.law.key hl) _, fun z => Maps.atKey_put_same h1.isMap (K.law.key hl) _ _⟩
    · have hne : l' ≠ l := fun e' => by subst e'; exact e (K.inj _ _ (K.law.inj hl' hl))
      rw [if_neg e, Maps.has_put_other hne]
      have := h3 x l' hl'
      cases hg : get x L with
      | none => rw [hg] at this; exact this
      | some u => rw [hg] at this; exact ⟨this.1, fun z => (Maps.atKey_put_other hne _ _).trans (this.2 z)⟩
  · by_cases e : l' = l
    · subst e; exact .inl hl
    · rw [Maps.has_put_other e] at hl'
      exact .inr (h4 l' hl')
omit hz in
/-- A new key. -/
theorem M.putNew (h : M K vf w b L) (hk : K.ok k) (hg : get k L = none) (hn : L.length < maxLen) (v : α) :
    ∃ w', (Instr.mapUpdate t (.map (some b)) (K.kv k) (vf v)).run P w = .ok () w' ∧ M K vf w' b (L ++ [(k, v)]) ∧ Keeps [b] w w' := by
  obtain ⟨w', D, hr, ho, hs, hR, hdm, hkp⟩ := store K ht h hk hn v
  rw [hg] at hs
  have hs' : Maps.size D = (L ++ [(k, v)]).length := by simpa using hs
  have e2 : ∀ x, get x (L ++ [(k, v)]) = if x = k then some v else get x L := fun x => by
    rw [get_append (κ := κ)]
    by_cases e : x = k
    · subst e; rw [hg]; simp [get]
    · rw [if_neg e]; have e' : ¬ k = x := fun h => e h.symm
      simp [get, e']
  refine ⟨w', hr, ⟨⟨D, hs' ▸ ho, hs', fun x l hl => ?_, fun l hl => ?_⟩, nd_snoc h.nd hg v, fun p hp => ?_⟩, hkp⟩
  · have := hR x l hl
    rw [e2]; exact this
  · rcases hdm l hl with h1 | ⟨x, h1, h2⟩
    · exact ⟨k, h1, by rw [e2, if_pos rfl]; rfl⟩
    · refine ⟨x, h1, ?_⟩
      rw [e2]; split
      · rfl
      · exact h2
  · rcases List.mem_append.1 hp with hp | hp
    · exact h.ok p hp
    · simp at hp; subst hp; exact hk
omit hz in
/-- A key that is there. -/
theorem M.putOld (h : M K vf w b L) (hk : K.ok k) (hg : (get k L).isSome = true) (hn : L.length < maxLen) (v : α) :
    ∃ w', (Instr.mapUpdate t (.map (some b)) (K.kv k) (vf v)).run P w = .ok () w' ∧ M K vf w' b (set k v L) ∧ Keeps [b] w w' := by
  obtain ⟨w', D, hr, ho, hs, hR, hdm, hkp⟩ := store K ht h hk hn v
  rw [if_pos hg] at hs
  have hs' : Maps.size D = (set k v L).length := by simpa [set] using hs
  refine ⟨w', hr, ⟨⟨D, hs' ▸ ho, hs', fun x l hl => ?_, fun l hl => ?_⟩, nd_set h.nd v, fun p hp => ?_⟩, hkp⟩
  · have := hR x l hl
    rw [get_set (k := k), hg]
    simpa using this
  · rcases hdm l hl with h1 | ⟨x, h1, h2⟩
    · exact ⟨k, h1, by rw [get_set (k := k), hg]; simp⟩
    · refine ⟨x, h1, ?_⟩
      rw [get_set (k := k), hg]; split
      · rfl
      · exact h2
  · obtain ⟨q, hq, rfl⟩ := List.mem_map.1 hp
    split
    · exact hk
    · exact h.ok q hq
omit hz in
theorem M.drop (h : M K vf w b L) (hk : K.ok k) (ty : TypeId) :
    ∃ w', (Builtin.delete_ #[t, kt] ty #[.map (some b), K.kv k]).run P w = .ok (.tuple #[]) w' ∧ M K vf w' b (del k L) ∧ Keeps [b] w w' := by
  obtain ⟨⟨D, h1, h2, h3, h4⟩, hnd, ho⟩ := h
  obtain ⟨l, hl⟩ := K.key k hk
  obtain ⟨w', hrun, hown', htu⟩ := h1.drop K.law ht hl ty
  have hsd := Maps.size_del (k := l) (h1.tidy K.law)
  rw [h3.hs K hl, h2] at hsd
  have hld := len_del (k := k) hnd
  have hs' : Maps.size (D.del l) = (del k L).length := by omega
  refine ⟨w', hrun, ⟨⟨_, hs' ▸ tight hown', hs', fun x l' hl' => ?_, fun l' hl' => ?_⟩, nd_del hnd, fun p hp => ho p (List.mem_filter.1 hp).1⟩, Keeps.of_grown htu.grown⟩
  rotate_left
  · by_cases e : l' = l
    · subst e; rw [Maps.has_del_same] at hl'; cases hl'
    · rw [Maps.has_del_other e] at hl'
      obtain ⟨x, h5, h6⟩ := h4 l' hl'
      exact ⟨x, h5, by rw [get_del, if_neg (fun e' => by subst e'; rw [hl] at h5; cases h5; exact e rfl)]; exact h6⟩
  rw [get_del]
  by_cases e : x = k
  · subst e
    rw [hl] at hl'; cases hl'
    rw [if_pos rfl]
    exact Maps.has_del_same
  · have hne : l' ≠ l := fun e' => by subst e'; exact e (K.inj _ _ (K.law.inj hl' hl))
    rw [if_neg e, Maps.has_del_other hne]
    have := h3 x l' hl'
    cases hg : get x L with
    | none => rw [hg] at this; exact this
    | some u => rw [hg] at this; exact ⟨this.1, fun z => (Maps.atKey_del_other hne _).trans (this.2 z)⟩
omit hz in
theorem M.len (h : M K vf w b L) (ty : TypeId) : (Builtin.len_ #[t] ty #[.map (some b)]).run P w = .ok (.int .i64 L.length) w := by
  obtain ⟨⟨D, h1, h2, h3, h4⟩, _⟩ := h
  rw [h1.len ht ty, h2]
end
/-- An iteration over the map: `rest` is still to come. -/
structure Rg (K : KT P kt κ) (vf : α → Value) (w : World) (b r : Nat) (L rest : Es κ α) : Prop where
  ex : ∃ n D left cnt, w.ranges P kt raw b r n D left cnt ∧ Rep K vf D L ∧ (∀ x l, keyOf P kt (K.kv x) = some l → left l = (get x rest).isSome) ∧ Dom K left rest
  nd : ND L
  nr : ND rest
  sub : ∀ p ∈ rest, p ∈ L
  ok : ∀ p ∈ L, K.ok p.1
section
variable {ops : Array Oper} {rest : List Oper} {o : Oper} {a : Act} {Q : Exit → Act → World → Prop}
theorem wpl_range (hg : o.guard = none) (m : Operand) (hop : o.op = Op.range t m) (ht : P.underlying t = some (.map kt e)) (hm : a.eval m = .map (some b)) (h : M K vf w b L)
    (hK : ∀ w', Rg K vf w' b w.heap.size L L → w.grownBy w' none → w'.heap.size = w.heap.size + 1 → wpList P ops Q rest (a.put o.dst (.pointer (some ⟨w.heap.size, 0, none⟩))) w') : wpList P ops Q (o :: rest) a w := by
  obtain ⟨⟨D, h1, h2, h3, h4⟩, hnd, ho⟩ := h
  refine wpList_range_own w hg m t hop kt e K.law ht raw b L.length D hm h1 (fun w' hr hg2 hs => hK w' ⟨⟨_, _, _, _, hr, h3, fun x l hl => h3.hs K hl, h4⟩, hnd, hnd, fun _ h => h, ho⟩ hg2 hs)
theorem wpl_next (hg : o.guard = none) (it : Operand) (hop : o.op = Op.next it false) {r : Nat} {R : Es κ α} (hit : a.eval it = .pointer (some ⟨r, 0, none⟩)) (h : Rg K vf w b r L R)
    (hDone : R = [] → wpList P ops Q rest (a.put o.dst (.tuple #[.bool false])) w)
    (hMore : ∀ (x : κ) (u : α) (R' : Es κ α) (w' : World), K.ok x → get x L = some u → (x, u) ∈ R → R.Perm ((x, u) :: R') → Rg K vf w' b r L R' → w.grownBy w' (some r) → w'.heap.size = w.heap.size →
      (Instr.entry (.pointer (some ⟨r, 0, none⟩))).run P w' = .ok (.tuple #[K.kv x, vf u]) w' → wpList P ops Q rest (a.put o.dst (.tuple #[.bool true, K.kv x, vf u])) w') : wpList P ops Q (o :: rest) a w := by
  obtain ⟨⟨n, D, left, cnt, hr, hR, hl, hdm⟩, hnd, hnr, hsub, hok⟩ := h
  refine wpList_next_ranges w hg it hop kt K.law raw id id (fun key _ _ => ⟨key, rfl⟩) (fun v _ _ => ⟨v, rfl⟩) b r n D left cnt hit hr ?_ ?_
  · intro _ h0
    refine hDone ?_
    cases R with
    | nil => rfl
    | cons p t =>
      obtain ⟨l, hl'⟩ := K.key p.1 (hok p (hsub p (by simp)))
      have := hl p.1 l hl'
      rw [h0 l] at this
      simp [get] at this
  · intro key c kl y w' cnt' hkey hlk hv hat hr' _ hg2 hs hen
    obtain ⟨x, hkx, _⟩ := hdm kl hlk
    obtain rfl : key = K.kv x := K.law.inj hkey hkx
    replace hkey := hkx
    have hlx := hl x kl hkey
    rw [hlk] at hlx
    obtain ⟨u, hu⟩ := Option.isSome_iff_exists.1 hlx.symm
    have hum := get_mem hu
    have hgL := get_of_mem hnd (hsub _ hum)
    have hc : c = vf u := by
      simp only [raw, id, Option.some.injEq] at hv
      have h1 := hat (.held c)
      rw [(hR.yes K hkey hgL).2] at h1
      rw [← hv] at h1
      cases h1; rfl
    subst hc
    have hp : R.Perm ((x, u) :: del x R) := by
      have hnk : ∀ {S : Es κ α}, ND S → (x, u) ∈ S → S.Perm ((x, u) :: del x S) := by
        intro S
        induction S with
        | nil => intro _ h; simp at h
        | cons q s ih =>
          intro hn hm
          obtain ⟨n1, n2⟩ := List.nodup_cons.1 hn
          rcases List.mem_cons.1 hm with rfl | hm
          · have hself : del x s = s := List.filter_eq_self.2 (fun p hp => by
              have : p.1 ≠ x := fun e => n1 (List.mem_map.2 ⟨p, hp, e⟩)
              simp [this])
            have : del x ((x, u) :: s) = s := by
              unfold del at hself ⊢
              rw [List.filter_cons_of_neg (by simp)]; exact hself
            rw [this]
          · have hqx : q.1 ≠ x := fun e => n1 (List.mem_map.2 ⟨(x, u), hm, e.symm⟩)
            have : del x (q :: s) = q :: del x s := by unfold del; rw [List.filter_cons_of_pos (by simp [hqx])]
            rw [this]
            exact ((ih n2 hm).cons q).trans (List.Perm.swap _ _ _)
      exact hnk hnr hum
    refine hMore x u (del x R) w' ?_ hgL hum hp ⟨⟨n, D, _, cnt', hr', hR, fun z l hz => ?_, fun l hl' => ?_⟩, hnd, nd_del hnr, fun p hm => hsub p (List.mem_filter.1 hm).1, hok⟩ hg2 hs hen
    · exact hok _ (hsub _ hum)
    · show (left l && !l.sameKey kl) = _
      rw [get_del]
      by_cases e : z = x
      · subst e
        rw [hkey] at hz; cases hz
        rw [if_pos rfl]
        simp [WideAt.sameKey_self (K.law.key hkey)]
      · have hne : l ≠ kl := fun e' => by subst e'; exact e (K.inj _ _ (K.law.inj hz hkey))
        rw [if_neg e, hl z l hz]
        simp [Maps.sameKey_ne hne]
    · simp only [Bool.and_eq_true, Bool.not_eq_true'] at hl'
      obtain ⟨z, h5, h6⟩ := hdm l hl'.1
      refine ⟨z, h5, ?_⟩
      rw [get_del, if_neg (fun e => ?_)]
      · exact h6
      · subst e
        rw [hkey] at h5; cases h5
        rw [WideAt.sameKey_self (K.law.key hkey)] at hl'
        cases hl'.2
end
end MapS
end Go.Proofs.YtiplgpefapeapaaGreat

namespace Go.Proofs.YtiplgpefapeapaaGreat
open Go.RowKit

theorem own : ownKnob Tryz.prog.godebug = none := by kernel_rfl
theorem laidOut : laidOutB Tryz.prog = true := by kernel_rfl
abbrev W64 (x : Int) : Prop := (Lit.int .i64 x).wf = true
theorem w64_iff {x : Int} : W64 x ↔ -9223372036854775808 ≤ x ∧ x ≤ 9223372036854775807 := by simp [W64, Lit.wf, IntKind.min, IntKind.max, IntKind.signed, IntKind.bits]
/-- A question: machine, owner, number. -/
abbrev Qn := Int × Int × Nat
/-- A need (Peer, Number, Stamp), an entry of an inset (Client, Number, Out). -/
abbrev T3 := Int × Nat × Int
abbrev tQ : Nat := 95
abbrev tN : Nat := 28
abbrev tI : Nat := 66
abbrev tA : Nat := 46
abbrev tC : Nat := 49
abbrev tT : Nat := 100
def shQ : Sh Qn := ⟨3, fun x => [.int .i64 x.1, .int .i64 x.2.1, .int .u64 x.2.2], fun _ => rfl, by decide, fun x u hu => by simp at hu; rcases hu with rfl | rfl | rfl <;> rfl⟩
def shT : Sh T3 := ⟨3, fun x => [.int .i64 x.1, .int .u64 x.2.1, .int .i64 x.2.2], fun _ => rfl, by decide, fun x u hu => by simp at hu; rcases hu with rfl | rfl | rfl <;> rfl⟩
def shZ : Sh Int := ⟨1, fun x => [.int .i64 x], fun _ => rfl, by decide, fun x u hu => by simp at hu; subst hu; rfl⟩
/-- An answer as its cells: the inset is a slice. -/
structure AnV where
  m : Int
  ow : Int
  n : Nat
  ep : Int
  kn : Bool
  rt : Bool
  lu : Int
  a : Option Addr
  k : Nat
  c : Nat
def AnV.v (x : AnV) : Value := .slice x.a x.k x.c
def AnV.cs (x : AnV) : List Value := [.int .i64 x.m, .int .i64 x.ow, .int .u64 x.n, .int .i64 x.ep, .bool x.kn, .bool x.rt, .int .i64 x.lu, x.v]
def shA : Sh AnV := ⟨8, AnV.cs, fun _ => rfl, by decide, fun x u hu => by simp [AnV.cs, AnV.v] at hu; rcases hu with rfl | rfl | rfl | rfl | rfl | rfl | rfl | rfl <;> rfl⟩
/-- A claim as its cells. -/
structure ClV where
  m : Int
  ep : Int
  v1 : Option Addr × Nat × Nat
  v2 : Option Addr × Nat × Nat
  v3 : Option Addr × Nat × Nat
abbrev slv (x : Option Addr × Nat × Nat) : Value := .slice x.1 x.2.1 x.2.2
def ClV.cs (x : ClV) : List Value := [.int .i64 x.m, .int .i64 x.ep, slv x.v1, slv x.v2, slv x.v3]
def shC : Sh ClV := ⟨5, ClV.cs, fun _ => rfl, by decide, fun x u hu => by simp [ClV.cs] at hu; rcases hu with rfl | rfl | rfl | rfl | rfl <;> rfl⟩
abbrev qV (x : Qn) : Value := .agg #[.int .i64 x.1, .int .i64 x.2.1, .int .u64 x.2.2]
abbrev tV (x : T3) : Value := .agg #[.int .i64 x.1, .int .u64 x.2.1, .int .i64 x.2.2]
def aV (x : AnV) : Value := .agg #[.int .i64 x.m, .int .i64 x.ow, .int .u64 x.n, .int .i64 x.ep, .bool x.kn, .bool x.rt, .int .i64 x.lu, x.v]
def AnV.zero : AnV := ⟨0, 0, 0, 0, false, false, 0, none, 0, 0⟩
theorem infoN : (Tryz.prog.info? tN).map (fun i => (i.zero, i.size, i.bytes)) = some (some (tV (0, 0, 0)), 3, 24) := by kernel_rfl
theorem infoI : (Tryz.prog.info? tI).map (fun i => (i.zero, i.size, i.bytes)) = some (some (tV (0, 0, 0)), 3, 24) := by kernel_rfl
theorem infoA : (Tryz.prog.info? tA).map (fun i => (i.zero, i.size, i.bytes)) = some (some (aV .zero), 8, 72) := by kernel_rfl
theorem infoC : (Tryz.prog.info? tC).map (fun i => (i.zero, i.size, i.bytes)) = some (some (.agg #[.int .i64 0, .int .i64 0, .slice none 0 0, .slice none 0 0, .slice none 0 0]), 5, 88) := by kernel_rfl
theorem infoZ : (Tryz.prog.info? 3).map (fun i => (i.zero, i.size, i.bytes)) = some (some (.int .i64 0), 1, 8) := by kernel_rfl
theorem zeroA (w : World) : (zeroValue tA).run Tryz.prog w = .ok (aV .zero) w := by kernel_rfl
/-- The map's keys. -/
def qOk (x : Qn) : Prop := W64 x.1 ∧ W64 x.2.1 ∧ x.2.2 < 18446744073709551616
theorem w64u {n : Nat} (h : n < 18446744073709551616) : (Lit.int .u64 (n : Int)).wf = true := by simp [Lit.wf, IntKind.min, IntKind.max, IntKind.signed, IntKind.bits]; omega
theorem qLaw : WideMaps.KeyLaw Tryz.prog tQ := deep_law_laid laidOut (m := 4) (by omega) (of_decide_eq_true (by kernel_rfl)) (by kernel_rfl) (by rw [Tryz.underlying95])
theorem q_key (x : Qn) (h : qOk x) : ∃ l, keyOf Tryz.prog tQ (qV x) = some l := by
  obtain ⟨m, o, n⟩ := x
  obtain ⟨hm, ho, hn⟩ := h
  simp only at hm ho hn
  obtain ⟨d, hd⟩ : ∃ d, Tryz.prog.types.size = d + 2 := ⟨Tryz.prog.types.size - 2, by have : 2 ≤ Tryz.prog.types.size := of_decide_eq_true (by kernel_rfl); omega⟩
  have h1 : Tryz.prog.keyType tQ = true := by kernel_rfl
  have h2 : (qV (m, o, n)).formed Tryz.prog tQ = true := by kernel_rfl
  have c1 : Tryz.prog.cellsOf tQ = 3 := by kernel_rfl
  have c3 : Tryz.prog.cellsOf 3 = 1 := by kernel_rfl
  have c4 : Tryz.prog.cellsOf 26 = 1 := by kernel_rfl
  unfold keyOf
  simp only [Tryz.underlying95, h1, h2, hd, Bool.and_self, if_true]
  have hk : Tryz.prog.keyLits (d + 2 + 1) tQ (qV (m, o, n)).cells.toList = some [.int .i64 m, .int .i64 o, .int .u64 n] := by
    have wm : (Lit.int .i64 m).wf = true := hm
    have wo : (Lit.int .i64 o).wf = true := ho
    have wn := w64u hn
    simp [Program.keyLits, Tryz.underlying95, Tryz.underlying3, Tryz.underlying26, c1, c3, c4, Value.cells, wm, wo, wn]
  rw [hk]
  exact ⟨_, rfl⟩
def ktQ : MapS.KT Tryz.prog tQ Qn := ⟨qV, qOk, Maps.Keyed.of_law qLaw, q_key, fun x y h => by
  obtain ⟨a, b, c⟩ := x
  obtain ⟨a', b', c'⟩ := y
  simp [qV] at h
  obtain ⟨h1, h2, h3⟩ := h
  rw [h1, h2, show c = c' by omega]⟩
end Go.Proofs.YtiplgpefapeapaaGreat

namespace Go.Proofs.YtiplgpefapeapaaGreat
open Go.RowKit

theorem cl1 {w : World} {b : Nat} {x0 : Value} {t : TypeId} (h : w.heap[b]? = some (.cells #[x0] t (0, 0))) :
    w.cell? ⟨b, 0, none⟩ = some x0 ∧ (∀ o, w.frozen? ⟨b, o, none⟩ = false) ∧ b < w.heap.size := by
  refine ⟨?_, fun o => ?_, (Array.getElem?_eq_some_iff.1 h).1⟩ <;> simp [World.cell?, World.frozen?, h]
theorem cl3 {w : World} {b : Nat} {x0 x1 x2 : Value} {t : TypeId} (h : w.heap[b]? = some (.cells #[x0, x1, x2] t (0, 0))) :
    w.cell? ⟨b, 0, none⟩ = some x0 ∧ w.cell? ⟨b, 1, none⟩ = some x1 ∧ w.cell? ⟨b, 2, none⟩ = some x2 ∧ (∀ o, w.frozen? ⟨b, o, none⟩ = false) ∧ b < w.heap.size := by
  refine ⟨?_, ?_, ?_, fun o => ?_, (Array.getElem?_eq_some_iff.1 h).1⟩ <;> simp [World.cell?, World.frozen?, h]
theorem cl5 {w : World} {b : Nat} {x0 x1 x2 x3 x4 : Value} {t : TypeId} (h : w.heap[b]? = some (.cells #[x0, x1, x2, x3, x4] t (0, 0))) :
    w.cell? ⟨b, 0, none⟩ = some x0 ∧ w.cell? ⟨b, 1, none⟩ = some x1 ∧ w.cell? ⟨b, 2, none⟩ = some x2 ∧ w.cell? ⟨b, 3, none⟩ = some x3 ∧ w.cell? ⟨b, 4, none⟩ = some x4 ∧ (∀ o, w.frozen? ⟨b, o, none⟩ = false) ∧ b < w.heap.size := by
  refine ⟨?_, ?_, ?_, ?_, ?_, fun o => ?_, (Array.getElem?_eq_some_iff.1 h).1⟩ <;> simp [World.cell?, World.frozen?, h]
theorem cl7 {w : World} {b : Nat} {x0 x1 x2 x3 x4 x5 x6 : Value} {t : TypeId} (h : w.heap[b]? = some (.cells #[x0, x1, x2, x3, x4, x5, x6] t (0, 0))) :
    w.cell? ⟨b, 0, none⟩ = some x0 ∧ w.cell? ⟨b, 1, none⟩ = some x1 ∧ w.cell? ⟨b, 2, none⟩ = some x2 ∧ w.cell? ⟨b, 3, none⟩ = some x3 ∧ w.cell? ⟨b, 4, none⟩ = some x4 ∧ w.cell? ⟨b, 5, none⟩ = some x5 ∧ w.cell? ⟨b, 6, none⟩ = some x6 ∧ (∀ o, w.frozen? ⟨b, o, none⟩ = false) ∧ b < w.heap.size := by
  refine ⟨?_, ?_, ?_, ?_, ?_, ?_, ?_, fun o => ?_, (Array.getElem?_eq_some_iff.1 h).1⟩ <;> simp [World.cell?, World.frozen?, h]
theorem cl8 {w : World} {b : Nat} {x0 x1 x2 x3 x4 x5 x6 x7 : Value} {t : TypeId} (h : w.heap[b]? = some (.cells #[x0, x1, x2, x3, x4, x5, x6, x7] t (0, 0))) :
    w.cell? ⟨b, 0, none⟩ = some x0 ∧ w.cell? ⟨b, 1, none⟩ = some x1 ∧ w.cell? ⟨b, 2, none⟩ = some x2 ∧ w.cell? ⟨b, 3, none⟩ = some x3 ∧ w.cell? ⟨b, 4, none⟩ = some x4 ∧ w.cell? ⟨b, 5, none⟩ = some x5 ∧ w.cell? ⟨b, 6, none⟩ = some x6 ∧ w.cell? ⟨b, 7, none⟩ = some x7 ∧ (∀ o, w.frozen? ⟨b, o, none⟩ = false) ∧ b < w.heap.size := by
  refine ⟨?_, ?_, ?_, ?_, ?_, ?_, ?_, ?_, fun o => ?_, (Array.getElem?_eq_some_iff.1 h).1⟩ <;> simp [World.cell?, World.frozen?, h]
theorem blks2 (w : World) (A0 A1 : Obj) : ((w.alloc A0).alloc A1).heap[w.heap.size]? = some A0 ∧ ((w.alloc A0).alloc A1).heap[w.heap.size + 1]? = some A1 ∧ Keeps [] w ((w.alloc A0).alloc A1) ∧ ((w.alloc A0).alloc A1).heap.size = w.heap.size + 1 + 1 := by
  have h0 := heap_alloc_new w A0
  have h1 := heap_alloc_new (w.alloc A0) A1
  rw [show (w.alloc A0).heap.size = w.heap.size + 1 by simp] at h1
  exact ⟨(((Keeps.refl [] (w.alloc A0)).alloc A1).block _ (Array.getElem?_eq_some_iff.1 h0).1 (by simp)).trans h0, ((Keeps.refl [] ((w.alloc A0).alloc A1)).block _ (Array.getElem?_eq_some_iff.1 h1).1 (by simp)).trans h1, (((Keeps.refl [] w).alloc A0).alloc A1), by simp⟩
theorem sc3 {w : World} {X : Nat} {t : TypeId} {y0 y1 y2 : Value} (x0 x1 x2 : Value) (h : w.heap[X]? = some (.cells #[y0, y1, y2] t (0, 0))) : (((w.setCell ⟨X, 0, none⟩ x0).setCell ⟨X, 1, none⟩ x1).setCell ⟨X, 2, none⟩ x2).heap[X]? = some (.cells #[x0, x1, x2] t (0, 0)) ∧ Keeps [X] w (((w.setCell ⟨X, 0, none⟩ x0).setCell ⟨X, 1, none⟩ x1).setCell ⟨X, 2, none⟩ x2) := by
  refine ⟨by simp [World.setCell, Array.getElem?_modify, h], ?_⟩
  refine (((Keeps.refl _ w).setCell ?_ _).setCell ?_ _).setCell ?_ _ <;> exact .inr (by simp)
theorem sc5 {w : World} {X : Nat} {t : TypeId} {y0 y1 y2 y3 y4 : Value} (x0 x1 x2 x3 x4 : Value) (h : w.heap[X]? = some (.cells #[y0, y1, y2, y3, y4] t (0, 0))) : (((((w.setCell ⟨X, 0, none⟩ x0).setCell ⟨X, 1, none⟩ x1).setCell ⟨X, 2, none⟩ x2).setCell ⟨X, 3, none⟩ x3).setCell ⟨X, 4, none⟩ x4).heap[X]? = some (.cells #[x0, x1, x2, x3, x4] t (0, 0)) ∧ Keeps [X] w (((((w.setCell ⟨X, 0, none⟩ x0).setCell ⟨X, 1, none⟩ x1).setCell ⟨X, 2, none⟩ x2).setCell ⟨X, 3, none⟩ x3).setCell ⟨X, 4, none⟩ x4) := by
  refine ⟨by simp [World.setCell, Array.getElem?_modify, h], ?_⟩
  refine (((((Keeps.refl _ w).setCell ?_ _).setCell ?_ _).setCell ?_ _).setCell ?_ _).setCell ?_ _ <;> exact .inr (by simp)
theorem sc7 {w : World} {X : Nat} {t : TypeId} {y0 y1 y2 y3 y4 y5 y6 : Value} (x0 x1 x2 x3 x4 x5 x6 : Value) (h : w.heap[X]? = some (.cells #[y0, y1, y2, y3, y4, y5, y6] t (0, 0))) : (((((((w.setCell ⟨X, 0, none⟩ x0).setCell ⟨X, 1, none⟩ x1).setCell ⟨X, 2, none⟩ x2).setCell ⟨X, 3, none⟩ x3).setCell ⟨X, 4, none⟩ x4).setCell ⟨X, 5, none⟩ x5).setCell ⟨X, 6, none⟩ x6).heap[X]? = some (.cells #[x0, x1, x2, x3, x4, x5, x6] t (0, 0)) ∧ Keeps [X] w (((((((w.setCell ⟨X, 0, none⟩ x0).setCell ⟨X, 1, none⟩ x1).setCell ⟨X, 2, none⟩ x2).setCell ⟨X, 3, none⟩ x3).setCell ⟨X, 4, none⟩ x4).setCell ⟨X, 5, none⟩ x5).setCell ⟨X, 6, none⟩ x6) := by
  refine ⟨by simp [World.setCell, Array.getElem?_modify, h], ?_⟩
  refine (((((((Keeps.refl _ w).setCell ?_ _).setCell ?_ _).setCell ?_ _).setCell ?_ _).setCell ?_ _).setCell ?_ _).setCell ?_ _ <;> exact .inr (by simp)
theorem sc8 {w : World} {X : Nat} {t : TypeId} {y0 y1 y2 y3 y4 y5 y6 y7 : Value} (x0 x1 x2 x3 x4 x5 x6 x7 : Value) (h : w.heap[X]? = some (.cells #[y0, y1, y2, y3, y4, y5, y6, y7] t (0, 0))) : ((((((((w.setCell ⟨X, 0, none⟩ x0).setCell ⟨X, 1, none⟩ x1).setCell ⟨X, 2, none⟩ x2).setCell ⟨X, 3, none⟩ x3).setCell ⟨X, 4, none⟩ x4).setCell ⟨X, 5, none⟩ x5).setCell ⟨X, 6, none⟩ x6).setCell ⟨X, 7, none⟩ x7).heap[X]? = some (.cells #[x0, x1, x2, x3, x4, x5, x6, x7] t (0, 0)) ∧ Keeps [X] w ((((((((w.setCell ⟨X, 0, none⟩ x0).setCell ⟨X, 1, none⟩ x1).setCell ⟨X, 2, none⟩ x2).setCell ⟨X, 3, none⟩ x3).setCell ⟨X, 4, none⟩ x4).setCell ⟨X, 5, none⟩ x5).setCell ⟨X, 6, none⟩ x6).setCell ⟨X, 7, none⟩ x7) := by
  refine ⟨by simp [World.setCell, Array.getElem?_modify, h], ?_⟩
  refine ((((((((Keeps.refl _ w).setCell ?_ _).setCell ?_ _).setCell ?_ _).setCell ?_ _).setCell ?_ _).setCell ?_ _).setCell ?_ _).setCell ?_ _ <;> exact .inr (by simp)
end Go.Proofs.YtiplgpefapeapaaGreat

namespace Go.Proofs.YtiplgpefapeapaaGreat
open Go.RowKit Go.ChangeShapes

abbrev tB : Nat := 5
theorem Buf.tagB {w : World} {base : Nat} {v : Value} {l : List UInt8} (h : Buf w base v l) {b : Nat} (hb : v.ownBlock = some b) : base ≤ b ∧ ∃ (cs : Array Value), w.heap[b]? = some (Obj.cells cs tB (0, 0)) := by
  rcases h.2 with ⟨rfl, _⟩ | ⟨g, cap, cur, rfl, h1, hg, _⟩
  · simp [Value.ownBlock] at hb
  · simp [Value.ownBlock] at hb; subst hb; exact ⟨h1, _, hg⟩
theorem encI_len {n : Int} (h : W64 n) : (encI n).length ≤ 9 := encU_len (zig_lt (w64_iff.1 h))
end Go.Proofs.YtiplgpefapeapaaGreat

namespace Go.Proofs.YtiplgpefapeapaaGreat
open Go.RowKit

/-- What a number's encoding at the head of `l` gives: the number and the rest. -/
def readU : List UInt8 → Option (Nat × List UInt8)
  | [] => none
  | k :: t => if k.toNat ≤ 8 ∧ k.toNat ≤ t.length ∧ (0 < k.toNat → t.headD 1 ≠ 0) then some (valU (t.take k.toNat), t.drop k.toNat) else none
/-- Bytes kept, and the tags of blocks of bytes. -/
def KV (w w' : World) : Prop := KB w w' ∧ ∀ (b : Nat) (cs : Array Value), w.heap[b]? = some (Obj.cells cs tB (0, 0)) → ∃ cs' : Array Value, w'.heap[b]? = some (Obj.cells cs' tB (0, 0))
theorem KV.trans {a b c : World} (h : KV a b) (k : KV b c) : KV a c := ⟨h.1.trans k.1, fun x cs hx => by obtain ⟨cs', h'⟩ := h.2 x cs hx; exact k.2 x cs' h'⟩
theorem KV.drew (w : World) : KV w w.drew := ⟨KB.drew w, fun _ cs h => ⟨cs, h⟩⟩
theorem KV.setCell (w : World) {b o : Nat} {u : Value} (v : Value) (h : w.cell? ⟨b, o, none⟩ = some u) (hu : ∀ x, u ≠ .int .u8 x) : KV w (w.setCell ⟨b, o, none⟩ v) :=
  ⟨KB.setCell w v h hu, fun x cs hx => by
    by_cases e : x = b
    · subst e
      obtain ⟨hlt, hk⟩ := Array.getElem?_eq_some_iff.1 hx
      simp [World.setCell, Array.getElem?_modify, hx]
    · exact ⟨cs, by
        rw [← hx]
        simp [World.setCell, Array.getElem?_modify, Ne.symm e]⟩⟩
theorem Keeps.kv {S : List Nat} {w w' : World} (h : Keeps S w w') (hS : ∀ b ∈ S, ∀ o x, w.cell? ⟨b, o, none⟩ ≠ some (.int .u8 x)) (hT : ∀ b ∈ S, ∀ cs : Array Value, w.heap[b]? ≠ some (Obj.cells cs tB (0, 0))) : KV w w' :=
  ⟨h.kb hS, fun b cs hb => ⟨cs, (h.block b (Array.getElem?_eq_some_iff.1 hb).1 (fun hm => hT b hm cs hb)).trans hb⟩⟩
theorem Keeps.kv0 {w w' : World} (h : Keeps [] w w') : KV w w' := h.kv (by simp) (by simp)
/-- A slice of bytes that lies in a block of bytes. -/
structure SlV (w : World) (v : Value) (l : List UInt8) : Prop where
  b : SlB w v l
  t : ∀ g : Nat, v.ownBlock = some g → ∃ cs : Array Value, w.heap[g]? = some (Obj.cells cs tB (0, 0))
namespace SlV
variable {w w' : World} {v : Value} {l : List UInt8}
theorem form (h : SlV w v l) : ∃ a cap, v = .slice a l.length cap := h.b.form
theorem cap (h : SlV w v l) : l.length ≤ maxLen := h.b.cap
theorem cases (h : SlV w v l) :
    (l = [] ∧ ∃ a cap, v = .slice a 0 cap ∧ cap ≤ maxLen ∧ (a = none → cap = 0)) ∨
    ∃ g o cap, v = .slice (some ⟨g, o, none⟩) l.length cap ∧ l.length ≤ cap ∧ cap ≤ maxLen ∧ 0 < l.length ∧ g < w.heap.size ∧ ∀ k (hk : k < l.length), w.cell? ⟨g, o + k, none⟩ = some (.int .u8 (l[k].toNat : Int)) := h.b.cases
theorem kv (h : SlV w v l) (hk : KV w w') : SlV w' v l := ⟨h.b.kb hk.1, fun g hg => by obtain ⟨cs, hc⟩ := h.t g hg; exact hk.2 g cs hc⟩
theorem keeps (h : SlV w v l) (hk : Keeps [] w w') : SlV w' v l := h.kv hk.kv0
theorem kb (h : SlV w v l) (hk : KV w w') : SlV w' v l := h.kv hk
theorem nil (w : World) : SlV w (.slice none 0 0) [] := ⟨SlB.nil w, fun g hg => by cases hg⟩
theorem tail {g o n cap : Nat} (h : SlV w (.slice (some ⟨g, o, none⟩) n cap) l) (a : Nat) (ha : a ≤ l.length) :
    SlV w (.slice (if cap = a then some ⟨g, o, none⟩ else some ⟨g, o + a, none⟩) (l.length - a) (cap - a)) (l.drop a) :=
  ⟨h.b.tail a ha, fun x hx => h.t x (by split at hx <;> exact hx)⟩
end SlV
theorem Buf.slV {w : World} {base : Nat} {v : Value} {l : List UInt8} (h : Buf w base v l) : SlV w v l := ⟨h.slB, fun _ hg => (h.tagB hg).2⟩
/-- The reader at block `br`: what is left is the slice `v`, which reads as `l`; its error is `e`. -/
def Rd (w : World) (br : Nat) (v : Value) (l : List UInt8) (e : Int) : Prop := w.heap[br]? = some (.cells #[v, .int .i64 e] 126 (0, 0)) ∧ SlV w v l

theorem cell2_of {w : World} {b : Nat} {u v : Value} {t : TypeId} (h : w.heap[b]? = some (.cells #[u, v] t (0, 0))) : w.cell? ⟨b, 0, none⟩ = some u ∧ w.cell? ⟨b, 1, none⟩ = some v ∧ w.frozen? ⟨b, 0, none⟩ = false ∧ w.frozen? ⟨b, 1, none⟩ = false ∧ b < w.heap.size := by
  refine ⟨by simp [World.cell?, h], by simp [World.cell?, h], by simp [World.frozen?, h], by simp [World.frozen?, h], (Array.getElem?_eq_some_iff.1 h).1⟩

set_option maxRecDepth 100000 in
set_option maxHeartbeats 1000000 in
theorem newReader_c (w : World) (v0 : Value) (l : List UInt8) (h : SlB w v0 l) (hl : l.length ≤ 140737488355328) :
    Calls Tryz.prog 23 #[v0] w fun e w' => ∃ br v', e = .returned (.pointer (some ⟨br, 0, none⟩)) ∧ w.heap.size ≤ br ∧ Rd w' br v' l 0 ∧ Keeps [] w w' := by
  obtain ⟨a0, c0, rfl⟩ := h.form
  replace h := Lib.hid h
  go_enter Tryz.func23, Tryz.ntmps23
  go_wp2_with fail
  refine (clone_c _ _ l h.out hl).mono ?_
  rintro e w1 ⟨v1, rfl, hB1, hk1⟩
  obtain ⟨a1, c1, rfl⟩ := hB1.form
  have hsz := hk1.size
  replace hB1 := Lib.hid hB1
  replace hk1 := Lib.hid hk1
  go_wp2
  go_ret
  refine ⟨w1.heap.size, .slice a1 l.length c1, rfl, hsz, ⟨heap_alloc_new _ _, (hB1.out.keep ((Keeps.refl [] w1).alloc _)).slV⟩, hk1.out.alloc _⟩

/-- The error of a reader at the end. -/
def doneE (l : List UInt8) (e : Int) : Int := if e = 0 ∧ l ≠ [] then 11 else e
set_option maxRecDepth 100000 in
set_option maxHeartbeats 1000000 in
theorem done_c (w : World) (br : Nat) (v : Value) (l : List UInt8) (e : Int) (h : Rd w br v l e) :
    Calls Tryz.prog 36 #[.pointer (some ⟨br, 0, none⟩)] w fun en w' => en = .returned (.int .i64 (doneE l e)) ∧ w = w' := by
  obtain ⟨c0, c1, f0, f1, hlt⟩ := cell2_of h.1
  obtain ⟨a0, cap0, rfl⟩ := h.2.form
  clear h
  by_cases he : e = 0
  · subst he
    by_cases hl : l = []
    · subst hl
      go_enter Tryz.func36, Tryz.ntmps36
      go_wp2
      go_ret
      exact ⟨by simp [doneE], rfl⟩
    · have hp : 0 < l.length := List.length_pos_iff.2 hl
      replace hl := Lib.hid hl
      go_enter Tryz.func36, Tryz.ntmps36
      go_wp2
      go_ret
      exact ⟨by simp [doneE, hl.out], rfl⟩
  · have he2 : (e == 0) = false := by simp [he]
    replace he := Lib.hid he
    go_enter Tryz.func36, Tryz.ntmps36
    go_wp2
    go_ret
    exact ⟨by simp [doneE, he.out], rfl⟩

theorem cell1_of {w : World} {b : Nat} {u : Value} {t : TypeId} (h : w.heap[b]? = some (.cells #[u] t (0, 0))) : w.cell? ⟨b, 0, none⟩ = some u ∧ w.frozen? ⟨b, 0, none⟩ = false ∧ b < w.heap.size := by
  refine ⟨by simp [World.cell?, h], by simp [World.frozen?, h], (Array.getElem?_eq_some_iff.1 h).1⟩

end Go.Proofs.YtiplgpefapeapaaGreat

namespace Go.Proofs.YtiplgpefapeapaaGreat
open Go.RowKit

set_option maxRecDepth 100000 in
set_option maxHeartbeats 2000000 in
theorem uint1_bad (w : World) (br b1 b2 : Nat) (v : Value) (l : List UInt8) (h : Rd w br v l 0) (h1 : w.cell? ⟨b1, 0, none⟩ = some (.pointer (some ⟨br, 0, none⟩))) (hr : readU l = none) :
    Calls Tryz.prog 78 #[.pointer (some ⟨b1, 0, none⟩), .pointer (some ⟨b2, 0, none⟩)] w fun en w' => en = .returned (.int .i64 11) ∧ Keeps [] w w' := by
  obtain ⟨c0, c1, f0, f1, hlt⟩ := cell2_of h.1
  rcases h.2.cases with ⟨rfl, a, cp, rfl, _, _⟩ | ⟨g, o, cp, rfl, hn, hm, hp, hg, hc⟩
  · clear h hr
    go_enter Tryz.func78, Tryz.ntmps78
    go_wp2
    (refine wp_region_quiet_lit (by kernel_rfl) (by kernel_rfl) ?_; (repeat (first | go_big_quiet_step (fail) | quiet_step (fail))); with_reducible refine wpQuiet_nil ?_; intro _ hw'; obtain ⟨nq, hw''⟩ := hw'; subst hw'')
    go_wp2
    go_ret
    exact ⟨rfl, (Keeps.refl _ _).drewN _⟩
  · obtain ⟨k, t, rfl⟩ : ∃ k t, l = k :: t := by cases l with | nil => simp at hp | cons k t => exact ⟨k, t, rfl⟩
    have k0 := hc 0 (by simp)
    have k1 : 0 < t.length → w.cell? ⟨g, o + 1, none⟩ = some (.int .u8 ((t.headD 1).toNat : Int)) := fun ht => by
      have := hc 1 (by simp; omega)
      rw [this]; cases t with | nil => simp at ht | cons a b => rfl
    simp only [Nat.add_zero, List.getElem_cons_zero] at k0
    clear hc h hp
    have hcond : ¬ (k.toNat ≤ 8 ∧ k.toNat ≤ t.length ∧ (0 < k.toNat → t.headD 1 ≠ 0)) := fun hh => by
      rw [readU, if_pos hh] at hr; cases hr
    clear hr
    have hk := k.toNat_lt
    simp only [List.length_cons] at *
    generalize (t.headD 1) = t0 at *
    generalize k.toNat = kk at *
    generalize t.length = N at *
    have hNN : (N : Int) + 1 ≤ 9223372036854775807 := by unfold maxLen at hm; omega
    by_cases h8 : kk ≤ 8
    · have d8 : decide ((8 : Int) < (kk : Int)) = false := by simp; omega
      by_cases hN : kk ≤ N
      · have dN : decide ((N : Int) + 1 ≤ (kk : Int)) = false := by simp; omega
        have hk0 : 0 < kk := by
          rcases Nat.eq_zero_or_pos kk with e | e
          · exact absurd ⟨h8, hN, fun h => by omega⟩ hcond
          · exact e
        have dk : (0 : Int) < (kk : Int) := by omega
        have ht0 : t0 = 0 := by
          rcases Classical.em (t0 = 0) with e | e
          · exact e
          · exact absurd ⟨h8, hN, fun _ => e⟩ hcond
        subst ht0
        have k1' := k1 (by omega)
        simp at k1'
        clear hcond k1
        go_enter Tryz.func78, Tryz.ntmps78
        go_wp2
        (refine wp_region_quiet_lit (by kernel_rfl) (by kernel_rfl) ?_; (repeat (first | go_big_quiet_step (fail) | quiet_step (fail))); with_reducible refine wpQuiet_nil ?_; intro _ hw'; obtain ⟨nq, hw''⟩ := hw'; subst hw'')
        go_wp2
        go_ret
        exact ⟨rfl, (Keeps.refl _ _).drewN _⟩
      · have dN : (N : Int) + 1 ≤ (kk : Int) := by omega
        clear hcond k1
        go_enter Tryz.func78, Tryz.ntmps78
        go_wp2
        (refine wp_region_quiet_lit (by kernel_rfl) (by kernel_rfl) ?_; (repeat (first | go_big_quiet_step (fail) | quiet_step (fail))); with_reducible refine wpQuiet_nil ?_; intro _ hw'; obtain ⟨nq, hw''⟩ := hw'; subst hw'')
        go_wp2
        go_ret
        exact ⟨rfl, (Keeps.refl _ _).drewN _⟩
    · have d8 : (8 : Int) < (kk : Int) := by omega
      clear hcond k1
      go_enter Tryz.func78, Tryz.ntmps78
      go_wp2
      (refine wp_region_quiet_lit (by kernel_rfl) (by kernel_rfl) ?_; (repeat (first | go_big_quiet_step (fail) | quiet_step (fail))); with_reducible refine wpQuiet_nil ?_; intro _ hw'; obtain ⟨nq, hw''⟩ := hw'; subst hw'')
      go_wp2
      go_ret
      exact ⟨rfl, (Keeps.refl _ _).drewN _⟩

end Go.Proofs.YtiplgpefapeapaaGreat

namespace Go.Proofs.YtiplgpefapeapaaGreat
open Go.RowKit

theorem set2_0 {w : World} {b : Nat} {u v : Value} {t : TypeId} (h : w.heap[b]? = some (.cells #[u, v] t (0, 0))) (u' : Value) : (w.setCell ⟨b, 0, none⟩ u').heap[b]? = some (.cells #[u', v] t (0, 0)) := by
  obtain ⟨hlt, hk⟩ := Array.getElem?_eq_some_iff.1 h
  simp [World.setCell, Array.getElem?_modify, h]
theorem set2_1 {w : World} {b : Nat} {u v : Value} {t : TypeId} (h : w.heap[b]? = some (.cells #[u, v] t (0, 0))) (v' : Value) : (w.setCell ⟨b, 1, none⟩ v').heap[b]? = some (.cells #[u, v'] t (0, 0)) := by
  obtain ⟨hlt, hk⟩ := Array.getElem?_eq_some_iff.1 h
  simp [World.setCell, Array.getElem?_modify, h]
/-- One byte more, as the machine reckons it. -/
theorem or_byte (x y : Nat) (hx : (x : Int) < 72057594037927936) (hy : (y : Int) ≤ 255) : bits .or .u64 ((x : Int) * 256) (y : Int) = ((x * 256 + y : Nat) : Int) := by
  have h := u64_or_nat (x * 256) y (by omega) (by omega)
  have h2 : x * 256 + y = x * 256 ||| y := by
    have := Nat.shiftLeft_add_eq_or_of_lt (i := 8) (b := y) (by omega) x
    simpa [Nat.shiftLeft_eq] using this
  rw [h2, ← h]; simp

theorem rd_tail (w wr : World) (br b2 g o N cp : Nat) (k : UInt8) (t : List UInt8) (j : Nat) (h : Rd w br (.slice (some ⟨g, o, none⟩) (t.length + 1) cp) (k :: t) 0) (hk : Keeps [b2] w wr)
    (hb : wr.heap[b2]? = some (.cells #[.int .u64 (valU (t.take j))] 26 (0, 0))) (hb0 : w.heap[b2]? = some (.cells #[.int .u64 0] 26 (0, 0))) (hN : t.length = N) (hj : j ≤ N) (hbr : br ≠ b2) :
    (wr.setCell ⟨br, 0, none⟩ (.slice (if cp = 1 + j then some ⟨g, o, none⟩ else some ⟨g, o + (1 + j), none⟩) (N + 1 - (1 + j)) (cp - (1 + j)))).drew.heap[b2]? = some (.cells #[.int .u64 (valU (t.take j))] 26 (0, 0)) ∧
    (∃ v', Rd (wr.setCell ⟨br, 0, none⟩ (.slice (if cp = 1 + j then some ⟨g, o, none⟩ else some ⟨g, o + (1 + j), none⟩) (N + 1 - (1 + j)) (cp - (1 + j)))).drew br v' (t.drop j) 0) ∧
    Keeps [br, b2] w (wr.setCell ⟨br, 0, none⟩ (.slice (if cp = 1 + j then some ⟨g, o, none⟩ else some ⟨g, o + (1 + j), none⟩) (N + 1 - (1 + j)) (cp - (1 + j)))).drew := by
  subst hN
  obtain ⟨q0, _, _, _, hlt⟩ := cell2_of h.1
  have hbr' := (hk.block br hlt (by simp; omega)).trans h.1
  have htl := SlV.tail h.2 (1 + j) (by simp; omega)
  have hk2 : Keeps [br, b2] w wr := hk.mono (fun x hx => by simp at hx; simp [hx])
  have hkb : KV w wr := hk.kv (by intro b hb; simp at hb; subst hb; exact no_byte hb0 (by simp)) (by intro b hb cs hc; simp at hb; subst hb; rw [hb0] at hc; simp only [Option.some.injEq, Obj.cells.injEq] at hc; exact absurd hc.2.1 (by decide))
  refine ⟨?_, ⟨_, ⟨set2_0 hbr' _, ?_⟩⟩, (hk2.setCell (.inr (by simp)) _).drew⟩
  · exact (Below.heap_setCell _ _ _ _ (by simp; omega)).trans hb
  · simp only [List.length_cons, Nat.add_comm 1 j, List.drop_succ_cons] at htl ⊢
    exact htl.kv (hkb.trans ((KV.setCell wr _ (cell2_of hbr').1 (by simp)).trans (KV.drew _)))

set_option maxRecDepth 100000 in
set_option maxHeartbeats 2000000 in
theorem uint1_ok (w : World) (br b1 b2 : Nat) (v : Value) (l rest : List UInt8) (x : Nat) (h : Rd w br v l 0) (h1 : w.cell? ⟨b1, 0, none⟩ = some (.pointer (some ⟨br, 0, none⟩))) (h2 : w.heap[b2]? = some (.cells #[.int .u64 0] 26 (0, 0)))
    (hne : b1 ≠ b2 ∧ br ≠ b2) (hr : readU l = some (x, rest)) :
    Calls Tryz.prog 78 #[.pointer (some ⟨b1, 0, none⟩), .pointer (some ⟨b2, 0, none⟩)] w fun en w' => en = .returned (.int .i64 0) ∧ w'.heap[b2]? = some (.cells #[.int .u64 x] 26 (0, 0)) ∧ (∃ v', Rd w' br v' rest 0) ∧ Keeps [br, b2] w w' := by
  obtain ⟨c0, c1, f0, f1, hlt⟩ := cell2_of h.1
  obtain ⟨e0, fe0, hlt2⟩ := cell1_of h2
  rcases h.2.cases with ⟨rfl, a, cp, rfl, _, _⟩ | ⟨g, o, cp, rfl, hn, hm, hp, hg, hc⟩
  · cases hr
  · obtain ⟨k, t, rfl⟩ : ∃ k t, l = k :: t := by cases l with | nil => simp at hp | cons k t => exact ⟨k, t, rfl⟩
    have k0 := hc 0 (by simp)
    have hgb : g ≠ b2 := fun e => by subst e; exact no_byte h2 (by simp) _ _ k0
    have k1 : 0 < t.length → w.cell? ⟨g, o + 1, none⟩ = some (.int .u8 ((t.headD 1).toNat : Int)) := fun ht => by
      have := hc 1 (by simp; omega)
      rw [this]; cases t with | nil => simp at ht | cons a b => rfl
    have kj : ∀ j (hj : j < t.length), w.cell? ⟨g, o + 1 + j, none⟩ = some (.int .u8 (t[j].toNat : Int)) := fun j hj => by
      have := hc (j + 1) (by simp; omega)
      rw [show o + 1 + j = o + (j + 1) by omega, this]; rfl
    simp only [Nat.add_zero, List.getElem_cons_zero] at k0
    clear hc hp
    have hcond : k.toNat ≤ 8 ∧ k.toNat ≤ t.length ∧ (0 < k.toNat → t.headD 1 ≠ 0) := by
      rcases Classical.em (k.toNat ≤ 8 ∧ k.toNat ≤ t.length ∧ (0 < k.toNat → t.headD 1 ≠ 0)) with e | e
      · exact e
      · rw [readU, if_neg e] at hr; cases hr
    rw [readU, if_pos hcond] at hr
    simp only [Option.some.injEq, Prod.mk.injEq] at hr
    obtain ⟨h8, hN, ht0⟩ := hcond
    obtain ⟨hx, hrest⟩ := hr
    have hk : k.toNat ≤ 255 := by have := k.toNat_lt; omega
    have hh := Lib.hid h
    have hh2 := Lib.hid h2
    replace hx := Lib.hid hx
    replace hrest := Lib.hid hrest
    replace kj := Lib.hid kj
    clear h h2
    simp only [List.length_cons] at *
    obtain ⟨t0, htt0⟩ : ∃ t0, t.headD 1 = t0 := ⟨_, rfl⟩
    rw [htt0] at k1 ht0
    clear htt0
    obtain ⟨kk, hkk⟩ : ∃ kk, k.toNat = kk := ⟨_, rfl⟩
    rw [hkk] at k0 h8 hN ht0 hk hx hrest
    clear hkk
    obtain ⟨N, hNt⟩ : ∃ N, t.length = N := ⟨_, rfl⟩
    rw [hNt] at hN k1 hn c0
    replace hNt := Lib.hid hNt
    have hNN : (N : Int) + 1 ≤ 9223372036854775807 := by unfold maxLen at hm; omega
    have d8 : decide ((8 : Int) < (kk : Int)) = false := by simp; omega
    have nz : ((N : Int) + 1 == 0) = false := by simp; omega
    have wk : IntKind.i64.wrap (kk : Int) = kk := IntWalk.i64_in _ (by omega)
    have dN : decide ((N : Int) + 1 ≤ (kk : Int)) = false := by simp; omega
    have hfacts : (∃ _ : (0 : Int) < (kk : Int), 0 < kk ∧ w.cell? ⟨g, o + 1, none⟩ = some (.int .u8 (t0.toNat : Int)) ∧ ((t0.toNat : Int) == 0) = false) ∨ (decide ((0 : Int) < (kk : Int)) = false ∧ decide (0 < kk) = false) := by
      by_cases hk0 : 0 < kk
      · refine .inl ⟨by omega, hk0, k1 (by omega), ?_⟩
        have := ht0 hk0
        have h9 : t0.toNat ≠ 0 := fun e => this (UInt8.toNat_inj.1 (by simpa using e))
        simp; omega
      · exact .inr ⟨by simp; omega, by simp; omega⟩
    clear ht0 k1
    have hcp : 1 < cp ∨ (cp = 1 ∧ N = 0 ∧ kk = 0) := by omega
    rcases hcp with hcp | ⟨hcp1, hcp2, hcp3⟩
    · rcases hfacts with ⟨dk, hk0, k1', t0n⟩ | ⟨dk, dk2⟩
      all_goals
        go_enter Tryz.func78, Tryz.ntmps78
        go_wp2
        (refine wp_region_quiet_lit (by kernel_rfl) (by kernel_rfl) ?_; (repeat (first | go_big_quiet_step (fail) | quiet_step (fail))); with_reducible refine wpQuiet_nil ?_; intro _ hw'; obtain ⟨nq, hw''⟩ := hw'; subst hw'')
        go_wp2
        go_loopw [5, 69] (fun _ i wr => ∃ j : Nat, j ≤ kk ∧ i = .int .i64 j ∧ wr.heap[b2]? = some (.cells #[.int .u64 (valU (t.take j))] 26 (0, 0)) ∧ Keeps [b2] w wr) (fun _ i _ => kk - (intOf i).toNat)
        case atStart => exact ⟨0, by omega, rfl, hh2.out, (Keeps.refl _ w).drewN _⟩
        case round =>
          obtain ⟨j, hj, rfl, hb2, hkw⟩ := hrel
          obtain ⟨eb, fb, lb⟩ := cell1_of hb2
          have q0 := (hkw.cell br 0 hlt (by simp; omega)).trans c0
          have q1 := (hkw.frozen br 0 hlt (by simp; omega)).trans f0
          have q2 := (hkw.cell b1 0 (lt_of_cell h1) (by simp; omega)).trans h1
          have hvl := valU_lt j (t.take j) (by rw [List.length_take]; have := hNt.out; omega)
          by_cases hlt3 : j < kk
          · have hjt : j < t.length := by have := hNt.out; omega
            have hcj := (hkw.cell g (o + 1 + j) hg (by simp; omega)).trans (kj.out j hjt)
            have hb8 : (t[j].toNat : Int) ≤ 255 := by have := t[j].toNat_lt; omega
            have hstep : Hid (valU (t.take (j + 1)) = valU (t.take j) * 256 + t[j].toNat) := by show _ = _; rw [List.take_succ_eq_append_getElem hjt, valU_snoc]
            have hvb : (valU (t.take j) : Int) < 72057594037927936 := by
              have : (256 : Nat) ^ j ≤ 256 ^ 7 := Nat.pow_le_pow_right (by omega) (by omega)
              omega
            clear hvl
            generalize t[j].toNat = y at *
            generalize hvv : valU (t.take j) = vv at *
            replace hb2 := Lib.hid hb2
            replace hkw := Lib.hid hkw
            replace hvv := Lib.hid hvv
            go_wp2
            go_roundw
            case rel => exact ⟨j + 1, by omega, by go_num, by rw [or_byte _ _ hvb hb8, hstep.out]; exact one_setCell hb2.out, hkw.out.setCell (.inr (by simp)) _⟩
            case measure => simp [intOf]; omega
          · have hjk : j = kk := by omega
            subst hjk
            replace hb2 := Lib.hid hb2
            replace hkw := Lib.hid hkw
            clear hvl
            go_wp2
            go_region
            have hfin := rd_tail w wr br b2 g o N cp k t j hh.out hkw.out hb2.out hh2.out hNt.out hN (by omega)
            rw [hx.out, hrest.out] at hfin
            generalize hW : (wr.setCell ⟨br, 0, none⟩ (.slice (if cp = 1 + j then some ⟨g, o, none⟩ else some ⟨g, o + (1 + j), none⟩) (N + 1 - (1 + j)) (cp - (1 + j)))).drew = W at *
            replace hfin := Lib.hid hfin
            clear hW
            (repeat go_step)
            go_ret
            exact ⟨rfl, hfin.out⟩
    · clear hfacts
      subst hcp1 hcp2 hcp3
      have k0' : w.cell? ⟨g, o, none⟩ = some (.int .u8 0) := by simpa using k0
      simp only [Nat.zero_add] at c0
      have c0' : w.cell? ⟨br, 0, none⟩ = some (.slice (some ⟨g, o, none⟩) 1 1) := c0
      clear hk h8 k0 d8 dN wk c0 nz hm hn hN hNN
      go_enter Tryz.func78, Tryz.ntmps78
      go_wp2
      (refine wp_region_quiet_lit (by kernel_rfl) (by kernel_rfl) ?_; (repeat (first | go_big_quiet_step (fail) | quiet_step (fail))); with_reducible refine wpQuiet_nil ?_; intro _ hw'; obtain ⟨nq, hw''⟩ := hw'; subst hw'')
      go_wp2
      go_loopw [5, 69] (fun _ i wr => i = .int .i64 0 ∧ ∃ n, wr = w.drewN n) (fun _ i _ => 0)
      case atStart => exact ⟨rfl, _, rfl⟩
      case round =>
        obtain ⟨rfl, n, rfl⟩ := hrel
        have hkw : Keeps [b2] w (w.drewN n) := (Keeps.refl _ w).drewN n
        have hfin := rd_tail w (w.drewN n) br b2 g o 0 1 k t 0 hh.out hkw (by simpa [valU] using hh2.out) hh2.out hNt.out (by omega) hne.2
        rw [hx.out, hrest.out] at hfin
        simp only [Nat.add_zero, if_true, Nat.zero_add, Nat.sub_self] at hfin
        clear hkw
        replace hfin := Lib.hid hfin
        go_wp2
        go_region
        (repeat go_step)
        go_ret
        exact ⟨rfl, hfin.out⟩
end Go.Proofs.YtiplgpefapeapaaGreat

namespace Go.Proofs.YtiplgpefapeapaaGreat
open Go.RowKit

theorem Rd.keeps {w w' : World} {br : Nat} {v : Value} {l : List UInt8} {e : Int} (h : Rd w br v l e) (hk : Keeps [] w w') : Rd w' br v l e :=
  ⟨(hk.block br (cell2_of h.1).2.2.2.2 (by simp)).trans h.1, h.2.keeps hk⟩

theorem two_boxes (w : World) (p : Value) : ((w.alloc (.cells #[p] 57)).alloc (.cells #[.int .u64 0] 26)).heap[w.heap.size + 1]? = some (.cells #[.int .u64 0] 26 (0, 0)) := by
  have := heap_alloc_new (w.alloc (.cells #[p] 57)) (.cells #[.int .u64 0] 26)
  simpa using this
theorem rd_set_ok {w : World} {br : Nat} {v : Value} {l : List UInt8} {e : Int} (h : Rd w br v l e) (e' : Int) : Rd (w.setCell ⟨br, 1, none⟩ (.int .i64 e')) br v l e' :=
  ⟨set2_1 h.1 _, h.2.kv (KV.setCell w _ (cell2_of h.1).2.1 (by simp))⟩
theorem rd_set_bad {w : World} {br : Nat} {v : Value} {l : List UInt8} {e : Int} (h : Rd w br v l e) (e' : Int) : Rd ((w.setCell ⟨br, 1, none⟩ (.int .i64 e')).setCell ⟨br, 0, none⟩ (.slice none 0 0)) br (.slice none 0 0) [] e' :=
  ⟨set2_0 (set2_1 h.1 _) _, SlV.nil _⟩
set_option maxRecDepth 100000 in
set_option maxHeartbeats 2000000 in
theorem uint_ok (w : World) (br : Nat) (v : Value) (l rest : List UInt8) (x : Nat) (h : Rd w br v l 0) (hr : readU l = some (x, rest)) :
    Calls Tryz.prog 27 #[.pointer (some ⟨br, 0, none⟩)] w fun en w' => en = .returned (.int .u64 x) ∧ (∃ v', Rd w' br v' rest 0) ∧ Keeps [br] w w' := by
  obtain ⟨c0, c1, f0, f1, hlt⟩ := cell2_of h.1
  have hne : ¬ w.heap.size = br := by omega
  have hne2 : ¬ w.heap.size + 1 = br := by omega
  obtain ⟨a0, cp0, rfl⟩ := h.2.form
  have hkA : Keeps [] w ((w.alloc (.cells #[.pointer (some ⟨br, 0, none⟩)] 57)).alloc (.cells #[.int .u64 0] 26)) := ((Keeps.refl [] w).alloc _).alloc _
  have hc := uint1_ok _ br w.heap.size (w.heap.size + 1) _ l rest x (h.keeps hkA) (by simp) (two_boxes w _) ⟨by omega, by omega⟩ hr
  replace h := Lib.hid h
  replace hkA := Lib.hid hkA
  replace hc := Lib.hid hc
  replace hr := Lib.hid hr
  clear c0
  go_enter Tryz.func27, Tryz.ntmps27
  go_wp2_with (first
    | (go_at_call 78; refine hc.out.mono ?_; rintro e w3 ⟨rfl, hb2, ⟨v3, hR3⟩, hk3⟩; obtain ⟨d0, d1, g0, g1, hlt3⟩ := cell2_of hR3.1; obtain ⟨e0, _, hlt4⟩ := cell1_of hb2; have hk4 := Lib.hid hk3; have hR4 := Lib.hid hR3; clear hk3 hR3 hb2)
    | go_in)
  go_ret
  exact ⟨rfl, ⟨v3, rd_set_ok hR4.out 0⟩, (hkA.out.of_nil.trans' hk4.out (by simp)).setCell (.inr (by simp)) _⟩

set_option maxRecDepth 100000 in
set_option maxHeartbeats 2000000 in
theorem uint_bad (w : World) (br : Nat) (v : Value) (l : List UInt8) (h : Rd w br v l 0) (hr : readU l = none) :
    Calls Tryz.prog 27 #[.pointer (some ⟨br, 0, none⟩)] w fun en w' => en = .returned (.int .u64 0) ∧ Rd w' br (.slice none 0 0) [] 11 ∧ Keeps [br] w w' := by
  obtain ⟨c0, c1, f0, f1, hlt⟩ := cell2_of h.1
  have hne : ¬ w.heap.size = br := by omega
  have hne2 : ¬ w.heap.size + 1 = br := by omega
  obtain ⟨a0, cp0, rfl⟩ := h.2.form
  have hkA : Keeps [] w ((w.alloc (.cells #[.pointer (some ⟨br, 0, none⟩)] 57)).alloc (.cells #[.int .u64 0] 26)) := ((Keeps.refl [] w).alloc _).alloc _
  have hc := uint1_bad _ br w.heap.size (w.heap.size + 1) _ l (h.keeps hkA) (by simp) hr
  have h2 := two_boxes w (.pointer (some ⟨br, 0, none⟩))
  replace h2 := Lib.hid h2
  replace h := Lib.hid h
  replace hkA := Lib.hid hkA
  replace hc := Lib.hid hc
  replace hr := Lib.hid hr
  clear c0
  go_enter Tryz.func27, Tryz.ntmps27
  go_wp2_with (first
    | (go_at_call 78; refine hc.out.mono ?_; rintro e w3 ⟨rfl, hk3⟩; have hR3 := (h.out.keeps hkA.out).keeps hk3; obtain ⟨d0, d1, g0, g1, hlt3⟩ := cell2_of hR3.1; have hk4 := Lib.hid hk3; have hR4 := Lib.hid hR3; have h22 := Lib.hid ((hk3.block _ (by simp) (by simp)).trans h2.out); obtain ⟨e0, _, hlt4⟩ := cell1_of h22.out; clear hk3 hR3)
    | go_in)
  go_ret
  exact ⟨rfl, rd_set_bad hR4.out 11, (((hkA.out.trans hk4.out).of_nil).setCell (.inr (by simp)) _).setCell (.inr (by simp)) _⟩

/-- Both in one: what a number's reading gives and leaves. -/
def rdU (l : List UInt8) : Nat × List UInt8 × Int := match readU l with | some (x, r) => (x, r, 0) | none => (0, [], 11)
theorem uint_c (w : World) (br : Nat) (v : Value) (l : List UInt8) (h : Rd w br v l 0) :
    Calls Tryz.prog 27 #[.pointer (some ⟨br, 0, none⟩)] w fun en w' => en = .returned (.int .u64 (rdU l).1) ∧ (∃ v', Rd w' br v' (rdU l).2.1 (rdU l).2.2) ∧ Keeps [br] w w' := by
  cases hr : readU l with
  | none =>
    have e : rdU l = (0, [], 11) := by simp [rdU, hr]
    rw [e]
    exact (uint_bad w br v l h hr).mono fun _ _ ⟨h1, h2, h3⟩ => ⟨h1, ⟨_, h2⟩, h3⟩
  | some p =>
    obtain ⟨x, r⟩ := p
    have e : rdU l = (x, r, 0) := by simp [rdU, hr]
    rw [e]
    exact uint_ok w br v l r x h hr
end Go.Proofs.YtiplgpefapeapaaGreat

namespace Go.Proofs.YtiplgpefapeapaaGreat
open Go.RowKit

set_option maxRecDepth 100000 in
set_option maxHeartbeats 2000000 in
theorem number_bad (w : World) (v0 : Value) (l : List UInt8) (h : SlB w v0 l) (hr : readU l = none) :
    Calls Tryz.prog 108 #[v0] w fun e w' => e = .returned (.tuple #[.int .u64 0, .int .i64 (-1)]) ∧ Keeps [] w w' := by
  rcases h.cases with ⟨rfl, a, cp, rfl, _, _⟩ | ⟨g, o, cp, rfl, hn, hm, hp, hg, hc⟩
  · clear h hr
    go_enter Tryz.func108, Tryz.ntmps108
    go_wp2
    go_ret2
    exact ⟨rfl, Keeps.refl _ _⟩
  · obtain ⟨k, t, rfl⟩ : ∃ k t, l = k :: t := by cases l with | nil => simp at hp | cons k t => exact ⟨k, t, rfl⟩
    have k0 := hc 0 (by simp)
    have k1 : 0 < t.length → w.cell? ⟨g, o + 1, none⟩ = some (.int .u8 ((t.headD 1).toNat : Int)) := fun ht => by
      have := hc 1 (by simp; omega)
      rw [this]; cases t with | nil => simp at ht | cons a b => rfl
    simp only [Nat.add_zero, List.getElem_cons_zero] at k0
    have hcond : ¬ (k.toNat ≤ 8 ∧ k.toNat ≤ t.length ∧ (0 < k.toNat → t.headD 1 ≠ 0)) := fun e => by rw [readU, if_pos e] at hr; cases hr
    have hk : k.toNat ≤ 255 := by have := k.toNat_lt; omega
    clear h hc hp hr
    simp only [List.length_cons] at *
    obtain ⟨t0, htt0⟩ : ∃ t0, t.headD 1 = t0 := ⟨_, rfl⟩
    rw [htt0] at k1 hcond
    clear htt0
    obtain ⟨kk, hkk⟩ : ∃ kk, k.toNat = kk := ⟨_, rfl⟩
    rw [hkk] at k0 hcond hk
    clear hkk
    obtain ⟨N, hNt⟩ : ∃ N, t.length = N := ⟨_, rfl⟩
    rw [hNt] at hcond k1 hn ⊢
    clear hNt
    have hNN : (N : Int) + 1 ≤ 9223372036854775807 := by unfold maxLen at hm; omega
    have wk : IntKind.i64.wrap (kk : Int) = kk := IntWalk.i64_in _ (by omega)
    have nz : ((N : Int) + 1 == 0) = false := by simp; omega
    by_cases h8 : 8 < kk
    · clear hcond k1
      have d8 : (8 : Int) < kk := by omega
      go_enter Tryz.func108, Tryz.ntmps108
      go_wp2
      go_ret2
      exact ⟨rfl, Keeps.refl _ _⟩
    · by_cases hNk : N < kk
      · clear hcond k1
        have d8 : decide ((8 : Int) < (kk : Int)) = false := by simp; omega
        have dN : (N : Int) + 1 < 1 + kk := by omega
        go_enter Tryz.func108, Tryz.ntmps108
        go_wp2
        go_ret2
        exact ⟨rfl, Keeps.refl _ _⟩
      · have hk0 : 0 < kk := by
          rcases Nat.eq_zero_or_pos kk with e | e
          · exact absurd ⟨by omega, by omega, fun h => by omega⟩ hcond
          · exact e
        have ht0 : t0 = 0 := by
          rcases Classical.em (t0 = 0) with e | e
          · exact e
          · exact absurd ⟨by omega, by omega, fun _ => e⟩ hcond
        have k1' := k1 (by omega)
        rw [ht0] at k1'
        have k1'' : w.cell? ⟨g, o + 1, none⟩ = some (.int .u8 0) := k1'
        have hki : (0 : Int) < kk := by omega
        have d8 : decide ((8 : Int) < (kk : Int)) = false := by simp; omega
        have dN : decide ((N : Int) + 1 < 1 + (kk : Int)) = false := by simp; omega
        clear hcond k1 k1' ht0
        go_enter Tryz.func108, Tryz.ntmps108
        go_wp2
        go_ret2
        exact ⟨rfl, Keeps.refl _ _⟩

set_option maxRecDepth 100000 in
set_option maxHeartbeats 4000000 in
theorem number_ok (w : World) (v0 : Value) (l rest : List UInt8) (x : Nat) (h : SlB w v0 l) (hr : readU l = some (x, rest)) :
    Calls Tryz.prog 108 #[v0] w fun e w' => (∃ j : Nat, 0 < j ∧ j ≤ l.length ∧ rest = l.drop j ∧ e = .returned (.tuple #[.int .u64 x, .int .i64 j])) ∧ Keeps [] w w' := by
  rcases h.cases with ⟨rfl, a, cp, rfl, _, _⟩ | ⟨g, o, cp, rfl, hn, hm, hp, hg, hc⟩
  · cases hr
  · obtain ⟨k, t, rfl⟩ : ∃ k t, l = k :: t := by cases l with | nil => simp at hp | cons k t => exact ⟨k, t, rfl⟩
    have k0 := hc 0 (by simp)
    have k1 : 0 < t.length → w.cell? ⟨g, o + 1, none⟩ = some (.int .u8 ((t.headD 1).toNat : Int)) := fun ht => by
      have := hc 1 (by simp; omega)
      rw [this]; cases t with | nil => simp at ht | cons a b => rfl
    have kj : ∀ j (hj : j < t.length), w.cell? ⟨g, o + 1 + j, none⟩ = some (.int .u8 (t[j].toNat : Int)) := fun j hj => by
      have := hc (j + 1) (by simp; omega)
      rw [show o + 1 + j = o + (j + 1) by omega, this]; rfl
    simp only [Nat.add_zero, List.getElem_cons_zero] at k0
    have hcond : k.toNat ≤ 8 ∧ k.toNat ≤ t.length ∧ (0 < k.toNat → t.headD 1 ≠ 0) := by
      rcases Classical.em (k.toNat ≤ 8 ∧ k.toNat ≤ t.length ∧ (0 < k.toNat → t.headD 1 ≠ 0)) with e | e
      · exact e
      · rw [readU, if_neg e] at hr; cases hr
    rw [readU, if_pos hcond] at hr
    simp only [Option.some.injEq, Prod.mk.injEq] at hr
    obtain ⟨h8, hN, ht0⟩ := hcond
    obtain ⟨hx, hrest⟩ := hr
    have hk : k.toNat ≤ 255 := by have := k.toNat_lt; omega
    clear h hc hp
    simp only [List.length_cons] at *
    replace hx := Lib.hid hx
    replace hrest := Lib.hid hrest
    replace kj := Lib.hid kj
    obtain ⟨t0, htt0⟩ : ∃ t0, t.headD 1 = t0 := ⟨_, rfl⟩
    rw [htt0] at k1 ht0
    clear htt0
    obtain ⟨kk, hkk⟩ : ∃ kk, k.toNat = kk := ⟨_, rfl⟩
    rw [hkk] at k0 h8 hN ht0 hk hx hrest
    clear hkk
    obtain ⟨N, hNt⟩ : ∃ N, t.length = N := ⟨_, rfl⟩
    rw [hNt] at hN k1 hn ⊢
    replace hNt := Lib.hid hNt
    have hNN : (N : Int) + 1 ≤ 9223372036854775807 := by unfold maxLen at hm; omega
    have d8 : decide ((8 : Int) < (kk : Int)) = false := by simp; omega
    have nz : ((N : Int) + 1 == 0) = false := by simp; omega
    have wk : IntKind.i64.wrap (kk : Int) = kk := IntWalk.i64_in _ (by omega)
    have dN : decide ((N : Int) + 1 < 1 + (kk : Int)) = false := by simp; omega
    have hfacts : (∃ _ : (0 : Int) < (kk : Int), 0 < kk ∧ w.cell? ⟨g, o + 1, none⟩ = some (.int .u8 (t0.toNat : Int)) ∧ ((t0.toNat : Int) == 0) = false) ∨ (decide ((0 : Int) < (kk : Int)) = false ∧ decide (0 < kk) = false) := by
      by_cases hk0 : 0 < kk
      · refine .inl ⟨by omega, hk0, k1 (by omega), ?_⟩
        have := ht0 hk0
        have h9 : t0.toNat ≠ 0 := fun e => this (UInt8.toNat_inj.1 (by simpa using e))
        simp; omega
      · exact .inr ⟨by simp; omega, by simp; omega⟩
    clear ht0 k1
    rcases hfacts with ⟨dk, hk0, k1', t0n⟩ | ⟨dk, dk2⟩
    all_goals
      go_enter Tryz.func108, Tryz.ntmps108
      go_wp2
      go_loopw [4, 5] (fun n i wr => ∃ j : Nat, j ≤ kk ∧ i = .int .i64 j ∧ n = .int .u64 (valU (t.take j)) ∧ Keeps [] w wr) (fun _ i _ => kk - (intOf i).toNat)
      case atStart => exact ⟨0, by omega, rfl, rfl, Keeps.refl _ _⟩
      case round =>
        obtain ⟨j, hj, rfl, rfl, hkw⟩ := hrel
        have q0 := hkw.val k0
        have hvl := valU_lt j (t.take j) (by rw [List.length_take]; have := hNt.out; omega)
        by_cases hlt3 : j < kk
        · have hjt : j < t.length := by have := hNt.out; omega
          have hcj := hkw.val (kj.out j hjt)
          rw [show o + 1 + j = o + (1 + j) by omega] at hcj
          have hb8 : (t[j].toNat : Int) ≤ 255 := by have := t[j].toNat_lt; omega
          have hstep : Hid (valU (t.take (j + 1)) = valU (t.take j) * 256 + t[j].toNat) := by show _ = _; rw [List.take_succ_eq_append_getElem hjt, valU_snoc]
          have hvb : (valU (t.take j) : Int) < 72057594037927936 := by
            have : (256 : Nat) ^ j ≤ 256 ^ 7 := Nat.pow_le_pow_right (by omega) (by omega)
            omega
          clear hvl
          generalize t[j].toNat = y at *
          generalize hvv : valU (t.take j) = vv at *
          replace hkw := Lib.hid hkw
          replace hvv := Lib.hid hvv
          go_wp2
          go_roundw
          case rel => exact ⟨j + 1, by omega, by go_num, by rw [hstep.out]; go_num, hkw.out⟩
          case measure => simp [intOf]; omega
        · have hjk : j = kk := by omega
          subst hjk
          clear hvl
          rw [hx.out]
          replace hkw := Lib.hid hkw
          go_wp2
          (refine wp_region_quiet_lit (by kernel_rfl) (by kernel_rfl) ?_; (repeat (first | go_big_quiet_step (fail) | quiet_step (fail))); with_reducible refine wpQuiet_nil ?_; intro _ hw'; obtain ⟨nq, hw''⟩ := hw'; subst hw'')
          (repeat go_step)
          go_ret2
          exact ⟨⟨1 + j, by omega, by omega, by rw [← hrest.out, Nat.add_comm 1 j]; rfl, rfl⟩, hkw.out.drewN _⟩
end Go.Proofs.YtiplgpefapeapaaGreat

namespace Go.Proofs.YtiplgpefapeapaaGreat
open Go.RowKit

/-- The reference's reader in memory. -/
def RdR (w : World) (br : Nat) (v : Value) (l : List UInt8) (e : Int) : Prop := w.heap[br]? = some (.cells #[v, .int .i64 e] 75 (0, 0)) ∧ SlV w v l
theorem RdR.keeps {w w' : World} {br : Nat} {v : Value} {l : List UInt8} {e : Int} (h : RdR w br v l e) (hk : Keeps [] w w') : RdR w' br v l e :=
  ⟨(hk.block br (cell2_of h.1).2.2.2.2 (by simp)).trans h.1, h.2.keeps hk⟩
set_option maxRecDepth 100000 in
set_option maxHeartbeats 1000000 in
theorem failR_c (w : World) (br : Nat) (v : Value) (l : List UInt8) (e x : Int) (h : RdR w br v l e) :
    Calls Tryz.prog 82 #[.pointer (some ⟨br, 0, none⟩), .int .i64 x] w fun en w' => en = .returned (.tuple #[]) ∧ RdR w' br (.slice none 0 0) [] x ∧ Keeps [br] w w' := by
  obtain ⟨c0, c1, f0, f1, hlt⟩ := cell2_of h.1
  replace h := Lib.hid h
  go_enter Tryz.func82, Tryz.ntmps82
  go_wp2
  go_end0
  exact ⟨rfl, ⟨set2_1 (set2_0 h.out.1 _) _, SlV.nil _⟩, ((Keeps.refl _ _).setCell (.inr (by simp)) _).setCell (.inr (by simp)) _⟩
set_option maxRecDepth 100000 in
set_option maxHeartbeats 2000000 in
theorem uintR_c (w : World) (br : Nat) (v : Value) (l : List UInt8) (h : RdR w br v l 0) :
    Calls Tryz.prog 81 #[.pointer (some ⟨br, 0, none⟩)] w fun en w' => en = .returned (.int .u64 (rdU l).1) ∧ (∃ v', RdR w' br v' (rdU l).2.1 (rdU l).2.2) ∧ Keeps [br] w w' := by
  cases hr : readU l with
  | none =>
    have e : rdU l = (0, [], 11) := by simp [rdU, hr]
    rw [e]
    obtain ⟨c0, c1, f0, f1, hlt⟩ := cell2_of h.1
    replace h := Lib.hid h
    replace hr := Lib.hid hr
    clear e f0 f1
    go_enter Tryz.func81, Tryz.ntmps81
    go_wp2_with fail
    refine (number_bad _ _ _ h.out.2.b hr.out).mono ?_
    rintro e w1 ⟨rfl, hk1⟩
    replace hk1 := Lib.hid hk1
    go_wp2_with fail
    refine (failR_c _ br v l 0 11 (h.out.keeps hk1.out)).mono ?_
    rintro e w2 ⟨rfl, hR, hk2⟩
    replace hR := Lib.hid hR
    have hk3 : Hid (Keeps [br] w w2) := hk1.out.of_nil.trans hk2
    clear hk2
    go_wp2
    go_ret
    exact ⟨rfl, ⟨_, hR.out⟩, hk3.out⟩
  | some p =>
    obtain ⟨x, r⟩ := p
    have e : rdU l = (x, r, 0) := by simp [rdU, hr]
    rw [e]
    obtain ⟨c0, c1, f0, f1, hlt⟩ := cell2_of h.1
    rcases h.2.cases with ⟨rfl, a, cp, rfl, _, _⟩ | ⟨g, o, cp, rfl, hn, hm, hp, hg, _⟩
    · cases hr
    · have htl := fun j (hj : j ≤ l.length) => h.2.tail j hj
      obtain ⟨N, hN⟩ : ∃ N, l.length = N := ⟨_, rfl⟩
      simp only [hN] at hn hp c0 htl
      replace h := Lib.hid h
      replace hr := Lib.hid hr
      replace htl := Lib.hid htl
      replace hN := Lib.hid hN
      clear e f1
      go_enter Tryz.func81, Tryz.ntmps81
      go_wp2_with fail
      refine (number_ok _ _ _ _ _ (by have := h.out.2.b; rw [hN.out] at this; exact this) hr.out).mono ?_
      rintro e w1 ⟨⟨j, hj0, hjl, hrest, rfl⟩, hk1⟩
      rw [hN.out] at hjl
      have hR1 := h.out.keeps hk1
      have c01 := hk1.val c0
      have f01 := (cell2_of hR1.1).2.2.1
      have hlt1 := (cell2_of hR1.1).2.2.2.2
      have hs1 := (htl.out j hjl).keeps hk1
      rw [← hrest] at hs1
      replace hk1 := Lib.hid hk1
      replace hR1 := Lib.hid hR1
      replace hs1 := Lib.hid hs1
      clear hrest
      have hj2 : ¬ ((j : Int) < 0) := by omega
      by_cases hcj : cp = j
      · have hs := hs1.out
        rw [if_pos hcj] at hs
        subst hcj
        rw [Nat.sub_self, show N - cp = 0 by omega] at hs
        replace hs := Lib.hid hs
        clear hs1
        go_wp2
        go_ret
        exact ⟨rfl, ⟨_, set2_0 hR1.out.1 _, hs.out.kv (KV.setCell w1 _ c01 (by simp))⟩, hk1.out.of_nil.setCell (.inr (by simp)) _⟩
      · go_wp2
        go_ret
        have hs := hs1.out
        rw [if_neg hcj] at hs
        exact ⟨rfl, ⟨_, set2_0 hR1.out.1 _, hs.kv (KV.setCell w1 _ c01 (by simp))⟩, hk1.out.of_nil.setCell (.inr (by simp)) _⟩
end Go.Proofs.YtiplgpefapeapaaGreat
