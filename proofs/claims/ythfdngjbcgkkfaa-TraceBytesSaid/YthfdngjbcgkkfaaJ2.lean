/- Texts that the laws lean on, in the order in which they build. Integers on the wire: the program's AppendInt and the specification's Int. Data among a law's arguments, opened, of whatever type; slices of elements of several cells. Of whatever program. Slices of elements of several cells that read as a list of whatever. Of whatever program. Slices whose elements are flat (their cells lead nowhere): of whatever type, of whatever program. A map in memory, whatever its keys, as a list of its entries in whatever order. Of whatever program. Traces: the shapes of questions, needs, answers; the map of the answers. The cells of a block; blocks made one after the other. The byte form of a trace: the buffer in its variable; the closure that appends integers. The contracts of package wire's reader of bytes. The closure that reads a number, where it fails. The closure that reads a number, where it succeeds. -/
import Derived.Test.YthfdngjbcgkkfaaJ1
import Derived.Test.YthfdngjbcgkkfaaRows
import Derived.Lib.Zigzag
import Derived.Laws.Bits64
import Derived.Deep.Slices
import Derived.Maps.OwnOps
import Derived.Maps.OwnSet
import Derived.Maps.Ext
import Derived.Maps.RangeWalk
import Derived.DeepKeys4
import Derived.Laws.StructEq
set_option linter.unusedVariables false
set_option linter.unusedSimpArgs false
namespace Go.Proofs.Ythfdngjbcgkkfaa
open Go.RowKit Go.ChangeShapes

/-- The number that stands for an integer on the wire. -/
def zig (n : Int) : Nat := if 0 ≤ n then (2 * n).toNat else (-2 * n - 1).toNat
def encI (n : Int) : List UInt8 := encU (zig n)
theorem zig_lt {n : Int} (h : -9223372036854775808 ≤ n ∧ n ≤ 9223372036854775807) : zig n < 18446744073709551616 := by unfold zig; split <;> omega
theorem zig_inj {m n : Int} (h : zig m = zig n) : m = n := by unfold zig at h; split at h <;> split at h <;> omega
theorem zig_pos {n : Int} (h0 : 0 ≤ n) : (zig n : Int) = 2 * n := by unfold zig; rw [if_pos h0]; omega
theorem zig_neg {n : Int} (h0 : n < 0) : (zig n : Int) = -2 * n - 1 := by unfold zig; rw [if_neg (by omega)]; omega
theorem xor_pos {n : Int} (h0 : 0 ≤ n) (hn : n ≤ 9223372036854775807) : bits .xor .u64 (n * 2) (n / 9223372036854775808) = zig n := by
  have e : n / 9223372036854775808 = ((0 : Nat) : Int) := by omega
  obtain ⟨k, rfl⟩ : ∃ k : Nat, n = k := ⟨n.toNat, by omega⟩
  rw [e, show ((k : Int) * 2) = ((k * 2 : Nat) : Int) by omega, bits_xor_u64_nat _ _ (by omega) (by omega), zig_pos h0]
  simp
  omega
theorem xor_neg {n : Int} (h0 : n < 0) (hn : -9223372036854775808 ≤ n) : bits .xor .u64 (IntKind.u64.wrap (IntKind.u64.wrap n * 2)) (IntKind.u64.wrap (n / 9223372036854775808)) = zig n := by
  have e : n / 9223372036854775808 = -1 := by omega
  have e1 : IntKind.u64.wrap (-1) = ((18446744073709551615 : Nat) : Int) := by decide
  have e2 : IntKind.u64.wrap n = n + 18446744073709551616 := by rw [IntKind.wrap_u64]; omega
  have e3 : IntKind.u64.wrap ((n + 18446744073709551616) * 2) = (((2 * n + 18446744073709551616).toNat : Nat) : Int) := by rw [IntKind.wrap_u64]; omega
  rw [e, e1, e2, e3, bits_xor_u64_nat _ _ (by omega) (by decide), zig_neg h0, Nat.xor_comm]
  have := Go.Lib.xor_ones64 (2 * n + 18446744073709551616).toNat (by omega)
  rw [show (18446744073709551615 : Nat) = 2 ^ 64 - 1 by decide, this]
  omega
set_option maxRecDepth 100000 in
set_option maxHeartbeats 2000000 in
theorem appI_c (w : World) (base : Nat) (v0 : Value) (l : List UInt8) (n : Int) (h : Buf w base v0 l) (hn : -9223372036854775808 ≤ n ∧ n ≤ 9223372036854775807) (hl : l.length ≤ 140737488355000) (hb : base ≤ w.heap.size) :
    Calls Try.prog 55 #[v0, .int .i64 n] w fun e w' => ∃ v', e = .returned v' ∧ Buf w' base v' (l ++ encI n) ∧ Grw w w' v0 v' := by
  have hc := appU_c w base v0 l (zig n) h (zig_lt hn) hl hb
  replace hc := Lib.hid hc
  by_cases h0 : 0 ≤ n
  · go_enter Try.func55, Try.ntmps55
    go_wp2_with fail
    rw [xor_pos h0 hn.2]
    refine hc.out.mono ?_
    rintro e w' ⟨v', rfl, hB, hG⟩
    go_wp2
    go_ret
    exact ⟨_, rfl, hB, hG⟩
  · replace h0 : n < 0 := by omega
    go_enter Try.func55, Try.ntmps55
    go_wp2_with fail
    rw [xor_neg h0 hn.1]
    refine hc.out.mono ?_
    rintro e w' ⟨v', rfl, hB, hG⟩
    go_wp2
    go_ret
    exact ⟨_, rfl, hB, hG⟩
set_option maxRecDepth 100000 in
set_option maxHeartbeats 2000000 in
theorem refInt_c (w : World) (v0 : Value) (l : List UInt8) (n : Int) (h : SlB w v0 l) (hn : -9223372036854775808 ≤ n ∧ n ≤ 9223372036854775807) (hl : l.length ≤ 140737488355000) :
    Calls Try.prog 58 #[v0, .int .i64 n] w fun e w' => ∃ v', e = .returned v' ∧ SlB w' v' (l ++ encI n) ∧ Keeps [] w w' := by
  have hc := refU_c w v0 l (zig n) h (zig_lt hn) hl
  replace hc := Lib.hid hc
  by_cases h0 : 0 ≤ n
  · go_enter Try.func58, Try.ntmps58
    go_wp2_with fail
    rw [← zig_pos h0]
    refine hc.out.mono ?_
    rintro e w' ⟨v', rfl, hB, hk⟩
    replace hB := Lib.hid hB.slB
    go_wp2
    go_ret
    exact ⟨_, rfl, hB.out, hk⟩
  · replace h0 : n < 0 := by omega
    go_enter Try.func58, Try.ntmps58
    go_wp2_with fail
    rw [show 2 * -(n + 1) + 1 = (zig n : Int) by rw [zig_neg h0]; omega]
    refine hc.out.mono ?_
    rintro e w' ⟨v', rfl, hB, hk⟩
    replace hB := Lib.hid hB.slB
    go_wp2
    go_ret
    exact ⟨_, rfl, hB.out, hk⟩
end Go.Proofs.Ythfdngjbcgkkfaa

namespace Go.Proofs.Ythfdngjbcgkkfaa
namespace Gen
open Go Go.ChangeShapes Go.WideShapes Go.ChangeAt Go.RowKit

/-- The cells `cs` are data of type `t`. -/
def Cs (P : Program) (w : World) (t : TypeId) (cs : List Value) : Prop :=
  ∃ (H : Type) (enc : TypeId × Value → H) (fuel : Nat) (x : DataW H × List MemPlace), DataW.trod enc P w 0 (fun _ => true) true fuel t cs = some x
variable {P : Program} {w : World}
theorem Cs.of_trod {H : Type} {enc : TypeId × Value → H} {t : TypeId} {v : Value} {d : DataW H} {ps : List MemPlace} (hv : v.cells.toList = [v]) (h : DataW.Trod enc P w 0 (fun _ => true) true t v d ps) : Cs P w t [v] := by
  obtain ⟨fuel, hf⟩ := h
  rw [hv] at hf
  exact ⟨H, enc, fuel, _, hf⟩
theorem Cs.of_agg {H : Type} {enc : TypeId × Value → H} {t : TypeId} {v : Value} {d : DataW H} {ps : List MemPlace} (h : DataW.Trod enc P w 0 (fun _ => true) true t v d ps) : Cs P w t v.cells.toList := by
  obtain ⟨fuel, hf⟩ := h
  exact ⟨H, enc, fuel, _, hf⟩
theorem Cs.int {t : TypeId} {k : IntKind} (ht : P.underlying t = some (.int k)) {cs : List Value} (h : Cs P w t cs) : ∃ n, cs = [.int k n] ∧ (Lit.int k n).wf = true := by
  obtain ⟨H, enc, fuel, x, hf⟩ := h
  obtain ⟨n, h1, _, h2⟩ := DataW.trod_int ht hf
  exact ⟨n, h1, h2⟩
theorem Cs.bool {t : TypeId} (ht : P.underlying t = some .bool) {cs : List Value} (h : Cs P w t cs) : ∃ b, cs = [.bool b] := by
  obtain ⟨H, enc, fuel, x, hf⟩ := h
  obtain ⟨b, h1, _⟩ := DataW.trod_bool ht hf
  exact ⟨b, h1⟩
theorem Cs.struct {t : TypeId} {fs : Array Field} (ht : P.underlying t = some (.struct fs)) {cs : List Value} (h : Cs P w t cs) : cs.length = P.cellsOf t ∧ ∀ (i : Nat) (f : Field), fs[i]? = some f → Cs P w f.type ((cs.drop f.offset).take (P.cellsOf f.type)) := by
  obtain ⟨H, enc, fuel, x, hf⟩ := h
  obtain ⟨xs, n, _, _, hl, hx, hall⟩ := DataW.trod_struct ht hf
  refine ⟨hl, fun i f hi => ?_⟩
  have h1 := hall i f hi
  have hlt : i < xs.length := by rw [hx]; exact (Array.getElem?_eq_some_iff.1 hi).1
  rw [List.getElem?_eq_getElem hlt] at h1
  exact ⟨H, enc, n, _, h1⟩
theorem Cs.slice {t e : TypeId} {sz : Nat} (ht : P.underlying t = some (.slice e)) (hsz : P.cellsOf e = sz) (hpos : 0 < sz) {cs : List Value} (h : Cs P w t cs) :
    ∃ v n es, cs = [v] ∧ Sl w sz v n es ∧ n ≤ maxLen ∧ ∀ k, k < n → Cs P w e ((es.drop (k * sz)).take sz) := by
  obtain ⟨H, enc, fuel, x, hf⟩ := h
  subst hsz
  rcases Go.Deep.open_slice ht hf with ⟨rfl, _⟩ | ⟨a, len, cap, m, n, D, Pl, rfl, _, hl, hm, hmm, _, hx⟩
  · exact ⟨_, 0, [], rfl, Sl.nil _ _, by simp, fun k hk => by omega⟩
  · simp only [if_true] at hmm
    subst hmm
    obtain ⟨V, hV⟩ := Go.Deep.choose_lt (α := List Value) (p := fun i v => w.cells? 0 (a.add (i * P.cellsOf e)) (P.cellsOf e) = some v ∧ DataW.trod enc P w 0 (fun _ => true) true n e v = some (D i, Pl i)) hx
    have hVl : ∀ i, i < m → (V i).length = P.cellsOf e := fun i hi => (World.cells?_some (hV i hi).1).2.1
    have hchunk : ∀ (n : Nat), n ≤ m → ((List.range n).flatMap V).length = n * P.cellsOf e ∧ ∀ k, k < n → (((List.range n).flatMap V).drop (k * P.cellsOf e)).take (P.cellsOf e) = V k := by
      intro n
      induction n with
      | zero => exact fun _ => ⟨by simp, fun k hk => by omega⟩
      | succ n ih =>
        intro hn
        obtain ⟨h1, h2⟩ := ih (by omega)
        rw [List.range_succ, List.flatMap_append]
        simp only [List.flatMap_cons, List.flatMap_nil, List.append_nil]
        refine ⟨by rw [List.length_append, h1, hVl n (by omega)]; rw [Nat.add_mul, Nat.one_mul], fun k hk => ?_⟩
        rcases Nat.lt_succ_iff_lt_or_eq.1 hk with hkn | rfl
        · have hk2 : k * P.cellsOf e + P.cellsOf e ≤ n * P.cellsOf e := by rw [← Nat.succ_mul]; exact Nat.mul_le_mul_right _ hkn
          rw [List.drop_append_of_le_length (by omega), List.take_append_of_le_length (by rw [List.length_drop]; omega)]
          exact h2 k hkn
        · rw [List.drop_append, h1, List.drop_of_length_le (by omega)]
          simp only [Nat.sub_self, List.drop_zero, List.nil_append]
          exact List.take_of_length_le (by rw [hVl _ (by omega)]; exact Nat.le_refl _)
    obtain ⟨hl1, hl2⟩ := hchunk len hl
    refine ⟨_, len, (List.range len).flatMap V, rfl, ⟨hl1, some a, m, rfl, hl, hm, by simp, fun hp => ?_⟩, by omega, fun k hk => ?_⟩
    · obtain ⟨b, off, spot⟩ := a
      have hlen0 : 0 < len := by
        rcases Nat.eq_zero_or_pos len with e | e
        · subst e; simp at hp
        · exact e
      have hspot : spot = none := by
        have h0 := (World.cells?_some (hV 0 (by omega)).1).2.2 0 (by omega)
        rw [List.getElem?_eq_getElem (by rw [hVl 0 (by omega)]; omega)] at h0
        have := World.cell?_spot h0
        simpa [Addr.add] using this
      subst hspot
      refine ⟨b, off, rfl, fun j u hj => ?_⟩
      have hjl : j < len * P.cellsOf e := by rw [← hl1]; exact (List.getElem?_eq_some_iff.1 hj).1
      have hi : j / P.cellsOf e < len := (Nat.div_lt_iff_lt_mul hpos).2 hjl
      have hr : j % P.cellsOf e < P.cellsOf e := Nat.mod_lt _ hpos
      have hdm : j / P.cellsOf e * P.cellsOf e + j % P.cellsOf e = j := by rw [Nat.mul_comm]; exact Nat.div_add_mod _ _
      have hc := (World.cells?_some (hV (j / P.cellsOf e) (by omega)).1).2.2 (j % P.cellsOf e) hr
      have hvk := hl2 _ hi
      have e2 : (V (j / P.cellsOf e))[j % P.cellsOf e]? = some u := by
        rw [← hvk, List.getElem?_take_of_lt hr, List.getElem?_drop, hdm]; exact hj
      rw [add_plain, add_plain, Nat.add_assoc, hdm, e2] at hc
      exact hc
    · rw [hl2 k hk]
      exact ⟨H, enc, n, _, (hV k (by omega)).2⟩
end Gen
end Go.Proofs.Ythfdngjbcgkkfaa

namespace Go.Proofs.Ythfdngjbcgkkfaa
namespace Gen
open Go Go.RowKit
variable {P : Program} {α : Type} {R : World → List Value → α → Prop} {sz : Nat} {w w' : World} {v : Value} {L : List α}

/-- The slice value `v` reads as the list `L`; each element takes `sz` cells, which read as `R` says. -/
def SlR {α : Type} (R : World → List Value → α → Prop) (sz : Nat) (w : World) (v : Value) (L : List α) : Prop :=
  ∃ cs, Sl w sz v L.length cs ∧ ∀ k (hk : k < L.length), R w ((cs.drop (k * sz)).take sz) L[k]
theorem SlR.nil (w : World) : SlR R sz w (.slice none 0 0) [] := ⟨[], Sl.nil _ _, fun k hk => by simp at hk⟩
theorem SlR.open {t e : TypeId} (ht : P.underlying t = some (.slice e)) (hsz : P.cellsOf e = sz) (hpos : 0 < sz) (hR : ∀ cs, Cs P w e cs → ∃ x, R w cs x) (h : Cs P w t [v]) : ∃ L, SlR R sz w v L ∧ L.length ≤ maxLen := by
  obtain ⟨v', n, es, e1, hs, hn, hx⟩ := Cs.slice ht hsz hpos h
  simp only [List.cons.injEq, and_true] at e1
  subst e1
  rcases Nat.eq_zero_or_pos n with e0 | e0
  · subst e0
    exact ⟨[], ⟨es, hs, fun k hk => by simp at hk⟩, by simp⟩
  haveI : Inhabited α := ⟨(hR _ (hx 0 e0)).choose⟩
  obtain ⟨f, hf⟩ := Go.Deep.choose_lt (α := α) (p := fun k x => R w ((es.drop (k * sz)).take sz) x) (fun k hk => hR _ (hx k hk))
  refine ⟨(List.range n).map f, ⟨es, by simpa using hs, fun k hk => ?_⟩, by simpa using hn⟩
  simp at hk
  simpa using hf k hk
theorem SlR.form (h : SlR R sz w v L) : ∃ a c, v = .slice a L.length c ∧ L.length ≤ c ∧ c ≤ maxLen ∧ (a = none → c = 0) := by
  obtain ⟨cs, ⟨_, a, c, rfl, h2, h3, h4, _⟩, _⟩ := h; exact ⟨a, c, rfl, h2, h3, h4⟩
theorem SlR.keepS {S : List Nat} (h : SlR R sz w v L) (hk : Keeps S w w') (hS : ∀ b ∈ S, v.ownBlock ≠ some b) (hR : ∀ cs x, R w cs x → R w' cs x) : SlR R sz w' v L := by
  obtain ⟨cs, ⟨h1, a, cap, rfl, h2, h3, h0, h4⟩, hE⟩ := h
  refine ⟨cs, ⟨h1, a, cap, rfl, h2, h3, h0, fun hp => ?_⟩, fun k hk => hR _ _ (hE k hk)⟩
  obtain ⟨g, o, rfl, hc⟩ := h4 hp
  refine ⟨g, o, rfl, fun j u hj => ?_⟩
  have := hc j u hj
  rw [hk.cell g _ (lt_of_cell this) (fun hm => hS g hm rfl)]
  exact this
theorem SlR.keeps (h : SlR R sz w v L) (hk : Keeps [] w w') (hR : ∀ cs x, R w cs x → R w' cs x) : SlR R sz w' v L := h.keepS hk (by simp) hR
/-- The cells of one element. -/
theorem SlR.elem (h : SlR R sz w v L) (hpos : 0 < sz) {k : Nat} (hk : k < L.length) : ∃ g o c xs, v = .slice (some ⟨g, o, none⟩) L.length c ∧ xs.length = sz ∧ R w xs L[k] ∧ ∀ j u, xs[j]? = some u → w.cell? ⟨g, o + k * sz + j, none⟩ = some u := by
  obtain ⟨cs, ⟨h1, a, cap, rfl, h2, h3, h0, h4⟩, hE⟩ := h
  have hk2 : k * sz + sz ≤ L.length * sz := by rw [← Nat.succ_mul]; exact Nat.mul_le_mul_right _ hk
  obtain ⟨g, o, rfl, hc⟩ := h4 (by omega)
  refine ⟨g, o, cap, _, rfl, ?_, hE k hk, fun j u hj => ?_⟩
  · rw [List.length_take, List.length_drop]; omega
  · have hj2 : j < sz := by
      have := (List.getElem?_eq_some_iff.1 hj).1
      rw [List.length_take] at this; omega
    rw [List.getElem?_take_of_lt hj2, List.getElem?_drop] at hj
    rw [Nat.add_assoc]
    exact hc _ _ hj
/-- Elements of one cell each. -/
theorem SlR.map {f : α → Value} (h : SlR (fun _ cs x => cs = [f x]) 1 w v L) : Sl w 1 v L.length (L.map f) := by
  obtain ⟨cs, h1, h2⟩ := h
  have hl : cs.length = L.length := by have := h1.1; omega
  have : cs = L.map f := by
    refine List.ext_getElem? fun k => ?_
    by_cases hk : k < L.length
    · have h3 := h2 k hk
      rw [Nat.mul_one] at h3
      have h4 : ((cs.drop k).take 1)[0]? = some (f L[k]) := by rw [h3]; rfl
      rw [List.getElem?_take_of_lt (by decide), List.getElem?_drop, Nat.add_zero] at h4
      rw [h4]; simp [hk]
    · rw [List.getElem?_eq_none (by omega), List.getElem?_eq_none (by simp; omega)]
  rw [← this]; exact h1
end Gen
end Go.Proofs.Ythfdngjbcgkkfaa

namespace Go.Proofs.Ythfdngjbcgkkfaa
open Go Go.RowKit

/-- A shape: how many cells an element takes, and which. -/
structure Sh (α : Type) where
  sz : Nat
  cf : α → List Value
  len : ∀ x, (cf x).length = sz
  pos : 0 < sz
  one : ∀ x, ∀ u ∈ cf x, u.oneCell' = true
namespace Sh
variable {α : Type} {s : Sh α} {w w' : World} {v v' : Value} {L M : List α} {B : Nat} {e : TypeId}

def cs (s : Sh α) : List α → List Value
  | [] => []
  | x :: t => s.cf x ++ cs s t
theorem cs_len : ∀ L : List α, (s.cs L).length = L.length * s.sz
  | [] => by simp [cs]
  | x :: t => by simp [cs, s.len, cs_len t, Nat.add_mul]; omega
theorem cs_append : ∀ L M : List α, s.cs (L ++ M) = s.cs L ++ s.cs M
  | [], _ => rfl
  | x :: t, M => by simp [cs, cs_append t M]
theorem cs_one : ∀ L : List α, ∀ u ∈ s.cs L, u.oneCell' = true
  | [], u, h => by cases h
  | x :: t, u, h => by
    rcases List.mem_append.1 h with h | h
    · exact s.one x u h
    · exact cs_one t u h
theorem cs_get : ∀ (L : List α) (k : Nat) (hk : k < L.length) (j : Nat), j < s.sz → (s.cs L)[k * s.sz + j]? = (s.cf L[k])[j]?
  | x :: t, 0, _, j, hj => by
    have : (s.cs (x :: t))[0 * s.sz + j]? = (s.cf x ++ s.cs t)[j]? := by simp [cs]
    rw [this, List.getElem?_append_left (by rw [s.len]; exact hj)]
    rfl
  | x :: t, k + 1, hk, j, hj => by
    have := cs_get t k (by simpa using hk) j hj
    simp only [cs, List.getElem_cons_succ]
    rw [List.getElem?_append_right (by rw [s.len, Nat.add_mul]; omega), ← this]
    congr 1
    rw [s.len, Nat.add_mul]; omega
theorem cs_take : ∀ (L : List α) (k : Nat), (s.cs L).take (k * s.sz) = s.cs (L.take k)
  | [], k => by simp [cs]
  | x :: t, 0 => by simp [cs]
  | x :: t, k + 1 => by
    have h1 := cs_take t k
    simp only [cs, List.take_succ_cons]
    have h2 := s.len x
    rw [List.take_append, h2, List.take_of_length_le (by rw [h2, Nat.add_mul]; omega), show (k + 1) * s.sz - s.sz = k * s.sz by rw [Nat.add_mul]; omega, h1]
theorem cs_drop : ∀ (L : List α) (k : Nat), (s.cs L).drop (k * s.sz) = s.cs (L.drop k)
  | [], k => by simp [cs]
  | x :: t, 0 => by simp [cs]
  | x :: t, k + 1 => by
    have h1 := cs_drop t k
    have h2 := s.len x
    simp only [cs, List.drop_succ_cons]
    rw [List.drop_append, h2, List.drop_of_length_le (by rw [h2, Nat.add_mul]; omega), show (k + 1) * s.sz - s.sz = k * s.sz by rw [Nat.add_mul]; omega, h1]
    rfl

/-- The slice `v` reads as the list `L`. -/
def R (s : Sh α) (w : World) (v : Value) (L : List α) : Prop := Sl w s.sz v L.length (s.cs L)
theorem R.nil (s : Sh α) (w : World) : s.R w (.slice none 0 0) [] := Sl.nil w _
theorem R.keeps (h : s.R w v L) (hk : Keeps [] w w') : s.R w' v L := Sl.keeps h hk
theorem R.keepS {S : List Nat} (h : s.R w v L) (hk : Keeps S w w') (hS : ∀ b ∈ S, v.ownBlock ≠ some b) : s.R w' v L := by
  obtain ⟨h1, a, cap, rfl, h2, h3, h0, h4⟩ := h
  refine ⟨h1, a, cap, rfl, h2, h3, h0, fun hp => ?_⟩
  obtain ⟨g, o, rfl, hc⟩ := h4 hp
  refine ⟨g, o, rfl, fun j u hj => ?_⟩
  have := hc j u hj
  rw [hk.cell g _ (lt_of_cell this) (fun hm => hS g hm rfl)]
  exact this
theorem R.keepN {S : List Nat} (h : s.R w v L) (hk : Keeps S w w') (hS : ∀ b ∈ S, ∀ o, w.cell? ⟨b, o, none⟩ = none) : s.R w' v L :=
  Sl.keep h fun b o hb => by
    by_cases e : b ∈ S
    · exact .inr (hS b e o)
    · exact .inl (hk.cell b o hb e)
theorem R.form (h : s.R w v L) : ∃ a c, v = .slice a L.length c ∧ L.length ≤ c ∧ c ≤ maxLen ∧ (a = none → c = 0) := by
  obtain ⟨_, a, c, rfl, h2, h3, h4, _⟩ := h; exact ⟨a, c, rfl, h2, h3, h4⟩
theorem R.elem (h : s.R w v L) {k : Nat} (hk : k < L.length) : ∃ g o c, v = .slice (some ⟨g, o, none⟩) L.length c ∧ ∀ j u, (s.cf L[k])[j]? = some u → w.cell? ⟨g, o + k * s.sz + j, none⟩ = some u := by
  obtain ⟨_, a, c, rfl, h2, h3, h4, h5⟩ := h
  have hp := s.pos
  have : 1 * s.sz ≤ L.length * s.sz := Nat.mul_le_mul_right _ (by omega)
  obtain ⟨g, o, rfl, hc⟩ := h5 (by rw [cs_len]; omega)
  refine ⟨g, o, c, rfl, fun j u hu => ?_⟩
  have hj : j < s.sz := by have := (List.getElem?_eq_some_iff.1 hu).1; rwa [s.len] at this
  rw [Nat.add_assoc]
  exact hc (k * s.sz + j) u ((cs_get L k hk j hj).trans hu)
theorem R.part {g o n cap : Nat} (h : s.R w (.slice (some ⟨g, o, none⟩) n cap) L) (a b : Nat) (hab : a ≤ b) (hb : b ≤ L.length) : s.R w (.slice (some ⟨g, o + a * s.sz, none⟩) (b - a) (cap - a)) ((L.take b).drop a) := by
  obtain ⟨a', c', e⟩ : ∃ a c, Value.slice (some ⟨g, o, none⟩) n cap = .slice a L.length c := by obtain ⟨_, a, cap, e, _⟩ := h; exact ⟨a, cap, e⟩
  cases e
  have h' := Sl.part h a b hab hb
  rw [cs_take, cs_drop] at h'
  unfold R
  rw [List.length_drop, List.length_take, Nat.min_eq_left hb]
  exact h'
theorem R.init {g o n cap : Nat} (h : s.R w (.slice (some ⟨g, o, none⟩) n cap) L) (b : Nat) (hb : b ≤ L.length) : s.R w (.slice (some ⟨g, o, none⟩) b cap) (L.take b) := by
  have := h.part 0 b (Nat.zero_le _) hb
  simpa using this
theorem R.tail {g o n cap : Nat} (h : s.R w (.slice (some ⟨g, o, none⟩) n cap) L) (a : Nat) (ha : a ≤ L.length) :
    s.R w (.slice (if cap = a then some ⟨g, o, none⟩ else some ⟨g, o + a * s.sz, none⟩) (L.length - a) (cap - a)) (L.drop a) := by
  have h' := h.part a L.length ha (Nat.le_refl _)
  rw [List.take_of_length_le (Nat.le_refl _)] at h'
  by_cases hc : cap = a
  · rw [if_pos hc]
    have hLc : L.length ≤ cap := by obtain ⟨_, a', c', e, h2, _⟩ := h; cases e; exact h2
    have hd : L.drop a = [] := List.drop_of_length_le (by omega)
    rw [hd, show L.length - a = 0 by omega]
    exact ⟨by simp [cs], _, _, rfl, by simp, by unfold maxLen; omega, by simp, by simp [cs]⟩
  · rw [if_neg hc]; exact h'
theorem R.tail' {a : Option Addr} {n cap : Nat} (h : s.R w (.slice a n cap) L) (k : Nat) (hk : k ≤ L.length) :
    s.R w (.slice (if cap = k then a else a.map (·.add (k * s.sz))) (L.length - k) (cap - k)) (L.drop k) := by
  have h0 := h
  obtain ⟨_, a', c', e, h2, h3, h4, h5⟩ := h0
  cases e
  by_cases hc : cap = k
  · rw [if_pos hc]
    have hd : L.drop k = [] := List.drop_of_length_le (by omega)
    rw [hd, show L.length - k = 0 by omega]
    exact ⟨by simp [cs], _, _, rfl, by simp, by unfold maxLen; omega, fun e => by have := h4 e; omega, by simp [cs]⟩
  · rw [if_neg hc]
    by_cases hl : L.length = 0
    · obtain rfl : L = [] := List.length_eq_zero_iff.1 hl
      simp at hk
      subst hk
      refine ⟨by simp [cs], _, _, rfl, by simp, by omega, fun e => ?_, by simp [cs]⟩
      cases a with
      | none => exact h4 rfl
      | some x => cases e
    · have hp := s.pos
      have : 1 * s.sz ≤ L.length * s.sz := Nat.mul_le_mul_right _ (by omega)
      obtain ⟨g, o, rfl, _⟩ := h5 (by rw [cs_len]; omega)
      have := h.tail k hk
      rw [if_neg hc] at this
      simpa only [Option.map_some, WideShapes.add_plain] using this
theorem R.init' {a : Option Addr} {n cap : Nat} (h : s.R w (.slice a n cap) L) (b : Nat) (hb : b ≤ L.length) : s.R w (.slice a b cap) (L.take b) := by
  obtain ⟨h1, a', c', e, h2, h3, h4, h5⟩ := h
  cases e
  refine ⟨cs_len _ |>.trans (by simp), a, cap, ?_, ?_, h3, h4, fun hp => ?_⟩
  · simp [Nat.min_eq_left hb]
  · simp; omega
  · rw [← cs_take] at hp ⊢
    obtain ⟨g, o, e, hc⟩ := h5 (by simp at hp; omega)
    refine ⟨g, o, e, fun j u hj => ?_⟩
    rw [List.getElem?_take] at hj
    split at hj
    · exact hc j u hj
    · cases hj
theorem R.empty (s : Sh α) (w : World) (a : Option Addr) (c : Nat) (hc : c ≤ maxLen) (ha : a = none → c = 0) : s.R w (.slice a 0 c) [] := ⟨by simp [cs], a, c, rfl, by simp, hc, ha, by simp [cs]⟩
/-- What was just laid. -/
theorem R.made (s : Sh α) (w : World) (L : List α) (xs : Array Value) (t : TypeId) (hx : xs.toList = s.cs L) (hl : L.length ≤ maxLen) (n : Nat) (hn : n = L.length) : s.R (w.alloc (.cells xs t)) (.slice (some ⟨w.heap.size, 0, none⟩) n n) L := by
  subst hn
  refine ⟨cs_len L, _, _, rfl, Nat.le_refl _, hl, by simp, fun _ => ⟨_, 0, rfl, fun j u hj => ?_⟩⟩
  rw [World.cell?_alloc_mark, Nat.zero_add]
  rw [← hx] at hj
  simpa using hj
theorem R.of_slR {Rel : World → List Value → α → Prop} (hR : ∀ cs x, Rel w cs x → cs = s.cf x) (h : Gen.SlR Rel s.sz w v L) : s.R w v L := by
  obtain ⟨cs', h1, h2⟩ := h
  have hl : cs'.length = L.length * s.sz := h1.1
  have : cs' = s.cs L := by
    refine List.ext_getElem? fun i => ?_
    by_cases hi : i < L.length * s.sz
    · have hp := s.pos
      have hk : i / s.sz < L.length := (Nat.div_lt_iff_lt_mul hp).2 hi
      have hr : i % s.sz < s.sz := Nat.mod_lt _ hp
      have hdm : i / s.sz * s.sz + i % s.sz = i := by rw [Nat.mul_comm]; exact Nat.div_add_mod _ _
      have h3 := hR _ _ (h2 _ hk)
      have h4 := cs_get L (i / s.sz) hk (i % s.sz) hr
      rw [hdm] at h4
      rw [h4, ← h3, List.getElem?_take_of_lt hr, List.getElem?_drop, hdm]
    · rw [List.getElem?_eq_none (by omega), List.getElem?_eq_none (by rw [cs_len]; omega)]
  rw [this] at h1
  exact h1

/-- .. and is the call's own: it lies at the head of a block from `B` on. -/
def O (s : Sh α) (w : World) (B : Nat) (e : TypeId) (v : Value) (L : List α) : Prop := w.ownsRow B e s.sz v L.length (s.cs L)
theorem O.r (h : s.O w B e v L) : s.R w v L := Sl.of_owns h
theorem O.nil (s : Sh α) (w : World) (B : Nat) (e : TypeId) : s.O w B e (.slice none 0 0) [] := World.ownsRow_nil _ _ _ _
theorem O.fresh (s : Sh α) (w : World) (B : Nat) (e : TypeId) (h : B ≤ w.heap.size) : s.O (w.alloc (.cells #[] e)) B e (.slice (some ⟨w.heap.size, 0, none⟩) 0 0) [] := ownsRow_empty w _ _ _ h
theorem O.keepS {S : List Nat} (h : s.O w B e v L) (hk : Keeps S w w') (hS : ∀ b ∈ S, v.ownBlock ≠ some b) : s.O w' B e v L := by
  refine ⟨h.1, ?_⟩
  rcases h.2 with hn | ⟨g, cap, cur, rfl, hb, hg, rest⟩
  · exact .inl hn
  · exact .inr ⟨g, cap, cur, rfl, hb, (hk.block g (Array.getElem?_eq_some_iff.1 hg).1 (fun hm => hS g hm rfl)).trans hg, rest⟩
theorem O.keeps (h : s.O w B e v L) (hk : Keeps [] w w') : s.O w' B e v L := h.keepS hk (by simp)
theorem O.ge (h : s.O w B e v L) : ∀ b, v.ownBlock = some b → B ≤ b := ownBlock_ge h
theorem O.lt (h : s.O w B e v L) : ∀ b, v.ownBlock = some b → b < w.heap.size := fun b hb => (World.ownsRow.lt h b hb).2
theorem O.form (h : s.O w B e v L) : ∃ a c, v = .slice a L.length c := by obtain ⟨a, c, e, _⟩ := h.r.form; exact ⟨a, c, e⟩
/-- `append(v, v2...)`. -/
theorem wpl_app {P : Program} {ops : Array Oper} {rest : List Oper} {o : Oper} {a : Act} {Q : Exit → Act → World → Prop} (s : Sh α) (B : Nat) {e t : TypeId} {z : Value} {by_ : Nat} (hinf : (P.info? e).map (fun i => (i.zero, i.size, i.bytes)) = some (some z, s.sz, by_)) (hz : z.cells.size = s.sz) (ht : P.underlying t = some (.slice e))
    (v v2 : Value) (L M : List α) (hg : o.guard = none) (x y : Operand) (ho : o.op = .call { callee := .builtin .append, args := #[x, y], argTypes := #[t, t] }) (hs : a.eval x = v) (hx : a.eval y = v2) (h : s.O w B e v L) (hsl : s.R w v2 M)
    (hl : (L.length + M.length) * (by_ + 1) ≤ 140737488355328) (hB : B ≤ w.heap.size)
    (hK : ∀ v' w', s.O w' B e v' (L ++ M) → Grw w w' v v' → wpList P ops Q rest (a.put o.dst v') w') : wpList P ops Q (o :: rest) a w := by
  obtain ⟨i0, hi, hz0, hz1, hz2⟩ := info_parts hinf
  have h1 : L.length + M.length ≤ (L.length + M.length) * (by_ + 1) := Nat.le_mul_of_pos_right _ (by omega)
  have h2 : (L.length + M.length) * by_ ≤ (L.length + M.length) * (by_ + 1) := Nat.mul_le_mul_left _ (by omega)
  refine wpl_append_x hg x y _ ho B e i0 z s.sz by_ ht hi hz0 hz1 hz2 hz s.pos v L.length (s.cs L) hs h v2 M.length (s.cs M) hx hsl (cs_one M) (by unfold maxLen; omega) (by omega) hB ?_
  intro v' w' h1 h2 _
  refine hK v' w' ?_ h2
  unfold O
  rw [cs_append, List.length_append]
  exact h1
theorem wp_app {P : Program} {o : Oper} {a : Act} {K : Act → World → Prop} {Q : Exit → Act → World → Prop} (s : Sh α) (B : Nat) {e t : TypeId} {z : Value} {by_ : Nat} (hinf : (P.info? e).map (fun i => (i.zero, i.size, i.bytes)) = some (some z, s.sz, by_)) (hz : z.cells.size = s.sz) (ht : P.underlying t = some (.slice e))
    (v v2 : Value) (L M : List α) (x y : Operand) (ho : o.op = .call { callee := .builtin .append, args := #[x, y], argTypes := #[t, t] }) (hs : a.eval x = v) (hx : a.eval y = v2) (h : s.O w B e v L) (hsl : s.R w v2 M)
    (hl : (L.length + M.length) * (by_ + 1) ≤ 140737488355328) (hB : B ≤ w.heap.size)
    (hK : ∀ v' w', s.O w' B e v' (L ++ M) → Grw w w' v v' → K (a.put o.dst v') w') : o.wp P a w K Q := by
  obtain ⟨i0, hi, hz0, hz1, hz2⟩ := info_parts hinf
  have h1 : L.length + M.length ≤ (L.length + M.length) * (by_ + 1) := Nat.le_mul_of_pos_right _ (by omega)
  have h2 : (L.length + M.length) * by_ ≤ (L.length + M.length) * (by_ + 1) := Nat.mul_le_mul_left _ (by omega)
  refine wp_append_x x y _ ho B e i0 z s.sz by_ ht hi hz0 hz1 hz2 hz s.pos v L.length (s.cs L) hs h v2 M.length (s.cs M) hx hsl (cs_one M) (by unfold maxLen; omega) (by omega) hB ?_
  intro v' w' h1 h2 _
  refine hK v' w' ?_ h2
  unfold O
  rw [cs_append, List.length_append]
  exact h1
/-- What the growth of the call's own leaves. -/
theorem O.grew {W : World} (hk : Keeps [] W w) (h : s.O w B e v L) (hg : Grw w w' v v') (hB : W.heap.size ≤ B) : Keeps [] W w' := Grw.keeps hk hg (fun b hb => Nat.le_trans hB (h.ge b hb))
/-- One cell of one element is stored. -/
theorem cs_set : ∀ (L : List α) (k : Nat) (hk : k < L.length) (y : α) (j : Nat) (u : Value), (s.cf y) = (s.cf L[k]).set j u → j < s.sz → s.cs (L.set k y) = (s.cs L).set (k * s.sz + j) u
  | x :: t, 0, _, y, j, u, hy, hj => by
    simp only [List.set_cons_zero, cs, Nat.zero_mul, Nat.zero_add]
    rw [hy, List.set_append_left _ _ (by rw [s.len]; exact hj)]
    rfl
  | x :: t, k + 1, hk, y, j, u, hy, hj => by
    have := cs_set t k (by simpa using hk) y j u hy hj
    simp only [List.set_cons_succ, cs, this]
    rw [List.set_append_right _ _ (by rw [s.len, Nat.add_mul]; omega)]
    congr 2
    rw [s.len, Nat.add_mul]; omega
theorem O.set {g n c : Nat} (h : s.O w B e (.slice (some ⟨g, 0, none⟩) n c) L) {k : Nat} (hk : k < L.length) (y : α) (j : Nat) (u : Value) (hy : s.cf y = (s.cf L[k]).set j u) (hj : j < s.sz) (hu : u.oneCell' = true) :
    s.O (w.setCell ⟨g, k * s.sz + j, none⟩ u) B e (.slice (some ⟨g, 0, none⟩) n c) (L.set k y) := by
  rcases h with ⟨h1, ⟨h2, _⟩ | ⟨g', cap, cur, h2, hb, hg, h3, h4, h5, h6⟩⟩
  · cases h2
  · have hn : n = L.length := by simp at h2; exact h2.2.1
    subst hn
    cases h2
    have hkl : k * s.sz + j < L.length * s.sz := by
      have : (k + 1) * s.sz ≤ L.length * s.sz := Nat.mul_le_mul_right _ hk
      rw [Nat.add_mul] at this; omega
    refine ⟨by rw [cs_len], .inr ⟨g, c, cur.set! (k * s.sz + j) u, by simp, hb, ?_, by simpa using h3, h4, by simpa using h5, ?_⟩⟩
    · simp [World.setCell, Array.getElem?_modify, hg]
    · rw [cs_set L k hk y j u hy hj, ← h6, List.length_set]
      simp [List.take_set]
end Sh
end Go.Proofs.Ythfdngjbcgkkfaa

namespace Go.Proofs.Ythfdngjbcgkkfaa
namespace MapS
open Go Go.RowKit

/-- How the keys of a map type read. -/
structure KT (P : Program) (kt : TypeId) (κ : Type) where
  kv : κ → Value
  ok : κ → Prop
  law : Maps.Keyed P kt
  key : ∀ x, ok x → ∃ l, keyOf P kt (kv x) = some l
  inj : ∀ x y, kv x = kv y → x = y
variable {P : Program} {kt t e : TypeId} {κ : Type} [DecidableEq κ] {α : Type} (K : KT P kt κ) (vf : α → Value)
abbrev Es (κ α : Type) := List (κ × α)
def raw (v : Value) : Option (DataW Value × List MemPlace) := some (.held v, [])
def get (k : κ) : Es κ α → Option α
  | [] => none
  | (x, u) :: r => if x = k then some u else get k r
def del (k : κ) (L : Es κ α) : Es κ α := L.filter (fun p => !decide (p.1 = k))
def set (k : κ) (v : α) (L : Es κ α) : Es κ α := L.map (fun p => if p.1 = k then (k, v) else p)
def ND (L : Es κ α) : Prop := (L.map (·.1)).Nodup
variable {vf} {k x : κ} {v u : α} {L L2 : Es κ α}

theorem get_mem : ∀ {L : Es κ α}, get k L = some v → (k, v) ∈ L
  | [], h => by cases h
  | (x, u) :: r, h => by
    unfold get at h
    split at h
    · rename_i e; cases h; subst e; simp
    · exact List.mem_cons_of_mem _ (get_mem h)
theorem get_none : ∀ {L : Es κ α}, get k L = none ↔ ∀ p ∈ L, p.1 ≠ k
  | [] => by simp [get]
  | (x, u) :: r => by
    unfold get
    split
    · rename_i e; subst e; simp
    · rename_i e; rw [get_none (L := r)]; simp [e]
theorem get_of_mem : ∀ {L : Es κ α}, ND L → (k, v) ∈ L → get k L = some v
  | [], _, h => by simp at h
  | (x, u) :: r, ha, h => by
    obtain ⟨h1, h2⟩ := List.nodup_cons.1 ha
    unfold get
    rcases List.mem_cons.1 h with e | hm
    · cases e; simp
    · rw [if_neg (fun e => h1 (List.mem_map.2 ⟨_, hm, e.symm⟩))]
      exact get_of_mem h2 hm
theorem get_iff (h : ND L) : get k L = some v ↔ (k, v) ∈ L := ⟨get_mem, get_of_mem h⟩
theorem get_perm (h : ND L) (hp : L.Perm L2) : get k L2 = get k L := by
  have h' : ND L2 := (hp.map _).nodup_iff.1 h
  cases hg : get k L with
  | some v => exact (get_iff h').2 (hp.mem_iff.1 (get_mem hg))
  | none =>
    rw [get_none] at hg ⊢
    exact fun p hp' => hg p (hp.mem_iff.2 hp')
theorem get_append (j : κ) : ∀ {L N : Es κ α}, get j (L ++ N) = (get j L).or (get j N)
  | [], N => by simp [get]
  | (x, u) :: r, N => by
    simp only [List.cons_append, get]
    split
    · rfl
    · exact get_append j
theorem nd_snoc (h : ND L) (hn : get k L = none) (v : α) : ND (L ++ [(k, v)]) := by
  unfold ND at h ⊢
  rw [List.map_append, List.nodup_append]
  refine ⟨h, by simp, fun a ha b hb => ?_⟩
  simp at hb; subst hb
  obtain ⟨p, hp, rfl⟩ := List.mem_map.1 ha
  exact get_none.1 hn p hp
theorem set_keys (v : α) : ∀ L : Es κ α, (set k v L).map (·.1) = L.map (·.1)
  | [] => rfl
  | (x, u) :: r => by
    have ih := set_keys v r
    unfold set at ih ⊢
    simp only [List.map_cons]
    rw [ih]
    split
    · rename_i e; rw [e]
    · rfl
theorem nd_set (h : ND L) (v : α) : ND (set k v L) := by unfold ND; rw [set_keys]; exact h
theorem get_set (j : κ) (v : α) : ∀ {L : Es κ α}, get j (set k v L) = if j = k ∧ (get k L).isSome then some v else get j L
  | [] => by simp [set, get]
  | (x, u) :: r => by
    have ih := get_set j v (L := r)
    unfold set at ih ⊢
    simp only [List.map_cons]
    by_cases e : x = k
    · subst e
      simp only [if_true, get]
      by_cases e2 : x = j
      · subst e2; simp
      · rw [if_neg e2, ih, if_neg e2, if_neg (fun h => e2 h.1.symm), if_neg (fun h => e2 h.1.symm)]
    · simp only [if_neg e, get]
      by_cases e2 : x = j
      · subst e2; simp [e]
      · rw [if_neg e2, ih, if_neg e2]
theorem get_del (j : κ) : ∀ {L : Es κ α}, get j (del k L) = if j = k then none else get j L
  | [] => by simp [del, get]
  | (x, u) :: r => by
    have ih := get_del j (L := r)
    unfold del at ih ⊢
    by_cases e : x = k
    · rw [List.filter_cons_of_neg (by simp [e]), ih]
      simp only [get]
      by_cases e2 : j = k
      · simp [e2]
      · rw [if_neg e2, if_neg e2, if_neg (by rw [e]; exact fun h => e2 h.symm)]
    · rw [List.filter_cons_of_pos (by simp [e])]
      simp only [get, ih]
      by_cases e2 : x = j
      · rw [if_pos e2, if_neg (by rw [← e2]; exact e), if_pos e2]
      · rw [if_neg e2, if_neg e2]
theorem nd_del (h : ND L) : ND (del k L) := List.Nodup.sublist (List.Sublist.map _ (List.filter_sublist)) h
theorem len_del : ∀ {L : Es κ α}, ND L → (del k L).length + (if (get k L).isSome then 1 else 0) = L.length
  | [], _ => by simp [del, get]
  | (x, u) :: r, h => by
    obtain ⟨h1, h2⟩ := List.nodup_cons.1 h
    have ih := len_del (L := r) h2
    unfold del at ih ⊢
    by_cases e : x = k
    · subst e
      have hn : get x r = none := get_none.2 (fun p hp e => h1 (List.mem_map.2 ⟨p, hp, e⟩))
      rw [hn] at ih
      rw [List.filter_cons_of_neg (by simp)]
      simp [get] at ih ⊢; omega
    · rw [List.filter_cons_of_pos (by simp [e])]
      simp only [get, if_neg e, List.length_cons]
      omega
/-- The datum answers as the list. -/
def Rep (K : KT P kt κ) (vf : α → Value) (D : DataW Value) (L : Es κ α) : Prop :=
  ∀ x l, keyOf P kt (K.kv x) = some l → match get x L with
    | none => Maps.has D l = false
    | some u => Maps.has D l = true ∧ ∀ z, D.atKey l z = .held (vf u)
variable {D : DataW Value}
theorem Rep.no (h : Rep K vf D L) {l : Lit} (hl : keyOf P kt (K.kv x) = some l) (hg : get x L = none) : Maps.has D l = false := by have := h x l hl; rw [hg] at this; exact this
theorem Rep.yes (h : Rep K vf D L) {l : Lit} (hl : keyOf P kt (K.kv x) = some l) (hg : get x L = some u) : Maps.has D l = true ∧ ∀ z, D.atKey l z = .held (vf u) := by have := h x l hl; rw [hg] at this; exact this
theorem Rep.hs (h : Rep K vf D L) {l : Lit} (hl : keyOf P kt (K.kv x) = some l) : Maps.has D l = (get x L).isSome := by
  cases hg : get x L with
  | none => rw [h.no K hl hg]; rfl
  | some u => rw [(h.yes K hl hg).1]; rfl
/-- .. and has no other keys. -/
def Dom (K : KT P kt κ) (f : Lit → Bool) (L : Es κ α) : Prop := ∀ l, f l = true → ∃ x, keyOf P kt (K.kv x) = some l ∧ (get x L).isSome = true
/-- The map in block `b` has the entries `L`. -/
structure M (K : KT P kt κ) (vf : α → Value) (w : World) (b : Nat) (L : Es κ α) : Prop where
  own : ∃ D, w.ownsMap P kt raw b L.length D ∧ Maps.size D = L.length ∧ Rep K vf D L ∧ Dom K (Maps.has D) L
  nd : ND L
  ok : ∀ p ∈ L, K.ok p.1
variable {w w' : World} {b : Nat}
theorem tight {n : Nat} {D : DataW Value} (h : w.ownsMap P kt raw b n D) : w.ownsMap P kt raw b (Maps.size D) D := by
  obtain ⟨es, c, hb, F, _, hD⟩ := h
  refine ⟨es, c, hb, F, ?_, hD⟩
  have := congrArg Maps.size hD
  simp only [Maps.size, length_sorted, List.length_map, Array.length_toList] at this
  simp only [Maps.size]
  omega
theorem M.made (w : World) : M K vf (w.alloc (.map #[] 0)) w.heap.size [] :=
  ⟨⟨.map [], World.ownsMap_made w _ _ _, rfl, fun x l _ => rfl, fun l h => by simp [Maps.has] at h⟩, List.Pairwise.nil, by simp⟩
theorem M.kept {S : List Nat} (h : M K vf w b L) (hk : Keeps S w w') (hS : b ∉ S) : M K vf w' b L := by
  obtain ⟨⟨D, ⟨es, clock, hb, F, hs, hD⟩, h2, h3⟩, ha, hw⟩ := h
  exact ⟨⟨D, ⟨es, clock, (hk.block b (Array.getElem?_eq_some_iff.1 hb).1 hS).trans hb, F, hs, hD⟩, h2, h3⟩, ha, hw⟩
theorem M.keeps (h : M K vf w b L) (hk : Keeps [] w w') : M K vf w' b L := h.kept K hk (by simp)
theorem M.lt (h : M K vf w b L) : b < w.heap.size := by obtain ⟨⟨D, h, _⟩, _⟩ := h; exact h.lt
theorem M.noCells (h : M K vf w b L) (o : Nat) : w.cell? ⟨b, o, none⟩ = none := by obtain ⟨⟨D, h, _⟩, _⟩ := h; exact owns_no_cells h o
theorem M.perm (h : M K vf w b L) {L' : Es κ α} (hp : L.Perm L') : M K vf w b L' := by
  obtain ⟨⟨D, h1, h2, h3, h4⟩, hn, ho⟩ := h
  refine ⟨⟨D, by rw [← hp.length_eq]; exact h1, by rw [← hp.length_eq]; exact h2, fun x l hl => ?_, fun l hl => by obtain ⟨x, e, g⟩ := h4 l hl; exact ⟨x, e, by rw [get_perm hn hp]; exact g⟩⟩, (hp.map _).nodup_iff.1 hn, fun p hm => ho p (hp.mem_iff.2 hm)⟩
  rw [get_perm hn hp]; exact h3 x l hl
section
variable (ht : P.underlying t = some (.map kt e)) (z : Value) (hz : ∀ w, (zeroValue e).run P w = .ok z w)
include ht hz
theorem M.look (h : M K vf w b L) (hk : K.ok k) : (Instr.lookup t (.map (some b)) (K.kv k) false).run P w = .ok (((get k L).map vf).getD z) w := by
  obtain ⟨⟨D, h1, h2, h3, h4⟩, hn, ho⟩ := h
  obtain ⟨l, hl⟩ := K.key k hk
  obtain ⟨v, ps, hrun, hv⟩ := h1.lookup K.law ht (hz w) (zd := .held z) (zp := []) rfl hl
  simp only [raw, Option.some.injEq, Prod.mk.injEq] at hv
  rw [hrun]
  congr 1
  cases hg : get k L with
  | none =>
    rw [Maps.atKey_of_not_has (h3.no K hl hg)] at hv
    have := hv.1; cases this; rfl
  | some u =>
    rw [(h3.yes K hl hg).2] at hv
    have := hv.1; cases this; rfl
theorem M.look_ok (h : M K vf w b L) (hk : K.ok k) : (Instr.lookup t (.map (some b)) (K.kv k) true).run P w = .ok (.tuple #[((get k L).map vf).getD z, .bool (get k L).isSome]) w := by
  obtain ⟨⟨D, h1, h2, h3, h4⟩, hn, ho⟩ := h
  obtain ⟨l, hl⟩ := K.key k hk
  obtain ⟨v, ps, hrun, hv⟩ := World.ownsMap.look_ok h1 K.law ht (hz w) (zd := .held z) (zp := []) rfl hl
  simp only [raw, Option.some.injEq, Prod.mk.injEq] at hv
  rw [hrun, h3.hs K hl]
  cases hg : get k L with
  | none =>
    rw [Maps.atKey_of_not_has (h3.no K hl hg)] at hv
    have := hv.1; cases this; rfl
  | some u =>
    rw [(h3.yes K hl hg).2] at hv
    have := hv.1; cases this; rfl
omit hz in
theorem store (h : M K vf w b L) (hk : K.ok k) (hn : L.length < maxLen) (v : α) :
    ∃ w' D, (Instr.mapUpdate t (.map (some b)) (K.kv k) (vf v)).run P w = .ok () w' ∧ w'.ownsMap P kt raw b (Maps.size D) D ∧ Maps.size D = (if (get k L).isSome then L.length else L.length + 1) ∧
      (∀ x l, keyOf P kt (K.kv x) = some l → match (if x = k then some v else get x L) with | none => Maps.has D l = false | some u => Maps.has D l = true ∧ ∀ z, D.atKey l z = .held (vf u)) ∧ (∀ l, Maps.has D l = true → keyOf P kt (K.kv k) = some l ∨ ∃ x, keyOf P kt (K.kv x) = some l ∧ (get x L).isSome = true) ∧ Keeps [b] w w' := by
  obtain ⟨⟨D, h1, h2, h3, h4⟩, hnd, ho⟩ := h
  obtain ⟨l, hl⟩ := K.key k hk
  obtain ⟨w', hrun, hown', htu⟩ := h1.store K.law ht hn hl (d := .held (vf v)) (ps := []) rfl
  refine ⟨w', _, hrun, tight hown', ?_, fun x l' hl' => ?_, fun l' hl' => ?_, Keeps.of_grown htu.grown⟩
  · rw [Maps.size_put (h1.tidy K.law), h3.hs K hl, h2]
  · by_cases e : x = k
    · subst e
      rw [hl] at hl'; cases hl'
      rw [if_pos rfl]
      exact ⟨Maps.has_put_same h1.isMap (K.law.key hl) _, fun z => Maps.atKey_put_same h1.isMap (K.law.key hl) _ _⟩
    · have hne : l' ≠ l := fun e' => by subst e'; exact e (K.inj _ _ (K.law.inj hl' hl))
      rw [if_neg e, Maps.has_put_other hne]
      have := h3 x l' hl'
      cases hg : get x L with
      | none => rw [hg] at this; exact this
      | some u => rw [hg] at this; exact ⟨this.1, fun z => (Maps.atKey_put_other hne _ _).trans (this.2 z)⟩
  · by_cases e : l' = l
    · subst e; exact .inl hl
    · rw [Maps.has_put_other e] at hl'
      exact .inr (h4 l' hl')
omit hz in
/-- A new key. -/
theorem M.putNew (h : M K vf w b L) (hk : K.ok k) (hg : get k L = none) (hn : L.length < maxLen) (v : α) :
    ∃ w', (Instr.mapUpdate t (.map (some b)) (K.kv k) (vf v)).run P w = .ok () w' ∧ M K vf w' b (L ++ [(k, v)]) ∧ Keeps [b] w w' := by
  obtain ⟨w', D, hr, ho, hs, hR, hdm, hkp⟩ := store K ht h hk hn v
  rw [hg] at hs
  have hs' : Maps.size D = (L ++ [(k, v)]).length := by simpa using hs
  have e2 : ∀ x, get x (L ++ [(k, v)]) = if x = k then some v else get x L := fun x => by
    rw [get_append (κ := κ)]
    by_cases e : x = k
    · subst e; rw [hg]; simp [get]
    · rw [if_neg e]; have e' : ¬ k = x := fun h => e h.symm
      simp [get, e']
  refine ⟨w', hr, ⟨⟨D, hs' ▸ ho, hs', fun x l hl => ?_, fun l hl => ?_⟩, nd_snoc h.nd hg v, fun p hp => ?_⟩, hkp⟩
  · have := hR x l hl
    rw [e2]; exact this
  · rcases hdm l hl with h1 | ⟨x, h1, h2⟩
    · exact ⟨k, h1, by rw [e2, if_pos rfl]; rfl⟩
    · refine ⟨x, h1, ?_⟩
      rw [e2]; split
      · rfl
      · exact h2
  · rcases List.mem_append.1 hp with hp | hp
    · exact h.ok p hp
    · simp at hp; subst hp; exact hk
omit hz in
/-- A key that is there. -/
theorem M.putOld (h : M K vf w b L) (hk : K.ok k) (hg : (get k L).isSome = true) (hn : L.length < maxLen) (v : α) :
    ∃ w', (Instr.mapUpdate t (.map (some b)) (K.kv k) (vf v)).run P w = .ok () w' ∧ M K vf w' b (set k v L) ∧ Keeps [b] w w' := by
  obtain ⟨w', D, hr, ho, hs, hR, hdm, hkp⟩ := store K ht h hk hn v
  rw [if_pos hg] at hs
  have hs' : Maps.size D = (set k v L).length := by simpa [set] using hs
  refine ⟨w', hr, ⟨⟨D, hs' ▸ ho, hs', fun x l hl => ?_, fun l hl => ?_⟩, nd_set h.nd v, fun p hp => ?_⟩, hkp⟩
  · have := hR x l hl
    rw [get_set (k := k), hg]
    simpa using this
  · rcases hdm l hl with h1 | ⟨x, h1, h2⟩
    · exact ⟨k, h1, by rw [get_set (k := k), hg]; simp⟩
    · refine ⟨x, h1, ?_⟩
      rw [get_set (k := k), hg]; split
      · rfl
      · exact h2
  · obtain ⟨q, hq, rfl⟩ := List.mem_map.1 hp
    split
    · exact hk
    · exact h.ok q hq
omit hz in
theorem M.drop (h : M K vf w b L) (hk : K.ok k) (ty : TypeId) :
    ∃ w', (Builtin.delete_ #[t, kt] ty #[.map (some b), K.kv k]).run P w = .ok (.tuple #[]) w' ∧ M K vf w' b (del k L) ∧ Keeps [b] w w' := by
  obtain ⟨⟨D, h1, h2, h3, h4⟩, hnd, ho⟩ := h
  obtain ⟨l, hl⟩ := K.key k hk
  obtain ⟨w', hrun, hown', htu⟩ := h1.drop K.law ht hl ty
  have hsd := Maps.size_del (k := l) (h1.tidy K.law)
  rw [h3.hs K hl, h2] at hsd
  have hld := len_del (k := k) hnd
  have hs' : Maps.size (D.del l) = (del k L).length := by omega
  refine ⟨w', hrun, ⟨⟨_, hs' ▸ tight hown', hs', fun x l' hl' => ?_, fun l' hl' => ?_⟩, nd_del hnd, fun p hp => ho p (List.mem_filter.1 hp).1⟩, Keeps.of_grown htu.grown⟩
  rotate_left
  · by_cases e : l' = l
    · subst e; rw [Maps.has_del_same] at hl'; cases hl'
    · rw [Maps.has_del_other e] at hl'
      obtain ⟨x, h5, h6⟩ := h4 l' hl'
      exact ⟨x, h5, by rw [get_del, if_neg (fun e' => by subst e'; rw [hl] at h5; cases h5; exact e rfl)]; exact h6⟩
  rw [get_del]
  by_cases e : x = k
  · subst e
    rw [hl] at hl'; cases hl'
    rw [if_pos rfl]
    exact Maps.has_del_same
  · have hne : l' ≠ l := fun e' => by subst e'; exact e (K.inj _ _ (K.law.inj hl' hl))
    rw [if_neg e, Maps.has_del_other hne]
    have := h3 x l' hl'
    cases hg : get x L with
    | none => rw [hg] at this; exact this
    | some u => rw [hg] at this; exact ⟨this.1, fun z => (Maps.atKey_del_other hne _).trans (this.2 z)⟩
omit hz in
theorem M.len (h : M K vf w b L) (ty : TypeId) : (Builtin.len_ #[t] ty #[.map (some b)]).run P w = .ok (.int .i64 L.length) w := by
  obtain ⟨⟨D, h1, h2, h3, h4⟩, _⟩ := h
  rw [h1.len ht ty, h2]
end
/-- An iteration over the map: `rest` is still to come. -/
structure Rg (K : KT P kt κ) (vf : α → Value) (w : World) (b r : Nat) (L rest : Es κ α) : Prop where
  ex : ∃ n D left cnt, w.ranges P kt raw b r n D left cnt ∧ Rep K vf D L ∧ (∀ x l, keyOf P kt (K.kv x) = some l → left l = (get x rest).isSome) ∧ Dom K left rest
  nd : ND L
  nr : ND rest
  sub : ∀ p ∈ rest, p ∈ L
  ok : ∀ p ∈ L, K.ok p.1
section
variable {ops : Array Oper} {rest : List Oper} {o : Oper} {a : Act} {Q : Exit → Act → World → Prop}
theorem wpl_range (hg : o.guard = none) (m : Operand) (hop : o.op = Op.range t m) (ht : P.underlying t = some (.map kt e)) (hm : a.eval m = .map (some b)) (h : M K vf w b L)
    (hK : ∀ w', Rg K vf w' b w.heap.size L L → w.grownBy w' none → w'.heap.size = w.heap.size + 1 → wpList P ops Q rest (a.put o.dst (.pointer (some ⟨w.heap.size, 0, none⟩))) w') : wpList P ops Q (o :: rest) a w := by
  obtain ⟨⟨D, h1, h2, h3, h4⟩, hnd, ho⟩ := h
  refine wpList_range_own w hg m t hop kt e K.law ht raw b L.length D hm h1 (fun w' hr hg2 hs => hK w' ⟨⟨_, _, _, _, hr, h3, fun x l hl => h3.hs K hl, h4⟩, hnd, hnd, fun _ h => h, ho⟩ hg2 hs)
theorem wpl_next (hg : o.guard = none) (it : Operand) (hop : o.op = Op.next it false) {r : Nat} {R : Es κ α} (hit : a.eval it = .pointer (some ⟨r, 0, none⟩)) (h : Rg K vf w b r L R)
    (hDone : R = [] → wpList P ops Q rest (a.put o.dst (.tuple #[.bool false])) w)
    (hMore : ∀ (x : κ) (u : α) (R' : Es κ α) (w' : World), K.ok x → get x L = some u → (x, u) ∈ R → R.Perm ((x, u) :: R') → Rg K vf w' b r L R' → w.grownBy w' (some r) → w'.heap.size = w.heap.size →
      (Instr.entry (.pointer (some ⟨r, 0, none⟩))).run P w' = .ok (.tuple #[K.kv x, vf u]) w' → wpList P ops Q rest (a.put o.dst (.tuple #[.bool true, K.kv x, vf u])) w') : wpList P ops Q (o :: rest) a w := by
  obtain ⟨⟨n, D, left, cnt, hr, hR, hl, hdm⟩, hnd, hnr, hsub, hok⟩ := h
  refine wpList_next_ranges w hg it hop kt K.law raw id id (fun key _ _ => ⟨key, rfl⟩) (fun v _ _ => ⟨v, rfl⟩) b r n D left cnt hit hr ?_ ?_
  · intro _ h0
    refine hDone ?_
    cases R with
    | nil => rfl
    | cons p t =>
      obtain ⟨l, hl'⟩ := K.key p.1 (hok p (hsub p (by simp)))
      have := hl p.1 l hl'
      rw [h0 l] at this
      simp [get] at this
  · intro key c kl y w' cnt' hkey hlk hv hat hr' _ hg2 hs hen
    obtain ⟨x, hkx, _⟩ := hdm kl hlk
    obtain rfl : key = K.kv x := K.law.inj hkey hkx
    replace hkey := hkx
    have hlx := hl x kl hkey
    rw [hlk] at hlx
    obtain ⟨u, hu⟩ := Option.isSome_iff_exists.1 hlx.symm
    have hum := get_mem hu
    have hgL := get_of_mem hnd (hsub _ hum)
    have hc : c = vf u := by
      simp only [raw, id, Option.some.injEq] at hv
      have h1 := hat (.held c)
      rw [(hR.yes K hkey hgL).2] at h1
      rw [← hv] at h1
      cases h1; rfl
    subst hc
    have hp : R.Perm ((x, u) :: del x R) := by
      have hnk : ∀ {S : Es κ α}, ND S → (x, u) ∈ S → S.Perm ((x, u) :: del x S) := by
        intro S
        induction S with
        | nil => intro _ h; simp at h
        | cons q s ih =>
          intro hn hm
          obtain ⟨n1, n2⟩ := List.nodup_cons.1 hn
          rcases List.mem_cons.1 hm with rfl | hm
          · have hself : del x s = s := List.filter_eq_self.2 (fun p hp => by
              have : p.1 ≠ x := fun e => n1 (List.mem_map.2 ⟨p, hp, e⟩)
              simp [this])
            have : del x ((x, u) :: s) = s := by
              unfold del at hself ⊢
              rw [List.filter_cons_of_neg (by simp)]; exact hself
            rw [this]
          · have hqx : q.1 ≠ x := fun e => n1 (List.mem_map.2 ⟨(x, u), hm, e.symm⟩)
            have : del x (q :: s) = q :: del x s := by unfold del; rw [List.filter_cons_of_pos (by simp [hqx])]
            rw [this]
            exact ((ih n2 hm).cons q).trans (List.Perm.swap _ _ _)
      exact hnk hnr hum
    refine hMore x u (del x R) w' ?_ hgL hum hp ⟨⟨n, D, _, cnt', hr', hR, fun z l hz => ?_, fun l hl' => ?_⟩, hnd, nd_del hnr, fun p hm => hsub p (List.mem_filter.1 hm).1, hok⟩ hg2 hs hen
    · exact hok _ (hsub _ hum)
    · show (left l && !l.sameKey kl) = _
      rw [get_del]
      by_cases e : z = x
      · subst e
        rw [hkey] at hz; cases hz
        rw [if_pos rfl]
        simp [WideAt.sameKey_self (K.law.key hkey)]
      · have hne : l ≠ kl := fun e' => by subst e'; exact e (K.inj _ _ (K.law.inj hz hkey))
        rw [if_neg e, hl z l hz]
        simp [Maps.sameKey_ne hne]
    · simp only [Bool.and_eq_true, Bool.not_eq_true'] at hl'
      obtain ⟨z, h5, h6⟩ := hdm l hl'.1
      refine ⟨z, h5, ?_⟩
      rw [get_del, if_neg (fun e => ?_)]
      · exact h6
      · subst e
        rw [hkey] at h5; cases h5
        rw [WideAt.sameKey_self (K.law.key hkey)] at hl'
        cases hl'.2
end
end MapS
end Go.Proofs.Ythfdngjbcgkkfaa

namespace Go.Proofs.Ythfdngjbcgkkfaa
open Go.RowKit

theorem own : ownKnob Try.prog.godebug = none := by kernel_rfl
theorem laidOut : laidOutB Try.prog = true := by kernel_rfl
abbrev W64 (x : Int) : Prop := (Lit.int .i64 x).wf = true
theorem w64_iff {x : Int} : W64 x ↔ -9223372036854775808 ≤ x ∧ x ≤ 9223372036854775807 := by simp [W64, Lit.wf, IntKind.min, IntKind.max, IntKind.signed, IntKind.bits]
/-- A question: machine, owner, number. -/
abbrev Qn := Int × Int × Nat
/-- A need (Peer, Number, Stamp), an entry of an inset (Client, Number, Out). -/
abbrev T3 := Int × Nat × Int
abbrev tQ : Nat := 87
abbrev tN : Nat := 26
abbrev tI : Nat := 34
abbrev tA : Nat := 32
abbrev tC : Nat := 44
abbrev tT : Nat := 83
def shQ : Sh Qn := ⟨3, fun x => [.int .i64 x.1, .int .i64 x.2.1, .int .u64 x.2.2], fun _ => rfl, by decide, fun x u hu => by simp at hu; rcases hu with rfl | rfl | rfl <;> rfl⟩
def shT : Sh T3 := ⟨3, fun x => [.int .i64 x.1, .int .u64 x.2.1, .int .i64 x.2.2], fun _ => rfl, by decide, fun x u hu => by simp at hu; rcases hu with rfl | rfl | rfl <;> rfl⟩
def shZ : Sh Int := ⟨1, fun x => [.int .i64 x], fun _ => rfl, by decide, fun x u hu => by simp at hu; subst hu; rfl⟩
/-- An answer as its cells: the inset is a slice. -/
structure AnV where
  m : Int
  ow : Int
  n : Nat
  ep : Int
  kn : Bool
  rt : Bool
  lu : Int
  a : Option Addr
  k : Nat
  c : Nat
def AnV.v (x : AnV) : Value := .slice x.a x.k x.c
def AnV.cs (x : AnV) : List Value := [.int .i64 x.m, .int .i64 x.ow, .int .u64 x.n, .int .i64 x.ep, .bool x.kn, .bool x.rt, .int .i64 x.lu, x.v]
def shA : Sh AnV := ⟨8, AnV.cs, fun _ => rfl, by decide, fun x u hu => by simp [AnV.cs, AnV.v] at hu; rcases hu with rfl | rfl | rfl | rfl | rfl | rfl | rfl | rfl <;> rfl⟩
/-- A claim as its cells. -/
structure ClV where
  m : Int
  ep : Int
  v1 : Option Addr × Nat × Nat
  v2 : Option Addr × Nat × Nat
  v3 : Option Addr × Nat × Nat
abbrev slv (x : Option Addr × Nat × Nat) : Value := .slice x.1 x.2.1 x.2.2
def ClV.cs (x : ClV) : List Value := [.int .i64 x.m, .int .i64 x.ep, slv x.v1, slv x.v2, slv x.v3]
def shC : Sh ClV := ⟨5, ClV.cs, fun _ => rfl, by decide, fun x u hu => by simp [ClV.cs] at hu; rcases hu with rfl | rfl | rfl | rfl | rfl <;> rfl⟩
abbrev qV (x : Qn) : Value := .agg #[.int .i64 x.1, .int .i64 x.2.1, .int .u64 x.2.2]
abbrev tV (x : T3) : Value := .agg #[.int .i64 x.1, .int .u64 x.2.1, .int .i64 x.2.2]
def aV (x : AnV) : Value := .agg #[.int .i64 x.m, .int .i64 x.ow, .int .u64 x.n, .int .i64 x.ep, .bool x.kn, .bool x.rt, .int .i64 x.lu, x.v]
def AnV.zero : AnV := ⟨0, 0, 0, 0, false, false, 0, none, 0, 0⟩
theorem infoQ : (Try.prog.info? tQ).map (fun i => (i.zero, i.size, i.bytes)) = some (some (qV (0, 0, 0)), 3, 24) := by kernel_rfl
theorem infoN : (Try.prog.info? tN).map (fun i => (i.zero, i.size, i.bytes)) = some (some (tV (0, 0, 0)), 3, 24) := by kernel_rfl
theorem infoI : (Try.prog.info? tI).map (fun i => (i.zero, i.size, i.bytes)) = some (some (tV (0, 0, 0)), 3, 24) := by kernel_rfl
theorem infoA : (Try.prog.info? tA).map (fun i => (i.zero, i.size, i.bytes)) = some (some (aV .zero), 8, 72) := by kernel_rfl
theorem infoC : (Try.prog.info? tC).map (fun i => (i.zero, i.size, i.bytes)) = some (some (.agg #[.int .i64 0, .int .i64 0, .slice none 0 0, .slice none 0 0, .slice none 0 0]), 5, 88) := by kernel_rfl
theorem infoZ : (Try.prog.info? 3).map (fun i => (i.zero, i.size, i.bytes)) = some (some (.int .i64 0), 1, 8) := by kernel_rfl
theorem zeroA (w : World) : (zeroValue tA).run Try.prog w = .ok (aV .zero) w := by kernel_rfl
/-- The map's keys. -/
def qOk (x : Qn) : Prop := W64 x.1 ∧ W64 x.2.1 ∧ x.2.2 < 18446744073709551616
theorem w64u {n : Nat} (h : n < 18446744073709551616) : (Lit.int .u64 (n : Int)).wf = true := by simp [Lit.wf, IntKind.min, IntKind.max, IntKind.signed, IntKind.bits]; omega
theorem qLaw : WideMaps.KeyLaw Try.prog tQ := deep_law_laid laidOut (m := 4) (by omega) (of_decide_eq_true (by kernel_rfl)) (by kernel_rfl) (by rw [Try.underlying87])
theorem q_key (x : Qn) (h : qOk x) : ∃ l, keyOf Try.prog tQ (qV x) = some l := by
  obtain ⟨m, o, n⟩ := x
  obtain ⟨hm, ho, hn⟩ := h
  simp only at hm ho hn
  obtain ⟨d, hd⟩ : ∃ d, Try.prog.types.size = d + 2 := ⟨Try.prog.types.size - 2, by have : 2 ≤ Try.prog.types.size := of_decide_eq_true (by kernel_rfl); omega⟩
  have h1 : Try.prog.keyType tQ = true := by kernel_rfl
  have h2 : (qV (m, o, n)).formed Try.prog tQ = true := by kernel_rfl
  have c1 : Try.prog.cellsOf tQ = 3 := by kernel_rfl
  have c3 : Try.prog.cellsOf 3 = 1 := by kernel_rfl
  have c4 : Try.prog.cellsOf 24 = 1 := by kernel_rfl
  unfold keyOf
  simp only [Try.underlying87, h1, h2, hd, Bool.and_self, if_true]
  have hk : Try.prog.keyLits (d + 2 + 1) tQ (qV (m, o, n)).cells.toList = some [.int .i64 m, .int .i64 o, .int .u64 n] := by
    have wm : (Lit.int .i64 m).wf = true := hm
    have wo : (Lit.int .i64 o).wf = true := ho
    have wn := w64u hn
    simp [Program.keyLits, Try.underlying87, Try.underlying3, Try.underlying24, c1, c3, c4, Value.cells, wm, wo, wn]
  rw [hk]
  exact ⟨_, rfl⟩
def ktQ : MapS.KT Try.prog tQ Qn := ⟨qV, qOk, Maps.Keyed.of_law qLaw, q_key, fun x y h => by
  obtain ⟨a, b, c⟩ := x
  obtain ⟨a', b', c'⟩ := y
  simp [qV] at h
  obtain ⟨h1, h2, h3⟩ := h
  rw [h1, h2, show c = c' by omega]⟩
theorem eqQ0 (w : World) (x0 : Int) (x1 : Int) (x2 : Int) (y0 : Int) (y1 : Int) (y2 : Int) : (Op.equalIn 10000 tQ (.agg #[.int .i64 x0, .int .i64 x1, .int .u64 x2]) (.agg #[.int .i64 y0, .int .i64 y1, .int .u64 y2])).run Try.prog w = .ok (x0 == y0 && x1 == y1 && x2 == y2) w := by
  have h1 : Try.prog.underlying tQ = some (.struct (Try.prog.fieldsOf tQ)) := by kernel_rfl
  have h2 : Try.prog.stoodInHeld tQ = false := by kernel_rfl
  have h3 : (Try.prog.fieldsOf tQ).toList.map (fun f => (f.name != "_", f.type, f.offset)) = [(true, 3, 0), (true, 3, 1), (true, 24, 2)] := by kernel_rfl
  obtain ⟨f0, f1, f2, hf⟩ : ∃ f0 f1 f2, (Try.prog.fieldsOf tQ).toList = [f0, f1, f2] := by
    generalize (Try.prog.fieldsOf tQ).toList = l at h3
    have hl := congrArg List.length h3
    simp only [List.length_map, List.length_cons, List.length_nil] at hl
    match l, hl with
    | [f0, f1, f2], _ => exact ⟨f0, f1, f2, rfl⟩
  rw [hf] at h3
  simp only [List.map_cons, List.map_nil, List.cons.injEq, Prod.mk.injEq, and_true, bne_iff_ne, ne_eq] at h3
  obtain ⟨⟨n0, t0, o0⟩, ⟨n1, t1, o1⟩, n2, t2, o2⟩ := h3
  rw [run_equalIn_agg w 9999 _ _ _ h1 h2, hf]
  have p0 : ∀ (x0 : Int) (x1 : Int) (x2 : Int) (w : World), (part 3 #[.int .i64 x0, .int .i64 x1, .int .u64 x2] 0).run Try.prog w = .ok (.int .i64 x0) w := fun x0 x1 x2 w => by kernel_rfl
  have p1 : ∀ (x0 : Int) (x1 : Int) (x2 : Int) (w : World), (part 3 #[.int .i64 x0, .int .i64 x1, .int .u64 x2] 1).run Try.prog w = .ok (.int .i64 x1) w := fun x0 x1 x2 w => by kernel_rfl
  have p2 : ∀ (x0 : Int) (x1 : Int) (x2 : Int) (w : World), (part 24 #[.int .i64 x0, .int .i64 x1, .int .u64 x2] 2).run Try.prog w = .ok (.int .u64 x2) w := fun x0 x1 x2 w => by kernel_rfl
  have e_int : ∀ (x y : Int) (w : World), (Op.equalIn 9999 3 (.int .i64 x) (.int .i64 y)).run Try.prog w = .ok (x == y) w := fun x y w => run_equalIn_int w 9998 _ _ _ x y Try.underlying3
  have e_u64 : ∀ (x y : Int) (w : World), (Op.equalIn 9999 24 (.int .u64 x) (.int .u64 y)).run Try.prog w = .ok (x == y) w := fun x y w => run_equalIn_int w 9998 _ _ _ x y Try.underlying24
  simp only [Op.eqFields, n0, t0, o0, n1, t1, o1, n2, t2, o2, ne_eq, not_false_eq_true, if_true, Sem.run_bind, p0, p1, p2, e_int, e_u64, Result.andThen]
  cases b0 : (x0 == y0)
  · simp [p0, p1, p2, e_int, e_u64, b0]
  · cases b1 : (x1 == y1)
    · simp [p0, p1, p2, e_int, e_u64, b0, b1]
    · cases b2 : (x2 == y2)
      · simp [p0, p1, p2, e_int, e_u64, b0, b1, b2]
      · simp [p0, p1, p2, e_int, e_u64, b0, b1, b2]
end Go.Proofs.Ythfdngjbcgkkfaa

namespace Go.Proofs.Ythfdngjbcgkkfaa
open Go.RowKit

theorem cl1 {w : World} {b : Nat} {x0 : Value} {t : TypeId} (h : w.heap[b]? = some (.cells #[x0] t (0, 0))) :
    w.cell? ⟨b, 0, none⟩ = some x0 ∧ (∀ o, w.frozen? ⟨b, o, none⟩ = false) ∧ b < w.heap.size := by
  refine ⟨?_, fun o => ?_, (Array.getElem?_eq_some_iff.1 h).1⟩ <;> simp [World.cell?, World.frozen?, h]
theorem cl2 {w : World} {b : Nat} {x0 x1 : Value} {t : TypeId} (h : w.heap[b]? = some (.cells #[x0, x1] t (0, 0))) :
    w.cell? ⟨b, 0, none⟩ = some x0 ∧ w.cell? ⟨b, 1, none⟩ = some x1 ∧ (∀ o, w.frozen? ⟨b, o, none⟩ = false) ∧ b < w.heap.size := by
  refine ⟨?_, ?_, fun o => ?_, (Array.getElem?_eq_some_iff.1 h).1⟩ <;> simp [World.cell?, World.frozen?, h]
theorem cl3 {w : World} {b : Nat} {x0 x1 x2 : Value} {t : TypeId} (h : w.heap[b]? = some (.cells #[x0, x1, x2] t (0, 0))) :
    w.cell? ⟨b, 0, none⟩ = some x0 ∧ w.cell? ⟨b, 1, none⟩ = some x1 ∧ w.cell? ⟨b, 2, none⟩ = some x2 ∧ (∀ o, w.frozen? ⟨b, o, none⟩ = false) ∧ b < w.heap.size := by
  refine ⟨?_, ?_, ?_, fun o => ?_, (Array.getElem?_eq_some_iff.1 h).1⟩ <;> simp [World.cell?, World.frozen?, h]
theorem cl4 {w : World} {b : Nat} {x0 x1 x2 x3 : Value} {t : TypeId} (h : w.heap[b]? = some (.cells #[x0, x1, x2, x3] t (0, 0))) :
    w.cell? ⟨b, 0, none⟩ = some x0 ∧ w.cell? ⟨b, 1, none⟩ = some x1 ∧ w.cell? ⟨b, 2, none⟩ = some x2 ∧ w.cell? ⟨b, 3, none⟩ = some x3 ∧ (∀ o, w.frozen? ⟨b, o, none⟩ = false) ∧ b < w.heap.size := by
  refine ⟨?_, ?_, ?_, ?_, fun o => ?_, (Array.getElem?_eq_some_iff.1 h).1⟩ <;> simp [World.cell?, World.frozen?, h]
theorem cl5 {w : World} {b : Nat} {x0 x1 x2 x3 x4 : Value} {t : TypeId} (h : w.heap[b]? = some (.cells #[x0, x1, x2, x3, x4] t (0, 0))) :
    w.cell? ⟨b, 0, none⟩ = some x0 ∧ w.cell? ⟨b, 1, none⟩ = some x1 ∧ w.cell? ⟨b, 2, none⟩ = some x2 ∧ w.cell? ⟨b, 3, none⟩ = some x3 ∧ w.cell? ⟨b, 4, none⟩ = some x4 ∧ (∀ o, w.frozen? ⟨b, o, none⟩ = false) ∧ b < w.heap.size := by
  refine ⟨?_, ?_, ?_, ?_, ?_, fun o => ?_, (Array.getElem?_eq_some_iff.1 h).1⟩ <;> simp [World.cell?, World.frozen?, h]
theorem cl6 {w : World} {b : Nat} {x0 x1 x2 x3 x4 x5 : Value} {t : TypeId} (h : w.heap[b]? = some (.cells #[x0, x1, x2, x3, x4, x5] t (0, 0))) :
    w.cell? ⟨b, 0, none⟩ = some x0 ∧ w.cell? ⟨b, 1, none⟩ = some x1 ∧ w.cell? ⟨b, 2, none⟩ = some x2 ∧ w.cell? ⟨b, 3, none⟩ = some x3 ∧ w.cell? ⟨b, 4, none⟩ = some x4 ∧ w.cell? ⟨b, 5, none⟩ = some x5 ∧ (∀ o, w.frozen? ⟨b, o, none⟩ = false) ∧ b < w.heap.size := by
  refine ⟨?_, ?_, ?_, ?_, ?_, ?_, fun o => ?_, (Array.getElem?_eq_some_iff.1 h).1⟩ <;> simp [World.cell?, World.frozen?, h]
theorem cl7 {w : World} {b : Nat} {x0 x1 x2 x3 x4 x5 x6 : Value} {t : TypeId} (h : w.heap[b]? = some (.cells #[x0, x1, x2, x3, x4, x5, x6] t (0, 0))) :
    w.cell? ⟨b, 0, none⟩ = some x0 ∧ w.cell? ⟨b, 1, none⟩ = some x1 ∧ w.cell? ⟨b, 2, none⟩ = some x2 ∧ w.cell? ⟨b, 3, none⟩ = some x3 ∧ w.cell? ⟨b, 4, none⟩ = some x4 ∧ w.cell? ⟨b, 5, none⟩ = some x5 ∧ w.cell? ⟨b, 6, none⟩ = some x6 ∧ (∀ o, w.frozen? ⟨b, o, none⟩ = false) ∧ b < w.heap.size := by
  refine ⟨?_, ?_, ?_, ?_, ?_, ?_, ?_, fun o => ?_, (Array.getElem?_eq_some_iff.1 h).1⟩ <;> simp [World.cell?, World.frozen?, h]
theorem cl8 {w : World} {b : Nat} {x0 x1 x2 x3 x4 x5 x6 x7 : Value} {t : TypeId} (h : w.heap[b]? = some (.cells #[x0, x1, x2, x3, x4, x5, x6, x7] t (0, 0))) :
    w.cell? ⟨b, 0, none⟩ = some x0 ∧ w.cell? ⟨b, 1, none⟩ = some x1 ∧ w.cell? ⟨b, 2, none⟩ = some x2 ∧ w.cell? ⟨b, 3, none⟩ = some x3 ∧ w.cell? ⟨b, 4, none⟩ = some x4 ∧ w.cell? ⟨b, 5, none⟩ = some x5 ∧ w.cell? ⟨b, 6, none⟩ = some x6 ∧ w.cell? ⟨b, 7, none⟩ = some x7 ∧ (∀ o, w.frozen? ⟨b, o, none⟩ = false) ∧ b < w.heap.size := by
  refine ⟨?_, ?_, ?_, ?_, ?_, ?_, ?_, ?_, fun o => ?_, (Array.getElem?_eq_some_iff.1 h).1⟩ <;> simp [World.cell?, World.frozen?, h]
theorem cl9 {w : World} {b : Nat} {x0 x1 x2 x3 x4 x5 x6 x7 x8 : Value} {t : TypeId} (h : w.heap[b]? = some (.cells #[x0, x1, x2, x3, x4, x5, x6, x7, x8] t (0, 0))) :
    w.cell? ⟨b, 0, none⟩ = some x0 ∧ w.cell? ⟨b, 1, none⟩ = some x1 ∧ w.cell? ⟨b, 2, none⟩ = some x2 ∧ w.cell? ⟨b, 3, none⟩ = some x3 ∧ w.cell? ⟨b, 4, none⟩ = some x4 ∧ w.cell? ⟨b, 5, none⟩ = some x5 ∧ w.cell? ⟨b, 6, none⟩ = some x6 ∧ w.cell? ⟨b, 7, none⟩ = some x7 ∧ w.cell? ⟨b, 8, none⟩ = some x8 ∧ (∀ o, w.frozen? ⟨b, o, none⟩ = false) ∧ b < w.heap.size := by
  refine ⟨?_, ?_, ?_, ?_, ?_, ?_, ?_, ?_, ?_, fun o => ?_, (Array.getElem?_eq_some_iff.1 h).1⟩ <;> simp [World.cell?, World.frozen?, h]
theorem cl10 {w : World} {b : Nat} {x0 x1 x2 x3 x4 x5 x6 x7 x8 x9 : Value} {t : TypeId} (h : w.heap[b]? = some (.cells #[x0, x1, x2, x3, x4, x5, x6, x7, x8, x9] t (0, 0))) :
    w.cell? ⟨b, 0, none⟩ = some x0 ∧ w.cell? ⟨b, 1, none⟩ = some x1 ∧ w.cell? ⟨b, 2, none⟩ = some x2 ∧ w.cell? ⟨b, 3, none⟩ = some x3 ∧ w.cell? ⟨b, 4, none⟩ = some x4 ∧ w.cell? ⟨b, 5, none⟩ = some x5 ∧ w.cell? ⟨b, 6, none⟩ = some x6 ∧ w.cell? ⟨b, 7, none⟩ = some x7 ∧ w.cell? ⟨b, 8, none⟩ = some x8 ∧ w.cell? ⟨b, 9, none⟩ = some x9 ∧ (∀ o, w.frozen? ⟨b, o, none⟩ = false) ∧ b < w.heap.size := by
  refine ⟨?_, ?_, ?_, ?_, ?_, ?_, ?_, ?_, ?_, ?_, fun o => ?_, (Array.getElem?_eq_some_iff.1 h).1⟩ <;> simp [World.cell?, World.frozen?, h]
theorem cl11 {w : World} {b : Nat} {x0 x1 x2 x3 x4 x5 x6 x7 x8 x9 x10 : Value} {t : TypeId} (h : w.heap[b]? = some (.cells #[x0, x1, x2, x3, x4, x5, x6, x7, x8, x9, x10] t (0, 0))) :
    w.cell? ⟨b, 0, none⟩ = some x0 ∧ w.cell? ⟨b, 1, none⟩ = some x1 ∧ w.cell? ⟨b, 2, none⟩ = some x2 ∧ w.cell? ⟨b, 3, none⟩ = some x3 ∧ w.cell? ⟨b, 4, none⟩ = some x4 ∧ w.cell? ⟨b, 5, none⟩ = some x5 ∧ w.cell? ⟨b, 6, none⟩ = some x6 ∧ w.cell? ⟨b, 7, none⟩ = some x7 ∧ w.cell? ⟨b, 8, none⟩ = some x8 ∧ w.cell? ⟨b, 9, none⟩ = some x9 ∧ w.cell? ⟨b, 10, none⟩ = some x10 ∧ (∀ o, w.frozen? ⟨b, o, none⟩ = false) ∧ b < w.heap.size := by
  refine ⟨?_, ?_, ?_, ?_, ?_, ?_, ?_, ?_, ?_, ?_, ?_, fun o => ?_, (Array.getElem?_eq_some_iff.1 h).1⟩ <;> simp [World.cell?, World.frozen?, h]
theorem cl12 {w : World} {b : Nat} {x0 x1 x2 x3 x4 x5 x6 x7 x8 x9 x10 x11 : Value} {t : TypeId} (h : w.heap[b]? = some (.cells #[x0, x1, x2, x3, x4, x5, x6, x7, x8, x9, x10, x11] t (0, 0))) :
    w.cell? ⟨b, 0, none⟩ = some x0 ∧ w.cell? ⟨b, 1, none⟩ = some x1 ∧ w.cell? ⟨b, 2, none⟩ = some x2 ∧ w.cell? ⟨b, 3, none⟩ = some x3 ∧ w.cell? ⟨b, 4, none⟩ = some x4 ∧ w.cell? ⟨b, 5, none⟩ = some x5 ∧ w.cell? ⟨b, 6, none⟩ = some x6 ∧ w.cell? ⟨b, 7, none⟩ = some x7 ∧ w.cell? ⟨b, 8, none⟩ = some x8 ∧ w.cell? ⟨b, 9, none⟩ = some x9 ∧ w.cell? ⟨b, 10, none⟩ = some x10 ∧ w.cell? ⟨b, 11, none⟩ = some x11 ∧ (∀ o, w.frozen? ⟨b, o, none⟩ = false) ∧ b < w.heap.size := by
  refine ⟨?_, ?_, ?_, ?_, ?_, ?_, ?_, ?_, ?_, ?_, ?_, ?_, fun o => ?_, (Array.getElem?_eq_some_iff.1 h).1⟩ <;> simp [World.cell?, World.frozen?, h]
theorem cl13 {w : World} {b : Nat} {x0 x1 x2 x3 x4 x5 x6 x7 x8 x9 x10 x11 x12 : Value} {t : TypeId} (h : w.heap[b]? = some (.cells #[x0, x1, x2, x3, x4, x5, x6, x7, x8, x9, x10, x11, x12] t (0, 0))) :
    w.cell? ⟨b, 0, none⟩ = some x0 ∧ w.cell? ⟨b, 1, none⟩ = some x1 ∧ w.cell? ⟨b, 2, none⟩ = some x2 ∧ w.cell? ⟨b, 3, none⟩ = some x3 ∧ w.cell? ⟨b, 4, none⟩ = some x4 ∧ w.cell? ⟨b, 5, none⟩ = some x5 ∧ w.cell? ⟨b, 6, none⟩ = some x6 ∧ w.cell? ⟨b, 7, none⟩ = some x7 ∧ w.cell? ⟨b, 8, none⟩ = some x8 ∧ w.cell? ⟨b, 9, none⟩ = some x9 ∧ w.cell? ⟨b, 10, none⟩ = some x10 ∧ w.cell? ⟨b, 11, none⟩ = some x11 ∧ w.cell? ⟨b, 12, none⟩ = some x12 ∧ (∀ o, w.frozen? ⟨b, o, none⟩ = false) ∧ b < w.heap.size := by
  refine ⟨?_, ?_, ?_, ?_, ?_, ?_, ?_, ?_, ?_, ?_, ?_, ?_, ?_, fun o => ?_, (Array.getElem?_eq_some_iff.1 h).1⟩ <;> simp [World.cell?, World.frozen?, h]
theorem cl14 {w : World} {b : Nat} {x0 x1 x2 x3 x4 x5 x6 x7 x8 x9 x10 x11 x12 x13 : Value} {t : TypeId} (h : w.heap[b]? = some (.cells #[x0, x1, x2, x3, x4, x5, x6, x7, x8, x9, x10, x11, x12, x13] t (0, 0))) :
    w.cell? ⟨b, 0, none⟩ = some x0 ∧ w.cell? ⟨b, 1, none⟩ = some x1 ∧ w.cell? ⟨b, 2, none⟩ = some x2 ∧ w.cell? ⟨b, 3, none⟩ = some x3 ∧ w.cell? ⟨b, 4, none⟩ = some x4 ∧ w.cell? ⟨b, 5, none⟩ = some x5 ∧ w.cell? ⟨b, 6, none⟩ = some x6 ∧ w.cell? ⟨b, 7, none⟩ = some x7 ∧ w.cell? ⟨b, 8, none⟩ = some x8 ∧ w.cell? ⟨b, 9, none⟩ = some x9 ∧ w.cell? ⟨b, 10, none⟩ = some x10 ∧ w.cell? ⟨b, 11, none⟩ = some x11 ∧ w.cell? ⟨b, 12, none⟩ = some x12 ∧ w.cell? ⟨b, 13, none⟩ = some x13 ∧ (∀ o, w.frozen? ⟨b, o, none⟩ = false) ∧ b < w.heap.size := by
  refine ⟨?_, ?_, ?_, ?_, ?_, ?_, ?_, ?_, ?_, ?_, ?_, ?_, ?_, ?_, fun o => ?_, (Array.getElem?_eq_some_iff.1 h).1⟩ <;> simp [World.cell?, World.frozen?, h]
theorem blks2 (w : World) (A0 A1 : Obj) : ((w.alloc A0).alloc A1).heap[w.heap.size]? = some A0 ∧ ((w.alloc A0).alloc A1).heap[w.heap.size + 1]? = some A1 ∧ Keeps [] w ((w.alloc A0).alloc A1) ∧ ((w.alloc A0).alloc A1).heap.size = w.heap.size + 1 + 1 := by
  have h0 := heap_alloc_new w A0
  have h1 := heap_alloc_new (w.alloc A0) A1
  rw [show (w.alloc A0).heap.size = w.heap.size + 1 by simp] at h1
  exact ⟨(((Keeps.refl [] (w.alloc A0)).alloc A1).block _ (Array.getElem?_eq_some_iff.1 h0).1 (by simp)).trans h0, ((Keeps.refl [] ((w.alloc A0).alloc A1)).block _ (Array.getElem?_eq_some_iff.1 h1).1 (by simp)).trans h1, (((Keeps.refl [] w).alloc A0).alloc A1), by simp⟩
theorem blks3 (w : World) (A0 A1 A2 : Obj) : (((w.alloc A0).alloc A1).alloc A2).heap[w.heap.size]? = some A0 ∧ (((w.alloc A0).alloc A1).alloc A2).heap[w.heap.size + 1]? = some A1 ∧ (((w.alloc A0).alloc A1).alloc A2).heap[w.heap.size + 1 + 1]? = some A2 ∧ Keeps [] w (((w.alloc A0).alloc A1).alloc A2) ∧ (((w.alloc A0).alloc A1).alloc A2).heap.size = w.heap.size + 1 + 1 + 1 := by
  have h0 := heap_alloc_new w A0
  have h1 := heap_alloc_new (w.alloc A0) A1
  rw [show (w.alloc A0).heap.size = w.heap.size + 1 by simp] at h1
  have h2 := heap_alloc_new ((w.alloc A0).alloc A1) A2
  rw [show ((w.alloc A0).alloc A1).heap.size = w.heap.size + 1 + 1 by simp] at h2
  exact ⟨((((Keeps.refl [] (w.alloc A0)).alloc A1).alloc A2).block _ (Array.getElem?_eq_some_iff.1 h0).1 (by simp)).trans h0, (((Keeps.refl [] ((w.alloc A0).alloc A1)).alloc A2).block _ (Array.getElem?_eq_some_iff.1 h1).1 (by simp)).trans h1, ((Keeps.refl [] (((w.alloc A0).alloc A1).alloc A2)).block _ (Array.getElem?_eq_some_iff.1 h2).1 (by simp)).trans h2, ((((Keeps.refl [] w).alloc A0).alloc A1).alloc A2), by simp⟩
theorem blks4 (w : World) (A0 A1 A2 A3 : Obj) : ((((w.alloc A0).alloc A1).alloc A2).alloc A3).heap[w.heap.size]? = some A0 ∧ ((((w.alloc A0).alloc A1).alloc A2).alloc A3).heap[w.heap.size + 1]? = some A1 ∧ ((((w.alloc A0).alloc A1).alloc A2).alloc A3).heap[w.heap.size + 1 + 1]? = some A2 ∧ ((((w.alloc A0).alloc A1).alloc A2).alloc A3).heap[w.heap.size + 1 + 1 + 1]? = some A3 ∧ Keeps [] w ((((w.alloc A0).alloc A1).alloc A2).alloc A3) ∧ ((((w.alloc A0).alloc A1).alloc A2).alloc A3).heap.size = w.heap.size + 1 + 1 + 1 + 1 := by
  have h0 := heap_alloc_new w A0
  have h1 := heap_alloc_new (w.alloc A0) A1
  rw [show (w.alloc A0).heap.size = w.heap.size + 1 by simp] at h1
  have h2 := heap_alloc_new ((w.alloc A0).alloc A1) A2
  rw [show ((w.alloc A0).alloc A1).heap.size = w.heap.size + 1 + 1 by simp] at h2
  have h3 := heap_alloc_new (((w.alloc A0).alloc A1).alloc A2) A3
  rw [show (((w.alloc A0).alloc A1).alloc A2).heap.size = w.heap.size + 1 + 1 + 1 by simp] at h3
  exact ⟨(((((Keeps.refl [] (w.alloc A0)).alloc A1).alloc A2).alloc A3).block _ (Array.getElem?_eq_some_iff.1 h0).1 (by simp)).trans h0, ((((Keeps.refl [] ((w.alloc A0).alloc A1)).alloc A2).alloc A3).block _ (Array.getElem?_eq_some_iff.1 h1).1 (by simp)).trans h1, (((Keeps.refl [] (((w.alloc A0).alloc A1).alloc A2)).alloc A3).block _ (Array.getElem?_eq_some_iff.1 h2).1 (by simp)).trans h2, ((Keeps.refl [] ((((w.alloc A0).alloc A1).alloc A2).alloc A3)).block _ (Array.getElem?_eq_some_iff.1 h3).1 (by simp)).trans h3, (((((Keeps.refl [] w).alloc A0).alloc A1).alloc A2).alloc A3), by simp⟩
theorem blks5 (w : World) (A0 A1 A2 A3 A4 : Obj) : (((((w.alloc A0).alloc A1).alloc A2).alloc A3).alloc A4).heap[w.heap.size]? = some A0 ∧ (((((w.alloc A0).alloc A1).alloc A2).alloc A3).alloc A4).heap[w.heap.size + 1]? = some A1 ∧ (((((w.alloc A0).alloc A1).alloc A2).alloc A3).alloc A4).heap[w.heap.size + 1 + 1]? = some A2 ∧ (((((w.alloc A0).alloc A1).alloc A2).alloc A3).alloc A4).heap[w.heap.size + 1 + 1 + 1]? = some A3 ∧ (((((w.alloc A0).alloc A1).alloc A2).alloc A3).alloc A4).heap[w.heap.size + 1 + 1 + 1 + 1]? = some A4 ∧ Keeps [] w (((((w.alloc A0).alloc A1).alloc A2).alloc A3).alloc A4) ∧ (((((w.alloc A0).alloc A1).alloc A2).alloc A3).alloc A4).heap.size = w.heap.size + 1 + 1 + 1 + 1 + 1 := by
  have h0 := heap_alloc_new w A0
  have h1 := heap_alloc_new (w.alloc A0) A1
  rw [show (w.alloc A0).heap.size = w.heap.size + 1 by simp] at h1
  have h2 := heap_alloc_new ((w.alloc A0).alloc A1) A2
  rw [show ((w.alloc A0).alloc A1).heap.size = w.heap.size + 1 + 1 by simp] at h2
  have h3 := heap_alloc_new (((w.alloc A0).alloc A1).alloc A2) A3
  rw [show (((w.alloc A0).alloc A1).alloc A2).heap.size = w.heap.size + 1 + 1 + 1 by simp] at h3
  have h4 := heap_alloc_new ((((w.alloc A0).alloc A1).alloc A2).alloc A3) A4
  rw [show ((((w.alloc A0).alloc A1).alloc A2).alloc A3).heap.size = w.heap.size + 1 + 1 + 1 + 1 by simp] at h4
  exact ⟨((((((Keeps.refl [] (w.alloc A0)).alloc A1).alloc A2).alloc A3).alloc A4).block _ (Array.getElem?_eq_some_iff.1 h0).1 (by simp)).trans h0, (((((Keeps.refl [] ((w.alloc A0).alloc A1)).alloc A2).alloc A3).alloc A4).block _ (Array.getElem?_eq_some_iff.1 h1).1 (by simp)).trans h1, ((((Keeps.refl [] (((w.alloc A0).alloc A1).alloc A2)).alloc A3).alloc A4).block _ (Array.getElem?_eq_some_iff.1 h2).1 (by simp)).trans h2, (((Keeps.refl [] ((((w.alloc A0).alloc A1).alloc A2).alloc A3)).alloc A4).block _ (Array.getElem?_eq_some_iff.1 h3).1 (by simp)).trans h3, ((Keeps.refl [] (((((w.alloc A0).alloc A1).alloc A2).alloc A3).alloc A4)).block _ (Array.getElem?_eq_some_iff.1 h4).1 (by simp)).trans h4, ((((((Keeps.refl [] w).alloc A0).alloc A1).alloc A2).alloc A3).alloc A4), by simp⟩
theorem sc2 {w : World} {X : Nat} {t : TypeId} {y0 y1 : Value} (x0 x1 : Value) (h : w.heap[X]? = some (.cells #[y0, y1] t (0, 0))) : ((w.setCell ⟨X, 0, none⟩ x0).setCell ⟨X, 1, none⟩ x1).heap[X]? = some (.cells #[x0, x1] t (0, 0)) ∧ Keeps [X] w ((w.setCell ⟨X, 0, none⟩ x0).setCell ⟨X, 1, none⟩ x1) := by
  refine ⟨by simp [World.setCell, Array.getElem?_modify, h], ?_⟩
  refine ((Keeps.refl _ w).setCell ?_ _).setCell ?_ _ <;> exact .inr (by simp)
theorem sc3 {w : World} {X : Nat} {t : TypeId} {y0 y1 y2 : Value} (x0 x1 x2 : Value) (h : w.heap[X]? = some (.cells #[y0, y1, y2] t (0, 0))) : (((w.setCell ⟨X, 0, none⟩ x0).setCell ⟨X, 1, none⟩ x1).setCell ⟨X, 2, none⟩ x2).heap[X]? = some (.cells #[x0, x1, x2] t (0, 0)) ∧ Keeps [X] w (((w.setCell ⟨X, 0, none⟩ x0).setCell ⟨X, 1, none⟩ x1).setCell ⟨X, 2, none⟩ x2) := by
  refine ⟨by simp [World.setCell, Array.getElem?_modify, h], ?_⟩
  refine (((Keeps.refl _ w).setCell ?_ _).setCell ?_ _).setCell ?_ _ <;> exact .inr (by simp)
theorem sc4 {w : World} {X : Nat} {t : TypeId} {y0 y1 y2 y3 : Value} (x0 x1 x2 x3 : Value) (h : w.heap[X]? = some (.cells #[y0, y1, y2, y3] t (0, 0))) : ((((w.setCell ⟨X, 0, none⟩ x0).setCell ⟨X, 1, none⟩ x1).setCell ⟨X, 2, none⟩ x2).setCell ⟨X, 3, none⟩ x3).heap[X]? = some (.cells #[x0, x1, x2, x3] t (0, 0)) ∧ Keeps [X] w ((((w.setCell ⟨X, 0, none⟩ x0).setCell ⟨X, 1, none⟩ x1).setCell ⟨X, 2, none⟩ x2).setCell ⟨X, 3, none⟩ x3) := by
  refine ⟨by simp [World.setCell, Array.getElem?_modify, h], ?_⟩
  refine ((((Keeps.refl _ w).setCell ?_ _).setCell ?_ _).setCell ?_ _).setCell ?_ _ <;> exact .inr (by simp)
theorem sc5 {w : World} {X : Nat} {t : TypeId} {y0 y1 y2 y3 y4 : Value} (x0 x1 x2 x3 x4 : Value) (h : w.heap[X]? = some (.cells #[y0, y1, y2, y3, y4] t (0, 0))) : (((((w.setCell ⟨X, 0, none⟩ x0).setCell ⟨X, 1, none⟩ x1).setCell ⟨X, 2, none⟩ x2).setCell ⟨X, 3, none⟩ x3).setCell ⟨X, 4, none⟩ x4).heap[X]? = some (.cells #[x0, x1, x2, x3, x4] t (0, 0)) ∧ Keeps [X] w (((((w.setCell ⟨X, 0, none⟩ x0).setCell ⟨X, 1, none⟩ x1).setCell ⟨X, 2, none⟩ x2).setCell ⟨X, 3, none⟩ x3).setCell ⟨X, 4, none⟩ x4) := by
  refine ⟨by simp [World.setCell, Array.getElem?_modify, h], ?_⟩
  refine (((((Keeps.refl _ w).setCell ?_ _).setCell ?_ _).setCell ?_ _).setCell ?_ _).setCell ?_ _ <;> exact .inr (by simp)
theorem sc6 {w : World} {X : Nat} {t : TypeId} {y0 y1 y2 y3 y4 y5 : Value} (x0 x1 x2 x3 x4 x5 : Value) (h : w.heap[X]? = some (.cells #[y0, y1, y2, y3, y4, y5] t (0, 0))) : ((((((w.setCell ⟨X, 0, none⟩ x0).setCell ⟨X, 1, none⟩ x1).setCell ⟨X, 2, none⟩ x2).setCell ⟨X, 3, none⟩ x3).setCell ⟨X, 4, none⟩ x4).setCell ⟨X, 5, none⟩ x5).heap[X]? = some (.cells #[x0, x1, x2, x3, x4, x5] t (0, 0)) ∧ Keeps [X] w ((((((w.setCell ⟨X, 0, none⟩ x0).setCell ⟨X, 1, none⟩ x1).setCell ⟨X, 2, none⟩ x2).setCell ⟨X, 3, none⟩ x3).setCell ⟨X, 4, none⟩ x4).setCell ⟨X, 5, none⟩ x5) := by
  refine ⟨by simp [World.setCell, Array.getElem?_modify, h], ?_⟩
  refine ((((((Keeps.refl _ w).setCell ?_ _).setCell ?_ _).setCell ?_ _).setCell ?_ _).setCell ?_ _).setCell ?_ _ <;> exact .inr (by simp)
theorem sc7 {w : World} {X : Nat} {t : TypeId} {y0 y1 y2 y3 y4 y5 y6 : Value} (x0 x1 x2 x3 x4 x5 x6 : Value) (h : w.heap[X]? = some (.cells #[y0, y1, y2, y3, y4, y5, y6] t (0, 0))) : (((((((w.setCell ⟨X, 0, none⟩ x0).setCell ⟨X, 1, none⟩ x1).setCell ⟨X, 2, none⟩ x2).setCell ⟨X, 3, none⟩ x3).setCell ⟨X, 4, none⟩ x4).setCell ⟨X, 5, none⟩ x5).setCell ⟨X, 6, none⟩ x6).heap[X]? = some (.cells #[x0, x1, x2, x3, x4, x5, x6] t (0, 0)) ∧ Keeps [X] w (((((((w.setCell ⟨X, 0, none⟩ x0).setCell ⟨X, 1, none⟩ x1).setCell ⟨X, 2, none⟩ x2).setCell ⟨X, 3, none⟩ x3).setCell ⟨X, 4, none⟩ x4).setCell ⟨X, 5, none⟩ x5).setCell ⟨X, 6, none⟩ x6) := by
  refine ⟨by simp [World.setCell, Array.getElem?_modify, h], ?_⟩
  refine (((((((Keeps.refl _ w).setCell ?_ _).setCell ?_ _).setCell ?_ _).setCell ?_ _).setCell ?_ _).setCell ?_ _).setCell ?_ _ <;> exact .inr (by simp)
theorem sc8 {w : World} {X : Nat} {t : TypeId} {y0 y1 y2 y3 y4 y5 y6 y7 : Value} (x0 x1 x2 x3 x4 x5 x6 x7 : Value) (h : w.heap[X]? = some (.cells #[y0, y1, y2, y3, y4, y5, y6, y7] t (0, 0))) : ((((((((w.setCell ⟨X, 0, none⟩ x0).setCell ⟨X, 1, none⟩ x1).setCell ⟨X, 2, none⟩ x2).setCell ⟨X, 3, none⟩ x3).setCell ⟨X, 4, none⟩ x4).setCell ⟨X, 5, none⟩ x5).setCell ⟨X, 6, none⟩ x6).setCell ⟨X, 7, none⟩ x7).heap[X]? = some (.cells #[x0, x1, x2, x3, x4, x5, x6, x7] t (0, 0)) ∧ Keeps [X] w ((((((((w.setCell ⟨X, 0, none⟩ x0).setCell ⟨X, 1, none⟩ x1).setCell ⟨X, 2, none⟩ x2).setCell ⟨X, 3, none⟩ x3).setCell ⟨X, 4, none⟩ x4).setCell ⟨X, 5, none⟩ x5).setCell ⟨X, 6, none⟩ x6).setCell ⟨X, 7, none⟩ x7) := by
  refine ⟨by simp [World.setCell, Array.getElem?_modify, h], ?_⟩
  refine ((((((((Keeps.refl _ w).setCell ?_ _).setCell ?_ _).setCell ?_ _).setCell ?_ _).setCell ?_ _).setCell ?_ _).setCell ?_ _).setCell ?_ _ <;> exact .inr (by simp)
theorem sc9 {w : World} {X : Nat} {t : TypeId} {y0 y1 y2 y3 y4 y5 y6 y7 y8 : Value} (x0 x1 x2 x3 x4 x5 x6 x7 x8 : Value) (h : w.heap[X]? = some (.cells #[y0, y1, y2, y3, y4, y5, y6, y7, y8] t (0, 0))) : (((((((((w.setCell ⟨X, 0, none⟩ x0).setCell ⟨X, 1, none⟩ x1).setCell ⟨X, 2, none⟩ x2).setCell ⟨X, 3, none⟩ x3).setCell ⟨X, 4, none⟩ x4).setCell ⟨X, 5, none⟩ x5).setCell ⟨X, 6, none⟩ x6).setCell ⟨X, 7, none⟩ x7).setCell ⟨X, 8, none⟩ x8).heap[X]? = some (.cells #[x0, x1, x2, x3, x4, x5, x6, x7, x8] t (0, 0)) ∧ Keeps [X] w (((((((((w.setCell ⟨X, 0, none⟩ x0).setCell ⟨X, 1, none⟩ x1).setCell ⟨X, 2, none⟩ x2).setCell ⟨X, 3, none⟩ x3).setCell ⟨X, 4, none⟩ x4).setCell ⟨X, 5, none⟩ x5).setCell ⟨X, 6, none⟩ x6).setCell ⟨X, 7, none⟩ x7).setCell ⟨X, 8, none⟩ x8) := by
  refine ⟨by simp [World.setCell, Array.getElem?_modify, h], ?_⟩
  refine (((((((((Keeps.refl _ w).setCell ?_ _).setCell ?_ _).setCell ?_ _).setCell ?_ _).setCell ?_ _).setCell ?_ _).setCell ?_ _).setCell ?_ _).setCell ?_ _ <;> exact .inr (by simp)
theorem sc10 {w : World} {X : Nat} {t : TypeId} {y0 y1 y2 y3 y4 y5 y6 y7 y8 y9 : Value} (x0 x1 x2 x3 x4 x5 x6 x7 x8 x9 : Value) (h : w.heap[X]? = some (.cells #[y0, y1, y2, y3, y4, y5, y6, y7, y8, y9] t (0, 0))) : ((((((((((w.setCell ⟨X, 0, none⟩ x0).setCell ⟨X, 1, none⟩ x1).setCell ⟨X, 2, none⟩ x2).setCell ⟨X, 3, none⟩ x3).setCell ⟨X, 4, none⟩ x4).setCell ⟨X, 5, none⟩ x5).setCell ⟨X, 6, none⟩ x6).setCell ⟨X, 7, none⟩ x7).setCell ⟨X, 8, none⟩ x8).setCell ⟨X, 9, none⟩ x9).heap[X]? = some (.cells #[x0, x1, x2, x3, x4, x5, x6, x7, x8, x9] t (0, 0)) ∧ Keeps [X] w ((((((((((w.setCell ⟨X, 0, none⟩ x0).setCell ⟨X, 1, none⟩ x1).setCell ⟨X, 2, none⟩ x2).setCell ⟨X, 3, none⟩ x3).setCell ⟨X, 4, none⟩ x4).setCell ⟨X, 5, none⟩ x5).setCell ⟨X, 6, none⟩ x6).setCell ⟨X, 7, none⟩ x7).setCell ⟨X, 8, none⟩ x8).setCell ⟨X, 9, none⟩ x9) := by
  refine ⟨by simp [World.setCell, Array.getElem?_modify, h], ?_⟩
  refine ((((((((((Keeps.refl _ w).setCell ?_ _).setCell ?_ _).setCell ?_ _).setCell ?_ _).setCell ?_ _).setCell ?_ _).setCell ?_ _).setCell ?_ _).setCell ?_ _).setCell ?_ _ <;> exact .inr (by simp)
theorem sc11 {w : World} {X : Nat} {t : TypeId} {y0 y1 y2 y3 y4 y5 y6 y7 y8 y9 y10 : Value} (x0 x1 x2 x3 x4 x5 x6 x7 x8 x9 x10 : Value) (h : w.heap[X]? = some (.cells #[y0, y1, y2, y3, y4, y5, y6, y7, y8, y9, y10] t (0, 0))) : (((((((((((w.setCell ⟨X, 0, none⟩ x0).setCell ⟨X, 1, none⟩ x1).setCell ⟨X, 2, none⟩ x2).setCell ⟨X, 3, none⟩ x3).setCell ⟨X, 4, none⟩ x4).setCell ⟨X, 5, none⟩ x5).setCell ⟨X, 6, none⟩ x6).setCell ⟨X, 7, none⟩ x7).setCell ⟨X, 8, none⟩ x8).setCell ⟨X, 9, none⟩ x9).setCell ⟨X, 10, none⟩ x10).heap[X]? = some (.cells #[x0, x1, x2, x3, x4, x5, x6, x7, x8, x9, x10] t (0, 0)) ∧ Keeps [X] w (((((((((((w.setCell ⟨X, 0, none⟩ x0).setCell ⟨X, 1, none⟩ x1).setCell ⟨X, 2, none⟩ x2).setCell ⟨X, 3, none⟩ x3).setCell ⟨X, 4, none⟩ x4).setCell ⟨X, 5, none⟩ x5).setCell ⟨X, 6, none⟩ x6).setCell ⟨X, 7, none⟩ x7).setCell ⟨X, 8, none⟩ x8).setCell ⟨X, 9, none⟩ x9).setCell ⟨X, 10, none⟩ x10) := by
  refine ⟨by simp [World.setCell, Array.getElem?_modify, h], ?_⟩
  refine (((((((((((Keeps.refl _ w).setCell ?_ _).setCell ?_ _).setCell ?_ _).setCell ?_ _).setCell ?_ _).setCell ?_ _).setCell ?_ _).setCell ?_ _).setCell ?_ _).setCell ?_ _).setCell ?_ _ <;> exact .inr (by simp)
theorem sc12 {w : World} {X : Nat} {t : TypeId} {y0 y1 y2 y3 y4 y5 y6 y7 y8 y9 y10 y11 : Value} (x0 x1 x2 x3 x4 x5 x6 x7 x8 x9 x10 x11 : Value) (h : w.heap[X]? = some (.cells #[y0, y1, y2, y3, y4, y5, y6, y7, y8, y9, y10, y11] t (0, 0))) : ((((((((((((w.setCell ⟨X, 0, none⟩ x0).setCell ⟨X, 1, none⟩ x1).setCell ⟨X, 2, none⟩ x2).setCell ⟨X, 3, none⟩ x3).setCell ⟨X, 4, none⟩ x4).setCell ⟨X, 5, none⟩ x5).setCell ⟨X, 6, none⟩ x6).setCell ⟨X, 7, none⟩ x7).setCell ⟨X, 8, none⟩ x8).setCell ⟨X, 9, none⟩ x9).setCell ⟨X, 10, none⟩ x10).setCell ⟨X, 11, none⟩ x11).heap[X]? = some (.cells #[x0, x1, x2, x3, x4, x5, x6, x7, x8, x9, x10, x11] t (0, 0)) ∧ Keeps [X] w ((((((((((((w.setCell ⟨X, 0, none⟩ x0).setCell ⟨X, 1, none⟩ x1).setCell ⟨X, 2, none⟩ x2).setCell ⟨X, 3, none⟩ x3).setCell ⟨X, 4, none⟩ x4).setCell ⟨X, 5, none⟩ x5).setCell ⟨X, 6, none⟩ x6).setCell ⟨X, 7, none⟩ x7).setCell ⟨X, 8, none⟩ x8).setCell ⟨X, 9, none⟩ x9).setCell ⟨X, 10, none⟩ x10).setCell ⟨X, 11, none⟩ x11) := by
  refine ⟨by simp [World.setCell, Array.getElem?_modify, h], ?_⟩
  refine ((((((((((((Keeps.refl _ w).setCell ?_ _).setCell ?_ _).setCell ?_ _).setCell ?_ _).setCell ?_ _).setCell ?_ _).setCell ?_ _).setCell ?_ _).setCell ?_ _).setCell ?_ _).setCell ?_ _).setCell ?_ _ <;> exact .inr (by simp)
end Go.Proofs.Ythfdngjbcgkkfaa

namespace Go.Proofs.Ythfdngjbcgkkfaa
open Go.RowKit Go.ChangeShapes

abbrev tB : Nat := 5
abbrev tBs : Nat := 28
/-- Every block but those of bytes and of buffers' variables is as it was. -/
structure KB8 (w w' : World) : Prop where
  sz : w.heap.size ≤ w'.heap.size
  b : ∀ (b : Nat) (cs : Array Value) (t : TypeId) (f : Nat × Nat), w.heap[b]? = some (Obj.cells cs t f) → t ≠ tB → t ≠ tBs → w'.heap[b]? = some (Obj.cells cs t f)
theorem KB8.refl (w : World) : KB8 w w := ⟨Nat.le_refl _, fun _ _ _ _ h _ _ => h⟩
theorem KB8.trans {a b c : World} (h : KB8 a b) (k : KB8 b c) : KB8 a c := ⟨Nat.le_trans h.sz k.sz, fun i cs t f hx h1 h2 => k.b i cs t f (h.b i cs t f hx h1 h2) h1 h2⟩
theorem blk_lt {w : World} {b : Nat} {o : Obj} (h : w.heap[b]? = some o) : b < w.heap.size := (Array.getElem?_eq_some_iff.1 h).1
theorem Keeps.kb8 {w w' : World} (h : Keeps [] w w') : KB8 w w' := ⟨h.size, fun b cs t f hx _ _ => (h.block b (blk_lt hx) (by simp)).trans hx⟩
/-- The variable in block `bb` holds a buffer of these bytes, all of it made since `w0`. -/
structure EB (w0 w : World) (bb : Nat) (l : List UInt8) : Prop where
  v : ∃ v, w.heap[bb]? = some (.cells #[v] tBs (0, 0)) ∧ Buf w w0.heap.size v l
  k : Keeps [] w0 w
  ge : w0.heap.size ≤ bb
theorem EB.keeps {w0 w w' : World} {bb : Nat} {l : List UInt8} (h : EB w0 w bb l) (hk : Keeps [] w w') : EB w0 w' bb l := by
  obtain ⟨v, h1, h2⟩ := h.v
  exact ⟨⟨v, (hk.block _ (blk_lt h1) (by simp)).trans h1, h2.keep hk⟩, h.k.trans hk, h.ge⟩
theorem EB.new (w : World) : EB w (w.alloc (.cells #[.slice none 0 0] tBs)) w.heap.size [] :=
  ⟨⟨_, heap_alloc_new _ _, Buf.nil _ _⟩, (Keeps.refl _ _).alloc _, Nat.le_refl _⟩
theorem Buf.tagB {w : World} {base : Nat} {v : Value} {l : List UInt8} (h : Buf w base v l) {b : Nat} (hb : v.ownBlock = some b) : base ≤ b ∧ ∃ (cs : Array Value), w.heap[b]? = some (Obj.cells cs tB (0, 0)) := by
  rcases h.2 with ⟨rfl, _⟩ | ⟨g, cap, cur, rfl, h1, hg, _⟩
  · simp [Value.ownBlock] at hb
  · simp [Value.ownBlock] at hb; subst hb; exact ⟨h1, _, hg⟩
theorem Buf.sep {w : World} {base : Nat} {v : Value} {l : List UInt8} (h : Buf w base v l) {b : Nat} {cs : Array Value} {t : TypeId} {f : Nat × Nat} (hb : w.heap[b]? = some (.cells cs t f)) (ht : t ≠ tB) : v.ownBlock ≠ some b := fun e => by
  obtain ⟨_, cs', hc⟩ := h.tagB e
  rw [hb] at hc
  cases hc
  exact ht rfl
theorem Grw.kb8 {w w' : World} {base : Nat} {v v' : Value} {l : List UInt8} (hG : Grw w w' v v') (h : Buf w base v l) : KB8 w w' :=
  ⟨hG.keepsO.size, fun b cs t f hx h1 _ => (hG.keepsO.block b (blk_lt hx) (fun hm => h.sep hx h1 (by simpa using hm))).trans hx⟩
theorem Buf.keepN {w w' : World} {base : Nat} {v : Value} {l : List UInt8} {S : List Nat} (h : Buf w base v l) (hk : Keeps S w w') (hS : ∀ b ∈ S, v.ownBlock ≠ some b) : Buf w' base v l := by
  refine ⟨h.1, ?_⟩
  rcases h.2 with hn | ⟨g, cap, cur, rfl, hb, hg, rest⟩
  · exact .inl hn
  · exact .inr ⟨g, cap, cur, rfl, hb, (hk.block g (blk_lt hg) (fun hm => hS g hm (by simp [Value.ownBlock]))).trans hg, rest⟩
theorem setCz {w : World} {b : Nat} {cs : Array Value} {t : TypeId} {f : Nat × Nat} (h : w.heap[b]? = some (.cells cs t f)) (o : Nat) (v : Value) : (w.setCell ⟨b, o, none⟩ v).heap[b]? = some (.cells (cs.setIfInBounds o v) t f) := by
  simp [World.setCell, Array.getElem?_modify, h]
/-- The buffer has grown and is stored again. -/
theorem EB.put {w0 w w1 w2 : World} {bb : Nat} {l l' : List UInt8} {v v' : Value} (h : EB w0 w bb l) (hk : Keeps [] w w1) (hb : w1.heap[bb]? = some (.cells #[v] tBs (0, 0))) (hB : Buf w1 w0.heap.size v l) (hG : Grw w1 w2 v v') (hB2 : Buf w2 w0.heap.size v' l') :
    EB w0 (w2.setCell ⟨bb, 0, none⟩ v') bb l' ∧ KB8 w1 (w2.setCell ⟨bb, 0, none⟩ v') ∧ (∀ o, w2.frozen? ⟨bb, o, none⟩ = false) ∧ w2.heap[bb]? = some (.cells #[v] tBs (0, 0)) := by
  have hb2 : w2.heap[bb]? = some (.cells #[v] tBs (0, 0)) := (hG.keepsO.block bb (blk_lt hb) (fun hm => hB.sep hb (by decide) (by simpa using hm))).trans hb
  have hks : Keeps [bb] w2 (w2.setCell ⟨bb, 0, none⟩ v') := (Keeps.refl _ _).setCell (.inr (by simp)) _
  have hk12 : Keeps [] w0 w2 := (h.k.trans hk).fresh hG.keepsO (fun b hm => .inr (hB.tagB (by simpa using hm)).1)
  refine ⟨⟨⟨v', ?_, ?_⟩, hk12.fresh hks (fun b hm => by simp only [List.mem_singleton] at hm; subst hm; exact .inr h.ge), h.ge⟩, ?_, fun o => by simp [World.frozen?, hb2], hb2⟩
  · have e := setCz hb2 0 v'
    simpa using e
  · exact hB2.keepN hks (fun b hm e => by
      simp only [List.mem_singleton] at hm
      subst hm
      exact hB2.sep hb2 (by decide) e)
  · exact ⟨Nat.le_trans hG.keepsO.size hks.size, fun b cs t f hx h1 h2 => by
      have h3 := (hG.kb8 hB).b b cs t f hx h1 h2
      exact (hks.block b (blk_lt h3) (fun hm => by simp only [List.mem_singleton] at hm; subst hm; rw [hb2] at h3; cases h3; exact h2 rfl)).trans h3⟩
def flatI (L : List Int) : List UInt8 := (L.map encI).flatten
theorem encI_len {n : Int} (h : W64 n) : (encI n).length ≤ 9 := encU_len (zig_lt (w64_iff.1 h))
theorem flatI_len : ∀ {L : List Int}, (∀ z ∈ L, W64 z) → (flatI L).length ≤ 9 * L.length
  | [], _ => by simp [flatI]
  | z :: L, h => by
    have h1 := encI_len (h z (by simp))
    have h2 := flatI_len (L := L) (fun y hy => h y (by simp [hy]))
    simp only [flatI, List.map_cons, List.flatten_cons, List.length_append, List.length_cons] at h2 ⊢
    omega
theorem flatI_take (L : List Int) (k : Nat) (hk : k < L.length) : flatI (L.take (k + 1)) = flatI (L.take k) ++ encI L[k] := by
  unfold flatI
  rw [List.take_succ_eq_append_getElem hk, List.map_append, List.flatten_append]
  simp
set_option maxRecDepth 100000 in
set_option maxHeartbeats 4000000 in
theorem ints_c (w0 w : World) (bb : Nat) (l : List UInt8) (va : Value) (L : List Int) (h : EB w0 w bb l) (hv : ∀ w', KB8 w w' → shZ.R w' va L) (hL : ∀ z ∈ L, W64 z) (hn : L.length ≤ 1000) (hl : l.length ≤ 100000000) :
    Calls Try.prog 54 #[va, .pointer (some ⟨bb, 0, none⟩)] w fun e w' => e = .returned (.tuple #[]) ∧ EB w0 w' bb (l ++ flatI L) ∧ KB8 w w' := by
  obtain ⟨a, c, rfl, hlc, hcm, _⟩ := (hv w (KB8.refl _)).form
  obtain ⟨M, hM⟩ : ∃ n, L.length = n := ⟨_, rfl⟩
  rw [hM] at hlc hn hv ⊢
  have hMm : M ≤ 9223372036854775807 := by omega
  replace hM := Lib.hid hM
  replace h := Lib.hid h
  replace hL := Lib.hid hL
  replace hl := Lib.hid hl
  replace hv := Lib.hid hv
  go_enter Try.func54, Try.ntmps54
  go_wp2
  go_loopw [7] (fun iv wr => ∃ k : Nat, iv = .int .i64 k ∧ k ≤ M ∧ Hid (EB w0 wr bb (l ++ flatI (L.take k))) ∧ Hid (KB8 w wr)) (fun iv _ => M - (intOf iv).toNat)
  case atStart => exact ⟨0, rfl, by omega, Lib.hid (by simpa [flatI] using h.out), Lib.hid (KB8.refl _)⟩
  case round =>
    obtain ⟨k, rfl, hk, hE, hkw⟩ := hrel
    by_cases hlt : k < M
    · have hlt2 : (k : Int) < M := by omega
      have hkL : k < L.length := by rw [hM.out]; exact hlt
      obtain ⟨g, o, c', hvv, he⟩ := (hv.out wr hkw.out).elem hkL
      rw [hM.out] at hvv
      cases hvv
      have e0 := he 0 _ rfl
      simp only [shZ, Nat.add_zero, Nat.mul_one] at e0
      obtain ⟨z, hz⟩ : ∃ z, L[k] = z := ⟨_, rfl⟩
      rw [hz] at e0
      have hzw : W64 z := hz ▸ hL.out _ (List.getElem_mem hkL)
      have hlen : (l ++ flatI (L.take k)).length ≤ 140737488355000 := by
        have h1 := flatI_len (L := L.take k) (fun y hy => hL.out y (List.mem_of_mem_take hy))
        have h2 := hl.out
        simp only [List.length_append, List.length_take] at h1 ⊢
        omega
      obtain ⟨v, hbb, hB⟩ := hE.out.v
      obtain ⟨b0, bf, bl⟩ := cl1 hbb
      have hc := appI_c wr w0.heap.size v _ z hB (w64_iff.1 hzw) hlen hE.out.k.size
      replace hc := Lib.hid hc
      replace hbb := Lib.hid hbb
      replace hz := Lib.hid hz
      replace hB := Lib.hid hB
      clear he hlen
      go_wp2_with fail
      refine hc.out.mono ?_
      rintro e w2 ⟨v', rfl, hB2, hG⟩
      obtain ⟨a2, c2, hv2⟩ := hB2.form
      obtain ⟨N2, hN2⟩ : ∃ n, (l ++ flatI (L.take k) ++ encI z).length = n := ⟨_, rfl⟩
      rw [hN2] at hv2
      subst hv2
      obtain ⟨p1, p2, p3, p4⟩ := hE.out.put (Keeps.refl _ _) hbb.out hB.out hG hB2
      obtain ⟨d0, df, dl⟩ := cl1 p4
      have hE2 : EB w0 (w2.setCell ⟨bb, 0, none⟩ (.slice a2 N2 c2)) bb (l ++ flatI (L.take (k + 1))) := by
        rw [flatI_take L k hkL, hz.out, ← List.append_assoc]
        exact p1
      have hkw2 := hkw.out.trans p2
      replace hE2 := Lib.hid hE2
      replace hkw2 := Lib.hid hkw2
      clear hc hB2 hG p1 p2 p3 p4 b0 bf bl
      go_wp2
      go_roundw
      case rel => exact ⟨k + 1, rfl, by omega, hE2, hkw2⟩
      case measure => simp [intOf]; omega
    · have hlt2 : ¬ ((k : Int) < M) := by omega
      have hkM : k = L.length := by rw [hM.out]; omega
      replace hkM := Lib.hid hkM
      go_wp2
      go_end0
      refine ⟨rfl, ?_, hkw.out⟩
      have := hE.out
      rw [hkM.out, List.take_length] at this
      exact this
end Go.Proofs.Ythfdngjbcgkkfaa

namespace Go.Proofs.Ythfdngjbcgkkfaa
open Go.RowKit

/-- What a number's encoding at the head of `l` gives: the number and the rest. -/
def readU : List UInt8 → Option (Nat × List UInt8)
  | [] => none
  | k :: t => if k.toNat ≤ 8 ∧ k.toNat ≤ t.length ∧ (0 < k.toNat → t.headD 1 ≠ 0) then some (valU (t.take k.toNat), t.drop k.toNat) else none
/-- Bytes kept, and the tags of blocks of bytes. -/
def KV (w w' : World) : Prop := KB w w' ∧ ∀ (b : Nat) (cs : Array Value), w.heap[b]? = some (Obj.cells cs tB (0, 0)) → ∃ cs' : Array Value, w'.heap[b]? = some (Obj.cells cs' tB (0, 0))
theorem KV.trans {a b c : World} (h : KV a b) (k : KV b c) : KV a c := ⟨h.1.trans k.1, fun x cs hx => by obtain ⟨cs', h'⟩ := h.2 x cs hx; exact k.2 x cs' h'⟩
theorem KV.drew (w : World) : KV w w.drew := ⟨KB.drew w, fun _ cs h => ⟨cs, h⟩⟩
theorem KV.setCell (w : World) {b o : Nat} {u : Value} (v : Value) (h : w.cell? ⟨b, o, none⟩ = some u) (hu : ∀ x, u ≠ .int .u8 x) : KV w (w.setCell ⟨b, o, none⟩ v) :=
  ⟨KB.setCell w v h hu, fun x cs hx => by
    by_cases e : x = b
    · subst e
      obtain ⟨hlt, hk⟩ := Array.getElem?_eq_some_iff.1 hx
      simp [World.setCell, Array.getElem?_modify, hx]
    · exact ⟨cs, by
        rw [← hx]
        simp [World.setCell, Array.getElem?_modify, Ne.symm e]⟩⟩
theorem Keeps.kv {S : List Nat} {w w' : World} (h : Keeps S w w') (hS : ∀ b ∈ S, ∀ o x, w.cell? ⟨b, o, none⟩ ≠ some (.int .u8 x)) (hT : ∀ b ∈ S, ∀ cs : Array Value, w.heap[b]? ≠ some (Obj.cells cs tB (0, 0))) : KV w w' :=
  ⟨h.kb hS, fun b cs hb => ⟨cs, (h.block b (Array.getElem?_eq_some_iff.1 hb).1 (fun hm => hT b hm cs hb)).trans hb⟩⟩
theorem Keeps.kv0 {w w' : World} (h : Keeps [] w w') : KV w w' := h.kv (by simp) (by simp)
/-- A slice of bytes that lies in a block of bytes. -/
structure SlV (w : World) (v : Value) (l : List UInt8) : Prop where
  b : SlB w v l
  t : ∀ g : Nat, v.ownBlock = some g → ∃ cs : Array Value, w.heap[g]? = some (Obj.cells cs tB (0, 0))
namespace SlV
variable {w w' : World} {v : Value} {l : List UInt8}
theorem form (h : SlV w v l) : ∃ a cap, v = .slice a l.length cap := h.b.form
theorem cap (h : SlV w v l) : l.length ≤ maxLen := h.b.cap
theorem cases (h : SlV w v l) :
    (l = [] ∧ ∃ a cap, v = .slice a 0 cap ∧ cap ≤ maxLen ∧ (a = none → cap = 0)) ∨
    ∃ g o cap, v = .slice (some ⟨g, o, none⟩) l.length cap ∧ l.length ≤ cap ∧ cap ≤ maxLen ∧ 0 < l.length ∧ g < w.heap.size ∧ ∀ k (hk : k < l.length), w.cell? ⟨g, o + k, none⟩ = some (.int .u8 (l[k].toNat : Int)) := h.b.cases
theorem kv (h : SlV w v l) (hk : KV w w') : SlV w' v l := ⟨h.b.kb hk.1, fun g hg => by obtain ⟨cs, hc⟩ := h.t g hg; exact hk.2 g cs hc⟩
theorem keeps (h : SlV w v l) (hk : Keeps [] w w') : SlV w' v l := h.kv hk.kv0
theorem kb (h : SlV w v l) (hk : KV w w') : SlV w' v l := h.kv hk
theorem nil (w : World) : SlV w (.slice none 0 0) [] := ⟨SlB.nil w, fun g hg => by cases hg⟩
theorem tail {g o n cap : Nat} (h : SlV w (.slice (some ⟨g, o, none⟩) n cap) l) (a : Nat) (ha : a ≤ l.length) :
    SlV w (.slice (if cap = a then some ⟨g, o, none⟩ else some ⟨g, o + a, none⟩) (l.length - a) (cap - a)) (l.drop a) :=
  ⟨h.b.tail a ha, fun x hx => h.t x (by split at hx <;> exact hx)⟩
end SlV
theorem Buf.slV {w : World} {base : Nat} {v : Value} {l : List UInt8} (h : Buf w base v l) : SlV w v l := ⟨h.slB, fun _ hg => (h.tagB hg).2⟩
/-- The reader at block `br`: what is left is the slice `v`, which reads as `l`; its error is `e`. -/
def Rd (w : World) (br : Nat) (v : Value) (l : List UInt8) (e : Int) : Prop := w.heap[br]? = some (.cells #[v, .int .i64 e] 142 (0, 0)) ∧ SlV w v l

theorem cell2_of {w : World} {b : Nat} {u v : Value} {t : TypeId} (h : w.heap[b]? = some (.cells #[u, v] t (0, 0))) : w.cell? ⟨b, 0, none⟩ = some u ∧ w.cell? ⟨b, 1, none⟩ = some v ∧ w.frozen? ⟨b, 0, none⟩ = false ∧ w.frozen? ⟨b, 1, none⟩ = false ∧ b < w.heap.size := by
  refine ⟨by simp [World.cell?, h], by simp [World.cell?, h], by simp [World.frozen?, h], by simp [World.frozen?, h], (Array.getElem?_eq_some_iff.1 h).1⟩

set_option maxRecDepth 100000 in
set_option maxHeartbeats 1000000 in
theorem newReader_c (w : World) (v0 : Value) (l : List UInt8) (h : SlB w v0 l) (hl : l.length ≤ 140737488355328) :
    Calls Try.prog 61 #[v0] w fun e w' => ∃ br v', e = .returned (.pointer (some ⟨br, 0, none⟩)) ∧ w.heap.size ≤ br ∧ Rd w' br v' l 0 ∧ Keeps [] w w' := by
  obtain ⟨a0, c0, rfl⟩ := h.form
  replace h := Lib.hid h
  go_enter Try.func61, Try.ntmps61
  go_wp2_with fail
  refine (clone_c _ _ l h.out hl).mono ?_
  rintro e w1 ⟨v1, rfl, hB1, hk1⟩
  obtain ⟨a1, c1, rfl⟩ := hB1.form
  have hsz := hk1.size
  replace hB1 := Lib.hid hB1
  replace hk1 := Lib.hid hk1
  go_wp2
  go_ret
  refine ⟨w1.heap.size, .slice a1 l.length c1, rfl, hsz, ⟨heap_alloc_new _ _, (hB1.out.keep ((Keeps.refl [] w1).alloc _)).slV⟩, hk1.out.alloc _⟩

/-- The error of a reader at the end. -/
def doneE (l : List UInt8) (e : Int) : Int := if e = 0 ∧ l ≠ [] then 11 else e
set_option maxRecDepth 100000 in
set_option maxHeartbeats 1000000 in
theorem done_c (w : World) (br : Nat) (v : Value) (l : List UInt8) (e : Int) (h : Rd w br v l e) :
    Calls Try.prog 66 #[.pointer (some ⟨br, 0, none⟩)] w fun en w' => en = .returned (.int .i64 (doneE l e)) ∧ w = w' := by
  obtain ⟨c0, c1, f0, f1, hlt⟩ := cell2_of h.1
  obtain ⟨a0, cap0, rfl⟩ := h.2.form
  clear h
  by_cases he : e = 0
  · subst he
    by_cases hl : l = []
    · subst hl
      go_enter Try.func66, Try.ntmps66
      go_wp2
      go_ret
      exact ⟨by simp [doneE], rfl⟩
    · have hp : 0 < l.length := List.length_pos_iff.2 hl
      replace hl := Lib.hid hl
      go_enter Try.func66, Try.ntmps66
      go_wp2
      go_ret
      exact ⟨by simp [doneE, hl.out], rfl⟩
  · have he2 : (e == 0) = false := by simp [he]
    replace he := Lib.hid he
    go_enter Try.func66, Try.ntmps66
    go_wp2
    go_ret
    exact ⟨by simp [doneE, he.out], rfl⟩

theorem cell1_of {w : World} {b : Nat} {u : Value} {t : TypeId} (h : w.heap[b]? = some (.cells #[u] t (0, 0))) : w.cell? ⟨b, 0, none⟩ = some u ∧ w.frozen? ⟨b, 0, none⟩ = false ∧ b < w.heap.size := by
  refine ⟨by simp [World.cell?, h], by simp [World.frozen?, h], (Array.getElem?_eq_some_iff.1 h).1⟩

end Go.Proofs.Ythfdngjbcgkkfaa

namespace Go.Proofs.Ythfdngjbcgkkfaa
open Go.RowKit

set_option maxRecDepth 100000 in
set_option maxHeartbeats 2000000 in
theorem uint1_bad (w : World) (br b1 b2 : Nat) (v : Value) (l : List UInt8) (h : Rd w br v l 0) (h1 : w.cell? ⟨b1, 0, none⟩ = some (.pointer (some ⟨br, 0, none⟩))) (hr : readU l = none) :
    Calls Try.prog 85 #[.pointer (some ⟨b1, 0, none⟩), .pointer (some ⟨b2, 0, none⟩)] w fun en w' => en = .returned (.int .i64 11) ∧ Keeps [] w w' := by
  obtain ⟨c0, c1, f0, f1, hlt⟩ := cell2_of h.1
  rcases h.2.cases with ⟨rfl, a, cp, rfl, _, _⟩ | ⟨g, o, cp, rfl, hn, hm, hp, hg, hc⟩
  · clear h hr
    go_enter Try.func85, Try.ntmps85
    go_wp2
    (refine wp_region_quiet_lit (by kernel_rfl) (by kernel_rfl) ?_; (repeat (first | go_big_quiet_step (fail) | quiet_step (fail))); with_reducible refine wpQuiet_nil ?_; intro _ hw'; obtain ⟨nq, hw''⟩ := hw'; subst hw'')
    go_wp2
    go_ret
    exact ⟨rfl, (Keeps.refl _ _).drewN _⟩
  · obtain ⟨k, t, rfl⟩ : ∃ k t, l = k :: t := by cases l with | nil => simp at hp | cons k t => exact ⟨k, t, rfl⟩
    have k0 := hc 0 (by simp)
    have k1 : 0 < t.length → w.cell? ⟨g, o + 1, none⟩ = some (.int .u8 ((t.headD 1).toNat : Int)) := fun ht => by
      have := hc 1 (by simp; omega)
      rw [this]; cases t with | nil => simp at ht | cons a b => rfl
    simp only [Nat.add_zero, List.getElem_cons_zero] at k0
    clear hc h hp
    have hcond : ¬ (k.toNat ≤ 8 ∧ k.toNat ≤ t.length ∧ (0 < k.toNat → t.headD 1 ≠ 0)) := fun hh => by
      rw [readU, if_pos hh] at hr; cases hr
    clear hr
    have hk := k.toNat_lt
    simp only [List.length_cons] at *
    generalize (t.headD 1) = t0 at *
    generalize k.toNat = kk at *
    generalize t.length = N at *
    have hNN : (N : Int) + 1 ≤ 9223372036854775807 := by unfold maxLen at hm; omega
    by_cases h8 : kk ≤ 8
    · have d8 : decide ((8 : Int) < (kk : Int)) = false := by simp; omega
      by_cases hN : kk ≤ N
      · have dN : decide ((N : Int) + 1 ≤ (kk : Int)) = false := by simp; omega
        have hk0 : 0 < kk := by
          rcases Nat.eq_zero_or_pos kk with e | e
          · exact absurd ⟨h8, hN, fun h => by omega⟩ hcond
          · exact e
        have dk : (0 : Int) < (kk : Int) := by omega
        have ht0 : t0 = 0 := by
          rcases Classical.em (t0 = 0) with e | e
          · exact e
          · exact absurd ⟨h8, hN, fun _ => e⟩ hcond
        subst ht0
        have k1' := k1 (by omega)
        simp at k1'
        clear hcond k1
        go_enter Try.func85, Try.ntmps85
        go_wp2
        (refine wp_region_quiet_lit (by kernel_rfl) (by kernel_rfl) ?_; (repeat (first | go_big_quiet_step (fail) | quiet_step (fail))); with_reducible refine wpQuiet_nil ?_; intro _ hw'; obtain ⟨nq, hw''⟩ := hw'; subst hw'')
        go_wp2
        go_ret
        exact ⟨rfl, (Keeps.refl _ _).drewN _⟩
      · have dN : (N : Int) + 1 ≤ (kk : Int) := by omega
        clear hcond k1
        go_enter Try.func85, Try.ntmps85
        go_wp2
        (refine wp_region_quiet_lit (by kernel_rfl) (by kernel_rfl) ?_; (repeat (first | go_big_quiet_step (fail) | quiet_step (fail))); with_reducible refine wpQuiet_nil ?_; intro _ hw'; obtain ⟨nq, hw''⟩ := hw'; subst hw'')
        go_wp2
        go_ret
        exact ⟨rfl, (Keeps.refl _ _).drewN _⟩
    · have d8 : (8 : Int) < (kk : Int) := by omega
      clear hcond k1
      go_enter Try.func85, Try.ntmps85
      go_wp2
      (refine wp_region_quiet_lit (by kernel_rfl) (by kernel_rfl) ?_; (repeat (first | go_big_quiet_step (fail) | quiet_step (fail))); with_reducible refine wpQuiet_nil ?_; intro _ hw'; obtain ⟨nq, hw''⟩ := hw'; subst hw'')
      go_wp2
      go_ret
      exact ⟨rfl, (Keeps.refl _ _).drewN _⟩

end Go.Proofs.Ythfdngjbcgkkfaa

namespace Go.Proofs.Ythfdngjbcgkkfaa
open Go.RowKit

theorem set2_0 {w : World} {b : Nat} {u v : Value} {t : TypeId} (h : w.heap[b]? = some (.cells #[u, v] t (0, 0))) (u' : Value) : (w.setCell ⟨b, 0, none⟩ u').heap[b]? = some (.cells #[u', v] t (0, 0)) := by
  obtain ⟨hlt, hk⟩ := Array.getElem?_eq_some_iff.1 h
  simp [World.setCell, Array.getElem?_modify, h]
theorem set2_1 {w : World} {b : Nat} {u v : Value} {t : TypeId} (h : w.heap[b]? = some (.cells #[u, v] t (0, 0))) (v' : Value) : (w.setCell ⟨b, 1, none⟩ v').heap[b]? = some (.cells #[u, v'] t (0, 0)) := by
  obtain ⟨hlt, hk⟩ := Array.getElem?_eq_some_iff.1 h
  simp [World.setCell, Array.getElem?_modify, h]
/-- One byte more, as the machine reckons it. -/
theorem or_byte (x y : Nat) (hx : (x : Int) < 72057594037927936) (hy : (y : Int) ≤ 255) : bits .or .u64 ((x : Int) * 256) (y : Int) = ((x * 256 + y : Nat) : Int) := by
  have h := u64_or_nat (x * 256) y (by omega) (by omega)
  have h2 : x * 256 + y = x * 256 ||| y := by
    have := Nat.shiftLeft_add_eq_or_of_lt (i := 8) (b := y) (by omega) x
    simpa [Nat.shiftLeft_eq] using this
  rw [h2, ← h]; simp

theorem rd_nobyte {w : World} {br : Nat} {v : Value} {l : List UInt8} {e : Int} (h : Rd w br v l e) : ∀ o x, w.cell? ⟨br, o, none⟩ ≠ some (.int .u8 x) := by
  obtain ⟨a, c, rfl⟩ := h.2.form
  exact no_byte h.1 (by simp)
theorem rd_tail (w wr : World) (br b2 g o N cp : Nat) (k : UInt8) (t : List UInt8) (j : Nat) (h : Rd w br (.slice (some ⟨g, o, none⟩) (t.length + 1) cp) (k :: t) 0) (hk : Keeps [b2] w wr)
    (hb : wr.heap[b2]? = some (.cells #[.int .u64 (valU (t.take j))] 24 (0, 0))) (hb0 : w.heap[b2]? = some (.cells #[.int .u64 0] 24 (0, 0))) (hN : t.length = N) (hj : j ≤ N) (hbr : br ≠ b2) :
    (wr.setCell ⟨br, 0, none⟩ (.slice (if cp = 1 + j then some ⟨g, o, none⟩ else some ⟨g, o + (1 + j), none⟩) (N + 1 - (1 + j)) (cp - (1 + j)))).drew.heap[b2]? = some (.cells #[.int .u64 (valU (t.take j))] 24 (0, 0)) ∧
    (∃ v', Rd (wr.setCell ⟨br, 0, none⟩ (.slice (if cp = 1 + j then some ⟨g, o, none⟩ else some ⟨g, o + (1 + j), none⟩) (N + 1 - (1 + j)) (cp - (1 + j)))).drew br v' (t.drop j) 0) ∧
    Keeps [br, b2] w (wr.setCell ⟨br, 0, none⟩ (.slice (if cp = 1 + j then some ⟨g, o, none⟩ else some ⟨g, o + (1 + j), none⟩) (N + 1 - (1 + j)) (cp - (1 + j)))).drew := by
  subst hN
  obtain ⟨q0, _, _, _, hlt⟩ := cell2_of h.1
  have hbr' := (hk.block br hlt (by simp; omega)).trans h.1
  have htl := SlV.tail h.2 (1 + j) (by simp; omega)
  have hk2 : Keeps [br, b2] w wr := hk.mono (fun x hx => by simp at hx; simp [hx])
  have hkb : KV w wr := hk.kv (by intro b hb; simp at hb; subst hb; exact no_byte hb0 (by simp)) (by intro b hb cs hc; simp at hb; subst hb; rw [hb0] at hc; simp only [Option.some.injEq, Obj.cells.injEq] at hc; exact absurd hc.2.1 (by decide))
  refine ⟨?_, ⟨_, ⟨set2_0 hbr' _, ?_⟩⟩, (hk2.setCell (.inr (by simp)) _).drew⟩
  · exact (Below.heap_setCell _ _ _ _ (by simp; omega)).trans hb
  · simp only [List.length_cons, Nat.add_comm 1 j, List.drop_succ_cons] at htl ⊢
    exact htl.kv (hkb.trans ((KV.setCell wr _ (cell2_of hbr').1 (by simp)).trans (KV.drew _)))

set_option maxRecDepth 100000 in
set_option maxHeartbeats 2000000 in
theorem uint1_ok (w : World) (br b1 b2 : Nat) (v : Value) (l rest : List UInt8) (x : Nat) (h : Rd w br v l 0) (h1 : w.cell? ⟨b1, 0, none⟩ = some (.pointer (some ⟨br, 0, none⟩))) (h2 : w.heap[b2]? = some (.cells #[.int .u64 0] 24 (0, 0)))
    (hne : b1 ≠ b2 ∧ br ≠ b2) (hr : readU l = some (x, rest)) :
    Calls Try.prog 85 #[.pointer (some ⟨b1, 0, none⟩), .pointer (some ⟨b2, 0, none⟩)] w fun en w' => en = .returned (.int .i64 0) ∧ w'.heap[b2]? = some (.cells #[.int .u64 x] 24 (0, 0)) ∧ (∃ v', Rd w' br v' rest 0) ∧ Keeps [br, b2] w w' := by
  obtain ⟨c0, c1, f0, f1, hlt⟩ := cell2_of h.1
  obtain ⟨e0, fe0, hlt2⟩ := cell1_of h2
  rcases h.2.cases with ⟨rfl, a, cp, rfl, _, _⟩ | ⟨g, o, cp, rfl, hn, hm, hp, hg, hc⟩
  · cases hr
  · obtain ⟨k, t, rfl⟩ : ∃ k t, l = k :: t := by cases l with | nil => simp at hp | cons k t => exact ⟨k, t, rfl⟩
    have k0 := hc 0 (by simp)
    have hgb : g ≠ b2 := fun e => by subst e; exact no_byte h2 (by simp) _ _ k0
    have k1 : 0 < t.length → w.cell? ⟨g, o + 1, none⟩ = some (.int .u8 ((t.headD 1).toNat : Int)) := fun ht => by
      have := hc 1 (by simp; omega)
      rw [this]; cases t with | nil => simp at ht | cons a b => rfl
    have kj : ∀ j (hj : j < t.length), w.cell? ⟨g, o + 1 + j, none⟩ = some (.int .u8 (t[j].toNat : Int)) := fun j hj => by
      have := hc (j + 1) (by simp; omega)
      rw [show o + 1 + j = o + (j + 1) by omega, this]; rfl
    simp only [Nat.add_zero, List.getElem_cons_zero] at k0
    clear hc hp
    have hcond : k.toNat ≤ 8 ∧ k.toNat ≤ t.length ∧ (0 < k.toNat → t.headD 1 ≠ 0) := by
      rcases Classical.em (k.toNat ≤ 8 ∧ k.toNat ≤ t.length ∧ (0 < k.toNat → t.headD 1 ≠ 0)) with e | e
      · exact e
      · rw [readU, if_neg e] at hr; cases hr
    rw [readU, if_pos hcond] at hr
    simp only [Option.some.injEq, Prod.mk.injEq] at hr
    obtain ⟨h8, hN, ht0⟩ := hcond
    obtain ⟨hx, hrest⟩ := hr
    have hk : k.toNat ≤ 255 := by have := k.toNat_lt; omega
    have hh := Lib.hid h
    have hh2 := Lib.hid h2
    replace hx := Lib.hid hx
    replace hrest := Lib.hid hrest
    replace kj := Lib.hid kj
    clear h h2
    simp only [List.length_cons] at *
    obtain ⟨t0, htt0⟩ : ∃ t0, t.headD 1 = t0 := ⟨_, rfl⟩
    rw [htt0] at k1 ht0
    clear htt0
    obtain ⟨kk, hkk⟩ : ∃ kk, k.toNat = kk := ⟨_, rfl⟩
    rw [hkk] at k0 h8 hN ht0 hk hx hrest
    clear hkk
    obtain ⟨N, hNt⟩ : ∃ N, t.length = N := ⟨_, rfl⟩
    rw [hNt] at hN k1 hn c0
    replace hNt := Lib.hid hNt
    have hNN : (N : Int) + 1 ≤ 9223372036854775807 := by unfold maxLen at hm; omega
    have d8 : decide ((8 : Int) < (kk : Int)) = false := by simp; omega
    have nz : ((N : Int) + 1 == 0) = false := by simp; omega
    have wk : IntKind.i64.wrap (kk : Int) = kk := IntWalk.i64_in _ (by omega)
    have dN : decide ((N : Int) + 1 ≤ (kk : Int)) = false := by simp; omega
    have hfacts : (∃ _ : (0 : Int) < (kk : Int), 0 < kk ∧ w.cell? ⟨g, o + 1, none⟩ = some (.int .u8 (t0.toNat : Int)) ∧ ((t0.toNat : Int) == 0) = false) ∨ (decide ((0 : Int) < (kk : Int)) = false ∧ decide (0 < kk) = false) := by
      by_cases hk0 : 0 < kk
      · refine .inl ⟨by omega, hk0, k1 (by omega), ?_⟩
        have := ht0 hk0
        have h9 : t0.toNat ≠ 0 := fun e => this (UInt8.toNat_inj.1 (by simpa using e))
        simp; omega
      · exact .inr ⟨by simp; omega, by simp; omega⟩
    clear ht0 k1
    have hcp : 1 < cp ∨ (cp = 1 ∧ N = 0 ∧ kk = 0) := by omega
    rcases hcp with hcp | ⟨hcp1, hcp2, hcp3⟩
    · rcases hfacts with ⟨dk, hk0, k1', t0n⟩ | ⟨dk, dk2⟩
      all_goals
        go_enter Try.func85, Try.ntmps85
        go_wp2
        (refine wp_region_quiet_lit (by kernel_rfl) (by kernel_rfl) ?_; (repeat (first | go_big_quiet_step (fail) | quiet_step (fail))); with_reducible refine wpQuiet_nil ?_; intro _ hw'; obtain ⟨nq, hw''⟩ := hw'; subst hw'')
        go_wp2
        go_loopw [5, 69] (fun _ i wr => ∃ j : Nat, j ≤ kk ∧ i = .int .i64 j ∧ wr.heap[b2]? = some (.cells #[.int .u64 (valU (t.take j))] 24 (0, 0)) ∧ Keeps [b2] w wr) (fun _ i _ => kk - (intOf i).toNat)
        case atStart => exact ⟨0, by omega, rfl, hh2.out, (Keeps.refl _ w).drewN _⟩
        case round =>
          obtain ⟨j, hj, rfl, hb2, hkw⟩ := hrel
          obtain ⟨eb, fb, lb⟩ := cell1_of hb2
          have q0 := (hkw.cell br 0 hlt (by simp; omega)).trans c0
          have q1 := (hkw.frozen br 0 hlt (by simp; omega)).trans f0
          have q2 := (hkw.cell b1 0 (lt_of_cell h1) (by simp; omega)).trans h1
          have hvl := valU_lt j (t.take j) (by rw [List.length_take]; have := hNt.out; omega)
          by_cases hlt3 : j < kk
          · have hjt : j < t.length := by have := hNt.out; omega
            have hcj := (hkw.cell g (o + 1 + j) hg (by simp; omega)).trans (kj.out j hjt)
            have hb8 : (t[j].toNat : Int) ≤ 255 := by have := t[j].toNat_lt; omega
            have hstep : Hid (valU (t.take (j + 1)) = valU (t.take j) * 256 + t[j].toNat) := by show _ = _; rw [List.take_succ_eq_append_getElem hjt, valU_snoc]
            have hvb : (valU (t.take j) : Int) < 72057594037927936 := by
              have : (256 : Nat) ^ j ≤ 256 ^ 7 := Nat.pow_le_pow_right (by omega) (by omega)
              omega
            clear hvl
            generalize t[j].toNat = y at *
            generalize hvv : valU (t.take j) = vv at *
            replace hb2 := Lib.hid hb2
            replace hkw := Lib.hid hkw
            replace hvv := Lib.hid hvv
            go_wp2
            go_roundw
            case rel => exact ⟨j + 1, by omega, by go_num, by rw [or_byte _ _ hvb hb8, hstep.out]; exact one_setCell hb2.out, hkw.out.setCell (.inr (by simp)) _⟩
            case measure => simp [intOf]; omega
          · have hjk : j = kk := by omega
            subst hjk
            replace hb2 := Lib.hid hb2
            replace hkw := Lib.hid hkw
            clear hvl
            go_wp2
            go_region
            have hfin := rd_tail w wr br b2 g o N cp k t j hh.out hkw.out hb2.out hh2.out hNt.out hN (by omega)
            rw [hx.out, hrest.out] at hfin
            generalize hW : (wr.setCell ⟨br, 0, none⟩ (.slice (if cp = 1 + j then some ⟨g, o, none⟩ else some ⟨g, o + (1 + j), none⟩) (N + 1 - (1 + j)) (cp - (1 + j)))).drew = W at *
            replace hfin := Lib.hid hfin
            clear hW
            (repeat go_step)
            go_ret
            exact ⟨rfl, hfin.out⟩
    · clear hfacts
      subst hcp1 hcp2 hcp3
      have k0' : w.cell? ⟨g, o, none⟩ = some (.int .u8 0) := by simpa using k0
      simp only [Nat.zero_add] at c0
      have c0' : w.cell? ⟨br, 0, none⟩ = some (.slice (some ⟨g, o, none⟩) 1 1) := c0
      clear hk h8 k0 d8 dN wk c0 nz hm hn hN hNN
      go_enter Try.func85, Try.ntmps85
      go_wp2
      (refine wp_region_quiet_lit (by kernel_rfl) (by kernel_rfl) ?_; (repeat (first | go_big_quiet_step (fail) | quiet_step (fail))); with_reducible refine wpQuiet_nil ?_; intro _ hw'; obtain ⟨nq, hw''⟩ := hw'; subst hw'')
      go_wp2
      go_loopw [5, 69] (fun _ i wr => i = .int .i64 0 ∧ ∃ n, wr = w.drewN n) (fun _ i _ => 0)
      case atStart => exact ⟨rfl, _, rfl⟩
      case round =>
        obtain ⟨rfl, n, rfl⟩ := hrel
        have hkw : Keeps [b2] w (w.drewN n) := (Keeps.refl _ w).drewN n
        have hfin := rd_tail w (w.drewN n) br b2 g o 0 1 k t 0 hh.out hkw (by simpa [valU] using hh2.out) hh2.out hNt.out (by omega) hne.2
        rw [hx.out, hrest.out] at hfin
        simp only [Nat.add_zero, if_true, Nat.zero_add, Nat.sub_self] at hfin
        clear hkw
        replace hfin := Lib.hid hfin
        go_wp2
        go_region
        (repeat go_step)
        go_ret
        exact ⟨rfl, hfin.out⟩
end Go.Proofs.Ythfdngjbcgkkfaa
