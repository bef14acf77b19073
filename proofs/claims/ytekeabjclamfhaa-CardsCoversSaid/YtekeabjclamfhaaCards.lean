/- The contracts of package cards' functions and of the small reference functions. -/
import Derived.Test.YtekeabjclamfhaaRows
import Derived.Test.YtekeabjclamfhaaSet
import Derived.Shelf.SlMaps.Clone
import Derived.Lib.Hide
namespace Go.Proofs.Ytekeabjclamfhaa
open Go.RowKit Go.Maps

theorem lawI : Keyed Try.prog 3 := int_keyed Try.underlying3
theorem zeroB (w : World) : (zeroValue 4).run Try.prog w = .ok (.bool false) w := by kernel_rfl

def oldB (a : Int) : Bool := decide (0 ≤ a) && decide (a < 16777216)

/-- The table behind the pointer to block `bt`: its map is block `bm`, its keys are `S`. -/
structure Tab (w : World) (bt bm : Nat) (S : List Int) : Prop where
  cell : w.cell? ⟨bt, 0, none⟩ = some (.map (some bm))
  own : w.ownsMap Try.prog 3 (plainElem Try.prog 4) bm S.length (encD S)
  asc : Asc S
  rng : ∀ x ∈ S, 0 ≤ x ∧ x < 1048576

theorem asc_len {M : Int} : ∀ {S : List Int} {a : Int}, Asc S → (∀ x ∈ S, a ≤ x ∧ x < M) → a ≤ M → (S.length : Int) ≤ M - a
  | [], a, _, _, h => by simp; omega
  | x :: r, a, h, hm, _ => by
    obtain ⟨h1, h2⟩ := List.pairwise_cons.1 h
    have hx := hm x (by simp)
    have := asc_len (M := M) (a := x + 1) h2 (fun y hy => ⟨by have := h1 y hy; omega, (hm y (by simp [hy])).2⟩) (by omega)
    simp; omega
theorem Tab.len {w : World} {bt bm : Nat} {S : List Int} (h : Tab w bt bm S) : S.length ≤ 1048576 := by
  have := asc_len (M := 1048576) (a := 0) h.asc h.rng (by omega)
  omega
theorem Tab.tight {w : World} {b n : Nat} {S : List Int} (h : w.ownsMap Try.prog 3 (plainElem Try.prog 4) b n (encD S)) : w.ownsMap Try.prog 3 (plainElem Try.prog 4) b S.length (encD S) := by
  obtain ⟨es, c, hb, F, _, hD⟩ := h
  refine ⟨es, c, hb, F, ?_, hD⟩
  have := congrArg Maps.size hD
  rw [size_enc] at this
  simp only [Maps.size, length_sorted, List.length_map, Array.length_toList] at this
  omega
theorem Tab.ne {w : World} {bt bm : Nat} {S : List Int} (h : Tab w bt bm S) : bt ≠ bm := fun e => by
  subst e
  have := h.cell
  rw [owns_no_cells h.own] at this
  cases this
theorem Tab.lt {w : World} {bt bm : Nat} {S : List Int} (h : Tab w bt bm S) : bt < w.heap.size ∧ bm < w.heap.size := ⟨lt_of_cell h.cell, h.own.lt⟩
theorem Tab.keep {w w' : World} {bt bm : Nat} {S T : _} (h : Tab w bt bm S) (hk : Keeps T w w') (h1 : bt ∉ T) (h2 : bm ∉ T) : Tab w' bt bm S :=
  ⟨by rw [hk.cell bt 0 h.lt.1 h1]; exact h.cell, owns_keep h.own hk h2, h.asc, h.rng⟩
theorem key_wf {a : Int} (h0 : 0 ≤ a) (h : a < 16777216) : (Lit.int .i64 (a / 16)).wf = true := WalkArith.wf_i64 (by omega)

set_option maxHeartbeats 400000 in
theorem new_c (w : World) : Calls Try.prog 16 #[] w fun e w' => ∃ bt bm, e = .returned (.pointer (some ⟨bt, 0, none⟩)) ∧ Tab w' bt bm [] ∧ Keeps [] w w' ∧ w.heap.size ≤ bt ∧ w.heap.size ≤ bm := by
  have hmm := @run_makeMap Try.prog
  go_enter Try.func16, Try.ntmps16
  go_wp2
  go_ret
  refine ⟨w.heap.size + 1, w.heap.size, rfl, ⟨by simp, ?_, by simp [Asc], by simp⟩, (((Keeps.refl _ w).alloc _).alloc _), by omega, by omega⟩
  exact (World.ownsMap_made w _ _ _).alloc _

theorem old_c (a : Int) (w : World) : Calls Try.prog 24 #[.int .i64 a] w fun e w' => e = .returned (.bool (oldB a)) ∧ w = w' := by
  by_cases h0 : 0 ≤ a
  · by_cases h1 : a < 16777216
    · go_enter Try.func24, Try.ntmps24
      go_wp2
      go_ret
      exact ⟨by simp [oldB, h0, h1], rfl⟩
    · go_enter Try.func24, Try.ntmps24
      go_wp2
      go_ret
      exact ⟨by simp [oldB, h0, h1], rfl⟩
  · go_enter Try.func24, Try.ntmps24
    go_wp2
    go_ret
    exact ⟨by simp [oldB]; omega, rfl⟩
theorem oldr_c (a : Int) (w : World) : Calls Try.prog 22 #[.int .i64 a] w fun e w' => e = .returned (.bool (oldB a)) ∧ w = w' := by
  by_cases h0 : 0 ≤ a
  · by_cases h1 : a < 16777216
    · go_enter Try.func22, Try.ntmps22
      go_wp2
      go_ret
      exact ⟨by simp [oldB, h0, h1], rfl⟩
    · go_enter Try.func22, Try.ntmps22
      go_wp2
      go_ret
      exact ⟨by simp [oldB, h0, h1], rfl⟩
  · go_enter Try.func22, Try.ntmps22
    go_wp2
    go_ret
    exact ⟨by simp [oldB]; omega, rfl⟩
theorem oldB_iff {a : Int} : oldB a = true ↔ 0 ≤ a ∧ a < 16777216 := by simp [oldB]

set_option maxHeartbeats 400000 in
theorem mark_yes (a : Int) (w : World) (bt bm : Nat) (S : List Int) (h : Tab w bt bm S) (h0 : 0 ≤ a) (h1 : a < 16777216) :
    Calls Try.prog 17 #[.pointer (some ⟨bt, 0, none⟩), .int .i64 a] w fun e w' => e = .returned (.int .i64 0) ∧ Tab w' bt bm (ins (a / 16) S) ∧ Keeps [bm] w w' := by
  have hc := h.cell
  have hown := h.own
  have hlen := h.len
  have ho : Hid (oldB a = true) := oldB_iff.2 ⟨h0, h1⟩
  go_enter Try.func17, Try.ntmps17
  go_wp2_with (first
    | (go_at_call 24; refine (old_c _ _).mono ?_; rw [ho.out]; rintro e w' ⟨rfl, rfl⟩)
    | (at_mapUpdate; refine wpList_mapUpdate_own _ rfl _ _ _ 51 rfl 3 4 lawI Try.underlying51 _ bm S.length _ rfl hown (by unfold maxLen; omega) _ _ _ rfl rfl (keyOf_int_mk Try.underlying3 (key_wf h0 h1)) _ [] (plainElem_bool Try.underlying4 true) ?_; intro w1 hown1 hgrow1))
  go_ret
  rw [put_enc h.asc] at hown1
  have hk := Keeps.of_grown hgrow1
  refine ⟨rfl, ⟨?_, Tab.tight hown1, asc_ins h.asc, fun x hx => ?_⟩, hk⟩
  · rw [hk.cell bt 0 h.lt.1 (by simpa using h.ne)]; exact h.cell
  · rcases mem_ins.1 hx with rfl | hx
    · omega
    · exact h.rng x hx
set_option maxHeartbeats 400000 in
theorem mark_no (a : Int) (w : World) (bt : Nat) (h1 : oldB a = false) :
    Calls Try.prog 17 #[.pointer (some ⟨bt, 0, none⟩), .int .i64 a] w fun e w' => e = .returned (.int .i64 2) ∧ w = w' := by
  have ho : Hid (oldB a = false) := h1
  clear h1
  go_enter Try.func17, Try.ntmps17
  go_wp2_with (first
    | (go_at_call 24; refine (old_c _ _).mono ?_; rw [ho.out]; rintro e w' ⟨rfl, rfl⟩))
  go_ret
  exact ⟨rfl, rfl⟩

def markC (a : Int) : Int := if oldB a then 0 else 2
def markS (a : Int) (S : List Int) : List Int := if oldB a then ins (a / 16) S else S
theorem mark_c (a : Int) (w : World) (bt bm : Nat) (S : List Int) (h : Tab w bt bm S) :
    Calls Try.prog 17 #[.pointer (some ⟨bt, 0, none⟩), .int .i64 a] w fun e w' => e = .returned (.int .i64 (markC a)) ∧ Tab w' bt bm (markS a S) ∧ Keeps [bm] w w' := by
  unfold markC markS
  cases ho : oldB a
  · refine (mark_no a w bt ho).mono ?_
    rintro e w' ⟨rfl, rfl⟩
    exact ⟨rfl, h, Keeps.refl _ _⟩
  · obtain ⟨h0, h1⟩ := oldB_iff.1 ho
    exact mark_yes a w bt bm S h h0 h1

/-- What an empty map reads as. -/
theorem owns_empty {w : World} {P : Program} {k : TypeId} {R : Value → Option (DataW Unit × List MemPlace)} {b clock : Nat} (hb : w.heap[b]? = some (.map #[] clock)) : w.ownsMap P k R b 0 (encD []) :=
  ⟨#[], clock, hb, ⟨by simp, by simp [Go.MapKept.Stamped], by simp⟩, Nat.le_refl _, rfl⟩

theorem run_clear {P : Program} {t k e : TypeId} (ht : P.underlying t = some (.map k e)) (ty : TypeId) {w : World} {b : Nat} {es : Array MapEntry} {clock : Nat} (hb : w.heap[b]? = some (.map es clock)) :
    ∃ w', (Builtin.clear_ #[t] ty #[.map (some b)]).run P w = .ok (.tuple #[]) w' ∧ w'.heap[b]? = some (.map #[] clock) ∧ w.grownBy w' (some b) := by
  have hlt := (Array.getElem?_eq_some_iff.1 hb).1
  refine ⟨{ w with heap := w.heap.setIfInBounds b (.map #[] clock) }, ?_, ?_, ⟨rfl, rfl, rfl, by simp, fun k hk hne => ?_⟩⟩
  · simp [Builtin.clear_, run_underlying ht, MapKept.run_getObj_map hb, Result.andThen, setObj, Sem.run, hb]
  · simp [hlt]
  · have : b ≠ k := fun e => hne (by rw [e])
    simp [Array.getElem?_setIfInBounds_ne this]

set_option maxHeartbeats 400000 in
theorem clear_c (w : World) (bt bm : Nat) (S : List Int) (h : Tab w bt bm S) :
    Calls Try.prog 19 #[.pointer (some ⟨bt, 0, none⟩)] w fun e w' => e = .returned (.tuple #[]) ∧ Tab w' bt bm [] ∧ Keeps [bm] w w' := by
  have hc := h.cell
  obtain ⟨es, clock, hb, _⟩ := h.own
  obtain ⟨w1, hrun, hb1, hg⟩ := run_clear Try.underlying51 0 hb
  go_enter Try.func19, Try.ntmps19
  go_wp2
  go_end0
  have hk := Keeps.of_grown hg
  exact ⟨rfl, ⟨by rw [hk.cell bt 0 h.lt.1 (by simpa using h.ne)]; exact h.cell, owns_empty hb1, by simp [Asc], by simp⟩, hk⟩

theorem Tab.lookup {w : World} {b n : Nat} {S : List Int} (h : w.ownsMap Try.prog 3 (plainElem Try.prog 4) b n (encD S)) {c : Int} (hw : (Lit.int .i64 c).wf = true) :
    (Instr.lookup 51 (.map (some b)) (.int .i64 c) false).run Try.prog w = .ok (.bool (decide (c ∈ S))) w := by
  obtain ⟨v, ps, hrun, hv⟩ := h.lookup lawI Try.underlying51 (zeroB w) (plainElem_bool Try.underlying4 false) (keyOf_int_mk Try.underlying3 hw)
  rw [atKey_enc] at hv
  rw [hrun]
  have : v = .bool (decide (c ∈ S)) := by
    unfold plainElem at hv
    rw [Try.underlying4] at hv
    cases v <;> simp at hv
    simp [hv.1]
  rw [this]

set_option maxHeartbeats 400000 in
theorem marked_c (a : Int) (w : World) (bt bm : Nat) (S : List Int) (h : Tab w bt bm S) :
    Calls Try.prog 12 #[.pointer (some ⟨bt, 0, none⟩), .int .i64 a] w fun e w' => e = .returned (.bool (oldB a && decide (a / 16 ∈ S))) ∧ w = w' := by
  have hc := h.cell
  by_cases ho : oldB a = true
  · obtain ⟨h0, h1⟩ := oldB_iff.1 ho
    have hl := Tab.lookup h.own (key_wf h0 h1)
    have ho : Hid (oldB a = true) := ho
    go_enter Try.func12, Try.ntmps12
    go_wp2_with (first
      | (go_at_call 24; refine (old_c _ _).mono ?_; rw [ho.out]; rintro e w' ⟨rfl, rfl⟩))
    go_ret
    exact ⟨by rw [ho.out]; simp, rfl⟩
  · have ho : oldB a = false := by simpa using ho
    have ho : Hid (oldB a = false) := ho
    go_enter Try.func12, Try.ntmps12
    go_wp2_with (first
      | (go_at_call 24; refine (old_c _ _).mono ?_; rw [ho.out]; rintro e w' ⟨rfl, rfl⟩))
    go_ret
    exact ⟨by rw [ho.out]; simp, rfl⟩

def lowC (c : Int) : Int := if c < 0 ∨ 1048576 ≤ c then 0 else 16 * c
def highC (c : Int) : Int := if c < 0 ∨ 1048576 ≤ c then 0 else 16 * c + 16
set_option maxHeartbeats 400000 in
theorem range_c (c : Int) (p : Value) (w : World) :
    Calls Try.prog 14 #[p, .int .i64 c] w fun e w' => e = .returned (.tuple #[.int .i64 (lowC c), .int .i64 (highC c)]) ∧ w = w' := by
  by_cases h0 : c < 0
  · go_enter Try.func14, Try.ntmps14
    go_wp2
    go_ret2
    exact ⟨by simp [lowC, highC, h0], rfl⟩
  · by_cases h1 : 1048576 ≤ c
    · go_enter Try.func14, Try.ntmps14
      go_wp2
      go_ret2
      exact ⟨by simp [lowC, highC, h1], rfl⟩
    · have e1 : lowC c = c * 16 := by unfold lowC; rw [if_neg (by omega)]; omega
      have e2 : highC c = (c + 1) * 16 := by unfold highC; rw [if_neg (by omega)]; omega
      go_enter Try.func14, Try.ntmps14
      go_wp2
      go_ret2
      exact ⟨rfl, rfl⟩
set_option maxHeartbeats 400000 in
theorem ranger_c (c : Int) (w : World) :
    Calls Try.prog 15 #[.int .i64 c] w fun e w' => e = .returned (.tuple #[.int .i64 (lowC c), .int .i64 (highC c)]) ∧ w = w' := by
  by_cases h0 : c < 0
  · go_enter Try.func15, Try.ntmps15
    go_wp2
    go_ret2
    exact ⟨by simp [lowC, highC, h0], rfl⟩
  · by_cases h1 : 1048576 ≤ c
    · go_enter Try.func15, Try.ntmps15
      go_wp2
      go_ret2
      exact ⟨by simp [lowC, highC, h1], rfl⟩
    · have e1 : lowC c = 16 * c := by unfold lowC; rw [if_neg (by omega)]
      have e2 : highC c = 16 * c + 16 := by unfold highC; rw [if_neg (by omega)]
      go_enter Try.func15, Try.ntmps15
      go_wp2
      go_ret2
      exact ⟨rfl, rfl⟩

set_option maxHeartbeats 400000 in
theorem mclone_c (b : Nat) (es : Array MapEntry) (clock : Nat) (w : World) (hb : w.heap[b]? = some (.map es clock)) :
    Calls Try.prog 26 #[.map (some b)] w fun e w' => e = .returned (.map (some w.heap.size)) ∧ w' = w.alloc (.map es clock) := by
  have hq := fun w => run_eql_map_nil_sl (P := Try.prog) w 51 _ _ (some b) Try.underlying51
  go_enter Try.func26, Try.ntmps26
  go_wp2
  rw [run_callFunc_extern Try.func29 (by kernel_rfl) (by kernel_rfl) (by kernel_rfl) (e := Extern.MapsClone.clone) (by kernel_rfl), run_maps_clone_sl w 51 hb]
  simp only [Result.andThen]
  rw [Oper.upon_value]
  go_wp2
  rw [run_typeAssert_map_sl _ 51 _ _ _ _ Try.underlying51]
  simp only [Result.andThen]
  rw [Oper.upon_value]
  go_wp2
  go_ret
  exact ⟨rfl, rfl⟩

set_option maxHeartbeats 400000 in
theorem clone_c (w : World) (bt bm : Nat) (S : List Int) (h : Tab w bt bm S) :
    Calls Try.prog 21 #[.pointer (some ⟨bt, 0, none⟩)] w fun e w' => ∃ bt' bm', e = .returned (.pointer (some ⟨bt', 0, none⟩)) ∧ Tab w' bt' bm' S ∧ Keeps [] w w' ∧ w.heap.size ≤ bt' ∧ w.heap.size ≤ bm' := by
  have hc := h.cell
  obtain ⟨es, clock, hb, F, hs, hD⟩ := h.own
  go_enter Try.func21, Try.ntmps21
  go_wp2_with (first
    | (go_at_call 26; refine (mclone_c bm es clock _ hb).mono ?_; rintro e w' ⟨rfl, rfl⟩))
  go_ret
  refine ⟨w.heap.size + 1, w.heap.size, rfl, ⟨by simp, ?_, h.asc, h.rng⟩, (((Keeps.refl _ w).alloc _).alloc _), by omega, by omega⟩
  have : (w.alloc (.map es clock)).ownsMap Try.prog 3 (plainElem Try.prog 4) w.heap.size S.length (encD S) := ⟨es, clock, (MapKept.heap_alloc w _).1, F, hs, hD⟩
  exact this.alloc _
end Go.Proofs.Ytekeabjclamfhaa
