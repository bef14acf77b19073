/- Texts that the laws lean on, in the order in which they build. The operations of the reference. The operations of the reference, further: Move, Drop. The reference's Drop. The reference's Walk and New. Lists of lists of numbers. Package migration: Move, Drop, Clone, New. Package migration: Clone, New. A range over a function whose body never leaves early; the function may store into one box of its own. The iterator over the machines of a walk. -/
import Derived.Test.YthhhciofcmmnfaaK2
import Derived.WideKeyEntry
import Derived.Shelf.SlMaps.Clone
import Derived.RangeFuncNested
import Derived.RangeFuncBound
import Derived.RangeFuncCalls
import Derived.RangeFuncLeaves
import Derived.OwnWalkIn
import Derived.TacticsInMore
import Derived.LoopNIn
import Derived.LoopIn
set_option linter.unusedVariables false
set_option linter.unusedSimpArgs false
namespace Go.Proofs.Ythhhciofcmmnfaa
open Go.RowKit

def RefOpPost (w : World) (N : Int) (R : Int → List EntV → Prop) (e : Ending) (w' : World) : Prop := ∃ v' L' c, e = .returned (.tuple #[refV N v', .int .i64 c]) ∧ R c L' ∧ SlE w' v' L' ∧ (∃ p l c, v' = .slice p l c) ∧ Keeps [] w w'
/-- Create. -/
def CreateL (N : Int) (L : List EntV) (x a s : Int) (c : Int) (L' : List EntV) : Prop :=
  (chkB N [x, x] a s = false ∧ c = 1 ∧ L' = L) ∨ (chkB N [x, x] a s = true ∧ ∃ m b, HomeL L a s m b ∧ ((b = true ∧ c = 5 ∧ L' = L) ∨ (b = false ∧ c = 0 ∧ WithR L x a s 0 L')))
set_option maxRecDepth 100000 in
set_option maxHeartbeats 2000000 in
theorem createR_c (w : World) (N : Int) (v : Value) (L : List EntV) (x a s : Int) (h : SlE w v L) (hlen : L.length < 900000) :
    Calls Try.prog 30 #[refV N v, .int .i64 x, idV a s] w (RefOpPost w N (CreateL N L x a s)) := by
  obtain ⟨ad, c, rfl, hlc, hcm, hnn⟩ := h.form
  obtain ⟨M, hM⟩ : ∃ N, L.length = N := ⟨_, rfl⟩
  rw [hM] at hlc hlen ⊢
  obtain ⟨b1, b2, b3, hk0⟩ := three_boxes' w (.cells #[.int .i64 N, .slice ad M c] 27) (.cells #[.int .i64 a, .int .i64 s] 31) zW
  have hS0 := h.keeps hk0
  rw [hM] at hS0
  replace hM := Lib.hid hM
  replace b1 := Lib.hid b1
  replace b2 := Lib.hid b2
  replace b3 := Lib.hid b3
  replace hk0 := Lib.hid hk0
  replace hS0 := Lib.hid hS0
  rw [hM.out] at h
  replace h := Lib.hid h
  go_enter Try.func30, Try.ntmps30
  go_wp2_with fail
  generalize hW : ((w.alloc (.cells #[.int .i64 N, .slice ad M c] 27)).alloc (.cells #[.int .i64 a, .int .i64 s] 31)).alloc zW = W at *
  clear hW
  refine (chkR_c W N x x a s (.slice ad M c) ⟨_, _, _, rfl⟩).mono ?_
  rintro e w1 ⟨rfl, hk1⟩
  obtain ⟨y0, y1⟩ := cells2 ((hk1.block _ (lt_of_block b1.out) (by simp)).trans b1.out)
  obtain ⟨z0, z1⟩ := cells2 ((hk1.block _ (lt_of_block b2.out) (by simp)).trans b2.out)
  have b31 := (hk1.block _ (lt_of_block b3.out) (by simp)).trans b3.out
  obtain ⟨r0, r1⟩ := cells2 b31
  have hrf := frozen2 b31
  have hq := lt_of_block b31
  have hS1 := hS0.out.keeps hk1
  have hk01 := hk0.out.trans hk1
  replace hS1 := Lib.hid hS1
  replace hk01 := Lib.hid hk01
  replace b31 := Lib.hid b31
  clear hk1 hS0 b1 b2 b3 hk0
  rcases chkE_cases N [x, x] a s with ⟨hc, hE⟩ | ⟨hc, hE⟩
  · rw [hE]
    clear hE
    replace hc := Lib.hid hc
    go_wp2_with fail
    refine (homeR_c _ N (.slice ad M c) L a s hS1.out).mono ?_
    rintro e w2 ⟨m, b, rfl, hH, hk2⟩
    replace y0 := hk2.val y0
    replace y1 := hk2.val y1
    replace z0 := hk2.val z0
    replace z1 := hk2.val z1
    have b32 := (hk2.block _ hq (by simp)).trans b31.out
    replace r0 := hk2.val r0
    replace r1 := hk2.val r1
    replace hrf := frozen2 b32
    replace hq := lt_of_block b32
    have hS2 := hS1.out.keeps hk2
    have hk02 := hk01.out.trans hk2
    replace b32 := Lib.hid b32
    replace hS2 := Lib.hid hS2
    replace hk02 := Lib.hid hk02
    clear hk2 b31 hS1 hk01
    replace hH := Lib.hid hH
    cases b with
    | true =>
      go_wp2
      obtain ⟨g1, g2⟩ := set2_all b32.out (.int .i64 N) (.slice ad M c)
      refine bodyPost_ret (results_ref2 rfl _ _ _ _ _ _ _ rfl g1) ?_ ?_
      · rfl
      · exact ⟨_, L, 5, rfl, .inr ⟨hc.out, m, true, hH.out, .inl ⟨rfl, rfl, rfl⟩⟩, h.out.keeps (hk02.out.fresh g2 (fun b hb => .inr (by simp at hb; omega))), ⟨_, _, _, rfl⟩, hk02.out.fresh g2 (fun b hb => .inr (by simp at hb; omega))⟩
    | false =>
      go_wp2_with fail
      refine (with_c _ N (.slice ad M c) L x a s 0 hS2.out (by rw [hM.out]; omega)).mono ?_
      rintro e w3 ⟨v3, L3, rfl, hR3, hS3n, ⟨p3, l3, c3, rfl⟩, hf3, hk3⟩
      replace hf3 : ∀ b, (Value.slice p3 l3 c3).ownBlock = some b → w.heap.size + 1 + 1 < b := fun b e => by have := hf3 b e; omega
      replace hf3 := Lib.hid hf3
      replace y0 := hk3.val y0
      replace y1 := hk3.val y1
      replace z0 := hk3.val z0
      replace z1 := hk3.val z1
      have b33 := (hk3.block _ hq (by simp)).trans b32.out
      replace r0 := hk3.val r0
      replace r1 := hk3.val r1
      replace hrf := frozen2 b33
      replace hq := lt_of_block b33
      have hS3 := hS2.out.keeps hk3
      have hk03 := hk02.out.trans hk3
      replace b33 := Lib.hid b33
      replace hS3 := Lib.hid hS3
      replace hk03 := Lib.hid hk03
      clear hk3 b32 hS2 hk02
      replace hR3 := Lib.hid hR3
      replace hS3n := Lib.hid hS3n
      go_wp2
      obtain ⟨g1, g2⟩ := set2_all b33.out (.int .i64 N) (.slice p3 l3 c3)
      refine bodyPost_ret (results_ref2 rfl _ _ _ _ _ _ _ rfl g1) ?_ ?_
      · rfl
      · exact ⟨_, L3, 0, rfl, .inr ⟨hc.out, m, false, hH.out, .inr ⟨rfl, rfl, hR3.out⟩⟩, hS3n.out.keepS g2 (fun b hb e => by have := hf3.out b e; simp at hb; omega), ⟨_, _, _, rfl⟩, hk03.out.fresh g2 (fun b hb => .inr (by simp at hb; omega))⟩
  · rw [hE]
    clear hE
    replace hc := Lib.hid hc
    go_wp2
    obtain ⟨g1, g2⟩ := set2_all b31.out (.int .i64 N) (.slice ad M c)
    refine bodyPost_ret (results_ref2 rfl _ _ _ _ _ _ _ rfl g1) ?_ ?_
    · rfl
    · exact ⟨_, L, 1, rfl, .inl ⟨hc.out, rfl, rfl⟩, h.out.keeps (hk01.out.fresh g2 (fun b hb => .inr (by simp at hb; omega))), ⟨_, _, _, rfl⟩, hk01.out.fresh g2 (fun b hb => .inr (by simp at hb; omega))⟩
def NoE (L : List EntV) (m a s : Int) : Prop := ∀ e ∈ L, e.is m a s = false
def HasE (L : List EntV) (m a s : Int) : Prop := ∃ e ∈ L, e.is m a s = true
/-- Share. -/
def ShareL (N : Int) (L : List EntV) (x y a s : Int) (c : Int) (L' : List EntV) : Prop :=
  (chkB N [x, y] a s = false ∧ c = 1 ∧ L' = L) ∨ (chkB N [x, y] a s = true ∧ ((NoE L x a s ∧ c = 6 ∧ L' = L) ∨ (HasE L x a s ∧ ((HasE L y a s ∧ c = 0 ∧ L' = L) ∨ (NoE L y a s ∧ c = 0 ∧ WithR L y a s x L')))))
set_option maxRecDepth 100000 in
set_option maxHeartbeats 2000000 in
theorem shareR_c (w : World) (N : Int) (v : Value) (L : List EntV) (x y a s : Int) (h : SlE w v L) (hlen : L.length < 900000) :
    Calls Try.prog 32 #[refV N v, .int .i64 x, .int .i64 y, idV a s] w (RefOpPost w N (ShareL N L x y a s)) := by
  obtain ⟨ad, c, rfl, hlc, hcm, hnn⟩ := h.form
  obtain ⟨M, hM⟩ : ∃ N, L.length = N := ⟨_, rfl⟩
  rw [hM] at hlc hlen ⊢
  obtain ⟨b1, b2, b3, hk0⟩ := three_boxes' w (.cells #[.int .i64 N, .slice ad M c] 27) (.cells #[.int .i64 a, .int .i64 s] 31) zW
  have hS0 := h.keeps hk0
  rw [hM] at hS0
  replace hM := Lib.hid hM
  replace b1 := Lib.hid b1
  replace b2 := Lib.hid b2
  replace b3 := Lib.hid b3
  replace hk0 := Lib.hid hk0
  replace hS0 := Lib.hid hS0
  rw [hM.out] at h
  replace h := Lib.hid h
  go_enter Try.func32, Try.ntmps32
  go_wp2_with fail
  generalize hW : ((w.alloc (.cells #[.int .i64 N, .slice ad M c] 27)).alloc (.cells #[.int .i64 a, .int .i64 s] 31)).alloc zW = W at *
  clear hW
  refine (chkR_c W N x y a s (.slice ad M c) ⟨_, _, _, rfl⟩).mono ?_
  rintro e w1 ⟨rfl, hk1⟩
  obtain ⟨y0, y1⟩ := cells2 ((hk1.block _ (lt_of_block b1.out) (by simp)).trans b1.out)
  obtain ⟨z0, z1⟩ := cells2 ((hk1.block _ (lt_of_block b2.out) (by simp)).trans b2.out)
  have b31 := (hk1.block _ (lt_of_block b3.out) (by simp)).trans b3.out
  obtain ⟨r0, r1⟩ := cells2 b31
  have hrf := frozen2 b31
  have hq := lt_of_block b31
  have hS1 := hS0.out.keeps hk1
  have hk01 := hk0.out.trans hk1
  replace hS1 := Lib.hid hS1
  replace hk01 := Lib.hid hk01
  replace b31 := Lib.hid b31
  clear hk1 hS0 b1 b2 b3 hk0
  rcases chkE_cases N [x, y] a s with ⟨hc, hE⟩ | ⟨hc, hE⟩
  · rw [hE]
    clear hE
    replace hc := Lib.hid hc
    go_wp2_with fail
    refine (find_c _ N (.slice ad M c) L x a s hS1.out).mono ?_
    rintro e w2 ⟨i, rfl, hF, hk2⟩
    replace y0 := hk2.val y0
    replace y1 := hk2.val y1
    replace z0 := hk2.val z0
    replace z1 := hk2.val z1
    have b32 := (hk2.block _ hq (by simp)).trans b31.out
    replace r0 := hk2.val r0
    replace r1 := hk2.val r1
    replace hrf := frozen2 b32
    replace hq := lt_of_block b32
    have hS2 := hS1.out.keeps hk2
    have hk02 := hk01.out.trans hk2
    replace b32 := Lib.hid b32
    replace hS2 := Lib.hid hS2
    replace hk02 := Lib.hid hk02
    clear hk2 b31 hS1 hk01
    rcases hF with ⟨k, hk, rfl, his, hfirst⟩ | ⟨rfl, hnone⟩
    · have hE1 : HasE L x a s := ⟨_, List.getElem_mem hk, his⟩
      replace hE1 := Lib.hid hE1
      clear his hfirst hk
      go_wp2_with fail
      refine (find_c _ N (.slice ad M c) L y a s hS2.out).mono ?_
      rintro e w4 ⟨i, rfl, hF, hk4⟩
      replace y0 := hk4.val y0
      replace y1 := hk4.val y1
      replace z0 := hk4.val z0
      replace z1 := hk4.val z1
      have b34 := (hk4.block _ hq (by simp)).trans b32.out
      replace r0 := hk4.val r0
      replace r1 := hk4.val r1
      replace hrf := frozen2 b34
      replace hq := lt_of_block b34
      have hS4 := hS2.out.keeps hk4
      have hk04 := hk02.out.trans hk4
      replace b34 := Lib.hid b34
      replace hS4 := Lib.hid hS4
      replace hk04 := Lib.hid hk04
      clear hk4 b32 hS2 hk02
      rcases hF with ⟨k, hk, rfl, his, hfirst⟩ | ⟨rfl, hnone⟩
      · have hE2 : HasE L y a s := ⟨_, List.getElem_mem hk, his⟩
        replace hE2 := Lib.hid hE2
        clear his hfirst hk
        go_wp2
        obtain ⟨g1, g2⟩ := set2_all b34.out (.int .i64 N) (.slice ad M c)
        refine bodyPost_ret (results_ref2 rfl _ _ _ _ _ _ _ rfl g1) ?_ ?_
        · rfl
        · exact ⟨_, L, 0, rfl, .inr ⟨hc.out, .inr ⟨hE1.out, .inl ⟨hE2.out, rfl, rfl⟩⟩⟩, h.out.keeps (hk04.out.fresh g2 (fun b hb => .inr (by simp at hb; omega))), ⟨_, _, _, rfl⟩, hk04.out.fresh g2 (fun b hb => .inr (by simp at hb; omega))⟩
      · replace hnone := Lib.hid hnone
        go_wp2_with fail
        refine (with_c _ N (.slice ad M c) L y a s x (hS4.out) (by rw [hM.out]; omega)).mono ?_
        rintro e w3 ⟨v3, L3, rfl, hR3, hS3n, ⟨p3, l3, c3, rfl⟩, hf3, hk3⟩
        replace hf3 : ∀ b, (Value.slice p3 l3 c3).ownBlock = some b → w.heap.size + 1 + 1 < b := fun b e => by have := hf3 b e; omega
        replace hf3 := Lib.hid hf3
        replace y0 := hk3.val y0
        replace y1 := hk3.val y1
        replace z0 := hk3.val z0
        replace z1 := hk3.val z1
        have b33 := (hk3.block _ hq (by simp)).trans b34.out
        replace r0 := hk3.val r0
        replace r1 := hk3.val r1
        replace hrf := frozen2 b33
        replace hq := lt_of_block b33
        have hS3 := hS4.out.keeps hk3
        have hk03 := hk04.out.trans hk3
        replace b33 := Lib.hid b33
        replace hS3 := Lib.hid hS3
        replace hk03 := Lib.hid hk03
        clear hk3 b34 hS4 hk04
        replace hR3 := Lib.hid hR3
        replace hS3n := Lib.hid hS3n
        go_wp2
        obtain ⟨g1, g2⟩ := set2_all b33.out (.int .i64 N) (.slice p3 l3 c3)
        refine bodyPost_ret (results_ref2 rfl _ _ _ _ _ _ _ rfl g1) ?_ ?_
        · rfl
        · exact ⟨_, L3, 0, rfl, .inr ⟨hc.out, .inr ⟨hE1.out, .inr ⟨hnone.out, rfl, hR3.out⟩⟩⟩, hS3n.out.keepS g2 (fun b hb e => by have := hf3.out b e; simp at hb; omega), ⟨_, _, _, rfl⟩, hk03.out.fresh g2 (fun b hb => .inr (by simp at hb; omega))⟩
    · replace hnone := Lib.hid hnone
      go_wp2
      obtain ⟨g1, g2⟩ := set2_all b32.out (.int .i64 N) (.slice ad M c)
      refine bodyPost_ret (results_ref2 rfl _ _ _ _ _ _ _ rfl g1) ?_ ?_
      · rfl
      · exact ⟨_, L, 6, rfl, .inr ⟨hc.out, .inl ⟨hnone.out, rfl, rfl⟩⟩, h.out.keeps (hk02.out.fresh g2 (fun b hb => .inr (by simp at hb; omega))), ⟨_, _, _, rfl⟩, hk02.out.fresh g2 (fun b hb => .inr (by simp at hb; omega))⟩
  · rw [hE]
    clear hE
    replace hc := Lib.hid hc
    go_wp2
    obtain ⟨g1, g2⟩ := set2_all b31.out (.int .i64 N) (.slice ad M c)
    refine bodyPost_ret (results_ref2 rfl _ _ _ _ _ _ _ rfl g1) ?_ ?_
    · rfl
    · exact ⟨_, L, 1, rfl, .inl ⟨hc.out, rfl, rfl⟩, h.out.keeps (hk01.out.fresh g2 (fun b hb => .inr (by simp at hb; omega))), ⟨_, _, _, rfl⟩, hk01.out.fresh g2 (fun b hb => .inr (by simp at hb; omega))⟩
/-- Locate. -/
def LocateL (N : Int) (L : List EntV) (x a s : Int) (c : Int) (L' : List EntV) : Prop :=
  (chkB N [x, x] a s = false ∧ c = 1 ∧ L' = L) ∨ (chkB N [x, x] a s = true ∧ ((NoE L x a s ∧ c = 6 ∧ L' = L) ∨ (HasE L x a s ∧ ∃ m b, HomeL L a s m b ∧ ((m = x ∧ c = 0 ∧ L' = L) ∨ (m ≠ x ∧ c = 0 ∧ WithR L x a s m L')))))
set_option maxRecDepth 100000 in
set_option maxHeartbeats 2000000 in
theorem locateR_c (w : World) (N : Int) (v : Value) (L : List EntV) (x a s : Int) (h : SlE w v L) (hlen : L.length < 900000) :
    Calls Try.prog 34 #[refV N v, .int .i64 x, idV a s] w (RefOpPost w N (LocateL N L x a s)) := by
  obtain ⟨ad, c, rfl, hlc, hcm, hnn⟩ := h.form
  obtain ⟨M, hM⟩ : ∃ N, L.length = N := ⟨_, rfl⟩
  rw [hM] at hlc hlen ⊢
  obtain ⟨b1, b2, b3, hk0⟩ := three_boxes' w (.cells #[.int .i64 N, .slice ad M c] 27) (.cells #[.int .i64 a, .int .i64 s] 31) zW
  have hS0 := h.keeps hk0
  rw [hM] at hS0
  replace hM := Lib.hid hM
  replace b1 := Lib.hid b1
  replace b2 := Lib.hid b2
  replace b3 := Lib.hid b3
  replace hk0 := Lib.hid hk0
  replace hS0 := Lib.hid hS0
  rw [hM.out] at h
  replace h := Lib.hid h
  go_enter Try.func34, Try.ntmps34
  go_wp2_with fail
  generalize hW : ((w.alloc (.cells #[.int .i64 N, .slice ad M c] 27)).alloc (.cells #[.int .i64 a, .int .i64 s] 31)).alloc zW = W at *
  clear hW
  refine (chkR_c W N x x a s (.slice ad M c) ⟨_, _, _, rfl⟩).mono ?_
  rintro e w1 ⟨rfl, hk1⟩
  obtain ⟨y0, y1⟩ := cells2 ((hk1.block _ (lt_of_block b1.out) (by simp)).trans b1.out)
  obtain ⟨z0, z1⟩ := cells2 ((hk1.block _ (lt_of_block b2.out) (by simp)).trans b2.out)
  have b31 := (hk1.block _ (lt_of_block b3.out) (by simp)).trans b3.out
  obtain ⟨r0, r1⟩ := cells2 b31
  have hrf := frozen2 b31
  have hq := lt_of_block b31
  have hS1 := hS0.out.keeps hk1
  have hk01 := hk0.out.trans hk1
  replace hS1 := Lib.hid hS1
  replace hk01 := Lib.hid hk01
  replace b31 := Lib.hid b31
  clear hk1 hS0 b1 b2 b3 hk0
  rcases chkE_cases N [x, x] a s with ⟨hc, hE⟩ | ⟨hc, hE⟩
  · rw [hE]
    clear hE
    replace hc := Lib.hid hc
    go_wp2_with fail
    refine (find_c _ N (.slice ad M c) L x a s hS1.out).mono ?_
    rintro e w2 ⟨i, rfl, hF, hk2⟩
    replace y0 := hk2.val y0
    replace y1 := hk2.val y1
    replace z0 := hk2.val z0
    replace z1 := hk2.val z1
    have b32 := (hk2.block _ hq (by simp)).trans b31.out
    replace r0 := hk2.val r0
    replace r1 := hk2.val r1
    replace hrf := frozen2 b32
    replace hq := lt_of_block b32
    have hS2 := hS1.out.keeps hk2
    have hk02 := hk01.out.trans hk2
    replace b32 := Lib.hid b32
    replace hS2 := Lib.hid hS2
    replace hk02 := Lib.hid hk02
    clear hk2 b31 hS1 hk01
    rcases hF with ⟨k, hk, rfl, his, hfirst⟩ | ⟨rfl, hnone⟩
    · have hE1 : HasE L x a s := ⟨_, List.getElem_mem hk, his⟩
      replace hE1 := Lib.hid hE1
      clear his hfirst hk
      go_wp2_with fail
      refine (homeR_c _ N (.slice ad M c) L a s hS2.out).mono ?_
      rintro e w4 ⟨m, b, rfl, hH, hk4⟩
      replace y0 := hk4.val y0
      replace y1 := hk4.val y1
      replace z0 := hk4.val z0
      replace z1 := hk4.val z1
      have b34 := (hk4.block _ hq (by simp)).trans b32.out
      replace r0 := hk4.val r0
      replace r1 := hk4.val r1
      replace hrf := frozen2 b34
      replace hq := lt_of_block b34
      have hS4 := hS2.out.keeps hk4
      have hk04 := hk02.out.trans hk4
      replace b34 := Lib.hid b34
      replace hS4 := Lib.hid hS4
      replace hk04 := Lib.hid hk04
      clear hk4 b32 hS2 hk02
      replace hH := Lib.hid hH
      by_cases hmx : m = x
      · have hmb : (m == x) = true := by simpa using hmx
        replace hmx := Lib.hid hmx
        go_wp2
        obtain ⟨g1, g2⟩ := set2_all b34.out (.int .i64 N) (.slice ad M c)
        refine bodyPost_ret (results_ref2 rfl _ _ _ _ _ _ _ rfl g1) ?_ ?_
        · rfl
        · exact ⟨_, L, 0, rfl, .inr ⟨hc.out, .inr ⟨hE1.out, m, b, hH.out, .inl ⟨hmx.out, rfl, rfl⟩⟩⟩, h.out.keeps (hk04.out.fresh g2 (fun b hb => .inr (by simp at hb; omega))), ⟨_, _, _, rfl⟩, hk04.out.fresh g2 (fun b hb => .inr (by simp at hb; omega))⟩
      · have hmb : (m == x) = false := by simpa using hmx
        replace hmx := Lib.hid hmx
        go_wp2_with fail
        refine (with_c _ N (.slice ad M c) L x a s m (hS4.out) (by rw [hM.out]; omega)).mono ?_
        rintro e w3 ⟨v3, L3, rfl, hR3, hS3n, ⟨p3, l3, c3, rfl⟩, hf3, hk3⟩
        replace hf3 : ∀ b, (Value.slice p3 l3 c3).ownBlock = some b → w.heap.size + 1 + 1 < b := fun b e => by have := hf3 b e; omega
        replace hf3 := Lib.hid hf3
        replace y0 := hk3.val y0
        replace y1 := hk3.val y1
        replace z0 := hk3.val z0
        replace z1 := hk3.val z1
        have b33 := (hk3.block _ hq (by simp)).trans b34.out
        replace r0 := hk3.val r0
        replace r1 := hk3.val r1
        replace hrf := frozen2 b33
        replace hq := lt_of_block b33
        have hS3 := hS4.out.keeps hk3
        have hk03 := hk04.out.trans hk3
        replace b33 := Lib.hid b33
        replace hS3 := Lib.hid hS3
        replace hk03 := Lib.hid hk03
        clear hk3 b34 hS4 hk04
        replace hR3 := Lib.hid hR3
        replace hS3n := Lib.hid hS3n
        go_wp2
        obtain ⟨g1, g2⟩ := set2_all b33.out (.int .i64 N) (.slice p3 l3 c3)
        refine bodyPost_ret (results_ref2 rfl _ _ _ _ _ _ _ rfl g1) ?_ ?_
        · rfl
        · exact ⟨_, L3, 0, rfl, .inr ⟨hc.out, .inr ⟨hE1.out, m, b, hH.out, .inr ⟨hmx.out, rfl, hR3.out⟩⟩⟩, hS3n.out.keepS g2 (fun b hb e => by have := hf3.out b e; simp at hb; omega), ⟨_, _, _, rfl⟩, hk03.out.fresh g2 (fun b hb => .inr (by simp at hb; omega))⟩
    · replace hnone := Lib.hid hnone
      go_wp2
      obtain ⟨g1, g2⟩ := set2_all b32.out (.int .i64 N) (.slice ad M c)
      refine bodyPost_ret (results_ref2 rfl _ _ _ _ _ _ _ rfl g1) ?_ ?_
      · rfl
      · exact ⟨_, L, 6, rfl, .inr ⟨hc.out, .inl ⟨hnone.out, rfl, rfl⟩⟩, h.out.keeps (hk02.out.fresh g2 (fun b hb => .inr (by simp at hb; omega))), ⟨_, _, _, rfl⟩, hk02.out.fresh g2 (fun b hb => .inr (by simp at hb; omega))⟩
  · rw [hE]
    clear hE
    replace hc := Lib.hid hc
    go_wp2
    obtain ⟨g1, g2⟩ := set2_all b31.out (.int .i64 N) (.slice ad M c)
    refine bodyPost_ret (results_ref2 rfl _ _ _ _ _ _ _ rfl g1) ?_ ?_
    · rfl
    · exact ⟨_, L, 1, rfl, .inl ⟨hc.out, rfl, rfl⟩, h.out.keeps (hk01.out.fresh g2 (fun b hb => .inr (by simp at hb; omega))), ⟨_, _, _, rfl⟩, hk01.out.fresh g2 (fun b hb => .inr (by simp at hb; omega))⟩
end Go.Proofs.Ythhhciofcmmnfaa

namespace Go.Proofs.Ythhhciofcmmnfaa
open Go.RowKit

/-- Move. -/
def MoveL (N : Int) (L : List EntV) (x y a s : Int) (c : Int) (L' : List EntV) : Prop :=
  (chkB N [x, y] a s = false ∧ c = 1 ∧ L' = L) ∨ (chkB N [x, y] a s = true ∧ ((NoE L x a s ∧ c = 6 ∧ L' = L) ∨ (∃ k : Nat, ∃ hk : k < L.length, L[k].is x a s = true ∧ (∀ j (hj : j < L.length), j < k → L[j].is x a s = false) ∧
    ((L[k].r ≠ 0 ∧ c = 9 ∧ L' = L) ∨ (L[k].r = 0 ∧ x = y ∧ c = 0 ∧ L' = L) ∨ (L[k].r = 0 ∧ x ≠ y ∧ c = 0 ∧ ∃ L1, WithR L y a s 0 L1 ∧ WithR L1 x a s y L')))))
theorem WithR.len {L L' : List EntV} {m a s r : Int} (h : WithR L m a s r L') : L'.length ≤ L.length + 1 := by
  rcases h with ⟨k, hk, _, _, rfl⟩ | ⟨_, rfl⟩ <;> simp
set_option maxRecDepth 100000 in
set_option maxHeartbeats 2000000 in
theorem moveR_c (w : World) (N : Int) (v : Value) (L : List EntV) (x y a s : Int) (h : SlE w v L) (hlen : L.length < 900000) :
    Calls Try.prog 33 #[refV N v, .int .i64 x, .int .i64 y, idV a s] w (RefOpPost w N (MoveL N L x y a s)) := by
  obtain ⟨ad, c, rfl, hlc, hcm, hnn⟩ := h.form
  have hel := fun k hk => h.elem (k := k) hk
  replace hel := Lib.hid hel
  obtain ⟨M, hM⟩ : ∃ N, L.length = N := ⟨_, rfl⟩
  rw [hM] at hlc hlen ⊢
  obtain ⟨b1, b2, b3, hk0⟩ := three_boxes' w (.cells #[.int .i64 N, .slice ad M c] 27) (.cells #[.int .i64 a, .int .i64 s] 31) zW
  have hS0 := h.keeps hk0
  rw [hM] at hS0
  replace hM := Lib.hid hM
  replace b1 := Lib.hid b1
  replace b2 := Lib.hid b2
  replace b3 := Lib.hid b3
  replace hk0 := Lib.hid hk0
  replace hS0 := Lib.hid hS0
  rw [hM.out] at h
  replace h := Lib.hid h
  go_enter Try.func33, Try.ntmps33
  go_wp2_with fail
  generalize hW : ((w.alloc (.cells #[.int .i64 N, .slice ad M c] 27)).alloc (.cells #[.int .i64 a, .int .i64 s] 31)).alloc zW = W at *
  clear hW
  refine (chkR_c W N x y a s (.slice ad M c) ⟨_, _, _, rfl⟩).mono ?_
  rintro e w1 ⟨rfl, hk1⟩
  obtain ⟨y0, y1⟩ := cells2 ((hk1.block _ (lt_of_block b1.out) (by simp)).trans b1.out)
  obtain ⟨z0, z1⟩ := cells2 ((hk1.block _ (lt_of_block b2.out) (by simp)).trans b2.out)
  have b31 := (hk1.block _ (lt_of_block b3.out) (by simp)).trans b3.out
  obtain ⟨r0, r1⟩ := cells2 b31
  have hrf := frozen2 b31
  have hq := lt_of_block b31
  have hS1 := hS0.out.keeps hk1
  have hk01 := hk0.out.trans hk1
  replace hS1 := Lib.hid hS1
  replace hk01 := Lib.hid hk01
  replace b31 := Lib.hid b31
  clear hk1 hS0 b1 b2 b3 hk0
  rcases chkE_cases N [x, y] a s with ⟨hc, hE⟩ | ⟨hc, hE⟩
  · rw [hE]
    clear hE
    replace hc := Lib.hid hc
    go_wp2_with fail
    refine (find_c _ N (.slice ad M c) L x a s hS1.out).mono ?_
    rintro e w2 ⟨i, rfl, hF, hk2⟩
    replace y0 := hk2.val y0
    replace y1 := hk2.val y1
    replace z0 := hk2.val z0
    replace z1 := hk2.val z1
    have b32 := (hk2.block _ hq (by simp)).trans b31.out
    replace r0 := hk2.val r0
    replace r1 := hk2.val r1
    replace hrf := frozen2 b32
    replace hq := lt_of_block b32
    have hS2 := hS1.out.keeps hk2
    have hk02 := hk01.out.trans hk2
    replace b32 := Lib.hid b32
    replace hS2 := Lib.hid hS2
    replace hk02 := Lib.hid hk02
    clear hk2 b31 hS1 hk01
    rcases hF with ⟨k, hk, rfl, his, hfirst⟩ | ⟨rfl, hnone⟩
    · have hkM : k < M := by rw [← hM.out]; exact hk
      obtain ⟨g, o, c', hv, _, _, _, e3⟩ := hel.out k hk
      cases hv
      replace e3 := hk02.out.val e3
      obtain ⟨z, hz⟩ : ∃ z, L[k].r = z := ⟨_, rfl⟩
      rw [hz] at e3
      have hb9 : ∀ c0 L0, ((L[k].r ≠ 0 ∧ c0 = 9 ∧ L0 = L) ∨ (L[k].r = 0 ∧ x = y ∧ c0 = 0 ∧ L0 = L) ∨ (L[k].r = 0 ∧ x ≠ y ∧ c0 = 0 ∧ ∃ L1, WithR L y a s 0 L1 ∧ WithR L1 x a s y L0)) → MoveL N L x y a s c0 L0 := fun c0 L0 h => .inr ⟨hc.out, .inr ⟨k, hk, his, hfirst, h⟩⟩
      replace hb9 := Lib.hid hb9
      replace hz := Lib.hid hz
      clear his hfirst
      by_cases hz0 : z = 0
      · subst hz0
        by_cases hxy : x = y
        · have hxb : (x == y) = true := by simpa using hxy
          replace hxy := Lib.hid hxy
          go_wp2
          obtain ⟨g1, g2⟩ := set2_all b32.out (.int .i64 N) (.slice (some ⟨g, o, none⟩) M c)
          refine bodyPost_ret (results_ref2 rfl _ _ _ _ _ _ _ rfl g1) ?_ ?_
          · rfl
          · exact ⟨_, L, 0, rfl, hb9.out _ _ (.inr (.inl ⟨hz.out, hxy.out, rfl, rfl⟩)), h.out.keeps (hk02.out.fresh g2 (fun b hb => .inr (by simp at hb; omega))), ⟨_, _, _, rfl⟩, hk02.out.fresh g2 (fun b hb => .inr (by simp at hb; omega))⟩
        · have hxb : (x == y) = false := by simpa using hxy
          replace hxy := Lib.hid hxy
          have t1 : w.heap.size = w.heap.size + 1 + 1 → False := fun h => by omega
          have t2 : w.heap.size + 1 = w.heap.size + 1 + 1 → False := fun h => by omega
          go_wp2
          refine Free.wp_region_chain (fun i => i == 3 || i == 7 || i == 8) (fun i => true) (fun _ b => b = w.heap.size + 1 + 1) (by kernel_rfl) (by kernel_rfl) (by kernel_rfl) ?_
          (repeat (first | (apply Free.cw_pure rfl rfl; (intro w'; go_simp <;> exact rfl); go_frame) | (apply Free.cw_steady rfl rfl rfl; (intro w' hS; have q0 := Free.sx_cell hS y0 (fun _ _ hT => t1 hT); have q1 := Free.sx_cell hS y1 (fun _ _ hT => t1 hT); have q2 := Free.sx_cell hS z0 (fun _ _ hT => t2 hT); have q3 := Free.sx_cell hS z1 (fun _ _ hT => t2 hT); go_simp <;> exact rfl); go_frame) | (refine Free.cw_skip rfl ?_; go_frame)))
          refine Free.cw_loud rfl rfl (fun K hK => ?_)
          go_wp2_with fail
          refine (with_c _ N (.slice (some ⟨g, o, none⟩) M c) L y a s 0 (hS2.out.keeps ((Keeps.refl [] w2).drew)) (by rw [hM.out]; omega)).mono ?_
          rintro e w3 ⟨v3, L3, rfl, hR3, hS3n, ⟨p3, l3, c3, rfl⟩, _, hk3⟩
          refine hK _ _ rfl (Free.KeepsP.of hk3 (by simp)) ?_
          clear hK K
          have hlen3 := hR3.len
          rw [hM.out] at hlen3
          have hkd : Keeps [] w2 w3 := ((Keeps.refl [] w2).drew).trans hk3
          have b33 := (hkd.block _ hq (by simp)).trans b32.out
          have hq3 := lt_of_block b33
          have hk03 := hk02.out.trans hkd
          replace hR3 := Lib.hid hR3
          replace hS3n := Lib.hid hS3n
          replace b33 := Lib.hid b33
          replace hk03 := Lib.hid hk03
          clear hk3 hkd
          (repeat (first | (apply Free.cw_pure rfl rfl; (intro w'; go_simp <;> exact rfl); go_frame) | (apply Free.cw_steady rfl rfl rfl; (intro w' hS; have q0 := Free.sx_cell hS y0 (fun _ _ hT => t1 hT); have q1 := Free.sx_cell hS y1 (fun _ _ hT => t1 hT); have q2 := Free.sx_cell hS z0 (fun _ _ hT => t2 hT); have q3 := Free.sx_cell hS z1 (fun _ _ hT => t2 hT); go_simp <;> exact rfl); go_frame) | (refine Free.cw_skip rfl ?_; go_frame)))
          refine Free.cw_loud rfl rfl (fun K hK => ?_)
          go_wp2_with fail
          refine (with_c _ N (.slice p3 l3 c3) L3 x a s y hS3n.out (by omega)).mono ?_
          rintro e w4 ⟨v4, L4, rfl, hR4, hS4n, ⟨p4, l4, c4, rfl⟩, hf4, hk4⟩
          refine hK _ _ rfl (Free.KeepsP.of hk4 (by simp)) ?_
          clear hK K
          have b34 := (hk4.block _ hq3 (by simp)).trans b33.out
          obtain ⟨r0', r1'⟩ := cells2 b34
          have hrf4 := frozen2 b34
          have hk04 := hk03.out.trans hk4
          obtain ⟨g1, g2⟩ := set2_all b34 (.int .i64 N) (.slice p4 l4 c4)
          replace g1 := Lib.hid g1
          replace g2 := Lib.hid g2
          replace hR4 := Lib.hid hR4
          replace hS4n := Lib.hid hS4n
          replace hk04 := Lib.hid hk04
          clear hk4 b34
          (repeat (apply Free.cw_pure rfl rfl; (intro w'; go_simp <;> exact rfl); go_frame))
          refine Free.cw_loud rfl rfl (fun K hK => ?_)
          go_wp2
          refine hK _ _ rfl (Free.KeepsP.of g2.out (fun b hb => by simpa using hb)) ?_
          clear hK K
          (repeat (apply Free.cw_pure rfl rfl; (intro w'; go_simp <;> exact rfl); go_frame))
          refine Free.cw_nil ?_
          go_wp2
          refine bodyPost_ret (results_ref2 rfl _ _ _ _ _ _ _ rfl g1.out) ?_ ?_
          · rfl
          · exact ⟨_, L4, 0, rfl, hb9.out _ _ (.inr (.inr ⟨hz.out, hxy.out, rfl, L3, hR3.out, hR4.out⟩)), hS4n.out.keepS g2.out (fun b hb e => by have := hf4 b e; simp at hb; omega), ⟨_, _, _, rfl⟩, hk04.out.fresh g2.out (fun b hb => .inr (by simp at hb; omega))⟩
      · have hzb : (z != 0) = true := by simpa using hz0
        go_wp2
        obtain ⟨g1, g2⟩ := set2_all b32.out (.int .i64 N) (.slice (some ⟨g, o, none⟩) M c)
        refine bodyPost_ret (results_ref2 rfl _ _ _ _ _ _ _ rfl g1) ?_ ?_
        · rfl
        · exact ⟨_, L, 9, rfl, hb9.out _ _ (.inl ⟨by rw [hz.out]; exact hz0, rfl, rfl⟩), h.out.keeps (hk02.out.fresh g2 (fun b hb => .inr (by simp at hb; omega))), ⟨_, _, _, rfl⟩, hk02.out.fresh g2 (fun b hb => .inr (by simp at hb; omega))⟩
    · replace hnone := Lib.hid hnone
      go_wp2
      obtain ⟨g1, g2⟩ := set2_all b32.out (.int .i64 N) (.slice ad M c)
      refine bodyPost_ret (results_ref2 rfl _ _ _ _ _ _ _ rfl g1) ?_ ?_
      · rfl
      · exact ⟨_, L, 6, rfl, .inr ⟨hc.out, .inl ⟨hnone.out, rfl, rfl⟩⟩, h.out.keeps (hk02.out.fresh g2 (fun b hb => .inr (by simp at hb; omega))), ⟨_, _, _, rfl⟩, hk02.out.fresh g2 (fun b hb => .inr (by simp at hb; omega))⟩
  · rw [hE]
    clear hE
    replace hc := Lib.hid hc
    go_wp2
    obtain ⟨g1, g2⟩ := set2_all b31.out (.int .i64 N) (.slice ad M c)
    refine bodyPost_ret (results_ref2 rfl _ _ _ _ _ _ _ rfl g1) ?_ ?_
    · rfl
    · exact ⟨_, L, 1, rfl, .inl ⟨hc.out, rfl, rfl⟩, h.out.keeps (hk01.out.fresh g2 (fun b hb => .inr (by simp at hb; omega))), ⟨_, _, _, rfl⟩, hk01.out.fresh g2 (fun b hb => .inr (by simp at hb; omega))⟩
end Go.Proofs.Ythhhciofcmmnfaa

namespace Go.Proofs.Ythhhciofcmmnfaa
open Go.RowKit

theorem entCs_take : ∀ (L : List EntV) (k : Nat), entCs (L.take k) = (entCs L).take (k * 4)
  | [], k => by simp [entCs]
  | x :: t, 0 => by simp [entCs]
  | x :: t, k + 1 => by
    have h4 : (k + 1) * 4 = x.cs.length + k * 4 := by simp [EntV.cs]; omega
    simp only [List.take_succ_cons, entCs, entCs_take t k, h4, List.take_length_add_append]
theorem entCs_drop : ∀ (L : List EntV) (k : Nat), entCs (L.drop k) = (entCs L).drop (k * 4)
  | [], k => by simp [entCs]
  | x :: t, 0 => by simp
  | x :: t, k + 1 => by
    have h4 : (k + 1) * 4 = x.cs.length + k * 4 := by simp [EntV.cs]; omega
    simp only [List.drop_succ_cons, entCs, entCs_drop t k, h4, List.drop_length_add_append]
theorem SlE.take {w : World} {g o c M : Nat} {L : List EntV} (h : SlE w (.slice (some ⟨g, o, none⟩) M c) L) (hM : L.length = M) {k : Nat} (hk : k ≤ M) : SlE w (.slice (some ⟨g, o, none⟩) k c) (L.take k) := by
  subst hM
  have := Sl.part h 0 k (Nat.zero_le _) hk
  simp only [Nat.zero_mul, Nat.add_zero, Nat.sub_zero, List.drop_zero] at this
  unfold SlE
  rw [entCs_take, List.length_take, Nat.min_eq_left hk]
  exact this
theorem SlE.drop {w : World} {g o c M : Nat} {L : List EntV} (h : SlE w (.slice (some ⟨g, o, none⟩) M c) L) (hM : L.length = M) {k : Nat} (hk : k ≤ M) : SlE w (.slice (some ⟨g, o + k * 4, none⟩) (M - k) (c - k)) (L.drop k) := by
  subst hM
  have := Sl.part h k L.length hk (Nat.le_refl _)
  unfold SlE
  rw [entCs_drop, List.length_drop]
  rw [List.take_of_length_le (by rw [entCs_len]; exact Nat.le_refl _)] at this
  exact this
theorem SlE.none (w : World) (p : Option Addr) (c : Nat) (hp : p = Option.none → c = 0) (hc : c ≤ maxLen) : SlE w (.slice p 0 c) [] := ⟨by simp [entCs], p, c, rfl, Nat.zero_le _, hc, hp, fun h => by simp [entCs] at h⟩
/-- Drop. -/
def DropL (N : Int) (L : List EntV) (x a s : Int) (c : Int) (L' : List EntV) : Prop :=
  (chkB N [x, x] a s = false ∧ c = 1 ∧ L' = L) ∨ (chkB N [x, x] a s = true ∧ ((NoE L x a s ∧ c = 6 ∧ L' = L) ∨ (∃ k : Nat, ∃ hk : k < L.length, L[k].is x a s = true ∧ (∀ j (hj : j < L.length), j < k → L[j].is x a s = false) ∧
    ((L[k].r = 0 ∧ c = 9 ∧ L' = L) ∨ (L[k].r ≠ 0 ∧ (∃ e ∈ L, e.a = a ∧ e.s = s ∧ e.r = x) ∧ c = 9 ∧ L' = L) ∨ (L[k].r ≠ 0 ∧ (∀ e ∈ L, ¬(e.a = a ∧ e.s = s ∧ e.r = x)) ∧ c = 0 ∧ L' = L.take k ++ L.drop (k + 1))))))
set_option maxRecDepth 100000 in
set_option maxHeartbeats 2000000 in
theorem dropR_c (w : World) (N : Int) (v : Value) (L : List EntV) (x a s : Int) (h : SlE w v L) (hlen : L.length < 900000) :
    Calls Try.prog 35 #[refV N v, .int .i64 x, idV a s] w (RefOpPost w N (DropL N L x a s)) := by
  obtain ⟨ad, c, rfl, hlc, hcm, hnn⟩ := h.form
  have hel := fun k hk => h.elem (k := k) hk
  replace hel := Lib.hid hel
  obtain ⟨M, hM⟩ : ∃ N, L.length = N := ⟨_, rfl⟩
  rw [hM] at hlc hlen ⊢
  obtain ⟨b1, b2, b3, hk0⟩ := three_boxes' w (.cells #[.int .i64 N, .slice ad M c] 27) (.cells #[.int .i64 a, .int .i64 s] 31) zW
  have hS0 := h.keeps hk0
  rw [hM] at hS0
  replace hM := Lib.hid hM
  replace b1 := Lib.hid b1
  replace b2 := Lib.hid b2
  replace b3 := Lib.hid b3
  replace hk0 := Lib.hid hk0
  replace hS0 := Lib.hid hS0
  rw [hM.out] at h
  replace h := Lib.hid h
  have heq := fun w p q => id_eql w p q a s
  go_enter Try.func35, Try.ntmps35
  go_wp2_with fail
  generalize hW : ((w.alloc (.cells #[.int .i64 N, .slice ad M c] 27)).alloc (.cells #[.int .i64 a, .int .i64 s] 31)).alloc zW = W at *
  clear hW
  refine (chkR_c W N x x a s (.slice ad M c) ⟨_, _, _, rfl⟩).mono ?_
  rintro e w1 ⟨rfl, hk1⟩
  obtain ⟨y0, y1⟩ := cells2 ((hk1.block _ (lt_of_block b1.out) (by simp)).trans b1.out)
  obtain ⟨z0, z1⟩ := cells2 ((hk1.block _ (lt_of_block b2.out) (by simp)).trans b2.out)
  have b31 := (hk1.block _ (lt_of_block b3.out) (by simp)).trans b3.out
  obtain ⟨r0, r1⟩ := cells2 b31
  have hrf := frozen2 b31
  have hq := lt_of_block b31
  have hS1 := hS0.out.keeps hk1
  have hk01 := hk0.out.trans hk1
  replace hS1 := Lib.hid hS1
  replace hk01 := Lib.hid hk01
  replace b31 := Lib.hid b31
  clear hk1 hS0 b1 b2 b3 hk0
  rcases chkE_cases N [x, x] a s with ⟨hc, hE⟩ | ⟨hc, hE⟩
  · rw [hE]
    clear hE
    replace hc := Lib.hid hc
    go_wp2_with fail
    refine (find_c _ N (.slice ad M c) L x a s hS1.out).mono ?_
    rintro e w2 ⟨i, rfl, hF, hk2⟩
    replace y0 := hk2.val y0
    replace y1 := hk2.val y1
    replace z0 := hk2.val z0
    replace z1 := hk2.val z1
    have b32 := (hk2.block _ hq (by simp)).trans b31.out
    replace r0 := hk2.val r0
    replace r1 := hk2.val r1
    replace hrf := frozen2 b32
    replace hq := lt_of_block b32
    have hS2 := hS1.out.keeps hk2
    have hk02 := hk01.out.trans hk2
    replace b32 := Lib.hid b32
    replace hS2 := Lib.hid hS2
    replace hk02 := Lib.hid hk02
    clear hk2 b31 hS1 hk01
    rcases hF with ⟨k, hk, rfl, his, hfirst⟩ | ⟨rfl, hnone⟩
    · have hkM : k < M := by rw [← hM.out]; exact hk
      obtain ⟨g, o, c', hv, _, _, _, e3⟩ := hel.out k hk
      cases hv
      replace e3 := hk02.out.val e3
      obtain ⟨z, hz⟩ : ∃ z, L[k].r = z := ⟨_, rfl⟩
      rw [hz] at e3
      have hb9 : ∀ c0 L0, ((L[k].r = 0 ∧ c0 = 9 ∧ L0 = L) ∨ (L[k].r ≠ 0 ∧ (∃ e ∈ L, e.a = a ∧ e.s = s ∧ e.r = x) ∧ c0 = 9 ∧ L0 = L) ∨ (L[k].r ≠ 0 ∧ (∀ e ∈ L, ¬(e.a = a ∧ e.s = s ∧ e.r = x)) ∧ c0 = 0 ∧ L0 = L.take k ++ L.drop (k + 1))) → DropL N L x a s c0 L0 := fun c0 L0 h => .inr ⟨hc.out, .inr ⟨k, hk, his, hfirst, h⟩⟩
      replace hb9 := Lib.hid hb9
      replace hz := Lib.hid hz
      clear his hfirst
      by_cases hz0 : z = 0
      · subst hz0
        go_wp2
        obtain ⟨g1, g2⟩ := set2_all b32.out (.int .i64 N) (.slice (some ⟨g, o, none⟩) M c)
        refine bodyPost_ret (results_ref2 rfl _ _ _ _ _ _ _ rfl g1) ?_ ?_
        · rfl
        · exact ⟨_, L, 9, rfl, hb9.out _ _ (.inl ⟨hz.out, rfl, rfl⟩), h.out.keeps (hk02.out.fresh g2 (fun b hb => .inr (by simp at hb; omega))), ⟨_, _, _, rfl⟩, hk02.out.fresh g2 (fun b hb => .inr (by simp at hb; omega))⟩
      · have hzb : (z == 0) = false := by simpa using hz0
        go_wp2
        go_loopw [10] (fun i wr => ∃ k : Nat, i = .int .i64 k ∧ k ≤ M ∧ (∀ j (hj : j < L.length), j < k → ¬(L[j].a = a ∧ L[j].s = s ∧ L[j].r = x)) ∧ Keeps [] w2 wr) (fun i _ => M - (intOf i).toNat)
        case atStart => exact ⟨0, rfl, by omega, fun _ _ h => by omega, Keeps.refl _ _⟩
        case round =>
          obtain ⟨i, rfl, hi, hno, hkW⟩ := hrel
          have hkr := hk02.out.trans hkW
          have hSr := hS2.out.keeps hkW
          have b3r := (hkW.block _ hq (by simp)).trans b32.out
          replace y0 := hkW.val y0
          replace y1 := hkW.val y1
          replace z0 := hkW.val z0
          replace z1 := hkW.val z1
          replace r0 := hkW.val r0
          replace r1 := hkW.val r1
          replace hrf := frozen2 b3r
          replace hq := lt_of_block b3r
          replace hno := Lib.hid hno
          replace hkW := Lib.hid hkW
          replace hSr := Lib.hid hSr
          replace b3r := Lib.hid b3r
          replace hkr := Lib.hid hkr
          clear e3
          by_cases hlt : i < M
          · obtain ⟨g', o', c', hv, e0, e1, e2, e3⟩ := hel.out i (by rw [hM.out]; exact hlt)
            cases hv
            have hmem : L[i]'(by rw [hM.out]; exact hlt) ∈ L := List.getElem_mem _
            obtain ⟨⟨xm, xa, xs, xr⟩, hx⟩ : ∃ x, L[i]'(by rw [hM.out]; exact hlt) = x := ⟨_, rfl⟩
            rw [hx] at e1 e2 e3 hmem
            clear e0
            replace e1 := hkr.out.val e1
            replace e2 := hkr.out.val e2
            replace e3 := hkr.out.val e3
            simp only at e1 e2 e3
            replace hx := Lib.hid hx
            replace hmem := Lib.hid hmem
            by_cases h2 : xa = a ∧ xs = s
            · obtain ⟨h2, h3⟩ := h2
              have hb : (xa == a && xs == s) = true := by simp [h2, h3]
              replace h2 := Lib.hid h2
              replace h3 := Lib.hid h3
              by_cases h4 : xr = x
              · have h4b : (xr == x) = true := by simpa using h4
                replace h4 := Lib.hid h4
                go_wp2
                (refine wp_region_quiet_lit (by kernel_rfl) (by kernel_rfl) ?_; (repeat (first | go_big_quiet_step (fail) | quiet_step (fail))); with_reducible refine wpQuiet_nil ?_; intro _ hw'; obtain ⟨nq, hw''⟩ := hw'; subst hw'')
                go_wp2
                obtain ⟨g1, g2⟩ := set2_all (w := wr.drewN nq) b3r.out (.int .i64 N) (.slice (some ⟨g, o, none⟩) M c)
                refine bodyPost_ret (results_ref2 rfl _ _ _ _ _ _ _ rfl g1) ?_ ?_
                · rfl
                · exact ⟨_, L, 9, rfl, hb9.out _ _ (.inr (.inl ⟨by rw [hz.out]; exact hz0, ⟨_, hmem.out, h2.out, h3.out, h4.out⟩, rfl, rfl⟩)), h.out.keeps ((hkr.out.drewN nq).fresh g2 (fun b hb => .inr (by simp at hb; omega))), ⟨_, _, _, rfl⟩, (hkr.out.drewN nq).fresh g2 (fun b hb => .inr (by simp at hb; omega))⟩
              · have h4b : (xr == x) = false := by simpa using h4
                go_wp2
                (refine wp_region_quiet_lit (by kernel_rfl) (by kernel_rfl) ?_; (repeat (first | go_big_quiet_step (fail) | quiet_step (fail))); with_reducible refine wpQuiet_nil ?_; intro _ hw'; obtain ⟨nq, hw''⟩ := hw'; subst hw'')
                go_wp2
                go_roundw
                case rel => exact ⟨i + 1, rfl, by omega, fun j hj hjk => by
                    by_cases e : j = i
                    · subst e; rw [hx.out]; exact fun e => h4 e.2.2
                    · exact hno.out j hj (by omega), hkW.out.drewN _⟩
                case measure => simp [intOf]; omega
            · have hb : (xa == a && xs == s) = false := by simp; intro e; intro e'; exact h2 ⟨e, e'⟩
              go_wp2
              (refine wp_region_quiet_lit (by kernel_rfl) (by kernel_rfl) ?_; (repeat (first | go_big_quiet_step (fail) | quiet_step (fail))); with_reducible refine wpQuiet_nil ?_; intro _ hw'; obtain ⟨nq, hw''⟩ := hw'; subst hw'')
              go_wp2
              go_roundw
              case rel => exact ⟨i + 1, rfl, by omega, fun j hj hjk => by
                  by_cases e : j = i
                  · subst e; rw [hx.out]; exact fun e => h2 ⟨e.1, e.2.1⟩
                  · exact hno.out j hj (by omega), hkW.out.drewN _⟩
              case measure => simp [intOf]; omega
          · have hnone : ∀ e ∈ L, ¬(e.a = a ∧ e.s = s ∧ e.r = x) := fun e he => by
              obtain ⟨j, hj, rfl⟩ := List.getElem_of_mem he
              exact hno.out j hj (by rw [hM.out] at hj; omega)
            replace hnone := Lib.hid hnone
            have t1 : (w.heap.size = w.heap.size + 1 + 1 ∨ wr.heap.size ≤ w.heap.size) → False := fun h => by omega
            have hcM : k + 1 ≤ c := by omega
            have hck' : (c = k + 1 ∧ M = k + 1) ∨ ¬ c = k + 1 := by omega
            rcases hck' with ⟨hck, hMk⟩ | hck
            · have hMk1 : k + 1 ≤ M := by omega
              have f1 : (k : Int) ≤ (k : Int) + 1 := by omega
              have hwr : IntKind.i64.wrap ((k : Int) + 1) = (k : Int) + 1 := by
                have : M < 900000 := by omega
                simp [IntKind.wrap, IntKind.signed, IntKind.bits]
                omega
              have hwt : ((k : Int) + 1).toNat = k + 1 := by omega
              have f0 : 0 ≤ (k : Int) + 1 := by omega
              have f2 : (k : Int) ≤ (c : Int) := by omega
              have f3 : (k : Int) + 1 ≤ (M : Int) := by omega
              have f4 : (M : Int) ≤ (c : Int) := by omega
              have hT1 : SlE wr (.slice (some ⟨g, o, none⟩) k (k + 1)) (L.take k) := by have := hSr.out.take hM.out (k := k) (by omega); rw [hck] at this; exact this
              have hT2 : SlE wr (.slice (some ⟨g, o, none⟩) 0 0) (L.drop (k + 1)) := by rw [List.drop_of_length_le (by rw [hM.out]; omega)]; exact SlE.none _ _ _ (by simp) (by simp [maxLen])
              have hlt1 : (L.take k).length = k := by rw [List.length_take, hM.out]; omega
              have hlt2 : (L.drop (k + 1)).length ≤ M := by rw [List.length_drop, hM.out]; omega
              have hfr := OwE.fresh wr wr.heap.size (Nat.le_refl _)
              have hkA : Keeps [] wr (wr.alloc (.cells #[] 67)) := (Keeps.refl _ _).alloc _
              have hqA : (wr.alloc (.cells #[] 67)).heap.size = wr.heap.size + 1 := by simp
              replace hT1 := Lib.hid hT1
              replace hT2 := Lib.hid hT2
              replace hfr := Lib.hid hfr
              replace hlt1 := Lib.hid hlt1
              replace hlt2 := Lib.hid hlt2
              replace hkA := Lib.hid hkA
              go_wp2
              refine Free.wp_region_chain (fun i => i == 2 || i == 7 || i == 13 || i == 15) (fun i => true) (fun _ b => b = w.heap.size + 1 + 1 ∨ wr.heap.size ≤ b) (by kernel_rfl) (by kernel_rfl) (by kernel_rfl) ?_
              (repeat (first | (apply Free.cw_pure rfl rfl; (intro w'; go_simp <;> exact rfl); go_frame) | (apply Free.cw_steady rfl rfl rfl; (intro w' hS; have q0 := Free.sx_cell hS y0 (fun _ _ hT => t1 hT); have q1 := Free.sx_cell hS y1 (fun _ _ hT => t1 hT); go_simp <;> exact rfl); go_frame) | (refine Free.cw_skip rfl ?_; go_frame)))
              refine Free.cw_loud rfl rfl (fun K hK => ?_)
              go_wp2
              refine hK _ _ rfl (Free.KeepsP.alloc _ _ _) ?_
              clear hK K
              (repeat (first | (apply Free.cw_pure rfl rfl; (intro w'; go_simp <;> exact rfl); go_frame) | (apply Free.cw_steady rfl rfl rfl; (intro w' hS; have q0 := Free.sx_cell hS y0 (fun _ _ hT => t1 hT); have q1 := Free.sx_cell hS y1 (fun _ _ hT => t1 hT); go_simp <;> exact rfl); go_frame) | (refine Free.cw_skip rfl ?_; go_frame)))
              refine Free.cw_loud rfl rfl (fun K hK => ?_)
              refine wp_appEnt wr.heap.size (.slice (some ⟨wr.heap.size, 0, none⟩) 0 0) (.slice (some ⟨g, o, none⟩) k (k + 1)) [] (L.take k) _ _ rfl rfl rfl (hfr.out.keep ((Keeps.refl [] _).drew)) (hT1.out.keeps (hkA.out.drew)) (by simp; omega) (by simp) ?_
              intro v5 w5 hO5 hG5
              rw [List.nil_append] at hO5
              have hk5 := hG5.keeps (a := wr) (hkA.out.drew) (fun b hb => by simp [Value.ownBlock] at hb; omega)
              refine hK _ _ rfl (Free.KeepsP.of hG5.keepsO (fun b hb => .inr (by simp [Value.ownBlock] at hb; omega))) ?_
              clear hK K
              have hT2' := hT2.out.keeps hk5
              have hkr5 := hkr.out.trans hk5
              have b35 := (hk5.block _ hq (by simp)).trans b3r.out
              have hsz5 := hk5.size
              replace hO5 := Lib.hid hO5
              replace hT2' := Lib.hid hT2'
              replace hkr5 := Lib.hid hkr5
              replace b35 := Lib.hid b35
              clear hG5 hk5
              (repeat (first | (apply Free.cw_pure rfl rfl; (intro w'; go_simp <;> exact rfl); go_frame) | (apply Free.cw_steady rfl rfl rfl; (intro w' hS; have q0 := Free.sx_cell hS y0 (fun _ _ hT => t1 hT); have q1 := Free.sx_cell hS y1 (fun _ _ hT => t1 hT); go_simp <;> exact rfl); go_frame) | (refine Free.cw_skip rfl ?_; go_frame)))
              refine Free.cw_loud rfl rfl (fun K hK => ?_)
              refine wp_appEnt wr.heap.size v5 (.slice (some ⟨g, o, none⟩) 0 0) (L.take k) (L.drop (k + 1)) _ _ rfl rfl rfl hO5.out hT2'.out (by have := hlt1.out; have := hlt2.out; omega) (by omega) ?_
              intro v6 w6 hO6 hG6
              have hge5 := fun b e => ownBlock_ge hO5.out b e
              refine hK _ _ rfl (Free.KeepsP.of hG6.keepsO (fun b hb => .inr (hge5 b (by simpa using hb)))) ?_
              clear hK K
              have b36 := (hG6.keepsO.block (w.heap.size + 1 + 1) (lt_of_block b35.out) (fun hm => by have := hge5 _ (by simpa using hm); omega)).trans b35.out
              have hkr6 := hkr5.out.fresh hG6.keepsO (fun b hb => .inr (by have := hge5 b (by simpa using hb); have := hkr.out.size; omega))
              obtain ⟨r0', r1'⟩ := cells2 b36
              have hrf6 := frozen2 b36
              have hge6 := fun b e => ownBlock_ge hO6 b e
              have hS6 := hO6.sl
              obtain ⟨p6, c6, rfl, _⟩ := hS6.form
              obtain ⟨l6, hl6⟩ : ∃ l, (L.take k ++ L.drop (k + 1)).length = l := ⟨_, rfl⟩
              rw [hl6] at hS6 hge6 ⊢
              obtain ⟨g1, g2⟩ := set2_all b36 (.int .i64 N) (.slice p6 l6 c6)
              replace g1 := Lib.hid g1
              replace g2 := Lib.hid g2
              replace hS6 := Lib.hid hS6
              replace hkr6 := Lib.hid hkr6
              replace hl6 := Lib.hid hl6
              clear hG6 hO6 b36
              (repeat (apply Free.cw_pure rfl rfl; (intro w'; go_simp <;> exact rfl); go_frame))
              refine Free.cw_loud rfl rfl (fun K hK => ?_)
              go_wp2
              refine hK _ _ rfl (Free.KeepsP.of g2.out (fun b hb => .inl (by simpa using hb))) ?_
              clear hK K
              (repeat (apply Free.cw_pure rfl rfl; (intro w'; go_simp <;> exact rfl); go_frame))
              refine Free.cw_nil ?_
              go_wp2
              refine bodyPost_ret (results_ref2 rfl _ _ _ _ _ _ _ rfl g1.out) ?_ ?_
              · rfl
              · exact ⟨_, _, 0, rfl, hb9.out _ _ (.inr (.inr ⟨by rw [hz.out]; exact hz0, hnone.out, rfl, rfl⟩)), hS6.out.keepS g2.out (fun b hb e => by have := hge6 b e; simp at hb; omega), ⟨_, _, _, rfl⟩, hkr6.out.fresh g2.out (fun b hb => .inr (by simp at hb; omega))⟩
            · have hMk1 : k + 1 ≤ M := by omega
              have f1 : (k : Int) ≤ (k : Int) + 1 := by omega
              have hwr : IntKind.i64.wrap ((k : Int) + 1) = (k : Int) + 1 := by
                have : M < 900000 := by omega
                simp [IntKind.wrap, IntKind.signed, IntKind.bits]
                omega
              have hwt : ((k : Int) + 1).toNat = k + 1 := by omega
              have f0 : 0 ≤ (k : Int) + 1 := by omega
              have f2 : (k : Int) ≤ (c : Int) := by omega
              have f3 : (k : Int) + 1 ≤ (M : Int) := by omega
              have f4 : (M : Int) ≤ (c : Int) := by omega
              have hT1 : SlE wr (.slice (some ⟨g, o, none⟩) k (c)) (L.take k) := hSr.out.take hM.out (by omega)
              have hT2 : SlE wr (.slice (some ⟨g, o + (k + 1) * 4, none⟩) (M - (k + 1)) (c - (k + 1))) (L.drop (k + 1)) := hSr.out.drop hM.out hMk1
              have hlt1 : (L.take k).length = k := by rw [List.length_take, hM.out]; omega
              have hlt2 : (L.drop (k + 1)).length ≤ M := by rw [List.length_drop, hM.out]; omega
              have hfr := OwE.fresh wr wr.heap.size (Nat.le_refl _)
              have hkA : Keeps [] wr (wr.alloc (.cells #[] 67)) := (Keeps.refl _ _).alloc _
              have hqA : (wr.alloc (.cells #[] 67)).heap.size = wr.heap.size + 1 := by simp
              replace hT1 := Lib.hid hT1
              replace hT2 := Lib.hid hT2
              replace hfr := Lib.hid hfr
              replace hlt1 := Lib.hid hlt1
              replace hlt2 := Lib.hid hlt2
              replace hkA := Lib.hid hkA
              go_wp2
              refine Free.wp_region_chain (fun i => i == 2 || i == 7 || i == 13 || i == 15) (fun i => true) (fun _ b => b = w.heap.size + 1 + 1 ∨ wr.heap.size ≤ b) (by kernel_rfl) (by kernel_rfl) (by kernel_rfl) ?_
              (repeat (first | (apply Free.cw_pure rfl rfl; (intro w'; go_simp <;> exact rfl); go_frame) | (apply Free.cw_steady rfl rfl rfl; (intro w' hS; have q0 := Free.sx_cell hS y0 (fun _ _ hT => t1 hT); have q1 := Free.sx_cell hS y1 (fun _ _ hT => t1 hT); go_simp <;> exact rfl); go_frame) | (refine Free.cw_skip rfl ?_; go_frame)))
              refine Free.cw_loud rfl rfl (fun K hK => ?_)
              go_wp2
              refine hK _ _ rfl (Free.KeepsP.alloc _ _ _) ?_
              clear hK K
              (repeat (first | (apply Free.cw_pure rfl rfl; (intro w'; go_simp <;> exact rfl); go_frame) | (apply Free.cw_steady rfl rfl rfl; (intro w' hS; have q0 := Free.sx_cell hS y0 (fun _ _ hT => t1 hT); have q1 := Free.sx_cell hS y1 (fun _ _ hT => t1 hT); go_simp <;> exact rfl); go_frame) | (refine Free.cw_skip rfl ?_; go_frame)))
              refine Free.cw_loud rfl rfl (fun K hK => ?_)
              refine wp_appEnt wr.heap.size (.slice (some ⟨wr.heap.size, 0, none⟩) 0 0) (.slice (some ⟨g, o, none⟩) k (c)) [] (L.take k) _ _ rfl rfl rfl (hfr.out.keep ((Keeps.refl [] _).drew)) (hT1.out.keeps (hkA.out.drew)) (by simp; omega) (by simp) ?_
              intro v5 w5 hO5 hG5
              rw [List.nil_append] at hO5
              have hk5 := hG5.keeps (a := wr) (hkA.out.drew) (fun b hb => by simp [Value.ownBlock] at hb; omega)
              refine hK _ _ rfl (Free.KeepsP.of hG5.keepsO (fun b hb => .inr (by simp [Value.ownBlock] at hb; omega))) ?_
              clear hK K
              have hT2' := hT2.out.keeps hk5
              have hkr5 := hkr.out.trans hk5
              have b35 := (hk5.block _ hq (by simp)).trans b3r.out
              have hsz5 := hk5.size
              replace hO5 := Lib.hid hO5
              replace hT2' := Lib.hid hT2'
              replace hkr5 := Lib.hid hkr5
              replace b35 := Lib.hid b35
              clear hG5 hk5
              (repeat (first | (apply Free.cw_pure rfl rfl; (intro w'; go_simp <;> exact rfl); go_frame) | (apply Free.cw_steady rfl rfl rfl; (intro w' hS; have q0 := Free.sx_cell hS y0 (fun _ _ hT => t1 hT); have q1 := Free.sx_cell hS y1 (fun _ _ hT => t1 hT); go_simp <;> exact rfl); go_frame) | (refine Free.cw_skip rfl ?_; go_frame)))
              refine Free.cw_loud rfl rfl (fun K hK => ?_)
              refine wp_appEnt wr.heap.size v5 (.slice (some ⟨g, o + (k + 1) * 4, none⟩) (M - (k + 1)) (c - (k + 1))) (L.take k) (L.drop (k + 1)) _ _ rfl rfl rfl hO5.out hT2'.out (by have := hlt1.out; have := hlt2.out; omega) (by omega) ?_
              intro v6 w6 hO6 hG6
              have hge5 := fun b e => ownBlock_ge hO5.out b e
              refine hK _ _ rfl (Free.KeepsP.of hG6.keepsO (fun b hb => .inr (hge5 b (by simpa using hb)))) ?_
              clear hK K
              have b36 := (hG6.keepsO.block (w.heap.size + 1 + 1) (lt_of_block b35.out) (fun hm => by have := hge5 _ (by simpa using hm); omega)).trans b35.out
              have hkr6 := hkr5.out.fresh hG6.keepsO (fun b hb => .inr (by have := hge5 b (by simpa using hb); have := hkr.out.size; omega))
              obtain ⟨r0', r1'⟩ := cells2 b36
              have hrf6 := frozen2 b36
              have hge6 := fun b e => ownBlock_ge hO6 b e
              have hS6 := hO6.sl
              obtain ⟨p6, c6, rfl, _⟩ := hS6.form
              obtain ⟨l6, hl6⟩ : ∃ l, (L.take k ++ L.drop (k + 1)).length = l := ⟨_, rfl⟩
              rw [hl6] at hS6 hge6 ⊢
              obtain ⟨g1, g2⟩ := set2_all b36 (.int .i64 N) (.slice p6 l6 c6)
              replace g1 := Lib.hid g1
              replace g2 := Lib.hid g2
              replace hS6 := Lib.hid hS6
              replace hkr6 := Lib.hid hkr6
              replace hl6 := Lib.hid hl6
              clear hG6 hO6 b36
              (repeat (apply Free.cw_pure rfl rfl; (intro w'; go_simp <;> exact rfl); go_frame))
              refine Free.cw_loud rfl rfl (fun K hK => ?_)
              go_wp2
              refine hK _ _ rfl (Free.KeepsP.of g2.out (fun b hb => .inl (by simpa using hb))) ?_
              clear hK K
              (repeat (apply Free.cw_pure rfl rfl; (intro w'; go_simp <;> exact rfl); go_frame))
              refine Free.cw_nil ?_
              go_wp2
              refine bodyPost_ret (results_ref2 rfl _ _ _ _ _ _ _ rfl g1.out) ?_ ?_
              · rfl
              · exact ⟨_, _, 0, rfl, hb9.out _ _ (.inr (.inr ⟨by rw [hz.out]; exact hz0, hnone.out, rfl, rfl⟩)), hS6.out.keepS g2.out (fun b hb e => by have := hge6 b e; simp at hb; omega), ⟨_, _, _, rfl⟩, hkr6.out.fresh g2.out (fun b hb => .inr (by simp at hb; omega))⟩
    · replace hnone := Lib.hid hnone
      go_wp2
      obtain ⟨g1, g2⟩ := set2_all b32.out (.int .i64 N) (.slice ad M c)
      refine bodyPost_ret (results_ref2 rfl _ _ _ _ _ _ _ rfl g1) ?_ ?_
      · rfl
      · exact ⟨_, L, 6, rfl, .inr ⟨hc.out, .inl ⟨hnone.out, rfl, rfl⟩⟩, h.out.keeps (hk02.out.fresh g2 (fun b hb => .inr (by simp at hb; omega))), ⟨_, _, _, rfl⟩, hk02.out.fresh g2 (fun b hb => .inr (by simp at hb; omega))⟩
  · rw [hE]
    clear hE
    replace hc := Lib.hid hc
    go_wp2
    obtain ⟨g1, g2⟩ := set2_all b31.out (.int .i64 N) (.slice ad M c)
    refine bodyPost_ret (results_ref2 rfl _ _ _ _ _ _ _ rfl g1) ?_ ?_
    · rfl
    · exact ⟨_, L, 1, rfl, .inl ⟨hc.out, rfl, rfl⟩, h.out.keeps (hk01.out.fresh g2 (fun b hb => .inr (by simp at hb; omega))), ⟨_, _, _, rfl⟩, hk01.out.fresh g2 (fun b hb => .inr (by simp at hb; omega))⟩
end Go.Proofs.Ythhhciofcmmnfaa

namespace Go.Proofs.Ythhhciofcmmnfaa
open Go.RowKit

theorem infoI : (Try.prog.info? 3).map (fun i => (i.zero, i.size, i.bytes)) = some (some (.int .i64 0), 1, 8) := by kernel_rfl
def OwZ (w : World) (B : Nat) (v : Value) (l : List Int) : Prop := w.ownsRow B 3 1 v l.length (ints l)
theorem OwZ.slZ {w : World} {B : Nat} {v : Value} {l : List Int} (h : OwZ w B v l) : SlZ w v l := Sl.of_owns h
theorem OwZ.fresh (w : World) (B : Nat) (h : B ≤ w.heap.size) : OwZ (w.alloc (.cells #[] 3)) B (.slice (some ⟨w.heap.size, 0, none⟩) 0 0) [] :=
  ⟨rfl, .inr ⟨w.heap.size, 0, #[], rfl, h, heap_alloc_new w _, Nat.le_refl _, by simp [maxLen], rfl, rfl⟩⟩
theorem OwZ.keep {w w' : World} {B : Nat} {v : Value} {L : List Int} (h : OwZ w B v L) (hk : Keeps [] w w') : OwZ w' B v L := by
  refine ⟨h.1, ?_⟩
  rcases h.2 with hn | ⟨g, cap, cur, rfl, hb, hg, rest⟩
  · exact .inl hn
  · exact .inr ⟨g, cap, cur, rfl, hb, (hk.block g (Array.getElem?_eq_some_iff.1 hg).1 (by simp)).trans hg, rest⟩
theorem wpl_appZ {w : World} {ops : Array Oper} {rest : List Oper} {o : Oper} {a : Act} {Q : Exit → Act → World → Prop} (B : Nat) (v v2 : Value) (L M : List Int) (hg : o.guard = none) (s x : Operand)
    (ho : o.op = .call { callee := .builtin .append, args := #[s, x], argTypes := #[37, 37] }) (hs : a.eval s = v) (hx : a.eval x = v2) (h : OwZ w B v L) (hsl : SlZ w v2 M) (hl : L.length + M.length < 3000000) (hB : B ≤ w.heap.size)
    (hK : ∀ v' w', OwZ w' B v' (L ++ M) → Grw w w' v v' → wpList Try.prog ops Q rest (a.put o.dst v') w') : wpList Try.prog ops Q (o :: rest) a w := by
  obtain ⟨i0, hi, hz0, hz1, hz2⟩ := info_parts infoI
  refine wpl_append_x hg s x _ ho B 3 i0 _ 1 8 Try.underlying37 hi hz0 hz1 hz2 rfl (by decide) v L.length (ints L) hs h v2 M.length (ints M) hx hsl (fun u hu => by obtain ⟨z, _, rfl⟩ := List.mem_map.1 hu; rfl) (by unfold maxLen; omega) (by omega) hB ?_
  intro v' w' h1 h2 _
  refine hK v' w' ?_ h2
  unfold OwZ
  rw [show ints (L ++ M) = ints L ++ ints M from List.map_append, List.length_append]
  exact h1
/-- The reference's walk, of at most so many machines. -/
def rw8 (L : List EntV) (a s : Int) : Nat → Int → List Int
  | 0, _ => []
  | f + 1, m => match L.find? (fun e => e.is m a s) with
    | none => []
    | some e => e.m :: rw8 L a s f e.r
theorem FindR.some {L : List EntV} {m a s : Int} {k : Nat} (hk : k < L.length) (h : L[k].is m a s = true) (hf : ∀ j (hj : j < L.length), j < k → L[j].is m a s = false) : L.find? (fun e => e.is m a s) = .some L[k] := by
  rw [List.find?_eq_some_iff_getElem]
  exact ⟨h, k, hk, rfl, fun j hj => by simp [hf j (by omega) hj]⟩
theorem FindR.none {L : List EntV} {m a s : Int} (h : ∀ x ∈ L, x.is m a s = false) : L.find? (fun e => e.is m a s) = .none := List.find?_eq_none.2 (fun x hx => by simp [h x hx])
/-- What the reference's Walk gives. -/
def WalkL (N : Int) (L : List EntV) (x a s : Int) (c : Int) (l : List Int) : Prop :=
  (chkB N [x, x] a s = false ∧ c = 1 ∧ l = []) ∨ (chkB N [x, x] a s = true ∧ l = rw8 L a s 8 x ∧ ((l = [] ∧ c = 6) ∨ (l ≠ [] ∧ c = 0)))
def slen : Value → Nat
  | .slice _ n _ => n
  | _ => 0
def WalkLPost (w : World) (N : Int) (L : List EntV) (x a s : Int) (e : Ending) (w' : World) : Prop := ∃ c l v, e = .returned (.tuple #[v, .int .i64 c]) ∧ WalkL N L x a s c l ∧ SlZ w' v l ∧ Keeps [] w w'
set_option maxRecDepth 100000 in
set_option maxHeartbeats 2000000 in
theorem walkR_c (w : World) (N : Int) (v : Value) (L : List EntV) (x a s : Int) (h : SlE w v L) (hlen : L.length < 900000) :
    Calls Try.prog 15 #[refV N v, .int .i64 x, idV a s] w (WalkLPost w N L x a s) := by
  obtain ⟨ad, c, rfl, hlc, hcm, hnn⟩ := h.form
  have hel := fun k hk => h.elem (k := k) hk
  replace hel := Lib.hid hel
  obtain ⟨M, hM⟩ : ∃ N, L.length = N := ⟨_, rfl⟩
  rw [hM] at hlc hlen ⊢
  obtain ⟨b1, b2, hk0, _⟩ := two_boxes w (.cells #[.int .i64 N, .slice ad M c] 27) (.cells #[.int .i64 a, .int .i64 s] 31)
  have hS0 := h.keeps hk0
  rw [hM] at hS0
  replace hM := Lib.hid hM
  replace b1 := Lib.hid b1
  replace b2 := Lib.hid b2
  replace hk0 := Lib.hid hk0
  replace hS0 := Lib.hid hS0
  clear h
  go_enter Try.func15, Try.ntmps15
  go_wp2_with fail
  generalize hW : (w.alloc (.cells #[.int .i64 N, .slice ad M c] 27)).alloc (.cells #[.int .i64 a, .int .i64 s] 31) = W at *
  clear hW
  refine (chkR_c W N x x a s (.slice ad M c) ⟨_, _, _, rfl⟩).mono ?_
  rintro e w1 ⟨rfl, hk1⟩
  obtain ⟨y0, y1⟩ := cells2 ((hk1.block _ (lt_of_block b1.out) (by simp)).trans b1.out)
  obtain ⟨z0, z1⟩ := cells2 ((hk1.block _ (lt_of_block b2.out) (by simp)).trans b2.out)
  have hS1 := hS0.out.keeps hk1
  have hk01 := hk0.out.trans hk1
  replace hS1 := Lib.hid hS1
  replace hk01 := Lib.hid hk01
  clear hk1 hS0 b1 b2 hk0
  rcases chkE_cases N [x, x] a s with ⟨hc, hE⟩ | ⟨hc, hE⟩
  · rw [hE]
    clear hE
    replace hc := Lib.hid hc
    have q0 := lt_of_cell y0
    have q1 := lt_of_cell z0
    have Y0 := Lib.hid y0
    have Y1 := Lib.hid y1
    have Z0 := Lib.hid z0
    have Z1 := Lib.hid z1
    have hkA : Keeps [] w1 (w1.alloc (.cells #[] 3)) := (Keeps.refl _ _).alloc _
    have hfr := OwZ.fresh w1 w1.heap.size (Nat.le_refl _)
    have hSA := hS1.out.keeps hkA
    replace hkA := Lib.hid hkA
    replace hfr := Lib.hid hfr
    replace hSA := Lib.hid hSA
    go_wp2_with fail
    refine (find_c _ N (.slice ad M c) L x a s hSA.out).mono ?_
    rintro e w2 ⟨i, rfl, hF, hk2⟩
    have hkA2 := hkA.out.trans hk2
    have hk02 := hk01.out.trans hkA2
    have hO2 := hfr.out.keep hk2
    have hkA2' := hkA2
    have hsz2 := hkA2.size
    replace hk02 := Lib.hid hk02
    replace hO2 := Lib.hid hO2
    replace hF := Lib.hid hF
    replace hkA2' := Lib.hid hkA2'
    clear hk2 hkA2 hkA hfr hSA
    go_wp2
    go_loopw [9, 10] (fun out iv wr => ∃ (pre : List Int) (m i : Int) (ao : Option Addr) (co : Nat), iv = .int .i64 i ∧ out = .slice ao pre.length co ∧ OwZ wr w1.heap.size (.slice ao pre.length co) pre ∧ FindR L m a s i ∧ rw8 L a s 8 x = pre ++ rw8 L a s (8 - pre.length) m ∧ pre.length ≤ 8 ∧ Keeps [] w1 wr) (fun out _ _ => 8 - slen out)
    case atStart => exact ⟨[], x, i, _, _, rfl, rfl, hO2.out, hF.out, rfl, by simp, hkA2'.out⟩
    case round =>
      obtain ⟨pre, m, ii, ao, co, rfl, rfl, hO, hFr, hrw, hp8, hkw⟩ := hrel
      clear hO2 hF hkA2' hk02
      replace y0 := hkw.val y0
      replace y1 := hkw.val y1
      replace z0 := hkw.val z0
      replace z1 := hkw.val z1
      have hSr := hS1.out.keeps hkw
      have hkr := hk01.out.trans hkw
      have hszr := hkw.size
      obtain ⟨pl, hpl⟩ : ∃ n, pre.length = n := ⟨_, rfl⟩
      rw [hpl] at hO hp8 hrw ⊢
      replace hO := Lib.hid hO
      replace hrw := Lib.hid hrw
      replace hkw := Lib.hid hkw
      replace hSr := Lib.hid hSr
      replace hkr := Lib.hid hkr
      have hfin : (rw8 L a s (8 - pl) m = []) → pre = rw8 L a s 8 x := fun h => by rw [hrw.out, h, List.append_nil]
      replace hfin := Lib.hid hfin
      replace hpl := Lib.hid hpl
      have hend : pre = rw8 L a s 8 x → WalkLPost w N L x a s (.returned (.tuple #[.slice (if pl = 0 then none else ao) pl (if pl = 0 then 0 else co), .int .i64 (if pl = 0 then 6 else 0)])) wr → True := fun _ _ => trivial
      clear hend
      rcases hFr with ⟨k, hk, rfl, his, hfirst⟩ | ⟨rfl, hnone⟩
      · have hfs := FindR.some hk his hfirst
        by_cases h8 : pl < 8
        · have hkM : k < M := by rw [← hM.out]; exact hk
          obtain ⟨g, o, c', hv, e0, _, _, e3⟩ := hel.out k hk
          cases hv
          replace e0 := hkr.out.val e0
          have E3 := Lib.hid e3
          replace e3 := hkr.out.val e3
          obtain ⟨zm, hzm⟩ : ∃ z, L[k].m = z := ⟨_, rfl⟩
          obtain ⟨zr, hzr⟩ : ∃ z, L[k].r = z := ⟨_, rfl⟩
          rw [hzm] at e0
          rw [hzr] at e3 E3
          have hstep : rw8 L a s (8 - pl) m = zm :: rw8 L a s (8 - (pl + 1)) zr := by
            rw [show 8 - pl = (8 - (pl + 1)) + 1 by omega]
            simp only [rw8, hfs, hzm, hzr]
          replace hstep := Lib.hid hstep
          replace hzm := Lib.hid hzm
          replace hzr := Lib.hid hzr
          clear his hfirst hfs hfin
          have hkA : Keeps [] wr (wr.alloc (.cells #[.int .i64 zm] 3)) := (Keeps.refl _ _).alloc _
          have hone := SlZ.one1 wr zm 3
          have hOA := hO.out.keep hkA
          replace hkA := Lib.hid hkA
          replace hone := Lib.hid hone
          replace hOA := Lib.hid hOA
          go_wp2_with (at_builtin; (refine wpl_appZ w1.heap.size (.slice ao pl co) (.slice (some ⟨wr.heap.size, 0, none⟩) 1 1) pre [zm] rfl _ _ rfl rfl rfl hOA.out hone.out (by simp [hpl.out]; omega) (by simp; omega) ?_; intro v3 w3 hO3 hG3))
          have hge := fun b e => ownBlock_ge hO.out b e
          have hk13 := (hkw.out.trans hkA.out).fresh hG3.keepsO (fun b hb => .inr (hge b (by simpa using hb)))
          have hk03 := hk01.out.trans hk13
          replace y0 := hk13.val Y0.out
          replace y1 := hk13.val Y1.out
          replace z0 := hk13.val Z0.out
          replace z1 := hk13.val Z1.out
          replace e3 := hk03.val E3.out
          have hS3 := hS1.out.keeps hk13
          obtain ⟨p3, c3, rfl, _⟩ := hO3.slZ.form
          rw [show (pre ++ [zm]).length = pl + 1 by simp [hpl.out]] at hO3 ⊢
          replace hO3 := Lib.hid hO3
          replace hk13 := Lib.hid hk13
          replace hS3 := Lib.hid hS3
          clear hG3 hOA hone hkA hk03 e0
          refine Free.wp_region_chain (fun i => i == 8) (fun i => true) (fun _ b => False) (by kernel_rfl) (by kernel_rfl) (by kernel_rfl) ?_
          (repeat (first | (apply Free.cw_pure rfl rfl; (intro w'; go_simp <;> exact rfl); go_frame) | (apply Free.cw_steady rfl rfl rfl; (intro w' hS; have q0 := Free.sx_cell hS y0 (fun _ _ hT => hT); have q1 := Free.sx_cell hS y1 (fun _ _ hT => hT); have q2 := Free.sx_cell hS z0 (fun _ _ hT => hT); have q3 := Free.sx_cell hS z1 (fun _ _ hT => hT); have q4 := Free.sx_cell hS e3 (fun _ _ hT => hT); go_simp <;> exact rfl); go_frame) | (refine Free.cw_skip rfl ?_; go_frame)))
          refine Free.cw_loud rfl rfl (fun K hK => ?_)
          go_wp2_with fail
          refine (find_c _ N (.slice (some ⟨g, o, none⟩) M c) L zr a s (hS3.out.keeps ((Keeps.refl [] w3).drew))).mono ?_
          rintro e w4 ⟨i4, rfl, hF4, hk4⟩
          refine hK _ _ rfl (Free.KeepsP.of hk4 (by simp)) ?_
          clear hK K
          have hk34 : Keeps [] w3 w4 := ((Keeps.refl [] w3).drew).trans hk4
          have hO4 := hO3.out.keep hk34
          have hk14 := hk13.out.trans hk34
          replace hO4 := Lib.hid hO4
          replace hk14 := Lib.hid hk14
          replace hF4 := Lib.hid hF4
          clear hk4 hk34
          (repeat (apply Free.cw_pure rfl rfl; (intro w'; go_simp <;> exact rfl); go_frame))
          refine Free.cw_nil ?_
          go_wp2
          go_roundw
          case rel => exact ⟨pre ++ [zm], zr, i4, p3, c3, rfl, by simp [hpl.out], by rw [show (pre ++ [zm]).length = pl + 1 by simp [hpl.out]]; exact hO4.out, hF4.out, by rw [hrw.out, hstep.out]; simp [hpl.out], by simp [hpl.out]; omega, hk14.out⟩
          case measure => simp [slen, hpl.out]; omega
        · have hn8 : 8 - pl = 0 := by omega
          replace hfin := hfin.out (by rw [hn8]; rfl)
          have hpl0 : (pl == 0) = false := by simp; omega
          clear his hfirst hfs hk
          go_wp2
          go_ret2
          exact ⟨0, pre, _, rfl, .inr ⟨hc.out, hfin, .inr ⟨fun h => by have := hpl.out; rw [h] at this; simp at this; omega, rfl⟩⟩, hO.out.slZ, hkr.out⟩
      · have hno := FindR.none hnone
        replace hfin := hfin.out (by
          cases h : 8 - pl with
          | zero => rfl
          | succ f => simp [rw8, hno])
        by_cases h0 : pl = 0
        · have hpl0 : (pl == 0) = true := by simp [h0]
          go_wp2
          go_ret2
          have hp0 : pre = [] := List.eq_nil_of_length_eq_zero (by rw [hpl.out]; exact h0)
          exact ⟨6, [], _, rfl, .inr ⟨hc.out, by rw [← hfin, hp0], .inl ⟨rfl, rfl⟩⟩, Sl.nil _ _, hkr.out⟩
        · have hpl0 : (pl == 0) = false := by simpa using h0
          go_wp2
          go_ret2
          exact ⟨0, pre, _, rfl, .inr ⟨hc.out, hfin, .inr ⟨fun h => by have := hpl.out; rw [h] at this; simp at this; omega, rfl⟩⟩, hO.out.slZ, hkr.out⟩
  · rw [hE]
    clear hE
    replace hc := Lib.hid hc
    go_wp2
    go_ret2
    exact ⟨1, [], _, rfl, .inl ⟨hc.out, rfl, rfl⟩, Sl.nil _ _, hk01.out⟩
end Go.Proofs.Ythhhciofcmmnfaa

namespace Go.Proofs.Ythhhciofcmmnfaa
open Go.RowKit
/-- Every cell that holds a number holds it still. -/
def KI (w w' : World) : Prop := ∀ b o x, w.cell? ⟨b, o, none⟩ = some (.int .i64 x) → w'.cell? ⟨b, o, none⟩ = some (.int .i64 x)
theorem KI.refl (w : World) : KI w w := fun _ _ _ h => h
theorem KI.trans {a b c : World} (h : KI a b) (k : KI b c) : KI a c := fun i o x hx => k i o x (h i o x hx)
theorem Keeps.ki {S : List Nat} {w w' : World} (h : Keeps S w w') (hS : ∀ b ∈ S, ∀ o x, w.cell? ⟨b, o, none⟩ ≠ some (.int .i64 x)) : KI w w' := fun b o x hx => by
  by_cases hb : b ∈ S
  · exact absurd hx (hS b hb o x)
  · rw [h.cell b o (lt_of_cell hx) hb]; exact hx
theorem Keeps.ki0 {w w' : World} (h : Keeps [] w w') : KI w w' := h.ki (by simp)
theorem KI.alloc (w : World) (o : Obj) : KI w (w.alloc o) := ((Keeps.refl [] w).alloc o).ki0
theorem KI.drew (w : World) : KI w w.drew := fun _ _ _ h => h
theorem KI.setCell (w : World) {b o : Nat} {u : Value} (v : Value) (h : w.cell? ⟨b, o, none⟩ = some u) (hu : ∀ x, u ≠ .int .i64 x) : KI w (w.setCell ⟨b, o, none⟩ v) := fun i j x hx => by
  rw [World.cell?_setCell_other]
  · exact hx
  · intro e; cases e; rw [h] at hx; cases hx; exact hu _ rfl
theorem SlZ.ki {w w' : World} {v : Value} {l : List Int} (h : SlZ w v l) (hk : KI w w') : SlZ w' v l := by
  obtain ⟨h1, a, cap, rfl, h2, h3, h0, h4⟩ := h
  refine ⟨h1, a, cap, rfl, h2, h3, h0, fun hp => ?_⟩
  obtain ⟨g, o, rfl, hc⟩ := h4 hp
  refine ⟨g, o, rfl, fun j u hj => ?_⟩
  have := hc j u hj
  obtain ⟨b, _, rfl⟩ := List.mem_map.1 (List.mem_of_getElem? hj)
  exact hk _ _ _ this
/-- A slice grows whose block has no numbers. -/
theorem Grw.ki {w w' : World} {v v' : Value} (k : Grw w w' v v') (h : AllC w v (fun u => ∀ x, u ≠ .int .i64 x)) : KI w w' :=
  k.keepsO.ki fun b hb o x e => h b (by simpa using hb) o _ e x rfl
theorem infoZZ : (Try.prog.info? 37).map (fun i => (i.zero, i.size, i.bytes)) = some (some (.slice none 0 0), 1, 24) := by kernel_rfl
def noI (u : Value) : Prop := ∀ x, u ≠ .int .i64 x
/-- A list of lists of numbers in memory of the call's own. -/
def KZ (w : World) (B : Nat) (v : Value) (ls : List (List Int)) : Prop :=
  ∃ cs : List Value, w.ownsRow B 37 1 v ls.length cs ∧ (∀ (k : Nat) (c : Value) (l : (List Int)), cs[k]? = some c → ls[k]? = some l → SlZ w c l) ∧ AllC w v noI
theorem KZ.form {w : World} {B : Nat} {v : Value} {ls : List (List Int)} (h : KZ w B v ls) : ∃ a c, v = .slice a ls.length c := by
  obtain ⟨cs, hown, _⟩ := h
  rcases hown.2 with ⟨rfl, h0⟩ | ⟨g, cap, cur, rfl, _⟩
  · rw [h0]; exact ⟨_, _, rfl⟩
  · exact ⟨_, _, rfl⟩
theorem KZ.keep {w w' : World} {B : Nat} {v : Value} {ls : List (List Int)} {S : List Nat} (h : KZ w B v ls) (hk : Keeps S w w') (hS : ∀ b ∈ S, v.ownBlock ≠ some b) (hb : KI w w') : KZ w' B v ls := by
  obtain ⟨cs, hown, hel, hall⟩ := h
  refine ⟨cs, ?_, fun k c l h1 h2 => (hel k c l h1 h2).ki hb, fun g hg o u hu => ?_⟩
  · refine ⟨hown.1, ?_⟩
    rcases hown.2 with hn | ⟨g, cap, cur, rfl, hb, hg, rest⟩
    · exact .inl hn
    · exact .inr ⟨g, cap, cur, rfl, hb, (hk.block g (Array.getElem?_eq_some_iff.1 hg).1 (fun hm => hS g hm rfl)).trans hg, rest⟩
  · rcases hown.2 with ⟨rfl, _⟩ | ⟨g', cap, cur, rfl, _, hgb, _⟩
    · simp [Value.ownBlock] at hg
    · have e : g' = g := by simpa [Value.ownBlock] using hg
      subst e
      rw [hk.cell g' o (Array.getElem?_eq_some_iff.1 hgb).1 (fun hm => hS g' hm rfl)] at hu
      exact hall g' rfl o u hu
/-- One list of numbers more. -/
theorem wp_pushZ {o : Oper} {a : Act} {K : Act → World → Prop} {Q : Exit → Act → World → Prop} (w : World) (B : Nat) (v c : Value) (ls : List (List Int)) (l : (List Int)) (s t : Operand)
    (ho : o.op = .call { callee := .builtin .append, args := #[s, t], argTypes := #[44, 44] }) (hs : a.eval s = v) (ht : a.eval t = .slice (some ⟨w.heap.size, 0, none⟩) 1 1)
    (h : KZ w B v ls) (hc : SlZ w c l) (hl : ls.length < 1099511627776) (hB : B ≤ w.heap.size)
    (hK : ∀ v' w', KZ w' B v' (ls ++ [l]) → Grw (w.alloc (.cells #[c] 37)) w' v v' → KI w w' → K (a.put o.dst v') w') : o.wp Try.prog a (w.alloc (.cells #[c] 37)) K Q := by
  obtain ⟨i0, hi, hz0, hz1, hz2⟩ := info_parts infoZZ
  obtain ⟨cs, hown, hel, hall⟩ := h
  obtain ⟨ac, cc, rfl, _⟩ := hc.form
  refine wp_append_x s t _ ho B 37 i0 (.slice none 0 0) 1 24 Try.underlying44 hi hz0 hz1 hz2 rfl (by decide) v ls.length cs hs (hown.alloc _) _ 1 [.slice ac l.length cc] ht (Sl.one w _ _) (by simp [Value.oneCell']) (by unfold maxLen; omega) (by omega) (by simp; omega) ?_
  intro v' w' h1 h2 h3
  have hall' : AllC (w.alloc (.cells #[.slice ac l.length cc] 37)) v noI := fun g hg o u hu => by
    have hlt := (hown.lt g hg).2
    rw [((Keeps.refl [] w).alloc _).cell g o hlt (by simp)] at hu
    exact hall g hg o u hu
  have hkb : KI w w' := (KI.alloc w _).trans (h2.ki hall')
  refine hK v' w' ⟨cs ++ [.slice ac l.length cc], by simpa using h1, fun k c' l' e1 e2 => ?_, h3 noI (by simp [noI]) (by simp [Value.cells, noI]) hall'⟩ h2 hkb
  have hlen : cs.length = ls.length := by have := hown.1; omega
  rcases Nat.lt_or_ge k cs.length with hk | hk
  · rw [List.getElem?_append_left hk] at e1
    rw [List.getElem?_append_left (by omega)] at e2
    exact (hel k c' l' e1 e2).ki hkb
  · rw [List.getElem?_append_right hk] at e1
    rw [List.getElem?_append_right (by omega)] at e2
    have : k - cs.length = 0 := by
      have := (List.getElem?_eq_some_iff.1 e1).1
      simp at this; omega
    rw [this] at e1
    rw [show k - ls.length = 0 by omega] at e2
    simp at e1 e2
    subst e1 e2
    exact hc.ki hkb
/-- .. at the operation. -/
theorem wpl_pushZ {ops : Array Oper} {rest : List Oper} {o : Oper} {a : Act} {Q : Exit → Act → World → Prop} (w : World) (B : Nat) (v c : Value) (ls : List (List Int)) (l : (List Int)) (hg : o.guard = none) (s t : Operand)
    (ho : o.op = .call { callee := .builtin .append, args := #[s, t], argTypes := #[44, 44] }) (hs : a.eval s = v) (ht : a.eval t = .slice (some ⟨w.heap.size, 0, none⟩) 1 1)
    (h : KZ w B v ls) (hc : SlZ w c l) (hl : ls.length < 1099511627776) (hB : B ≤ w.heap.size)
    (hK : ∀ v' w', KZ w' B v' (ls ++ [l]) → Grw (w.alloc (.cells #[c] 37)) w' v v' → KI w w' → wpList Try.prog ops Q rest (a.put o.dst v') w') : wpList Try.prog ops Q (o :: rest) a (w.alloc (.cells #[c] 37)) :=
  wpList_plain hg fun _ hK' => wp_pushZ w B v c ls l s t ho hs ht h hc hl hB fun v' w' h1 h2 h3 => hK' _ _ (hK v' w' h1 h2 h3)
end Go.Proofs.Ythhhciofcmmnfaa

namespace Go.Proofs.Ythhhciofcmmnfaa
open Go.RowKit

theorem setBlock_twice (w : World) (b : Nat) (x y : Obj) : ChangeMaps.setBlock (ChangeMaps.setBlock w b x) b y = ChangeMaps.setBlock w b y := by
  simp [ChangeMaps.setBlock]
theorem MP.entry {w : World} {bm n : Nat} {G : Pt} (h : MP w bm n G) (m a s : Int) (hm : W64 m) (ha : W64 a) (hs : W64 s) (hn : n < maxLen) (v : Int) :
    ∃ v0 st w1 w2, (Instr.mapEntry 61 (.map (some bm)) (plc m a s)).run Try.prog w = .ok (.tuple #[v0, .int .i64 st]) w1 ∧ Keeps [bm] w w1 ∧
      (Instr.entryStore 61 (.map (some bm)) (.int .i64 st) (.int .i64 v)).run Try.prog w1 = .ok () w2 ∧ MP w2 bm (n + 1) (updP G m a s v) ∧ Keeps [bm] w1 w2 := by
  obtain ⟨w', hput, hmp, hk⟩ := h.put m a s hm ha hs hn v
  obtain ⟨D, ⟨es, clock, hb, F, hs0, hD⟩, hG⟩ := h
  obtain ⟨l, hl⟩ := plc_key m a s hm ha hs
  obtain ⟨v0, st, es1, clock1, h1, _, h2⟩ := WideElems.entry_then_store placeLaw Try.underlying61 zeroI hb F hl
  have hlt : bm < w.heap.size := (Array.getElem?_eq_some_iff.1 hb).1
  have hb1 : (ChangeMaps.setBlock w bm (.map es1 clock1)).heap[bm]? = some (.map es1 clock1) := Go.ChangeMaps.heap_setBlock_same hb _
  obtain ⟨es', clock', h3, h4⟩ := h2 _ (.int .i64 v) hb1
  rw [setBlock_twice] at h3
  rw [hput] at h4
  have e : w' = ChangeMaps.setBlock w bm (.map es' clock') := by simpa using h4
  have hkk : ∀ (W : World) (o' : Obj), Keeps [bm] W (ChangeMaps.setBlock W bm o') := fun W o' => ⟨rfl, rfl, rfl, by simp [ChangeMaps.setBlock], fun k hk hn => by
    have hn' : ¬ bm = k := fun e => hn (by simp [e])
    simp [ChangeMaps.setBlock, Array.getElem?_setIfInBounds, hn']⟩
  refine ⟨v0, st, _, _, h1, hkk w _, h3, e ▸ hmp, ?_⟩
  have := hkk (ChangeMaps.setBlock w bm (.map es1 clock1)) (.map es' clock')
  rwa [setBlock_twice] at this
/-- Move. -/
def MoveR (N : Int) (G : Pt) (x y a s : Int) (c : Int) (G' : Pt) : Prop :=
  (chkB N [x, y] a s = false ∧ c = 1 ∧ G' = G) ∨ (chkB N [x, y] a s = true ∧ ((G x a s = 0 ∧ c = 6 ∧ G' = G) ∨ (G x a s ≠ 0 ∧ G x a s ≠ x ∧ c = 9 ∧ G' = G) ∨ (G x a s = x ∧ c = 0 ∧ G' = updP (updP G x a s y) y a s y)))
set_option maxRecDepth 100000 in
set_option maxHeartbeats 1000000 in
theorem move_c (w : World) (bw bm n : Nat) (N : Int) (G : Pt) (x y a s : Int) (h : WM w bw bm n N G) (hN : 1 ≤ N ∧ N ≤ 8) (hn : n < 1000000) :
    Calls Try.prog 19 #[.pointer (some ⟨bw, 0, none⟩), .int .i64 x, .int .i64 y, idV a s] w (OpPost w bw bm n N (MoveR N G x y a s)) := by
  have hbm := h.mp.lt
  have hkA : Keeps [] w (w.alloc (.cells #[.int .i64 a, .int .i64 s] 31)) := (Keeps.refl _ _).alloc _
  have hb0 := heap_alloc_new w (.cells #[.int .i64 a, .int .i64 s] 31)
  have hsl := SlZ.two (w.alloc (.cells #[.int .i64 a, .int .i64 s] 31)) x y 3
  have hkB : Keeps [] (w.alloc (.cells #[.int .i64 a, .int .i64 s] 31)) ((w.alloc (.cells #[.int .i64 a, .int .i64 s] 31)).alloc (.cells #[.int .i64 x, .int .i64 y] 3)) := (Keeps.refl _ _).alloc _
  have hWM := h.keeps (hkA.trans hkB)
  have hb1 := (hkB.block _ (by simp) (by simp)).trans hb0
  have hk0 := hkA.trans hkB
  rw [show (w.alloc (.cells #[.int .i64 a, .int .i64 s] 31)).heap.size = w.heap.size + 1 by simp] at hsl
  clear hb0 hkA hkB h
  replace hsl := Lib.hid hsl
  replace hWM := Lib.hid hWM
  replace hb1 := Lib.hid hb1
  replace hk0 := Lib.hid hk0
  have hwb : w.heap.size ≠ bm := by omega
  go_enter Try.func19, Try.ntmps19
  go_wp2_with fail
  generalize hW : (w.alloc (.cells #[.int .i64 a, .int .i64 s] 31)).alloc (.cells #[.int .i64 x, .int .i64 y] 3) = W at *
  clear hW
  refine (check_c _ bw bm n N G a s _ [x, y] hWM.out hsl.out).mono ?_
  rintro e w1 ⟨rfl, hk1⟩
  have hW1 := hWM.out.keeps hk1
  obtain ⟨y0, y1⟩ := cells2 ((hk1.block _ (lt_of_block hb1.out) (by simp)).trans hb1.out)
  obtain ⟨c0, c1, hlt, hne⟩ := hW1.cells
  have hy := lt_of_cell y0
  have hk01 := hk0.out.trans hk1
  replace hk01 := Lib.hid hk01
  clear hk1 hWM hb1 hsl hk0
  rcases chkE_cases N [x, y] a s with ⟨hc, hE⟩ | ⟨hc, hE⟩
  · rw [hE]
    obtain ⟨hr, hwm, ha, hs⟩ := chkB_w hc hN.2
    clear hE
    replace hc := Lib.hid hc
    replace hW1 := Lib.hid hW1
    obtain ⟨z, hz⟩ : ∃ z, G x a s = z := ⟨_, rfl⟩
    have hlook1 := fun nq => (hW1.out.mp.keeps ((Keeps.refl [] w1).drewN nq)).look x a s (hwm x (by simp)) ha hs
    rw [hz] at hlook1
    replace hz := Lib.hid hz
    have hx1 := hr x (by simp)
    by_cases hz0 : z = 0
    · subst hz0
      go_wp2
      (refine wp_region_quiet_lit (by kernel_rfl) (by kernel_rfl) ?_; (repeat (first | go_big_quiet_step (fail) | quiet_step (fail))); with_reducible refine wpQuiet_nil ?_; intro _ hw'; obtain ⟨nq, hw''⟩ := hw'; subst hw'')
      go_wp2
      go_ret
      exact ⟨6, n, G, rfl, .inr ⟨hc.out, .inl ⟨hz.out, rfl, rfl⟩⟩, hW1.out.keeps ((Keeps.refl [] w1).drewN nq), by omega, (hk01.out.drewN nq).of_nil⟩
    · have hz1 : (z == 0) = false := by simpa using hz0
      by_cases hzx : z = x
      · subst hzx
        go_wp2
        (refine wp_region_quiet_lit (by kernel_rfl) (by kernel_rfl) ?_; (repeat (first | go_big_quiet_step (fail) | quiet_step (fail))); with_reducible refine wpQuiet_nil ?_; intro _ hw'; obtain ⟨nq, hw''⟩ := hw'; subst hw'')
        have hk2x : Keeps [] w1 (w1.drewN nq) := (Keeps.refl [] w1).drewN nq
        generalize w1.drewN nq = w2 at hk2x ⊢
        have hW2 := hW1.out.keeps hk2x
        have hk02 := hk01.out.trans hk2x
        replace y0 := hk2x.val y0
        replace y1 := hk2x.val y1
        replace c0 := hk2x.val c0
        replace c1 := hk2x.val c1
        clear hk2x hlook1
        replace hW2 := Lib.hid hW2
        replace hk02 := Lib.hid hk02
        clear hW1 hk01
        go_wp2
        refine Free.wp_region_chain (fun i => i == 16 || i == 18 || i == 19 || i == 21) (fun i => true) (fun _ b => b = bm) (by kernel_rfl) (by kernel_rfl) (by kernel_rfl) ?_
        have hW2d := hW2.out.keeps ((Keeps.refl [] w2).drew)
        obtain ⟨v0, st, wa, wb, hr1, hka, hr2, hmpb, hkb⟩ := hW2d.mp.entry z a s (hwm z (by simp)) ha hs (by unfold maxLen; omega) y
        have hWb := hW2d.turn (hka.trans hkb) hmpb
        obtain ⟨v1, st1, wc, wd, hr3, hkc, hr4, hmpd, hkd⟩ := hWb.mp.entry y a s (hwm y (by simp)) ha hs (by unfold maxLen; omega) y
        have hWd := hWb.turn (hkc.trans hkd) hmpd
        have hkall := ((hk02.out.trans ((Keeps.refl [] w2).drew)).of_nil.trans (hka.trans hkb)).trans (hkc.trans hkd)
        replace hka := Lib.hid hka
        replace hkb := Lib.hid hkb
        replace hkc := Lib.hid hkc
        replace hkd := Lib.hid hkd
        replace hWd := Lib.hid hWd
        replace hkall := Lib.hid hkall
        clear hW2d hWb hmpb hmpd
        (repeat (first | (apply Free.cw_pure rfl rfl; (intro w'; go_simp <;> exact rfl); go_frame) | (apply Free.cw_steady rfl rfl rfl; (intro w' hS; have q0 := Free.sx_cell hS c1 (fun _ _ hT => hne hT); have q1 := Free.sx_cell hS y0 (fun _ _ hT => hwb hT); have q2 := Free.sx_cell hS y1 (fun _ _ hT => hwb hT); go_simp <;> exact rfl); go_frame) | (refine Free.cw_skip rfl ?_; go_frame)))
        refine Free.cw_loud rfl rfl (fun K hK => ?_)
        go_wp2
        refine hK _ _ rfl (Free.KeepsP.of hka.out (fun b hb => by simpa using hb)) ?_
        clear hK K
        (repeat (apply Free.cw_pure rfl rfl; (intro w'; go_simp <;> exact rfl); go_frame))
        refine Free.cw_loud rfl rfl (fun K hK => ?_)
        go_wp2
        refine hK _ _ rfl (Free.KeepsP.of hkb.out (fun b hb => by simpa using hb)) ?_
        clear hK K
        (repeat (apply Free.cw_pure rfl rfl; (intro w'; go_simp <;> exact rfl); go_frame))
        refine Free.cw_loud rfl rfl (fun K hK => ?_)
        go_wp2
        refine hK _ _ rfl (Free.KeepsP.of hkc.out (fun b hb => by simpa using hb)) ?_
        clear hK K
        (repeat (apply Free.cw_pure rfl rfl; (intro w'; go_simp <;> exact rfl); go_frame))
        refine Free.cw_loud rfl rfl (fun K hK => ?_)
        go_wp2
        refine hK _ _ rfl (Free.KeepsP.of hkd.out (fun b hb => by simpa using hb)) ?_
        clear hK K
        (repeat (apply Free.cw_pure rfl rfl; (intro w'; go_simp <;> exact rfl); go_frame))
        refine Free.cw_nil ?_
        go_wp2
        go_ret
        exact ⟨0, n + 1 + 1, _, rfl, .inr ⟨hc.out, .inr (.inr ⟨hz.out, rfl, rfl⟩)⟩, hWd.out, by omega, hkall.out⟩
      · have hz2 : (z == x) = false := by simpa using hzx
        go_wp2
        (refine wp_region_quiet_lit (by kernel_rfl) (by kernel_rfl) ?_; (repeat (first | go_big_quiet_step (fail) | quiet_step (fail))); with_reducible refine wpQuiet_nil ?_; intro _ hw'; obtain ⟨nq, hw''⟩ := hw'; subst hw'')
        go_wp2
        go_ret
        exact ⟨9, n, G, rfl, .inr ⟨hc.out, .inr (.inl ⟨by rw [hz.out]; exact hz0, by rw [hz.out]; exact hzx, rfl, rfl⟩)⟩, hW1.out.keeps ((Keeps.refl [] w1).drewN nq), by omega, (hk01.out.drewN nq).of_nil⟩

  · rw [hE]
    replace hW1 := Lib.hid hW1
    replace hc := Lib.hid hc
    clear hE
    go_wp2
    go_ret
    exact ⟨1, n, G, rfl, .inl ⟨hc.out, rfl, rfl⟩, hW1.out, by omega, hk01.out.of_nil⟩
/-- Drop. -/
def DropR (N : Int) (G : Pt) (x a s : Int) (c : Int) (G' : Pt) : Prop :=
  (chkB N [x] a s = false ∧ c = 1 ∧ G' = G) ∨ (chkB N [x] a s = true ∧ ((G x a s = 0 ∧ c = 6 ∧ G' = G) ∨ (G x a s ≠ 0 ∧ (∃ m, 1 ≤ m ∧ m ≤ N ∧ G m a s = x) ∧ c = 9 ∧ G' = G) ∨ (G x a s ≠ 0 ∧ (∀ m, 1 ≤ m → m ≤ N → G m a s ≠ x) ∧ c = 0 ∧ G' = updP G x a s 0)))
set_option maxRecDepth 100000 in
set_option maxHeartbeats 1000000 in
theorem drop_c (w : World) (bw bm n : Nat) (N : Int) (G : Pt) (x a s : Int) (h : WM w bw bm n N G) (hN : 1 ≤ N ∧ N ≤ 8) (hn : n < 1000000) :
    Calls Try.prog 20 #[.pointer (some ⟨bw, 0, none⟩), .int .i64 x, idV a s] w (OpPost w bw bm n N (DropR N G x a s)) := by
  have hbm := h.mp.lt
  have hkA : Keeps [] w (w.alloc (.cells #[.int .i64 a, .int .i64 s] 31)) := (Keeps.refl _ _).alloc _
  have hb0 := heap_alloc_new w (.cells #[.int .i64 a, .int .i64 s] 31)
  have hsl := SlZ.one1 (w.alloc (.cells #[.int .i64 a, .int .i64 s] 31)) x 3
  have hkB : Keeps [] (w.alloc (.cells #[.int .i64 a, .int .i64 s] 31)) ((w.alloc (.cells #[.int .i64 a, .int .i64 s] 31)).alloc (.cells #[.int .i64 x] 3)) := (Keeps.refl _ _).alloc _
  have hWM := h.keeps (hkA.trans hkB)
  have hb1 := (hkB.block _ (by simp) (by simp)).trans hb0
  have hk0 := hkA.trans hkB
  rw [show (w.alloc (.cells #[.int .i64 a, .int .i64 s] 31)).heap.size = w.heap.size + 1 by simp] at hsl
  clear hb0 hkA hkB h
  replace hsl := Lib.hid hsl
  replace hWM := Lib.hid hWM
  replace hb1 := Lib.hid hb1
  replace hk0 := Lib.hid hk0
  have hwb : w.heap.size ≠ bm := by omega
  go_enter Try.func20, Try.ntmps20
  go_wp2_with fail
  generalize hW : (w.alloc (.cells #[.int .i64 a, .int .i64 s] 31)).alloc (.cells #[.int .i64 x] 3) = W at *
  clear hW
  refine (check_c _ bw bm n N G a s _ [x] hWM.out hsl.out).mono ?_
  rintro e w1 ⟨rfl, hk1⟩
  have hW1 := hWM.out.keeps hk1
  obtain ⟨y0, y1⟩ := cells2 ((hk1.block _ (lt_of_block hb1.out) (by simp)).trans hb1.out)
  obtain ⟨c0, c1, hlt, hne⟩ := hW1.cells
  have hy := lt_of_cell y0
  have hk01 := hk0.out.trans hk1
  replace hk01 := Lib.hid hk01
  clear hk1 hWM hb1 hsl hk0
  rcases chkE_cases N [x] a s with ⟨hc, hE⟩ | ⟨hc, hE⟩
  · rw [hE]
    obtain ⟨hr, hwm, ha, hs⟩ := chkB_w hc hN.2
    clear hE
    replace hc := Lib.hid hc
    replace hW1 := Lib.hid hW1
    obtain ⟨z, hz⟩ : ∃ z, G x a s = z := ⟨_, rfl⟩
    have hlook1 := fun nq => (hW1.out.mp.keeps ((Keeps.refl [] w1).drewN nq)).look x a s (hwm x (by simp)) ha hs
    rw [hz] at hlook1
    replace hz := Lib.hid hz
    by_cases hz0 : z = 0
    · subst hz0
      go_wp2
      (refine wp_region_quiet_lit (by kernel_rfl) (by kernel_rfl) ?_; (repeat (first | go_big_quiet_step (fail) | quiet_step (fail))); with_reducible refine wpQuiet_nil ?_; intro _ hw'; obtain ⟨nq, hw''⟩ := hw'; subst hw'')
      go_wp2
      go_ret
      exact ⟨6, n, G, rfl, .inr ⟨hc.out, .inl ⟨hz.out, rfl, rfl⟩⟩, hW1.out.keeps ((Keeps.refl [] w1).drewN nq), by omega, (hk01.out.drewN nq).of_nil⟩
    · have hz1 : (z == 0) = false := by simpa using hz0
      go_wp2
      (refine wp_region_quiet_lit (by kernel_rfl) (by kernel_rfl) ?_; (repeat (first | go_big_quiet_step (fail) | quiet_step (fail))); with_reducible refine wpQuiet_nil ?_; intro _ hw'; obtain ⟨nq, hw''⟩ := hw'; subst hw'')
      have hk2x : Keeps [] w1 (w1.drewN nq) := (Keeps.refl [] w1).drewN nq
      generalize w1.drewN nq = w2 at hk2x ⊢
      have hW2 := hW1.out.keeps hk2x
      have hk02 := hk01.out.trans hk2x
      replace y0 := hk2x.val y0
      replace y1 := hk2x.val y1
      replace c0 := hk2x.val c0
      replace c1 := hk2x.val c1
      clear hk2x hlook1
      replace hW2 := Lib.hid hW2
      replace hk02 := Lib.hid hk02
      clear hW1 hk01
      go_wp2
      go_loopw [8] (fun i wr => ∃ k : Int, i = .int .i64 k ∧ 1 ≤ k ∧ k ≤ N + 1 ∧ (∀ j, 1 ≤ j → j < k → G j a s ≠ x) ∧ Keeps [] w2 wr) (fun i _ => (N + 1 - intOf i).toNat)
      case atStart => exact ⟨1, rfl, by omega, by omega, fun _ _ h => by omega, Keeps.refl _ _⟩
      case round =>
        obtain ⟨k, rfl, hq1, hq2, hno, hkw⟩ := hrel
        have hWr := hW2.out.keeps hkw
        have hk0r := hk02.out.trans hkw
        replace c0 := hkw.val c0
        replace c1 := hkw.val c1
        replace y0 := hkw.val y0
        replace y1 := hkw.val y1
        replace hkw := Lib.hid hkw
        replace hk0r := Lib.hid hk0r
        replace hno := Lib.hid hno
        by_cases hlt2 : k ≤ N
        · have hlook := fun nq => (hWr.mp.keeps ((Keeps.refl [] wr).drewN nq)).look k a s (w64 (by omega) (by omega)) ha hs
          replace hWr := Lib.hid hWr
          obtain ⟨u, hu⟩ : ∃ u, G k a s = u := ⟨_, rfl⟩
          rw [hu] at hlook
          replace hu := Lib.hid hu
          by_cases hux : u = x
          · subst hux
            go_wp2
            (refine wp_region_quiet_lit (by kernel_rfl) (by kernel_rfl) ?_; (repeat (first | go_big_quiet_step (fail) | quiet_step (fail))); with_reducible refine wpQuiet_nil ?_; intro _ hw'; obtain ⟨nq, hw''⟩ := hw'; subst hw'')
            go_wp2
            go_ret
            exact ⟨9, n, G, rfl, .inr ⟨hc.out, .inr (.inl ⟨by rw [hz.out]; exact hz0, ⟨k, hq1, hlt2, hu.out⟩, rfl, rfl⟩)⟩, hWr.out.keeps ((Keeps.refl [] wr).drewN nq), by omega, (hk0r.out.drewN nq).of_nil⟩
          · have hux2 : (u == x) = false := by simpa using hux
            go_wp2
            (refine wp_region_quiet_lit (by kernel_rfl) (by kernel_rfl) ?_; (repeat (first | go_big_quiet_step (fail) | quiet_step (fail))); with_reducible refine wpQuiet_nil ?_; intro _ hw'; obtain ⟨nq, hw''⟩ := hw'; subst hw'')
            go_wp2
            go_roundw
            case rel => exact ⟨k + 1, rfl, by omega, by omega, fun j h1 h2 => by
                by_cases e : j = k
                · subst e; rw [hu.out]; exact hux
                · exact hno.out j h1 (by omega), hkw.out.drewN _⟩
            case measure => simp [intOf]; omega
        · replace hWr := Lib.hid hWr
          go_wp2
          refine Free.wp_region_chain (fun i => i == 7) (fun i => true) (fun _ b => b = bm) (by kernel_rfl) (by kernel_rfl) (by kernel_rfl) ?_
          (repeat (first | (apply Free.cw_pure rfl rfl; (intro w'; go_simp <;> exact rfl); go_frame) | (apply Free.cw_steady rfl rfl rfl; (intro w' hS; have q0 := Free.sx_cell hS c1 (fun _ _ hT => hne hT); have q1 := Free.sx_cell hS y0 (fun _ _ hT => hwb hT); have q2 := Free.sx_cell hS y1 (fun _ _ hT => hwb hT); go_simp <;> exact rfl); go_frame) | (refine Free.cw_skip rfl ?_; go_frame)))
          refine Free.cw_loud rfl rfl (fun K hK => ?_)
          obtain ⟨w9, hput, hmp9, hk9⟩ := (hWr.out.mp.keeps ((Keeps.refl [] wr).drew)).del x a s (hwm x (by simp)) ha hs 0
          replace hmp9 := Lib.hid hmp9
          replace hk9 := Lib.hid hk9
          go_wp2
          refine hK _ _ rfl (Free.KeepsP.of hk9.out (fun b hb => by simpa using hb)) ?_
          clear hK K
          (repeat (apply Free.cw_pure rfl rfl; (intro w'; go_simp <;> exact rfl); go_frame))
          refine Free.cw_nil ?_
          have hW9 := Lib.hid ((hWr.out.keeps ((Keeps.refl [] wr).drew)).turn hk9.out hmp9.out)
          have hk09 := Lib.hid ((hk0r.out.trans ((Keeps.refl [] wr).drew)).of_nil.trans hk9.out)
          go_wp2
          go_ret
          exact ⟨0, n, _, rfl, .inr ⟨hc.out, .inr (.inr ⟨by rw [hz.out]; exact hz0, fun j h1 h2 => hno.out j h1 (by omega), rfl, rfl⟩)⟩, hW9.out, by omega, hk09.out⟩

  · rw [hE]
    replace hW1 := Lib.hid hW1
    replace hc := Lib.hid hc
    clear hE
    go_wp2
    go_ret
    exact ⟨1, n, G, rfl, .inl ⟨hc.out, rfl, rfl⟩, hW1.out, by omega, hk01.out.of_nil⟩
end Go.Proofs.Ythhhciofcmmnfaa

namespace Go.Proofs.Ythhhciofcmmnfaa
open Go.RowKit Go.Maps

set_option maxHeartbeats 400000 in
theorem mclone_c (b : Nat) (es : Array MapEntry) (clock : Nat) (w : World) (hb : w.heap[b]? = some (.map es clock)) :
    Calls Try.prog 41 #[.map (some b)] w fun e w' => e = .returned (.map (some w.heap.size)) ∧ w' = w.alloc (.map es clock) := by
  have hq := fun w => run_eql_map_nil_sl (P := Try.prog) w 61 _ _ (some b) Try.underlying61
  go_enter Try.func41, Try.ntmps41
  go_wp2
  rw [run_callFunc_extern Try.func43 (by kernel_rfl) (by kernel_rfl) (by kernel_rfl) (e := Extern.MapsClone.clone) (by kernel_rfl), run_maps_clone_sl w 61 hb]
  simp only [Result.andThen]
  rw [Oper.upon_value]
  go_wp2
  rw [run_typeAssert_map_sl _ 61 _ _ _ _ Try.underlying61]
  simp only [Result.andThen]
  rw [Oper.upon_value]
  go_wp2
  go_ret
  exact ⟨rfl, rfl⟩
set_option maxRecDepth 100000 in
set_option maxHeartbeats 1000000 in
theorem clone_c (w : World) (bw bm n : Nat) (N : Int) (G : Pt) (h : WM w bw bm n N G) :
    Calls Try.prog 36 #[.pointer (some ⟨bw, 0, none⟩)] w fun e w' => ∃ bw' bm', e = .returned (.pointer (some ⟨bw', 0, none⟩)) ∧ WM w' bw' bm' n N G ∧ Keeps [] w w' ∧ w.heap.size ≤ bw' ∧ w.heap.size ≤ bm' := by
  obtain ⟨c0, c1, hlt, hne⟩ := h.cells
  obtain ⟨D, ⟨es, clock, hb, F, hs, hD⟩, hG⟩ := h.mp
  clear h
  go_enter Try.func36, Try.ntmps36
  go_wp2
  have hfA : ∀ (j : Nat) (b : Nat), b < w.heap.size → (w.heap.size ≤ b) → False := fun _ b h1 h2 => by omega
  refine Free.wp_region_chain (fun i => i == 8 || i == 10) (fun i => true) (fun _ b => w.heap.size ≤ b) (by kernel_rfl) (by kernel_rfl) (by kernel_rfl) ?_
  (repeat (first | (apply Free.cw_pure rfl rfl; (intro w'; go_simp <;> exact rfl); go_frame) | (apply Free.cw_steady rfl rfl rfl; (intro w' hS; have q0 := Free.sx_cell hS c0 (fun _ _ hT => hfA 0 _ hlt hT); have q1 := Free.sx_cell hS c1 (fun _ _ hT => hfA 0 _ hlt hT); go_simp <;> exact rfl); go_frame) | (refine Free.cw_skip rfl ?_; go_frame)))
  refine Free.cw_loud rfl rfl (fun K hK => ?_)
  go_wp2_with fail
  refine (mclone_c bm es clock _ (show w.drew.heap[bm]? = _ from hb)).mono ?_
  rintro e w' ⟨rfl, rfl⟩
  refine hK _ _ rfl (Free.KeepsP.alloc _ _ _) ?_
  clear hK K
  (repeat (apply Free.cw_pure rfl rfl; (intro w'; go_simp <;> exact rfl); go_frame))
  refine Free.cw_loud rfl rfl (fun K hK => ?_)
  go_wp2
  refine hK _ _ rfl (Free.KeepsP.alloc _ _ _) ?_
  clear hK K
  (repeat (apply Free.cw_pure rfl rfl; (intro w'; go_simp <;> exact rfl); go_frame))
  refine Free.cw_nil ?_
  go_wp2
  go_ret
  have hA : Keeps [] w (w.alloc (.map es clock)) := (Keeps.refl _ _).alloc _
  have hB : Keeps [] (w.alloc (.map es clock)) ((w.alloc (.map es clock)).alloc (.cells #[.int .i64 N, .map (some w.heap.size)] 63)).drew := ((Keeps.refl _ _).alloc _).drew
  have h1 := heap_alloc_new (w.alloc (.map es clock)) (.cells #[.int .i64 N, .map (some w.heap.size)] 63)
  rw [show (w.alloc (.map es clock)).heap.size = w.heap.size + 1 by simp] at h1
  have hm : MP (w.alloc (.map es clock)) w.heap.size n G := ⟨D, ⟨es, clock, heap_alloc_new w _, F, hs, hD⟩, hG⟩
  exact ⟨w.heap.size + 1, w.heap.size, rfl, ⟨h1, hm.keeps hB⟩, hA.trans hB, by omega, by omega⟩
/-- What New gives. -/
def NewPost (w : World) (N : Int) (e : Ending) (w' : World) : Prop :=
  (¬(1 ≤ N ∧ N ≤ 8) ∧ e = .returned (.tuple #[.pointer none, .int .i64 1]) ∧ Keeps [] w w') ∨
  ((1 ≤ N ∧ N ≤ 8) ∧ ∃ bw bm, e = .returned (.tuple #[.pointer (some ⟨bw, 0, none⟩), .int .i64 0]) ∧ WM w' bw bm 0 N (fun _ _ _ => 0) ∧ Keeps [] w w' ∧ w.heap.size ≤ bw ∧ w.heap.size ≤ bm)
set_option maxRecDepth 100000 in
set_option maxHeartbeats 1000000 in
theorem new_c (w : World) (N : Int) : Calls Try.prog 22 #[.int .i64 N] w (NewPost w N) := by
  have hmm := @run_makeMap Try.prog
  by_cases h1 : N < 1
  · go_enter Try.func22, Try.ntmps22
    go_wp2
    go_ret2
    exact .inl ⟨by omega, rfl, Keeps.refl _ _⟩
  by_cases h2 : 8 < N
  · go_enter Try.func22, Try.ntmps22
    go_wp2
    go_ret2
    exact .inl ⟨by omega, rfl, Keeps.refl _ _⟩
  go_enter Try.func22, Try.ntmps22
  go_wp2
  go_ret2
  have hm : MP (w.alloc (.map #[] 0)) w.heap.size 0 (fun _ _ _ => 0) := ⟨.map [], World.ownsMap_made w _ _ _, fun m a s l _ => rfl⟩
  have hB : Keeps [] (w.alloc (.map #[] 0)) ((w.alloc (.map #[] 0)).alloc (.cells #[.int .i64 N, .map (some w.heap.size)] 63)) := ((Keeps.refl _ _).alloc _)
  have h3 := heap_alloc_new (w.alloc (.map #[] 0)) (.cells #[.int .i64 N, .map (some w.heap.size)] 63)
  rw [show (w.alloc (.map #[] 0)).heap.size = w.heap.size + 1 by simp] at h3
  exact .inr ⟨by omega, w.heap.size + 1, w.heap.size, rfl, ⟨h3, hm.keeps hB⟩, ((Keeps.refl _ _).alloc _).trans hB, by omega, by omega⟩
end Go.Proofs.Ythhhciofcmmnfaa

namespace Go.Proofs.Ythhhciofcmmnfaa
open Go.RowKit
attribute [local go_sem] Oper.semAt_some
variable {F : Fence} {n : Nat} {P : Program} {w : World}

/-- How the body of a round may be left: off its end. -/
def endPost (B : Nat) (J : List Int → Int → World → Prop) (pre : List Int) (v : Int) (W : World) : Exit → Act → World → Prop
  | .normal, _, W' => KeepsFrom B W W' ∧ J (pre ++ [v]) v W'
  | _, _, _ => False

/-- An iterator that hands out `lst`, over whatever its caller says. -/
def Gives (F : Fence) (n : Nat) (P : Program) (gf : Nat) (lb : Array Value) (Bm : Nat) (m0 : Int) (lst : List Int) (J : List Int → Int → World → Prop) : Prop :=
  ∀ (l : Nat) (JJ : List Int → Int → World → Prop) (W1 : World), (∀ pre v W, JJ pre v W → J pre v W) → (∀ pre v v' W, JJ pre v W → JJ pre v' (W.setCell ⟨Bm, 0, none⟩ (.int .i64 v'))) → (∀ pre v W k, JJ pre v W → JJ pre v (W.drewN k)) →
    (∀ pre v W, JJ pre v W → pre.length < lst.length → YieldAt F (n - 1) P l #[.int .i64 v] W fun e W' => e = .returned (.bool true) ∧ JJ (pre ++ [v]) v W') → JJ [] m0 W1 →
    CallsIn F n P gf (#[.func (.yield l) #[] #[]] ++ lb) W1 fun e W' => (∃ v, e = .returned v) ∧ ∃ v, JJ lst v W'

theorem wpIn_rangeFunc_box {g : Operand} {ps : Array Tmp} {assign body : Code} {Q : Exit → Act → World → Prop} {a : Act}
    (hro : F.round = none) (h1 : 1 ≤ n) {gf : Nat} {lb : Array Value} (hg : a.eval g = .func (.func gf) #[] lb) (hFg : F.fn gf) (eg : ∀ args w, (callFunc gf args).run P w = .ok (.enter gf args) w) (hps : ps.size = 1)
    (Bm : Nat) (hBm : Bm < w.heap.size) (m0 : Int) (lst : List Int) (J : List Int → Int → World → Prop) (hseq : Gives F (n - 1) P gf lb Bm m0 lst J)
    (hJset : ∀ pre v v' W, J pre v W → J pre v' (W.setCell ⟨Bm, 0, none⟩ (.int .i64 v'))) (hJdrew : ∀ pre v W k, J pre v W → J pre v (W.drewN k))
    (hJput : ∀ pre v (W : World) (l : Nat) (o o' : Obj), w.heap.size ≤ l → W.heap[l]? = some o → o.isCells = false → J pre v W → J pre v (W.putObj l o'))
    (h0 : ∀ W, Keeps [] w W → J [] m0 W) (a₁ : Int → Act)
    (hassign : ∀ (l : Nat) (x : Int) (W : World) (K : Act → World → Prop), K (a₁ x) W →
      assign.wpIn (F.inRound l) (n - 1 - 1) P (Exit.then K (fun _ _ _ => False)) { tmps := (ps.zip #[.int .i64 x]).foldl (fun t (p, v) => t.setIfInBounds p v) a.tmps, defers := [] } W)
    (hbody : ∀ (l : Nat) (pre : List Int) (v : Int) (W : World), J pre v W → pre.length < lst.length → body.wpIn (F.inRound l) (n - 1 - 1) P (endPost w.heap.size J pre v W) (a₁ v) W)
    (hdone : ∀ (D : Nat) (v : Int) (W : World), w.heap.size ≤ D → J lst v W → W.heap[D]? = some (.deferred (some [])) → Q .normal { a with defers := { target := .collected D, args := #[] } :: a.defers } W) :
    (Code.rangeFunc g ps assign body).wpIn F n P Q a w := by
  refine wpIn_rangeFunc ?_
  intro fn hfn
  rw [hro]
  obtain ⟨rec, hrec⟩ : ∃ rec : LoopState → Option Code → Loop, rec = fun st pe => { state := st, pending := pe, fn, tmps := a.tmps, params := ps, assign, body, defers := w.heap.size } := ⟨_, rfl⟩
  obtain ⟨W1, hW1⟩ : ∃ W1, (w.alloc (.deferred (some []))).alloc (.loop (rec .ready none)) = W1 := ⟨_, rfl⟩
  have hL1 : W1.heap[w.heap.size + 1]? = some (.loop (rec .ready none)) := by
    rw [← hW1]; have := World.alloc_heap_new (w.alloc (.deferred (some []))) (.loop (rec .ready none)); rwa [World.size_alloc] at this
  have hK1 : W1.heap[w.heap.size]? = some (.deferred (some [])) := by
    rw [← hW1]; exact (Below.heap_alloc _ _ _ (by simp)).trans (World.alloc_heap_new w _)
  have hI1 : J [] m0 W1 := by rw [← hW1]; exact h0 _ (((Keeps.refl _ _).alloc _).alloc _)
  have hset : ∀ (W : World) (v' : Int) (k : Nat), w.heap.size ≤ k → (W.setCell ⟨Bm, 0, none⟩ (.int .i64 v')).heap[k]? = W.heap[k]? := fun W v' k hk => Below.heap_setCell _ _ _ _ (by show k ≠ Bm; omega)
  refine ⟨w.heap.size + 1, [{ target := .collected w.heap.size, args := #[] }], W1, { target := .fn (.func gf) lb, args := #[.func (.yield (w.heap.size + 1)) #[] #[]] }, W1, gf,
    #[.func (.yield (w.heap.size + 1)) #[] #[]] ++ lb, W1, ?_, ?_, ?_, ?_, fun _ => h1, ?_⟩
  · rw [← hW1, hrec]; exact run_enterLoop_outer _ _ _ _ _
  · simp only [resolve, hg]
    simp [go_sem]
  · intro f' hf'; simp [Target.leads] at hf'; subst hf'; exact hFg
  · simp [invoke, go_sem, eg]
  · refine (hseq (w.heap.size + 1)
      (fun pre v W => J pre v W ∧ W.heap[w.heap.size + 1]? = some (.loop (rec .ready none)) ∧ W.heap[w.heap.size]? = some (.deferred (some [])))
      W1 (fun _ _ _ h => h.1) (fun pre v v' W h => ⟨hJset pre v v' W h.1, (hset W v' _ (by omega)).trans h.2.1, (hset W v' _ (by omega)).trans h.2.2⟩) (fun pre v W k h => ⟨hJdrew pre v W k h.1, h.2.1, h.2.2⟩)
      ?_ ⟨hI1, hL1, hK1⟩).mono ?_
    · -- one round
      rintro pre x W ⟨hi, hl, hk⟩ hlen
      have hlt : w.heap.size + 1 < W.heap.size := (Array.getElem?_eq_some_iff.1 hl).1
      have hy := run_yield (P := P) (args := #[.int .i64 x]) hl (by rw [hrec]; simp [hps])
      rw [hrec] at hy
      refine ⟨fn, _, assign, body, hy, roundIn_of_wpIn hfn (hassign _ x W _ ⟨_, run_beginRound hl (by rw [hrec]), ?_⟩)⟩
      have hl2 : (W.putObj (w.heap.size + 1) (.loop { rec .ready none with state := .busy })).heap[w.heap.size + 1]? = some (.loop { rec .ready none with state := .busy }) := World.putObj_heap_same hlt
      have hk2 : (W.putObj (w.heap.size + 1) (.loop { rec .ready none with state := .busy })).heap[w.heap.size]? = some (.deferred (some [])) := (World.putObj_heap_other (by omega)).trans hk
      refine wpIn_mono (hbody _ pre x _ (hJput pre x _ _ _ _ (by omega) hl rfl hi) hlen) ?_
      rintro e a3 W3 hp
      cases e with
      | normal =>
        obtain ⟨hk3, hi3⟩ := hp
        have hl3 := hk3.same _ _ (by omega) hl2 rfl
        have hr := run_endRound (P := P) none hl3
        rw [hrec] at hr
        have hl3' := hl3
        rw [hrec] at hl3'
        have hlt3 := (Array.getElem?_eq_some_iff.1 hl3).1
        have hk4 := hk3.same _ _ (Nat.le_refl _) hk2 rfl
        refine ⟨_, _, hr, rfl, hJput _ _ _ _ _ _ (by omega) hl3 rfl hi3, ?_, (World.putObj_heap_other (by omega)).trans hk4⟩
        rw [hrec]
        exact World.putObj_heap_same hlt3
      | ret => exact hp.elim
      | exit id => exact hp.elim
      | goto t => exact hp.elim
      | panic ch => exact hp.elim
      | outgrown => exact hp.elim
    · -- behind the iterator
      rintro e W2 ⟨⟨v, rfl⟩, v', hi, hl, hk⟩
      refine ⟨none, _, by have := run_endLoop (P := P) hl (by rw [hrec]; simp); rw [hrec] at this; exact this, hdone _ v' _ (Nat.le_refl _) (hJput _ _ _ _ _ _ (by omega) hl rfl hi) ((World.putObj_heap_other (by omega)).trans hk)⟩
end Go.Proofs.Ythhhciofcmmnfaa

namespace Go.Proofs.Ythhhciofcmmnfaa
open Go.RowKit
attribute [local go_sem] Oper.semAt_some

/-- How long the walk is. -/
noncomputable def chLen (g : Int → Int) (v : Int) : Nat := by
  classical exact if h : ∃ l x, Mg.Ch g v l x then h.choose.length else 0
theorem chLen_eq {g : Int → Int} {v x : Int} {l : List Int} (c : Mg.Ch g v l x) : chLen g v = l.length := by
  have h : ∃ l x, Mg.Ch g v l x := ⟨l, x, c⟩
  unfold chLen
  rw [dif_pos h]
  obtain ⟨y, c'⟩ := h.choose_spec
  rw [(c.det c').1]
/-- What the iterator reads. -/
structure Rd (W : World) (Bm Bw Bi bw bm nn : Nat) (N : Int) (G : Pt) (a s v : Int) : Prop where
  box : W.heap[Bm]? = some (.cells #[.int .i64 v] 3 (0, 0))
  wbox : W.heap[Bw]? = some (.cells #[.pointer (some ⟨bw, 0, none⟩)] 24 (0, 0))
  ibox : W.heap[Bi]? = some (.cells #[.int .i64 a, .int .i64 s] 31 (0, 0))
  wm : WM W bw bm nn N G
theorem cell1 {w : World} {b : Nat} {x0 : Value} {t : TypeId} (h : w.heap[b]? = some (.cells #[x0] t (0, 0))) : w.cell? ⟨b, 0, none⟩ = some x0 ∧ w.frozen? ⟨b, 0, none⟩ = false := ⟨by simp [World.cell?, h], by simp [World.frozen?, h]⟩
set_option maxRecDepth 100000 in
set_option maxHeartbeats 2000000 in
theorem steps1_gives (n Bm Bw Bi bw bm nn : Nat) (N : Int) (G : Pt) (a s m0 h : Int) (lst : List Int) (J : List Int → Int → World → Prop) (hn : 1 ≤ n) (hc : Mg.Ch (fun m => G m a s) m0 lst h) (hN : ∀ m, G m a s ≠ 0 → W64 m) (ha : W64 a) (hs : W64 s)
    (hJ : ∀ pre v W, J pre v W → Rd W Bm Bw Bi bw bm nn N G a s v) :
    Gives Fence.wide n Try.prog 38 #[.pointer (some ⟨Bm, 0, none⟩), .pointer (some ⟨Bw, 0, none⟩), .pointer (some ⟨Bi, 0, none⟩)] Bm m0 lst J := by
  intro l JJ W1 h1 h2 h3 hY h0
  refine callsIn_of_wp Try.func38 rfl trivial ?_ rfl
  simp only [Try.ntmps38, List.size_toArray, List.length_cons, List.length_nil, Nat.reduceAdd, Nat.reduceSub, Array.replicate_succ, Array.replicate_zero, List.push_toArray, List.append_toArray, List.nil_append, List.cons_append]
  gi_wp2
  gi_loopw [5] (fun u wr => ∃ pre v rest, JJ pre v wr ∧ Mg.Ch (fun m => G m a s) v rest h ∧ lst = pre ++ rest) (fun u wr => chLen (fun m => G m a s) (intOf ((wr.cell? ⟨Bm, 0, none⟩).getD undef)))
  case atStart => exact ⟨[], m0, lst, h0, hc, rfl⟩
  case round =>
    obtain ⟨pre, v, rest, hj, hch, hlst⟩ := hrel
    obtain ⟨c0, f0⟩ := cell1 (hJ _ _ _ (h1 _ _ _ hj)).box
    obtain ⟨fn, tmps, assign, body, hy, hR⟩ := hY pre v wr hj (by obtain ⟨t, rfl⟩ := hch.cons; rw [hlst]; simp)
    gi_wp2
    refine hR.mono ?_
    rintro e W' ⟨rfl, hj'⟩
    have hr := hJ _ _ _ (h1 _ _ _ hj')
    obtain ⟨d0, df⟩ := cell1 hr.box
    obtain ⟨d1, _⟩ := cell1 hr.wbox
    obtain ⟨d2, d3⟩ := cells2 hr.ibox
    obtain ⟨e0, e1, _, _⟩ := hr.wm.cells
    have hv64 := hN v hch.ne
    have hlook := fun nq => (hr.wm.mp.keeps ((Keeps.refl [] W').drewN nq)).look v a s hv64 ha hs
    obtain ⟨z, hz⟩ : ∃ z, G v a s = z := ⟨_, rfl⟩
    rw [hz] at hlook
    have hjq := fun k => h3 _ _ _ k hj'
    by_cases hzv : z = v
    · subst hzv
      have hre : rest = [z] ∧ h = z := (hch.det (.home hz (by rw [← hz]; exact hch.ne))).imp Eq.symm Eq.symm
      gi_wp2
      refine wpIn_wide.2 ?_
      (refine wp_region_quiet_lit (by kernel_rfl) (by kernel_rfl) ?_; (repeat (first | go_big_quiet_step (fail) | quiet_step (fail))); with_reducible refine wpQuiet_nil ?_; intro _ hw'; obtain ⟨nq, hw''⟩ := hw'; subst hw'')
      gi_wp2
      refine bodyPost_ret (results_none rfl _ _ _) rfl ?_
      exact ⟨⟨_, rfl⟩, z, by rw [hlst, hre.1]; exact hjq nq⟩
    · have hz2 : (z == v) = false := by simpa using hzv
      gi_wp2
      refine wpIn_wide.2 ?_
      (refine wp_region_quiet_lit (by kernel_rfl) (by kernel_rfl) ?_; (repeat (first | go_big_quiet_step (fail) | quiet_step (fail))); with_reducible refine wpQuiet_nil ?_; intro _ hw'; obtain ⟨nq, hw''⟩ := hw'; subst hw'')
      gi_wp2
      cases hch with
      | home e _ => exact absurd (by rw [← hz]; exact e) hzv
      | @step _ _ l' hne h0' t =>
        have t0 := t
        replace t : Mg.Ch (fun m => G m a s) z l' h := by rw [← hz]; exact t
        have hnew := h2 _ v z _ (hjq nq)
        obtain ⟨g0, _⟩ := cell1 (hJ _ _ _ (h1 _ _ _ hnew)).box
        refine ⟨⟨pre ++ [v], z, l', hnew, t, by simp [hlst]⟩, ?_⟩
        rw [g0, c0]
        simp only [Option.getD_some, intOf]
        rw [chLen_eq t, chLen_eq (g := fun m => G m a s) (.step hne h0' t0)]
        simp
end Go.Proofs.Ythhhciofcmmnfaa
