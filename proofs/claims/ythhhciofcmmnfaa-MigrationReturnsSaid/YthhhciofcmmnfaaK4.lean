/- Texts that the laws lean on, in the order in which they build. The last of a walk's machines; Locate. Package migration: Locate. Walk: the machines of a walk, as a list. The map and the reference's list agree, whatever operation: the plain law. The map and the reference's list agree: Drop, and the walks. One operation on a world and on its model. One operation on a world and on its model: going on with a clone; any operation. Data among a law's arguments, opened, of whatever type; slices of elements of several cells. Of whatever program. Slices of elements of several cells that read as a list of whatever. Of whatever program. -/
import Derived.Test.YthhhciofcmmnfaaK3
import Derived.Maps.AppendAt
import Derived.RangeFuncBox
import Derived.Deep.Slices
set_option linter.unusedVariables false
set_option linter.unusedSimpArgs false
namespace Go.Proofs.Ythhhciofcmmnfaa
open Go.RowKit
attribute [local go_sem] Oper.semAt_some

theorem heap_set1 {w : World} {b : Nat} {x u : Value} {t : TypeId} (h : w.heap[b]? = some (.cells #[x] t (0, 0))) : (w.setCell ⟨b, 0, none⟩ u).heap[b]? = some (.cells #[u] t (0, 0)) := by
  simp [World.setCell, Array.getElem?_modify, h]
theorem Keeps.put {S : List Nat} {a w : World} (h : Keeps S a w) {l : Nat} (hl : a.heap.size ≤ l) (o : Obj) : Keeps S a (w.putObj l o) :=
  h.grown (grownBy_putObj' w l o) (fun k e => by cases e; exact .inl hl)
theorem Rd.keep {W W' : World} {Bm Bw Bi bw bm nn : Nat} {N : Int} {G : Pt} {a s v : Int} {S : List Nat} (h : Rd W Bm Bw Bi bw bm nn N G a s v) (hk : Keeps S W W') (h1 : Bm ∉ S) (h2 : Bw ∉ S) (h3 : Bi ∉ S) (h4 : bw ∉ S) (h5 : bm ∉ S) : Rd W' Bm Bw Bi bw bm nn N G a s v :=
  ⟨(hk.block _ (lt_of_block h.box) h1).trans h.box, (hk.block _ (lt_of_block h.wbox) h2).trans h.wbox, (hk.block _ (lt_of_block h.ibox) h3).trans h.ibox, h.wm.keep hk h4 h5⟩
theorem Rd.set {W : World} {Bm Bw Bi bw bm nn : Nat} {N : Int} {G : Pt} {a s v : Int} (h : Rd W Bm Bw Bi bw bm nn N G a s v) (h2 : Bw ≠ Bm) (h3 : Bi ≠ Bm) (h4 : bw ≠ Bm) (h5 : bm ≠ Bm) (v' : Int) : Rd (W.setCell ⟨Bm, 0, none⟩ (.int .i64 v')) Bm Bw Bi bw bm nn N G a s v' := by
  have hk : Keeps [Bm] W (W.setCell ⟨Bm, 0, none⟩ (.int .i64 v')) := (Keeps.refl _ W).setCell (p := ⟨Bm, 0, none⟩) (.inr (by simp)) _
  exact ⟨heap_set1 h.box, (hk.block _ (lt_of_block h.wbox) (by simpa using h2)).trans h.wbox, (hk.block _ (lt_of_block h.ibox) (by simpa using h3)).trans h.ibox, h.wm.keep hk (by simpa using h4) (by simpa using h5)⟩
/-- What holds between two rounds; `X` is the caller's box, which holds `x`. -/
structure JL (w W : World) (X : Nat) (tX : TypeId) (Bm Bw Bi bw bm nn : Nat) (N : Int) (G : Pt) (a s v : Int) (x : Value) : Prop where
  keeps : Keeps [Bm] w W
  rd : Rd W Bm Bw Bi bw bm nn N G a s v
  xbox : W.heap[X]? = some (.cells #[x] tX (0, 0))
set_option maxRecDepth 100000 in
set_option maxHeartbeats 2000000 in
theorem last_c (w : World) (Bm Bw Bi bw bm nn : Nat) (N : Int) (G : Pt) (a s m0 h : Int) (lst : List Int) (hR : Rd w Bm Bw Bi bw bm nn N G a s m0) (hc : Mg.Ch (fun m => G m a s) m0 lst h) (hN : ∀ m, G m a s ≠ 0 → W64 m) (ha : W64 a) (hs : W64 s)
    (h2 : Bw ≠ Bm) (h3 : Bi ≠ Bm) (h4 : bw ≠ Bm) (h5 : bm ≠ Bm) :
    Calls Try.prog 28 #[.func (.func 38) #[] #[.pointer (some ⟨Bm, 0, none⟩), .pointer (some ⟨Bw, 0, none⟩), .pointer (some ⟨Bi, 0, none⟩)]] w fun e w' => e = .returned (.int .i64 h) ∧ Keeps [Bm] w w' := by
  have hBm := lt_of_block hR.box
  have hkA : Keeps [] w (w.alloc (.cells #[.int .i64 0] 3)) := (Keeps.refl _ _).alloc _
  have hx0 := heap_alloc_new w (.cells #[.int .i64 0] 3)
  have hRA := hR.keep hkA (by simp) (by simp) (by simp) (by simp) (by simp)
  have hszA : (w.alloc (.cells #[.int .i64 0] 3)).heap.size = w.heap.size + 1 := by simp
  refine (callsIn_wide (n := 5)).1 ?_
  refine callsIn_of_wp_marks Try.func28 rfl trivial ?_ rfl
  simp only [Try.ntmps28, List.size_toArray, List.length_cons, List.length_nil, Nat.reduceAdd, Nat.reduceSub, Array.replicate_succ, Array.replicate_zero, List.push_toArray, List.append_toArray, List.nil_append, List.cons_append]
  gi_wp2
  have hXm : w.heap.size ≠ Bm := by omega
  refine wpIn_rangeFunc_box rfl (by omega) (gf := 38) (lb := #[.pointer (some ⟨Bm, 0, none⟩), .pointer (some ⟨Bw, 0, none⟩), .pointer (some ⟨Bi, 0, none⟩)]) rfl trivial (enters_of Try.func38 (by kernel_rfl) rfl) rfl Bm (by omega) m0 lst
    (fun pre v W => JL w W w.heap.size 3 Bm Bw Bi bw bm nn N G a s v (.int .i64 (pre.getLast?.getD 0)))
    (steps1_gives _ Bm Bw Bi bw bm nn N G a s m0 h lst _ (by omega) hc hN ha hs (fun _ _ _ hj => hj.rd))
    (fun pre v v' W hj => ⟨hj.keeps.setCell (p := ⟨Bm, 0, none⟩) (.inr (by simp)) _, hj.rd.set h2 h3 h4 h5 v', ?jx⟩)
    (fun pre v W k hj => ⟨hj.keeps.drewN k, hj.rd.keep ((Keeps.refl [] W).drewN k) (by simp) (by simp) (by simp) (by simp) (by simp), hj.xbox⟩)
    ?jput ?j0 (fun x => { tmps := #[.func (.func 38) #[] #[.pointer (some ⟨Bm, 0, none⟩), .pointer (some ⟨Bw, 0, none⟩), .pointer (some ⟨Bi, 0, none⟩)], undef, .int .i64 0, .pointer (some ⟨w.heap.size, 0, none⟩), .int .i64 x, .func (.func 38) #[] #[.pointer (some ⟨Bm, 0, none⟩), .pointer (some ⟨Bw, 0, none⟩), .pointer (some ⟨Bi, 0, none⟩)], .int .i64 x, undef, undef], defers := [] }) ?assign ?body ?done
  case jx => exact (Below.heap_setCell _ _ _ _ hXm).trans hj.xbox
  case jput =>
    intro pre v W l o o' hl ho _ hj
    have e1 := lt_of_block hR.wbox
    have e2 := lt_of_block hR.ibox
    have e3 := hR.wm.cells.2.2.1
    have e4 := hR.wm.mp.lt
    have hk : Keeps [l] W (W.putObj l o') := Keeps.of_grown (grownBy_putObj' W l o')
    exact ⟨hj.keeps.put (by omega) _, hj.rd.keep hk (by simp; omega) (by simp; omega) (by simp; omega) (by simp; omega) (by simp; omega), (hk.block _ (lt_of_block hj.xbox) (by simp; omega)).trans hj.xbox⟩
  case j0 =>
    intro W hk
    exact ⟨(hkA.trans hk).of_nil, hRA.keep hk (by simp) (by simp) (by simp) (by simp) (by simp), (hk.block _ (by omega) (by simp)).trans hx0⟩
  case assign =>
    intro l x W K hK
    gi_wp2
    exact hK
  case body =>
    rintro l pre v W hj _
    obtain ⟨x0, xf⟩ := cell1 hj.xbox
    have e1 := lt_of_block hR.wbox
    have e2 := lt_of_block hR.ibox
    have e3 := hR.wm.cells.2.2.1
    have e4 := hR.wm.mp.lt
    gi_wp2
    have hk : Keeps [w.heap.size] W (W.setCell ⟨w.heap.size, 0, none⟩ (.int .i64 v)) := (Keeps.refl _ W).setCell (p := ⟨w.heap.size, 0, none⟩) (.inr (by simp)) _
    exact ⟨(KeepsOthers.setCell _ _ _).from _, ⟨hj.keeps.setCell (p := ⟨w.heap.size, 0, none⟩) (.inl (Nat.le_refl _)) _, hj.rd.keep hk (by simp; omega) (by simp; omega) (by simp; omega) (by simp; omega) (by simp; omega), by
      have := heap_set1 (u := .int .i64 v) hj.xbox
      simpa using this⟩⟩
  case done =>
    rintro D v W hD hj hK
    obtain ⟨x0, xf⟩ := cell1 hj.xbox
    have hlast := hc.last
    gi_wp2
    refine ⟨by simp, .inl ⟨_, _, rfl, run_takeDeferred hK, ?_⟩⟩
    exact ⟨_, results_tmp rfl _ _ _, rfl, hj.keeps.put (by omega) _⟩
/-- Three boxes. -/
theorem three_boxes (w : World) (A B C : Obj) : (((w.alloc A).alloc B).alloc C).heap[w.heap.size]? = some A ∧ (((w.alloc A).alloc B).alloc C).heap[w.heap.size + 1]? = some B ∧ (((w.alloc A).alloc B).alloc C).heap[w.heap.size + 1 + 1]? = some C ∧ Keeps [] w (((w.alloc A).alloc B).alloc C) := by
  have k1 : Keeps [] w (w.alloc A) := (Keeps.refl _ _).alloc _
  have k2 : Keeps [] (w.alloc A) ((w.alloc A).alloc B) := (Keeps.refl _ _).alloc _
  have k3 : Keeps [] ((w.alloc A).alloc B) (((w.alloc A).alloc B).alloc C) := (Keeps.refl _ _).alloc _
  have e1 : (w.alloc A).heap.size = w.heap.size + 1 := by simp
  have e2 : ((w.alloc A).alloc B).heap.size = w.heap.size + 1 + 1 := by simp
  have h2 := heap_alloc_new (w.alloc A) B
  have h3 := heap_alloc_new ((w.alloc A).alloc B) C
  rw [e1] at h2
  rw [e2] at h3
  exact ⟨((k2.trans k3).block _ (by omega) (by simp)).trans (heap_alloc_new w A), (k3.block _ (by omega) (by simp)).trans h2, h3, (k1.trans k2).trans k3⟩
/-- What steps gives. -/
def StepsPost (w : World) (bw bm nn : Nat) (N : Int) (G : Pt) (m a s : Int) (e : Ending) (w' : World) : Prop :=
  ∃ Bm Bw Bi, e = .returned (.func (.func 38) #[] #[.pointer (some ⟨Bm, 0, none⟩), .pointer (some ⟨Bw, 0, none⟩), .pointer (some ⟨Bi, 0, none⟩)]) ∧ (w.heap.size ≤ Bm ∧ w.heap.size ≤ Bw ∧ w.heap.size ≤ Bi) ∧ Bw ≠ Bm ∧ Bi ≠ Bm ∧ bw ≠ Bm ∧ bm ≠ Bm ∧
    Rd w' Bm Bw Bi bw bm nn N G a s m ∧ Keeps [] w w'
set_option maxRecDepth 100000 in
set_option maxHeartbeats 1000000 in
theorem steps_c (w : World) (bw bm nn : Nat) (N : Int) (G : Pt) (m a s : Int) (h : WM w bw bm nn N G) :
    Calls Try.prog 25 #[.pointer (some ⟨bw, 0, none⟩), .int .i64 m, idV a s] w (StepsPost w bw bm nn N G m a s) := by
  obtain ⟨b1, b2, b3, b4⟩ := three_boxes w (.cells #[.pointer (some ⟨bw, 0, none⟩)] 24) (.cells #[.int .i64 m] 3) (.cells #[.int .i64 a, .int .i64 s] 31)
  have hW := h.keeps b4
  have hbm := h.mp.lt
  have hbw := h.cells.2.2.1
  replace b1 := Lib.hid b1
  replace b2 := Lib.hid b2
  replace b3 := Lib.hid b3
  replace b4 := Lib.hid b4
  replace hW := Lib.hid hW
  clear h
  go_enter Try.func25, Try.ntmps25
  go_wp2
  go_ret
  exact ⟨w.heap.size + 1, w.heap.size, w.heap.size + 1 + 1, rfl, ⟨by omega, by omega, by omega⟩, by omega, by omega, by omega, by omega, ⟨b2.out, b1.out, b3.out, hW.out⟩, b4.out⟩
end Go.Proofs.Ythhhciofcmmnfaa

namespace Go.Proofs.Ythhhciofcmmnfaa
open Go.RowKit

/-- Locate. -/
def LocateR (N : Int) (G : Pt) (x a s : Int) (c : Int) (G' : Pt) : Prop :=
  (chkB N [x] a s = false ∧ c = 1 ∧ G' = G) ∨ (chkB N [x] a s = true ∧ ((G x a s = 0 ∧ c = 6 ∧ G' = G) ∨ (G x a s ≠ 0 ∧ ∃ lst h, Mg.Ch (fun m => G m a s) x lst h ∧ c = 0 ∧ G' = updP G x a s h)))
set_option maxRecDepth 100000 in
set_option maxHeartbeats 1000000 in
theorem locate_c (w : World) (bw bm n : Nat) (N : Int) (G : Pt) (x a s : Int) (h : WM w bw bm n N G) (hN : 1 ≤ N ∧ N ≤ 8) (hn : n < 1000000) (hI : ∀ a s, Mg.Inv N (fun m => G m a s)) :
    Calls Try.prog 18 #[.pointer (some ⟨bw, 0, none⟩), .int .i64 x, idV a s] w (OpPost w bw bm n N (LocateR N G x a s)) := by
  have hbm := h.mp.lt
  have hkA : Keeps [] w (w.alloc (.cells #[.int .i64 a, .int .i64 s] 31)) := (Keeps.refl _ _).alloc _
  have hb0 := heap_alloc_new w (.cells #[.int .i64 a, .int .i64 s] 31)
  have hsl := SlZ.one1 (w.alloc (.cells #[.int .i64 a, .int .i64 s] 31)) x 3
  have hkB : Keeps [] (w.alloc (.cells #[.int .i64 a, .int .i64 s] 31)) ((w.alloc (.cells #[.int .i64 a, .int .i64 s] 31)).alloc (.cells #[.int .i64 x] 3)) := (Keeps.refl _ _).alloc _
  have hWM := h.keeps (hkA.trans hkB)
  have hb1 := (hkB.block _ (by simp) (by simp)).trans hb0
  have hk0 := hkA.trans hkB
  rw [show (w.alloc (.cells #[.int .i64 a, .int .i64 s] 31)).heap.size = w.heap.size + 1 by simp] at hsl
  clear hb0 hkA hkB h
  replace hsl := Lib.hid hsl
  replace hWM := Lib.hid hWM
  replace hb1 := Lib.hid hb1
  replace hk0 := Lib.hid hk0
  have hwb : w.heap.size ≠ bm := by omega
  go_enter Try.func18, Try.ntmps18
  go_wp2_with fail
  generalize hW : (w.alloc (.cells #[.int .i64 a, .int .i64 s] 31)).alloc (.cells #[.int .i64 x] 3) = W at *
  clear hW
  refine (check_c _ bw bm n N G a s _ [x] hWM.out hsl.out).mono ?_
  rintro e w1 ⟨rfl, hk1⟩
  have hW1 := hWM.out.keeps hk1
  obtain ⟨y0, y1⟩ := cells2 ((hk1.block _ (lt_of_block hb1.out) (by simp)).trans hb1.out)
  obtain ⟨c0, c1, hlt, hne⟩ := hW1.cells
  have hy := lt_of_cell y0
  have hk01 := hk0.out.trans hk1
  replace hk01 := Lib.hid hk01
  clear hk1 hWM hb1 hsl hk0
  rcases chkE_cases N [x] a s with ⟨hc, hE⟩ | ⟨hc, hE⟩
  · rw [hE]
    obtain ⟨hr, hwm, ha, hs⟩ := chkB_w hc hN.2
    clear hE
    replace hc := Lib.hid hc
    replace hW1 := Lib.hid hW1
    obtain ⟨z, hz⟩ : ∃ z, G x a s = z := ⟨_, rfl⟩
    have hlook1 := fun nq => (hW1.out.mp.keeps ((Keeps.refl [] w1).drewN nq)).look x a s (hwm x (by simp)) ha hs
    rw [hz] at hlook1
    replace hz := Lib.hid hz
    by_cases hz0 : z = 0
    · subst hz0
      go_wp2
      (refine wp_region_quiet_lit (by kernel_rfl) (by kernel_rfl) ?_; (repeat (first | go_big_quiet_step (fail) | quiet_step (fail))); with_reducible refine wpQuiet_nil ?_; intro _ hw'; obtain ⟨nq, hw''⟩ := hw'; subst hw'')
      go_wp2
      go_ret
      exact ⟨6, n, G, rfl, .inr ⟨hc.out, .inl ⟨hz.out, rfl, rfl⟩⟩, hW1.out.keeps ((Keeps.refl [] w1).drewN nq), by omega, (hk01.out.drewN nq).of_nil⟩
    · have hz1 : (z == 0) = false := by simpa using hz0
      obtain ⟨lst, h, hch⟩ := (hI a s).ch x (by show G x a s ≠ 0; rw [hz.out]; exact hz0)
      have hN64 : ∀ m, G m a s ≠ 0 → W64 m := fun m hm => by have := (hI a s).rng m hm; exact w64 (by omega) (by omega)
      go_wp2
      (refine wp_region_quiet_lit (by kernel_rfl) (by kernel_rfl) ?_; (repeat (first | go_big_quiet_step (fail) | quiet_step (fail))); with_reducible refine wpQuiet_nil ?_; intro _ hw'; obtain ⟨nq, hw''⟩ := hw'; subst hw'')
      have hk2x : Keeps [] w1 (w1.drewN nq) := (Keeps.refl [] w1).drewN nq
      generalize w1.drewN nq = w2 at hk2x ⊢
      have hW2 := hW1.out.keeps hk2x
      have hk02 := hk01.out.trans hk2x
      replace y0 := hk2x.val y0
      replace y1 := hk2x.val y1
      replace c0 := hk2x.val c0
      replace c1 := hk2x.val c1
      clear hk2x hlook1
      replace hW2 := Lib.hid hW2
      replace hk02 := Lib.hid hk02
      clear hW1 hk01
      replace hch := Lib.hid hch
      have hsz2 := hk02.out.size
      have hyl := lt_of_cell y0
      have hT1 : (bw = bm ∨ w2.heap.size ≤ bw) → False := fun h => h.elim hne (fun h => by have := lt_of_cell c0; omega)
      have hT2 : (w.heap.size = bm ∨ w2.heap.size ≤ w.heap.size) → False := fun h => h.elim hwb (fun h => by omega)
      go_wp2
      refine Free.wp_region_chain (fun i => i == 10 || i == 11 || i == 12) (fun i => true) (fun _ b => b = bm ∨ w2.heap.size ≤ b) (by kernel_rfl) (by kernel_rfl) (by kernel_rfl) ?_
      (repeat (first | (apply Free.cw_pure rfl rfl; (intro w'; go_simp <;> exact rfl); go_frame) | (apply Free.cw_steady rfl rfl rfl; (intro w' hS; have q0 := Free.sx_cell hS c1 (fun _ _ hT => hT1 hT); have q1 := Free.sx_cell hS y0 (fun _ _ hT => hT2 hT); have q2 := Free.sx_cell hS y1 (fun _ _ hT => hT2 hT); go_simp <;> exact rfl); go_frame) | (refine Free.cw_skip rfl ?_; go_frame)))
      refine Free.cw_loud rfl rfl (fun K hK => ?_)
      go_wp2_with fail
      refine (steps_c _ bw bm n N G x a s (hW2.out.keeps ((Keeps.refl [] w2).drew))).mono ?_
      rintro e w3 ⟨Bm, Bw, Bi, rfl, ⟨hBm, _, _⟩, hBw, hBi, hbwn, hbmn, hR3, hk3⟩
      refine hK _ _ rfl (Free.KeepsP.of hk3 (by simp)) ?_
      clear hK K
      (repeat (apply Free.cw_pure rfl rfl; (intro w'; go_simp <;> exact rfl); go_frame))
      refine Free.cw_loud rfl rfl (fun K hK => ?_)
      go_wp2_with fail
      refine (last_c _ Bm Bw Bi bw bm n N G a s x h lst hR3 hch.out hN64 ha hs hBw hBi hbwn hbmn).mono ?_
      rintro e w4 ⟨rfl, hk4⟩
      refine hK _ _ rfl (Free.KeepsP.of hk4 (fun b hb => .inr (by simp at hb; subst hb; simpa using hBm))) ?_
      clear hK K
      (repeat (apply Free.cw_pure rfl rfl; (intro w'; go_simp <;> exact rfl); go_frame))
      have hW4 := hR3.wm.keep hk4 (by simpa using hbwn) (by simpa using hbmn)
      have hk04 := ((hk02.out.trans ((Keeps.refl [] w2).drew)).trans hk3).fresh hk4 (fun b hb => .inr (by simp at hb; subst hb; have := hBm; simp at this; omega))
      clear hR3 hk3 hk4
      refine Free.cw_loud rfl rfl (fun K hK => ?_)
      obtain ⟨w9, hput, hmp9, hk9⟩ := hW4.mp.put x a s (hwm x (by simp)) ha hs (by unfold maxLen; omega) h
      have hW9 := hW4.turn hk9 hmp9
      have hk09 := hk04.of_nil.trans hk9
      replace hW9 := Lib.hid hW9
      replace hk09 := Lib.hid hk09
      replace hk9 := Lib.hid hk9
      clear hmp9 hW4 hk04
      go_wp2
      refine hK _ _ rfl (Free.KeepsP.of hk9.out (fun b hb => .inl (by simpa using hb))) ?_
      clear hK K
      (repeat (apply Free.cw_pure rfl rfl; (intro w'; go_simp <;> exact rfl); go_frame))
      refine Free.cw_nil ?_
      go_wp2
      go_ret
      exact ⟨0, n + 1, _, rfl, .inr ⟨hc.out, .inr ⟨by rw [hz.out]; exact hz0, lst, h, hch.out, rfl, rfl⟩⟩, hW9.out, by omega, hk09.out⟩

  · rw [hE]
    replace hW1 := Lib.hid hW1
    replace hc := Lib.hid hc
    clear hE
    go_wp2
    go_ret
    exact ⟨1, n, G, rfl, .inl ⟨hc.out, rfl, rfl⟩, hW1.out, by omega, hk01.out.of_nil⟩
end Go.Proofs.Ythhhciofcmmnfaa

namespace Go.Proofs.Ythhhciofcmmnfaa
open Go.RowKit
attribute [local go_sem] Oper.semAt_some

/-- What Walk gives. -/
def WalkR (N : Int) (G : Pt) (x a s : Int) (c : Int) (l : List Int) : Prop :=
  (chkB N [x] a s = false ∧ c = 1 ∧ l = []) ∨ (chkB N [x] a s = true ∧ ((G x a s = 0 ∧ c = 6 ∧ l = []) ∨ (G x a s ≠ 0 ∧ (∃ h, Mg.Ch (fun m => G m a s) x l h) ∧ c = 0)))
def WalkPost (w : World) (N : Int) (G : Pt) (x a s : Int) (e : Ending) (w' : World) : Prop := ∃ c l v, e = .returned (.tuple #[v, .int .i64 c]) ∧ WalkR N G x a s c l ∧ SlZ w' v l ∧ (∀ b, v.ownBlock = some b → w.heap.size ≤ b) ∧ Keeps [] w w'
theorem infoIw : (Try.prog.info? 3).map (fun i => (i.zero, i.size, i.bytes)) = some (some (.int .i64 0), 1, 8) := by kernel_rfl
/-- What holds between two rounds; `X` is the caller's box, which holds the list. -/
structure JW (w W : World) (X n0 : Nat) (Bm Bw Bi bw bm nn : Nat) (N : Int) (G : Pt) (a s v : Int) (xv : Value) (pre : List Int) : Prop where
  keeps : Keeps [] w W
  rd : Rd W Bm Bw Bi bw bm nn N G a s v
  xbox : W.heap[X]? = some (.cells #[xv] 37 (0, 0))
  row : W.ownsRow n0 3 1 xv pre.length (ints pre)
  big : n0 ≤ W.heap.size
theorem owns_block {W : World} {n0 : Nat} {e : TypeId} {xv : Value} {k : Nat} {xs : List Value} (h : W.ownsRow n0 e 1 xv k xs) : ∀ b, xv.ownBlock = some b → n0 ≤ b ∧ ∃ o, W.heap[b]? = some o ∧ o.isCells = true := fun b e => by
  rcases h.2 with ⟨rfl, _⟩ | ⟨g, cap, cur, rfl, hb, hg, _⟩
  · simp [Value.ownBlock] at e
  · simp [Value.ownBlock] at e; subst e; exact ⟨hb, _, hg, rfl⟩
set_option maxRecDepth 100000 in
set_option maxHeartbeats 2000000 in
theorem walk_c (w : World) (bw bm n : Nat) (N : Int) (G : Pt) (x a s : Int) (h : WM w bw bm n N G) (hN : 1 ≤ N ∧ N ≤ 8) (hI : ∀ a s, Mg.Inv N (fun m => G m a s)) :
    Calls Try.prog 14 #[.pointer (some ⟨bw, 0, none⟩), .int .i64 x, idV a s] w (WalkPost w N G x a s) := by
  have hbm := h.mp.lt
  have hkA : Keeps [] w (w.alloc (.cells #[.int .i64 a, .int .i64 s] 31)) := (Keeps.refl _ _).alloc _
  have hb0 := heap_alloc_new w (.cells #[.int .i64 a, .int .i64 s] 31)
  have hsl := SlZ.one1 (w.alloc (.cells #[.int .i64 a, .int .i64 s] 31)) x 3
  have hkB : Keeps [] (w.alloc (.cells #[.int .i64 a, .int .i64 s] 31)) ((w.alloc (.cells #[.int .i64 a, .int .i64 s] 31)).alloc (.cells #[.int .i64 x] 3)) := (Keeps.refl _ _).alloc _
  have hWM := h.keeps (hkA.trans hkB)
  have hb1 := (hkB.block _ (by simp) (by simp)).trans hb0
  have hk0 := hkA.trans hkB
  rw [show (w.alloc (.cells #[.int .i64 a, .int .i64 s] 31)).heap.size = w.heap.size + 1 by simp] at hsl
  clear hb0 hkA hkB h
  replace hsl := Lib.hid hsl
  replace hWM := Lib.hid hWM
  replace hb1 := Lib.hid hb1
  replace hk0 := Lib.hid hk0
  have hwb : w.heap.size ≠ bm := by omega
  refine (callsIn_wide (n := 5)).1 ?_
  refine callsIn_of_wp_marks Try.func14 rfl trivial ?_ rfl
  simp only [Try.ntmps14, List.size_toArray, List.length_cons, List.length_nil, Nat.reduceAdd, Nat.reduceSub, Array.replicate_succ, Array.replicate_zero, List.push_toArray, List.append_toArray, List.nil_append, List.cons_append]
  refine wpIn_wide.2 ?_
  go_wp2_with fail
  generalize hW : (w.alloc (.cells #[.int .i64 a, .int .i64 s] 31)).alloc (.cells #[.int .i64 x] 3) = W at *
  clear hW
  refine (check_c _ bw bm n N G a s _ [x] hWM.out hsl.out).mono ?_
  rintro e w1 ⟨rfl, hk1⟩
  have hW1 := hWM.out.keeps hk1
  obtain ⟨y0, y1⟩ := cells2 ((hk1.block _ (lt_of_block hb1.out) (by simp)).trans hb1.out)
  obtain ⟨c0, c1, hlt, hne⟩ := hW1.cells
  have hy := lt_of_cell y0
  have hk01 := hk0.out.trans hk1
  replace hk01 := Lib.hid hk01
  clear hk1 hWM hb1 hsl hk0
  rcases chkE_cases N [x] a s with ⟨hc, hE⟩ | ⟨hc, hE⟩
  · rw [hE]
    obtain ⟨hr, hwm, ha, hs⟩ := chkB_w hc hN.2
    clear hE
    replace hc := Lib.hid hc
    replace hW1 := Lib.hid hW1
    obtain ⟨z, hz⟩ : ∃ z, G x a s = z := ⟨_, rfl⟩
    have hlook1 := fun nq => (hW1.out.mp.keeps ((Keeps.refl [] w1).drewN nq)).look x a s (hwm x (by simp)) ha hs
    rw [hz] at hlook1
    replace hz := Lib.hid hz
    by_cases hz0 : z = 0
    · subst hz0
      go_wp2
      (refine wp_region_quiet_lit (by kernel_rfl) (by kernel_rfl) ?_; (repeat (first | go_big_quiet_step (fail) | quiet_step (fail))); with_reducible refine wpQuiet_nil ?_; intro _ hw'; obtain ⟨nq, hw''⟩ := hw'; subst hw'')
      go_wp2
      exact ⟨_, results_tmp2 rfl _ _ _, 6, [], _, rfl, .inr ⟨hc.out, .inl ⟨hz.out, rfl, rfl⟩⟩, Sl.nil _ _, fun b hb => by simp [Value.ownBlock] at hb, hk01.out.drewN nq⟩
    · have hz1 : (z == 0) = false := by simpa using hz0
      obtain ⟨h, lst, hch⟩ : ∃ h lst, Mg.Ch (fun m => G m a s) x lst h := by
        obtain ⟨l, h, c⟩ := (hI a s).ch x (by show G x a s ≠ 0; rw [hz.out]; exact hz0)
        exact ⟨h, l, c⟩
      have hN64 : ∀ m, G m a s ≠ 0 → W64 m := fun m hm => by have := (hI a s).rng m hm; exact w64 (by omega) (by omega)
      have hlen : lst.length ≤ 8 := (hI a s).len hN.2 hch
      go_wp2
      (refine wp_region_quiet_lit (by kernel_rfl) (by kernel_rfl) ?_; (repeat (first | go_big_quiet_step (fail) | quiet_step (fail))); with_reducible refine wpQuiet_nil ?_; intro _ hw'; obtain ⟨nq, hw''⟩ := hw'; subst hw'')
      have hk2x : Keeps [] w1 (w1.drewN nq) := (Keeps.refl [] w1).drewN nq
      generalize w1.drewN nq = w2 at hk2x ⊢
      have hW2 := hW1.out.keeps hk2x
      have hk02 := hk01.out.trans hk2x
      replace y0 := hk2x.val y0
      replace y1 := hk2x.val y1
      replace c0 := hk2x.val c0
      replace c1 := hk2x.val c1
      clear hk2x hlook1 hW1 hk01
      replace hW2 := Lib.hid hW2
      replace hk02 := Lib.hid hk02
      replace hch := Lib.hid hch
      have hy2 := lt_of_cell y0
      have hbw2 := lt_of_cell c0
      have hkX : Keeps [] w2 (w2.alloc (.cells #[.slice none 0 0] 37)) := (Keeps.refl _ _).alloc _
      have hX0 := heap_alloc_new w2 (.cells #[.slice none 0 0] 37)
      have hbm2 := hW2.out.mp.lt
      have hszX : (w2.alloc (.cells #[.slice none 0 0] 37)).heap.size = w2.heap.size + 1 := by simp
      have hWX := hW2.out.keeps hkX
      have hsz2 := hk02.out.size
      replace hWX := Lib.hid hWX
      replace hX0 := Lib.hid hX0
      replace hkX := Lib.hid hkX
      go_wp2_with fail
      refine (steps_c _ bw bm n N G x a s hWX.out).mono ?_
      rintro e w3 ⟨Bm, Bw, Bi, rfl, ⟨hBm, hBwX, hBiX⟩, hBw, hBi, hbwn, hbmn, hR3, hk3⟩
      have hX3 := (hk3.block _ (by omega) (by simp)).trans hX0.out
      have hk03 := (hk02.out.trans hkX.out).trans hk3
      have hBm3 := lt_of_block hR3.box
      have hBw3 := lt_of_block hR3.wbox
      have hBi3 := lt_of_block hR3.ibox
      have hbw3 := hR3.wm.cells.2.2.1
      have hbm3 := hR3.wm.mp.lt
      have hXlt := lt_of_block hX3
      replace hR3 := Lib.hid hR3
      replace hX3 := Lib.hid hX3
      replace hk03 := Lib.hid hk03
      clear hk3 hWX hX0 hkX hW2 hk02 y0 y1 c0 c1
      go_wp2
      refine (wpIn_wide (n := 5)).1 ?_
      have hXm : w2.heap.size ≠ Bm := by omega
      have hwX : w.heap.size ≤ w2.heap.size := by omega
      have hwBm : w.heap.size ≤ Bm := by omega
      refine wpIn_rangeFunc_box rfl (by omega) (gf := 38) (lb := #[.pointer (some ⟨Bm, 0, none⟩), .pointer (some ⟨Bw, 0, none⟩), .pointer (some ⟨Bi, 0, none⟩)]) rfl trivial (enters_of Try.func38 (by kernel_rfl) rfl) rfl Bm (by omega) x lst
        (fun pre v W => ∃ xv, JW w W w2.heap.size w3.heap.size Bm Bw Bi bw bm n N G a s v xv pre)
        (steps1_gives _ Bm Bw Bi bw bm n N G a s x h lst _ (by omega) hch.out hN64 ha hs (fun _ _ _ hj => by obtain ⟨_, hj⟩ := hj; exact hj.rd))
        ?jset ?jdrew ?jput ?j0 (fun y => { tmps := List.toArray ((.pointer (some ⟨bw, 0, none⟩) : Value) :: (.int .i64 x) :: (idV a s) :: undef :: undef :: (.pointer (some ⟨w.heap.size, 0, none⟩)) :: (.slice none 0 0) :: (.int .i64 0) :: (.int .i64 0) :: (.pointer (some ⟨w2.heap.size, 0, none⟩)) :: (.int .i64 y) :: (.pointer (some ⟨bw, 0, none⟩)) :: (.agg #[.int .i64 a, .int .i64 s]) :: (.int .i64 x) :: (.slice (some ⟨w.heap.size + 1, 0, none⟩) 1 1) :: (.int .i64 0) :: (.int .i64 0) :: (.bool false) :: undef :: (.pointer (some ⟨bw, 0, none⟩)) :: (.pointer (some ⟨bw, 0, none⟩)) :: (.pointer (some ⟨bw, 1, none⟩)) :: (.map (some bm)) :: (.int .i64 x) :: (.agg #[.int .i64 a, .int .i64 s]) :: (.agg #[.int .i64 x, .int .i64 a, .int .i64 s]) :: (.int .i64 z) :: (.bool false) :: (.pointer (some ⟨bw, 0, none⟩)) :: (.int .i64 x) :: (.agg #[.int .i64 a, .int .i64 s]) :: (.func (.func 38) #[] #[.pointer (some ⟨Bm, 0, none⟩), .pointer (some ⟨Bw, 0, none⟩), .pointer (some ⟨Bi, 0, none⟩)]) :: (.int .i64 y) :: undef :: undef :: undef :: undef :: undef :: []), defers := [] }) ?assign ?body ?done
      case jset =>
        rintro pre v v' W ⟨xv, hj⟩
        have hk : Keeps [Bm] W (W.setCell ⟨Bm, 0, none⟩ (.int .i64 v')) := (Keeps.refl _ W).setCell (p := ⟨Bm, 0, none⟩) (.inr (by simp)) _
        exact ⟨xv, hj.keeps.setCell (p := ⟨Bm, 0, none⟩) (.inl hwBm) _, hj.rd.set hBw hBi hbwn hbmn v', (hk.block _ (lt_of_block hj.xbox) (by simpa using hXm)).trans hj.xbox, hj.row.kept (grownBy_setCell' W Bm _) (.inr (fun e => by have := (owns_block hj.row _ e).1; omega)), by simpa [World.setCell] using hj.big⟩
      case jdrew =>
        rintro pre v W k ⟨xv, hj⟩
        exact ⟨xv, hj.keeps.drewN k, hj.rd.keep ((Keeps.refl [] W).drewN k) (by simp) (by simp) (by simp) (by simp) (by simp), hj.xbox, hj.row, hj.big⟩
      case jput =>
        rintro pre v W l o o' hl ho hcl ⟨xv, hj⟩
        have hk : Keeps [l] W (W.putObj l o') := Keeps.of_grown (grownBy_putObj' W l o')
        exact ⟨xv, hj.keeps.put (by omega) _, hj.rd.keep hk (by simp; omega) (by simp; omega) (by simp; omega) (by simp; omega) (by simp; omega), (hk.block _ (lt_of_block hj.xbox) (by simp; omega)).trans hj.xbox, ownsRow_putObj hj.row _ ho hcl, by simpa [World.putObj] using hj.big⟩
      case j0 =>
        intro W hk
        exact ⟨_, hk03.out.trans hk, hR3.out.keep hk (by simp) (by simp) (by simp) (by simp) (by simp), (hk.block _ hXlt (by simp)).trans hX3.out, World.ownsRow_nil _ _ _ _, hk.size⟩
      case assign =>
        intro l y W K hK
        gi_wp2
        exact hK
      case body =>
        rintro l pre v W ⟨xv, hj⟩ hlen2
        obtain ⟨i0, hi, hz0, hz1', hz2⟩ := info_parts infoIw
        obtain ⟨x0, xf⟩ := cell1 hj.xbox
        have hXW := lt_of_block hj.xbox
        have hle : w3.heap.size ≤ W.heap.size := hj.big
        have hpl : pre.length < 1000000 := by omega
        have hrow := hj.row
        gi_wp2_with (gi_at_builtin; refine wpListIn_append_own _ rfl _ _ 37 rfl w3.heap.size 3 i0 (.int .i64 0) 1 8 Try.underlying37 hi hz0 hz1' hz2 rfl (by decide) _ _ _ rfl (hrow.alloc _) ⟨W.heap.size, 0, none⟩ 1 1 [.int .i64 v] rfl rfl (cell_one_new _ _ _) (by simp [Value.oneCell']) (by unfold maxLen; omega) (by omega) (by simp; omega) ?_; intro v' w1 hown' hgrow _; replace hgrow : (W.alloc (.cells #[.int .i64 v] 3)).grownBy w1 xv.ownBlock := hgrow; have hkA : Keeps xv.ownBlock.toList W w1 := ((Keeps.refl _ W).alloc _).grown hgrow (fun k e => .inr (by simp [e])); have hx1 := (hkA.block _ hXW (fun hm => by have := (owns_block hrow _ (by simpa using hm)).1; omega)).trans hj.xbox; obtain ⟨c1', f1'⟩ := cell1 hx1; have hsub := (owns_block hown'); obtain ⟨g', cap', rfl⟩ := ownsRow_succ hown')
        have hgb := (hsub g' rfl).1
        have hkf : Keeps (w2.heap.size :: xv.ownBlock.toList) W (w1.setCell ⟨w2.heap.size, 0, none⟩ (.slice (some ⟨g', 0, none⟩) (pre.length + 1) cap')) := (hkA.mono (fun k hk => by simp [hk])).setCell (p := ⟨w2.heap.size, 0, none⟩) (.inr (by simp)) _
        have hnot : ∀ b, b < w3.heap.size → b ≠ w2.heap.size → b ∉ w2.heap.size :: xv.ownBlock.toList := fun b hb hne hm => by
          rcases List.mem_cons.1 hm with e | e
          · exact hne e
          · have := (owns_block hrow _ (by simpa using e)).1; omega
        refine ⟨(((KeepsOthers.alloc W (.cells #[.int .i64 v] 3)).trans (KeepsOthers.of_grownBy hgrow fun j o ej hj2 => ?_)).trans (KeepsOthers.setCell _ _ _)).from _, _, ?_, ?_, heap_set1 hx1, ?_, ?_⟩
        · obtain ⟨_, o', ho', hc'⟩ := owns_block (hrow.alloc (.cells #[.int .i64 v] 3)) j ej
          rw [hj2] at ho'; cases ho'; exact hc'
        · exact ((hj.keeps.alloc _).grown hgrow (fun k e => .inl (by have := (owns_block hrow _ e).1; have := hk03.out.size; omega))).setCell (p := ⟨w2.heap.size, 0, none⟩) (.inl hwX) _
        · exact hj.rd.keep hkf (hnot _ hBm3 (fun e => hXm e.symm)) (hnot _ hBw3 (by omega)) (hnot _ hBi3 (by omega)) (hnot _ hbw3 (by omega)) (hnot _ hbm3 (by omega))
        · have := hown'.kept (grownBy_setCell' w1 w2.heap.size (.slice (some ⟨g', 0, none⟩) (pre.length + 1) cap')) (.inr (fun e => by simp [Value.ownBlock] at e; omega))
          simpa [ints] using this
        · have := hkf.size; omega
      case done =>
        rintro D v W hD ⟨xv, hj⟩ hK
        obtain ⟨x0, xf⟩ := cell1 hj.xbox
        go_wp2
        refine ⟨by simp, .inl ⟨_, _, rfl, run_takeDeferred hK, ?_⟩⟩
        refine ⟨_, results_tmp2 rfl _ _ _, 0, lst, _, rfl, .inr ⟨hc.out, .inr ⟨by rw [hz.out]; exact hz0, ⟨h, hch.out⟩, rfl⟩⟩, ?_, fun b hb => ?_, hj.keeps.put (by have := hk03.out.size; omega) _⟩
        · exact Sl.of_owns (ownsRow_putObj hj.row _ hK rfl)
        · have := (owns_block hj.row b hb).1; have := hk03.out.size; omega
  · rw [hE]
    replace hW1 := Lib.hid hW1
    replace hc := Lib.hid hc
    clear hE
    go_wp2
    exact ⟨_, results_tmp2 rfl _ _ _, 1, [], _, rfl, .inl ⟨hc.out, rfl, rfl⟩, Sl.nil _ _, fun b hb => by simp [Value.ownBlock] at hb, hk01.out⟩
end Go.Proofs.Ythhhciofcmmnfaa

namespace Go.Proofs.Ythhhciofcmmnfaa
open Go.RowKit

def gL (L : List EntV) (m a s : Int) : Int := match L.find? (fun e => e.is m a s) with
  | none => 0
  | some e => if e.r = 0 then m else e.r
def withF : List EntV → Int → Int → Int → Int → List EntV
  | [], m, a, s, r => [⟨m, a, s, r⟩]
  | e :: t, m, a, s, r => if e.is m a s then { e with r := r } :: t else e :: withF t m a s r
theorem EntV.is_iff {e : EntV} {m a s : Int} : e.is m a s = true ↔ e.m = m ∧ e.a = a ∧ e.s = s := by simp [EntV.is, and_assoc]
theorem WithR.eq : ∀ {L L' : List EntV} {m a s r : Int}, WithR L m a s r L' → L' = withF L m a s r
  | [], L', m, a, s, r, h => by
    rcases h with ⟨k, hk, _⟩ | ⟨_, rfl⟩
    · simp at hk
    · rfl
  | e :: t, L', m, a, s, r, h => by
    rcases h with ⟨k, hk, his, hf, rfl⟩ | ⟨hn, rfl⟩
    · cases k with
      | zero =>
        simp at his
        simp [withF, his]
      | succ k =>
        have h0 := hf 0 (by simp) (by omega)
        simp at h0 his
        have := WithR.eq (L := t) (L' := t.set k { t[k]'(by simpa using hk) with r := r }) (.inl ⟨k, by simpa using hk, his, fun j hj hjk => by have := hf (j + 1) (by simpa using hj) (by omega); simpa using this, rfl⟩)
        simp [withF, h0, ← this]
    · have h0 := hn e (by simp)
      have := WithR.eq (L := t) (L' := t ++ [⟨m, a, s, r⟩]) (.inr ⟨fun x hx => hn x (by simp [hx]), rfl⟩)
      simp [withF, h0, ← this]
theorem gL_withF (L : List EntV) (m a s r m' a' s' : Int) : gL (withF L m a s r) m' a' s' = if m' = m ∧ a' = a ∧ s' = s then (if r = 0 then m else r) else gL L m' a' s' := by
  induction L with
  | nil =>
    unfold gL withF
    by_cases h : m' = m ∧ a' = a ∧ s' = s
    · obtain ⟨rfl, rfl, rfl⟩ := h
      simp [EntV.is]
    · rw [if_neg h]
      have : (EntV.is ⟨m, a, s, r⟩ m' a' s') = false := by
        rw [Bool.eq_false_iff]; intro h2
        rw [EntV.is_iff] at h2
        exact h ⟨h2.1.symm, h2.2.1.symm, h2.2.2.symm⟩
      simp [this]
  | cons e t ih =>
    unfold withF
    by_cases he : e.is m a s = true
    · rw [if_pos he]
      have he' := EntV.is_iff.1 he
      by_cases h : m' = m ∧ a' = a ∧ s' = s
      · rw [if_pos h]
        obtain ⟨rfl, rfl, rfl⟩ := h
        unfold gL
        rw [List.find?_cons_of_pos (by simpa [EntV.is] using he)]
      · rw [if_neg h]
        have hx : ∀ q, (EntV.is ⟨e.m, e.a, e.s, q⟩ m' a' s') = false := fun q => by
          rw [Bool.eq_false_iff]; intro h2
          rw [EntV.is_iff] at h2
          simp only at h2
          exact h ⟨h2.1.symm.trans he'.1, h2.2.1.symm.trans he'.2.1, h2.2.2.symm.trans he'.2.2⟩
        unfold gL
        rw [List.find?_cons_of_neg (by simp [hx]), List.find?_cons_of_neg (by have := hx e.r; simpa using this)]
    · rw [if_neg he]
      by_cases hq : e.is m' a' s' = true
      · have h : ¬(m' = m ∧ a' = a ∧ s' = s) := by rintro ⟨rfl, rfl, rfl⟩; exact he hq
        rw [if_neg h]
        unfold gL
        simp only [List.find?, hq]
      · have e1 : ∀ l, gL (e :: l) m' a' s' = gL l m' a' s' := fun l => by
          have hq' : e.is m' a' s' = false := by simpa using hq
          unfold gL; simp only [List.find?, hq']
        rw [e1, e1]; exact ih
theorem withF_mem {L : List EntV} {m a s r : Int} {x : EntV} (h : x ∈ withF L m a s r) : x ∈ L ∨ (x.m = m ∧ x.a = a ∧ x.s = s ∧ x.r = r) := by
  induction L with
  | nil => simp [withF] at h; subst h; exact .inr ⟨rfl, rfl, rfl, rfl⟩
  | cons e t ih =>
    unfold withF at h
    split at h
    · rename_i he
      rcases List.mem_cons.1 h with rfl | h
      · have := EntV.is_iff.1 he; exact .inr ⟨this.1, this.2.1, this.2.2, rfl⟩
      · exact .inl (by simp [h])
    · rcases List.mem_cons.1 h with rfl | h
      · exact .inl (by simp)
      · rcases ih h with h | h
        · exact .inl (by simp [h])
        · exact .inr h
def Uq (L : List EntV) : Prop := L.Pairwise (fun e f => ¬(f.m = e.m ∧ f.a = e.a ∧ f.s = e.s))
theorem withF_uq {L : List EntV} {m a s r : Int} (h : Uq L) : Uq (withF L m a s r) := by
  induction L with
  | nil => simp [withF, Uq]
  | cons e t ih =>
    obtain ⟨h1, h2⟩ := List.pairwise_cons.1 h
    unfold withF
    split
    · exact List.pairwise_cons.2 ⟨fun f hf => h1 f hf, h2⟩
    · rename_i he
      refine List.pairwise_cons.2 ⟨fun f hf => ?_, ih h2⟩
      rcases withF_mem hf with hf | hf
      · exact h1 f hf
      · rintro ⟨e1, e2, e3⟩
        exact he (EntV.is_iff.2 ⟨e1.symm.trans hf.1, e2.symm.trans hf.2.1, e3.symm.trans hf.2.2.1⟩)
theorem find_mem {L : List EntV} (h : Uq L) {x : EntV} (hx : x ∈ L) : L.find? (fun e => e.is x.m x.a x.s) = some x := by
  induction L with
  | nil => cases hx
  | cons e t ih =>
    obtain ⟨h1, h2⟩ := List.pairwise_cons.1 h
    rcases List.mem_cons.1 hx with rfl | hx
    · exact List.find?_cons_of_pos (by simp [EntV.is])
    · rw [List.find?_cons_of_neg]
      · exact ih h2 hx
      · intro he
        have := EntV.is_iff.1 he
        exact h1 x hx ⟨this.1.symm, this.2.1.symm, this.2.2.symm⟩
/-- The map and the list agree. -/
structure Rel (N : Int) (G : Pt) (L : List EntV) : Prop where
  eq : ∀ m a s, G m a s = gL L m a s
  inv : ∀ a s, Mg.Inv N (fun m => G m a s)
  ent : ∀ e ∈ L, 1 ≤ e.m ∧ e.r ≠ e.m ∧ 0 ≤ e.r
  uq : Uq L
theorem Rel.zero (N : Int) : Rel N (fun _ _ _ => 0) [] := ⟨fun _ _ _ => rfl, fun _ _ => Mg.Inv.zero N, fun _ h => (by cases h), List.Pairwise.nil⟩
variable {N : Int} {G G' : Pt} {L L' : List EntV} {x y a s c c' : Int}
theorem Rel.no (h : Rel N G L) : G x a s = 0 ↔ NoE L x a s := by
  rw [h.eq]
  unfold gL NoE
  constructor
  · intro h0 e he
    rw [Bool.eq_false_iff]
    intro hi
    obtain ⟨f, hf⟩ : ∃ f, L.find? (fun e => e.is x a s) = some f := by
      cases hh : L.find? (fun e => e.is x a s) with
      | none => exact absurd (List.find?_eq_none.1 hh e he) (by simp [hi])
      | some f => exact ⟨f, rfl⟩
    rw [hf] at h0
    have hm := List.mem_of_find?_eq_some hf
    have hx := EntV.is_iff.1 (List.find?_some (p := fun (e : EntV) => e.is x a s) hf)
    have := h.ent f hm
    simp only at h0
    split at h0
    · omega
    · omega
  · intro hn
    rw [FindR.none hn]
theorem Rel.has (h : Rel N G L) : G x a s ≠ 0 ↔ HasE L x a s := by
  rw [Ne, h.no]
  unfold NoE HasE
  constructor
  · intro hn
    apply Classical.byContradiction
    intro h2
    exact hn (fun e he => by rw [Bool.eq_false_iff]; exact fun hi => h2 ⟨e, he, hi⟩)
  · rintro ⟨e, he, hi⟩ hn
    rw [hn e he] at hi; cases hi
theorem Rel.at (h : Rel N G L) {e : EntV} (he : e ∈ L) : G e.m e.a e.s = if e.r = 0 then e.m else e.r := by
  rw [h.eq]; unfold gL; rw [find_mem h.uq he]
theorem Rel.ent_of (h : Rel N G L) (h0 : G x a s ≠ 0) : ∃ e ∈ L, e.m = x ∧ e.a = a ∧ e.s = s := by
  obtain ⟨e, he, hi⟩ := h.has.1 h0
  exact ⟨e, he, EntV.is_iff.1 hi⟩
theorem updP_fun (G : Pt) (m a s v : Int) : (fun k => updP G m a s v k a s) = Mg.upd (fun k => G k a s) m v := by
  funext k; simp [updP, Mg.upd]
theorem updP_off (G : Pt) (m a s v a' s' : Int) (h : ¬(a' = a ∧ s' = s)) : (fun k => updP G m a s v k a' s') = (fun k => G k a' s') := by
  funext k
  simp only [updP]
  rw [if_neg (fun e => h e.2)]
theorem Rel.withR {m r v : Int} (h : Rel N G L) (hw : WithR L m a s r L') (hm : 1 ≤ m) (hr : r ≠ m) (hr0 : 0 ≤ r) (hv : v = if r = 0 then m else r) (hI : Mg.Inv N (Mg.upd (fun k => G k a s) m v)) : Rel N (updP G m a s v) L' := by
  obtain rfl := hw.eq
  refine ⟨fun m' a' s' => ?_, fun a' s' => ?_, fun e he => ?_, withF_uq h.uq⟩
  · rw [gL_withF, ← h.eq, ← hv]; rfl
  · by_cases e : a' = a ∧ s' = s
    · obtain ⟨rfl, rfl⟩ := e
      rw [updP_fun]; exact hI
    · rw [updP_off _ _ _ _ _ _ _ e]; exact h.inv a' s'
  · rcases withF_mem he with he | ⟨e1, _, _, e4⟩
    · exact h.ent e he
    · rw [e1, e4]; exact ⟨hm, hr, hr0⟩
theorem Rel.home {m m' : Int} {b b' : Bool} (h : Rel N G L) (h1 : HomeR N (fun k => G k a s) m b) (h2 : HomeL L a s m' b') : b = b' ∧ m = m' := by
  have key : ∀ x ∈ L, x.a = a → x.s = s → x.r = 0 → G x.m a s = x.m ∧ 1 ≤ x.m ∧ x.m ≤ N := fun x hx e1 e2 e3 => by
    have := h.at hx
    rw [e1, e2, if_pos e3] at this
    have hm := (h.ent x hx).1
    have := (h.inv a s).rng x.m (by show G x.m a s ≠ 0; omega)
    exact ⟨by assumption, hm, this.2⟩
  rcases h1 with ⟨rfl, p1, p2, p3⟩ | ⟨rfl, rfl, hn⟩
  · replace p3 : G m a s = m := p3
    obtain ⟨e, he, e1, e2, e3⟩ := h.ent_of (x := m) (a := a) (s := s) (by rw [p3]; omega)
    have hat := h.at he
    rw [e1, e2, e3, p3] at hat
    have hr : e.r = 0 := by
      apply Classical.byContradiction
      intro hr
      rw [if_neg hr] at hat
      exact (h.ent e he).2.1 (by rw [← hat, e1])
    rcases h2 with ⟨rfl, x, hx, x1, x2, x3, rfl⟩ | ⟨_, _, hn⟩
    · obtain ⟨k1, k2, _⟩ := key x hx x1 x2 x3
      exact ⟨rfl, (h.inv a s).one m x.m p3 (by omega) k1 (by omega)⟩
    · exact absurd ⟨e2, e3, hr⟩ (hn e he)
  · rcases h2 with ⟨rfl, x, hx, x1, x2, x3, rfl⟩ | ⟨rfl, rfl, _⟩
    · obtain ⟨k1, k2, k3⟩ := key x hx x1 x2 x3
      exact absurd k1 (hn x.m k2 k3)
    · exact ⟨rfl, rfl⟩
theorem chkB_one (N x a s : Int) : chkB N [x, x] a s = chkB N [x] a s := by simp [chkB]
theorem chkB_in {ms : List Int} (h : chkB N ms a s = true) : ∀ m ∈ ms, 1 ≤ m ∧ m ≤ N := by
  unfold chkB at h
  rw [Bool.and_eq_true, List.all_eq_true] at h
  exact fun m hm => by have := h.1 m hm; simpa using this
theorem Rel.create (h : Rel N G L) (h1 : CreateR N G x a s c G') (h2 : CreateL N L x a s c' L') : c = c' ∧ Rel N G' L' := by
  rcases h1 with ⟨p, rfl, rfl⟩ | ⟨p, m, b, hH, h1⟩
  · rcases h2 with ⟨q, rfl, rfl⟩ | ⟨q, _⟩
    · exact ⟨rfl, h⟩
    · rw [chkB_one, p] at q; cases q
  · rcases h2 with ⟨q, _⟩ | ⟨q, m', b', hH', h2⟩
    · rw [chkB_one, p] at q; cases q
    · obtain ⟨rfl, rfl⟩ := h.home hH hH'
      have hx := chkB_in p x (by simp)
      rcases h1 with ⟨rfl, rfl, rfl⟩ | ⟨rfl, rfl, rfl⟩
      · rcases h2 with ⟨_, rfl, rfl⟩ | ⟨e, _⟩
        · exact ⟨rfl, h⟩
        · cases e
      · rcases h2 with ⟨e, _⟩ | ⟨_, rfl, hw⟩
        · cases e
        · refine ⟨rfl, h.withR hw hx.1 (by omega) (by omega) (by simp) ((h.inv a s).create hx ?_)⟩
          rcases hH with ⟨e, _⟩ | ⟨_, _, hn⟩
          · cases e
          · exact hn
theorem Rel.share (h : Rel N G L) (h1 : ShareR N G x y a s c G') (h2 : ShareL N L x y a s c' L') : c = c' ∧ Rel N G' L' := by
  rcases h1 with ⟨p, rfl, rfl⟩ | ⟨p, h1⟩
  · rcases h2 with ⟨q, rfl, rfl⟩ | ⟨q, _⟩
    · exact ⟨rfl, h⟩
    · rw [p] at q; cases q
  · rcases h2 with ⟨q, _⟩ | ⟨_, h2⟩
    · rw [p] at q; cases q
    · have hx := chkB_in p x (by simp)
      have hy := chkB_in p y (by simp)
      rcases h1 with ⟨g0, rfl, rfl⟩ | ⟨g0, rfl, h1⟩
      · rcases h2 with ⟨_, rfl, rfl⟩ | ⟨hh, _⟩
        · exact ⟨rfl, h⟩
        · exact absurd g0 (h.has.2 hh)
      · rcases h2 with ⟨hn, _⟩ | ⟨_, h2⟩
        · exact absurd (h.no.2 hn) g0
        · rcases h1 with ⟨gy, rfl⟩ | ⟨gy, rfl⟩
          · rcases h2 with ⟨_, rfl, rfl⟩ | ⟨hn, _⟩
            · exact ⟨rfl, h⟩
            · exact absurd (h.no.2 hn) gy
          · rcases h2 with ⟨hh, _⟩ | ⟨_, rfl, hw⟩
            · exact absurd gy (h.has.2 hh)
            · have hxy : x ≠ y := fun e => g0 (by rw [e]; exact gy)
              exact ⟨rfl, h.withR hw hy.1 hxy (by omega) (by rw [if_neg (by omega)]) ((h.inv a s).share hy g0 gy)⟩
theorem Rel.locate (h : Rel N G L) (h1 : LocateR N G x a s c G') (h2 : LocateL N L x a s c' L') : c = c' ∧ Rel N G' L' := by
  rcases h1 with ⟨p, rfl, rfl⟩ | ⟨p, h1⟩
  · rcases h2 with ⟨q, rfl, rfl⟩ | ⟨q, _⟩
    · exact ⟨rfl, h⟩
    · rw [chkB_one, p] at q; cases q
  · rcases h2 with ⟨q, _⟩ | ⟨_, h2⟩
    · rw [chkB_one, p] at q; cases q
    · have hx := chkB_in p x (by simp)
      rcases h1 with ⟨g0, rfl, rfl⟩ | ⟨g0, lst, hh, hch, rfl, rfl⟩
      · rcases h2 with ⟨_, rfl, rfl⟩ | ⟨hh, _⟩
        · exact ⟨rfl, h⟩
        · exact absurd g0 (h.has.2 hh)
      · rcases h2 with ⟨hn, _⟩ | ⟨_, m, b, hH, h2⟩
        · exact absurd (h.no.2 hn) g0
        · have hf := hch.fix
          have hrg := (h.inv a s).rng hh (by rw [hf.1]; exact hf.2)
          have hHR : HomeR N (fun k => G k a s) hh true := .inl ⟨rfl, hrg.1, hrg.2, hf.1⟩
          obtain ⟨_, rfl⟩ := h.home hHR hH
          rcases h2 with ⟨rfl, rfl, rfl⟩ | ⟨hne, rfl, hw⟩
          · refine ⟨rfl, ?_⟩
            have : updP G hh a s hh = G := by
              funext k a' s'
              simp only [updP]
              split
              · rename_i e; obtain ⟨rfl, rfl, rfl⟩ := e; exact hf.1.symm
              · rfl
            rw [this]; exact h
          · exact ⟨rfl, h.withR hw hx.1 hne (by omega) (by rw [if_neg (by omega)]) ((h.inv a s).locate g0 hf.1 hf.2 (fun e => hne e.symm))⟩
theorem Rel.move (h : Rel N G L) (h1 : MoveR N G x y a s c G') (h2 : MoveL N L x y a s c' L') : c = c' ∧ Rel N G' L' := by
  rcases h1 with ⟨p, rfl, rfl⟩ | ⟨p, h1⟩
  · rcases h2 with ⟨q, rfl, rfl⟩ | ⟨q, _⟩
    · exact ⟨rfl, h⟩
    · rw [p] at q; cases q
  · rcases h2 with ⟨q, _⟩ | ⟨_, h2⟩
    · rw [p] at q; cases q
    · have hx := chkB_in p x (by simp)
      have hy := chkB_in p y (by simp)
      rcases h2 with ⟨hn, rfl, rfl⟩ | ⟨k, hk, his, _, h2⟩
      · have g0 := h.no.2 hn
        rcases h1 with ⟨_, rfl, rfl⟩ | ⟨g1, _⟩ | ⟨g1, _⟩
        · exact ⟨rfl, h⟩
        · exact absurd g0 g1
        · omega
      · have hi := EntV.is_iff.1 his
        have hm : L[k] ∈ L := List.getElem_mem hk
        have hat := h.at hm
        rw [hi.1, hi.2.1, hi.2.2] at hat
        have hen := h.ent _ hm
        rw [hi.1] at hen
        have g0 : G x a s ≠ 0 := h.has.2 ⟨_, hm, his⟩
        rcases h2 with ⟨hr, rfl, rfl⟩ | ⟨hr, rfl, rfl, rfl⟩ | ⟨hr, hxy, rfl, L1, hw1, hw2⟩
        · rw [if_neg hr] at hat
          rcases h1 with ⟨g1, _⟩ | ⟨_, _, rfl, rfl⟩ | ⟨g1, _⟩
          · exact absurd g1 g0
          · exact ⟨rfl, h⟩
          · exact absurd (hat.symm.trans g1) hen.2.1
        · rw [if_pos hr] at hat
          rcases h1 with ⟨g1, _⟩ | ⟨_, g1, _⟩ | ⟨_, rfl, rfl⟩
          · exact absurd g1 g0
          · exact absurd hat g1
          · refine ⟨rfl, ?_⟩
            have : updP (updP G x a s x) x a s x = G := by
              funext k a' s'
              simp only [updP]
              split
              · rename_i e; obtain ⟨rfl, rfl, rfl⟩ := e; exact hat.symm
              · rfl
            rw [this]; exact h
        · rw [if_pos hr] at hat
          rcases h1 with ⟨g1, _⟩ | ⟨_, g1, _⟩ | ⟨_, rfl, rfl⟩
          · exact absurd g1 g0
          · exact absurd hat g1
          · refine ⟨rfl, ?_⟩
            have hI := (h.inv a s).move hy hat (by omega) hxy
            obtain rfl := hw1.eq
            obtain rfl := hw2.eq
            refine ⟨fun m' a' s' => ?_, fun a' s' => ?_, fun e he => ?_, withF_uq (withF_uq h.uq)⟩
            · rw [gL_withF, gL_withF, ← h.eq]
              simp only [updP]
              by_cases e1 : m' = y ∧ a' = a ∧ s' = s
              · rw [if_pos e1, if_neg (fun e => hxy (e.1.symm.trans e1.1)), if_pos e1]; simp
              · rw [if_neg e1]
                by_cases e2 : m' = x ∧ a' = a ∧ s' = s
                · rw [if_pos e2, if_pos e2, if_neg (by omega)]
                · rw [if_neg e2, if_neg e2, if_neg e1]
            · by_cases e : a' = a ∧ s' = s
              · obtain ⟨rfl, rfl⟩ := e
                rw [updP_fun, updP_fun]; exact hI
              · rw [updP_off _ _ _ _ _ _ _ e, updP_off _ _ _ _ _ _ _ e]; exact h.inv a' s'
            · rcases withF_mem he with he | ⟨e1, _, _, e4⟩
              · rcases withF_mem he with he | ⟨e1, _, _, e4⟩
                · exact h.ent e he
                · rw [e1, e4]; exact ⟨hy.1, by omega, by omega⟩
              · rw [e1, e4]; exact ⟨hx.1, fun e => hxy e.symm, by omega⟩
end Go.Proofs.Ythhhciofcmmnfaa

namespace Go.Proofs.Ythhhciofcmmnfaa
open Go.RowKit
variable {N : Int} {G G' : Pt} {L L' : List EntV} {x y a s c c' : Int}

theorem gL_cut : ∀ {L : List EntV} {k : Nat} (hk : k < L.length) {m a s : Int}, Uq L → L[k].is m a s = true → ∀ m' a' s', gL (L.take k ++ L.drop (k + 1)) m' a' s' = if m' = m ∧ a' = a ∧ s' = s then 0 else gL L m' a' s'
  | e :: t, 0, _, m, a, s, h, hi, m', a', s' => by
    obtain ⟨h1, h2⟩ := List.pairwise_cons.1 h
    simp at hi
    have he := EntV.is_iff.1 hi
    simp only [List.take_zero, List.nil_append, List.drop_succ_cons, List.drop_zero]
    by_cases q : m' = m ∧ a' = a ∧ s' = s
    · rw [if_pos q]
      obtain ⟨rfl, rfl, rfl⟩ := q
      unfold gL
      rw [FindR.none (fun x hx => by
        rw [Bool.eq_false_iff]; intro hxi
        have hx' := EntV.is_iff.1 hxi
        exact h1 x hx ⟨hx'.1.trans he.1.symm, hx'.2.1.trans he.2.1.symm, hx'.2.2.trans he.2.2.symm⟩)]
    · rw [if_neg q]
      have hn : e.is m' a' s' = false := by
        rw [Bool.eq_false_iff]; intro h2
        have := EntV.is_iff.1 h2
        exact q ⟨this.1.symm.trans he.1, this.2.1.symm.trans he.2.1, this.2.2.symm.trans he.2.2⟩
      unfold gL
      simp only [List.find?, hn]
  | e :: t, k + 1, hk, m, a, s, h, hi, m', a', s' => by
    obtain ⟨h1, h2⟩ := List.pairwise_cons.1 h
    simp at hi hk
    have ih := gL_cut (L := t) (k := k) hk h2 hi m' a' s'
    simp only [List.take_succ_cons, List.cons_append, List.drop_succ_cons]
    have hti := EntV.is_iff.1 hi
    by_cases hn : e.is m' a' s' = true
    · have he := EntV.is_iff.1 hn
      have q : ¬(m' = m ∧ a' = a ∧ s' = s) := by
        rintro ⟨rfl, rfl, rfl⟩
        exact h1 _ (List.getElem_mem hk) ⟨hti.1.trans he.1.symm, hti.2.1.trans he.2.1.symm, hti.2.2.trans he.2.2.symm⟩
      rw [if_neg q]
      unfold gL
      simp only [List.find?, hn]
    · have hn' : e.is m' a' s' = false := by simpa using hn
      have e1 : ∀ l, gL (e :: l) m' a' s' = gL l m' a' s' := fun l => by unfold gL; simp only [List.find?, hn']
      rw [e1, e1]; exact ih
theorem Rel.drop (h : Rel N G L) (h1 : DropR N G x a s c G') (h2 : DropL N L x a s c' L') : c = c' ∧ Rel N G' L' := by
  rcases h1 with ⟨p, rfl, rfl⟩ | ⟨p, h1⟩
  · rcases h2 with ⟨q, rfl, rfl⟩ | ⟨q, _⟩
    · exact ⟨rfl, h⟩
    · rw [chkB_one, p] at q; cases q
  · rcases h2 with ⟨q, _⟩ | ⟨_, h2⟩
    · rw [chkB_one, p] at q; cases q
    · have hx := chkB_in p x (by simp)
      rcases h2 with ⟨hn, rfl, rfl⟩ | ⟨k, hk, his, _, h2⟩
      · have g0 := h.no.2 hn
        rcases h1 with ⟨_, rfl, rfl⟩ | ⟨g1, _⟩ | ⟨g1, _⟩
        · exact ⟨rfl, h⟩
        · exact absurd g0 g1
        · exact absurd g0 g1
      · have hi := EntV.is_iff.1 his
        have hm : L[k] ∈ L := List.getElem_mem hk
        have hat := h.at hm
        rw [hi.1, hi.2.1, hi.2.2] at hat
        have g0 : G x a s ≠ 0 := h.has.2 ⟨_, hm, his⟩
        have key : (∃ m, 1 ≤ m ∧ m ≤ N ∧ G m a s = x) ↔ L[k].r = 0 ∨ ∃ e ∈ L, e.a = a ∧ e.s = s ∧ e.r = x := by
          constructor
          · rintro ⟨m, m1, m2, m3⟩
            obtain ⟨e, he, e1, e2, e3⟩ := h.ent_of (x := m) (a := a) (s := s) (by rw [m3]; omega)
            have ha := h.at he
            rw [e1, e2, e3, m3] at ha
            by_cases hr : e.r = 0
            · rw [if_pos hr] at ha
              have : L[k] = e := by
                have f1 := find_mem h.uq hm
                have f2 := find_mem h.uq he
                rw [hi.1, hi.2.1, hi.2.2] at f1
                rw [e1, e2, e3, ← ha] at f2
                rw [f1] at f2; exact Option.some.inj f2
              exact .inl (by rw [this]; exact hr)
            · rw [if_neg hr] at ha
              exact .inr ⟨e, he, e2, e3, ha.symm⟩
          · rintro (hr | ⟨e, he, e2, e3, e4⟩)
            · rw [if_pos hr] at hat
              exact ⟨x, hx.1, hx.2, hat⟩
            · have ha := h.at he
              rw [e2, e3, if_neg (by omega), e4] at ha
              have := (h.inv a s).rng e.m (by show G e.m a s ≠ 0; omega)
              exact ⟨e.m, this.1, this.2, ha⟩
        rcases h1 with ⟨g1, _⟩ | ⟨_, hex, rfl, rfl⟩ | ⟨_, hno, rfl, rfl⟩
        · exact absurd g1 g0
        · rcases h2 with ⟨_, rfl, rfl⟩ | ⟨_, _, rfl, rfl⟩ | ⟨hr, hno, _⟩
          · exact ⟨rfl, h⟩
          · exact ⟨rfl, h⟩
          · rcases key.1 hex with e | ⟨e, he, e2⟩
            · exact absurd e hr
            · exact absurd e2 (hno e he)
        · have hnex : ¬(∃ m, 1 ≤ m ∧ m ≤ N ∧ G m a s = x) := by rintro ⟨m, m1, m2, m3⟩; exact hno m m1 m2 m3
          rw [key] at hnex
          rcases h2 with ⟨hr, _⟩ | ⟨_, hex, _⟩ | ⟨_, _, rfl, rfl⟩
          · exact absurd (.inl hr) hnex
          · exact absurd (.inr hex) hnex
          · refine ⟨rfl, fun m' a' s' => ?_, fun a' s' => ?_, fun e he => ?_, ?_⟩
            · rw [gL_cut hk h.uq his, ← h.eq]; rfl
            · by_cases e : a' = a ∧ s' = s
              · obtain ⟨rfl, rfl⟩ := e
                rw [updP_fun]; exact (h.inv a' s').drop hno (by omega)
              · rw [updP_off _ _ _ _ _ _ _ e]; exact h.inv a' s'
            · rcases List.mem_append.1 he with he | he
              · exact h.ent e (List.mem_of_mem_take he)
              · exact h.ent e (List.mem_of_mem_drop he)
            · have hsub : List.Sublist (L.take k ++ L.drop (k + 1)) L := by
                rw [← List.eraseIdx_eq_take_drop_succ]; exact List.eraseIdx_sublist _ _
              exact List.Pairwise.sublist hsub h.uq
theorem rw8_zero (h : Rel N G L) : ∀ f, rw8 L a s f 0 = []
  | 0 => rfl
  | f + 1 => by
    have : L.find? (fun (e : EntV) => e.is 0 a s) = none := List.find?_eq_none.2 (fun e he hi => by
      have := EntV.is_iff.1 hi
      have := (h.ent e he).1
      omega)
    simp only [rw8, this]
theorem Rel.rw (h : Rel N G L) {m hh : Int} {l : List Int} (ch : Mg.Ch (fun k => G k a s) m l hh) : ∀ f, l.length ≤ f → rw8 L a s f m = l := by
  induction ch with
  | @home m e h0 =>
    intro f hf
    replace e : G m a s = m := e
    obtain ⟨f, rfl⟩ : ∃ g, f = g + 1 := ⟨f - 1, by simp at hf; omega⟩
    obtain ⟨x, hx, e1, e2, e3⟩ := h.ent_of (x := m) (a := a) (s := s) (by rw [e]; exact h0)
    have hat := h.at hx
    have hfm := find_mem h.uq hx
    rw [e1, e2, e3] at hat hfm
    have hr : x.r = 0 := by
      apply Classical.byContradiction
      intro hr
      rw [if_neg hr, e] at hat
      exact (h.ent x hx).2.1 (by rw [← hat, e1])
    simp only [rw8, hfm, hr, rw8_zero h, e1]
  | @step m hh l hne h0 t ih =>
    intro f hf
    obtain ⟨f, rfl⟩ : ∃ g, f = g + 1 := ⟨f - 1, by simp at hf; omega⟩
    obtain ⟨x, hx, e1, e2, e3⟩ := h.ent_of (x := m) (a := a) (s := s) h0
    have hat := h.at hx
    have hfm := find_mem h.uq hx
    rw [e1, e2, e3] at hat hfm
    have hr : x.r = G m a s := by
      by_cases hr : x.r = 0
      · rw [if_pos hr] at hat; exact absurd hat hne
      · rw [if_neg hr] at hat; exact hat.symm
    simp only [rw8, hfm, hr, e1]
    rw [ih f (by simp at hf; omega)]
theorem Rel.walk {l l' : List Int} (h : Rel N G L) (hN : N ≤ 8) (h1 : WalkR N G x a s c l) (h2 : WalkL N L x a s c' l') : c = c' ∧ l = l' := by
  rcases h1 with ⟨p, rfl, rfl⟩ | ⟨p, h1⟩
  · rcases h2 with ⟨q, rfl, rfl⟩ | ⟨q, _⟩
    · exact ⟨rfl, rfl⟩
    · rw [chkB_one, p] at q; cases q
  · rcases h2 with ⟨q, _⟩ | ⟨_, rfl, h2⟩
    · rw [chkB_one, p] at q; cases q
    · rcases h1 with ⟨g0, rfl, rfl⟩ | ⟨g0, ⟨hh, ch⟩, rfl⟩
      · have : rw8 L a s 8 x = [] := by simp only [rw8, FindR.none (h.no.1 g0)]
        rw [this] at h2 ⊢
        rcases h2 with ⟨_, rfl⟩ | ⟨e, _⟩
        · exact ⟨rfl, rfl⟩
        · exact absurd rfl e
      · have := h.rw ch 8 ((h.inv a s).len hN ch)
        rw [this] at h2 ⊢
        obtain ⟨t, rfl⟩ := ch.cons
        rcases h2 with ⟨e, _⟩ | ⟨_, rfl⟩
        · cases e
        · exact ⟨rfl, rfl⟩
end Go.Proofs.Ythhhciofcmmnfaa

namespace Go.Proofs.Ythhhciofcmmnfaa
open Go.RowKit

abbrev opV (k : Nat) (A B a s : Int) : Value := .agg #[.int .u8 k, .int .i64 A, .int .i64 B, .int .i64 a, .int .i64 s]
/-- What an operation does to the map and to the model's list. -/
def OpRel (r : Nat) (N N0 : Int) (G : Pt) (L : List EntV) (A B a s : Int) (c c' : Int) (G' : Pt) (L' : List EntV) : Prop :=
  (r = 0 ∧ CreateR N G A a s c G' ∧ CreateL N0 L A a s c' L') ∨ (r = 1 ∧ ShareR N G A B a s c G' ∧ ShareL N0 L A B a s c' L') ∨ (r = 2 ∧ MoveR N G A B a s c G' ∧ MoveL N0 L A B a s c' L') ∨
  (r = 3 ∧ LocateR N G A a s c G' ∧ LocateL N0 L A a s c' L') ∨ (r = 4 ∧ DropR N G A a s c G' ∧ DropL N0 L A a s c' L') ∨ (r = 5 ∧ c = 0 ∧ c' = 0 ∧ G' = G ∧ L' = L)
def ApplyPost (w : World) (bw bm n : Nat) (N N0 : Int) (G : Pt) (L : List EntV) (k : Nat) (A B a s : Int) (e : Ending) (w' : World) : Prop :=
  ∃ bw' bm' n' G' v' L' c c', e = .returned (.tuple #[.pointer (some ⟨bw', 0, none⟩), refV N0 v', .bool (c == c')]) ∧ OpRel (k % 6) N N0 G L A B a s c c' G' L' ∧ WM w' bw' bm' n' N G' ∧ SlE w' v' L' ∧ (∃ p l q, v' = .slice p l q) ∧ n' ≤ n + 2 ∧ Keeps [bm] w w' ∧
    ((bw' = bw ∧ bm' = bm) ∨ (w.heap.size ≤ bw' ∧ w.heap.size ≤ bm'))
theorem results_refm {fn : Func} {t p u : Tmp} (h : fn.results = #[.tmp t, .cell p tyW, .tmp u]) (tmps : Array Value) (w : World) (g : Nat) (ty : TypeId) (x0 x1 : Value) (f : Nat × Nat) (hp : tmps.getD p undef = .pointer (some ⟨g, 0, none⟩))
    (hg : w.heap[g]? = some (.cells #[x0, x1] ty f)) : (results fn tmps).run Try.prog w = .ok (.tuple #[tmps.getD t undef, .agg #[x0, x1], tmps.getD u undef]) w := by
  have hp' : tmps[p]?.getD undef = .pointer (some ⟨g, 0, none⟩) := by simpa using hp
  simp [results, h, hp', asAddr, load_ref w g ty x0 x1 f hg]
theorem SlE.keepBox {w w' : World} {v : Value} {L : List EntV} {b : Nat} {x0 x1 : Value} {t : TypeId} (h : SlE w v L) (hb : w.heap[b]? = some (.cells #[x0, x1] t (0, 0))) (hk : Keeps [b] w w') : SlE w' v L := by
  obtain ⟨h1, a, cap, rfl, h2, h3, h0, h4⟩ := h
  refine ⟨h1, a, cap, rfl, h2, h3, h0, fun hp => ?_⟩
  obtain ⟨g, o, rfl, hc⟩ := h4 hp
  have hne : g ≠ b := fun e => by
    subst e
    have hl : 3 < (entCs L).length := by rw [entCs_len] at hp ⊢; omega
    have := hc 3 _ (List.getElem?_eq_getElem hl)
    simp only [World.cell?, hb] at this
    rw [Array.getElem?_eq_none (by simp)] at this
    cases this
  refine ⟨g, o, rfl, fun j u hj => ?_⟩
  have := hc j u hj
  rw [hk.cell g _ (lt_of_cell this) (by simpa using hne)]
  exact this
theorem Keeps.drews {S : List Nat} {a b : World} (h : Keeps S a b) : Keeps S a.drew b.drew := ⟨h.os, h.tape, h.output, h.size, h.block⟩
theorem four_boxes (w : World) (A B C D : Obj) : ((((w.alloc A).alloc B).alloc C).alloc D).heap[w.heap.size]? = some A ∧ ((((w.alloc A).alloc B).alloc C).alloc D).heap[w.heap.size + 1]? = some B ∧ ((((w.alloc A).alloc B).alloc C).alloc D).heap[w.heap.size + 1 + 1]? = some C ∧ ((((w.alloc A).alloc B).alloc C).alloc D).heap[w.heap.size + 1 + 1 + 1]? = some D ∧ Keeps [] w ((((w.alloc A).alloc B).alloc C).alloc D) := by
  obtain ⟨b1, b2, b3, k⟩ := three_boxes' w A B C
  have k4 : Keeps [] (((w.alloc A).alloc B).alloc C) ((((w.alloc A).alloc B).alloc C).alloc D) := (Keeps.refl _ _).alloc _
  have h4 := heap_alloc_new (((w.alloc A).alloc B).alloc C) D
  have e : (((w.alloc A).alloc B).alloc C).heap.size = w.heap.size + 1 + 1 + 1 := by simp
  rw [e] at h4
  exact ⟨(k4.block _ (by omega) (by simp)).trans b1, (k4.block _ (by omega) (by simp)).trans b2, (k4.block _ (by omega) (by simp)).trans b3, h4, k.trans k4⟩
theorem cells5o {w : World} {b : Nat} {x0 x1 x2 x3 x4 : Value} {t : TypeId} (h : w.heap[b]? = some (.cells #[x0, x1, x2, x3, x4] t (0, 0))) : w.cell? ⟨b, 0, none⟩ = some x0 ∧ w.cell? ⟨b, 1, none⟩ = some x1 ∧ w.cell? ⟨b, 2, none⟩ = some x2 ∧ w.cell? ⟨b, 3, none⟩ = some x3 ∧ w.cell? ⟨b, 4, none⟩ = some x4 :=
  ⟨by simp [World.cell?, h], by simp [World.cell?, h], by simp [World.cell?, h], by simp [World.cell?, h], by simp [World.cell?, h]⟩
set_option maxRecDepth 100000 in
set_option maxHeartbeats 2000000 in
theorem apply0 (w : World) (bw bm n : Nat) (N N0 : Int) (G : Pt) (v : Value) (L : List EntV) (k : Nat) (A B a s : Int) (h : WM w bw bm n N G) (hN : 1 ≤ N ∧ N ≤ 8) (hn : n < 900000) (hS : SlE w v L) (hL : L.length < 800000) (hk : k < 256) (hI : ∀ a s, Mg.Inv N (fun m => G m a s)) (hr : k % 6 = 0) :
    Calls Try.prog 21 #[.pointer (some ⟨bw, 0, none⟩), refV N0 v, opV k A B a s] w (ApplyPost w bw bm n N N0 G L k A B a s) := by
  obtain ⟨ad, c, rfl, hlc, hcm, hnn⟩ := hS.form
  obtain ⟨M, hM⟩ : ∃ N, L.length = N := ⟨_, rfl⟩
  rw [hM] at hlc ⊢
  obtain ⟨b1, b2, b3, b4, hk0⟩ := four_boxes w (.cells #[.int .i64 N0, .slice ad M c] 27) (.cells #[.int .u8 k, .int .i64 A, .int .i64 B, .int .i64 a, .int .i64 s] 33) zW (.cells #[.int .i64 N0, .slice ad M c] 27)
  have hbm := h.mp.lt
  have hbw := h.cells.2.2.1
  have hW0 := h.keeps hk0
  have hS0 := hS.keeps hk0
  rw [hM] at hS0
  obtain ⟨y0, y1⟩ := cells2 b1
  obtain ⟨x0, x1, x2, x3, x4⟩ := cells5o b2
  have hLM : M < 800000 := by omega
  have hsb : L.length ≠ 0 → (Value.slice ad M c).ownBlock ≠ some bm := fun h0 eb => by
    obtain ⟨_, _, _, e2, _, _, _, h4⟩ := hS
    obtain ⟨g, o, e3, hc⟩ := h4 (by rw [entCs_len]; omega)
    have hlt : 0 < (entCs L).length := by rw [entCs_len]; omega
    have h5 := hc 0 _ (List.getElem?_eq_getElem hlt)
    simp at e2
    rw [← e2.1] at e3
    rw [e3] at eb
    simp [Value.ownBlock] at eb
    rw [eb, h.mp.noCells] at h5; cases h5
  have hr6 : ((k : Int) % 6 == 0) = true := by simp; omega
  replace hM := Lib.hid hM
  replace b1 := Lib.hid b1
  replace b2 := Lib.hid b2
  replace b3 := Lib.hid b3
  replace b4 := Lib.hid b4
  replace hk0 := Lib.hid hk0
  replace hW0 := Lib.hid hW0
  replace hS0 := Lib.hid hS0
  replace hsb := Lib.hid hsb
  replace hr := Lib.hid hr
  replace hS := Lib.hid hS
  clear h
  go_enter Try.func21, Try.ntmps21
  go_wp2_with fail
  generalize hW : (((w.alloc (.cells #[.int .i64 N0, .slice ad M c] 27)).alloc (.cells #[.int .u8 k, .int .i64 A, .int .i64 B, .int .i64 a, .int .i64 s] 33)).alloc zW).alloc (.cells #[.int .i64 N0, .slice ad M c] 27) = W at *
  clear hW
  refine (create_c W bw bm n N G A a s hW0.out hN (by omega)).mono ?_
  rintro e w1 ⟨c1, n1, G1, rfl, hR1, hW1, hn1, hk1⟩
  have hnot : ∀ b, w.heap.size ≤ b → b ∉ [bm] := fun b hb hm => by simp at hm; omega
  have hszW := hk0.out.size
  have b11 := (hk1.block _ (lt_of_block b1.out) (hnot _ (by omega))).trans b1.out
  have b21 := (hk1.block _ (lt_of_block b2.out) (hnot _ (by omega))).trans b2.out
  have b31 := (hk1.block _ (lt_of_block b3.out) (hnot _ (by omega))).trans b3.out
  have b41 := (hk1.block _ (lt_of_block b4.out) (hnot _ (by omega))).trans b4.out
  clear y0 y1 x0 x1 x2 x3 x4
  obtain ⟨y0, y1⟩ := cells2 b11
  obtain ⟨x0, x1, x2, x3, x4⟩ := cells5o b21
  have hS1 : SlE w1 (.slice ad M c) L := by
    by_cases h0 : L.length = 0
    · have : L = [] := List.eq_nil_of_length_eq_zero h0
      subst this
      have hM0 : M = 0 := by rw [← hM.out]; rfl
      rw [hM0]
      exact SlE.none _ _ _ hnn hcm
    · exact hS0.out.keepS hk1 (fun b hb e => by
        simp at hb; subst hb
        exact hsb.out h0 e)
  have hk01 := hk0.out.of_nil.trans hk1
  replace hR1 := Lib.hid hR1
  replace hW1 := Lib.hid hW1
  replace hS1 := Lib.hid hS1
  replace hk01 := Lib.hid hk01
  replace b31 := Lib.hid b31
  replace b41 := Lib.hid b41
  clear hk1 b11 b21 b1 b2 b3 b4 hW0 hS0
  go_wp2_with fail
  refine (createR_c w1 N0 (.slice ad M c) L A a s hS1.out (by rw [hM.out]; omega)).mono ?_
  rintro e w2 ⟨v2, L2, c2, rfl, hR2, hS2, ⟨p2, l2, q2, rfl⟩, hk2⟩
  have b32 := (hk2.block _ (lt_of_block b31.out) (by simp)).trans b31.out
  have b42 := (hk2.block _ (lt_of_block b41.out) (by simp)).trans b41.out
  have hW2 := hW1.out.keeps hk2
  have hk02 := hk01.out.trans hk2.of_nil
  obtain ⟨r0, r1⟩ := cells2 b32
  have hrf := frozen2 b32
  obtain ⟨n0, n1'⟩ := cells2 b42
  have hnf := frozen2 b42
  obtain ⟨g1, g2⟩ := set2_all b42 (.int .i64 N0) (.slice p2 l2 q2)
  have b33 := (g2.block _ (lt_of_block b32) (by simp)).trans b32
  obtain ⟨g3, g4⟩ := set2_all b33 (.int .i64 N0) (.slice p2 l2 q2)
  have hsz2 := hk02.size
  replace hR2 := Lib.hid hR2
  replace hS2 := Lib.hid hS2
  replace hW2 := Lib.hid hW2
  replace hk02 := Lib.hid hk02
  replace b32 := Lib.hid b32
  replace b42 := Lib.hid b42
  replace b33 := Lib.hid b33
  replace g1 := Lib.hid g1
  replace g2 := Lib.hid g2
  replace g3 := Lib.hid g3
  replace g4 := Lib.hid g4
  clear hk2 hW1 hS1 hk01 b31 b41
  obtain ⟨n0, n1'⟩ := cells2 g1.out
  have hrf3 := frozen2 b33.out
  obtain ⟨r0, r1⟩ := cells2 b33.out
  replace hrf := hrf3
  have t1 : w.heap.size + 1 + 1 + 1 = w.heap.size + 1 + 1 → False := fun h => by omega
  go_wp2
  obtain ⟨w3, hw3⟩ : ∃ w3, (w2.setCell ⟨w.heap.size + 1 + 1 + 1, 0, none⟩ (.int .i64 N0)).setCell ⟨w.heap.size + 1 + 1 + 1, 1, none⟩ (.slice p2 l2 q2) = w3 := ⟨_, rfl⟩
  rw [hw3] at g1 g2 g3 g4 b33 n0 n1' hrf hrf3 r0 r1 ⊢
  clear hw3 hnf
  have hnf := frozen2 g1.out
  refine Free.wp_region_chain (fun i => i == 6) (fun i => true) (fun _ b => b = w.heap.size + 1 + 1) (by kernel_rfl) (by kernel_rfl) (by kernel_rfl) ?_
  (repeat (first | (apply Free.cw_pure rfl rfl; (intro w'; go_simp <;> exact rfl); go_frame) | (apply Free.cw_steady rfl rfl rfl; (intro w' hS; have q0 := Free.sx_cell hS n0 (fun _ _ hT => t1 hT); have q1 := Free.sx_cell hS n1' (fun _ _ hT => t1 hT); go_simp <;> exact rfl); go_frame) | (refine Free.cw_skip rfl ?_; go_frame)))
  refine Free.cw_loud rfl rfl (fun K hK => ?_)
  go_wp2
  refine hK _ _ rfl (Free.KeepsP.of g4.out.drews (fun b hb => by simpa using hb)) ?_
  clear hK K
  (repeat (apply Free.cw_pure rfl rfl; (intro w'; go_simp <;> exact rfl); go_frame))
  refine Free.cw_nil ?_
  go_wp2
  refine bodyPost_ret (results_refm rfl _ _ _ _ _ _ _ rfl g3.out) ?_ ?_
  · rfl
  · exact ⟨bw, bm, n1, G1, _, L2, c1, c2, rfl, .inl ⟨by have := hr.out; omega, hR1.out, hR2.out⟩, ((hW2.out.keep g2.out (by simp; omega) (by simp; omega)).keep g4.out (by simp; omega) (by simp; omega)).keeps ((Keeps.refl [] _).drew), ((hS2.out.keepBox b42.out g2.out).keepBox b33.out g4.out).keeps ((Keeps.refl [] _).drew), ⟨_, _, _, rfl⟩, by omega, ((hk02.out.fresh g2.out (fun b hb => .inr (by simp at hb; omega))).fresh g4.out (fun b hb => .inr (by simp at hb; omega))).drew, .inl ⟨rfl, rfl⟩⟩
set_option maxRecDepth 100000 in
set_option maxHeartbeats 2000000 in
theorem apply1 (w : World) (bw bm n : Nat) (N N0 : Int) (G : Pt) (v : Value) (L : List EntV) (k : Nat) (A B a s : Int) (h : WM w bw bm n N G) (hN : 1 ≤ N ∧ N ≤ 8) (hn : n < 900000) (hS : SlE w v L) (hL : L.length < 800000) (hk : k < 256) (hI : ∀ a s, Mg.Inv N (fun m => G m a s)) (hr : k % 6 = 1) :
    Calls Try.prog 21 #[.pointer (some ⟨bw, 0, none⟩), refV N0 v, opV k A B a s] w (ApplyPost w bw bm n N N0 G L k A B a s) := by
  obtain ⟨ad, c, rfl, hlc, hcm, hnn⟩ := hS.form
  obtain ⟨M, hM⟩ : ∃ N, L.length = N := ⟨_, rfl⟩
  rw [hM] at hlc ⊢
  obtain ⟨b1, b2, b3, b4, hk0⟩ := four_boxes w (.cells #[.int .i64 N0, .slice ad M c] 27) (.cells #[.int .u8 k, .int .i64 A, .int .i64 B, .int .i64 a, .int .i64 s] 33) zW (.cells #[.int .i64 N0, .slice ad M c] 27)
  have hbm := h.mp.lt
  have hbw := h.cells.2.2.1
  have hW0 := h.keeps hk0
  have hS0 := hS.keeps hk0
  rw [hM] at hS0
  obtain ⟨y0, y1⟩ := cells2 b1
  obtain ⟨x0, x1, x2, x3, x4⟩ := cells5o b2
  have hLM : M < 800000 := by omega
  have hsb : L.length ≠ 0 → (Value.slice ad M c).ownBlock ≠ some bm := fun h0 eb => by
    obtain ⟨_, _, _, e2, _, _, _, h4⟩ := hS
    obtain ⟨g, o, e3, hc⟩ := h4 (by rw [entCs_len]; omega)
    have hlt : 0 < (entCs L).length := by rw [entCs_len]; omega
    have h5 := hc 0 _ (List.getElem?_eq_getElem hlt)
    simp at e2
    rw [← e2.1] at e3
    rw [e3] at eb
    simp [Value.ownBlock] at eb
    rw [eb, h.mp.noCells] at h5; cases h5
  have hr6 : ((k : Int) % 6 == 1) = true := by simp; omega
  have hr60 : ((k : Int) % 6 == 0) = false := by simp; omega
  replace hM := Lib.hid hM
  replace b1 := Lib.hid b1
  replace b2 := Lib.hid b2
  replace b3 := Lib.hid b3
  replace b4 := Lib.hid b4
  replace hk0 := Lib.hid hk0
  replace hW0 := Lib.hid hW0
  replace hS0 := Lib.hid hS0
  replace hsb := Lib.hid hsb
  replace hr := Lib.hid hr
  replace hS := Lib.hid hS
  clear h
  go_enter Try.func21, Try.ntmps21
  go_wp2_with fail
  generalize hW : (((w.alloc (.cells #[.int .i64 N0, .slice ad M c] 27)).alloc (.cells #[.int .u8 k, .int .i64 A, .int .i64 B, .int .i64 a, .int .i64 s] 33)).alloc zW).alloc (.cells #[.int .i64 N0, .slice ad M c] 27) = W at *
  clear hW
  refine (share_c W bw bm n N G A B a s hW0.out hN (by omega)).mono ?_
  rintro e w1 ⟨c1, n1, G1, rfl, hR1, hW1, hn1, hk1⟩
  have hnot : ∀ b, w.heap.size ≤ b → b ∉ [bm] := fun b hb hm => by simp at hm; omega
  have hszW := hk0.out.size
  have b11 := (hk1.block _ (lt_of_block b1.out) (hnot _ (by omega))).trans b1.out
  have b21 := (hk1.block _ (lt_of_block b2.out) (hnot _ (by omega))).trans b2.out
  have b31 := (hk1.block _ (lt_of_block b3.out) (hnot _ (by omega))).trans b3.out
  have b41 := (hk1.block _ (lt_of_block b4.out) (hnot _ (by omega))).trans b4.out
  clear y0 y1 x0 x1 x2 x3 x4
  obtain ⟨y0, y1⟩ := cells2 b11
  obtain ⟨x0, x1, x2, x3, x4⟩ := cells5o b21
  have hS1 : SlE w1 (.slice ad M c) L := by
    by_cases h0 : L.length = 0
    · have : L = [] := List.eq_nil_of_length_eq_zero h0
      subst this
      have hM0 : M = 0 := by rw [← hM.out]; rfl
      rw [hM0]
      exact SlE.none _ _ _ hnn hcm
    · exact hS0.out.keepS hk1 (fun b hb e => by
        simp at hb; subst hb
        exact hsb.out h0 e)
  have hk01 := hk0.out.of_nil.trans hk1
  replace hR1 := Lib.hid hR1
  replace hW1 := Lib.hid hW1
  replace hS1 := Lib.hid hS1
  replace hk01 := Lib.hid hk01
  replace b31 := Lib.hid b31
  replace b41 := Lib.hid b41
  clear hk1 b11 b21 b1 b2 b3 b4 hW0 hS0
  go_wp2_with fail
  refine (shareR_c w1 N0 (.slice ad M c) L A B a s hS1.out (by rw [hM.out]; omega)).mono ?_
  rintro e w2 ⟨v2, L2, c2, rfl, hR2, hS2, ⟨p2, l2, q2, rfl⟩, hk2⟩
  have b32 := (hk2.block _ (lt_of_block b31.out) (by simp)).trans b31.out
  have b42 := (hk2.block _ (lt_of_block b41.out) (by simp)).trans b41.out
  have hW2 := hW1.out.keeps hk2
  have hk02 := hk01.out.trans hk2.of_nil
  obtain ⟨r0, r1⟩ := cells2 b32
  have hrf := frozen2 b32
  obtain ⟨n0, n1'⟩ := cells2 b42
  have hnf := frozen2 b42
  obtain ⟨g1, g2⟩ := set2_all b42 (.int .i64 N0) (.slice p2 l2 q2)
  have b33 := (g2.block _ (lt_of_block b32) (by simp)).trans b32
  obtain ⟨g3, g4⟩ := set2_all b33 (.int .i64 N0) (.slice p2 l2 q2)
  have hsz2 := hk02.size
  replace hR2 := Lib.hid hR2
  replace hS2 := Lib.hid hS2
  replace hW2 := Lib.hid hW2
  replace hk02 := Lib.hid hk02
  replace b32 := Lib.hid b32
  replace b42 := Lib.hid b42
  replace b33 := Lib.hid b33
  replace g1 := Lib.hid g1
  replace g2 := Lib.hid g2
  replace g3 := Lib.hid g3
  replace g4 := Lib.hid g4
  clear hk2 hW1 hS1 hk01 b31 b41
  obtain ⟨n0, n1'⟩ := cells2 g1.out
  have hrf3 := frozen2 b33.out
  obtain ⟨r0, r1⟩ := cells2 b33.out
  replace hrf := hrf3
  have t1 : w.heap.size + 1 + 1 + 1 = w.heap.size + 1 + 1 → False := fun h => by omega
  go_wp2
  obtain ⟨w3, hw3⟩ : ∃ w3, (w2.setCell ⟨w.heap.size + 1 + 1 + 1, 0, none⟩ (.int .i64 N0)).setCell ⟨w.heap.size + 1 + 1 + 1, 1, none⟩ (.slice p2 l2 q2) = w3 := ⟨_, rfl⟩
  rw [hw3] at g1 g2 g3 g4 b33 n0 n1' hrf hrf3 r0 r1 ⊢
  clear hw3 hnf
  have hnf := frozen2 g1.out
  refine Free.wp_region_chain (fun i => i == 6) (fun i => true) (fun _ b => b = w.heap.size + 1 + 1) (by kernel_rfl) (by kernel_rfl) (by kernel_rfl) ?_
  (repeat (first | (apply Free.cw_pure rfl rfl; (intro w'; go_simp <;> exact rfl); go_frame) | (apply Free.cw_steady rfl rfl rfl; (intro w' hS; have q0 := Free.sx_cell hS n0 (fun _ _ hT => t1 hT); have q1 := Free.sx_cell hS n1' (fun _ _ hT => t1 hT); go_simp <;> exact rfl); go_frame) | (refine Free.cw_skip rfl ?_; go_frame)))
  refine Free.cw_loud rfl rfl (fun K hK => ?_)
  go_wp2
  refine hK _ _ rfl (Free.KeepsP.of g4.out.drews (fun b hb => by simpa using hb)) ?_
  clear hK K
  (repeat (apply Free.cw_pure rfl rfl; (intro w'; go_simp <;> exact rfl); go_frame))
  refine Free.cw_nil ?_
  go_wp2
  refine bodyPost_ret (results_refm rfl _ _ _ _ _ _ _ rfl g3.out) ?_ ?_
  · rfl
  · exact ⟨bw, bm, n1, G1, _, L2, c1, c2, rfl, .inr (.inl ⟨by have := hr.out; omega, hR1.out, hR2.out⟩), ((hW2.out.keep g2.out (by simp; omega) (by simp; omega)).keep g4.out (by simp; omega) (by simp; omega)).keeps ((Keeps.refl [] _).drew), ((hS2.out.keepBox b42.out g2.out).keepBox b33.out g4.out).keeps ((Keeps.refl [] _).drew), ⟨_, _, _, rfl⟩, by omega, ((hk02.out.fresh g2.out (fun b hb => .inr (by simp at hb; omega))).fresh g4.out (fun b hb => .inr (by simp at hb; omega))).drew, .inl ⟨rfl, rfl⟩⟩
set_option maxRecDepth 100000 in
set_option maxHeartbeats 2000000 in
theorem apply2 (w : World) (bw bm n : Nat) (N N0 : Int) (G : Pt) (v : Value) (L : List EntV) (k : Nat) (A B a s : Int) (h : WM w bw bm n N G) (hN : 1 ≤ N ∧ N ≤ 8) (hn : n < 900000) (hS : SlE w v L) (hL : L.length < 800000) (hk : k < 256) (hI : ∀ a s, Mg.Inv N (fun m => G m a s)) (hr : k % 6 = 2) :
    Calls Try.prog 21 #[.pointer (some ⟨bw, 0, none⟩), refV N0 v, opV k A B a s] w (ApplyPost w bw bm n N N0 G L k A B a s) := by
  obtain ⟨ad, c, rfl, hlc, hcm, hnn⟩ := hS.form
  obtain ⟨M, hM⟩ : ∃ N, L.length = N := ⟨_, rfl⟩
  rw [hM] at hlc ⊢
  obtain ⟨b1, b2, b3, b4, hk0⟩ := four_boxes w (.cells #[.int .i64 N0, .slice ad M c] 27) (.cells #[.int .u8 k, .int .i64 A, .int .i64 B, .int .i64 a, .int .i64 s] 33) zW (.cells #[.int .i64 N0, .slice ad M c] 27)
  have hbm := h.mp.lt
  have hbw := h.cells.2.2.1
  have hW0 := h.keeps hk0
  have hS0 := hS.keeps hk0
  rw [hM] at hS0
  obtain ⟨y0, y1⟩ := cells2 b1
  obtain ⟨x0, x1, x2, x3, x4⟩ := cells5o b2
  have hLM : M < 800000 := by omega
  have hsb : L.length ≠ 0 → (Value.slice ad M c).ownBlock ≠ some bm := fun h0 eb => by
    obtain ⟨_, _, _, e2, _, _, _, h4⟩ := hS
    obtain ⟨g, o, e3, hc⟩ := h4 (by rw [entCs_len]; omega)
    have hlt : 0 < (entCs L).length := by rw [entCs_len]; omega
    have h5 := hc 0 _ (List.getElem?_eq_getElem hlt)
    simp at e2
    rw [← e2.1] at e3
    rw [e3] at eb
    simp [Value.ownBlock] at eb
    rw [eb, h.mp.noCells] at h5; cases h5
  have hr6 : ((k : Int) % 6 == 2) = true := by simp; omega
  have hr60 : ((k : Int) % 6 == 0) = false := by simp; omega
  have hr61 : ((k : Int) % 6 == 1) = false := by simp; omega
  replace hM := Lib.hid hM
  replace b1 := Lib.hid b1
  replace b2 := Lib.hid b2
  replace b3 := Lib.hid b3
  replace b4 := Lib.hid b4
  replace hk0 := Lib.hid hk0
  replace hW0 := Lib.hid hW0
  replace hS0 := Lib.hid hS0
  replace hsb := Lib.hid hsb
  replace hr := Lib.hid hr
  replace hS := Lib.hid hS
  clear h
  go_enter Try.func21, Try.ntmps21
  go_wp2_with fail
  generalize hW : (((w.alloc (.cells #[.int .i64 N0, .slice ad M c] 27)).alloc (.cells #[.int .u8 k, .int .i64 A, .int .i64 B, .int .i64 a, .int .i64 s] 33)).alloc zW).alloc (.cells #[.int .i64 N0, .slice ad M c] 27) = W at *
  clear hW
  refine (move_c W bw bm n N G A B a s hW0.out hN (by omega)).mono ?_
  rintro e w1 ⟨c1, n1, G1, rfl, hR1, hW1, hn1, hk1⟩
  have hnot : ∀ b, w.heap.size ≤ b → b ∉ [bm] := fun b hb hm => by simp at hm; omega
  have hszW := hk0.out.size
  have b11 := (hk1.block _ (lt_of_block b1.out) (hnot _ (by omega))).trans b1.out
  have b21 := (hk1.block _ (lt_of_block b2.out) (hnot _ (by omega))).trans b2.out
  have b31 := (hk1.block _ (lt_of_block b3.out) (hnot _ (by omega))).trans b3.out
  have b41 := (hk1.block _ (lt_of_block b4.out) (hnot _ (by omega))).trans b4.out
  clear y0 y1 x0 x1 x2 x3 x4
  obtain ⟨y0, y1⟩ := cells2 b11
  obtain ⟨x0, x1, x2, x3, x4⟩ := cells5o b21
  have hS1 : SlE w1 (.slice ad M c) L := by
    by_cases h0 : L.length = 0
    · have : L = [] := List.eq_nil_of_length_eq_zero h0
      subst this
      have hM0 : M = 0 := by rw [← hM.out]; rfl
      rw [hM0]
      exact SlE.none _ _ _ hnn hcm
    · exact hS0.out.keepS hk1 (fun b hb e => by
        simp at hb; subst hb
        exact hsb.out h0 e)
  have hk01 := hk0.out.of_nil.trans hk1
  replace hR1 := Lib.hid hR1
  replace hW1 := Lib.hid hW1
  replace hS1 := Lib.hid hS1
  replace hk01 := Lib.hid hk01
  replace b31 := Lib.hid b31
  replace b41 := Lib.hid b41
  clear hk1 b11 b21 b1 b2 b3 b4 hW0 hS0
  go_wp2_with fail
  refine (moveR_c w1 N0 (.slice ad M c) L A B a s hS1.out (by rw [hM.out]; omega)).mono ?_
  rintro e w2 ⟨v2, L2, c2, rfl, hR2, hS2, ⟨p2, l2, q2, rfl⟩, hk2⟩
  have b32 := (hk2.block _ (lt_of_block b31.out) (by simp)).trans b31.out
  have b42 := (hk2.block _ (lt_of_block b41.out) (by simp)).trans b41.out
  have hW2 := hW1.out.keeps hk2
  have hk02 := hk01.out.trans hk2.of_nil
  obtain ⟨r0, r1⟩ := cells2 b32
  have hrf := frozen2 b32
  obtain ⟨n0, n1'⟩ := cells2 b42
  have hnf := frozen2 b42
  obtain ⟨g1, g2⟩ := set2_all b42 (.int .i64 N0) (.slice p2 l2 q2)
  have b33 := (g2.block _ (lt_of_block b32) (by simp)).trans b32
  obtain ⟨g3, g4⟩ := set2_all b33 (.int .i64 N0) (.slice p2 l2 q2)
  have hsz2 := hk02.size
  replace hR2 := Lib.hid hR2
  replace hS2 := Lib.hid hS2
  replace hW2 := Lib.hid hW2
  replace hk02 := Lib.hid hk02
  replace b32 := Lib.hid b32
  replace b42 := Lib.hid b42
  replace b33 := Lib.hid b33
  replace g1 := Lib.hid g1
  replace g2 := Lib.hid g2
  replace g3 := Lib.hid g3
  replace g4 := Lib.hid g4
  clear hk2 hW1 hS1 hk01 b31 b41
  obtain ⟨n0, n1'⟩ := cells2 g1.out
  have hrf3 := frozen2 b33.out
  obtain ⟨r0, r1⟩ := cells2 b33.out
  replace hrf := hrf3
  have t1 : w.heap.size + 1 + 1 + 1 = w.heap.size + 1 + 1 → False := fun h => by omega
  go_wp2
  obtain ⟨w3, hw3⟩ : ∃ w3, (w2.setCell ⟨w.heap.size + 1 + 1 + 1, 0, none⟩ (.int .i64 N0)).setCell ⟨w.heap.size + 1 + 1 + 1, 1, none⟩ (.slice p2 l2 q2) = w3 := ⟨_, rfl⟩
  rw [hw3] at g1 g2 g3 g4 b33 n0 n1' hrf hrf3 r0 r1 ⊢
  clear hw3 hnf
  have hnf := frozen2 g1.out
  refine Free.wp_region_chain (fun i => i == 6) (fun i => true) (fun _ b => b = w.heap.size + 1 + 1) (by kernel_rfl) (by kernel_rfl) (by kernel_rfl) ?_
  (repeat (first | (apply Free.cw_pure rfl rfl; (intro w'; go_simp <;> exact rfl); go_frame) | (apply Free.cw_steady rfl rfl rfl; (intro w' hS; have q0 := Free.sx_cell hS n0 (fun _ _ hT => t1 hT); have q1 := Free.sx_cell hS n1' (fun _ _ hT => t1 hT); go_simp <;> exact rfl); go_frame) | (refine Free.cw_skip rfl ?_; go_frame)))
  refine Free.cw_loud rfl rfl (fun K hK => ?_)
  go_wp2
  refine hK _ _ rfl (Free.KeepsP.of g4.out.drews (fun b hb => by simpa using hb)) ?_
  clear hK K
  (repeat (apply Free.cw_pure rfl rfl; (intro w'; go_simp <;> exact rfl); go_frame))
  refine Free.cw_nil ?_
  go_wp2
  refine bodyPost_ret (results_refm rfl _ _ _ _ _ _ _ rfl g3.out) ?_ ?_
  · rfl
  · exact ⟨bw, bm, n1, G1, _, L2, c1, c2, rfl, .inr (.inr (.inl ⟨by have := hr.out; omega, hR1.out, hR2.out⟩)), ((hW2.out.keep g2.out (by simp; omega) (by simp; omega)).keep g4.out (by simp; omega) (by simp; omega)).keeps ((Keeps.refl [] _).drew), ((hS2.out.keepBox b42.out g2.out).keepBox b33.out g4.out).keeps ((Keeps.refl [] _).drew), ⟨_, _, _, rfl⟩, by omega, ((hk02.out.fresh g2.out (fun b hb => .inr (by simp at hb; omega))).fresh g4.out (fun b hb => .inr (by simp at hb; omega))).drew, .inl ⟨rfl, rfl⟩⟩
set_option maxRecDepth 100000 in
set_option maxHeartbeats 2000000 in
theorem apply3 (w : World) (bw bm n : Nat) (N N0 : Int) (G : Pt) (v : Value) (L : List EntV) (k : Nat) (A B a s : Int) (h : WM w bw bm n N G) (hN : 1 ≤ N ∧ N ≤ 8) (hn : n < 900000) (hS : SlE w v L) (hL : L.length < 800000) (hk : k < 256) (hI : ∀ a s, Mg.Inv N (fun m => G m a s)) (hr : k % 6 = 3) :
    Calls Try.prog 21 #[.pointer (some ⟨bw, 0, none⟩), refV N0 v, opV k A B a s] w (ApplyPost w bw bm n N N0 G L k A B a s) := by
  obtain ⟨ad, c, rfl, hlc, hcm, hnn⟩ := hS.form
  obtain ⟨M, hM⟩ : ∃ N, L.length = N := ⟨_, rfl⟩
  rw [hM] at hlc ⊢
  obtain ⟨b1, b2, b3, b4, hk0⟩ := four_boxes w (.cells #[.int .i64 N0, .slice ad M c] 27) (.cells #[.int .u8 k, .int .i64 A, .int .i64 B, .int .i64 a, .int .i64 s] 33) zW (.cells #[.int .i64 N0, .slice ad M c] 27)
  have hbm := h.mp.lt
  have hbw := h.cells.2.2.1
  have hW0 := h.keeps hk0
  have hS0 := hS.keeps hk0
  rw [hM] at hS0
  obtain ⟨y0, y1⟩ := cells2 b1
  obtain ⟨x0, x1, x2, x3, x4⟩ := cells5o b2
  have hLM : M < 800000 := by omega
  have hsb : L.length ≠ 0 → (Value.slice ad M c).ownBlock ≠ some bm := fun h0 eb => by
    obtain ⟨_, _, _, e2, _, _, _, h4⟩ := hS
    obtain ⟨g, o, e3, hc⟩ := h4 (by rw [entCs_len]; omega)
    have hlt : 0 < (entCs L).length := by rw [entCs_len]; omega
    have h5 := hc 0 _ (List.getElem?_eq_getElem hlt)
    simp at e2
    rw [← e2.1] at e3
    rw [e3] at eb
    simp [Value.ownBlock] at eb
    rw [eb, h.mp.noCells] at h5; cases h5
  have hr6 : ((k : Int) % 6 == 3) = true := by simp; omega
  have hr60 : ((k : Int) % 6 == 0) = false := by simp; omega
  have hr61 : ((k : Int) % 6 == 1) = false := by simp; omega
  have hr62 : ((k : Int) % 6 == 2) = false := by simp; omega
  replace hM := Lib.hid hM
  replace b1 := Lib.hid b1
  replace b2 := Lib.hid b2
  replace b3 := Lib.hid b3
  replace b4 := Lib.hid b4
  replace hk0 := Lib.hid hk0
  replace hW0 := Lib.hid hW0
  replace hS0 := Lib.hid hS0
  replace hsb := Lib.hid hsb
  replace hr := Lib.hid hr
  replace hS := Lib.hid hS
  clear h
  go_enter Try.func21, Try.ntmps21
  go_wp2_with fail
  generalize hW : (((w.alloc (.cells #[.int .i64 N0, .slice ad M c] 27)).alloc (.cells #[.int .u8 k, .int .i64 A, .int .i64 B, .int .i64 a, .int .i64 s] 33)).alloc zW).alloc (.cells #[.int .i64 N0, .slice ad M c] 27) = W at *
  clear hW
  refine (locate_c W bw bm n N G A a s hW0.out hN (by omega) hI).mono ?_
  rintro e w1 ⟨c1, n1, G1, rfl, hR1, hW1, hn1, hk1⟩
  have hnot : ∀ b, w.heap.size ≤ b → b ∉ [bm] := fun b hb hm => by simp at hm; omega
  have hszW := hk0.out.size
  have b11 := (hk1.block _ (lt_of_block b1.out) (hnot _ (by omega))).trans b1.out
  have b21 := (hk1.block _ (lt_of_block b2.out) (hnot _ (by omega))).trans b2.out
  have b31 := (hk1.block _ (lt_of_block b3.out) (hnot _ (by omega))).trans b3.out
  have b41 := (hk1.block _ (lt_of_block b4.out) (hnot _ (by omega))).trans b4.out
  clear y0 y1 x0 x1 x2 x3 x4
  obtain ⟨y0, y1⟩ := cells2 b11
  obtain ⟨x0, x1, x2, x3, x4⟩ := cells5o b21
  have hS1 : SlE w1 (.slice ad M c) L := by
    by_cases h0 : L.length = 0
    · have : L = [] := List.eq_nil_of_length_eq_zero h0
      subst this
      have hM0 : M = 0 := by rw [← hM.out]; rfl
      rw [hM0]
      exact SlE.none _ _ _ hnn hcm
    · exact hS0.out.keepS hk1 (fun b hb e => by
        simp at hb; subst hb
        exact hsb.out h0 e)
  have hk01 := hk0.out.of_nil.trans hk1
  replace hR1 := Lib.hid hR1
  replace hW1 := Lib.hid hW1
  replace hS1 := Lib.hid hS1
  replace hk01 := Lib.hid hk01
  replace b31 := Lib.hid b31
  replace b41 := Lib.hid b41
  clear hk1 b11 b21 b1 b2 b3 b4 hW0 hS0
  go_wp2_with fail
  refine (locateR_c w1 N0 (.slice ad M c) L A a s hS1.out (by rw [hM.out]; omega)).mono ?_
  rintro e w2 ⟨v2, L2, c2, rfl, hR2, hS2, ⟨p2, l2, q2, rfl⟩, hk2⟩
  have b32 := (hk2.block _ (lt_of_block b31.out) (by simp)).trans b31.out
  have b42 := (hk2.block _ (lt_of_block b41.out) (by simp)).trans b41.out
  have hW2 := hW1.out.keeps hk2
  have hk02 := hk01.out.trans hk2.of_nil
  obtain ⟨r0, r1⟩ := cells2 b32
  have hrf := frozen2 b32
  obtain ⟨n0, n1'⟩ := cells2 b42
  have hnf := frozen2 b42
  obtain ⟨g1, g2⟩ := set2_all b42 (.int .i64 N0) (.slice p2 l2 q2)
  have b33 := (g2.block _ (lt_of_block b32) (by simp)).trans b32
  obtain ⟨g3, g4⟩ := set2_all b33 (.int .i64 N0) (.slice p2 l2 q2)
  have hsz2 := hk02.size
  replace hR2 := Lib.hid hR2
  replace hS2 := Lib.hid hS2
  replace hW2 := Lib.hid hW2
  replace hk02 := Lib.hid hk02
  replace b32 := Lib.hid b32
  replace b42 := Lib.hid b42
  replace b33 := Lib.hid b33
  replace g1 := Lib.hid g1
  replace g2 := Lib.hid g2
  replace g3 := Lib.hid g3
  replace g4 := Lib.hid g4
  clear hk2 hW1 hS1 hk01 b31 b41
  obtain ⟨n0, n1'⟩ := cells2 g1.out
  have hrf3 := frozen2 b33.out
  obtain ⟨r0, r1⟩ := cells2 b33.out
  replace hrf := hrf3
  have t1 : w.heap.size + 1 + 1 + 1 = w.heap.size + 1 + 1 → False := fun h => by omega
  go_wp2
  obtain ⟨w3, hw3⟩ : ∃ w3, (w2.setCell ⟨w.heap.size + 1 + 1 + 1, 0, none⟩ (.int .i64 N0)).setCell ⟨w.heap.size + 1 + 1 + 1, 1, none⟩ (.slice p2 l2 q2) = w3 := ⟨_, rfl⟩
  rw [hw3] at g1 g2 g3 g4 b33 n0 n1' hrf hrf3 r0 r1 ⊢
  clear hw3 hnf
  have hnf := frozen2 g1.out
  refine Free.wp_region_chain (fun i => i == 6) (fun i => true) (fun _ b => b = w.heap.size + 1 + 1) (by kernel_rfl) (by kernel_rfl) (by kernel_rfl) ?_
  (repeat (first | (apply Free.cw_pure rfl rfl; (intro w'; go_simp <;> exact rfl); go_frame) | (apply Free.cw_steady rfl rfl rfl; (intro w' hS; have q0 := Free.sx_cell hS n0 (fun _ _ hT => t1 hT); have q1 := Free.sx_cell hS n1' (fun _ _ hT => t1 hT); go_simp <;> exact rfl); go_frame) | (refine Free.cw_skip rfl ?_; go_frame)))
  refine Free.cw_loud rfl rfl (fun K hK => ?_)
  go_wp2
  refine hK _ _ rfl (Free.KeepsP.of g4.out.drews (fun b hb => by simpa using hb)) ?_
  clear hK K
  (repeat (apply Free.cw_pure rfl rfl; (intro w'; go_simp <;> exact rfl); go_frame))
  refine Free.cw_nil ?_
  go_wp2
  refine bodyPost_ret (results_refm rfl _ _ _ _ _ _ _ rfl g3.out) ?_ ?_
  · rfl
  · exact ⟨bw, bm, n1, G1, _, L2, c1, c2, rfl, .inr (.inr (.inr (.inl ⟨by have := hr.out; omega, hR1.out, hR2.out⟩))), ((hW2.out.keep g2.out (by simp; omega) (by simp; omega)).keep g4.out (by simp; omega) (by simp; omega)).keeps ((Keeps.refl [] _).drew), ((hS2.out.keepBox b42.out g2.out).keepBox b33.out g4.out).keeps ((Keeps.refl [] _).drew), ⟨_, _, _, rfl⟩, by omega, ((hk02.out.fresh g2.out (fun b hb => .inr (by simp at hb; omega))).fresh g4.out (fun b hb => .inr (by simp at hb; omega))).drew, .inl ⟨rfl, rfl⟩⟩
set_option maxRecDepth 100000 in
set_option maxHeartbeats 2000000 in
theorem apply4 (w : World) (bw bm n : Nat) (N N0 : Int) (G : Pt) (v : Value) (L : List EntV) (k : Nat) (A B a s : Int) (h : WM w bw bm n N G) (hN : 1 ≤ N ∧ N ≤ 8) (hn : n < 900000) (hS : SlE w v L) (hL : L.length < 800000) (hk : k < 256) (hI : ∀ a s, Mg.Inv N (fun m => G m a s)) (hr : k % 6 = 4) :
    Calls Try.prog 21 #[.pointer (some ⟨bw, 0, none⟩), refV N0 v, opV k A B a s] w (ApplyPost w bw bm n N N0 G L k A B a s) := by
  obtain ⟨ad, c, rfl, hlc, hcm, hnn⟩ := hS.form
  obtain ⟨M, hM⟩ : ∃ N, L.length = N := ⟨_, rfl⟩
  rw [hM] at hlc ⊢
  obtain ⟨b1, b2, b3, b4, hk0⟩ := four_boxes w (.cells #[.int .i64 N0, .slice ad M c] 27) (.cells #[.int .u8 k, .int .i64 A, .int .i64 B, .int .i64 a, .int .i64 s] 33) zW (.cells #[.int .i64 N0, .slice ad M c] 27)
  have hbm := h.mp.lt
  have hbw := h.cells.2.2.1
  have hW0 := h.keeps hk0
  have hS0 := hS.keeps hk0
  rw [hM] at hS0
  obtain ⟨y0, y1⟩ := cells2 b1
  obtain ⟨x0, x1, x2, x3, x4⟩ := cells5o b2
  have hLM : M < 800000 := by omega
  have hsb : L.length ≠ 0 → (Value.slice ad M c).ownBlock ≠ some bm := fun h0 eb => by
    obtain ⟨_, _, _, e2, _, _, _, h4⟩ := hS
    obtain ⟨g, o, e3, hc⟩ := h4 (by rw [entCs_len]; omega)
    have hlt : 0 < (entCs L).length := by rw [entCs_len]; omega
    have h5 := hc 0 _ (List.getElem?_eq_getElem hlt)
    simp at e2
    rw [← e2.1] at e3
    rw [e3] at eb
    simp [Value.ownBlock] at eb
    rw [eb, h.mp.noCells] at h5; cases h5
  have hr6 : ((k : Int) % 6 == 4) = true := by simp; omega
  have hr60 : ((k : Int) % 6 == 0) = false := by simp; omega
  have hr61 : ((k : Int) % 6 == 1) = false := by simp; omega
  have hr62 : ((k : Int) % 6 == 2) = false := by simp; omega
  have hr63 : ((k : Int) % 6 == 3) = false := by simp; omega
  replace hM := Lib.hid hM
  replace b1 := Lib.hid b1
  replace b2 := Lib.hid b2
  replace b3 := Lib.hid b3
  replace b4 := Lib.hid b4
  replace hk0 := Lib.hid hk0
  replace hW0 := Lib.hid hW0
  replace hS0 := Lib.hid hS0
  replace hsb := Lib.hid hsb
  replace hr := Lib.hid hr
  replace hS := Lib.hid hS
  clear h
  go_enter Try.func21, Try.ntmps21
  go_wp2_with fail
  generalize hW : (((w.alloc (.cells #[.int .i64 N0, .slice ad M c] 27)).alloc (.cells #[.int .u8 k, .int .i64 A, .int .i64 B, .int .i64 a, .int .i64 s] 33)).alloc zW).alloc (.cells #[.int .i64 N0, .slice ad M c] 27) = W at *
  clear hW
  refine (drop_c W bw bm n N G A a s hW0.out hN (by omega)).mono ?_
  rintro e w1 ⟨c1, n1, G1, rfl, hR1, hW1, hn1, hk1⟩
  have hnot : ∀ b, w.heap.size ≤ b → b ∉ [bm] := fun b hb hm => by simp at hm; omega
  have hszW := hk0.out.size
  have b11 := (hk1.block _ (lt_of_block b1.out) (hnot _ (by omega))).trans b1.out
  have b21 := (hk1.block _ (lt_of_block b2.out) (hnot _ (by omega))).trans b2.out
  have b31 := (hk1.block _ (lt_of_block b3.out) (hnot _ (by omega))).trans b3.out
  have b41 := (hk1.block _ (lt_of_block b4.out) (hnot _ (by omega))).trans b4.out
  clear y0 y1 x0 x1 x2 x3 x4
  obtain ⟨y0, y1⟩ := cells2 b11
  obtain ⟨x0, x1, x2, x3, x4⟩ := cells5o b21
  have hS1 : SlE w1 (.slice ad M c) L := by
    by_cases h0 : L.length = 0
    · have : L = [] := List.eq_nil_of_length_eq_zero h0
      subst this
      have hM0 : M = 0 := by rw [← hM.out]; rfl
      rw [hM0]
      exact SlE.none _ _ _ hnn hcm
    · exact hS0.out.keepS hk1 (fun b hb e => by
        simp at hb; subst hb
        exact hsb.out h0 e)
  have hk01 := hk0.out.of_nil.trans hk1
  replace hR1 := Lib.hid hR1
  replace hW1 := Lib.hid hW1
  replace hS1 := Lib.hid hS1
  replace hk01 := Lib.hid hk01
  replace b31 := Lib.hid b31
  replace b41 := Lib.hid b41
  clear hk1 b11 b21 b1 b2 b3 b4 hW0 hS0
  go_wp2_with fail
  refine (dropR_c w1 N0 (.slice ad M c) L A a s hS1.out (by rw [hM.out]; omega)).mono ?_
  rintro e w2 ⟨v2, L2, c2, rfl, hR2, hS2, ⟨p2, l2, q2, rfl⟩, hk2⟩
  have b32 := (hk2.block _ (lt_of_block b31.out) (by simp)).trans b31.out
  have b42 := (hk2.block _ (lt_of_block b41.out) (by simp)).trans b41.out
  have hW2 := hW1.out.keeps hk2
  have hk02 := hk01.out.trans hk2.of_nil
  obtain ⟨r0, r1⟩ := cells2 b32
  have hrf := frozen2 b32
  obtain ⟨n0, n1'⟩ := cells2 b42
  have hnf := frozen2 b42
  obtain ⟨g1, g2⟩ := set2_all b42 (.int .i64 N0) (.slice p2 l2 q2)
  have b33 := (g2.block _ (lt_of_block b32) (by simp)).trans b32
  obtain ⟨g3, g4⟩ := set2_all b33 (.int .i64 N0) (.slice p2 l2 q2)
  have hsz2 := hk02.size
  replace hR2 := Lib.hid hR2
  replace hS2 := Lib.hid hS2
  replace hW2 := Lib.hid hW2
  replace hk02 := Lib.hid hk02
  replace b32 := Lib.hid b32
  replace b42 := Lib.hid b42
  replace b33 := Lib.hid b33
  replace g1 := Lib.hid g1
  replace g2 := Lib.hid g2
  replace g3 := Lib.hid g3
  replace g4 := Lib.hid g4
  clear hk2 hW1 hS1 hk01 b31 b41
  obtain ⟨n0, n1'⟩ := cells2 g1.out
  have hrf3 := frozen2 b33.out
  obtain ⟨r0, r1⟩ := cells2 b33.out
  replace hrf := hrf3
  have t1 : w.heap.size + 1 + 1 + 1 = w.heap.size + 1 + 1 → False := fun h => by omega
  go_wp2
  obtain ⟨w3, hw3⟩ : ∃ w3, (w2.setCell ⟨w.heap.size + 1 + 1 + 1, 0, none⟩ (.int .i64 N0)).setCell ⟨w.heap.size + 1 + 1 + 1, 1, none⟩ (.slice p2 l2 q2) = w3 := ⟨_, rfl⟩
  rw [hw3] at g1 g2 g3 g4 b33 n0 n1' hrf hrf3 r0 r1 ⊢
  clear hw3 hnf
  have hnf := frozen2 g1.out
  refine Free.wp_region_chain (fun i => i == 6) (fun i => true) (fun _ b => b = w.heap.size + 1 + 1) (by kernel_rfl) (by kernel_rfl) (by kernel_rfl) ?_
  (repeat (first | (apply Free.cw_pure rfl rfl; (intro w'; go_simp <;> exact rfl); go_frame) | (apply Free.cw_steady rfl rfl rfl; (intro w' hS; have q0 := Free.sx_cell hS n0 (fun _ _ hT => t1 hT); have q1 := Free.sx_cell hS n1' (fun _ _ hT => t1 hT); go_simp <;> exact rfl); go_frame) | (refine Free.cw_skip rfl ?_; go_frame)))
  refine Free.cw_loud rfl rfl (fun K hK => ?_)
  go_wp2
  refine hK _ _ rfl (Free.KeepsP.of g4.out.drews (fun b hb => by simpa using hb)) ?_
  clear hK K
  (repeat (apply Free.cw_pure rfl rfl; (intro w'; go_simp <;> exact rfl); go_frame))
  refine Free.cw_nil ?_
  go_wp2
  refine bodyPost_ret (results_refm rfl _ _ _ _ _ _ _ rfl g3.out) ?_ ?_
  · rfl
  · exact ⟨bw, bm, n1, G1, _, L2, c1, c2, rfl, .inr (.inr (.inr (.inr (.inl ⟨by have := hr.out; omega, hR1.out, hR2.out⟩)))), ((hW2.out.keep g2.out (by simp; omega) (by simp; omega)).keep g4.out (by simp; omega) (by simp; omega)).keeps ((Keeps.refl [] _).drew), ((hS2.out.keepBox b42.out g2.out).keepBox b33.out g4.out).keeps ((Keeps.refl [] _).drew), ⟨_, _, _, rfl⟩, by omega, ((hk02.out.fresh g2.out (fun b hb => .inr (by simp at hb; omega))).fresh g4.out (fun b hb => .inr (by simp at hb; omega))).drew, .inl ⟨rfl, rfl⟩⟩
end Go.Proofs.Ythhhciofcmmnfaa

namespace Go.Proofs.Ythhhciofcmmnfaa
open Go.RowKit

set_option maxRecDepth 100000 in
set_option maxHeartbeats 2000000 in
theorem apply5 (w : World) (bw bm n : Nat) (N N0 : Int) (G : Pt) (v : Value) (L : List EntV) (k : Nat) (A B a s : Int) (h : WM w bw bm n N G) (hN : 1 ≤ N ∧ N ≤ 8) (hn : n < 900000) (hS : SlE w v L) (hL : L.length < 800000) (hk : k < 256) (hI : ∀ a s, Mg.Inv N (fun m => G m a s)) (hr : k % 6 = 5) :
    Calls Try.prog 21 #[.pointer (some ⟨bw, 0, none⟩), refV N0 v, opV k A B a s] w (ApplyPost w bw bm n N N0 G L k A B a s) := by
  obtain ⟨ad, c, rfl, hlc, hcm, hnn⟩ := hS.form
  obtain ⟨M, hM⟩ : ∃ N, L.length = N := ⟨_, rfl⟩
  rw [hM] at hlc ⊢
  obtain ⟨b1, b2, b3, b4, hk0⟩ := four_boxes w (.cells #[.int .i64 N0, .slice ad M c] 27) (.cells #[.int .u8 k, .int .i64 A, .int .i64 B, .int .i64 a, .int .i64 s] 33) zW (.cells #[.int .i64 N0, .slice ad M c] 27)
  have hbm := h.mp.lt
  have hbw := h.cells.2.2.1
  have hW0 := h.keeps hk0
  have hS0 := hS.keeps hk0
  rw [hM] at hS0
  obtain ⟨y0, y1⟩ := cells2 b1
  obtain ⟨x0, x1, x2, x3, x4⟩ := cells5o b2
  have hLM : M < 800000 := by omega
  have hsb : L.length ≠ 0 → (Value.slice ad M c).ownBlock ≠ some bm := fun h0 eb => by
    obtain ⟨_, _, _, e2, _, _, _, h4⟩ := hS
    obtain ⟨g, o, e3, hc⟩ := h4 (by rw [entCs_len]; omega)
    have hlt : 0 < (entCs L).length := by rw [entCs_len]; omega
    have h5 := hc 0 _ (List.getElem?_eq_getElem hlt)
    simp at e2
    rw [← e2.1] at e3
    rw [e3] at eb
    simp [Value.ownBlock] at eb
    rw [eb, h.mp.noCells] at h5; cases h5
  have hr6 : ((k : Int) % 6 == 5) = true := by simp; omega
  have hr60 : ((k : Int) % 6 == 0) = false := by simp; omega
  have hr61 : ((k : Int) % 6 == 1) = false := by simp; omega
  have hr62 : ((k : Int) % 6 == 2) = false := by simp; omega
  have hr64 : ((k : Int) % 6 == 4) = false := by simp; omega
  have hr63 : ((k : Int) % 6 == 3) = false := by simp; omega
  replace hM := Lib.hid hM
  replace b1 := Lib.hid b1
  replace b2 := Lib.hid b2
  replace b3 := Lib.hid b3
  replace b4 := Lib.hid b4
  replace hk0 := Lib.hid hk0
  replace hW0 := Lib.hid hW0
  replace hS0 := Lib.hid hS0
  replace hsb := Lib.hid hsb
  replace hr := Lib.hid hr
  replace hS := Lib.hid hS
  clear h
  go_enter Try.func21, Try.ntmps21
  go_wp2_with fail
  generalize hW : (((w.alloc (.cells #[.int .i64 N0, .slice ad M c] 27)).alloc (.cells #[.int .u8 k, .int .i64 A, .int .i64 B, .int .i64 a, .int .i64 s] 33)).alloc zW).alloc (.cells #[.int .i64 N0, .slice ad M c] 27) = W at *
  clear hW
  refine (clone_c W bw bm n N G hW0.out).mono ?_
  rintro e w1 ⟨bw', bm', rfl, hW1n, hk1, hbw1, hbm1⟩
  have hW1 := hW0.out.keeps hk1
  have hszW := hk0.out.size
  have hnc : w.heap.size + 1 + 1 + 1 < W.heap.size := lt_of_block b4.out
  have b31 := (hk1.block _ (lt_of_block b3.out) (by simp)).trans b3.out
  have b41 := (hk1.block _ (lt_of_block b4.out) (by simp)).trans b4.out
  have hkw1 := hk0.out.trans hk1
  replace hW1 := Lib.hid hW1
  replace hW1n := Lib.hid hW1n
  replace b31 := Lib.hid b31
  replace b41 := Lib.hid b41
  replace hkw1 := Lib.hid hkw1
  clear hk1 y0 y1 x0 x1 x2 x3 x4
  go_wp2_with fail
  have hbw1' := hW1n.out.cells.2.2.1
  have hbm1' := hW1n.out.mp.lt
  refine (create_c _ bw bm n N G 1 1 77 (hW1.out.keeps ((Keeps.refl _ _))) hN (by omega)).mono ?_
  rintro e w2 ⟨c1, n1, G1, rfl, _, _, _, hk2⟩
  have hnot : ∀ b, w.heap.size ≤ b → b ∉ [bm] := fun b hb hm => by simp at hm; omega
  have b32 := (hk2.block _ (lt_of_block b31.out) (hnot _ (by omega))).trans b31.out
  have b42 := (hk2.block _ (lt_of_block b41.out) (hnot _ (by omega))).trans b41.out
  have hW2 := hW1n.out.keep hk2 (hnot _ (by omega)) (hnot _ (by omega))
  have hk02 := hkw1.out.of_nil.trans hk2
  have hsz2 := hk02.size
  obtain ⟨n0, n1'⟩ := cells2 b42
  obtain ⟨r0, r1⟩ := cells2 b32
  have hrf := frozen2 b32
  have hnf := frozen2 b42
  obtain ⟨g3, g4⟩ := set2_all b32 (.int .i64 N0) (.slice ad M c)
  replace b32 := Lib.hid b32
  replace b42 := Lib.hid b42
  replace g3 := Lib.hid g3
  replace g4 := Lib.hid g4
  replace hW2 := Lib.hid hW2
  replace hk02 := Lib.hid hk02
  clear hk2
  have t1 : w.heap.size + 1 + 1 + 1 = w.heap.size + 1 + 1 → False := fun h => by omega
  go_wp2
  refine Free.wp_region_chain (fun i => i == 6) (fun i => true) (fun _ b => b = w.heap.size + 1 + 1) (by kernel_rfl) (by kernel_rfl) (by kernel_rfl) ?_
  (repeat (first | (apply Free.cw_pure rfl rfl; (intro w'; go_simp <;> exact rfl); go_frame) | (apply Free.cw_steady rfl rfl rfl; (intro w' hS; have q0 := Free.sx_cell hS n0 (fun _ _ hT => t1 hT); have q1 := Free.sx_cell hS n1' (fun _ _ hT => t1 hT); go_simp <;> exact rfl); go_frame) | (refine Free.cw_skip rfl ?_; go_frame)))
  refine Free.cw_loud rfl rfl (fun K hK => ?_)
  go_wp2
  refine hK _ _ rfl (Free.KeepsP.of g4.out.drews (fun b hb => by simpa using hb)) ?_
  clear hK K
  (repeat (apply Free.cw_pure rfl rfl; (intro w'; go_simp <;> exact rfl); go_frame))
  refine Free.cw_nil ?_
  go_wp2
  refine bodyPost_ret (results_refm rfl _ _ _ _ _ _ _ rfl g3.out) ?_ ?_
  · rfl
  · have hfin := (hk02.out.fresh g4.out (fun b hb => .inr (by simp at hb; omega))).drew
    have hSf : ∀ W', Keeps [bm] w W' → SlE W' (.slice ad M c) L := fun W' hk' => by
      by_cases h0 : L.length = 0
      · have : L = [] := List.eq_nil_of_length_eq_zero h0
        subst this
        have hM0 : M = 0 := by rw [← hM.out]; rfl
        rw [hM0]
        exact SlE.none _ _ _ hnn hcm
      · have hS' := hS.out
        rw [hM.out] at hS'
        exact hS'.keepS hk' (fun b hb e => by simp at hb; subst hb; exact hsb.out h0 e)
    exact ⟨bw', bm', n, G, _, L, 0, 0, rfl, .inr (.inr (.inr (.inr (.inr ⟨by have := hr.out; omega, rfl, rfl, rfl, rfl⟩)))), (hW2.out.keep g4.out (by simp; omega) (by simp; omega)).keeps ((Keeps.refl [] _).drew), hSf _ hfin, ⟨_, _, _, rfl⟩, by omega, hfin, .inr ⟨by omega, by omega⟩⟩
theorem apply_c (w : World) (bw bm n : Nat) (N N0 : Int) (G : Pt) (v : Value) (L : List EntV) (k : Nat) (A B a s : Int) (h : WM w bw bm n N G) (hN : 1 ≤ N ∧ N ≤ 8) (hn : n < 900000) (hS : SlE w v L) (hL : L.length < 800000) (hk : k < 256) (hI : ∀ a s, Mg.Inv N (fun m => G m a s)) :
    Calls Try.prog 21 #[.pointer (some ⟨bw, 0, none⟩), refV N0 v, opV k A B a s] w (ApplyPost w bw bm n N N0 G L k A B a s) := by
  rcases (show k % 6 = 0 ∨ k % 6 = 1 ∨ k % 6 = 2 ∨ k % 6 = 3 ∨ k % 6 = 4 ∨ k % 6 = 5 by omega) with r | r | r | r | r | r
  · exact apply0 w bw bm n N N0 G v L k A B a s h hN hn hS hL hk hI r
  · exact apply1 w bw bm n N N0 G v L k A B a s h hN hn hS hL hk hI r
  · exact apply2 w bw bm n N N0 G v L k A B a s h hN hn hS hL hk hI r
  · exact apply3 w bw bm n N N0 G v L k A B a s h hN hn hS hL hk hI r
  · exact apply4 w bw bm n N N0 G v L k A B a s h hN hn hS hL hk hI r
  · exact apply5 w bw bm n N N0 G v L k A B a s h hN hn hS hL hk hI r
/-- With the model beside it, all goes together. -/
theorem OpRel.rel {r : Nat} {N : Int} {G G' : Pt} {L L' : List EntV} {A B a s c c' : Int} (h : Rel N G L) (ho : OpRel r N N G L A B a s c c' G' L') : c = c' ∧ Rel N G' L' := by
  rcases ho with ⟨_, h1, h2⟩ | ⟨_, h1, h2⟩ | ⟨_, h1, h2⟩ | ⟨_, h1, h2⟩ | ⟨_, h1, h2⟩ | ⟨_, rfl, rfl, rfl, rfl⟩
  · exact h.create h1 h2
  · exact h.share h1 h2
  · exact h.move h1 h2
  · exact h.locate h1 h2
  · exact h.drop h1 h2
  · exact ⟨rfl, h⟩
end Go.Proofs.Ythhhciofcmmnfaa

namespace Go.Proofs.Ythhhciofcmmnfaa
namespace Gen
open Go Go.ChangeShapes Go.WideShapes Go.ChangeAt Go.RowKit

/-- The cells `cs` are data of type `t`. -/
def Cs (P : Program) (w : World) (t : TypeId) (cs : List Value) : Prop :=
  ∃ (H : Type) (enc : TypeId × Value → H) (fuel : Nat) (x : DataW H × List MemPlace), DataW.trod enc P w 0 (fun _ => true) true fuel t cs = some x
variable {P : Program} {w : World}
theorem Cs.of_trod {H : Type} {enc : TypeId × Value → H} {t : TypeId} {v : Value} {d : DataW H} {ps : List MemPlace} (hv : v.cells.toList = [v]) (h : DataW.Trod enc P w 0 (fun _ => true) true t v d ps) : Cs P w t [v] := by
  obtain ⟨fuel, hf⟩ := h
  rw [hv] at hf
  exact ⟨H, enc, fuel, _, hf⟩
theorem Cs.of_agg {H : Type} {enc : TypeId × Value → H} {t : TypeId} {v : Value} {d : DataW H} {ps : List MemPlace} (h : DataW.Trod enc P w 0 (fun _ => true) true t v d ps) : Cs P w t v.cells.toList := by
  obtain ⟨fuel, hf⟩ := h
  exact ⟨H, enc, fuel, _, hf⟩
theorem Cs.int {t : TypeId} {k : IntKind} (ht : P.underlying t = some (.int k)) {cs : List Value} (h : Cs P w t cs) : ∃ n, cs = [.int k n] ∧ (Lit.int k n).wf = true := by
  obtain ⟨H, enc, fuel, x, hf⟩ := h
  obtain ⟨n, h1, _, h2⟩ := DataW.trod_int ht hf
  exact ⟨n, h1, h2⟩
theorem Cs.bool {t : TypeId} (ht : P.underlying t = some .bool) {cs : List Value} (h : Cs P w t cs) : ∃ b, cs = [.bool b] := by
  obtain ⟨H, enc, fuel, x, hf⟩ := h
  obtain ⟨b, h1, _⟩ := DataW.trod_bool ht hf
  exact ⟨b, h1⟩
theorem Cs.struct {t : TypeId} {fs : Array Field} (ht : P.underlying t = some (.struct fs)) {cs : List Value} (h : Cs P w t cs) : cs.length = P.cellsOf t ∧ ∀ (i : Nat) (f : Field), fs[i]? = some f → Cs P w f.type ((cs.drop f.offset).take (P.cellsOf f.type)) := by
  obtain ⟨H, enc, fuel, x, hf⟩ := h
  obtain ⟨xs, n, _, _, hl, hx, hall⟩ := DataW.trod_struct ht hf
  refine ⟨hl, fun i f hi => ?_⟩
  have h1 := hall i f hi
  have hlt : i < xs.length := by rw [hx]; exact (Array.getElem?_eq_some_iff.1 hi).1
  rw [List.getElem?_eq_getElem hlt] at h1
  exact ⟨H, enc, n, _, h1⟩
theorem Cs.slice {t e : TypeId} {sz : Nat} (ht : P.underlying t = some (.slice e)) (hsz : P.cellsOf e = sz) (hpos : 0 < sz) {cs : List Value} (h : Cs P w t cs) :
    ∃ v n es, cs = [v] ∧ Sl w sz v n es ∧ n ≤ maxLen ∧ ∀ k, k < n → Cs P w e ((es.drop (k * sz)).take sz) := by
  obtain ⟨H, enc, fuel, x, hf⟩ := h
  subst hsz
  rcases Go.Deep.open_slice ht hf with ⟨rfl, _⟩ | ⟨a, len, cap, m, n, D, Pl, rfl, _, hl, hm, hmm, _, hx⟩
  · exact ⟨_, 0, [], rfl, Sl.nil _ _, by simp, fun k hk => by omega⟩
  · simp only [if_true] at hmm
    subst hmm
    obtain ⟨V, hV⟩ := Go.Deep.choose_lt (α := List Value) (p := fun i v => w.cells? 0 (a.add (i * P.cellsOf e)) (P.cellsOf e) = some v ∧ DataW.trod enc P w 0 (fun _ => true) true n e v = some (D i, Pl i)) hx
    have hVl : ∀ i, i < m → (V i).length = P.cellsOf e := fun i hi => (World.cells?_some (hV i hi).1).2.1
    have hchunk : ∀ (n : Nat), n ≤ m → ((List.range n).flatMap V).length = n * P.cellsOf e ∧ ∀ k, k < n → (((List.range n).flatMap V).drop (k * P.cellsOf e)).take (P.cellsOf e) = V k := by
      intro n
      induction n with
      | zero => exact fun _ => ⟨by simp, fun k hk => by omega⟩
      | succ n ih =>
        intro hn
        obtain ⟨h1, h2⟩ := ih (by omega)
        rw [List.range_succ, List.flatMap_append]
        simp only [List.flatMap_cons, List.flatMap_nil, List.append_nil]
        refine ⟨by rw [List.length_append, h1, hVl n (by omega)]; rw [Nat.add_mul, Nat.one_mul], fun k hk => ?_⟩
        rcases Nat.lt_succ_iff_lt_or_eq.1 hk with hkn | rfl
        · have hk2 : k * P.cellsOf e + P.cellsOf e ≤ n * P.cellsOf e := by rw [← Nat.succ_mul]; exact Nat.mul_le_mul_right _ hkn
          rw [List.drop_append_of_le_length (by omega), List.take_append_of_le_length (by rw [List.length_drop]; omega)]
          exact h2 k hkn
        · rw [List.drop_append, h1, List.drop_of_length_le (by omega)]
          simp only [Nat.sub_self, List.drop_zero, List.nil_append]
          exact List.take_of_length_le (by rw [hVl _ (by omega)]; exact Nat.le_refl _)
    obtain ⟨hl1, hl2⟩ := hchunk len hl
    refine ⟨_, len, (List.range len).flatMap V, rfl, ⟨hl1, some a, m, rfl, hl, hm, by simp, fun hp => ?_⟩, by omega, fun k hk => ?_⟩
    · obtain ⟨b, off, spot⟩ := a
      have hlen0 : 0 < len := by
        rcases Nat.eq_zero_or_pos len with e | e
        · subst e; simp at hp
        · exact e
      have hspot : spot = none := by
        have h0 := (World.cells?_some (hV 0 (by omega)).1).2.2 0 (by omega)
        rw [List.getElem?_eq_getElem (by rw [hVl 0 (by omega)]; omega)] at h0
        have := World.cell?_spot h0
        simpa [Addr.add] using this
      subst hspot
      refine ⟨b, off, rfl, fun j u hj => ?_⟩
      have hjl : j < len * P.cellsOf e := by rw [← hl1]; exact (List.getElem?_eq_some_iff.1 hj).1
      have hi : j / P.cellsOf e < len := (Nat.div_lt_iff_lt_mul hpos).2 hjl
      have hr : j % P.cellsOf e < P.cellsOf e := Nat.mod_lt _ hpos
      have hdm : j / P.cellsOf e * P.cellsOf e + j % P.cellsOf e = j := by rw [Nat.mul_comm]; exact Nat.div_add_mod _ _
      have hc := (World.cells?_some (hV (j / P.cellsOf e) (by omega)).1).2.2 (j % P.cellsOf e) hr
      have hvk := hl2 _ hi
      have e2 : (V (j / P.cellsOf e))[j % P.cellsOf e]? = some u := by
        rw [← hvk, List.getElem?_take_of_lt hr, List.getElem?_drop, hdm]; exact hj
      rw [add_plain, add_plain, Nat.add_assoc, hdm, e2] at hc
      exact hc
    · rw [hl2 k hk]
      exact ⟨H, enc, n, _, (hV k (by omega)).2⟩
end Gen
end Go.Proofs.Ythhhciofcmmnfaa

namespace Go.Proofs.Ythhhciofcmmnfaa
namespace Gen
open Go Go.RowKit
variable {P : Program} {α : Type} {R : World → List Value → α → Prop} {sz : Nat} {w w' : World} {v : Value} {L : List α}

/-- The slice value `v` reads as the list `L`; each element takes `sz` cells, which read as `R` says. -/
def SlR {α : Type} (R : World → List Value → α → Prop) (sz : Nat) (w : World) (v : Value) (L : List α) : Prop :=
  ∃ cs, Sl w sz v L.length cs ∧ ∀ k (hk : k < L.length), R w ((cs.drop (k * sz)).take sz) L[k]
theorem SlR.nil (w : World) : SlR R sz w (.slice none 0 0) [] := ⟨[], Sl.nil _ _, fun k hk => by simp at hk⟩
theorem SlR.open {t e : TypeId} (ht : P.underlying t = some (.slice e)) (hsz : P.cellsOf e = sz) (hpos : 0 < sz) (hR : ∀ cs, Cs P w e cs → ∃ x, R w cs x) (h : Cs P w t [v]) : ∃ L, SlR R sz w v L ∧ L.length ≤ maxLen := by
  obtain ⟨v', n, es, e1, hs, hn, hx⟩ := Cs.slice ht hsz hpos h
  simp only [List.cons.injEq, and_true] at e1
  subst e1
  rcases Nat.eq_zero_or_pos n with e0 | e0
  · subst e0
    exact ⟨[], ⟨es, hs, fun k hk => by simp at hk⟩, by simp⟩
  haveI : Inhabited α := ⟨(hR _ (hx 0 e0)).choose⟩
  obtain ⟨f, hf⟩ := Go.Deep.choose_lt (α := α) (p := fun k x => R w ((es.drop (k * sz)).take sz) x) (fun k hk => hR _ (hx k hk))
  refine ⟨(List.range n).map f, ⟨es, by simpa using hs, fun k hk => ?_⟩, by simpa using hn⟩
  simp at hk
  simpa using hf k hk
theorem SlR.form (h : SlR R sz w v L) : ∃ a c, v = .slice a L.length c ∧ L.length ≤ c ∧ c ≤ maxLen ∧ (a = none → c = 0) := by
  obtain ⟨cs, ⟨_, a, c, rfl, h2, h3, h4, _⟩, _⟩ := h; exact ⟨a, c, rfl, h2, h3, h4⟩
theorem SlR.keepS {S : List Nat} (h : SlR R sz w v L) (hk : Keeps S w w') (hS : ∀ b ∈ S, v.ownBlock ≠ some b) (hR : ∀ cs x, R w cs x → R w' cs x) : SlR R sz w' v L := by
  obtain ⟨cs, ⟨h1, a, cap, rfl, h2, h3, h0, h4⟩, hE⟩ := h
  refine ⟨cs, ⟨h1, a, cap, rfl, h2, h3, h0, fun hp => ?_⟩, fun k hk => hR _ _ (hE k hk)⟩
  obtain ⟨g, o, rfl, hc⟩ := h4 hp
  refine ⟨g, o, rfl, fun j u hj => ?_⟩
  have := hc j u hj
  rw [hk.cell g _ (lt_of_cell this) (fun hm => hS g hm rfl)]
  exact this
theorem SlR.keeps (h : SlR R sz w v L) (hk : Keeps [] w w') (hR : ∀ cs x, R w cs x → R w' cs x) : SlR R sz w' v L := h.keepS hk (by simp) hR
/-- The cells of one element. -/
theorem SlR.elem (h : SlR R sz w v L) (hpos : 0 < sz) {k : Nat} (hk : k < L.length) : ∃ g o c xs, v = .slice (some ⟨g, o, none⟩) L.length c ∧ xs.length = sz ∧ R w xs L[k] ∧ ∀ j u, xs[j]? = some u → w.cell? ⟨g, o + k * sz + j, none⟩ = some u := by
  obtain ⟨cs, ⟨h1, a, cap, rfl, h2, h3, h0, h4⟩, hE⟩ := h
  have hk2 : k * sz + sz ≤ L.length * sz := by rw [← Nat.succ_mul]; exact Nat.mul_le_mul_right _ hk
  obtain ⟨g, o, rfl, hc⟩ := h4 (by omega)
  refine ⟨g, o, cap, _, rfl, ?_, hE k hk, fun j u hj => ?_⟩
  · rw [List.length_take, List.length_drop]; omega
  · have hj2 : j < sz := by
      have := (List.getElem?_eq_some_iff.1 hj).1
      rw [List.length_take] at this; omega
    rw [List.getElem?_take_of_lt hj2, List.getElem?_drop] at hj
    rw [Nat.add_assoc]
    exact hc _ _ hj
/-- Elements of one cell each. -/
theorem SlR.map {f : α → Value} (h : SlR (fun _ cs x => cs = [f x]) 1 w v L) : Sl w 1 v L.length (L.map f) := by
  obtain ⟨cs, h1, h2⟩ := h
  have hl : cs.length = L.length := by have := h1.1; omega
  have : cs = L.map f := by
    refine List.ext_getElem? fun k => ?_
    by_cases hk : k < L.length
    · have h3 := h2 k hk
      rw [Nat.mul_one] at h3
      have h4 : ((cs.drop k).take 1)[0]? = some (f L[k]) := by rw [h3]; rfl
      rw [List.getElem?_take_of_lt (by decide), List.getElem?_drop, Nat.add_zero] at h4
      rw [h4]; simp [hk]
    · rw [List.getElem?_eq_none (by omega), List.getElem?_eq_none (by simp; omega)]
  rw [← this]; exact h1
end Gen
end Go.Proofs.Ythhhciofcmmnfaa
