/- Texts that the laws lean on, in the order in which they build. The sorts of answers and of needs. A trace in memory. The reader: Int, Count in whatever state; bytes.Equal. The byte form of a trace (plain), and what appending leaves. New, ID, Start, State, Agreed; a copy of an answer. Trace.Encode. (Printed by mktrenc.py.) Answering a trace: the plain function and its laws. -/
import Derived.Test.YthfdngjbcgkkfaaJ3
import Derived.Shelf.SlSortCmp.NoneTotal
import Derived.Laws.Rows
set_option linter.unusedVariables false
set_option linter.unusedSimpArgs false
namespace Go.Proofs.Ythfdngjbcgkkfaa
open Go.RowKit Go.Sort Go.Shelf Go.Proofs

theorem cells8t {w : World} {b : Nat} {x0 x1 x2 x3 x4 x5 x6 x7 : Value} {t : TypeId} {f : Nat × Nat} (h : w.heap[b]? = some (.cells #[x0, x1, x2, x3, x4, x5, x6, x7] t f)) : w.cell? ⟨b, 0, none⟩ = some x0 ∧ w.cell? ⟨b, 1, none⟩ = some x1 ∧ w.cell? ⟨b, 2, none⟩ = some x2 :=
  ⟨by simp [World.cell?, h], by simp [World.cell?, h], by simp [World.cell?, h]⟩
def cfA (x y : AnV) : Int := orL [cI x.m y.m, cI x.ow y.ow, cI x.n y.n]
def cfT (x y : T3) : Int := orL [cI x.1 y.1, cI x.2.1 y.2.1]
theorem gr_alloc (w : World) (o : Obj) : w.alloc o = grow (w.drewN 0) #[o] := alloc_eq_grow w o
theorem shZ_of3 (w : World) (a b c : Int) (t : TypeId) : shZ.R (w.alloc (.cells #[.int .i64 a, .int .i64 b, .int .i64 c] t)) (.slice (some ⟨w.heap.size, 0, none⟩) 3 3) [a, b, c] :=
  Sh.R.made shZ w [a, b, c] #[.int .i64 a, .int .i64 b, .int .i64 c] t rfl (by simp [maxLen]) 3 rfl
theorem shZ_of2 (w : World) (a b : Int) (t : TypeId) : shZ.R (w.alloc (.cells #[.int .i64 a, .int .i64 b] t)) (.slice (some ⟨w.heap.size, 0, none⟩) 2 2) [a, b] :=
  Sh.R.made shZ w [a, b] #[.int .i64 a, .int .i64 b] t rfl (by simp [maxLen]) 2 rfl
set_option maxRecDepth 100000 in
set_option maxHeartbeats 2000000 in
theorem cmpT_c (x y : T3) (w : World) : Calls Try.prog 74 #[tV x, tV y] w fun e w' => e = .returned (.int .i64 (cfT x y)) ∧ ∃ q os, w' = grow (w.drewN q) os := by
  obtain ⟨x0, x1, x2⟩ := x
  obtain ⟨y0, y1, y2⟩ := y
  obtain ⟨r, hr⟩ : ∃ r, cfT (x0, x1, x2) (y0, y1, y2) = r := ⟨_, rfl⟩
  rw [hr]
  replace hr := Lib.hid hr
  have hk2 : Keeps [] (w.alloc (.cells #[.int .i64 x0, .int .u64 x1, .int .i64 x2] tN)) ((w.alloc (.cells #[.int .i64 x0, .int .u64 x1, .int .i64 x2] tN)).alloc (.cells #[.int .i64 y0, .int .u64 y1, .int .i64 y2] tN)) := (Keeps.refl _ _).alloc _
  have b1 := (hk2.block w.heap.size (by simp) (by simp)).trans (heap_alloc_new w (.cells #[.int .i64 x0, .int .u64 x1, .int .i64 x2] tN))
  have b2 := heap_alloc_new (w.alloc (.cells #[.int .i64 x0, .int .u64 x1, .int .i64 x2] tN)) (.cells #[.int .i64 y0, .int .u64 y1, .int .i64 y2] tN)
  rw [show (w.alloc (.cells #[.int .i64 x0, .int .u64 x1, .int .i64 x2] tN)).heap.size = w.heap.size + 1 by simp] at b2
  have hgr : (w.alloc (.cells #[.int .i64 x0, .int .u64 x1, .int .i64 x2] tN)).alloc (.cells #[.int .i64 y0, .int .u64 y1, .int .i64 y2] tN) = grow w #[.cells #[.int .i64 x0, .int .u64 x1, .int .i64 x2] tN, .cells #[.int .i64 y0, .int .u64 y1, .int .i64 y2] tN] := by
    rw [alloc_eq_grow, alloc_eq_grow, grow_grow]; rfl
  replace hgr := Lib.hid hgr
  go_enter Try.func74, Try.ntmps74
  go_wp2
  generalize (w.alloc (.cells #[.int .i64 x0, .int .u64 x1, .int .i64 x2] tN)).alloc (.cells #[.int .i64 y0, .int .u64 y1, .int .i64 y2] tN) = W at *
  obtain ⟨p0, p1, _⟩ := cells3t b1
  obtain ⟨s0, s1, _⟩ := cells3t b2
  clear b1 b2 hk2
  refine Free.wp_region_chain (fun i => i == 4 || i == 9 || i == 10 || i == 11) (fun i => true) (fun _ _ => False) (by kernel_rfl) (by kernel_rfl) (by kernel_rfl) ?_
  (repeat (first | (apply Free.cw_pure rfl rfl; (intro w'; go_simp <;> exact rfl); go_frame) | (apply Free.cw_steady rfl rfl rfl; (intro w' hS; have q0 := Free.sx_cell hS p0 (fun _ _ hT => hT); have q1 := Free.sx_cell hS p1 (fun _ _ hT => hT); have q2 := Free.sx_cell hS s0 (fun _ _ hT => hT); have q3 := Free.sx_cell hS s1 (fun _ _ hT => hT); go_simp <;> exact rfl); go_frame) | (refine Free.cw_skip rfl ?_; go_frame)))
  refine Free.cw_loud rfl rfl (fun K hK => ?_)
  go_wp2_with fail
  refine (compareI_c x0 y0 _).mono ?_
  rintro e _ ⟨rfl, rfl⟩
  refine hK _ _ rfl (Free.KeepsP.refl _ _) ?_
  clear hK K
  (repeat (first | (apply Free.cw_pure rfl rfl; (intro w'; go_simp <;> exact rfl); go_frame) | (apply Free.cw_steady rfl rfl rfl; (intro w' hS; have q0 := Free.sx_cell hS p0 (fun _ _ hT => hT); have q1 := Free.sx_cell hS p1 (fun _ _ hT => hT); have q2 := Free.sx_cell hS s0 (fun _ _ hT => hT); have q3 := Free.sx_cell hS s1 (fun _ _ hT => hT); go_simp <;> exact rfl); go_frame) | (refine Free.cw_skip rfl ?_; go_frame)))
  refine Free.cw_loud rfl rfl (fun K hK => ?_)
  go_wp2_with fail
  refine (compareU_c x1 y1 _).mono ?_
  rintro e _ ⟨rfl, rfl⟩
  refine hK _ _ rfl (Free.KeepsP.refl _ _) ?_
  clear hK K
  (repeat (first | (apply Free.cw_pure rfl rfl; (intro w'; go_simp <;> exact rfl); go_frame) | (apply Free.cw_steady rfl rfl rfl; (intro w' hS; have q0 := Free.sx_cell hS p0 (fun _ _ hT => hT); have q1 := Free.sx_cell hS p1 (fun _ _ hT => hT); have q2 := Free.sx_cell hS s0 (fun _ _ hT => hT); have q3 := Free.sx_cell hS s1 (fun _ _ hT => hT); go_simp <;> exact rfl); go_frame) | (refine Free.cw_skip rfl ?_; go_frame)))
  refine Free.cw_loud rfl rfl (fun K hK => ?_)
  go_wp2
  refine hK _ _ rfl (Free.KeepsP.alloc _ _ _) ?_
  clear hK K
  (repeat (apply Free.cw_pure rfl rfl; (intro w'; go_simp <;> exact rfl); go_frame))
  refine Free.cw_loud rfl rfl (fun K hK => ?_)
  go_wp2_with fail
  refine (or_c _ _ _ ((shZ_of2 W (cI x0 y0) (cI x1 y1) 3).keeps ((Keeps.refl [] _).drew))).mono ?_
  rintro e _ ⟨rfl, rfl⟩
  refine hK _ _ rfl (Free.KeepsP.refl _ _) ?_
  clear hK K
  (repeat (apply Free.cw_pure rfl rfl; (intro w'; go_simp <;> exact rfl); go_frame))
  refine Free.cw_nil ?_
  go_wp2
  go_ret
  exact ⟨by rw [← hr.out]; rfl, 1, _, by rw [hgr.out, alloc_eq_grow, grow_grow]; rfl⟩
set_option maxRecDepth 100000 in
set_option maxHeartbeats 2000000 in
theorem cmpA_c (x y : AnV) (w : World) : Calls Try.prog 81 #[aV x, aV y] w fun e w' => e = .returned (.int .i64 (cfA x y)) ∧ ∃ q os, w' = grow (w.drewN q) os := by
  obtain ⟨r, hr⟩ : ∃ r, cfA x y = r := ⟨_, rfl⟩
  rw [hr]
  obtain ⟨x0, x1, x2, x3, x4, x5, x6, x7, x8, x9⟩ := x
  obtain ⟨y0, y1, y2, y3, y4, y5, y6, y7, y8, y9⟩ := y
  replace hr := Lib.hid hr
  have hk2 : Keeps [] (w.alloc (.cells #[.int .i64 x0, .int .i64 x1, .int .u64 x2, .int .i64 x3, .bool x4, .bool x5, .int .i64 x6, .slice x7 x8 x9] tA)) ((w.alloc (.cells #[.int .i64 x0, .int .i64 x1, .int .u64 x2, .int .i64 x3, .bool x4, .bool x5, .int .i64 x6, .slice x7 x8 x9] tA)).alloc (.cells #[.int .i64 y0, .int .i64 y1, .int .u64 y2, .int .i64 y3, .bool y4, .bool y5, .int .i64 y6, .slice y7 y8 y9] tA)) := (Keeps.refl _ _).alloc _
  have b1 := (hk2.block w.heap.size (by simp) (by simp)).trans (heap_alloc_new w (.cells #[.int .i64 x0, .int .i64 x1, .int .u64 x2, .int .i64 x3, .bool x4, .bool x5, .int .i64 x6, .slice x7 x8 x9] tA))
  have b2 := heap_alloc_new (w.alloc (.cells #[.int .i64 x0, .int .i64 x1, .int .u64 x2, .int .i64 x3, .bool x4, .bool x5, .int .i64 x6, .slice x7 x8 x9] tA)) (.cells #[.int .i64 y0, .int .i64 y1, .int .u64 y2, .int .i64 y3, .bool y4, .bool y5, .int .i64 y6, .slice y7 y8 y9] tA)
  rw [show (w.alloc (.cells #[.int .i64 x0, .int .i64 x1, .int .u64 x2, .int .i64 x3, .bool x4, .bool x5, .int .i64 x6, .slice x7 x8 x9] tA)).heap.size = w.heap.size + 1 by simp] at b2
  have hgr : (w.alloc (.cells #[.int .i64 x0, .int .i64 x1, .int .u64 x2, .int .i64 x3, .bool x4, .bool x5, .int .i64 x6, .slice x7 x8 x9] tA)).alloc (.cells #[.int .i64 y0, .int .i64 y1, .int .u64 y2, .int .i64 y3, .bool y4, .bool y5, .int .i64 y6, .slice y7 y8 y9] tA) = grow w #[.cells #[.int .i64 x0, .int .i64 x1, .int .u64 x2, .int .i64 x3, .bool x4, .bool x5, .int .i64 x6, .slice x7 x8 x9] tA, .cells #[.int .i64 y0, .int .i64 y1, .int .u64 y2, .int .i64 y3, .bool y4, .bool y5, .int .i64 y6, .slice y7 y8 y9] tA] := by
    rw [alloc_eq_grow, alloc_eq_grow, grow_grow]; rfl
  replace hgr := Lib.hid hgr
  simp only [aV, AnV.v]
  go_enter Try.func81, Try.ntmps81
  go_wp2
  generalize (w.alloc (.cells #[.int .i64 x0, .int .i64 x1, .int .u64 x2, .int .i64 x3, .bool x4, .bool x5, .int .i64 x6, .slice x7 x8 x9] tA)).alloc (.cells #[.int .i64 y0, .int .i64 y1, .int .u64 y2, .int .i64 y3, .bool y4, .bool y5, .int .i64 y6, .slice y7 y8 y9] tA) = W at *
  obtain ⟨p0, p1, p2⟩ := cells8t b1
  obtain ⟨s0, s1, s2⟩ := cells8t b2
  clear b1 b2 hk2
  refine Free.wp_region_chain (fun i => i == 4 || i == 9 || i == 14 || i == 15 || i == 16) (fun i => true) (fun _ _ => False) (by kernel_rfl) (by kernel_rfl) (by kernel_rfl) ?_
  (repeat (first | (apply Free.cw_pure rfl rfl; (intro w'; go_simp <;> exact rfl); go_frame) | (apply Free.cw_steady rfl rfl rfl; (intro w' hS; have q0 := Free.sx_cell hS p0 (fun _ _ hT => hT); have q1 := Free.sx_cell hS p1 (fun _ _ hT => hT); have q2 := Free.sx_cell hS p2 (fun _ _ hT => hT); have q3 := Free.sx_cell hS s0 (fun _ _ hT => hT); have q4 := Free.sx_cell hS s1 (fun _ _ hT => hT); have q5 := Free.sx_cell hS s2 (fun _ _ hT => hT); go_simp <;> exact rfl); go_frame) | (refine Free.cw_skip rfl ?_; go_frame)))
  refine Free.cw_loud rfl rfl (fun K hK => ?_)
  go_wp2_with fail
  refine (compareI_c x0 y0 _).mono ?_
  rintro e _ ⟨rfl, rfl⟩
  refine hK _ _ rfl (Free.KeepsP.refl _ _) ?_
  clear hK K
  (repeat (first | (apply Free.cw_pure rfl rfl; (intro w'; go_simp <;> exact rfl); go_frame) | (apply Free.cw_steady rfl rfl rfl; (intro w' hS; have q0 := Free.sx_cell hS p0 (fun _ _ hT => hT); have q1 := Free.sx_cell hS p1 (fun _ _ hT => hT); have q2 := Free.sx_cell hS p2 (fun _ _ hT => hT); have q3 := Free.sx_cell hS s0 (fun _ _ hT => hT); have q4 := Free.sx_cell hS s1 (fun _ _ hT => hT); have q5 := Free.sx_cell hS s2 (fun _ _ hT => hT); go_simp <;> exact rfl); go_frame) | (refine Free.cw_skip rfl ?_; go_frame)))
  refine Free.cw_loud rfl rfl (fun K hK => ?_)
  go_wp2_with fail
  refine (compareI_c x1 y1 _).mono ?_
  rintro e _ ⟨rfl, rfl⟩
  refine hK _ _ rfl (Free.KeepsP.refl _ _) ?_
  clear hK K
  (repeat (first | (apply Free.cw_pure rfl rfl; (intro w'; go_simp <;> exact rfl); go_frame) | (apply Free.cw_steady rfl rfl rfl; (intro w' hS; have q0 := Free.sx_cell hS p0 (fun _ _ hT => hT); have q1 := Free.sx_cell hS p1 (fun _ _ hT => hT); have q2 := Free.sx_cell hS p2 (fun _ _ hT => hT); have q3 := Free.sx_cell hS s0 (fun _ _ hT => hT); have q4 := Free.sx_cell hS s1 (fun _ _ hT => hT); have q5 := Free.sx_cell hS s2 (fun _ _ hT => hT); go_simp <;> exact rfl); go_frame) | (refine Free.cw_skip rfl ?_; go_frame)))
  refine Free.cw_loud rfl rfl (fun K hK => ?_)
  go_wp2_with fail
  refine (compareU_c x2 y2 _).mono ?_
  rintro e _ ⟨rfl, rfl⟩
  refine hK _ _ rfl (Free.KeepsP.refl _ _) ?_
  clear hK K
  (repeat (apply Free.cw_pure rfl rfl; (intro w'; go_simp <;> exact rfl); go_frame))
  refine Free.cw_loud rfl rfl (fun K hK => ?_)
  go_wp2
  refine hK _ _ rfl (Free.KeepsP.alloc _ _ _) ?_
  clear hK K
  (repeat (apply Free.cw_pure rfl rfl; (intro w'; go_simp <;> exact rfl); go_frame))
  refine Free.cw_loud rfl rfl (fun K hK => ?_)
  go_wp2_with fail
  refine (or_c _ _ _ ((shZ_of3 W (cI x0 y0) (cI x1 y1) (cI x2 y2) 3).keeps ((Keeps.refl [] _).drew))).mono ?_
  rintro e _ ⟨rfl, rfl⟩
  refine hK _ _ rfl (Free.KeepsP.refl _ _) ?_
  clear hK K
  (repeat (apply Free.cw_pure rfl rfl; (intro w'; go_simp <;> exact rfl); go_frame))
  refine Free.cw_nil ?_
  go_wp2
  go_ret
  exact ⟨by rw [← hr.out]; rfl, 1, _, by rw [hgr.out, alloc_eq_grow, grow_grow]; rfl⟩
/-- The orders. -/
def qlt (x y : Qn) : Prop := x.1 < y.1 ∨ (x.1 = y.1 ∧ (x.2.1 < y.2.1 ∨ (x.2.1 = y.2.1 ∧ x.2.2 < y.2.2)))
instance : DecidableRel qlt := fun _ _ => inferInstanceAs (Decidable (_ ∨ _))
def tlt (x y : T3) : Prop := x.1 < y.1 ∨ (x.1 = y.1 ∧ x.2.1 < y.2.1)
instance : DecidableRel tlt := fun _ _ => inferInstanceAs (Decidable (_ ∨ _))
def AnV.q (x : AnV) : Qn := (x.m, x.ow, x.n)
theorem cI_lt (x y : Int) : cI x y < 0 ↔ x < y := by unfold cI; split <;> (try split) <;> omega
theorem cI_zero (x y : Int) : cI x y = 0 ↔ x = y := by unfold cI; split <;> (try split) <;> omega
theorem orL_lt (a : Int) (L : List Int) : orL (a :: L) < 0 ↔ a < 0 ∨ (a = 0 ∧ orL L < 0) := by
  rw [show orL (a :: L) = if a ≠ 0 then a else orL L from rfl]
  split
  · rename_i h; constructor
    · exact .inl
    · rintro (h1 | ⟨h1, _⟩)
      · exact h1
      · exact absurd h1 h
  · rename_i h
    have h0 : a = 0 := Classical.not_not.1 h
    constructor
    · exact fun h2 => .inr ⟨h0, h2⟩
    · rintro (h1 | ⟨_, h2⟩)
      · omega
      · exact h2
theorem ltA_iff (x y : AnV) : ltOf cfA x y = decide (qlt x.q y.q) := by
  unfold ltOf cfA
  rw [decide_eq_decide, orL_lt, orL_lt, orL_lt, cI_lt, cI_lt, cI_lt, cI_zero, cI_zero, cI_zero]
  simp only [orL, qlt, AnV.q]
  omega
theorem ltT_iff (x y : T3) : ltOf cfT x y = decide (tlt x y) := by
  unfold ltOf cfT
  rw [decide_eq_decide, orL_lt, orL_lt, cI_lt, cI_lt, cI_zero, cI_zero]
  simp only [orL, tlt]
  omega
theorem qlt_irrefl (x : Qn) : ¬ qlt x x := by unfold qlt; omega
theorem qlt_trans {x y z : Qn} : qlt x y → qlt y z → qlt x z := by unfold qlt; omega
theorem qlt_total {x y : Qn} : ¬ qlt x y → ¬ qlt y x → x = y := by
  obtain ⟨a, b, c⟩ := x
  obtain ⟨a', b', c'⟩ := y
  unfold qlt
  intro h1 h2
  simp only at h1 h2
  have : a = a' := by omega
  have : b = b' := by omega
  have : c = c' := by omega
  simp_all
theorem swoA : SWO (ltOf cfA) where
  irrefl x := by rw [ltA_iff]; simp [qlt_irrefl]
  trans x y z h1 h2 := by
    rw [ltA_iff] at *
    exact decide_eq_true (qlt_trans (of_decide_eq_true h1) (of_decide_eq_true h2))
  ntrans x y z h1 h2 := by
    rw [ltA_iff] at *
    have h1 := of_decide_eq_false h1
    have h2 := of_decide_eq_false h2
    refine decide_eq_false (fun h => ?_)
    unfold qlt at *
    omega
theorem swoT : SWO (ltOf cfT) where
  irrefl x := by rw [ltT_iff]; exact decide_eq_false (by unfold tlt; omega)
  trans x y z h1 h2 := by
    rw [ltT_iff] at *
    have h1 := of_decide_eq_true h1
    have h2 := of_decide_eq_true h2
    refine decide_eq_true ?_
    unfold tlt at *
    omega
  ntrans x y z h1 h2 := by
    rw [ltT_iff] at *
    have h1 := of_decide_eq_false h1
    have h2 := of_decide_eq_false h2
    refine decide_eq_false (fun h => ?_)
    unfold tlt at *
    omega
instance : Inhabited AnV := ⟨.zero⟩
/-- slices.SortFunc over answers. -/
theorem sortA_c (w : World) (B : Nat) (v : Value) (L : List AnV) (h : shA.O w B tA v L) (hl : L.length ≤ 1000000) :
    Calls Try.prog 80 #[v, .func (.func 81) #[] #[]] w fun e w' => e = .returned (.tuple #[]) ∧ ∃ L', L'.Perm L ∧ L'.Pairwise (fun x y => ¬ qlt y.q x.q) ∧ shA.O w' B tA v L' ∧ Keeps v.ownBlock.toList w w' := by
  obtain ⟨_, h2⟩ := id h
  rcases h2 with ⟨rfl, h0⟩ | ⟨g, cap, cur, rfl, hb, hg, _⟩
  · have hL : L = [] := by
      cases L with
      | nil => rfl
      | cons x t => simp [Sh.cs, shA, AnV.cs] at h0
    subst hL
    refine (AnyF.slices_SortFunc_none Try.sortAns none 0 (.func (.func 81) #[] #[]) w).mono ?_
    rintro e w' ⟨rfl, rfl⟩
    exact ⟨rfl, [], List.Perm.refl _, List.Pairwise.nil, h, Keeps.refl _ _⟩
  · have hgl : g < w.heap.size := (Array.getElem?_eq_some_iff.1 hg).1
    have eg : ∀ args w, (callFunc 81 args).run Try.prog w = .ok (.enter 81 args) w := enters_of Try.func81 (by kernel_rfl) rfl
    have hcmp : CmpLays Try.prog 81 #[] shA.cf 8 cfA g 0 L.toArray.size w := fun m os dk hs x y => cmpA_c x y _
    have hcon := AnyQ.slices_SortFunc Try.sortAns 8 (fun w => by kernel_rfl) (fun w => by kernel_rfl) shA.cf shA.len shA.one cfA swoA 81 #[] g 0 cap L.toArray w eg hcmp h.holds hgl (by simp; omega)
    simp only [List.size_toArray] at hcon
    refine hcon.mono ?_
    rintro e w' ⟨rfl, d', m, os, hp, hs, rfl⟩
    have hp' : PermIn 0 L.toArray.size L.toArray d' := by simpa using hp
    obtain ⟨hd, hpl⟩ := Sh.perm_of_permIn hp'
    have hd2 : d'.size = L.length := by simpa using hd
    rw [← hd2] at hs
    have hpw := Sh.pairwise_of_sortedIn hs
    obtain ⟨h3, h4⟩ := Sh.O.sorted (m := m) (os := os) h hd2
    exact ⟨rfl, d'.toList, by simpa using hpl, hpw.imp (fun h => by rw [ltA_iff] at h; exact of_decide_eq_false h), h3, h4⟩
/-- slices.SortFunc over needs. -/
theorem sortT_c (w : World) (B : Nat) (v : Value) (L : List T3) (h : shT.O w B tN v L) (hl : L.length ≤ 1000000000000) :
    Calls Try.prog 73 #[v, .func (.func 74) #[] #[]] w fun e w' => e = .returned (.tuple #[]) ∧ ∃ L', L'.Perm L ∧ L'.Pairwise (fun x y => ¬ tlt y x) ∧ shT.O w' B tN v L' ∧ Keeps v.ownBlock.toList w w' := by
  obtain ⟨_, h2⟩ := id h
  rcases h2 with ⟨rfl, h0⟩ | ⟨g, cap, cur, rfl, hb, hg, _⟩
  · have hL : L = [] := by
      cases L with
      | nil => rfl
      | cons x t => simp [Sh.cs, shT] at h0
    subst hL
    refine (AnyF.slices_SortFunc_none Try.sortNeed none 0 (.func (.func 74) #[] #[]) w).mono ?_
    rintro e w' ⟨rfl, rfl⟩
    exact ⟨rfl, [], List.Perm.refl _, List.Pairwise.nil, h, Keeps.refl _ _⟩
  · have hgl : g < w.heap.size := (Array.getElem?_eq_some_iff.1 hg).1
    have eg : ∀ args w, (callFunc 74 args).run Try.prog w = .ok (.enter 74 args) w := enters_of Try.func74 (by kernel_rfl) rfl
    have hcmp : CmpLays Try.prog 74 #[] shT.cf 3 cfT g 0 L.toArray.size w := fun m os dk hs x y => cmpT_c x y _
    have hcon := AnyQ.slices_SortFunc Try.sortNeed 3 (fun w => by kernel_rfl) (fun w => by kernel_rfl) shT.cf shT.len shT.one cfT swoT 74 #[] g 0 cap L.toArray w eg hcmp h.holds hgl (by simp; omega)
    simp only [List.size_toArray] at hcon
    refine hcon.mono ?_
    rintro e w' ⟨rfl, d', m, os, hp, hs, rfl⟩
    have hp' : PermIn 0 L.toArray.size L.toArray d' := by simpa using hp
    obtain ⟨hd, hpl⟩ := Sh.perm_of_permIn hp'
    have hd2 : d'.size = L.length := by simpa using hd
    rw [← hd2] at hs
    have hpw := Sh.pairwise_of_sortedIn hs
    obtain ⟨h3, h4⟩ := Sh.O.sorted (m := m) (os := os) h hd2
    exact ⟨rfl, d'.toList, by simpa using hpl, hpw.imp (fun h => by rw [ltT_iff] at h; exact of_decide_eq_false h), h3, h4⟩
end Go.Proofs.Ythfdngjbcgkkfaa

namespace Go.Proofs.Ythfdngjbcgkkfaa
open Go.RowKit

/-- An answer. -/
structure Ans where
  m : Int
  ow : Int
  n : Nat
  ep : Int
  kn : Bool
  rt : Bool
  lu : Int
  ins : List T3
  deriving DecidableEq
def Ans.q (x : Ans) : Qn := (x.m, x.ow, x.n)
def Ans.zero : Ans := ⟨0, 0, 0, 0, false, false, 0, []⟩
/-- The cells of an answer say this answer. -/
structure InA (w : World) (x : AnV) (y : Ans) : Prop where
  m : x.m = y.m
  ow : x.ow = y.ow
  n : x.n = y.n
  ep : x.ep = y.ep
  kn : x.kn = y.kn
  rt : x.rt = y.rt
  lu : x.lu = y.lu
  ins : InsO w x.v y.ins
theorem InA.ki {w w' : World} {x : AnV} {y : Ans} (h : InA w x y) (hk : KI w w') : InA w' x y := ⟨h.m, h.ow, h.n, h.ep, h.kn, h.rt, h.lu, h.ins.ki hk⟩
theorem InA.q {w : World} {x : AnV} {y : Ans} (h : InA w x y) : x.q = y.q := by unfold AnV.q Ans.q; rw [h.m, h.ow, h.n]
/-- The same of a list. -/
def LA (w : World) (X : List AnV) (Y : List Ans) : Prop := X.length = Y.length ∧ ∀ (k : Nat) (x : AnV) (y : Ans), X[k]? = some x → Y[k]? = some y → InA w x y
theorem LA.nil (w : World) : LA w [] [] := ⟨rfl, fun k x y h => by simp at h⟩
theorem LA.ki {w w' : World} {X : List AnV} {Y : List Ans} (h : LA w X Y) (hk : KI w w') : LA w' X Y := ⟨h.1, fun k x y h1 h2 => (h.2 k x y h1 h2).ki hk⟩
theorem LA.snoc {w : World} {X : List AnV} {Y : List Ans} {x : AnV} {y : Ans} (h : LA w X Y) (hx : InA w x y) : LA w (X ++ [x]) (Y ++ [y]) := by
  obtain ⟨h1, h2⟩ := h
  refine ⟨by simp [h1], fun k a b ha hb => ?_⟩
  rcases Nat.lt_trichotomy k X.length with hk | hk | hk
  · rw [List.getElem?_append_left hk] at ha
    rw [List.getElem?_append_left (by omega)] at hb
    exact h2 k a b ha hb
  · rw [List.getElem?_append_right (by omega)] at ha
    rw [List.getElem?_append_right (by omega)] at hb
    rw [show k - X.length = 0 by omega] at ha
    rw [show k - Y.length = 0 by omega] at hb
    simp at ha hb
    subst ha hb
    exact hx
  · rw [List.getElem?_append_right (by omega), List.getElem?_eq_none (by simp; omega)] at ha
    cases ha
theorem LA.get {w : World} {X : List AnV} {Y : List Ans} (h : LA w X Y) {k : Nat} (hk : k < Y.length) : ∃ hx : k < X.length, InA w X[k] Y[k] :=
  ⟨by rw [h.1]; exact hk, h.2 k _ _ (List.getElem?_eq_getElem _) (List.getElem?_eq_getElem _)⟩
/-- A trace. -/
structure Tr where
  im : Int
  is : Int
  st : T3
  qs : List (Qn × Option Ans)
  told : Int
  hist : List Ans
  state : Int
  ag : List Int
  rf : Bool
def Tr.op (t : Tr) : List Qn := t.qs.map (·.1)
def recOf (qs : List (Qn × Option Ans)) : List (Qn × Ans) := qs.filterMap (fun p => p.2.map (fun a => (p.1, a)))
def Tr.rec' (t : Tr) : List (Qn × Ans) := recOf t.qs
/-- The entries of the map of the answers. -/
def LR (w : World) (R : List (Qn × AnV)) (Y : List (Qn × Ans)) : Prop :=
  R.length = Y.length ∧ ∀ q, (MapS.get q R = none ∧ MapS.get q Y = none) ∨ ∃ x y, MapS.get q R = some x ∧ MapS.get q Y = some y ∧ InA w x y
theorem LR.ki {w w' : World} {R : List (Qn × AnV)} {Y : List (Qn × Ans)} (h : LR w R Y) (hk : KI w w') : LR w' R Y :=
  ⟨h.1, fun q => (h.2 q).imp id (fun ⟨x, y, h1, h2, h3⟩ => ⟨x, y, h1, h2, h3.ki hk⟩)⟩
/-- Numbers that fit. -/
structure Ans.Ok (a : Ans) : Prop where
  q : qOk a.q
  ep : W64 a.ep
  lu : W64 a.lu
  ins : ∀ x ∈ a.ins, W64 x.1 ∧ x.2.1 < 18446744073709551616 ∧ W64 x.2.2
  len : a.ins.length ≤ 100000
structure Tr.Inv (t : Tr) : Prop where
  ok : ∀ q ∈ t.op, qOk q
  nd : t.op.Nodup
  rq : ∀ p ∈ t.rec', p.2.q = p.1
  rk : ∀ p ∈ t.rec', p.2.kn = true
  hi : ∀ a ∈ t.hist, a.Ok
  ro : ∀ p ∈ t.rec', p.2.Ok
structure TrM (w : World) (B bt bm : Nat) (vo vh vg : Value) (t : Tr) : Prop where
  blk : w.heap[bt]? = some (.cells #[.int .i64 t.im, .int .i64 t.is, .int .i64 t.st.1, .int .u64 t.st.2.1, .int .i64 t.st.2.2, vo, .int .i64 t.told, .map (some bm), vh, .int .i64 t.state, vg, .bool t.rf] tT (0, 0))
  op : shQ.O w B tQ vo t.op
  hi : ∃ X, shA.O w B tA vh X ∧ LA w X t.hist
  ag : shZ.O w B 3 vg t.ag
  mp : ∃ R, MapS.M ktQ aV w bm R ∧ LR w R t.rec'
  inv : t.Inv
  bB : B ≤ bt ∧ B ≤ bm
/-- The blocks that a trace writes. -/
def ownT (bt bm : Nat) (vo vh vg : Value) : List Nat := bt :: bm :: (vo.ownBlock.toList ++ vh.ownBlock.toList ++ vg.ownBlock.toList)
theorem Sh.O.tag {α : Type} {s : Sh α} {w : World} {B e : Nat} {v : Value} {L : List α} (h : s.O w B e v L) : ∀ b, v.ownBlock = some b → ∃ (cs : Array Value), w.heap[b]? = some (Obj.cells cs e (0, 0)) := fun b hb => by
  rcases h.2 with ⟨rfl, _⟩ | ⟨g, cap, cur, rfl, _, hg, _⟩
  · simp [Value.ownBlock] at hb
  · simp [Value.ownBlock] at hb; subst hb; exact ⟨_, hg⟩
/-- Blocks of different types are different. -/
theorem tag_ne {w : World} {b b' : Nat} {cs cs' : Array Value} {t t' : TypeId} {f f' : Nat × Nat} (h : w.heap[b]? = some (.cells cs t f)) (h' : w.heap[b']? = some (.cells cs' t' f')) (hne : t ≠ t') : b ≠ b' := fun e => by
  subst e; rw [h] at h'; cases h'; exact hne rfl
theorem mem_ownT {bt bm : Nat} {vo vh vg : Value} {b : Nat} : b ∈ ownT bt bm vo vh vg ↔ b = bt ∨ b = bm ∨ vo.ownBlock = some b ∨ vh.ownBlock = some b ∨ vg.ownBlock = some b := by
  simp [ownT, or_assoc]
theorem MapS.M.isMap {P : Program} {kt : TypeId} {κ : Type} [DecidableEq κ] {α : Type} {K : MapS.KT P kt κ} {vf : α → Value} {w : World} {b : Nat} {L : List (κ × α)} (h : MapS.M K vf w b L) : ∃ es c, w.heap[b]? = some (Obj.map es c) := by
  obtain ⟨⟨D, ⟨es, c, hb, _⟩, _⟩, _⟩ := h
  exact ⟨es, c, hb⟩
namespace TrM
variable {w w' : World} {B bt bm : Nat} {vo vh vg : Value} {t : Tr}
theorem cells (h : TrM w B bt bm vo vh vg t) : w.cell? ⟨bt, 0, none⟩ = some (.int .i64 t.im) ∧ w.cell? ⟨bt, 1, none⟩ = some (.int .i64 t.is) ∧ w.cell? ⟨bt, 2, none⟩ = some (.int .i64 t.st.1) ∧ w.cell? ⟨bt, 3, none⟩ = some (.int .u64 t.st.2.1) ∧ w.cell? ⟨bt, 4, none⟩ = some (.int .i64 t.st.2.2) ∧
    w.cell? ⟨bt, 5, none⟩ = some vo ∧ w.cell? ⟨bt, 6, none⟩ = some (.int .i64 t.told) ∧ w.cell? ⟨bt, 7, none⟩ = some (.map (some bm)) ∧ w.cell? ⟨bt, 8, none⟩ = some vh ∧ w.cell? ⟨bt, 9, none⟩ = some (.int .i64 t.state) ∧ w.cell? ⟨bt, 10, none⟩ = some vg ∧ w.cell? ⟨bt, 11, none⟩ = some (.bool t.rf) := by
  have h1 := h.blk
  refine ⟨?_, ?_, ?_, ?_, ?_, ?_, ?_, ?_, ?_, ?_, ?_, ?_⟩ <;> simp [World.cell?, h1]
theorem free (h : TrM w B bt bm vo vh vg t) (o : Nat) : w.frozen? ⟨bt, o, none⟩ = false := by simp [World.frozen?, h.blk]
theorem lt (h : TrM w B bt bm vo vh vg t) : bt < w.heap.size ∧ bm < w.heap.size := by
  obtain ⟨R, hR, _⟩ := h.mp
  exact ⟨lt_of_blk h.blk, MapS.M.lt ktQ hR⟩
/-- What a block of a trace's own holds. -/
theorem own_tag (h : TrM w B bt bm vo vh vg t) {b : Nat} (hb : b ∈ ownT bt bm vo vh vg) : B ≤ b ∧ b < w.heap.size ∧ ((∃ es c, w.heap[b]? = some (Obj.map es c)) ∨ ∃ (cs : Array Value) (e : TypeId), w.heap[b]? = some (Obj.cells cs e (0, 0)) ∧ (e = tT ∨ e = tQ ∨ e = tA ∨ e = 3)) := by
  obtain ⟨R, hR, _⟩ := h.mp
  obtain ⟨X, hX, _⟩ := h.hi
  rcases mem_ownT.1 hb with rfl | rfl | hb | hb | hb
  · exact ⟨h.bB.1, h.lt.1, .inr ⟨_, _, h.blk, .inl rfl⟩⟩
  · exact ⟨h.bB.2, h.lt.2, .inl hR.isMap⟩
  · obtain ⟨cs, hc⟩ := h.op.tag b hb
    exact ⟨h.op.ge b hb, h.op.lt b hb, .inr ⟨_, _, hc, .inr (.inl rfl)⟩⟩
  · obtain ⟨cs, hc⟩ := hX.tag b hb
    exact ⟨hX.ge b hb, hX.lt b hb, .inr ⟨_, _, hc, .inr (.inr (.inl rfl))⟩⟩
  · obtain ⟨cs, hc⟩ := h.ag.tag b hb
    exact ⟨h.ag.ge b hb, h.ag.lt b hb, .inr ⟨_, _, hc, .inr (.inr (.inr rfl))⟩⟩
theorem notI (h : TrM w B bt bm vo vh vg t) {b : Nat} (hb : b ∈ ownT bt bm vo vh vg) : ∀ (cs : Array Value) (f : Nat × Nat), w.heap[b]? ≠ some (Obj.cells cs tI f) := fun cs f e => by
  obtain ⟨_, _, ⟨es, c, h1⟩ | ⟨cs', e', h1, h2⟩⟩ := h.own_tag hb
  · rw [h1] at e; cases e
  · rw [h1] at e
    cases e
    rcases h2 with h2 | h2 | h2 | h2 <;> exact absurd h2 (by decide)
/-- What touches other blocks leaves a trace as it is. -/
theorem keep {S : List Nat} (h : TrM w B bt bm vo vh vg t) (hk : Keeps S w w') (hS : ∀ b ∈ ownT bt bm vo vh vg, b ∉ S) (hi : KI w w') : TrM w' B bt bm vo vh vg t := by
  obtain ⟨X, hX, hXL⟩ := h.hi
  obtain ⟨R, hR, hRL⟩ := h.mp
  exact ⟨(hk.block bt h.lt.1 (hS bt (mem_ownT.2 (.inl rfl)))).trans h.blk, h.op.keepS hk (fun b hb e => hS b (mem_ownT.2 (.inr (.inr (.inl e)))) hb), ⟨X, hX.keepS hk (fun b hb e => hS b (mem_ownT.2 (.inr (.inr (.inr (.inl e))))) hb), hXL.ki hi⟩,
    h.ag.keepS hk (fun b hb e => hS b (mem_ownT.2 (.inr (.inr (.inr (.inr e))))) hb), ⟨R, hR.kept ktQ hk (hS bm (mem_ownT.2 (.inr (.inl rfl)))), hRL.ki hi⟩, h.inv, h.bB⟩
theorem keeps (h : TrM w B bt bm vo vh vg t) (hk : Keeps [] w w') : TrM w' B bt bm vo vh vg t := h.keep hk (by simp) hk.ki0
end TrM
end Go.Proofs.Ythfdngjbcgkkfaa

namespace Go.Proofs.Ythfdngjbcgkkfaa
open Go.RowKit Go.ChangeShapes

/-- The integer that a number on the wire stands for. -/
def uzig (n : Nat) : Int := if n % 2 = 0 then ((n / 2 : Nat) : Int) else -((n / 2 : Nat) : Int) - 1
theorem uzig_zig (n : Int) : uzig (zig n) = n := by unfold uzig zig; split <;> split <;> omega
theorem uzig_fit {n : Nat} (h : n < 18446744073709551616) : W64 (uzig n) := by
  unfold uzig
  split <;> exact w64_iff.2 ⟨by omega, by omega⟩
def rI (s : RS) : Int × RS := (uzig (rU s).1, (rU s).2)
theorem rU_lt (s : RS) : (rU s).1 < 18446744073709551616 := by
  unfold rU
  split
  · split
    · rename_i x r h; exact readU_lt h
    · show (0 : Nat) < _; decide
  · show (0 : Nat) < _; decide
theorem rI_fit (s : RS) : W64 (rI s).1 := uzig_fit (rU_lt s)
theorem xor_zero (k : Nat) (hk : k < 9223372036854775808) : bits .xor .i64 (k : Int) 0 = k := by
  show IntKind.i64.wrap ((BitVec.ofInt 64 (k : Int) ^^^ BitVec.ofInt 64 0).toNat : Int) = _
  have h2 : (BitVec.ofInt 64 (k : Int)).toNat = k := by
    rw [BitVec.ofInt_natCast, BitVec.toNat_ofNat]; exact Nat.mod_eq_of_lt (by omega)
  have h3 : (BitVec.ofInt 64 0).toNat = 0 := by decide
  rw [BitVec.toNat_xor, h2, h3, Nat.xor_zero, IntKind.wrap_i64]
  omega
theorem xor_ones (k : Nat) (hk : k < 9223372036854775808) : bits .xor .i64 (k : Int) (-1) = -(k : Int) - 1 := by
  have h := Go.Lib.i64_not k hk
  rw [← h]
  simp only [bits, BitVec.xor_comm]
set_option maxRecDepth 100000 in
set_option maxHeartbeats 2000000 in
theorem intS_c (w : World) (br : Nat) (s : RS) (h : RdS w br s) :
    Calls Try.prog 62 #[.pointer (some ⟨br, 0, none⟩)] w fun en w' => en = .returned (.int .i64 (rI s).1) ∧ RdS w' br (rI s).2 ∧ Keeps [br] w w' := by
  have hc := uintS_c w br s h
  have hx := rU_lt s
  unfold rI
  simp only
  generalize (rU s).1 = n at *
  generalize (rU s).2 = s2 at *
  replace hc := Lib.hid hc
  clear h
  by_cases h0 : n % 2 = 0
  · obtain ⟨k, rfl⟩ : ∃ k, n = 2 * k := ⟨n / 2, by omega⟩
    have hu : uzig (2 * k) = k := by unfold uzig; rw [if_pos h0]; omega
    have hb : bits .and .u64 (2 * (k : Int)) 1 = 0 := by rw [Go.Lib.u64_and1 _ (by omega) (by omega)]; omega
    have hb2 : bits .xor .i64 (k : Int) 0 = k := xor_zero k (by omega)
    rw [hu]
    go_enter Try.func62, Try.ntmps62
    go_wp2_with fail
    refine hc.out.mono ?_
    rintro e w' ⟨rfl, hR, hk⟩
    replace hR := Lib.hid hR
    replace hk := Lib.hid hk
    go_wp2
    go_ret
    exact ⟨rfl, hR.out, hk.out⟩
  · obtain ⟨k, rfl⟩ : ∃ k, n = 2 * k + 1 := ⟨n / 2, by omega⟩
    have hu : uzig (2 * k + 1) = -(k : Int) - 1 := by unfold uzig; rw [if_neg h0]; omega
    have hb : bits .and .u64 (2 * (k : Int) + 1) 1 = 1 := by rw [Go.Lib.u64_and1 _ (by omega) (by omega)]; omega
    have hb2 : bits .xor .i64 ((2 * (k : Int) + 1) / 2) (-1) = -(k : Int) - 1 := by
      rw [show (2 * (k : Int) + 1) / 2 = k by omega]
      exact xor_ones k (by omega)
    rw [hu]
    go_enter Try.func62, Try.ntmps62
    go_wp2_with fail
    refine hc.out.mono ?_
    rintro e w' ⟨rfl, hR, hk⟩
    replace hR := Lib.hid hR
    replace hk := Lib.hid hk
    go_wp2
    go_ret
    exact ⟨rfl, hR.out, hk.out⟩
def rCS (K : Nat) (s : RS) : Nat × RS := if s.2 = 0 then rCK K s.1 else (0, s)
theorem rCS_le (K : Nat) (s : RS) : (rCS K s).1 ≤ K := by
  unfold rCS
  split
  · exact rCK_le K s.1
  · simp
set_option maxRecDepth 100000 in
set_option maxHeartbeats 2000000 in
theorem countG_err (K : Nat) (w : World) (br : Nat) (v : Value) (l : List UInt8) (e : Int) (h : Rd w br v l e) (he : e ≠ 0) :
    Calls Try.prog 64 #[.pointer (some ⟨br, 0, none⟩), .int .i64 (K : Nat)] w fun en w' => en = .returned (.int .i64 0) ∧ Keeps [] w w' := by
  have hlt := (cell2_of h.1).2.2.2.2
  have hne : ¬ w.heap.size = br := by omega
  have hne2 : ¬ w.heap.size + 1 = br := by omega
  have he2 : (e == 0) = false := by simp [he]
  obtain ⟨a0, cp0, rfl⟩ := h.2.form
  have hkA : Keeps [] w ((w.alloc (.cells #[.pointer (some ⟨br, 0, none⟩)] 113)).alloc (.cells #[.int .i64 (K : Nat)] 3)) := ((Keeps.refl [] w).alloc _).alloc _
  have hx1 := heap_alloc_new w (.cells #[.pointer (some ⟨br, 0, none⟩)] 113)
  have hx2 := (((Keeps.refl [] (w.alloc (.cells #[.pointer (some ⟨br, 0, none⟩)] 113))).alloc (.cells #[.int .i64 (K : Nat)] 3)).block _ (lt_of_block hx1) (by simp)).trans hx1
  have hRA := h.keeps hkA
  replace hRA := Lib.hid hRA
  replace hkA := Lib.hid hkA
  replace he := Lib.hid he
  clear h hx1
  go_enter Try.func64, Try.ntmps64
  go_wp2_with fail
  refine (uint_err _ br _ l e hRA.out he.out).mono ?_
  rintro en w1 ⟨rfl, hk1⟩
  have hR1 := hRA.out.keeps hk1
  have hx3 := (hk1.block _ (lt_of_block hx2) (by simp)).trans hx2
  obtain ⟨z0, zf, zlt⟩ := cell1_of hx3
  have hk01 := Lib.hid (hkA.out.trans hk1)
  obtain ⟨c0, c1, f0, f1, hlt1⟩ := cell2_of hR1.1
  have hkB : Keeps [] w1 (w1.alloc (.cells #[.int .u64 0] 24)) := (Keeps.refl [] w1).alloc _
  have hne3 : ¬ w1.heap.size = br := by omega
  have hne4 : ¬ w1.heap.size = w.heap.size := by omega
  replace hkB := Lib.hid hkB
  clear hk1 hx2 hx3 hR1 hRA
  go_wp2_with (first | go_in)
  go_ret
  exact ⟨rfl, hk01.out.trans hkB.out⟩
theorem countS_c (K : Nat) (hK : K ≤ 1099511627776) (w : World) (br : Nat) (s : RS) (h : RdS w br s) :
    Calls Try.prog 64 #[.pointer (some ⟨br, 0, none⟩), .int .i64 (K : Nat)] w fun en w' => en = .returned (.int .i64 (rCS K s).1) ∧ RdS w' br (rCS K s).2 ∧ Keeps [br] w w' := by
  obtain ⟨l, e⟩ := s
  by_cases he : e = 0
  · subst he
    rw [show rCS K (l, 0) = rCK K l from if_pos rfl]
    exact countG_c K hK w br l h
  · obtain ⟨v, h⟩ := h
    rw [show rCS K (l, e) = (0, (l, e)) from if_neg he]
    exact (countG_err K w br v l e h he).mono fun en w' ⟨h1, h2⟩ => ⟨h1, ⟨v, h.keeps h2⟩, h2.of_nil⟩
set_option maxRecDepth 100000 in
set_option maxHeartbeats 1000000 in
theorem beq_c (w : World) (va vb : Value) (l m : List UInt8) (ha : SlB w va l) (hb : SlB w vb m) :
    Calls Try.prog 67 #[va, vb] w fun e w' => e = .returned (.bool (decide (l = m))) ∧ w = w' := by
  have h1 := run_str ha
  have h2 := run_str hb
  obtain ⟨a0, c0, rfl⟩ := ha.form
  obtain ⟨a1, c1, rfl⟩ := hb.form
  clear ha hb
  generalize hx : str l = x at *
  generalize hy : str m = y at *
  replace hx := Lib.hid hx
  replace hy := Lib.hid hy
  go_enter Try.func67, Try.ntmps67
  go_wp2
  go_ret
  refine ⟨?_, rfl⟩
  show Ending.returned (Value.bool (x.toList == y.toList)) = _
  rw [← hx.out, ← hy.out]
  have : (l == m) = decide (l = m) := by rw [Bool.eq_iff_iff]; simp
  simp [str, this]
end Go.Proofs.Ythfdngjbcgkkfaa

namespace Go.Proofs.Ythfdngjbcgkkfaa
open Go.RowKit Go.ChangeShapes

def encX (x : T3) : List UInt8 := encI x.1 ++ encU x.2.1 ++ encI x.2.2
def encA0 (a : Ans) : List UInt8 := encI a.m ++ encI a.ow ++ encU a.n ++ encI a.ep ++ encB a.kn ++ encB a.rt ++ encI a.lu ++ encU a.ins.length
def encXs (L : List T3) : List UInt8 := (L.map encX).flatten
def encA (a : Ans) : List UInt8 := encA0 a ++ encXs a.ins
def encH (L : List Ans) : List UInt8 := (L.map encA).flatten
def encT0 (t : Tr) : List UInt8 := encI t.im ++ encI t.is ++ encI t.st.1 ++ encU t.st.2.1 ++ encI t.st.2.2 ++ encU t.told.toNat ++ encU t.hist.length
def encT (t : Tr) : List UInt8 := encT0 t ++ encH t.hist ++ encU t.ag.length ++ encB t.rf
theorem encXs_take (L : List T3) (k : Nat) (hk : k < L.length) : encXs (L.take (k + 1)) = encXs (L.take k) ++ encX L[k] := by
  unfold encXs
  rw [List.take_succ_eq_append_getElem hk, List.map_append, List.flatten_append]
  simp
theorem encH_take (L : List Ans) (k : Nat) (hk : k < L.length) : encH (L.take (k + 1)) = encH (L.take k) ++ encA L[k] := by
  unfold encH
  rw [List.take_succ_eq_append_getElem hk, List.map_append, List.flatten_append]
  simp
/-- Numbers that fit. -/
structure InsFit (x : T3) : Prop where
  a : W64 x.1
  n : x.2.1 < 18446744073709551616
  c : W64 x.2.2
theorem encX_len {x : T3} (h : InsFit x) : (encX x).length ≤ 27 := by
  have h1 := encI_len h.a
  have h2 := encU_len h.n
  have h3 := encI_len h.c
  simp only [encX, List.length_append]
  omega
theorem encXs_len : ∀ {L : List T3}, (∀ x ∈ L, InsFit x) → (encXs L).length ≤ 27 * L.length
  | [], _ => by simp [encXs]
  | x :: L, h => by
    have h1 := encX_len (h x (by simp))
    have h2 := encXs_len (L := L) (fun y hy => h y (by simp [hy]))
    simp only [encXs, List.map_cons, List.flatten_cons, List.length_append, List.length_cons] at h2 ⊢
    omega
theorem Ans.Ok.fitI {a : Ans} (h : a.Ok) : ∀ x ∈ a.ins, InsFit x := fun x hx => ⟨(h.ins x hx).1, (h.ins x hx).2.1, (h.ins x hx).2.2⟩
theorem encA0_len {a : Ans} (h : a.Ok) : (encA0 a).length ≤ 56 := by
  have h1 := encI_len h.q.1
  have h2 := encI_len h.q.2.1
  have h3 := encU_len h.q.2.2
  have h4 := encI_len h.ep
  have h5 := encI_len h.lu
  have h6 := encU_len (n := a.ins.length) (by have := h.len; omega)
  simp only [encA0, encB, List.length_append, List.length_cons, List.length_nil, Ans.q] at h1 h2 h3 ⊢
  omega
theorem encA_len {a : Ans} (h : a.Ok) (hi : a.ins.length ≤ 1000) : (encA a).length ≤ 27100 := by
  have h1 := encA0_len h
  have h2 := encXs_len h.fitI
  simp only [encA, List.length_append]
  omega
theorem encH_len : ∀ {L : List Ans}, (∀ a ∈ L, a.Ok ∧ a.ins.length ≤ 1000) → (encH L).length ≤ 27100 * L.length
  | [], _ => by simp [encH]
  | a :: L, h => by
    have h1 := encA_len (h a (by simp)).1 (h a (by simp)).2
    have h2 := encH_len (L := L) (fun y hy => h y (by simp [hy]))
    simp only [encH, List.map_cons, List.flatten_cons, List.length_append, List.length_cons] at h2 ⊢
    omega
/-- The trace's own numbers fit. -/
structure Tr.Num (t : Tr) : Prop where
  im : W64 t.im
  is : W64 t.is
  s0 : W64 t.st.1
  s1 : t.st.2.1 < 18446744073709551616
  s2 : W64 t.st.2.2
theorem EB.kp {w0 w w' : World} {bb : Nat} {l l' : List UInt8} (h : EB w0 w bb l) (k : EB w0 w' bb l') (hs : w.heap.size ≤ w'.heap.size) : Free.KeepsP (fun b => w0.heap.size ≤ b) w w' :=
  ⟨k.k.os.trans h.k.os.symm, k.k.tape.trans h.k.tape.symm, k.k.output.trans h.k.output.symm, hs, fun b _ hn => (k.k.block b (by omega) (by simp)).trans (h.k.block b (by omega) (by simp)).symm⟩
theorem csZ : ∀ zs : List Int, shZ.cs zs = zs.map (.int .i64)
  | [] => rfl
  | z :: zs => by
    show shZ.cf z ++ shZ.cs zs = _
    rw [csZ zs]
    rfl
theorem made_ints (w : World) (zs : List Int) (xs : Array Value) (n : Nat) (hx : xs.toList = zs.map (.int .i64)) (hn : zs.length = n) (hm : n ≤ 1000) : ∀ w', KB8 (w.alloc (.cells xs 3)) w' → shZ.R w' (.slice (some ⟨w.heap.size, 0, none⟩) n n) zs := fun w' hk => by
  subst hn
  have hn := heap_alloc_new w (.cells xs 3)
  have hb := hk.b _ _ _ _ hn (by decide) (by decide)
  have hR := Sh.R.made shZ w zs xs 3 (by rw [hx, csZ]) (by unfold maxLen; omega) zs.length rfl
  obtain ⟨h1, a, c, e, h2, h3, h4, h5⟩ := hR
  cases e
  refine ⟨h1, _, _, rfl, h2, h3, h4, fun hp => ?_⟩
  obtain ⟨g, o, e, hc⟩ := h5 hp
  cases e
  exact ⟨_, _, rfl, fun j u hj => (World.cell?_of_block (w := w.alloc (.cells xs 3)) (a := ⟨w.heap.size, 0 + j, none⟩) (by rw [hb, hn])).trans (hc j u hj)⟩
theorem EB.open {w0 w : World} {bb : Nat} {l : List UInt8} (h : EB w0 w bb l) : ∃ a N c, w.heap[bb]? = some (.cells #[.slice a N c] tBs (0, 0)) ∧ Buf w w0.heap.size (.slice a N c) l := by
  obtain ⟨v, h1, h2⟩ := h.v
  obtain ⟨a, c, rfl⟩ := h2.form
  exact ⟨a, _, c, h1, h2⟩
/-- What a call that appends and the store of its result leave. -/
def EPost (w0 w : World) (bb : Nat) (v : Value) (l : List UInt8) (e : Ending) (w2 : World) : Prop :=
  ∃ a N c, e = .returned (.slice a N c) ∧ Hid (w2.heap[bb]? = some (.cells #[v] tBs (0, 0))) ∧ Hid (EB w0 (w2.setCell ⟨bb, 0, none⟩ (.slice a N c)) bb l) ∧ Hid (KB8 w (w2.setCell ⟨bb, 0, none⟩ (.slice a N c))) ∧
    Hid ((w2.setCell ⟨bb, 0, none⟩ (.slice a N c)).heap[bb]? = some (.cells #[.slice a N c] tBs (0, 0))) ∧ Hid (Buf (w2.setCell ⟨bb, 0, none⟩ (.slice a N c)) w0.heap.size (.slice a N c) l) ∧ Hid (Free.KeepsP (fun b => v.ownBlock = some b ∨ w.heap.size ≤ b) w w2)
theorem EB.post {w0 w w2 : World} {bb : Nat} {l l' : List UInt8} {v v' : Value} (hE : EB w0 w bb l) (hbb : w.heap[bb]? = some (.cells #[v] tBs (0, 0))) (hB : Buf w w0.heap.size v l) (hB2 : Buf w2 w0.heap.size v' l') (hG : Grw w w2 v v') : EPost w0 w bb v l' (.returned v') w2 := by
  obtain ⟨a, c, hv⟩ := hB2.form
  subst hv
  obtain ⟨p1, p2, p3, p4⟩ := hE.put (Keeps.refl _ _) hbb hB hG hB2
  have p5 : (w2.setCell ⟨bb, 0, none⟩ (.slice a l'.length c)).heap[bb]? = some (.cells #[.slice a l'.length c] tBs (0, 0)) := by
    have e := setCz p4 0 (.slice a l'.length c)
    simpa using e
  obtain ⟨v3, q1, q2⟩ := p1.v
  have e3 : v3 = .slice a l'.length c := by rw [p5] at q1; cases q1; rfl
  subst e3
  exact ⟨a, _, c, rfl, Lib.hid p4, Lib.hid p1, Lib.hid p2, Lib.hid p5, Lib.hid q2, Lib.hid (Free.KeepsP.of hG.keepsO (fun b hb => .inl (by simpa using hb)))⟩
theorem EB.call {f : Nat} {args : Array Value} {w0 w : World} {bb : Nat} {l x : List UInt8} {v : Value} (hE : EB w0 w bb l) (hbb : w.heap[bb]? = some (.cells #[v] tBs (0, 0))) (hB : Buf w w0.heap.size v l)
    (hc : Calls Try.prog f args w fun e w' => ∃ v', e = .returned v' ∧ Buf w' w0.heap.size v' (l ++ x) ∧ Grw w w' v v') : Calls Try.prog f args w (EPost w0 w bb v (l ++ x)) :=
  hc.mono fun e w2 ⟨v', he, hB2, hG⟩ => by subst he; exact hE.post hbb hB hB2 hG
theorem EPost.low {w0 w : World} {bb : Nat} {v : Value} {l l' : List UInt8} (hB : Buf w w0.heap.size v l) (hE : EB w0 w bb l') : ∀ b, v.ownBlock = some b ∨ w.heap.size ≤ b → w0.heap.size ≤ b := fun b hb => by
  rcases hb with h | h
  · exact (hB.tagB h).1
  · exact Nat.le_trans hE.k.size h
end Go.Proofs.Ythfdngjbcgkkfaa

namespace Go.Proofs.Ythfdngjbcgkkfaa
open Go.RowKit

def Tr.new (im is : Int) (st : T3) : Tr := ⟨im, is, st, [((im, st.1, st.2.1), none)], 0, [], 0, [], false⟩
abbrev idV (a b : Int) : Value := .agg #[.int .i64 a, .int .i64 b]
theorem Sh.O.one {α : Type} (s : Sh α) (w : World) (x : α) (xs : Array Value) (e B : Nat) (hx : xs.toList = s.cf x) (hB : B ≤ w.heap.size) : s.O (w.alloc (.cells xs e)) B e (.slice (some ⟨w.heap.size, 0, none⟩) 1 1) [x] := by
  have hl : xs.size = s.sz := by rw [← Array.length_toList, hx]; exact s.len x
  refine ⟨by simp [Sh.cs, s.len], .inr ⟨w.heap.size, 1, xs, rfl, hB, heap_alloc_new w _, Nat.le_refl _, by simp [maxLen], by simpa using hl, ?_⟩⟩
  rw [List.take_of_length_le (by simp [hl]), hx]
  simp [Sh.cs]
set_option maxRecDepth 100000 in
set_option maxHeartbeats 2000000 in
theorem new_c (w : World) (im is : Int) (st : T3) (h1 : W64 im) (h2 : W64 st.1) (h3 : st.2.1 < 18446744073709551616) :
    Calls Try.prog 18 #[idV im is, tV st] w fun e w' => ∃ bt bm vo, e = .returned (.pointer (some ⟨bt, 0, none⟩)) ∧ TrM w' w.heap.size bt bm vo (.slice none 0 0) (.slice none 0 0) (Tr.new im is st) ∧ Keeps [] w w' := by
  obtain ⟨s0, s1, s2⟩ := st
  simp only at h2 h3
  have hmm := @run_makeMap Try.prog
  go_enter Try.func18, Try.ntmps18
  go_wp2
  go_ret
  obtain ⟨w1, hw1⟩ : ∃ w1, (w.alloc (.cells #[.int .i64 im, .int .i64 is] 23)).alloc (.cells #[.int .i64 s0, .int .u64 s1, .int .i64 s2] tN) = w1 := ⟨_, rfl⟩
  have hk1 : Keeps [] w w1 := by rw [← hw1]; exact ((Keeps.refl _ _).alloc _).alloc _
  have hz1 : w1.heap.size = w.heap.size + 1 + 1 := by rw [← hw1]; simp
  rw [hw1, ← hz1]
  have hO := Sh.O.one shQ w1 (im, s0, s1) #[.int .i64 im, .int .i64 s0, .int .u64 s1] tQ w.heap.size rfl (by omega)
  have hk2 := hk1.alloc (.cells #[.int .i64 im, .int .i64 s0, .int .u64 s1] tQ)
  obtain ⟨w2, hw2⟩ : ∃ w2, w1.alloc (.cells #[.int .i64 im, .int .i64 s0, .int .u64 s1] tQ) = w2 := ⟨_, rfl⟩
  have hz2 : w2.heap.size = w1.heap.size + 1 := by rw [← hw2]; simp
  rw [hw2] at hO hk2 ⊢
  rw [← hz2]
  have hM := MapS.M.made ktQ (vf := aV) w2
  have hkM : Keeps [] w2 (w2.alloc (.map #[] 0)) := (Keeps.refl _ _).alloc _
  obtain ⟨w3, hw3⟩ : ∃ w3, w2.alloc (.map #[] 0) = w3 := ⟨_, rfl⟩
  have hz3 : w3.heap.size = w2.heap.size + 1 := by rw [← hw3]; simp
  rw [hw3] at hM hkM ⊢
  rw [← hz3]
  refine ⟨w3.heap.size, w2.heap.size, .slice (some ⟨w1.heap.size, 0, none⟩) 1 1, rfl, ?_, (hk2.trans hkM).alloc _⟩
  have hk4 : Keeps [] w3 (w3.alloc (.cells #[.int .i64 im, .int .i64 is, .int .i64 s0, .int .u64 s1, .int .i64 s2, .slice (some ⟨w1.heap.size, 0, none⟩) 1 1, .int .i64 0, .map (some w2.heap.size), .slice none 0 0, .int .i64 0, .slice none 0 0, .bool false] tT)) := (Keeps.refl _ _).alloc _
  exact ⟨heap_alloc_new w3 _, hO.keeps (hkM.trans hk4), ⟨[], Sh.O.nil _ _ _ _, LA.nil _⟩, Sh.O.nil _ _ _ _, ⟨[], hM.keeps ktQ hk4, rfl, fun q => .inl ⟨rfl, rfl⟩⟩, ⟨fun q hq => by simp [Tr.op, Tr.new] at hq; subst hq; exact ⟨h1, h2, h3⟩, by simp [Tr.op, Tr.new], by simp [Tr.rec', Tr.new, recOf], by simp [Tr.rec', Tr.new, recOf], by simp [Tr.new], by simp [Tr.rec', Tr.new, recOf]⟩, by omega⟩
set_option maxRecDepth 100000 in
set_option maxHeartbeats 2000000 in
theorem id_c (w : World) (B bt bm : Nat) (vo vh vg : Value) (t : Tr) (h : TrM w B bt bm vo vh vg t) :
    Calls Try.prog 51 #[.pointer (some ⟨bt, 0, none⟩)] w fun e w' => e = .returned (idV t.im t.is) ∧ Keeps [] w w' := by
  obtain ⟨c0, c1, _⟩ := h.cells
  have hlt := h.lt.1
  clear h
  go_enter Try.func51, Try.ntmps51
  go_wp2
  refine bodyPost_ret (results_cell_row rfl _ _ _ _ _ _ _ rfl (heap_alloc_new w _) Try.underlying23 rfl (by kernel_rfl)) rfl ?_
  exact ⟨rfl, (Keeps.refl _ _).alloc _⟩
set_option maxRecDepth 100000 in
set_option maxHeartbeats 2000000 in
theorem start_c (w : World) (B bt bm : Nat) (vo vh vg : Value) (t : Tr) (h : TrM w B bt bm vo vh vg t) :
    Calls Try.prog 52 #[.pointer (some ⟨bt, 0, none⟩)] w fun e w' => e = .returned (tV t.st) ∧ Keeps [] w w' := by
  obtain ⟨_, _, c2, c3, c4, _⟩ := h.cells
  have hlt := h.lt.1
  clear h
  go_enter Try.func52, Try.ntmps52
  go_wp2
  refine bodyPost_ret (results_cell_row rfl _ _ _ _ _ _ _ rfl (heap_alloc_new w _) Try.underlying26 rfl (by kernel_rfl)) rfl ?_
  exact ⟨rfl, (Keeps.refl _ _).alloc _⟩
set_option maxRecDepth 100000 in
set_option maxHeartbeats 1000000 in
theorem state_c (w : World) (B bt bm : Nat) (vo vh vg : Value) (t : Tr) (h : TrM w B bt bm vo vh vg t) :
    Calls Try.prog 11 #[.pointer (some ⟨bt, 0, none⟩)] w fun e w' => e = .returned (.int .i64 t.state) ∧ w = w' := by
  have c9 := h.cells.2.2.2.2.2.2.2.2.2.1
  clear h
  go_enter Try.func11, Try.ntmps11
  go_wp2
  go_ret
  exact ⟨rfl, rfl⟩
set_option maxRecDepth 100000 in
set_option maxHeartbeats 1000000 in
theorem agreed_c (w : World) (B bt bm : Nat) (vo vh vg : Value) (t : Tr) (h : TrM w B bt bm vo vh vg t) (hl : t.ag.length ≤ 1000000) :
    Calls Try.prog 50 #[.pointer (some ⟨bt, 0, none⟩)] w fun e w' => ∃ v, e = .returned v ∧ shZ.O w' w.heap.size 3 v t.ag ∧ Keeps [] w w' := by
  have c10 := h.cells.2.2.2.2.2.2.2.2.2.2.1
  have hg := h.ag.r
  obtain ⟨a, c, rfl, _⟩ := hg.form
  have hC := cloneZ_c w _ t.ag hg hl
  replace hC := Lib.hid hC
  clear h hg
  go_enter Try.func50, Try.ntmps50
  go_wp2_with fail
  refine hC.out.mono ?_
  rintro e w1 ⟨v, rfl, hO, hk⟩
  go_wp2
  go_ret
  exact ⟨_, rfl, hO, hk⟩
theorem cells8 {w : World} {b : Nat} {x0 x1 x2 x3 x4 x5 x6 x7 : Value} {t : TypeId} (h : w.heap[b]? = some (.cells #[x0, x1, x2, x3, x4, x5, x6, x7] t (0, 0))) : w.cell? ⟨b, 0, none⟩ = some x0 ∧ w.cell? ⟨b, 1, none⟩ = some x1 ∧ w.cell? ⟨b, 2, none⟩ = some x2 ∧ w.cell? ⟨b, 3, none⟩ = some x3 ∧ w.cell? ⟨b, 4, none⟩ = some x4 ∧ w.cell? ⟨b, 5, none⟩ = some x5 ∧ w.cell? ⟨b, 6, none⟩ = some x6 ∧ w.cell? ⟨b, 7, none⟩ = some x7 ∧ (∀ o, w.frozen? ⟨b, o, none⟩ = false) ∧ b < w.heap.size := by
  refine ⟨?_, ?_, ?_, ?_, ?_, ?_, ?_, ?_, ?_, lt_of_blk h⟩ <;> simp [World.cell?, World.frozen?, h]
theorem setCs {w : World} {b : Nat} {cs : Array Value} {t : TypeId} {f : Nat × Nat} (h : w.heap[b]? = some (.cells cs t f)) (o : Nat) (v : Value) : (w.setCell ⟨b, o, none⟩ v).heap[b]? = some (.cells (cs.setIfInBounds o v) t f) := by
  simp [World.setCell, Array.getElem?_modify, h]
theorem setO {w : World} {b b' : Nat} (hb : b ≠ b') (o : Nat) (v : Value) : (w.setCell ⟨b', o, none⟩ v).heap[b]? = w.heap[b]? := Below.heap_setCell _ _ _ _ (by simpa using hb)
/-- An answer is copied into another block. -/
theorem cp8 {w : World} {X : Nat} {x0 x1 x2 x3 x4 x5 x6 x7 u0 u1 u2 u3 u4 u5 u6 u7 : Value} (h1 : w.heap[X]? = some (.cells #[x0, x1, x2, x3, x4, x5, x6, x7] tA (0, 0))) (h2 : w.heap[X + 1]? = some (.cells #[u0, u1, u2, u3, u4, u5, u6, u7] tA (0, 0))) (a : Option Addr) (n c : Nat) :
    (((((((((w.setCell ⟨X, 7, none⟩ (.slice a n c)).setCell ⟨X + 1, 0, none⟩ x0).setCell ⟨X + 1, 1, none⟩ x1).setCell ⟨X + 1, 2, none⟩ x2).setCell ⟨X + 1, 3, none⟩ x3).setCell ⟨X + 1, 4, none⟩ x4).setCell ⟨X + 1, 5, none⟩ x5).setCell ⟨X + 1, 6, none⟩ x6).setCell ⟨X + 1, 7, none⟩ (.slice a n c)).heap[X + 1]? = some (.cells #[x0, x1, x2, x3, x4, x5, x6, .slice a n c] tA (0, 0)) ∧
    Keeps [X, X + 1] w (((((((((w.setCell ⟨X, 7, none⟩ (.slice a n c)).setCell ⟨X + 1, 0, none⟩ x0).setCell ⟨X + 1, 1, none⟩ x1).setCell ⟨X + 1, 2, none⟩ x2).setCell ⟨X + 1, 3, none⟩ x3).setCell ⟨X + 1, 4, none⟩ x4).setCell ⟨X + 1, 5, none⟩ x5).setCell ⟨X + 1, 6, none⟩ x6).setCell ⟨X + 1, 7, none⟩ (.slice a n c)) ∧ KI w (((((((((w.setCell ⟨X, 7, none⟩ (.slice a n c)).setCell ⟨X + 1, 0, none⟩ x0).setCell ⟨X + 1, 1, none⟩ x1).setCell ⟨X + 1, 2, none⟩ x2).setCell ⟨X + 1, 3, none⟩ x3).setCell ⟨X + 1, 4, none⟩ x4).setCell ⟨X + 1, 5, none⟩ x5).setCell ⟨X + 1, 6, none⟩ x6).setCell ⟨X + 1, 7, none⟩ (.slice a n c)) := by
  have hk : Keeps [X, X + 1] w (((((((((w.setCell ⟨X, 7, none⟩ (.slice a n c)).setCell ⟨X + 1, 0, none⟩ x0).setCell ⟨X + 1, 1, none⟩ x1).setCell ⟨X + 1, 2, none⟩ x2).setCell ⟨X + 1, 3, none⟩ x3).setCell ⟨X + 1, 4, none⟩ x4).setCell ⟨X + 1, 5, none⟩ x5).setCell ⟨X + 1, 6, none⟩ x6).setCell ⟨X + 1, 7, none⟩ (.slice a n c)) := by
    refine (((((((((Keeps.refl _ w).setCell ?_ _).setCell ?_ _).setCell ?_ _).setCell ?_ _).setCell ?_ _).setCell ?_ _).setCell ?_ _).setCell ?_ _).setCell ?_ _ <;> exact .inr (by simp)
  refine ⟨?_, hk, hk.ki (fun b hb cs f e => ?_)⟩
  · clear hk
    have s0 := (setO (b := X + 1) (b' := X) (by omega) 7 (.slice a n c)).trans h2
    generalize w.setCell ⟨X, 7, none⟩ (.slice a n c) = w0 at s0 ⊢
    have s1 := setCs s0 0 x0
    generalize w0.setCell ⟨X + 1, 0, none⟩ x0 = w1 at s1 ⊢
    have s2 := setCs s1 1 x1
    generalize w1.setCell ⟨X + 1, 1, none⟩ x1 = w2 at s2 ⊢
    have s3 := setCs s2 2 x2
    generalize w2.setCell ⟨X + 1, 2, none⟩ x2 = w3 at s3 ⊢
    have s4 := setCs s3 3 x3
    generalize w3.setCell ⟨X + 1, 3, none⟩ x3 = w4 at s4 ⊢
    have s5 := setCs s4 4 x4
    generalize w4.setCell ⟨X + 1, 4, none⟩ x4 = w5 at s5 ⊢
    have s6 := setCs s5 5 x5
    generalize w5.setCell ⟨X + 1, 5, none⟩ x5 = w6 at s6 ⊢
    have s7 := setCs s6 6 x6
    generalize w6.setCell ⟨X + 1, 6, none⟩ x6 = w7 at s7 ⊢
    have s8 := setCs s7 7 (.slice a n c)
    generalize w7.setCell ⟨X + 1, 7, none⟩ (.slice a n c) = w8 at s8 ⊢
    simpa using s8
  · simp at hb
    rcases hb with rfl | rfl
    · rw [h1] at e; cases e
    · rw [h2] at e; cases e
set_option maxRecDepth 100000 in
set_option maxHeartbeats 2000000 in
theorem copied_c (w : World) (x : AnV) (L : List T3) (h : shT.R w x.v L) (hl : L.length ≤ 1000000) :
    Calls Try.prog 69 #[aV x] w fun e w' => ∃ x' : AnV, e = .returned (aV x') ∧ x'.m = x.m ∧ x'.ow = x.ow ∧ x'.n = x.n ∧ x'.ep = x.ep ∧ x'.kn = x.kn ∧ x'.rt = x.rt ∧ x'.lu = x.lu ∧ InsO w' x'.v L ∧ Keeps [] w w' := by
  obtain ⟨x0, x1, x2, x3, x4, x5, x6, x7, x8, x9⟩ := x
  have hC := fun W (hk : Keeps [] w W) => cloneI_c W _ L (h.keeps hk) hl
  simp only [AnV.v] at hC
  have hkA : Keeps [] w (w.alloc (.cells #[.int .i64 x0, .int .i64 x1, .int .u64 x2, .int .i64 x3, .bool x4, .bool x5, .int .i64 x6, .slice x7 x8 x9] tA)) := (Keeps.refl _ _).alloc _
  have hb := heap_alloc_new w (.cells #[.int .i64 x0, .int .i64 x1, .int .u64 x2, .int .i64 x3, .bool x4, .bool x5, .int .i64 x6, .slice x7 x8 x9] tA)
  replace hC := Lib.hid hC
  replace hkA := Lib.hid hkA
  replace hb := Lib.hid hb
  clear h
  simp only [aV, AnV.v]
  go_enter Try.func69, Try.ntmps69
  go_wp2_with fail
  have hk2 : Keeps [] (w.alloc (.cells #[.int .i64 x0, .int .i64 x1, .int .u64 x2, .int .i64 x3, .bool x4, .bool x5, .int .i64 x6, .slice x7 x8 x9] tA)) ((w.alloc (.cells #[.int .i64 x0, .int .i64 x1, .int .u64 x2, .int .i64 x3, .bool x4, .bool x5, .int .i64 x6, .slice x7 x8 x9] tA)).alloc (.cells #[.int .i64 0, .int .i64 0, .int .u64 0, .int .i64 0, .bool false, .bool false, .int .i64 0, .slice none 0 0] tA)) := (Keeps.refl _ _).alloc _
  have hb1 := (hk2.block w.heap.size (by simp) (by simp)).trans hb.out
  have hb2 := heap_alloc_new (w.alloc (.cells #[.int .i64 x0, .int .i64 x1, .int .u64 x2, .int .i64 x3, .bool x4, .bool x5, .int .i64 x6, .slice x7 x8 x9] tA)) (.cells #[.int .i64 0, .int .i64 0, .int .u64 0, .int .i64 0, .bool false, .bool false, .int .i64 0, .slice none 0 0] tA)
  rw [show (w.alloc (.cells #[.int .i64 x0, .int .i64 x1, .int .u64 x2, .int .i64 x3, .bool x4, .bool x5, .int .i64 x6, .slice x7 x8 x9] tA)).heap.size = w.heap.size + 1 by simp] at hb2
  have hk02 := hkA.out.trans hk2
  have hsz : ((w.alloc (.cells #[.int .i64 x0, .int .i64 x1, .int .u64 x2, .int .i64 x3, .bool x4, .bool x5, .int .i64 x6, .slice x7 x8 x9] tA)).alloc (.cells #[.int .i64 0, .int .i64 0, .int .u64 0, .int .i64 0, .bool false, .bool false, .int .i64 0, .slice none 0 0] tA)).heap.size = w.heap.size + 2 := by simp
  clear hkA hb hk2
  generalize ((w.alloc (.cells #[.int .i64 x0, .int .i64 x1, .int .u64 x2, .int .i64 x3, .bool x4, .bool x5, .int .i64 x6, .slice x7 x8 x9] tA)).alloc (.cells #[.int .i64 0, .int .i64 0, .int .u64 0, .int .i64 0, .bool false, .bool false, .int .i64 0, .slice none 0 0] tA)) = W at *
  refine (hC.out W hk02).mono ?_
  rintro e w1 ⟨v1, rfl, hO, hk1⟩
  have hI : InsO w1 v1 L := ⟨_, hO⟩
  have hge := hO.ge
  obtain ⟨a1, c1, rfl⟩ := hO.form
  obtain ⟨LL, hLL⟩ : ∃ n, L.length = n := ⟨_, rfl⟩
  rw [hLL] at hI hge ⊢
  have hb11 := (hk1.block _ (by omega) (by simp)).trans hb1
  have hb21 := (hk1.block _ (by omega) (by simp)).trans hb2
  have hk01 := hk02.trans hk1
  have hz1 := hk1.size
  obtain ⟨X, hX⟩ : ∃ X, w.heap.size = X := ⟨_, rfl⟩
  rw [hX] at hb11 hb21 hsz ⊢
  have hfin := cp8 hb11 hb21 a1 LL c1
  obtain ⟨y0, y1, y2, y3, y4, y5, y6, y7, yf, ylt⟩ := cells8 hb11
  obtain ⟨z0, z1, z2, z3, z4, z5, z6, z7, zf, zlt⟩ := cells8 hb21
  replace hI := Lib.hid hI
  replace hge := Lib.hid hge
  replace hk01 := Lib.hid hk01
  replace hfin := Lib.hid hfin
  replace hX := Lib.hid hX
  replace hLL := Lib.hid hLL
  clear hb1 hb2 hb11 hb21 hO hk1 hk02 hC hsz
  go_wp2
  obtain ⟨g1, g2, g3⟩ := hfin.out
  refine bodyPost_ret (results_cell_row rfl _ _ _ _ _ _ _ rfl g1 Try.underlying32 rfl (by kernel_rfl)) rfl ?_
  refine ⟨⟨x0, x1, x2, x3, x4, x5, x6, a1, LL, c1⟩, rfl, rfl, rfl, rfl, rfl, rfl, rfl, rfl, hI.out.ki g3, hk01.out.fresh g2 (fun b hb => by rw [hX.out]; simp at hb; rcases hb with rfl | rfl <;> exact .inr (by omega))⟩
end Go.Proofs.Ythfdngjbcgkkfaa

namespace Go.Proofs.Ythfdngjbcgkkfaa
open Go.RowKit Go.ChangeShapes

set_option maxRecDepth 100000 in
set_option maxHeartbeats 20000000 in
theorem encode_c (w : World) (B bt bm : Nat) (vo vh vg : Value) (t : Tr) (tn : Nat) (h : TrM w B bt bm vo vh vg t) (hN : t.Num) (ht : t.told = tn) (htn : tn ≤ 100000) (hh : t.hist.length ≤ 1000) (hi5 : ∀ a ∈ t.hist, a.ins.length ≤ 1000) (hg : t.ag.length ≤ 100000) :
    Calls Try.prog 27 #[.pointer (some ⟨bt, 0, none⟩)] w fun e w' => ∃ v, e = .returned v ∧ Buf w' w.heap.size v (encT t) ∧ Keeps [] w w' := by
  obtain ⟨n0, n1, n2, n3, n4⟩ := hN
  have hlt := h.lt.1
  obtain ⟨XH, hXH, hLH⟩ := h.hi
  have hHok := h.inv.hi
  obtain ⟨ah, ch, rfl⟩ := hXH.form
  obtain ⟨_, _, _, hlh, hcm, _⟩ := hXH.r.form
  have hel := fun k hk => hXH.r.elem (k := k) hk
  obtain ⟨ag, cg, rfl⟩ := h.ag.form
  have htr := fun (W : World) (hk : Keeps [] w W) => (h.keeps hk).cells
  have hXl := hLH.1
  obtain ⟨im, is, ⟨s0, s1, s2⟩, qs, told, hist, state, agl, rf⟩ := t
  simp only at n0 n1 n2 n3 n4 hHok ht hh hi5 hg htr hXl hLH
  obtain ⟨N8, hN8⟩ : ∃ n, XH.length = n := ⟨_, rfl⟩
  obtain ⟨NG, hNG⟩ : ∃ n, agl.length = n := ⟨_, rfl⟩
  rw [hN8] at hXl
  rw [hNG] at hg
  simp only [hN8, hNG] at htr
  rw [← hXl] at hh
  subst ht
  have hwt : IntKind.u64.wrap (tn : Int) = tn := by rw [IntKind.wrap_u64]; omega
  have hw8 : IntKind.u64.wrap (N8 : Int) = N8 := by rw [IntKind.wrap_u64]; omega
  have hwg : IntKind.u64.wrap (NG : Int) = NG := by rw [IntKind.wrap_u64]; omega
  have hHl : ∀ a ∈ hist, a.Ok ∧ a.ins.length ≤ 1000 := fun a ha => ⟨hHok a ha, hi5 a ha⟩
  have hfin : ∀ l : List UInt8, l = encI im ++ encI is ++ encI s0 ++ encU s1 ++ encI s2 ++ encU tn ++ encU N8 ++ encH hist ++ encU NG ++ encB rf → l = encT ⟨im, is, (s0, s1, s2), qs, tn, hist, state, agl, rf⟩ := fun l e => by
    rw [e]
    unfold encT encT0
    simp only [hNG, ← hXl, Int.toNat_natCast]
  have hE := EB.new w
  obtain ⟨BB, hBB⟩ : ∃ b, w.heap.size = b := ⟨_, rfl⟩
  have hE' : EB w (w.alloc (.cells #[.slice none 0 0] tBs)) BB [] := by rw [← hBB]; exact hE
  have hfr : bt < BB := by omega
  have hge : BB ≤ BB := Nat.le_refl _
  replace hE := Lib.hid hE'
  replace hLH := Lib.hid hLH
  replace hHl := Lib.hid hHl
  replace hel := Lib.hid hel
  replace htr := Lib.hid htr
  replace hN8 := Lib.hid hN8
  replace hNG := Lib.hid hNG
  replace hXl := Lib.hid hXl
  replace hfin := Lib.hid hfin
  clear hE' hHok hi5 h hXH hlh
  go_enter Try.func27, Try.ntmps27
  go_wp2
  try rw [hBB]
  replace hBB := Lib.hid hBB
  obtain ⟨d0, d1, d2, d3, d4, d5, d6, d7, d8, d9, d10, d11⟩ := htr.out _ hE.out.k
  generalize (w.alloc (.cells #[.slice none 0 0] tBs)) = W1 at *
  have hxl : (flatI [im, is, s0]).length ≤ 27 := flatI_len (L := [im, is, s0]) (by simp only [List.mem_cons, List.not_mem_nil, or_false]; rintro z (rfl | rfl | rfl) <;> assumption)
  have hED := hE.out.keeps (Keeps.refl [] W1).drew
  have hc := ints_c w (W1.drew.alloc (.cells #[.int .i64 im, .int .i64 is, .int .i64 s0] 3)) BB ([] : List UInt8) _ [im, is, s0] (hED.keeps ((Keeps.refl [] W1.drew).alloc (.cells #[.int .i64 im, .int .i64 is, .int .i64 s0] 3))) (made_ints W1.drew [im, is, s0] #[.int .i64 im, .int .i64 is, .int .i64 s0] 3 rfl rfl (by omega)) (by simp only [List.mem_cons, List.not_mem_nil, or_false]; rintro z (rfl | rfl | rfl) <;> assumption) (by simp) (by simp)
  rw [List.nil_append] at hc
  have hED2 := Lib.hid (hED.keeps ((Keeps.refl [] W1.drew).alloc (.cells #[.int .i64 im, .int .i64 is, .int .i64 s0] 3)))
  replace hED := Lib.hid hED
  replace hc := Lib.hid hc
  refine Free.wp_region_chain (fun i => i == 16 || i == 17) (fun i => true) (fun j b => BB ≤ b) (by kernel_rfl) (by kernel_rfl) (by kernel_rfl) ?_
  (repeat (first | (apply Free.cw_pure rfl rfl; (intro w'; go_simp <;> exact rfl); go_frame) | (apply Free.cw_steady rfl rfl rfl; (intro w' hS; have q0 := Free.sx_cell hS d0 (fun _ _ hT => by have := hT; omega); have q1 := Free.sx_cell hS d1 (fun _ _ hT => by have := hT; omega); have q2 := Free.sx_cell hS d2 (fun _ _ hT => by have := hT; omega); go_simp <;> exact rfl); go_frame) | (refine Free.cw_skip rfl ?_; go_frame)))
  refine Free.cw_loud rfl rfl (fun K hK => ?_)
  go_wp2
  refine hK _ _ rfl (Free.KeepsP.alloc _ _ _) ?_
  clear hK K
  (repeat (apply Free.cw_pure rfl rfl; (intro w'; go_simp <;> exact rfl); go_frame))
  refine Free.cw_loud rfl rfl (fun K hK => ?_)
  go_wp2_with fail
  refine hc.out.mono ?_
  rintro e w2 ⟨rfl, hE2, hK2⟩
  refine hK _ _ rfl ?_ ?_
  · have := hED2.out.kp hE2 hK2.sz
    rw [hBB.out] at this
    exact this
  clear hK K hc
  (repeat (apply Free.cw_pure rfl rfl; (intro w'; go_simp <;> exact rfl); go_frame))
  refine Free.cw_nil ?_
  replace hE := Lib.hid hE2
  clear hED hED2 hE2 hK2
  obtain ⟨l1, hl1⟩ : ∃ y, flatI [im, is, s0] = y := ⟨_, rfl⟩
  rw [hl1] at hE hxl
  replace hl1 := Lib.hid hl1
  clear d0 d1 d2 d3 d4 d5 d6 d7 d8 d9 d10 d11
  obtain ⟨d0, d1, d2, d3, d4, d5, d6, d7, d8, d9, d10, d11⟩ := htr.out _ hE.out.k
  go_upto_region 4 with fail
  obtain ⟨av1, Nv1, cv1, hbb, hB⟩ := hE.out.open
  obtain ⟨b0, bf, bl⟩ := cl1 hbb
  replace hbb := Lib.hid hbb
  replace hB := Lib.hid hB
  have hED := hE.out.keeps (Keeps.refl [] w2).drew
  have hbbD : w2.drew.heap[BB]? = _ := hbb.out
  have hBD := hB.out.keep (Keeps.refl [] w2).drew
  have hc := hED.call hbbD hBD (appU_c w2.drew w.heap.size (Value.slice av1 Nv1 cv1) l1 s1 hBD n3 (by omega) hED.k.size)
  have hlow := EPost.low hBD hED
  rw [hBB.out] at hlow
  have hxl : (encU s1).length ≤ 9 := encU_len n3
  obtain ⟨l2, hl2⟩ : ∃ y, l1 ++ encU s1 = y := ⟨_, rfl⟩
  have hn2 : l2.length ≤ l1.length + 9 := by rw [← hl2, List.length_append]; omega
  rw [hl2] at hc
  replace hc := Lib.hid hc
  replace hl2 := Lib.hid hl2
  replace hlow := Lib.hid hlow
  clear hxl hED hbbD hBD
  refine Free.wp_region_chain (fun i => i == 6 || i == 7) (fun i => true) (fun j b => (j = 6 ∨ j = 7) ∧ BB ≤ b) (by kernel_rfl) (by kernel_rfl) (by kernel_rfl) ?_
  (repeat (first | (apply Free.cw_pure rfl rfl; (intro w'; go_simp <;> exact rfl); go_frame) | (apply Free.cw_steady rfl rfl rfl; (intro w' hS; have q0 := Free.sx_cell hS b0 (fun j hp hT => by rcases hT.1 with rfl | rfl <;> exact Bool.false_ne_true (hp.symm.trans (by kernel_rfl))); have q1 := Free.sx_cell hS d3 (fun _ _ hT => by have := hT.2; omega); go_simp <;> exact rfl); go_frame) | (refine Free.cw_skip rfl ?_; go_frame)))
  refine Free.cw_loud rfl rfl (fun K hK => ?_)
  go_wp2_with fail
  refine hc.out.mono ?_
  rintro e w2 ⟨a2, N2, c2, rfl, hb2, hE2, hK2, hbb2, hB2, hkp⟩
  refine hK _ _ rfl (hkp.out.mono (fun b hb => ⟨.inl trivial, hlow.out b hb⟩)) ?_
  clear hK K hc hlow hkp b0 bf bl hbb hB hE
  obtain ⟨g0, gf, gl⟩ := cl1 hb2.out
  (repeat (apply Free.cw_pure rfl rfl; (intro w'; go_simp <;> exact rfl); go_frame))
  refine Free.cw_loud rfl rfl (fun K hK => ?_)
  go_wp2
  refine hK _ _ rfl (Free.KeepsP.setCell _ ⟨.inr trivial, hge⟩ _) ?_
  clear hK K
  (repeat (apply Free.cw_pure rfl rfl; (intro w'; go_simp <;> exact rfl); go_frame))
  refine Free.cw_nil ?_
  clear g0 gf gl hb2
  clear hK2
  generalize (w2.setCell ⟨BB, 0, none⟩ (.slice a2 N2 c2)) = W2 at *
  have hE := hE2
  have hbb := hbb2
  have hB := hB2
  clear hE2 hbb2 hB2
  obtain ⟨b0, bf, bl⟩ := cl1 hbb.out
  clear d0 d1 d2 d3 d4 d5 d6 d7 d8 d9 d10 d11
  obtain ⟨d0, d1, d2, d3, d4, d5, d6, d7, d8, d9, d10, d11⟩ := htr.out _ hE.out.k
  go_upto_region 5 with fail
  clear d0 d1 d2 d3 d4 d5 d6 d7 d8 d9 d10 d11
  obtain ⟨d0, d1, d2, d3, d4, d5, d6, d7, d8, d9, d10, d11⟩ := htr.out _ hE.out.k
  have hxl : (flatI [s2]).length ≤ 9 := flatI_len (L := [s2]) (by simp only [List.mem_cons, List.mem_singleton, List.not_mem_nil, or_false]; rintro z rfl <;> assumption)
  have hc := ints_c w (W2.alloc (.cells #[.int .i64 s2] 3)) BB l2 _ [s2] (hE.out.keeps ((Keeps.refl [] W2).alloc (.cells #[.int .i64 s2] 3))) (made_ints W2 [s2] #[.int .i64 s2] 1 rfl rfl (by omega)) (by simp only [List.mem_cons, List.mem_singleton, List.not_mem_nil, or_false]; rintro z rfl <;> assumption) (by simp) (by omega)
  have hkm := ((Keeps.refl [] W2).alloc (.cells #[.int .i64 s2] 3)).kb8
  obtain ⟨l3, hl3⟩ : ∃ y, l2 ++ flatI [s2] = y := ⟨_, rfl⟩
  have hn3 : l3.length ≤ l2.length + 9 := by rw [← hl3, List.length_append]; omega
  rw [hl3] at hc
  replace hc := Lib.hid hc
  replace hl3 := Lib.hid hl3
  replace hkm := Lib.hid hkm
  clear hxl
  go_wp2_with fail
  refine hc.out.mono ?_
  rintro e w3 ⟨rfl, hE2, hK2⟩
  replace hK2 := Lib.hid (hkm.out.trans hK2)
  replace hE := Lib.hid hE2
  clear hc b0 bf bl hbb hB hE2 hkm
  go_upto_region 6 with fail
  clear hK2
  obtain ⟨av4, Nv4, cv4, hbb, hB⟩ := hE.out.open
  obtain ⟨b0, bf, bl⟩ := cl1 hbb
  replace hbb := Lib.hid hbb
  replace hB := Lib.hid hB
  clear d0 d1 d2 d3 d4 d5 d6 d7 d8 d9 d10 d11
  obtain ⟨d0, d1, d2, d3, d4, d5, d6, d7, d8, d9, d10, d11⟩ := htr.out _ hE.out.k
  have hED := hE.out.keeps (Keeps.refl [] w3).drew
  have hbbD : w3.drew.heap[BB]? = _ := hbb.out
  have hBD := hB.out.keep (Keeps.refl [] w3).drew
  have hxl : (encU tn).length ≤ 9 := encU_len (by omega)
  have hc := appU_c w3.drew w.heap.size (Value.slice av4 Nv4 cv4) l3 tn hBD (by omega) (by omega) hED.k.size
  have hlow := EPost.low hBD hED
  rw [hBB.out] at hlow
  have hsT : (Value.slice av4 Nv4 cv4).ownBlock ≠ some bt := fun e => by have := (hBD.tagB e).1; have := hBB.out; omega
  have hsB : (Value.slice av4 Nv4 cv4).ownBlock ≠ some BB := hBD.sep hbbD (by decide)
  replace hc := Lib.hid hc
  replace hlow := Lib.hid hlow
  replace hsT := Lib.hid hsT
  replace hsB := Lib.hid hsB
  replace hED := Lib.hid hED
  replace hBD := Lib.hid hBD
  clear hbbD
  refine Free.wp_region_chain (fun i => i == 6 || i == 13 || i == 14) (fun i => true) (fun j b => ((j = 6 ∨ j = 13) ∧ ((Value.slice av4 Nv4 cv4).ownBlock = some b ∨ w3.heap.size ≤ b)) ∨ (j = 14 ∧ b = BB)) (by kernel_rfl) (by kernel_rfl) (by kernel_rfl) ?_
  (repeat (first | (apply Free.cw_pure rfl rfl; (intro w'; go_simp <;> exact rfl); go_frame) | (apply Free.cw_steady rfl rfl rfl; (intro w' hS; have q0 := Free.sx_cell hS b0 (fun j hp hT => by rcases hT with ⟨_, hT | hT⟩ | ⟨rfl, _⟩; exact hsB.out hT; omega; exact Bool.false_ne_true (hp.symm.trans (by kernel_rfl))); have q1 := Free.sx_cell hS d6 (fun _ _ hT => by rcases hT with ⟨_, hT | hT⟩ | ⟨_, hT⟩; exact hsT.out hT; omega; omega); have q2 := Free.sx_cell hS d8 (fun _ _ hT => by rcases hT with ⟨_, hT | hT⟩ | ⟨_, hT⟩; exact hsT.out hT; omega; omega); go_simp <;> exact rfl); go_frame) | (refine Free.cw_skip rfl ?_; go_frame)))
  refine Free.cw_loud rfl rfl (fun K hK => ?_)
  go_wp2_with fail
  refine hc.out.mono ?_
  rintro e wA ⟨v1, rfl, hB1, hG1⟩
  have hkp : Free.KeepsP (fun b => ((Value.slice av4 Nv4 cv4)).ownBlock = some b ∨ w3.heap.size ≤ b) w3.drew wA := Free.KeepsP.of hG1.keepsO (fun b hb => .inl (by simpa using hb))
  refine hK _ _ rfl (hkp.mono (fun b hb => .inl ⟨.inl trivial, hb⟩)) ?_
  clear hK K hkp hc
  have hs1 : w3.heap.size ≤ wA.heap.size := hG1.keepsO.size
  have hsw : w.heap.size ≤ w3.heap.size := hED.out.k.size
  have hxl2 : (encU N8).length ≤ 9 := encU_len (by omega)
  have hlv : (l3 ++ encU tn).length ≤ 140737488355000 := by rw [List.length_append]; omega
  have hc := appU_c wA w.heap.size v1 (l3 ++ encU tn) N8 hB1 (by omega) hlv (Nat.le_trans hsw hs1)
  replace hc := Lib.hid hc
  replace hB1 := Lib.hid hB1
  replace hG1 := Lib.hid hG1
  (repeat (first | (apply Free.cw_pure rfl rfl; (intro w'; go_simp <;> exact rfl); go_frame) | (apply Free.cw_steady rfl rfl rfl; (intro w' hS; have q0 := Free.sx_cell hS b0 (fun j hp hT => by rcases hT with ⟨_, hT | hT⟩ | ⟨rfl, _⟩; exact hsB.out hT; omega; exact Bool.false_ne_true (hp.symm.trans (by kernel_rfl))); have q1 := Free.sx_cell hS d6 (fun _ _ hT => by rcases hT with ⟨_, hT | hT⟩ | ⟨_, hT⟩; exact hsT.out hT; omega; omega); have q2 := Free.sx_cell hS d8 (fun _ _ hT => by rcases hT with ⟨_, hT | hT⟩ | ⟨_, hT⟩; exact hsT.out hT; omega; omega); go_simp <;> exact rfl); go_frame) | (refine Free.cw_skip rfl ?_; go_frame)))
  refine Free.cw_loud rfl rfl (fun K hK => ?_)
  go_wp2_with fail
  refine hc.out.mono ?_
  rintro e w5 ⟨v2, rfl, hB2, hG2⟩
  have hkp : Free.KeepsP (fun b => ((Value.slice av4 Nv4 cv4)).ownBlock = some b ∨ w3.heap.size ≤ b) wA w5 := Free.KeepsP.of hG2.keepsO (fun b hb => by
      rcases hG1.out.own with e | ⟨q, e, hq⟩
      · rw [e] at hb; exact .inl (by simpa using hb)
      · rw [e] at hb; simp at hb; subst hb; exact .inr hq)
  refine hK _ _ rfl (hkp.mono (fun b hb => .inl ⟨.inr trivial, hb⟩)) ?_
  clear hK K hkp hc
  have hEP := hED.out.post (w := w3.drew) hbb.out hBD.out hB2 (hG1.out.trans hG2)
  obtain ⟨a5, N5, c5, he, hb2, hE2, hK2, hbb2, hB3, -⟩ := hEP
  cases he
  obtain ⟨l5, hl5⟩ : ∃ y, l3 ++ encU tn ++ encU N8 = y := ⟨_, rfl⟩
  have hn5 : l5.length ≤ l3.length + 18 := by rw [← hl5, List.length_append, List.length_append]; omega
  rw [hl5] at hE2 hB2 hB3
  replace hB2 := hB3
  clear hB3 hG1 hG2 hB1 hED hBD hlow hsT hsB b0 bf bl hbb hB hE hs1 hsw hlv hxl hxl2
  replace hl5 := Lib.hid hl5
  obtain ⟨g0, gf, gl⟩ := cl1 hb2.out
  (repeat (apply Free.cw_pure rfl rfl; (intro w'; go_simp <;> exact rfl); go_frame))
  refine Free.cw_loud rfl rfl (fun K hK => ?_)
  go_wp2
  refine hK _ _ rfl (Free.KeepsP.setCell _ (.inr ⟨trivial, rfl⟩) _) ?_
  clear hK K
  (repeat (apply Free.cw_pure rfl rfl; (intro w'; go_simp <;> exact rfl); go_frame))
  refine Free.cw_nil ?_
  clear g0 gf gl hb2
  clear hK2
  generalize (w5.setCell ⟨BB, 0, none⟩ (.slice a5 N5 c5)) = W5 at *
  have hE := hE2
  have hbb := hbb2
  have hB := hB2
  clear hE2 hbb2 hB2
  obtain ⟨b0, bf, bl⟩ := cl1 hbb.out
  clear d0 d1 d2 d3 d4 d5 d6 d7 d8 d9 d10 d11
  obtain ⟨d0, d1, d2, d3, d4, d5, d6, d7, d8, d9, d10, d11⟩ := htr.out _ hE.out.k
  go_wp2
  have hHl0 := hHl
  have hP : l5.length ≤ 1000 := by omega
  go_loopw [62] (fun iv wr => ∃ k : Nat, iv = .int .i64 k ∧ k ≤ N8 ∧ Hid (EB w wr BB (l5 ++ encH (hist.take k)))) (fun iv _ => N8 - (intOf iv).toNat)
  case atStart => exact ⟨0, rfl, by omega, by rw [show encH (hist.take 0) = [] from rfl, List.append_nil]; exact hE⟩
  case round =>
    obtain ⟨k, rfl, hk, hEr⟩ := hrel
    clear hE hbb hB b0 bf bl d0 d1 d2 d3 d4 d5 d6 d7 d8 d9 d10 d11
    have hE := hEr
    clear hEr
    obtain ⟨d0, d1, d2, d3, d4, d5, d6, d7, d8, d9, d10, d11⟩ := htr.out _ hE.out.k
    have hlenr : (l5 ++ encH (hist.take k)).length ≤ 30000000 := by
      have h1 := encH_len (L := hist.take k) (fun a ha => hHl.out a (List.mem_of_mem_take ha))
      rw [List.length_append]
      rw [List.length_take] at h1
      have : 27100 * min k hist.length ≤ 27100 * 1000 := Nat.mul_le_mul_left _ (by omega)
      omega
    by_cases hlt : k < N8
    · skip
      have hlt2 : (k : Int) < N8 := by omega
      have hkX : k < XH.length := by rw [hN8.out]; exact hlt
      have hkH : k < hist.length := by rw [← hXl.out]; exact hlt
      obtain ⟨g, of, c', hv, he⟩ := hel.out k hkX
      rw [hN8.out] at hv
      cases hv
      have hIA := hLH.out.2 k _ _ (List.getElem?_eq_getElem hkX) (List.getElem?_eq_getElem hkH)
      have hOk := hHl.out _ (List.getElem_mem hkH)
      obtain ⟨a, ha⟩ : ∃ a, hist[k] = a := ⟨_, rfl⟩
      rw [ha] at hIA hOk
      obtain ⟨⟨e0, e1, e2, e3, e4, e5, e6, e7, e8, e9⟩, hx⟩ : ∃ x, XH[k] = x := ⟨_, rfl⟩
      rw [hx] at hIA he
      obtain ⟨i1, i2, i3, i4, i5, i6, i7, hI⟩ := hIA
      simp only [AnV.v] at i1 i2 i3 i4 i5 i6 i7 hI
      obtain ⟨ia, ic, hvi, hic1, hic2, _⟩ := hI.r.form
      have heli := fun j hj => hI.r.elem (k := j) hj
      obtain ⟨NI, hNI⟩ : ∃ n, a.ins.length = n := ⟨_, rfl⟩
      rw [hNI] at hvi hic1
      have hNI2 : NI ≤ 1000 := by rw [← hNI]; exact hOk.2
      obtain ⟨rfl, rfl, rfl⟩ : e7 = ia ∧ e8 = NI ∧ e9 = ic := by simpa using hvi
      have hwi : IntKind.u64.wrap (e8 : Int) = e8 := by rw [IntKind.wrap_u64]; omega
      have z0 := hOk.1.q.1
      have z1 := hOk.1.q.2.1
      have z2 := hOk.1.q.2.2
      have z3 := hOk.1.ep
      have z6 := hOk.1.lu
      simp only [Ans.q] at z0 z1 z2
      rw [← i1] at z0
      rw [← i2] at z1
      rw [← i3] at z2
      rw [← i4] at z3
      rw [← i7] at z6
      have hAe : encA a = encI e0 ++ encI e1 ++ encU e2 ++ encI e3 ++ encB e4 ++ encB e5 ++ encI e6 ++ encU e8 ++ encXs a.ins := by unfold encA encA0; rw [i1, i2, i3, i4, i5, i6, i7, hNI]
      have f0 := hE.out.k.val (he 0 _ rfl)
      have f1 := hE.out.k.val (he 1 _ rfl)
      have f2 := hE.out.k.val (he 2 _ rfl)
      have f3 := hE.out.k.val (he 3 _ rfl)
      have f4 := hE.out.k.val (he 4 _ rfl)
      have f5 := hE.out.k.val (he 5 _ rfl)
      have f6 := hE.out.k.val (he 6 _ rfl)
      have f7 := hE.out.k.val (he 7 _ rfl)
      simp only [shA, AnV.v, Nat.add_zero] at f0 f1 f2 f3 f4 f5 f6 f7
      have hkM := (Keeps.refl [] wr).alloc (.cells #[.int .i64 e0, .int .i64 e1, .int .u64 e2, .int .i64 e3, .bool e4, .bool e5, .int .i64 e6, .slice e7 e8 e9] tA)
      have hA := heap_alloc_new wr (.cells #[.int .i64 e0, .int .i64 e1, .int .u64 e2, .int .i64 e3, .bool e4, .bool e5, .int .i64 e6, .slice e7 e8 e9] tA)
      have hEM := hE.out.keeps hkM
      replace hE := Lib.hid hEM
      replace hA := Lib.hid hA
      replace ha := Lib.hid ha
      replace hx := Lib.hid hx
      replace hAe := Lib.hid hAe
      replace hOk := Lib.hid hOk
      replace heli := Lib.hid heli
      replace hNI := Lib.hid hNI
      have hxn := hI
      replace hI := Lib.hid hI
      clear hxn hkM hEM he hvi i1 i2 i3 i4 i5 i6 i7
      go_upto_region 10 with fail
      generalize (wr.alloc (.cells #[.int .i64 e0, .int .i64 e1, .int .u64 e2, .int .i64 e3, .bool e4, .bool e5, .int .i64 e6, .slice e7 e8 e9] tA)) = W0 at *
      obtain ⟨XA, hXA⟩ : ∃ X, wr.heap.size = X := ⟨_, rfl⟩
      rw [hXA] at hA ⊢
      replace hXA := Lib.hid hXA
      clear f0 f1 f2 f3 f4 f5 f6 f7
      obtain ⟨k0, k1, k2, k3, k4, k5, k6, k7, kf, kl⟩ := cl8 hA.out
      clear d0 d1 d2 d3 d4 d5 d6 d7 d8 d9 d10 d11
      obtain ⟨d0, d1, d2, d3, d4, d5, d6, d7, d8, d9, d10, d11⟩ := htr.out _ hE.out.k
      obtain ⟨av6, Nv6, cv6, hbb, hB⟩ := hE.out.open
      obtain ⟨b0, bf, bl⟩ := cl1 hbb
      replace hbb := Lib.hid hbb
      replace hB := Lib.hid hB
      have hxl : (flatI [e0, e1]).length ≤ 18 := flatI_len (L := [e0, e1]) (by simp only [List.mem_cons, List.mem_singleton, List.not_mem_nil, or_false]; rintro z (rfl | rfl) <;> assumption)
      have hc := ints_c w (W0.alloc (.cells #[.int .i64 e0, .int .i64 e1] 3)) BB (l5 ++ encH (hist.take k)) _ [e0, e1] (hE.out.keeps ((Keeps.refl [] W0).alloc (.cells #[.int .i64 e0, .int .i64 e1] 3))) (made_ints W0 [e0, e1] #[.int .i64 e0, .int .i64 e1] 2 rfl rfl (by omega)) (by simp only [List.mem_cons, List.mem_singleton, List.not_mem_nil, or_false]; rintro z (rfl | rfl) <;> assumption) (by simp) (by omega)
      have hkm := ((Keeps.refl [] W0).alloc (.cells #[.int .i64 e0, .int .i64 e1] 3)).kb8
      obtain ⟨l7, hl7⟩ : ∃ y, (l5 ++ encH (hist.take k)) ++ flatI [e0, e1] = y := ⟨_, rfl⟩
      have hn7 : l7.length ≤ (l5 ++ encH (hist.take k)).length + 18 := by rw [← hl7, List.length_append]; omega
      rw [hl7] at hc
      replace hc := Lib.hid hc
      replace hl7 := Lib.hid hl7
      replace hkm := Lib.hid hkm
      clear hxl
      go_wp2_with fail
      refine hc.out.mono ?_
      rintro e w7 ⟨rfl, hE2, hK2⟩
      replace hK2 := Lib.hid (hkm.out.trans hK2)
      replace hE := Lib.hid hE2
      clear hc b0 bf bl hbb hB hE2 hkm
      replace hA := Lib.hid (hK2.out.b _ _ _ _ hA.out (by decide) (by decide))
      clear k0 k1 k2 k3 k4 k5 k6 k7 kf kl
      obtain ⟨k0, k1, k2, k3, k4, k5, k6, k7, kf, kl⟩ := cl8 hA.out
      go_upto_region 11 with fail
      clear hK2
      obtain ⟨av8, Nv8, cv8, hbb, hB⟩ := hE.out.open
      obtain ⟨b0, bf, bl⟩ := cl1 hbb
      replace hbb := Lib.hid hbb
      replace hB := Lib.hid hB
      clear d0 d1 d2 d3 d4 d5 d6 d7 d8 d9 d10 d11
      obtain ⟨d0, d1, d2, d3, d4, d5, d6, d7, d8, d9, d10, d11⟩ := htr.out _ hE.out.k
      have hxl : (encU e2).length ≤ 9 := encU_len z2
      have hc := hE.out.call hbb.out hB.out (appU_c w7 w.heap.size (Value.slice av8 Nv8 cv8) l7 e2 hB.out z2 (by omega) hE.out.k.size)
      obtain ⟨l9, hl9⟩ : ∃ y, l7 ++ encU e2 = y := ⟨_, rfl⟩
      have hn9 : l9.length ≤ l7.length + 9 := by rw [← hl9, List.length_append]; omega
      rw [hl9] at hc
      replace hc := Lib.hid hc
      replace hl9 := Lib.hid hl9
      clear hxl
      go_wp2_with fail
      refine hc.out.mono ?_
      rintro e w9 ⟨a9, N9, c9, rfl, hb2, hE2, hK2, hbb2, hB2, -⟩
      clear hc b0 bf bl hbb hB hE
      obtain ⟨d0, df, dl⟩ := cl1 hb2.out
      replace hA := Lib.hid (hK2.out.b _ _ _ _ hA.out (by decide) (by decide))
      clear k0 k1 k2 k3 k4 k5 k6 k7 kf kl
      obtain ⟨k0, k1, k2, k3, k4, k5, k6, k7, kf, kl⟩ := cl8 hA.out
      go_upto_region 12 with fail
      clear d0 df dl hb2 hK2
      generalize (w9.setCell ⟨BB, 0, none⟩ (.slice a9 N9 c9)) = W9 at *
      have hE := hE2
      have hbb := hbb2
      have hB := hB2
      clear hE2 hbb2 hB2
      obtain ⟨b0, bf, bl⟩ := cl1 hbb.out
      clear d0 d1 d2 d3 d4 d5 d6 d7 d8 d9 d10 d11
      obtain ⟨d0, d1, d2, d3, d4, d5, d6, d7, d8, d9, d10, d11⟩ := htr.out _ hE.out.k
      have hxl : (flatI [e3]).length ≤ 9 := flatI_len (L := [e3]) (by simp only [List.mem_cons, List.mem_singleton, List.not_mem_nil, or_false]; rintro z rfl <;> assumption)
      have hc := ints_c w (W9.alloc (.cells #[.int .i64 e3] 3)) BB l9 _ [e3] (hE.out.keeps ((Keeps.refl [] W9).alloc (.cells #[.int .i64 e3] 3))) (made_ints W9 [e3] #[.int .i64 e3] 1 rfl rfl (by omega)) (by simp only [List.mem_cons, List.mem_singleton, List.not_mem_nil, or_false]; rintro z rfl <;> assumption) (by simp) (by omega)
      have hkm := ((Keeps.refl [] W9).alloc (.cells #[.int .i64 e3] 3)).kb8
      obtain ⟨l10, hl10⟩ : ∃ y, l9 ++ flatI [e3] = y := ⟨_, rfl⟩
      have hn10 : l10.length ≤ l9.length + 9 := by rw [← hl10, List.length_append]; omega
      rw [hl10] at hc
      replace hc := Lib.hid hc
      replace hl10 := Lib.hid hl10
      replace hkm := Lib.hid hkm
      clear hxl
      go_wp2_with fail
      refine hc.out.mono ?_
      rintro e w10 ⟨rfl, hE2, hK2⟩
      replace hK2 := Lib.hid (hkm.out.trans hK2)
      replace hE := Lib.hid hE2
      clear hc b0 bf bl hbb hB hE2 hkm
      replace hA := Lib.hid (hK2.out.b _ _ _ _ hA.out (by decide) (by decide))
      clear k0 k1 k2 k3 k4 k5 k6 k7 kf kl
      obtain ⟨k0, k1, k2, k3, k4, k5, k6, k7, kf, kl⟩ := cl8 hA.out
      go_upto_region 13 with fail
      clear hK2
      obtain ⟨av11, Nv11, cv11, hbb, hB⟩ := hE.out.open
      obtain ⟨b0, bf, bl⟩ := cl1 hbb
      replace hbb := Lib.hid hbb
      replace hB := Lib.hid hB
      clear d0 d1 d2 d3 d4 d5 d6 d7 d8 d9 d10 d11
      obtain ⟨d0, d1, d2, d3, d4, d5, d6, d7, d8, d9, d10, d11⟩ := htr.out _ hE.out.k
      have hED := hE.out.keeps (Keeps.refl [] w10).drew
      have hbbD : w10.drew.heap[BB]? = _ := hbb.out
      have hBD := hB.out.keep (Keeps.refl [] w10).drew
      have hxl : (encB e4).length ≤ 9 := (by simp [encB])
      have hc := appB_c w10.drew w.heap.size (Value.slice av11 Nv11 cv11) l10 e4 hBD  (by omega) hED.k.size
      have hlow := EPost.low hBD hED
      rw [hBB.out] at hlow
      have hsA : (Value.slice av11 Nv11 cv11).ownBlock ≠ some XA := hBD.sep (w := w10.drew) hA.out (by decide)
      have hsT : (Value.slice av11 Nv11 cv11).ownBlock ≠ some bt := fun e => by have := (hBD.tagB e).1; have := hBB.out; omega
      have hsB : (Value.slice av11 Nv11 cv11).ownBlock ≠ some BB := hBD.sep hbbD (by decide)
      have hAB : XA ≠ BB := tag_ne hA.out hbb.out (by decide)
      replace hc := Lib.hid hc
      replace hlow := Lib.hid hlow
      replace hsT := Lib.hid hsT
      replace hsB := Lib.hid hsB
      replace hED := Lib.hid hED
      replace hBD := Lib.hid hBD
      replace hsA := Lib.hid hsA
      clear hbbD
      refine Free.wp_region_chain (fun i => i == 3 || i == 6 || i == 7) (fun i => true) (fun j b => ((j = 3 ∨ j = 6) ∧ ((Value.slice av11 Nv11 cv11).ownBlock = some b ∨ w10.heap.size ≤ b)) ∨ (j = 7 ∧ b = BB)) (by kernel_rfl) (by kernel_rfl) (by kernel_rfl) ?_
      (repeat (first | (apply Free.cw_pure rfl rfl; (intro w'; go_simp <;> exact rfl); go_frame) | (apply Free.cw_steady rfl rfl rfl; (intro w' hS; have q0 := Free.sx_cell hS b0 (fun j hp hT => by rcases hT with ⟨_, hT | hT⟩ | ⟨rfl, _⟩; exact hsB.out hT; omega; exact Bool.false_ne_true (hp.symm.trans (by kernel_rfl))); have q1 := Free.sx_cell hS k4 (fun _ _ hT => by rcases hT with ⟨_, hT | hT⟩ | ⟨_, hT⟩; exact hsA.out hT; omega; omega); have q2 := Free.sx_cell hS k5 (fun _ _ hT => by rcases hT with ⟨_, hT | hT⟩ | ⟨_, hT⟩; exact hsA.out hT; omega; omega); go_simp <;> exact rfl); go_frame) | (refine Free.cw_skip rfl ?_; go_frame)))
      refine Free.cw_loud rfl rfl (fun K hK => ?_)
      go_wp2_with fail
      refine hc.out.mono ?_
      rintro e wA ⟨v1, rfl, hB1, hG1⟩
      have hkp : Free.KeepsP (fun b => ((Value.slice av11 Nv11 cv11)).ownBlock = some b ∨ w10.heap.size ≤ b) w10.drew wA := Free.KeepsP.of hG1.keepsO (fun b hb => .inl (by simpa using hb))
      refine hK _ _ rfl (hkp.mono (fun b hb => .inl ⟨.inl trivial, hb⟩)) ?_
      clear hK K hkp hc
      have hs1 : w10.heap.size ≤ wA.heap.size := hG1.keepsO.size
      have hsw : w.heap.size ≤ w10.heap.size := hED.out.k.size
      have hxl2 : (encB e5).length ≤ 9 := (by simp [encB])
      have hlv : (l10 ++ encB e4).length ≤ 140737488355000 := by rw [List.length_append]; omega
      have hc := appB_c wA w.heap.size v1 (l10 ++ encB e4) e5 hB1  hlv (Nat.le_trans hsw hs1)
      replace hc := Lib.hid hc
      replace hB1 := Lib.hid hB1
      replace hG1 := Lib.hid hG1
      (repeat (first | (apply Free.cw_pure rfl rfl; (intro w'; go_simp <;> exact rfl); go_frame) | (apply Free.cw_steady rfl rfl rfl; (intro w' hS; have q0 := Free.sx_cell hS b0 (fun j hp hT => by rcases hT with ⟨_, hT | hT⟩ | ⟨rfl, _⟩; exact hsB.out hT; omega; exact Bool.false_ne_true (hp.symm.trans (by kernel_rfl))); have q1 := Free.sx_cell hS k4 (fun _ _ hT => by rcases hT with ⟨_, hT | hT⟩ | ⟨_, hT⟩; exact hsA.out hT; omega; omega); have q2 := Free.sx_cell hS k5 (fun _ _ hT => by rcases hT with ⟨_, hT | hT⟩ | ⟨_, hT⟩; exact hsA.out hT; omega; omega); go_simp <;> exact rfl); go_frame) | (refine Free.cw_skip rfl ?_; go_frame)))
      refine Free.cw_loud rfl rfl (fun K hK => ?_)
      go_wp2_with fail
      refine hc.out.mono ?_
      rintro e w12 ⟨v2, rfl, hB2, hG2⟩
      have hkp : Free.KeepsP (fun b => ((Value.slice av11 Nv11 cv11)).ownBlock = some b ∨ w10.heap.size ≤ b) wA w12 := Free.KeepsP.of hG2.keepsO (fun b hb => by
          rcases hG1.out.own with e | ⟨q, e, hq⟩
          · rw [e] at hb; exact .inl (by simpa using hb)
          · rw [e] at hb; simp at hb; subst hb; exact .inr hq)
      refine hK _ _ rfl (hkp.mono (fun b hb => .inl ⟨.inr trivial, hb⟩)) ?_
      clear hK K hkp hc
      have hEP := hED.out.post (w := w10.drew) hbb.out hBD.out hB2 (hG1.out.trans hG2)
      obtain ⟨a12, N12, c12, he, hb2, hE2, hK2, hbb2, hB3, -⟩ := hEP
      cases he
      obtain ⟨l12, hl12⟩ : ∃ y, l10 ++ encB e4 ++ encB e5 = y := ⟨_, rfl⟩
      have hn12 : l12.length ≤ l10.length + 18 := by rw [← hl12, List.length_append, List.length_append]; omega
      rw [hl12] at hE2 hB2 hB3
      replace hB2 := hB3
      clear hB3 hG1 hG2 hB1 hED hBD hlow hsT hsB b0 bf bl hbb hB hE hs1 hsw hlv hxl hxl2 hsA
      replace hl12 := Lib.hid hl12
      obtain ⟨g0, gf, gl⟩ := cl1 hb2.out
      (repeat (apply Free.cw_pure rfl rfl; (intro w'; go_simp <;> exact rfl); go_frame))
      refine Free.cw_loud rfl rfl (fun K hK => ?_)
      go_wp2
      refine hK _ _ rfl (Free.KeepsP.setCell _ (.inr ⟨trivial, rfl⟩) _) ?_
      clear hK K
      (repeat (apply Free.cw_pure rfl rfl; (intro w'; go_simp <;> exact rfl); go_frame))
      refine Free.cw_nil ?_
      clear g0 gf gl hb2
      replace hA := Lib.hid (hK2.out.b _ _ _ _ hA.out (by decide) (by decide))
      clear k0 k1 k2 k3 k4 k5 k6 k7 kf kl
      obtain ⟨k0, k1, k2, k3, k4, k5, k6, k7, kf, kl⟩ := cl8 hA.out
      clear hK2
      generalize (w12.setCell ⟨BB, 0, none⟩ (.slice a12 N12 c12)) = W12 at *
      have hE := hE2
      have hbb := hbb2
      have hB := hB2
      clear hE2 hbb2 hB2
      obtain ⟨b0, bf, bl⟩ := cl1 hbb.out
      clear d0 d1 d2 d3 d4 d5 d6 d7 d8 d9 d10 d11
      obtain ⟨d0, d1, d2, d3, d4, d5, d6, d7, d8, d9, d10, d11⟩ := htr.out _ hE.out.k
      go_upto_region 14 with fail
      have hxl : (flatI [e6]).length ≤ 9 := flatI_len (L := [e6]) (by simp only [List.mem_cons, List.mem_singleton, List.not_mem_nil, or_false]; rintro z rfl <;> assumption)
      have hc := ints_c w (W12.alloc (.cells #[.int .i64 e6] 3)) BB l12 _ [e6] (hE.out.keeps ((Keeps.refl [] W12).alloc (.cells #[.int .i64 e6] 3))) (made_ints W12 [e6] #[.int .i64 e6] 1 rfl rfl (by omega)) (by simp only [List.mem_cons, List.mem_singleton, List.not_mem_nil, or_false]; rintro z rfl <;> assumption) (by simp) (by omega)
      have hkm := ((Keeps.refl [] W12).alloc (.cells #[.int .i64 e6] 3)).kb8
      obtain ⟨l13, hl13⟩ : ∃ y, l12 ++ flatI [e6] = y := ⟨_, rfl⟩
      have hn13 : l13.length ≤ l12.length + 9 := by rw [← hl13, List.length_append]; omega
      rw [hl13] at hc
      replace hc := Lib.hid hc
      replace hl13 := Lib.hid hl13
      replace hkm := Lib.hid hkm
      clear hxl
      go_wp2_with fail
      refine hc.out.mono ?_
      rintro e w13 ⟨rfl, hE2, hK2⟩
      replace hK2 := Lib.hid (hkm.out.trans hK2)
      replace hE := Lib.hid hE2
      clear hc b0 bf bl hbb hB hE2 hkm
      replace hA := Lib.hid (hK2.out.b _ _ _ _ hA.out (by decide) (by decide))
      clear k0 k1 k2 k3 k4 k5 k6 k7 kf kl
      obtain ⟨k0, k1, k2, k3, k4, k5, k6, k7, kf, kl⟩ := cl8 hA.out
      go_upto_region 15 with fail
      clear hK2
      obtain ⟨av14, Nv14, cv14, hbb, hB⟩ := hE.out.open
      obtain ⟨b0, bf, bl⟩ := cl1 hbb
      replace hbb := Lib.hid hbb
      replace hB := Lib.hid hB
      clear d0 d1 d2 d3 d4 d5 d6 d7 d8 d9 d10 d11
      obtain ⟨d0, d1, d2, d3, d4, d5, d6, d7, d8, d9, d10, d11⟩ := htr.out _ hE.out.k
      have hxl : (encU e8).length ≤ 9 := encU_len (by omega)
      have hc := hE.out.call hbb.out hB.out (appU_c w13 w.heap.size (Value.slice av14 Nv14 cv14) l13 e8 hB.out (by omega) (by omega) hE.out.k.size)
      obtain ⟨l15, hl15⟩ : ∃ y, l13 ++ encU e8 = y := ⟨_, rfl⟩
      have hn15 : l15.length ≤ l13.length + 9 := by rw [← hl15, List.length_append]; omega
      rw [hl15] at hc
      replace hc := Lib.hid hc
      replace hl15 := Lib.hid hl15
      clear hxl
      go_wp2_with fail
      refine hc.out.mono ?_
      rintro e w15 ⟨a15, N15, c15, rfl, hb2, hE2, hK2, hbb2, hB2, -⟩
      clear hc b0 bf bl hbb hB hE
      obtain ⟨d0, df, dl⟩ := cl1 hb2.out
      replace hA := Lib.hid (hK2.out.b _ _ _ _ hA.out (by decide) (by decide))
      clear k0 k1 k2 k3 k4 k5 k6 k7 kf kl
      obtain ⟨k0, k1, k2, k3, k4, k5, k6, k7, kf, kl⟩ := cl8 hA.out
      go_upto_region 16 with fail
      clear d0 df dl hb2 hK2
      generalize (w15.setCell ⟨BB, 0, none⟩ (.slice a15 N15 c15)) = W15 at *
      have hE := hE2
      have hbb := hbb2
      have hB := hB2
      clear hE2 hbb2 hB2
      obtain ⟨b0, bf, bl⟩ := cl1 hbb.out
      clear d0 d1 d2 d3 d4 d5 d6 d7 d8 d9 d10 d11
      obtain ⟨d0, d1, d2, d3, d4, d5, d6, d7, d8, d9, d10, d11⟩ := htr.out _ hE.out.k
      have hQ : l15.length ≤ 40000000 := by omega
      go_wp2
      clear hB hbb b0 bf bl d0 d1 d2 d3 d4 d5 d6 d7 d8 d9 d10 d11
      clear k0 k1 k2 k3 k4 k5 k6 k7 kf kl
      go_loopw [103] (fun iv wr2 => ∃ j : Nat, iv = .int .i64 j ∧ j ≤ e8 ∧ Hid (EB w wr2 BB (l15 ++ encXs (a.ins.take j))) ∧ Hid (wr2.heap[XA]? = some (.cells #[.int .i64 e0, .int .i64 e1, .int .u64 e2, .int .i64 e3, .bool e4, .bool e5, .int .i64 e6, .slice e7 e8 e9] tA))) (fun iv _ => e8 - (intOf iv).toNat)
      case atStart => exact ⟨0, rfl, by omega, by rw [show encXs (a.ins.take 0) = [] from rfl, List.append_nil]; exact hE, hA⟩
      case round =>
        clear hE hA
        obtain ⟨j, rfl, hj, hE, hA⟩ := hrel
        obtain ⟨k0, k1, k2, k3, k4, k5, k6, k7, kf, kl⟩ := cl8 hA.out
        obtain ⟨d0, d1, d2, d3, d4, d5, d6, d7, d8, d9, d10, d11⟩ := htr.out _ hE.out.k
        by_cases hlj : j < e8
        · skip
          have hlj2 : (j : Int) < e8 := by omega
          have hjI : j < a.ins.length := by rw [hNI.out]; exact hlj
          have hfit := (hOk.out.1.fitI) _ (List.getElem_mem hjI)
          have hlenq : (l15 ++ encXs (a.ins.take j)).length ≤ 50000000 := by
            have h1 := encXs_len (L := a.ins.take j) (fun x hx => hOk.out.1.fitI x (List.mem_of_mem_take hx))
            rw [List.length_append]
            rw [List.length_take] at h1
            have h3 := hNI.out
            omega
          obtain ⟨g2, of2, c2', hv, he⟩ := heli.out j hjI
          rw [hNI.out] at hv
          cases hv
          obtain ⟨⟨y0, y1, y2⟩, hy⟩ : ∃ x, a.ins[j] = x := ⟨_, rfl⟩
          rw [hy] at hfit he
          obtain ⟨v0, v1, v2⟩ := hfit
          simp only at v0 v1 v2
          have f0 := hE.out.k.val (he 0 _ rfl)
          have f1 := hE.out.k.val (he 1 _ rfl)
          have f2 := hE.out.k.val (he 2 _ rfl)
          simp only [shT, Nat.add_zero] at f0 f1 f2
          have hkM := (Keeps.refl [] wr).alloc (.cells #[.int .i64 y0, .int .u64 y1, .int .i64 y2] tI)
          have hX := heap_alloc_new wr (.cells #[.int .i64 y0, .int .u64 y1, .int .i64 y2] tI)
          replace hA := Lib.hid ((hkM.block _ kl (by simp)).trans hA.out)
          replace hE := Lib.hid (hE.out.keeps hkM)
          replace hX := Lib.hid hX
          replace hy := Lib.hid hy
          clear hkM he
          clear k0 k1 k2 k3 k4 k5 k6 k7 kf kl
          go_upto_region 19 with fail
          generalize (wr.alloc (.cells #[.int .i64 y0, .int .u64 y1, .int .i64 y2] tI)) = W0 at *
          obtain ⟨XX, hXX⟩ : ∃ X, wr.heap.size = X := ⟨_, rfl⟩
          rw [hXX] at hX ⊢
          replace hXX := Lib.hid hXX
          clear f0 f1 f2
          obtain ⟨k0, k1, k2, k3, k4, k5, k6, k7, kf, kl⟩ := cl8 hA.out
          obtain ⟨m0, m1, m2, mf, ml⟩ := cl3 hX.out
          clear d0 d1 d2 d3 d4 d5 d6 d7 d8 d9 d10 d11
          obtain ⟨d0, d1, d2, d3, d4, d5, d6, d7, d8, d9, d10, d11⟩ := htr.out _ hE.out.k
          obtain ⟨av16, Nv16, cv16, hbb, hB⟩ := hE.out.open
          obtain ⟨b0, bf, bl⟩ := cl1 hbb
          replace hbb := Lib.hid hbb
          replace hB := Lib.hid hB
          have hxl : (flatI [y0]).length ≤ 9 := flatI_len (L := [y0]) (by simp only [List.mem_cons, List.mem_singleton, List.not_mem_nil, or_false]; rintro z rfl <;> assumption)
          have hc := ints_c w (W0.alloc (.cells #[.int .i64 y0] 3)) BB (l15 ++ encXs (a.ins.take j)) _ [y0] (hE.out.keeps ((Keeps.refl [] W0).alloc (.cells #[.int .i64 y0] 3))) (made_ints W0 [y0] #[.int .i64 y0] 1 rfl rfl (by omega)) (by simp only [List.mem_cons, List.mem_singleton, List.not_mem_nil, or_false]; rintro z rfl <;> assumption) (by simp) (by omega)
          have hkm := ((Keeps.refl [] W0).alloc (.cells #[.int .i64 y0] 3)).kb8
          obtain ⟨l17, hl17⟩ : ∃ y, (l15 ++ encXs (a.ins.take j)) ++ flatI [y0] = y := ⟨_, rfl⟩
          have hn17 : l17.length ≤ (l15 ++ encXs (a.ins.take j)).length + 9 := by rw [← hl17, List.length_append]; omega
          rw [hl17] at hc
          replace hc := Lib.hid hc
          replace hl17 := Lib.hid hl17
          replace hkm := Lib.hid hkm
          clear hxl
          go_wp2_with fail
          refine hc.out.mono ?_
          rintro e w17 ⟨rfl, hE2, hK2⟩
          replace hK2 := Lib.hid (hkm.out.trans hK2)
          replace hE := Lib.hid hE2
          clear hc b0 bf bl hbb hB hE2 hkm
          replace hA := Lib.hid (hK2.out.b _ _ _ _ hA.out (by decide) (by decide))
          clear k0 k1 k2 k3 k4 k5 k6 k7 kf kl
          obtain ⟨k0, k1, k2, k3, k4, k5, k6, k7, kf, kl⟩ := cl8 hA.out
          replace hX := Lib.hid (hK2.out.b _ _ _ _ hX.out (by decide) (by decide))
          clear m0 m1 m2 mf ml
          obtain ⟨m0, m1, m2, mf, ml⟩ := cl3 hX.out
          go_upto_region 20 with fail
          clear hK2
          obtain ⟨av18, Nv18, cv18, hbb, hB⟩ := hE.out.open
          obtain ⟨b0, bf, bl⟩ := cl1 hbb
          replace hbb := Lib.hid hbb
          replace hB := Lib.hid hB
          clear d0 d1 d2 d3 d4 d5 d6 d7 d8 d9 d10 d11
          obtain ⟨d0, d1, d2, d3, d4, d5, d6, d7, d8, d9, d10, d11⟩ := htr.out _ hE.out.k
          have hxl : (encU y1).length ≤ 9 := encU_len v1
          have hc := hE.out.call hbb.out hB.out (appU_c w17 w.heap.size (Value.slice av18 Nv18 cv18) l17 y1 hB.out v1 (by omega) hE.out.k.size)
          obtain ⟨l19, hl19⟩ : ∃ y, l17 ++ encU y1 = y := ⟨_, rfl⟩
          have hn19 : l19.length ≤ l17.length + 9 := by rw [← hl19, List.length_append]; omega
          rw [hl19] at hc
          replace hc := Lib.hid hc
          replace hl19 := Lib.hid hl19
          clear hxl
          go_wp2_with fail
          refine hc.out.mono ?_
          rintro e w19 ⟨a19, N19, c19, rfl, hb2, hE2, hK2, hbb2, hB2, -⟩
          clear hc b0 bf bl hbb hB hE
          obtain ⟨d0, df, dl⟩ := cl1 hb2.out
          replace hA := Lib.hid (hK2.out.b _ _ _ _ hA.out (by decide) (by decide))
          clear k0 k1 k2 k3 k4 k5 k6 k7 kf kl
          obtain ⟨k0, k1, k2, k3, k4, k5, k6, k7, kf, kl⟩ := cl8 hA.out
          replace hX := Lib.hid (hK2.out.b _ _ _ _ hX.out (by decide) (by decide))
          clear m0 m1 m2 mf ml
          obtain ⟨m0, m1, m2, mf, ml⟩ := cl3 hX.out
          go_upto_region 21 with fail
          clear d0 df dl hb2 hK2
          generalize (w19.setCell ⟨BB, 0, none⟩ (.slice a19 N19 c19)) = W19 at *
          have hE := hE2
          have hbb := hbb2
          have hB := hB2
          clear hE2 hbb2 hB2
          obtain ⟨b0, bf, bl⟩ := cl1 hbb.out
          clear d0 d1 d2 d3 d4 d5 d6 d7 d8 d9 d10 d11
          obtain ⟨d0, d1, d2, d3, d4, d5, d6, d7, d8, d9, d10, d11⟩ := htr.out _ hE.out.k
          have hxl : (flatI [y2]).length ≤ 9 := flatI_len (L := [y2]) (by simp only [List.mem_cons, List.mem_singleton, List.not_mem_nil, or_false]; rintro z rfl <;> assumption)
          have hc := ints_c w (W19.alloc (.cells #[.int .i64 y2] 3)) BB l19 _ [y2] (hE.out.keeps ((Keeps.refl [] W19).alloc (.cells #[.int .i64 y2] 3))) (made_ints W19 [y2] #[.int .i64 y2] 1 rfl rfl (by omega)) (by simp only [List.mem_cons, List.mem_singleton, List.not_mem_nil, or_false]; rintro z rfl <;> assumption) (by simp) (by omega)
          have hkm := ((Keeps.refl [] W19).alloc (.cells #[.int .i64 y2] 3)).kb8
          obtain ⟨l20, hl20⟩ : ∃ y, l19 ++ flatI [y2] = y := ⟨_, rfl⟩
          have hn20 : l20.length ≤ l19.length + 9 := by rw [← hl20, List.length_append]; omega
          rw [hl20] at hc
          replace hc := Lib.hid hc
          replace hl20 := Lib.hid hl20
          replace hkm := Lib.hid hkm
          clear hxl
          go_wp2_with fail
          refine hc.out.mono ?_
          rintro e w20 ⟨rfl, hE2, hK2⟩
          replace hK2 := Lib.hid (hkm.out.trans hK2)
          replace hE := Lib.hid hE2
          clear hc b0 bf bl hbb hB hE2 hkm
          replace hA := Lib.hid (hK2.out.b _ _ _ _ hA.out (by decide) (by decide))
          clear k0 k1 k2 k3 k4 k5 k6 k7 kf kl
          obtain ⟨k0, k1, k2, k3, k4, k5, k6, k7, kf, kl⟩ := cl8 hA.out
          replace hX := Lib.hid (hK2.out.b _ _ _ _ hX.out (by decide) (by decide))
          clear m0 m1 m2 mf ml
          obtain ⟨m0, m1, m2, mf, ml⟩ := cl3 hX.out
          skip
          clear hK2
          obtain ⟨av21, Nv21, cv21, hbb, hB⟩ := hE.out.open
          obtain ⟨b0, bf, bl⟩ := cl1 hbb
          replace hbb := Lib.hid hbb
          replace hB := Lib.hid hB
          have hEn : EB w w20 BB (l15 ++ encXs (a.ins.take (j + 1))) := by
            have e := hE.out
            rw [← hl20.out, ← hl19.out, ← hl17.out] at e
            rw [encXs_take _ _ hjI, hy.out]
            simpa [flatI, encX, List.append_assoc] using e
          replace hEn := Lib.hid hEn
          go_wp2
          go_roundw
          case rel => exact ⟨j + 1, rfl, by omega, hEn, hA⟩
          case measure => simp [intOf]; omega
        · skip
          have hlj2 : ¬ ((j : Int) < e8) := by omega
          have hEn : EB w wr BB (l5 ++ encH (hist.take (k + 1))) := by
            have e := hE.out
            rw [List.take_of_length_le (by have := hNI.out; omega), ← hl15.out, ← hl13.out, ← hl12.out, ← hl10.out, ← hl9.out, ← hl7.out] at e
            rw [encH_take _ _ hkH, ha.out, hAe.out]
            simpa [flatI, List.append_assoc] using e
          replace hEn := Lib.hid hEn
          go_wp2
          go_roundw
          case rel => exact ⟨k + 1, rfl, by omega, hEn⟩
          case measure => simp [intOf]; omega
    · skip
      have hlt2 : ¬ ((k : Int) < N8) := by omega
      have hkN : k = hist.length := by have := hXl.out; omega
      rw [hkN, List.take_length] at hE hlenr
      obtain ⟨le, hle⟩ : ∃ y, l5 ++ encH hist = y := ⟨_, rfl⟩
      rw [hle] at hE hlenr
      replace hle := Lib.hid hle
      replace hkN := Lib.hid hkN
      obtain ⟨av22, Nv22, cv22, hbb, hB⟩ := hE.out.open
      obtain ⟨b0, bf, bl⟩ := cl1 hbb
      replace hbb := Lib.hid hbb
      replace hB := Lib.hid hB
      have hge2 := hBB.out
      go_upto_region 24 with fail
      have hED := hE.out.keeps (Keeps.refl [] wr).drew
      have hbbD : wr.drew.heap[BB]? = _ := hbb.out
      have hBD := hB.out.keep (Keeps.refl [] wr).drew
      have hxl : (encU NG).length ≤ 9 := encU_len (by omega)
      have hc := appU_c wr.drew w.heap.size (Value.slice av22 Nv22 cv22) le NG hBD (by omega) (by omega) hED.k.size
      have hlow := EPost.low hBD hED
      rw [hBB.out] at hlow
      have hsT : (Value.slice av22 Nv22 cv22).ownBlock ≠ some bt := fun e => by have := (hBD.tagB e).1; have := hBB.out; omega
      have hsB : (Value.slice av22 Nv22 cv22).ownBlock ≠ some BB := hBD.sep hbbD (by decide)
      replace hc := Lib.hid hc
      replace hlow := Lib.hid hlow
      replace hsT := Lib.hid hsT
      replace hsB := Lib.hid hsB
      replace hED := Lib.hid hED
      replace hBD := Lib.hid hBD
      clear hbbD
      refine Free.wp_region_chain (fun i => i == 7 || i == 12) (fun i => true) (fun j b => (j = 7 ∨ j = 12) ∧ ((Value.slice av22 Nv22 cv22).ownBlock = some b ∨ wr.heap.size ≤ b)) (by kernel_rfl) (by kernel_rfl) (by kernel_rfl) ?_
      (repeat (first | (apply Free.cw_pure rfl rfl; (intro w'; go_simp <;> exact rfl); go_frame) | (apply Free.cw_steady rfl rfl rfl; (intro w' hS; have q0 := Free.sx_cell hS b0 (fun j hp hT => by rcases hT with ⟨_, hT | hT⟩; exact hsB.out hT; omega); have q1 := Free.sx_cell hS d10 (fun _ _ hT => by rcases hT with ⟨_, hT | hT⟩; exact hsT.out hT; omega); have q2 := Free.sx_cell hS d11 (fun _ _ hT => by rcases hT with ⟨_, hT | hT⟩; exact hsT.out hT; omega); go_simp <;> exact rfl); go_frame) | (refine Free.cw_skip rfl ?_; go_frame)))
      refine Free.cw_loud rfl rfl (fun K hK => ?_)
      go_wp2_with fail
      refine hc.out.mono ?_
      rintro e wA ⟨v1, rfl, hB1, hG1⟩
      have hkp : Free.KeepsP (fun b => ((Value.slice av22 Nv22 cv22)).ownBlock = some b ∨ wr.heap.size ≤ b) wr.drew wA := Free.KeepsP.of hG1.keepsO (fun b hb => .inl (by simpa using hb))
      refine hK _ _ rfl (hkp.mono (fun b hb => ⟨.inl trivial, hb⟩)) ?_
      clear hK K hkp hc
      have hs1 : wr.heap.size ≤ wA.heap.size := hG1.keepsO.size
      have hsw : w.heap.size ≤ wr.heap.size := hED.out.k.size
      have hxl2 : (encB rf).length ≤ 9 := (by simp [encB])
      have hlv : (le ++ encU NG).length ≤ 140737488355000 := by rw [List.length_append]; omega
      have hc := appB_c wA w.heap.size v1 (le ++ encU NG) rf hB1  hlv (Nat.le_trans hsw hs1)
      replace hc := Lib.hid hc
      replace hB1 := Lib.hid hB1
      replace hG1 := Lib.hid hG1
      (repeat (first | (apply Free.cw_pure rfl rfl; (intro w'; go_simp <;> exact rfl); go_frame) | (apply Free.cw_steady rfl rfl rfl; (intro w' hS; have q0 := Free.sx_cell hS b0 (fun j hp hT => by rcases hT with ⟨_, hT | hT⟩; exact hsB.out hT; omega); have q1 := Free.sx_cell hS d10 (fun _ _ hT => by rcases hT with ⟨_, hT | hT⟩; exact hsT.out hT; omega); have q2 := Free.sx_cell hS d11 (fun _ _ hT => by rcases hT with ⟨_, hT | hT⟩; exact hsT.out hT; omega); go_simp <;> exact rfl); go_frame) | (refine Free.cw_skip rfl ?_; go_frame)))
      refine Free.cw_loud rfl rfl (fun K hK => ?_)
      go_wp2_with fail
      refine hc.out.mono ?_
      rintro e w23 ⟨v2, rfl, hB2, hG2⟩
      have hkp : Free.KeepsP (fun b => ((Value.slice av22 Nv22 cv22)).ownBlock = some b ∨ wr.heap.size ≤ b) wA w23 := Free.KeepsP.of hG2.keepsO (fun b hb => by
          rcases hG1.out.own with e | ⟨q, e, hq⟩
          · rw [e] at hb; exact .inl (by simpa using hb)
          · rw [e] at hb; simp at hb; subst hb; exact .inr hq)
      refine hK _ _ rfl (hkp.mono (fun b hb => ⟨.inr trivial, hb⟩)) ?_
      clear hK K hkp hc
      have hEP := hED.out.post (w := wr.drew) hbb.out hBD.out hB2 (hG1.out.trans hG2)
      obtain ⟨a23, N23, c23, he, hb2, hE2, hK2, hbb2, hB3, -⟩ := hEP
      cases he
      obtain ⟨l23, hl23⟩ : ∃ y, le ++ encU NG ++ encB rf = y := ⟨_, rfl⟩
      have hn23 : l23.length ≤ le.length + 18 := by rw [← hl23, List.length_append, List.length_append]; omega
      rw [hl23] at hE2 hB2 hB3
      have hkf := Lib.hid (hED.out.k.fresh ((hG1.out.trans hG2).keepsO) (fun b hm => .inr (hBD.out.tagB (by simpa using hm)).1))
      replace hB2 := Lib.hid hB2
      clear hB3 hb2 hE2 hK2 hbb2 hG1 hG2 hB1 hED hBD hlow hsT hsB b0 bf bl hbb hB hE hs1 hsw hlv hxl hxl2
      replace hl23 := Lib.hid hl23
      (repeat (apply Free.cw_pure rfl rfl; (intro w'; go_simp <;> exact rfl); go_frame))
      refine Free.cw_nil ?_
      go_wp2
      go_ret
      refine ⟨_, rfl, ?_, hkf.out⟩
      rw [← hfin.out l23 (by rw [← hl23.out, ← hle.out]; rw [← hl5.out, ← hl3.out, ← hl2.out, ← hl1.out]; simp [flatI, List.append_assoc])]
      exact hB2.out
end Go.Proofs.Ythfdngjbcgkkfaa

namespace Go.Proofs.Ythfdngjbcgkkfaa
open Go.RowKit
abbrev Qs := List (Qn × Option Ans)

def setQ (q : Qn) (a : Ans) (qs : Qs) : Qs := qs.map (fun p => if p.1 = q then (q, some a) else p)
def openQ (m : Int) (qs : Qs) (x : T3) : Qs := if (x.1, m, x.2.1) ∈ qs.map (·.1) then qs else qs ++ [((x.1, m, x.2.1), none)]
def Ans.odd (m ep : Int) (x : Ans) : Bool := x.m == m && x.ep != ep
def allQ (qs : Qs) : Bool := qs.all (fun p => p.2.isSome)
/-- A question is open. -/
def isOpen (q : Qn) (qs : Qs) : Bool := decide ((q, none) ∈ qs)
instance : DecidableEq (Qn × Option Ans) := inferInstance
def Tr.close (t : Tr) : Tr := if allQ t.qs then { t with state := 1 } else t
def Tr.take (t : Tr) (a : Ans) : Tr := { t with hist := t.hist ++ [a] }
def Tr.put (t : Tr) (a : Ans) : Tr := { t with qs := a.ins.foldl (openQ a.m) (setQ a.q a t.qs) }
def Tr.answer (t : Tr) (a : Ans) : Tr × Int :=
  if t.state ≠ 0 then (t, 9) else if isOpen a.q t.qs = false then (t, 6) else
  if a.kn = false then ({ t.take a with state := 4 }, 0) else if a.rt = true then ({ t.take a with state := 3 }, 0) else
  if (t.hist ++ [a]).any (Ans.odd a.m a.ep) then ({ t.take a with state := 4 }, 0) else (((t.take a).put a).close, 0)
theorem setQ_keys (q : Qn) (a : Ans) : ∀ qs : Qs, (setQ q a qs).map (·.1) = qs.map (·.1)
  | [] => rfl
  | (x, u) :: r => by
    have ih := setQ_keys q a r
    unfold setQ at ih ⊢
    simp only [List.map_cons]
    rw [ih]
    split
    · rename_i e; rw [e]
    · rfl
theorem recOf_keys {qs : Qs} {q : Qn} {a : Ans} : (q, a) ∈ recOf qs ↔ (q, some a) ∈ qs := by
  unfold recOf
  rw [List.mem_filterMap]
  constructor
  · rintro ⟨⟨x, o⟩, h1, h2⟩
    cases o with
    | none => cases h2
    | some b => simp at h2; obtain ⟨rfl, rfl⟩ := h2; exact h1
  · intro h
    exact ⟨_, h, rfl⟩
theorem recOf_sub : ∀ qs : Qs, ((recOf qs).map (·.1)).Sublist (qs.map (·.1))
  | [] => List.Sublist.slnil
  | (x, none) :: r => by
    have ih := recOf_sub r
    unfold recOf at ih ⊢
    exact List.Sublist.cons _ ih
  | (x, some a) :: r => by
    have ih := recOf_sub r
    unfold recOf at ih ⊢
    exact List.Sublist.cons_cons _ ih
theorem recOf_nd {qs : Qs} (h : (qs.map (·.1)).Nodup) : MapS.ND (recOf qs) := h.sublist (recOf_sub qs)
theorem nd_val {qs : Qs} (h : (qs.map (·.1)).Nodup) {q : Qn} {u v : Option Ans} (h1 : (q, u) ∈ qs) (h2 : (q, v) ∈ qs) : u = v := by
  have e1 := MapS.get_of_mem (L := qs) h h1
  have e2 := MapS.get_of_mem (L := qs) h h2
  rw [e1] at e2; cases e2; rfl
theorem rec_len : ∀ qs : Qs, (recOf qs).length ≤ qs.length ∧ ((recOf qs).length = qs.length ↔ allQ qs = true)
  | [] => ⟨Nat.le_refl _, by simp [recOf, allQ]⟩
  | (x, none) :: r => by
    obtain ⟨h1, h2⟩ := rec_len r
    have e : recOf ((x, none) :: r) = recOf r := rfl
    rw [e]
    refine ⟨by simp; omega, ?_⟩
    simp [allQ]; omega
  | (x, some a) :: r => by
    obtain ⟨h1, h2⟩ := rec_len r
    have e : recOf ((x, some a) :: r) = (x, a) :: recOf r := rfl
    rw [e]
    refine ⟨by simp; omega, ?_⟩
    have e2 : allQ ((x, some a) :: r) = allQ r := by simp [allQ]
    rw [e2, ← h2]; simp
theorem setQ_same {q : Qn} {a : Ans} : ∀ {qs : Qs}, q ∉ qs.map (·.1) → setQ q a qs = qs
  | [], _ => rfl
  | (x, u) :: r, h => by
    have ih := setQ_same (q := q) (a := a) (qs := r) (fun hm => h (List.mem_cons_of_mem _ hm))
    unfold setQ at ih ⊢
    rw [List.map_cons, ih, if_neg (fun e => h (by have e2 : x = q := e; rw [← e2]; simp))]
theorem setQ_cons (q x : Qn) (a : Ans) (u : Option Ans) (r : Qs) : setQ q a ((x, u) :: r) = (if x = q then (q, some a) else (x, u)) :: setQ q a r := rfl
theorem recOf_some (x : Qn) (a : Ans) (r : Qs) : recOf ((x, some a) :: r) = (x, a) :: recOf r := rfl
theorem recOf_none (x : Qn) (r : Qs) : recOf ((x, none) :: r) = recOf r := rfl
theorem setQ_len {q : Qn} {a : Ans} : ∀ {qs : Qs}, (qs.map (·.1)).Nodup → (q, none) ∈ qs → (recOf (setQ q a qs)).length = (recOf qs).length + 1
  | [], _, h => by simp at h
  | (x, u) :: r, hn, h => by
    obtain ⟨h1, h2⟩ := List.nodup_cons.1 hn
    rw [setQ_cons]
    rcases List.mem_cons.1 h with e | hm
    · cases e
      rw [if_pos rfl, setQ_same h1, recOf_some, recOf_none]; rfl
    · have hx : x ≠ q := fun e => h1 (List.mem_map.2 ⟨(q, none), hm, e.symm⟩)
      have ih := setQ_len (a := a) h2 hm
      rw [if_neg hx]
      cases u with
      | none => rw [recOf_none, recOf_none]; exact ih
      | some b => rw [recOf_some, recOf_some, List.length_cons, List.length_cons, ih]
theorem setQ_mem {q : Qn} {a : Ans} {qs : Qs} (hq : q ∈ qs.map (·.1)) (k : Qn) (u : Option Ans) : (k, u) ∈ setQ q a qs ↔ (k = q ∧ u = some a) ∨ (k ≠ q ∧ (k, u) ∈ qs) := by
  unfold setQ
  rw [List.mem_map]
  constructor
  · rintro ⟨⟨x, v⟩, h1, h2⟩
    simp only at h2
    split at h2
    · cases h2; exact .inl ⟨rfl, rfl⟩
    · cases h2; rename_i hne; exact .inr ⟨hne, h1⟩
  · rintro (⟨rfl, rfl⟩ | ⟨h1, h2⟩)
    · obtain ⟨⟨x, v⟩, h3, h4⟩ := List.mem_map.1 hq
      simp only at h4
      subst h4
      exact ⟨(x, v), h3, by simp⟩
    · exact ⟨(k, u), h2, by simp [h1]⟩
theorem get_rec {qs : Qs} (h : (qs.map (·.1)).Nodup) (k : Qn) (a : Ans) : MapS.get k (recOf qs) = some a ↔ (k, some a) ∈ qs := by
  rw [MapS.get_iff (recOf_nd h), recOf_keys]
theorem get_setQ {q : Qn} {a : Ans} {qs : Qs} (h : (qs.map (·.1)).Nodup) (hq : q ∈ qs.map (·.1)) (k : Qn) : MapS.get k (recOf (setQ q a qs)) = if k = q then some a else MapS.get k (recOf qs) := by
  have h' : ((setQ q a qs).map (·.1)).Nodup := by rw [setQ_keys]; exact h
  refine Option.ext fun b => ?_
  rw [get_rec h', setQ_mem hq]
  by_cases e : k = q
  · subst e
    simp [eq_comm]
  · rw [if_neg e, get_rec h]
    simp [e]
theorem openQ_rec (m : Int) (qs : Qs) (x : T3) : recOf (openQ m qs x) = recOf qs := by
  unfold openQ
  split
  · rfl
  · unfold recOf; simp
theorem openQ_nd {m : Int} {qs : Qs} {x : T3} (h : (qs.map (·.1)).Nodup) : ((openQ m qs x).map (·.1)).Nodup := by
  unfold openQ
  split
  · exact h
  · rename_i hn
    rw [List.map_append, List.nodup_append]
    exact ⟨h, by simp, fun a ha b hb e => by simp at hb; subst hb; subst e; exact hn ha⟩
theorem openQ_keys (m : Int) (qs : Qs) (x : T3) : (openQ m qs x).map (·.1) = if (x.1, m, x.2.1) ∈ qs.map (·.1) then qs.map (·.1) else qs.map (·.1) ++ [(x.1, m, x.2.1)] := by
  unfold openQ
  split <;> simp
theorem openQ_len (m : Int) (qs : Qs) (x : T3) : (openQ m qs x).length ≤ qs.length + 1 := by unfold openQ; split <;> simp
theorem fold_rec (m : Int) : ∀ (l : List T3) (qs : Qs), recOf (l.foldl (openQ m) qs) = recOf qs
  | [], _ => rfl
  | x :: t, qs => by rw [List.foldl_cons, fold_rec m t, openQ_rec]
theorem fold_nd (m : Int) : ∀ (l : List T3) (qs : Qs), (qs.map (·.1)).Nodup → ((l.foldl (openQ m) qs).map (·.1)).Nodup
  | [], _, h => h
  | x :: t, qs, h => by rw [List.foldl_cons]; exact fold_nd m t _ (openQ_nd h)
theorem fold_len (m : Int) : ∀ (l : List T3) (qs : Qs), (l.foldl (openQ m) qs).length ≤ qs.length + l.length
  | [], _ => by simp
  | x :: t, qs => by
    rw [List.foldl_cons]
    have := fold_len m t (openQ m qs x)
    have := openQ_len m qs x
    simp; omega
theorem fold_ok (m : Int) (hm : W64 m) : ∀ (l : List T3) (qs : Qs), (∀ x ∈ l, W64 x.1 ∧ x.2.1 < 18446744073709551616 ∧ W64 x.2.2) → (∀ q ∈ qs.map (·.1), qOk q) → ∀ q ∈ (l.foldl (openQ m) qs).map (·.1), qOk q
  | [], _, _, h => h
  | x :: t, qs, hl, h => by
    rw [List.foldl_cons]
    refine fold_ok m hm t _ (fun y hy => hl y (List.mem_cons_of_mem _ hy)) (fun q hq => ?_)
    rw [openQ_keys] at hq
    split at hq
    · exact h q hq
    · rcases List.mem_append.1 hq with hq | hq
      · exact h q hq
      · simp at hq
        subst hq
        have := hl x (by simp)
        exact ⟨this.1, hm, this.2.1⟩
/-- An answer keeps what holds of a trace. -/
theorem Tr.Inv.take {t : Tr} {a : Ans} (h : t.Inv) (ha : a.Ok) : (t.take a).Inv := ⟨h.ok, h.nd, h.rq, h.rk, fun b hb => by rcases List.mem_append.1 hb with hb | hb; exact h.hi b hb; simp at hb; subst hb; exact ha, h.ro⟩
theorem Tr.Inv.state {t : Tr} (h : t.Inv) (s : Int) : Tr.Inv { t with state := s } := ⟨h.ok, h.nd, h.rq, h.rk, h.hi, h.ro⟩
theorem isOpen_mem {q : Qn} {qs : Qs} : isOpen q qs = true ↔ (q, none) ∈ qs := by unfold isOpen; simp
theorem Tr.Inv.put {t : Tr} {a : Ans} (h : t.Inv) (ha : a.Ok) (hk : a.kn = true) (ho : isOpen a.q t.qs = true) : (t.put a).Inv := by
  have hm := isOpen_mem.1 ho
  have hq : a.q ∈ t.qs.map (·.1) := List.mem_map.2 ⟨_, hm, rfl⟩
  have hr : (t.put a).rec' = recOf (setQ a.q a t.qs) := fold_rec _ _ _
  have hnd : ((setQ a.q a t.qs).map (·.1)).Nodup := by rw [setQ_keys]; exact h.nd
  have hmem : ∀ p ∈ (t.put a).rec', (p.1 = a.q ∧ p.2 = a) ∨ p ∈ t.rec' := fun p hp => by
    rw [hr] at hp
    obtain ⟨k, b⟩ := p
    rcases (setQ_mem hq k (some b)).1 (recOf_keys.1 hp) with ⟨h1, h2⟩ | ⟨_, h2⟩
    · exact .inl ⟨h1, by simpa using h2⟩
    · exact .inr (recOf_keys.2 h2)
  refine ⟨fold_ok a.m ha.q.1 _ _ ha.ins (by rw [setQ_keys]; exact h.ok), fold_nd _ _ _ hnd, fun p hp => ?_, fun p hp => ?_, h.hi, fun p hp => ?_⟩
  · rcases hmem p hp with ⟨h1, h2⟩ | h1
    · rw [h1, h2]
    · exact h.rq p h1
  · rcases hmem p hp with ⟨h1, h2⟩ | h1
    · rw [h2]; exact hk
    · exact h.rk p h1
  · rcases hmem p hp with ⟨h1, h2⟩ | h1
    · rw [h2]; exact ha
    · exact h.ro p h1
end Go.Proofs.Ythfdngjbcgkkfaa
