/- Texts that the laws lean on, in the order in which they build. The sorts of answers and of needs. A trace in memory. Answering a trace: the plain function and its laws. New, ID, Start, State, Agreed; a copy of an answer. Whether a list of answers holds one of a machine with another epoch. What writing a trace's blocks leaves. Trace.Answer. Trace.Queries. An iteration over a map with keys of any kind: what keeps it. Trace.answers: the recorded answers in their order. Claims in memory, as they are gathered. What the claims are gathered from: the plain functions. A row of the claims; what the recorded map says of the last use. -/
import Derived.Test.YtiplgpefapeapaaGreatE2
import Derived.Shelf.SlSortCmp.NoneTotal
import Derived.Laws.Rows
set_option linter.unusedVariables false
set_option linter.unusedSimpArgs false
namespace Go.Proofs.YtiplgpefapeapaaGreat
open Go.RowKit Go.Sort Go.Shelf Go.Proofs

theorem cells8t {w : World} {b : Nat} {x0 x1 x2 x3 x4 x5 x6 x7 : Value} {t : TypeId} {f : Nat × Nat} (h : w.heap[b]? = some (.cells #[x0, x1, x2, x3, x4, x5, x6, x7] t f)) : w.cell? ⟨b, 0, none⟩ = some x0 ∧ w.cell? ⟨b, 1, none⟩ = some x1 ∧ w.cell? ⟨b, 2, none⟩ = some x2 :=
  ⟨by simp [World.cell?, h], by simp [World.cell?, h], by simp [World.cell?, h]⟩
def cfA (x y : AnV) : Int := orL [cI x.m y.m, cI x.ow y.ow, cI x.n y.n]
def cfT (x y : T3) : Int := orL [cI x.1 y.1, cI x.2.1 y.2.1]
theorem shZ_of3 (w : World) (a b c : Int) (t : TypeId) : shZ.R (w.alloc (.cells #[.int .i64 a, .int .i64 b, .int .i64 c] t)) (.slice (some ⟨w.heap.size, 0, none⟩) 3 3) [a, b, c] :=
  Sh.R.made shZ w [a, b, c] #[.int .i64 a, .int .i64 b, .int .i64 c] t rfl (by simp [maxLen]) 3 rfl
theorem shZ_of2 (w : World) (a b : Int) (t : TypeId) : shZ.R (w.alloc (.cells #[.int .i64 a, .int .i64 b] t)) (.slice (some ⟨w.heap.size, 0, none⟩) 2 2) [a, b] :=
  Sh.R.made shZ w [a, b] #[.int .i64 a, .int .i64 b] t rfl (by simp [maxLen]) 2 rfl
set_option maxRecDepth 100000 in
set_option maxHeartbeats 2000000 in
theorem cmpT_c (x y : T3) (w : World) : Calls Tryz.prog 90 #[tV x, tV y] w fun e w' => e = .returned (.int .i64 (cfT x y)) ∧ ∃ q os, w' = grow (w.drewN q) os := by
  obtain ⟨x0, x1, x2⟩ := x
  obtain ⟨y0, y1, y2⟩ := y
  obtain ⟨r, hr⟩ : ∃ r, cfT (x0, x1, x2) (y0, y1, y2) = r := ⟨_, rfl⟩
  rw [hr]
  replace hr := Lib.hid hr
  have hk2 : Keeps [] (w.alloc (.cells #[.int .i64 x0, .int .u64 x1, .int .i64 x2] tN)) ((w.alloc (.cells #[.int .i64 x0, .int .u64 x1, .int .i64 x2] tN)).alloc (.cells #[.int .i64 y0, .int .u64 y1, .int .i64 y2] tN)) := (Keeps.refl _ _).alloc _
  have b1 := (hk2.block w.heap.size (by simp) (by simp)).trans (heap_alloc_new w (.cells #[.int .i64 x0, .int .u64 x1, .int .i64 x2] tN))
  have b2 := heap_alloc_new (w.alloc (.cells #[.int .i64 x0, .int .u64 x1, .int .i64 x2] tN)) (.cells #[.int .i64 y0, .int .u64 y1, .int .i64 y2] tN)
  rw [show (w.alloc (.cells #[.int .i64 x0, .int .u64 x1, .int .i64 x2] tN)).heap.size = w.heap.size + 1 by simp] at b2
  have hgr : (w.alloc (.cells #[.int .i64 x0, .int .u64 x1, .int .i64 x2] tN)).alloc (.cells #[.int .i64 y0, .int .u64 y1, .int .i64 y2] tN) = grow w #[.cells #[.int .i64 x0, .int .u64 x1, .int .i64 x2] tN, .cells #[.int .i64 y0, .int .u64 y1, .int .i64 y2] tN] := by
    rw [alloc_eq_grow, alloc_eq_grow, grow_grow]; rfl
  replace hgr := Lib.hid hgr
  go_enter Tryz.func90, Tryz.ntmps90
  go_wp2
  generalize (w.alloc (.cells #[.int .i64 x0, .int .u64 x1, .int .i64 x2] tN)).alloc (.cells #[.int .i64 y0, .int .u64 y1, .int .i64 y2] tN) = W at *
  obtain ⟨p0, p1, _⟩ := cells3t b1
  obtain ⟨s0, s1, _⟩ := cells3t b2
  clear b1 b2 hk2
  refine Free.wp_region_chain (fun i => i == 4 || i == 9 || i == 10 || i == 11) (fun i => true) (fun _ _ => False) (by kernel_rfl) (by kernel_rfl) (by kernel_rfl) ?_
  (repeat (first | (apply Free.cw_pure rfl rfl; (intro w'; go_simp <;> exact rfl); go_frame) | (apply Free.cw_steady rfl rfl rfl; (intro w' hS; have q0 := Free.sx_cell hS p0 (fun _ _ hT => hT); have q1 := Free.sx_cell hS p1 (fun _ _ hT => hT); have q2 := Free.sx_cell hS s0 (fun _ _ hT => hT); have q3 := Free.sx_cell hS s1 (fun _ _ hT => hT); go_simp <;> exact rfl); go_frame) | (refine Free.cw_skip rfl ?_; go_frame)))
  refine Free.cw_loud rfl rfl (fun K hK => ?_)
  go_wp2_with fail
  refine (compareI_c x0 y0 _).mono ?_
  rintro e _ ⟨rfl, rfl⟩
  refine hK _ _ rfl (Free.KeepsP.refl _ _) ?_
  clear hK K
  (repeat (first | (apply Free.cw_pure rfl rfl; (intro w'; go_simp <;> exact rfl); go_frame) | (apply Free.cw_steady rfl rfl rfl; (intro w' hS; have q0 := Free.sx_cell hS p0 (fun _ _ hT => hT); have q1 := Free.sx_cell hS p1 (fun _ _ hT => hT); have q2 := Free.sx_cell hS s0 (fun _ _ hT => hT); have q3 := Free.sx_cell hS s1 (fun _ _ hT => hT); go_simp <;> exact rfl); go_frame) | (refine Free.cw_skip rfl ?_; go_frame)))
  refine Free.cw_loud rfl rfl (fun K hK => ?_)
  go_wp2_with fail
  refine (compareU_c x1 y1 _).mono ?_
  rintro e _ ⟨rfl, rfl⟩
  refine hK _ _ rfl (Free.KeepsP.refl _ _) ?_
  clear hK K
  (repeat (first | (apply Free.cw_pure rfl rfl; (intro w'; go_simp <;> exact rfl); go_frame) | (apply Free.cw_steady rfl rfl rfl; (intro w' hS; have q0 := Free.sx_cell hS p0 (fun _ _ hT => hT); have q1 := Free.sx_cell hS p1 (fun _ _ hT => hT); have q2 := Free.sx_cell hS s0 (fun _ _ hT => hT); have q3 := Free.sx_cell hS s1 (fun _ _ hT => hT); go_simp <;> exact rfl); go_frame) | (refine Free.cw_skip rfl ?_; go_frame)))
  refine Free.cw_loud rfl rfl (fun K hK => ?_)
  go_wp2
  refine hK _ _ rfl (Free.KeepsP.alloc _ _ _) ?_
  clear hK K
  (repeat (apply Free.cw_pure rfl rfl; (intro w'; go_simp <;> exact rfl); go_frame))
  refine Free.cw_loud rfl rfl (fun K hK => ?_)
  go_wp2_with fail
  refine (or_c _ _ _ ((shZ_of2 W (cI x0 y0) (cI x1 y1) 3).keeps ((Keeps.refl [] _).drew))).mono ?_
  rintro e _ ⟨rfl, rfl⟩
  refine hK _ _ rfl (Free.KeepsP.refl _ _) ?_
  clear hK K
  (repeat (apply Free.cw_pure rfl rfl; (intro w'; go_simp <;> exact rfl); go_frame))
  refine Free.cw_nil ?_
  go_wp2
  go_ret
  exact ⟨by rw [← hr.out]; rfl, 1, _, by rw [hgr.out, alloc_eq_grow, grow_grow]; rfl⟩
set_option maxRecDepth 100000 in
set_option maxHeartbeats 2000000 in
theorem cmpA_c (x y : AnV) (w : World) : Calls Tryz.prog 95 #[aV x, aV y] w fun e w' => e = .returned (.int .i64 (cfA x y)) ∧ ∃ q os, w' = grow (w.drewN q) os := by
  obtain ⟨r, hr⟩ : ∃ r, cfA x y = r := ⟨_, rfl⟩
  rw [hr]
  obtain ⟨x0, x1, x2, x3, x4, x5, x6, x7, x8, x9⟩ := x
  obtain ⟨y0, y1, y2, y3, y4, y5, y6, y7, y8, y9⟩ := y
  replace hr := Lib.hid hr
  have hk2 : Keeps [] (w.alloc (.cells #[.int .i64 x0, .int .i64 x1, .int .u64 x2, .int .i64 x3, .bool x4, .bool x5, .int .i64 x6, .slice x7 x8 x9] tA)) ((w.alloc (.cells #[.int .i64 x0, .int .i64 x1, .int .u64 x2, .int .i64 x3, .bool x4, .bool x5, .int .i64 x6, .slice x7 x8 x9] tA)).alloc (.cells #[.int .i64 y0, .int .i64 y1, .int .u64 y2, .int .i64 y3, .bool y4, .bool y5, .int .i64 y6, .slice y7 y8 y9] tA)) := (Keeps.refl _ _).alloc _
  have b1 := (hk2.block w.heap.size (by simp) (by simp)).trans (heap_alloc_new w (.cells #[.int .i64 x0, .int .i64 x1, .int .u64 x2, .int .i64 x3, .bool x4, .bool x5, .int .i64 x6, .slice x7 x8 x9] tA))
  have b2 := heap_alloc_new (w.alloc (.cells #[.int .i64 x0, .int .i64 x1, .int .u64 x2, .int .i64 x3, .bool x4, .bool x5, .int .i64 x6, .slice x7 x8 x9] tA)) (.cells #[.int .i64 y0, .int .i64 y1, .int .u64 y2, .int .i64 y3, .bool y4, .bool y5, .int .i64 y6, .slice y7 y8 y9] tA)
  rw [show (w.alloc (.cells #[.int .i64 x0, .int .i64 x1, .int .u64 x2, .int .i64 x3, .bool x4, .bool x5, .int .i64 x6, .slice x7 x8 x9] tA)).heap.size = w.heap.size + 1 by simp] at b2
  have hgr : (w.alloc (.cells #[.int .i64 x0, .int .i64 x1, .int .u64 x2, .int .i64 x3, .bool x4, .bool x5, .int .i64 x6, .slice x7 x8 x9] tA)).alloc (.cells #[.int .i64 y0, .int .i64 y1, .int .u64 y2, .int .i64 y3, .bool y4, .bool y5, .int .i64 y6, .slice y7 y8 y9] tA) = grow w #[.cells #[.int .i64 x0, .int .i64 x1, .int .u64 x2, .int .i64 x3, .bool x4, .bool x5, .int .i64 x6, .slice x7 x8 x9] tA, .cells #[.int .i64 y0, .int .i64 y1, .int .u64 y2, .int .i64 y3, .bool y4, .bool y5, .int .i64 y6, .slice y7 y8 y9] tA] := by
    rw [alloc_eq_grow, alloc_eq_grow, grow_grow]; rfl
  replace hgr := Lib.hid hgr
  simp only [aV, AnV.v]
  go_enter Tryz.func95, Tryz.ntmps95
  go_wp2
  generalize (w.alloc (.cells #[.int .i64 x0, .int .i64 x1, .int .u64 x2, .int .i64 x3, .bool x4, .bool x5, .int .i64 x6, .slice x7 x8 x9] tA)).alloc (.cells #[.int .i64 y0, .int .i64 y1, .int .u64 y2, .int .i64 y3, .bool y4, .bool y5, .int .i64 y6, .slice y7 y8 y9] tA) = W at *
  obtain ⟨p0, p1, p2⟩ := cells8t b1
  obtain ⟨s0, s1, s2⟩ := cells8t b2
  clear b1 b2 hk2
  refine Free.wp_region_chain (fun i => i == 4 || i == 9 || i == 14 || i == 15 || i == 16) (fun i => true) (fun _ _ => False) (by kernel_rfl) (by kernel_rfl) (by kernel_rfl) ?_
  (repeat (first | (apply Free.cw_pure rfl rfl; (intro w'; go_simp <;> exact rfl); go_frame) | (apply Free.cw_steady rfl rfl rfl; (intro w' hS; have q0 := Free.sx_cell hS p0 (fun _ _ hT => hT); have q1 := Free.sx_cell hS p1 (fun _ _ hT => hT); have q2 := Free.sx_cell hS p2 (fun _ _ hT => hT); have q3 := Free.sx_cell hS s0 (fun _ _ hT => hT); have q4 := Free.sx_cell hS s1 (fun _ _ hT => hT); have q5 := Free.sx_cell hS s2 (fun _ _ hT => hT); go_simp <;> exact rfl); go_frame) | (refine Free.cw_skip rfl ?_; go_frame)))
  refine Free.cw_loud rfl rfl (fun K hK => ?_)
  go_wp2_with fail
  refine (compareI_c x0 y0 _).mono ?_
  rintro e _ ⟨rfl, rfl⟩
  refine hK _ _ rfl (Free.KeepsP.refl _ _) ?_
  clear hK K
  (repeat (first | (apply Free.cw_pure rfl rfl; (intro w'; go_simp <;> exact rfl); go_frame) | (apply Free.cw_steady rfl rfl rfl; (intro w' hS; have q0 := Free.sx_cell hS p0 (fun _ _ hT => hT); have q1 := Free.sx_cell hS p1 (fun _ _ hT => hT); have q2 := Free.sx_cell hS p2 (fun _ _ hT => hT); have q3 := Free.sx_cell hS s0 (fun _ _ hT => hT); have q4 := Free.sx_cell hS s1 (fun _ _ hT => hT); have q5 := Free.sx_cell hS s2 (fun _ _ hT => hT); go_simp <;> exact rfl); go_frame) | (refine Free.cw_skip rfl ?_; go_frame)))
  refine Free.cw_loud rfl rfl (fun K hK => ?_)
  go_wp2_with fail
  refine (compareI_c x1 y1 _).mono ?_
  rintro e _ ⟨rfl, rfl⟩
  refine hK _ _ rfl (Free.KeepsP.refl _ _) ?_
  clear hK K
  (repeat (first | (apply Free.cw_pure rfl rfl; (intro w'; go_simp <;> exact rfl); go_frame) | (apply Free.cw_steady rfl rfl rfl; (intro w' hS; have q0 := Free.sx_cell hS p0 (fun _ _ hT => hT); have q1 := Free.sx_cell hS p1 (fun _ _ hT => hT); have q2 := Free.sx_cell hS p2 (fun _ _ hT => hT); have q3 := Free.sx_cell hS s0 (fun _ _ hT => hT); have q4 := Free.sx_cell hS s1 (fun _ _ hT => hT); have q5 := Free.sx_cell hS s2 (fun _ _ hT => hT); go_simp <;> exact rfl); go_frame) | (refine Free.cw_skip rfl ?_; go_frame)))
  refine Free.cw_loud rfl rfl (fun K hK => ?_)
  go_wp2_with fail
  refine (compareU_c x2 y2 _).mono ?_
  rintro e _ ⟨rfl, rfl⟩
  refine hK _ _ rfl (Free.KeepsP.refl _ _) ?_
  clear hK K
  (repeat (apply Free.cw_pure rfl rfl; (intro w'; go_simp <;> exact rfl); go_frame))
  refine Free.cw_loud rfl rfl (fun K hK => ?_)
  go_wp2
  refine hK _ _ rfl (Free.KeepsP.alloc _ _ _) ?_
  clear hK K
  (repeat (apply Free.cw_pure rfl rfl; (intro w'; go_simp <;> exact rfl); go_frame))
  refine Free.cw_loud rfl rfl (fun K hK => ?_)
  go_wp2_with fail
  refine (or_c _ _ _ ((shZ_of3 W (cI x0 y0) (cI x1 y1) (cI x2 y2) 3).keeps ((Keeps.refl [] _).drew))).mono ?_
  rintro e _ ⟨rfl, rfl⟩
  refine hK _ _ rfl (Free.KeepsP.refl _ _) ?_
  clear hK K
  (repeat (apply Free.cw_pure rfl rfl; (intro w'; go_simp <;> exact rfl); go_frame))
  refine Free.cw_nil ?_
  go_wp2
  go_ret
  exact ⟨by rw [← hr.out]; rfl, 1, _, by rw [hgr.out, alloc_eq_grow, grow_grow]; rfl⟩
/-- The orders. -/
def qlt (x y : Qn) : Prop := x.1 < y.1 ∨ (x.1 = y.1 ∧ (x.2.1 < y.2.1 ∨ (x.2.1 = y.2.1 ∧ x.2.2 < y.2.2)))
instance : DecidableRel qlt := fun _ _ => inferInstanceAs (Decidable (_ ∨ _))
def tlt (x y : T3) : Prop := x.1 < y.1 ∨ (x.1 = y.1 ∧ x.2.1 < y.2.1)
instance : DecidableRel tlt := fun _ _ => inferInstanceAs (Decidable (_ ∨ _))
def AnV.q (x : AnV) : Qn := (x.m, x.ow, x.n)
theorem cI_lt (x y : Int) : cI x y < 0 ↔ x < y := by unfold cI; split <;> (try split) <;> omega
theorem cI_zero (x y : Int) : cI x y = 0 ↔ x = y := by unfold cI; split <;> (try split) <;> omega
theorem orL_lt (a : Int) (L : List Int) : orL (a :: L) < 0 ↔ a < 0 ∨ (a = 0 ∧ orL L < 0) := by
  rw [show orL (a :: L) = if a ≠ 0 then a else orL L from rfl]
  split
  · rename_i h; constructor
    · exact .inl
    · rintro (h1 | ⟨h1, _⟩)
      · exact h1
      · exact absurd h1 h
  · rename_i h
    have h0 : a = 0 := Classical.not_not.1 h
    constructor
    · exact fun h2 => .inr ⟨h0, h2⟩
    · rintro (h1 | ⟨_, h2⟩)
      · omega
      · exact h2
theorem ltA_iff (x y : AnV) : ltOf cfA x y = decide (qlt x.q y.q) := by
  unfold ltOf cfA
  rw [decide_eq_decide, orL_lt, orL_lt, orL_lt, cI_lt, cI_lt, cI_lt, cI_zero, cI_zero, cI_zero]
  simp only [orL, qlt, AnV.q]
  omega
theorem ltT_iff (x y : T3) : ltOf cfT x y = decide (tlt x y) := by
  unfold ltOf cfT
  rw [decide_eq_decide, orL_lt, orL_lt, cI_lt, cI_lt, cI_zero, cI_zero]
  simp only [orL, tlt]
  omega
theorem qlt_irrefl (x : Qn) : ¬ qlt x x := by unfold qlt; omega
theorem qlt_trans {x y z : Qn} : qlt x y → qlt y z → qlt x z := by unfold qlt; omega
theorem qlt_total {x y : Qn} : ¬ qlt x y → ¬ qlt y x → x = y := by
  obtain ⟨a, b, c⟩ := x
  obtain ⟨a', b', c'⟩ := y
  unfold qlt
  intro h1 h2
  simp only at h1 h2
  have : a = a' := by omega
  have : b = b' := by omega
  have : c = c' := by omega
  simp_all
theorem swoA : SWO (ltOf cfA) where
  irrefl x := by rw [ltA_iff]; simp [qlt_irrefl]
  trans x y z h1 h2 := by
    rw [ltA_iff] at *
    exact decide_eq_true (qlt_trans (of_decide_eq_true h1) (of_decide_eq_true h2))
  ntrans x y z h1 h2 := by
    rw [ltA_iff] at *
    have h1 := of_decide_eq_false h1
    have h2 := of_decide_eq_false h2
    refine decide_eq_false (fun h => ?_)
    unfold qlt at *
    omega
theorem swoT : SWO (ltOf cfT) where
  irrefl x := by rw [ltT_iff]; exact decide_eq_false (by unfold tlt; omega)
  trans x y z h1 h2 := by
    rw [ltT_iff] at *
    have h1 := of_decide_eq_true h1
    have h2 := of_decide_eq_true h2
    refine decide_eq_true ?_
    unfold tlt at *
    omega
  ntrans x y z h1 h2 := by
    rw [ltT_iff] at *
    have h1 := of_decide_eq_false h1
    have h2 := of_decide_eq_false h2
    refine decide_eq_false (fun h => ?_)
    unfold tlt at *
    omega
instance : Inhabited AnV := ⟨.zero⟩
/-- slices.SortFunc over answers. -/
theorem sortA_c (w : World) (B : Nat) (v : Value) (L : List AnV) (h : shA.O w B tA v L) (hl : L.length ≤ 1000000) :
    Calls Tryz.prog 94 #[v, .func (.func 95) #[] #[]] w fun e w' => e = .returned (.tuple #[]) ∧ ∃ L', L'.Perm L ∧ L'.Pairwise (fun x y => ¬ qlt y.q x.q) ∧ shA.O w' B tA v L' ∧ Keeps v.ownBlock.toList w w' := by
  obtain ⟨_, h2⟩ := id h
  rcases h2 with ⟨rfl, h0⟩ | ⟨g, cap, cur, rfl, hb, hg, _⟩
  · have hL : L = [] := by
      cases L with
      | nil => rfl
      | cons x t => simp [Sh.cs, shA, AnV.cs] at h0
    subst hL
    refine (AnyF.slices_SortFunc_none Tryz.sortAns none 0 (.func (.func 95) #[] #[]) w).mono ?_
    rintro e w' ⟨rfl, rfl⟩
    exact ⟨rfl, [], List.Perm.refl _, List.Pairwise.nil, h, Keeps.refl _ _⟩
  · have hgl : g < w.heap.size := (Array.getElem?_eq_some_iff.1 hg).1
    have eg : ∀ args w, (callFunc 95 args).run Tryz.prog w = .ok (.enter 95 args) w := enters_of Tryz.func95 (by kernel_rfl) rfl
    have hcmp : CmpLays Tryz.prog 95 #[] shA.cf 8 cfA g 0 L.toArray.size w := fun m os dk hs x y => cmpA_c x y _
    have hcon := AnyQ.slices_SortFunc Tryz.sortAns 8 (fun w => by kernel_rfl) (fun w => by kernel_rfl) shA.cf shA.len shA.one cfA swoA 95 #[] g 0 cap L.toArray w eg hcmp h.holds hgl (by simp; omega)
    simp only [List.size_toArray] at hcon
    refine hcon.mono ?_
    rintro e w' ⟨rfl, d', m, os, hp, hs, rfl⟩
    have hp' : PermIn 0 L.toArray.size L.toArray d' := by simpa using hp
    obtain ⟨hd, hpl⟩ := Sh.perm_of_permIn hp'
    have hd2 : d'.size = L.length := by simpa using hd
    rw [← hd2] at hs
    have hpw := Sh.pairwise_of_sortedIn hs
    obtain ⟨h3, h4⟩ := Sh.O.sorted (m := m) (os := os) h hd2
    exact ⟨rfl, d'.toList, by simpa using hpl, hpw.imp (fun h => by rw [ltA_iff] at h; exact of_decide_eq_false h), h3, h4⟩
/-- slices.SortFunc over needs. -/
theorem sortT_c (w : World) (B : Nat) (v : Value) (L : List T3) (h : shT.O w B tN v L) (hl : L.length ≤ 1000000000000) :
    Calls Tryz.prog 89 #[v, .func (.func 90) #[] #[]] w fun e w' => e = .returned (.tuple #[]) ∧ ∃ L', L'.Perm L ∧ L'.Pairwise (fun x y => ¬ tlt y x) ∧ shT.O w' B tN v L' ∧ Keeps v.ownBlock.toList w w' := by
  obtain ⟨_, h2⟩ := id h
  rcases h2 with ⟨rfl, h0⟩ | ⟨g, cap, cur, rfl, hb, hg, _⟩
  · have hL : L = [] := by
      cases L with
      | nil => rfl
      | cons x t => simp [Sh.cs, shT] at h0
    subst hL
    refine (AnyF.slices_SortFunc_none Tryz.sortNeed none 0 (.func (.func 90) #[] #[]) w).mono ?_
    rintro e w' ⟨rfl, rfl⟩
    exact ⟨rfl, [], List.Perm.refl _, List.Pairwise.nil, h, Keeps.refl _ _⟩
  · have hgl : g < w.heap.size := (Array.getElem?_eq_some_iff.1 hg).1
    have eg : ∀ args w, (callFunc 90 args).run Tryz.prog w = .ok (.enter 90 args) w := enters_of Tryz.func90 (by kernel_rfl) rfl
    have hcmp : CmpLays Tryz.prog 90 #[] shT.cf 3 cfT g 0 L.toArray.size w := fun m os dk hs x y => cmpT_c x y _
    have hcon := AnyQ.slices_SortFunc Tryz.sortNeed 3 (fun w => by kernel_rfl) (fun w => by kernel_rfl) shT.cf shT.len shT.one cfT swoT 90 #[] g 0 cap L.toArray w eg hcmp h.holds hgl (by simp; omega)
    simp only [List.size_toArray] at hcon
    refine hcon.mono ?_
    rintro e w' ⟨rfl, d', m, os, hp, hs, rfl⟩
    have hp' : PermIn 0 L.toArray.size L.toArray d' := by simpa using hp
    obtain ⟨hd, hpl⟩ := Sh.perm_of_permIn hp'
    have hd2 : d'.size = L.length := by simpa using hd
    rw [← hd2] at hs
    have hpw := Sh.pairwise_of_sortedIn hs
    obtain ⟨h3, h4⟩ := Sh.O.sorted (m := m) (os := os) h hd2
    exact ⟨rfl, d'.toList, by simpa using hpl, hpw.imp (fun h => by rw [ltT_iff] at h; exact of_decide_eq_false h), h3, h4⟩
end Go.Proofs.YtiplgpefapeapaaGreat

namespace Go.Proofs.YtiplgpefapeapaaGreat
open Go.RowKit

/-- An answer. -/
structure Ans where
  m : Int
  ow : Int
  n : Nat
  ep : Int
  kn : Bool
  rt : Bool
  lu : Int
  ins : List T3
  deriving DecidableEq
def Ans.q (x : Ans) : Qn := (x.m, x.ow, x.n)
def Ans.zero : Ans := ⟨0, 0, 0, 0, false, false, 0, []⟩
/-- The cells of an answer say this answer. -/
structure InA (w : World) (x : AnV) (y : Ans) : Prop where
  m : x.m = y.m
  ow : x.ow = y.ow
  n : x.n = y.n
  ep : x.ep = y.ep
  kn : x.kn = y.kn
  rt : x.rt = y.rt
  lu : x.lu = y.lu
  ins : InsO w x.v y.ins
theorem InA.ki {w w' : World} {x : AnV} {y : Ans} (h : InA w x y) (hk : KI w w') : InA w' x y := ⟨h.m, h.ow, h.n, h.ep, h.kn, h.rt, h.lu, h.ins.ki hk⟩
theorem InA.q {w : World} {x : AnV} {y : Ans} (h : InA w x y) : x.q = y.q := by unfold AnV.q Ans.q; rw [h.m, h.ow, h.n]
/-- The same of a list. -/
def LA (w : World) (X : List AnV) (Y : List Ans) : Prop := X.length = Y.length ∧ ∀ (k : Nat) (x : AnV) (y : Ans), X[k]? = some x → Y[k]? = some y → InA w x y
theorem LA.nil (w : World) : LA w [] [] := ⟨rfl, fun k x y h => by simp at h⟩
theorem LA.ki {w w' : World} {X : List AnV} {Y : List Ans} (h : LA w X Y) (hk : KI w w') : LA w' X Y := ⟨h.1, fun k x y h1 h2 => (h.2 k x y h1 h2).ki hk⟩
theorem LA.snoc {w : World} {X : List AnV} {Y : List Ans} {x : AnV} {y : Ans} (h : LA w X Y) (hx : InA w x y) : LA w (X ++ [x]) (Y ++ [y]) := by
  obtain ⟨h1, h2⟩ := h
  refine ⟨by simp [h1], fun k a b ha hb => ?_⟩
  rcases Nat.lt_trichotomy k X.length with hk | hk | hk
  · rw [List.getElem?_append_left hk] at ha
    rw [List.getElem?_append_left (by omega)] at hb
    exact h2 k a b ha hb
  · rw [List.getElem?_append_right (by omega)] at ha
    rw [List.getElem?_append_right (by omega)] at hb
    rw [show k - X.length = 0 by omega] at ha
    rw [show k - Y.length = 0 by omega] at hb
    simp at ha hb
    subst ha hb
    exact hx
  · rw [List.getElem?_append_right (by omega), List.getElem?_eq_none (by simp; omega)] at ha
    cases ha
theorem LA.get {w : World} {X : List AnV} {Y : List Ans} (h : LA w X Y) {k : Nat} (hk : k < Y.length) : ∃ hx : k < X.length, InA w X[k] Y[k] :=
  ⟨by rw [h.1]; exact hk, h.2 k _ _ (List.getElem?_eq_getElem _) (List.getElem?_eq_getElem _)⟩
/-- A trace. -/
structure Tr where
  im : Int
  is : Int
  st : T3
  qs : List (Qn × Option Ans)
  told : Int
  hist : List Ans
  state : Int
  ag : List Int
  rf : Bool
def Tr.op (t : Tr) : List Qn := t.qs.map (·.1)
def recOf (qs : List (Qn × Option Ans)) : List (Qn × Ans) := qs.filterMap (fun p => p.2.map (fun a => (p.1, a)))
def Tr.rec' (t : Tr) : List (Qn × Ans) := recOf t.qs
/-- The entries of the map of the answers. -/
def LR (w : World) (R : List (Qn × AnV)) (Y : List (Qn × Ans)) : Prop :=
  R.length = Y.length ∧ ∀ q, (MapS.get q R = none ∧ MapS.get q Y = none) ∨ ∃ x y, MapS.get q R = some x ∧ MapS.get q Y = some y ∧ InA w x y
theorem LR.ki {w w' : World} {R : List (Qn × AnV)} {Y : List (Qn × Ans)} (h : LR w R Y) (hk : KI w w') : LR w' R Y :=
  ⟨h.1, fun q => (h.2 q).imp id (fun ⟨x, y, h1, h2, h3⟩ => ⟨x, y, h1, h2, h3.ki hk⟩)⟩
/-- Numbers that fit. -/
structure Ans.Ok (a : Ans) : Prop where
  q : qOk a.q
  ep : W64 a.ep
  lu : W64 a.lu
  ins : ∀ x ∈ a.ins, W64 x.1 ∧ x.2.1 < 18446744073709551616 ∧ W64 x.2.2
  len : a.ins.length ≤ 100000
structure Tr.Inv (t : Tr) : Prop where
  ok : ∀ q ∈ t.op, qOk q
  nd : t.op.Nodup
  rq : ∀ p ∈ t.rec', p.2.q = p.1
  rk : ∀ p ∈ t.rec', p.2.kn = true
  hi : ∀ a ∈ t.hist, a.Ok
  ro : ∀ p ∈ t.rec', p.2.Ok
structure TrM (w : World) (B bt bm : Nat) (vo vh vg : Value) (t : Tr) : Prop where
  blk : w.heap[bt]? = some (.cells #[.int .i64 t.im, .int .i64 t.is, .int .i64 t.st.1, .int .u64 t.st.2.1, .int .i64 t.st.2.2, vo, .int .i64 t.told, .map (some bm), vh, .int .i64 t.state, vg, .bool t.rf] tT (0, 0))
  op : shQ.O w B tQ vo t.op
  hi : ∃ X, shA.O w B tA vh X ∧ LA w X t.hist
  ag : shZ.O w B 3 vg t.ag
  mp : ∃ R, MapS.M ktQ aV w bm R ∧ LR w R t.rec'
  inv : t.Inv
  bB : B ≤ bt ∧ B ≤ bm
/-- The blocks that a trace writes. -/
def ownT (bt bm : Nat) (vo vh vg : Value) : List Nat := bt :: bm :: (vo.ownBlock.toList ++ vh.ownBlock.toList ++ vg.ownBlock.toList)
theorem Sh.O.tag {α : Type} {s : Sh α} {w : World} {B e : Nat} {v : Value} {L : List α} (h : s.O w B e v L) : ∀ b, v.ownBlock = some b → ∃ (cs : Array Value), w.heap[b]? = some (Obj.cells cs e (0, 0)) := fun b hb => by
  rcases h.2 with ⟨rfl, _⟩ | ⟨g, cap, cur, rfl, _, hg, _⟩
  · simp [Value.ownBlock] at hb
  · simp [Value.ownBlock] at hb; subst hb; exact ⟨_, hg⟩
/-- Blocks of different types are different. -/
theorem tag_ne {w : World} {b b' : Nat} {cs cs' : Array Value} {t t' : TypeId} {f f' : Nat × Nat} (h : w.heap[b]? = some (.cells cs t f)) (h' : w.heap[b']? = some (.cells cs' t' f')) (hne : t ≠ t') : b ≠ b' := fun e => by
  subst e; rw [h] at h'; cases h'; exact hne rfl
theorem mem_ownT {bt bm : Nat} {vo vh vg : Value} {b : Nat} : b ∈ ownT bt bm vo vh vg ↔ b = bt ∨ b = bm ∨ vo.ownBlock = some b ∨ vh.ownBlock = some b ∨ vg.ownBlock = some b := by
  simp [ownT, or_assoc]
theorem MapS.M.isMap {P : Program} {kt : TypeId} {κ : Type} [DecidableEq κ] {α : Type} {K : MapS.KT P kt κ} {vf : α → Value} {w : World} {b : Nat} {L : List (κ × α)} (h : MapS.M K vf w b L) : ∃ es c, w.heap[b]? = some (Obj.map es c) := by
  obtain ⟨⟨D, ⟨es, c, hb, _⟩, _⟩, _⟩ := h
  exact ⟨es, c, hb⟩
namespace TrM
variable {w w' : World} {B bt bm : Nat} {vo vh vg : Value} {t : Tr}
theorem cells (h : TrM w B bt bm vo vh vg t) : w.cell? ⟨bt, 0, none⟩ = some (.int .i64 t.im) ∧ w.cell? ⟨bt, 1, none⟩ = some (.int .i64 t.is) ∧ w.cell? ⟨bt, 2, none⟩ = some (.int .i64 t.st.1) ∧ w.cell? ⟨bt, 3, none⟩ = some (.int .u64 t.st.2.1) ∧ w.cell? ⟨bt, 4, none⟩ = some (.int .i64 t.st.2.2) ∧
    w.cell? ⟨bt, 5, none⟩ = some vo ∧ w.cell? ⟨bt, 6, none⟩ = some (.int .i64 t.told) ∧ w.cell? ⟨bt, 7, none⟩ = some (.map (some bm)) ∧ w.cell? ⟨bt, 8, none⟩ = some vh ∧ w.cell? ⟨bt, 9, none⟩ = some (.int .i64 t.state) ∧ w.cell? ⟨bt, 10, none⟩ = some vg ∧ w.cell? ⟨bt, 11, none⟩ = some (.bool t.rf) := by
  have h1 := h.blk
  refine ⟨?_, ?_, ?_, ?_, ?_, ?_, ?_, ?_, ?_, ?_, ?_, ?_⟩ <;> simp [World.cell?, h1]
theorem free (h : TrM w B bt bm vo vh vg t) (o : Nat) : w.frozen? ⟨bt, o, none⟩ = false := by simp [World.frozen?, h.blk]
theorem lt (h : TrM w B bt bm vo vh vg t) : bt < w.heap.size ∧ bm < w.heap.size := by
  obtain ⟨R, hR, _⟩ := h.mp
  exact ⟨lt_of_blk h.blk, MapS.M.lt ktQ hR⟩
/-- What a block of a trace's own holds. -/
theorem own_tag (h : TrM w B bt bm vo vh vg t) {b : Nat} (hb : b ∈ ownT bt bm vo vh vg) : B ≤ b ∧ b < w.heap.size ∧ ((∃ es c, w.heap[b]? = some (Obj.map es c)) ∨ ∃ (cs : Array Value) (e : TypeId), w.heap[b]? = some (Obj.cells cs e (0, 0)) ∧ (e = tT ∨ e = tQ ∨ e = tA ∨ e = 3)) := by
  obtain ⟨R, hR, _⟩ := h.mp
  obtain ⟨X, hX, _⟩ := h.hi
  rcases mem_ownT.1 hb with rfl | rfl | hb | hb | hb
  · exact ⟨h.bB.1, h.lt.1, .inr ⟨_, _, h.blk, .inl rfl⟩⟩
  · exact ⟨h.bB.2, h.lt.2, .inl hR.isMap⟩
  · obtain ⟨cs, hc⟩ := h.op.tag b hb
    exact ⟨h.op.ge b hb, h.op.lt b hb, .inr ⟨_, _, hc, .inr (.inl rfl)⟩⟩
  · obtain ⟨cs, hc⟩ := hX.tag b hb
    exact ⟨hX.ge b hb, hX.lt b hb, .inr ⟨_, _, hc, .inr (.inr (.inl rfl))⟩⟩
  · obtain ⟨cs, hc⟩ := h.ag.tag b hb
    exact ⟨h.ag.ge b hb, h.ag.lt b hb, .inr ⟨_, _, hc, .inr (.inr (.inr rfl))⟩⟩
/-- What touches other blocks leaves a trace as it is. -/
theorem keep {S : List Nat} (h : TrM w B bt bm vo vh vg t) (hk : Keeps S w w') (hS : ∀ b ∈ ownT bt bm vo vh vg, b ∉ S) (hi : KI w w') : TrM w' B bt bm vo vh vg t := by
  obtain ⟨X, hX, hXL⟩ := h.hi
  obtain ⟨R, hR, hRL⟩ := h.mp
  exact ⟨(hk.block bt h.lt.1 (hS bt (mem_ownT.2 (.inl rfl)))).trans h.blk, h.op.keepS hk (fun b hb e => hS b (mem_ownT.2 (.inr (.inr (.inl e)))) hb), ⟨X, hX.keepS hk (fun b hb e => hS b (mem_ownT.2 (.inr (.inr (.inr (.inl e))))) hb), hXL.ki hi⟩,
    h.ag.keepS hk (fun b hb e => hS b (mem_ownT.2 (.inr (.inr (.inr (.inr e))))) hb), ⟨R, hR.kept ktQ hk (hS bm (mem_ownT.2 (.inr (.inl rfl)))), hRL.ki hi⟩, h.inv, h.bB⟩
theorem keeps (h : TrM w B bt bm vo vh vg t) (hk : Keeps [] w w') : TrM w' B bt bm vo vh vg t := h.keep hk (by simp) hk.ki0
end TrM
end Go.Proofs.YtiplgpefapeapaaGreat

namespace Go.Proofs.YtiplgpefapeapaaGreat
open Go.RowKit
abbrev Qs := List (Qn × Option Ans)

def setQ (q : Qn) (a : Ans) (qs : Qs) : Qs := qs.map (fun p => if p.1 = q then (q, some a) else p)
def openQ (m : Int) (qs : Qs) (x : T3) : Qs := if (x.1, m, x.2.1) ∈ qs.map (·.1) then qs else qs ++ [((x.1, m, x.2.1), none)]
def Ans.odd (m ep : Int) (x : Ans) : Bool := x.m == m && x.ep != ep
def allQ (qs : Qs) : Bool := qs.all (fun p => p.2.isSome)
/-- A question is open. -/
def isOpen (q : Qn) (qs : Qs) : Bool := decide ((q, none) ∈ qs)
instance : DecidableEq (Qn × Option Ans) := inferInstance
def Tr.close (t : Tr) : Tr := if allQ t.qs then { t with state := 1 } else t
def Tr.take (t : Tr) (a : Ans) : Tr := { t with hist := t.hist ++ [a] }
def Tr.put (t : Tr) (a : Ans) : Tr := { t with qs := a.ins.foldl (openQ a.m) (setQ a.q a t.qs) }
def Tr.answer (t : Tr) (a : Ans) : Tr × Int :=
  if t.state ≠ 0 then (t, 9) else if isOpen a.q t.qs = false then (t, 6) else
  if a.kn = false then ({ t.take a with state := 4 }, 0) else if a.rt = true then ({ t.take a with state := 3 }, 0) else
  if (t.hist ++ [a]).any (Ans.odd a.m a.ep) then ({ t.take a with state := 4 }, 0) else (((t.take a).put a).close, 0)
theorem setQ_keys (q : Qn) (a : Ans) : ∀ qs : Qs, (setQ q a qs).map (·.1) = qs.map (·.1)
  | [] => rfl
  | (x, u) :: r => by
    have ih := setQ_keys q a r
    unfold setQ at ih ⊢
    simp only [List.map_cons]
    rw [ih]
    split
    · rename_i e; rw [e]
    · rfl
theorem recOf_keys {qs : Qs} {q : Qn} {a : Ans} : (q, a) ∈ recOf qs ↔ (q, some a) ∈ qs := by
  unfold recOf
  rw [List.mem_filterMap]
  constructor
  · rintro ⟨⟨x, o⟩, h1, h2⟩
    cases o with
    | none => cases h2
    | some b => simp at h2; obtain ⟨rfl, rfl⟩ := h2; exact h1
  · intro h
    exact ⟨_, h, rfl⟩
theorem recOf_sub : ∀ qs : Qs, ((recOf qs).map (·.1)).Sublist (qs.map (·.1))
  | [] => List.Sublist.slnil
  | (x, none) :: r => by
    have ih := recOf_sub r
    unfold recOf at ih ⊢
    exact List.Sublist.cons _ ih
  | (x, some a) :: r => by
    have ih := recOf_sub r
    unfold recOf at ih ⊢
    exact List.Sublist.cons_cons _ ih
theorem recOf_nd {qs : Qs} (h : (qs.map (·.1)).Nodup) : MapS.ND (recOf qs) := h.sublist (recOf_sub qs)
theorem nd_val {qs : Qs} (h : (qs.map (·.1)).Nodup) {q : Qn} {u v : Option Ans} (h1 : (q, u) ∈ qs) (h2 : (q, v) ∈ qs) : u = v := by
  have e1 := MapS.get_of_mem (L := qs) h h1
  have e2 := MapS.get_of_mem (L := qs) h h2
  rw [e1] at e2; cases e2; rfl
theorem rec_len : ∀ qs : Qs, (recOf qs).length ≤ qs.length ∧ ((recOf qs).length = qs.length ↔ allQ qs = true)
  | [] => ⟨Nat.le_refl _, by simp [recOf, allQ]⟩
  | (x, none) :: r => by
    obtain ⟨h1, h2⟩ := rec_len r
    have e : recOf ((x, none) :: r) = recOf r := rfl
    rw [e]
    refine ⟨by simp; omega, ?_⟩
    simp [allQ]; omega
  | (x, some a) :: r => by
    obtain ⟨h1, h2⟩ := rec_len r
    have e : recOf ((x, some a) :: r) = (x, a) :: recOf r := rfl
    rw [e]
    refine ⟨by simp; omega, ?_⟩
    have e2 : allQ ((x, some a) :: r) = allQ r := by simp [allQ]
    rw [e2, ← h2]; simp
theorem recOf_some (x : Qn) (a : Ans) (r : Qs) : recOf ((x, some a) :: r) = (x, a) :: recOf r := rfl
theorem recOf_none (x : Qn) (r : Qs) : recOf ((x, none) :: r) = recOf r := rfl
theorem setQ_mem {q : Qn} {a : Ans} {qs : Qs} (hq : q ∈ qs.map (·.1)) (k : Qn) (u : Option Ans) : (k, u) ∈ setQ q a qs ↔ (k = q ∧ u = some a) ∨ (k ≠ q ∧ (k, u) ∈ qs) := by
  unfold setQ
  rw [List.mem_map]
  constructor
  · rintro ⟨⟨x, v⟩, h1, h2⟩
    simp only at h2
    split at h2
    · cases h2; exact .inl ⟨rfl, rfl⟩
    · cases h2; rename_i hne; exact .inr ⟨hne, h1⟩
  · rintro (⟨rfl, rfl⟩ | ⟨h1, h2⟩)
    · obtain ⟨⟨x, v⟩, h3, h4⟩ := List.mem_map.1 hq
      simp only at h4
      subst h4
      exact ⟨(x, v), h3, by simp⟩
    · exact ⟨(k, u), h2, by simp [h1]⟩
theorem get_rec {qs : Qs} (h : (qs.map (·.1)).Nodup) (k : Qn) (a : Ans) : MapS.get k (recOf qs) = some a ↔ (k, some a) ∈ qs := by
  rw [MapS.get_iff (recOf_nd h), recOf_keys]
theorem openQ_rec (m : Int) (qs : Qs) (x : T3) : recOf (openQ m qs x) = recOf qs := by
  unfold openQ
  split
  · rfl
  · unfold recOf; simp
theorem openQ_nd {m : Int} {qs : Qs} {x : T3} (h : (qs.map (·.1)).Nodup) : ((openQ m qs x).map (·.1)).Nodup := by
  unfold openQ
  split
  · exact h
  · rename_i hn
    rw [List.map_append, List.nodup_append]
    exact ⟨h, by simp, fun a ha b hb e => by simp at hb; subst hb; subst e; exact hn ha⟩
theorem openQ_keys (m : Int) (qs : Qs) (x : T3) : (openQ m qs x).map (·.1) = if (x.1, m, x.2.1) ∈ qs.map (·.1) then qs.map (·.1) else qs.map (·.1) ++ [(x.1, m, x.2.1)] := by
  unfold openQ
  split <;> simp
theorem openQ_len (m : Int) (qs : Qs) (x : T3) : (openQ m qs x).length ≤ qs.length + 1 := by unfold openQ; split <;> simp
theorem fold_rec (m : Int) : ∀ (l : List T3) (qs : Qs), recOf (l.foldl (openQ m) qs) = recOf qs
  | [], _ => rfl
  | x :: t, qs => by rw [List.foldl_cons, fold_rec m t, openQ_rec]
theorem fold_nd (m : Int) : ∀ (l : List T3) (qs : Qs), (qs.map (·.1)).Nodup → ((l.foldl (openQ m) qs).map (·.1)).Nodup
  | [], _, h => h
  | x :: t, qs, h => by rw [List.foldl_cons]; exact fold_nd m t _ (openQ_nd h)
theorem fold_len (m : Int) : ∀ (l : List T3) (qs : Qs), (l.foldl (openQ m) qs).length ≤ qs.length + l.length
  | [], _ => by simp
  | x :: t, qs => by
    rw [List.foldl_cons]
    have := fold_len m t (openQ m qs x)
    have := openQ_len m qs x
    simp; omega
theorem fold_ok (m : Int) (hm : W64 m) : ∀ (l : List T3) (qs : Qs), (∀ x ∈ l, W64 x.1 ∧ x.2.1 < 18446744073709551616 ∧ W64 x.2.2) → (∀ q ∈ qs.map (·.1), qOk q) → ∀ q ∈ (l.foldl (openQ m) qs).map (·.1), qOk q
  | [], _, _, h => h
  | x :: t, qs, hl, h => by
    rw [List.foldl_cons]
    refine fold_ok m hm t _ (fun y hy => hl y (List.mem_cons_of_mem _ hy)) (fun q hq => ?_)
    rw [openQ_keys] at hq
    split at hq
    · exact h q hq
    · rcases List.mem_append.1 hq with hq | hq
      · exact h q hq
      · simp at hq
        subst hq
        have := hl x (by simp)
        exact ⟨this.1, hm, this.2.1⟩
/-- An answer keeps what holds of a trace. -/
theorem Tr.Inv.take {t : Tr} {a : Ans} (h : t.Inv) (ha : a.Ok) : (t.take a).Inv := ⟨h.ok, h.nd, h.rq, h.rk, fun b hb => by rcases List.mem_append.1 hb with hb | hb; exact h.hi b hb; simp at hb; subst hb; exact ha, h.ro⟩
theorem Tr.Inv.state {t : Tr} (h : t.Inv) (s : Int) : Tr.Inv { t with state := s } := ⟨h.ok, h.nd, h.rq, h.rk, h.hi, h.ro⟩
theorem isOpen_mem {q : Qn} {qs : Qs} : isOpen q qs = true ↔ (q, none) ∈ qs := by unfold isOpen; simp
theorem Tr.Inv.put {t : Tr} {a : Ans} (h : t.Inv) (ha : a.Ok) (hk : a.kn = true) (ho : isOpen a.q t.qs = true) : (t.put a).Inv := by
  have hm := isOpen_mem.1 ho
  have hq : a.q ∈ t.qs.map (·.1) := List.mem_map.2 ⟨_, hm, rfl⟩
  have hr : (t.put a).rec' = recOf (setQ a.q a t.qs) := fold_rec _ _ _
  have hnd : ((setQ a.q a t.qs).map (·.1)).Nodup := by rw [setQ_keys]; exact h.nd
  have hmem : ∀ p ∈ (t.put a).rec', (p.1 = a.q ∧ p.2 = a) ∨ p ∈ t.rec' := fun p hp => by
    rw [hr] at hp
    obtain ⟨k, b⟩ := p
    rcases (setQ_mem hq k (some b)).1 (recOf_keys.1 hp) with ⟨h1, h2⟩ | ⟨_, h2⟩
    · exact .inl ⟨h1, by simpa using h2⟩
    · exact .inr (recOf_keys.2 h2)
  refine ⟨fold_ok a.m ha.q.1 _ _ ha.ins (by rw [setQ_keys]; exact h.ok), fold_nd _ _ _ hnd, fun p hp => ?_, fun p hp => ?_, h.hi, fun p hp => ?_⟩
  · rcases hmem p hp with ⟨h1, h2⟩ | h1
    · rw [h1, h2]
    · exact h.rq p h1
  · rcases hmem p hp with ⟨h1, h2⟩ | h1
    · rw [h2]; exact hk
    · exact h.rk p h1
  · rcases hmem p hp with ⟨h1, h2⟩ | h1
    · rw [h2]; exact ha
    · exact h.ro p h1
end Go.Proofs.YtiplgpefapeapaaGreat

namespace Go.Proofs.YtiplgpefapeapaaGreat
open Go.RowKit

def Tr.new (im is : Int) (st : T3) : Tr := ⟨im, is, st, [((im, st.1, st.2.1), none)], 0, [], 0, [], false⟩
theorem Sh.O.one {α : Type} (s : Sh α) (w : World) (x : α) (xs : Array Value) (e B : Nat) (hx : xs.toList = s.cf x) (hB : B ≤ w.heap.size) : s.O (w.alloc (.cells xs e)) B e (.slice (some ⟨w.heap.size, 0, none⟩) 1 1) [x] := by
  have hl : xs.size = s.sz := by rw [← Array.length_toList, hx]; exact s.len x
  refine ⟨by simp [Sh.cs, s.len], .inr ⟨w.heap.size, 1, xs, rfl, hB, heap_alloc_new w _, Nat.le_refl _, by simp [maxLen], by simpa using hl, ?_⟩⟩
  rw [List.take_of_length_le (by simp [hl]), hx]
  simp [Sh.cs]
theorem cells8 {w : World} {b : Nat} {x0 x1 x2 x3 x4 x5 x6 x7 : Value} {t : TypeId} (h : w.heap[b]? = some (.cells #[x0, x1, x2, x3, x4, x5, x6, x7] t (0, 0))) : w.cell? ⟨b, 0, none⟩ = some x0 ∧ w.cell? ⟨b, 1, none⟩ = some x1 ∧ w.cell? ⟨b, 2, none⟩ = some x2 ∧ w.cell? ⟨b, 3, none⟩ = some x3 ∧ w.cell? ⟨b, 4, none⟩ = some x4 ∧ w.cell? ⟨b, 5, none⟩ = some x5 ∧ w.cell? ⟨b, 6, none⟩ = some x6 ∧ w.cell? ⟨b, 7, none⟩ = some x7 ∧ (∀ o, w.frozen? ⟨b, o, none⟩ = false) ∧ b < w.heap.size := by
  refine ⟨?_, ?_, ?_, ?_, ?_, ?_, ?_, ?_, ?_, lt_of_blk h⟩ <;> simp [World.cell?, World.frozen?, h]
theorem setCs {w : World} {b : Nat} {cs : Array Value} {t : TypeId} {f : Nat × Nat} (h : w.heap[b]? = some (.cells cs t f)) (o : Nat) (v : Value) : (w.setCell ⟨b, o, none⟩ v).heap[b]? = some (.cells (cs.setIfInBounds o v) t f) := by
  simp [World.setCell, Array.getElem?_modify, h]
theorem setO {w : World} {b b' : Nat} (hb : b ≠ b') (o : Nat) (v : Value) : (w.setCell ⟨b', o, none⟩ v).heap[b]? = w.heap[b]? := Below.heap_setCell _ _ _ _ (by simpa using hb)
/-- An answer is copied into another block. -/
theorem cp8 {w : World} {X : Nat} {x0 x1 x2 x3 x4 x5 x6 x7 u0 u1 u2 u3 u4 u5 u6 u7 : Value} (h1 : w.heap[X]? = some (.cells #[x0, x1, x2, x3, x4, x5, x6, x7] tA (0, 0))) (h2 : w.heap[X + 1]? = some (.cells #[u0, u1, u2, u3, u4, u5, u6, u7] tA (0, 0))) (a : Option Addr) (n c : Nat) :
    (((((((((w.setCell ⟨X, 7, none⟩ (.slice a n c)).setCell ⟨X + 1, 0, none⟩ x0).setCell ⟨X + 1, 1, none⟩ x1).setCell ⟨X + 1, 2, none⟩ x2).setCell ⟨X + 1, 3, none⟩ x3).setCell ⟨X + 1, 4, none⟩ x4).setCell ⟨X + 1, 5, none⟩ x5).setCell ⟨X + 1, 6, none⟩ x6).setCell ⟨X + 1, 7, none⟩ (.slice a n c)).heap[X + 1]? = some (.cells #[x0, x1, x2, x3, x4, x5, x6, .slice a n c] tA (0, 0)) ∧
    Keeps [X, X + 1] w (((((((((w.setCell ⟨X, 7, none⟩ (.slice a n c)).setCell ⟨X + 1, 0, none⟩ x0).setCell ⟨X + 1, 1, none⟩ x1).setCell ⟨X + 1, 2, none⟩ x2).setCell ⟨X + 1, 3, none⟩ x3).setCell ⟨X + 1, 4, none⟩ x4).setCell ⟨X + 1, 5, none⟩ x5).setCell ⟨X + 1, 6, none⟩ x6).setCell ⟨X + 1, 7, none⟩ (.slice a n c)) ∧ KI w (((((((((w.setCell ⟨X, 7, none⟩ (.slice a n c)).setCell ⟨X + 1, 0, none⟩ x0).setCell ⟨X + 1, 1, none⟩ x1).setCell ⟨X + 1, 2, none⟩ x2).setCell ⟨X + 1, 3, none⟩ x3).setCell ⟨X + 1, 4, none⟩ x4).setCell ⟨X + 1, 5, none⟩ x5).setCell ⟨X + 1, 6, none⟩ x6).setCell ⟨X + 1, 7, none⟩ (.slice a n c)) := by
  have hk : Keeps [X, X + 1] w (((((((((w.setCell ⟨X, 7, none⟩ (.slice a n c)).setCell ⟨X + 1, 0, none⟩ x0).setCell ⟨X + 1, 1, none⟩ x1).setCell ⟨X + 1, 2, none⟩ x2).setCell ⟨X + 1, 3, none⟩ x3).setCell ⟨X + 1, 4, none⟩ x4).setCell ⟨X + 1, 5, none⟩ x5).setCell ⟨X + 1, 6, none⟩ x6).setCell ⟨X + 1, 7, none⟩ (.slice a n c)) := by
    refine (((((((((Keeps.refl _ w).setCell ?_ _).setCell ?_ _).setCell ?_ _).setCell ?_ _).setCell ?_ _).setCell ?_ _).setCell ?_ _).setCell ?_ _).setCell ?_ _ <;> exact .inr (by simp)
  refine ⟨?_, hk, hk.ki (fun b hb cs f e => ?_)⟩
  · clear hk
    have s0 := (setO (b := X + 1) (b' := X) (by omega) 7 (.slice a n c)).trans h2
    generalize w.setCell ⟨X, 7, none⟩ (.slice a n c) = w0 at s0 ⊢
    have s1 := setCs s0 0 x0
    generalize w0.setCell ⟨X + 1, 0, none⟩ x0 = w1 at s1 ⊢
    have s2 := setCs s1 1 x1
    generalize w1.setCell ⟨X + 1, 1, none⟩ x1 = w2 at s2 ⊢
    have s3 := setCs s2 2 x2
    generalize w2.setCell ⟨X + 1, 2, none⟩ x2 = w3 at s3 ⊢
    have s4 := setCs s3 3 x3
    generalize w3.setCell ⟨X + 1, 3, none⟩ x3 = w4 at s4 ⊢
    have s5 := setCs s4 4 x4
    generalize w4.setCell ⟨X + 1, 4, none⟩ x4 = w5 at s5 ⊢
    have s6 := setCs s5 5 x5
    generalize w5.setCell ⟨X + 1, 5, none⟩ x5 = w6 at s6 ⊢
    have s7 := setCs s6 6 x6
    generalize w6.setCell ⟨X + 1, 6, none⟩ x6 = w7 at s7 ⊢
    have s8 := setCs s7 7 (.slice a n c)
    generalize w7.setCell ⟨X + 1, 7, none⟩ (.slice a n c) = w8 at s8 ⊢
    simpa using s8
  · simp at hb
    rcases hb with rfl | rfl
    · rw [h1] at e; cases e
    · rw [h2] at e; cases e
set_option maxRecDepth 100000 in
set_option maxHeartbeats 2000000 in
theorem copied_c (w : World) (x : AnV) (L : List T3) (h : shT.R w x.v L) (hl : L.length ≤ 1000000) :
    Calls Tryz.prog 60 #[aV x] w fun e w' => ∃ x' : AnV, e = .returned (aV x') ∧ x'.m = x.m ∧ x'.ow = x.ow ∧ x'.n = x.n ∧ x'.ep = x.ep ∧ x'.kn = x.kn ∧ x'.rt = x.rt ∧ x'.lu = x.lu ∧ InsO w' x'.v L ∧ Keeps [] w w' := by
  obtain ⟨x0, x1, x2, x3, x4, x5, x6, x7, x8, x9⟩ := x
  have hC := fun W (hk : Keeps [] w W) => cloneI_c W _ L (h.keeps hk) hl
  simp only [AnV.v] at hC
  have hkA : Keeps [] w (w.alloc (.cells #[.int .i64 x0, .int .i64 x1, .int .u64 x2, .int .i64 x3, .bool x4, .bool x5, .int .i64 x6, .slice x7 x8 x9] tA)) := (Keeps.refl _ _).alloc _
  have hb := heap_alloc_new w (.cells #[.int .i64 x0, .int .i64 x1, .int .u64 x2, .int .i64 x3, .bool x4, .bool x5, .int .i64 x6, .slice x7 x8 x9] tA)
  replace hC := Lib.hid hC
  replace hkA := Lib.hid hkA
  replace hb := Lib.hid hb
  clear h
  simp only [aV, AnV.v]
  go_enter Tryz.func60, Tryz.ntmps60
  go_wp2_with fail
  have hk2 : Keeps [] (w.alloc (.cells #[.int .i64 x0, .int .i64 x1, .int .u64 x2, .int .i64 x3, .bool x4, .bool x5, .int .i64 x6, .slice x7 x8 x9] tA)) ((w.alloc (.cells #[.int .i64 x0, .int .i64 x1, .int .u64 x2, .int .i64 x3, .bool x4, .bool x5, .int .i64 x6, .slice x7 x8 x9] tA)).alloc (.cells #[.int .i64 0, .int .i64 0, .int .u64 0, .int .i64 0, .bool false, .bool false, .int .i64 0, .slice none 0 0] tA)) := (Keeps.refl _ _).alloc _
  have hb1 := (hk2.block w.heap.size (by simp) (by simp)).trans hb.out
  have hb2 := heap_alloc_new (w.alloc (.cells #[.int .i64 x0, .int .i64 x1, .int .u64 x2, .int .i64 x3, .bool x4, .bool x5, .int .i64 x6, .slice x7 x8 x9] tA)) (.cells #[.int .i64 0, .int .i64 0, .int .u64 0, .int .i64 0, .bool false, .bool false, .int .i64 0, .slice none 0 0] tA)
  rw [show (w.alloc (.cells #[.int .i64 x0, .int .i64 x1, .int .u64 x2, .int .i64 x3, .bool x4, .bool x5, .int .i64 x6, .slice x7 x8 x9] tA)).heap.size = w.heap.size + 1 by simp] at hb2
  have hk02 := hkA.out.trans hk2
  have hsz : ((w.alloc (.cells #[.int .i64 x0, .int .i64 x1, .int .u64 x2, .int .i64 x3, .bool x4, .bool x5, .int .i64 x6, .slice x7 x8 x9] tA)).alloc (.cells #[.int .i64 0, .int .i64 0, .int .u64 0, .int .i64 0, .bool false, .bool false, .int .i64 0, .slice none 0 0] tA)).heap.size = w.heap.size + 2 := by simp
  clear hkA hb hk2
  generalize ((w.alloc (.cells #[.int .i64 x0, .int .i64 x1, .int .u64 x2, .int .i64 x3, .bool x4, .bool x5, .int .i64 x6, .slice x7 x8 x9] tA)).alloc (.cells #[.int .i64 0, .int .i64 0, .int .u64 0, .int .i64 0, .bool false, .bool false, .int .i64 0, .slice none 0 0] tA)) = W at *
  refine (hC.out W hk02).mono ?_
  rintro e w1 ⟨v1, rfl, hO, hk1⟩
  have hI : InsO w1 v1 L := ⟨_, hO⟩
  have hge := hO.ge
  obtain ⟨a1, c1, rfl⟩ := hO.form
  obtain ⟨LL, hLL⟩ : ∃ n, L.length = n := ⟨_, rfl⟩
  rw [hLL] at hI hge ⊢
  have hb11 := (hk1.block _ (by omega) (by simp)).trans hb1
  have hb21 := (hk1.block _ (by omega) (by simp)).trans hb2
  have hk01 := hk02.trans hk1
  have hz1 := hk1.size
  obtain ⟨X, hX⟩ : ∃ X, w.heap.size = X := ⟨_, rfl⟩
  rw [hX] at hb11 hb21 hsz ⊢
  have hfin := cp8 hb11 hb21 a1 LL c1
  obtain ⟨y0, y1, y2, y3, y4, y5, y6, y7, yf, ylt⟩ := cells8 hb11
  obtain ⟨z0, z1, z2, z3, z4, z5, z6, z7, zf, zlt⟩ := cells8 hb21
  replace hI := Lib.hid hI
  replace hge := Lib.hid hge
  replace hk01 := Lib.hid hk01
  replace hfin := Lib.hid hfin
  replace hX := Lib.hid hX
  replace hLL := Lib.hid hLL
  clear hb1 hb2 hb11 hb21 hO hk1 hk02 hC hsz
  go_wp2
  obtain ⟨g1, g2, g3⟩ := hfin.out
  refine bodyPost_ret (results_cell_row rfl _ _ _ _ _ _ _ rfl g1 Tryz.underlying46 rfl (by kernel_rfl)) rfl ?_
  refine ⟨⟨x0, x1, x2, x3, x4, x5, x6, a1, LL, c1⟩, rfl, rfl, rfl, rfl, rfl, rfl, rfl, rfl, hI.out.ki g3, hk01.out.fresh g2 (fun b hb => by rw [hX.out]; simp at hb; rcases hb with rfl | rfl <;> exact .inr (by omega))⟩
end Go.Proofs.YtiplgpefapeapaaGreat

namespace Go.Proofs.YtiplgpefapeapaaGreat
open Go.RowKit

def AnV.odd (m ep : Int) (x : AnV) : Bool := x.m == m && x.ep != ep
end Go.Proofs.YtiplgpefapeapaaGreat

namespace Go.Proofs.YtiplgpefapeapaaGreat
open Go.RowKit

theorem MapS.M.at' {P : Program} {kt : TypeId} {κ : Type} [DecidableEq κ] {α : Type} {K : MapS.KT P kt κ} {vf : α → Value} {w w' : World} {b : Nat} {L : List (κ × α)} (h : MapS.M K vf w b L) (hb : w'.heap[b]? = w.heap[b]?) : MapS.M K vf w' b L := by
  obtain ⟨⟨D, ⟨es, clock, h1, F, hs, hD⟩, h2, h3⟩, ha, hw⟩ := h
  exact ⟨⟨D, ⟨es, clock, hb.trans h1, F, hs, hD⟩, h2, h3⟩, ha, hw⟩
theorem Keeps.setT {w : World} {bt o : Nat} {cs : Array Value} (h : w.heap[bt]? = some (.cells cs tT (0, 0))) (v : Value) : Keeps [bt] w (w.setCell ⟨bt, o, none⟩ v) ∧ KI w (w.setCell ⟨bt, o, none⟩ v) := by
  have hk : Keeps [bt] w (w.setCell ⟨bt, o, none⟩ v) := (Keeps.refl _ _).setCell (.inr (by simp)) _
  refine ⟨hk, hk.ki (fun b hb cs f e => ?_)⟩
  simp at hb; subst hb
  rw [h] at e; cases e
namespace TrM
variable {w w' : World} {B bt bm : Nat} {vo vh vg : Value} {t : Tr}
theorem ne_bt (h : TrM w B bt bm vo vh vg t) : bm ≠ bt ∧ vo.ownBlock ≠ some bt ∧ vh.ownBlock ≠ some bt ∧ vg.ownBlock ≠ some bt := by
  obtain ⟨R, hR, _⟩ := h.mp
  obtain ⟨X, hX, _⟩ := h.hi
  refine ⟨fun e => ?_, fun e => ?_, fun e => ?_, fun e => ?_⟩
  · obtain ⟨es, c, hm⟩ := hR.isMap
    rw [e, h.blk] at hm; cases hm
  · obtain ⟨cs, hc⟩ := h.op.tag bt e
    exact tag_ne h.blk hc (by decide) rfl
  · obtain ⟨cs, hc⟩ := hX.tag bt e
    exact tag_ne h.blk hc (by decide) rfl
  · obtain ⟨cs, hc⟩ := h.ag.tag bt e
    exact tag_ne h.blk hc (by decide) rfl
/-- A cell of the trace itself is stored. -/
theorem store (h : TrM w B bt bm vo vh vg t) (o : Nat) (v : Value) : (w.setCell ⟨bt, o, none⟩ v).heap[bt]? = some (.cells ((#[.int .i64 t.im, .int .i64 t.is, .int .i64 t.st.1, .int .u64 t.st.2.1, .int .i64 t.st.2.2, vo, .int .i64 t.told, .map (some bm), vh, .int .i64 t.state, vg, .bool t.rf] : Array Value).setIfInBounds o v) tT (0, 0)) ∧
    shQ.O (w.setCell ⟨bt, o, none⟩ v) B tQ vo t.op ∧ (∃ X, shA.O (w.setCell ⟨bt, o, none⟩ v) B tA vh X ∧ LA (w.setCell ⟨bt, o, none⟩ v) X t.hist) ∧ shZ.O (w.setCell ⟨bt, o, none⟩ v) B 3 vg t.ag ∧
    (∃ R, MapS.M ktQ aV (w.setCell ⟨bt, o, none⟩ v) bm R ∧ LR (w.setCell ⟨bt, o, none⟩ v) R t.rec') ∧ Keeps [bt] w (w.setCell ⟨bt, o, none⟩ v) ∧ KI w (w.setCell ⟨bt, o, none⟩ v) := by
  obtain ⟨hk, hi⟩ := Keeps.setT (o := o) h.blk v
  obtain ⟨n1, n2, n3, n4⟩ := h.ne_bt
  obtain ⟨X, hX, hXL⟩ := h.hi
  obtain ⟨R, hR, hRL⟩ := h.mp
  exact ⟨setCs h.blk o v, h.op.keepS hk (by simpa using n2), ⟨X, hX.keepS hk (by simpa using n3), hXL.ki hi⟩, h.ag.keepS hk (by simpa using n4), ⟨R, hR.kept ktQ hk (by simpa using n1), hRL.ki hi⟩, hk, hi⟩
theorem setState (h : TrM w B bt bm vo vh vg t) (s : Int) : TrM (w.setCell ⟨bt, 9, none⟩ (.int .i64 s)) B bt bm vo vh vg { t with state := s } := by
  obtain ⟨h1, h2, h3, h4, h5, _⟩ := h.store 9 (.int .i64 s)
  exact ⟨by simpa using h1, h2, h3, h4, h5, h.inv.state s, h.bB⟩
theorem setTold (h : TrM w B bt bm vo vh vg t) (s : Int) : TrM (w.setCell ⟨bt, 6, none⟩ (.int .i64 s)) B bt bm vo vh vg { t with told := s } := by
  obtain ⟨h1, h2, h3, h4, h5, _⟩ := h.store 6 (.int .i64 s)
  exact ⟨by simpa using h1, h2, h3, h4, h5, ⟨h.inv.ok, h.inv.nd, h.inv.rq, h.inv.rk, h.inv.hi, h.inv.ro⟩, h.bB⟩
end TrM
/-- What a step leaves, and which blocks it then writes. -/
structure Mv (S S' : List Nat) (w w' : World) : Prop where
  k : Keeps S w w'
  i : KI w w'
  s : ∀ b ∈ S', b ∈ S ∨ w.heap.size ≤ b
theorem Mv.trans {S S' S'' : List Nat} {a b c : World} (h : Mv S S' a b) (g : Mv S' S'' b c) : Mv S S'' a c :=
  ⟨h.k.fresh g.k h.s, h.i.trans g.i, fun x hx => (g.s x hx).elim (h.s x) (fun hle => .inr (Nat.le_trans h.k.size hle))⟩
theorem Mv.nil {S : List Nat} {w w' : World} (h : Keeps [] w w') : Mv S S w w' := ⟨h.of_nil, h.ki0, fun _ hb => .inl hb⟩
namespace TrM
variable {w w' : World} {B bt bm : Nat} {vo vh vg : Value} {t : Tr}
theorem mvSet (h : TrM w B bt bm vo vh vg t) (o : Nat) (v : Value) : Mv (ownT bt bm vo vh vg) (ownT bt bm vo vh vg) w (w.setCell ⟨bt, o, none⟩ v) := by
  obtain ⟨hk, hi⟩ := Keeps.setT (o := o) h.blk v
  exact ⟨hk.mono (fun b hb => by simp at hb; subst hb; exact mem_ownT.2 (.inl rfl)), hi, fun _ hb => .inl hb⟩
end TrM
end Go.Proofs.YtiplgpefapeapaaGreat

namespace Go.Proofs.YtiplgpefapeapaaGreat
open Go.RowKit

/-- The cells of an answer that comes in say this answer. -/
structure InR (w : World) (x : AnV) (y : Ans) : Prop where
  m : x.m = y.m
  ow : x.ow = y.ow
  n : x.n = y.n
  ep : x.ep = y.ep
  kn : x.kn = y.kn
  rt : x.rt = y.rt
  lu : x.lu = y.lu
  ins : shT.R w x.v y.ins
theorem Sh.R.keepE {α : Type} {s : Sh α} {w w' : World} {v : Value} {L : List α} {S : List Nat} (h : s.R w v L) (hk : Keeps S w w') (hS : ∀ b ∈ S, L ≠ [] → v.ownBlock ≠ some b) : s.R w' v L := by
  by_cases e : L = []
  · subst e
    obtain ⟨h1, a, cap, rfl, h2, h3, h0, _⟩ := h
    exact ⟨h1, a, cap, rfl, h2, h3, h0, fun hp => by simp [Sh.cs] at hp⟩
  · exact h.keepS hk (fun b hb => hS b hb e)
theorem InR.keep {w w' : World} {x : AnV} {y : Ans} {S : List Nat} (h : InR w x y) (hk : Keeps S w w') (hS : ∀ b ∈ S, x.v.ownBlock ≠ some b) : InR w' x y := ⟨h.m, h.ow, h.n, h.ep, h.kn, h.rt, h.lu, h.ins.keepS hk hS⟩
theorem keepsP_remade {S : Nat → Prop} (w : World) (A B : Obj) (hS : S w.heap.size) : Free.KeepsP S (w.alloc A) (w.alloc B) :=
  ⟨rfl, rfl, rfl, by simp, fun k hk hn => by
    have hk' : k < w.heap.size + 1 := by simpa using hk
    have hne : k ≠ w.heap.size := fun e => hn (e ▸ hS)
    rw [Below.heap_alloc _ _ _ (by omega), Below.heap_alloc _ _ _ (by omega)]⟩
theorem Free.KeepsP.drews {S : Nat → Prop} {a b : World} (h : Free.KeepsP S a b) : Free.KeepsP S a.drew b.drew := ⟨h.os, h.tape, h.output, h.size, h.block⟩
/-- What the map of the answers says of a question. -/
theorem LR.open {w : World} {R : List (Qn × AnV)} {t : Tr} {q : Qn} (h : LR w R t.rec') (hnd : t.op.Nodup) : ((MapS.get q R).isSome = true → isOpen q t.qs = false) ∧ ((MapS.get q R).isSome = false → isOpen q t.qs = decide (q ∈ t.op)) := by
  constructor
  · intro hs
    rcases h.2 q with ⟨h1, _⟩ | ⟨x, y, h1, h2, _⟩
    · rw [h1] at hs; cases hs
    · have hm := (get_rec hnd q y).1 h2
      cases ho : isOpen q t.qs with
      | false => rfl
      | true => have := nd_val hnd hm (isOpen_mem.1 ho); cases this
  · intro hs
    rcases h.2 q with ⟨h1, h2⟩ | ⟨x, y, h1, h2, _⟩
    · unfold isOpen
      rw [decide_eq_decide]
      constructor
      · exact fun hm => List.mem_map.2 ⟨_, hm, rfl⟩
      · intro hm
        obtain ⟨⟨k, u⟩, hm2, rfl⟩ := List.mem_map.1 hm
        cases u with
        | none => exact hm2
        | some b => rw [show MapS.get (k, some b).1 t.rec' = _ from (get_rec hnd k b).2 hm2] at h2; cases h2
    · rw [h1] at hs; cases hs
theorem LA.any {w : World} {m ep : Int} : ∀ {X : List AnV} {Y : List Ans}, LA w X Y → Y.any (Ans.odd m ep) = X.any (AnV.odd m ep)
  | [], [], _ => rfl
  | [], _ :: _, h => by have := h.1; simp at this
  | _ :: _, [], h => by have := h.1; simp at this
  | x :: X, y :: Y, h => by
    have ih := LA.any (X := X) (Y := Y) (m := m) (ep := ep) ⟨by have := h.1; simpa using this, fun k a b ha hb => h.2 (k + 1) a b (by simpa using ha) (by simpa using hb)⟩
    have h0 := h.2 0 x y rfl rfl
    rw [List.any_cons, List.any_cons, ih, Ans.odd, AnV.odd, h0.m, h0.ep]
end Go.Proofs.YtiplgpefapeapaaGreat

namespace Go.Proofs.YtiplgpefapeapaaGreat
open Go.RowKit

/-- What a question asks. -/
def askOf (p : Qn × Option Ans) : Option T3 := if p.2.isSome then none else some (p.1.1, p.1.2.2, p.1.2.1)
def Tr.queries (t : Tr) : Tr × List T3 := if t.state ≠ 0 then (t, []) else ({ t with told := t.qs.length }, (t.qs.drop t.told.toNat).filterMap askOf)
theorem LR.some {w : World} {R : List (Qn × AnV)} {t : Tr} {q : Qn} {u : Option Ans} (h : LR w R t.rec') (hnd : t.op.Nodup) (hm : (q, u) ∈ t.qs) : (MapS.get q R).isSome = u.isSome := by
  rcases h.2 q with ⟨h1, h2⟩ | ⟨x, y, h1, h2, _⟩
  · rw [h1]
    cases u with
    | none => rfl
    | some b => rw [show MapS.get q t.rec' = _ from (get_rec hnd q b).2 hm] at h2; cases h2
  · rw [h1]
    have := nd_val hnd ((get_rec hnd q y).1 h2) hm
    rw [← this]; rfl
end Go.Proofs.YtiplgpefapeapaaGreat

namespace Go.Proofs.YtiplgpefapeapaaGreat
open Go.RowKit Go
namespace MapS
variable {P : Program} {kt : TypeId} {κ : Type} [DecidableEq κ] {α : Type} {K : KT P kt κ} {vf : α → Value} {w w' : World} {b r : Nat} {L R : Es κ α}
theorem Rg.lt (h : Rg K vf w b r L R) : b < w.heap.size ∧ r < w.heap.size ∧ r ≠ b := by
  obtain ⟨⟨n, D, left, cnt, hr, _⟩, _⟩ := h
  exact ⟨hr.owns.lt, hr.lt, hr.ne⟩
theorem Rg.kept {S : List Nat} (h : Rg K vf w b r L R) (hk : Keeps S w w') (hb : b ∉ S) (hr : r ∉ S) : Rg K vf w' b r L R := by
  obtain ⟨hl1, hl2, _⟩ := h.lt
  obtain ⟨⟨n, D, left, cnt, ⟨es, clock, since, seen, c0, e1, F, hs, hD, e2, rest⟩, hR⟩, h2, h3, h4, h5⟩ := h
  exact ⟨⟨n, D, left, cnt, ⟨es, clock, since, seen, c0, (hk.block b hl1 hb).trans e1, F, hs, hD, (hk.block r hl2 hr).trans e2, rest⟩, hR⟩, h2, h3, h4, h5⟩
theorem Rg.keeps (h : Rg K vf w b r L R) (hk : Keeps [] w w') : Rg K vf w' b r L R := h.kept hk (by simp) (by simp)
theorem del_self {x : κ} : ∀ {L : Es κ α}, x ∉ L.map (·.1) → del x L = L := fun {L} h => List.filter_eq_self.2 (fun p hp => by
  have : p.1 ≠ x := fun e => h (List.mem_map.2 ⟨p, hp, e⟩)
  simp [this])
theorem perm_del {x : κ} {u : α} : ∀ {L : Es κ α}, ND L → (x, u) ∈ L → L.Perm ((x, u) :: del x L)
  | [], _, h => by simp at h
  | q :: s, hn, hm => by
    obtain ⟨n1, n2⟩ := List.nodup_cons.1 hn
    rcases List.mem_cons.1 hm with rfl | hm
    · have : del x ((x, u) :: s) = s := by
        have hs := del_self (x := x) (L := s) n1
        unfold del at hs ⊢
        rw [List.filter_cons_of_neg (by simp)]; exact hs
      rw [this]
    · have hqx : q.1 ≠ x := fun e => n1 (List.mem_map.2 ⟨(x, u), hm, e.symm⟩)
      have : del x (q :: s) = q :: del x s := by unfold del; rw [List.filter_cons_of_pos (by simp [hqx])]
      rw [this]
      exact ((perm_del n2 hm).cons q).trans (List.Perm.swap _ _ _)
end MapS
end Go.Proofs.YtiplgpefapeapaaGreat

namespace Go.Proofs.YtiplgpefapeapaaGreat
open Go.RowKit

/-- What is still to come of the recorded answers. -/
theorem LR.next {w : World} {R R' : List (Qn × AnV)} {Y : List (Qn × Ans)} {x : Qn} {u : AnV} (h : LR w R Y) (hn : MapS.ND R) (hY : MapS.ND Y) (hm : (x, u) ∈ R) (hp : R.Perm ((x, u) :: R')) :
    ∃ y, InA w u y ∧ Y.Perm ((x, y) :: MapS.del x Y) ∧ LR w R' (MapS.del x Y) ∧ MapS.ND (MapS.del x Y) := by
  have hgx := MapS.get_of_mem hn hm
  rcases h.2 x with ⟨h1, _⟩ | ⟨u', y, h1, h2, h3⟩
  · rw [hgx] at h1; cases h1
  · rw [hgx] at h1
    cases h1
    have hpy := MapS.perm_del hY (MapS.get_mem h2)
    refine ⟨y, h3, hpy, ⟨?_, fun q => ?_⟩, MapS.nd_del hY⟩
    · have e1 := hp.length_eq
      have e2 := hpy.length_eq
      have e3 := h.1
      simp at e1 e2; omega
    · have hn' : MapS.ND ((x, u) :: R') := by
        have h1 : (R.map (fun p => p.1)).Nodup := hn
        exact (hp.map (fun p => p.1)).nodup_iff.1 h1
      have hg : MapS.get q R = MapS.get q ((x, u) :: R') := MapS.get_perm hn' hp.symm
      have hnx : MapS.get x R' = none := MapS.get_none.2 (fun p hp e => (List.nodup_cons.1 hn').1 (List.mem_map.2 ⟨p, hp, e⟩))
      rw [MapS.get_del]
      by_cases e : q = x
      · subst e
        exact .inl ⟨hnx, by rw [if_pos rfl]⟩
      · rw [if_neg e]
        have : MapS.get q R' = MapS.get q R := by
          rw [hg]
          have e' : ¬ x = q := fun h => e h.symm
          simp [MapS.get, e']
        rw [this]
        exact h.2 q
/-- A sorted list of answers is the only one. -/
theorem sortedA_uniq : ∀ {Y Z : List Ans}, Y.Perm Z → Y.Pairwise (fun x y => qlt x.q y.q) → Z.Pairwise (fun x y => qlt x.q y.q) → Y = Z
  | [], Z, hp, _, _ => by simpa using hp.symm
  | y :: Y, [], hp, _, _ => by simp at hp
  | y :: Y, z :: Z, hp, h1, h2 => by
    have e : y = z := by
      obtain ⟨a1, _⟩ := List.pairwise_cons.1 h1
      obtain ⟨b1, _⟩ := List.pairwise_cons.1 h2
      have hy : y ∈ z :: Z := hp.mem_iff.1 (by simp)
      have hz : z ∈ y :: Y := hp.mem_iff.2 (by simp)
      rcases List.mem_cons.1 hy with e | hy
      · exact e
      · rcases List.mem_cons.1 hz with e | hz
        · exact e.symm
        · exact absurd (qlt_trans (a1 z hz) (b1 y hy)) (qlt_irrefl _)
    subst e
    rw [sortedA_uniq (List.perm_cons _ |>.1 hp) (List.pairwise_cons.1 h1).2 (List.pairwise_cons.1 h2).2]
/-- The recorded answers in their order. -/
def SortedA (t : Tr) (Y : List Ans) : Prop := Y.Perm (t.rec'.map (·.2)) ∧ Y.Pairwise (fun x y => qlt x.q y.q)
theorem SortedA.uniq {t : Tr} {Y Z : List Ans} (h : SortedA t Y) (h2 : SortedA t Z) : Y = Z := sortedA_uniq (h.1.trans h2.1.symm) h.2 h2.2
/-- The order of cells and of answers. -/
theorem LA.perm {w : World} {X X' : List AnV} {Y : List Ans} (h : LA w X Y) (hp : X'.Perm X) : ∃ Y', Y'.Perm Y ∧ LA w X' Y' := by
  induction hp generalizing Y with
  | nil => exact ⟨Y, List.Perm.refl _, h⟩
  | @cons x l1 l2 hp ih =>
    cases Y with
    | nil => have := h.1; simp at this
    | cons y Y =>
      have h0 := h.2 0 x y rfl rfl
      obtain ⟨Y', p, hl⟩ := ih (Y := Y) ⟨by have := h.1; simpa using this, fun k a b ha hb => h.2 (k + 1) a b (by simpa using ha) (by simpa using hb)⟩
      refine ⟨y :: Y', p.cons y, by simp [hl.1], fun k a b ha hb => ?_⟩
      cases k with
      | zero => simp at ha hb; subst ha hb; exact h0
      | succ k => exact hl.2 k a b (by simpa using ha) (by simpa using hb)
  | @swap x y l =>
    match Y, h with
    | [], h => have := h.1; simp at this
    | [_], h => have := h.1; simp at this
    | a :: b :: Y, h =>
      have h0 := h.2 0 _ _ rfl rfl
      have h1 := h.2 1 _ _ rfl rfl
      refine ⟨b :: a :: Y, List.Perm.swap _ _ _, by have := h.1; simpa using this, fun k u v hu hv => ?_⟩
      match k with
      | 0 => simp at hu hv; subst hu hv; exact h1
      | 1 => simp at hu hv; subst hu hv; exact h0
      | k + 2 => exact h.2 (k + 2) u v (by simpa using hu) (by simpa using hv)
  | trans p1 p2 ih1 ih2 =>
    obtain ⟨Y1, q1, h1⟩ := ih2 h
    obtain ⟨Y2, q2, h2⟩ := ih1 h1
    exact ⟨Y2, q2.trans q1, h2⟩
theorem LA.keys {w : World} {X : List AnV} {Y : List Ans} (h : LA w X Y) : X.map AnV.q = Y.map Ans.q := by
  refine List.ext_getElem (by simp [h.1]) (fun k h1 h2 => ?_)
  simp only [List.getElem_map]
  exact (h.2 k _ _ (List.getElem?_eq_getElem _) (List.getElem?_eq_getElem _)).q
set_option maxRecDepth 100000 in
set_option maxHeartbeats 10000000 in
theorem answers_c (w : World) (B bt bm : Nat) (vo vh vg : Value) (t : Tr) (h : TrM w B bt bm vo vh vg t) (hl : t.qs.length ≤ 100000) :
    Calls Tryz.prog 65 #[.pointer (some ⟨bt, 0, none⟩)] w fun e w' => ∃ v X Y, e = .returned v ∧ shA.O w' w.heap.size tA v X ∧ LA w' X Y ∧ SortedA t Y ∧ Keeps [] w w' := by
  obtain ⟨R, hR, hRL⟩ := h.mp
  have hrl := (rec_len t.qs).1
  have hnd := recOf_nd h.inv.nd
  have hro := h.inv.ro
  have hrq := h.inv.rq
  have c7 := h.cells.2.2.2.2.2.2.2.1
  have hlt := h.lt
  have hRlen : R.length ≤ 100000 := by have := hRL.1; simp only [Tr.rec'] at this; omega
  replace hR := Lib.hid hR
  replace hRL := Lib.hid hRL
  replace hnd := Lib.hid hnd
  replace hro := Lib.hid hro
  replace hrq := Lib.hid hrq
  clear h
  go_enter Tryz.func65, Tryz.ntmps65
  go_wp2_with (at_range; refine MapS.wpl_range ktQ rfl _ rfl Tryz.underlying97 rfl hR.out ?_; intro w1 hrg1 hg1 hs1)
  have hk1 : Keeps [] w w1 := (Keeps.refl [] w).grown hg1 (by simp)
  have hRL1 := hRL.out.ki hk1.ki0
  have hns : (t.rec'.map (fun p => p.1)).Nodup := hnd.out
  replace hrg1 := Lib.hid hrg1
  replace hk1 := Lib.hid hk1
  replace hRL1 := Lib.hid hRL1
  replace hns := Lib.hid hns
  clear hR hRL hg1
  go_frame
  go_loopg [3] R.length (fun n ov wr => ∃ (rs : List (Qn × AnV)) (Yd Yr : List (Qn × Ans)) (X : List AnV), n = rs.length ∧ Hid (MapS.Rg ktQ aV wr bm w.heap.size R rs) ∧ Hid (LR wr rs Yr) ∧ Hid (MapS.ND Yr) ∧ Hid ((Yd ++ Yr).Perm t.rec') ∧ Hid (shA.O wr w.heap.size tA ov X) ∧ Hid (LA wr X (Yd.map (·.2))) ∧ Hid (Keeps [] w wr))
  case atStart => exact ⟨R, [], t.rec', [], rfl, hrg1, hRL1, hnd, by simp [Hid], Sh.O.nil _ _ _ _, LA.nil _, hk1⟩
  case round =>
    obtain ⟨rs, Yd, Yr, X, rfl, hrg, hLR, hNr, hP, hO, hLA, hkw⟩ := hrel
    obtain ⟨oa, oc, rfl⟩ := hO.out.form
    obtain ⟨NN, hNN⟩ : ∃ n, X.length = n := ⟨_, rfl⟩
    have hNl : NN ≤ 100000 := by
      have h1 := hP.out.length_eq
      have h2 := hLA.out.1
      have h3 : t.rec'.length = (recOf t.qs).length := rfl
      simp at h1 h2; omega
    rw [hNN] at hO ⊢
    replace hNN := Lib.hid hNN
    go_wp2_with (at_next; refine MapS.wpl_next ktQ rfl _ rfl rfl hrg.out ?_ ?_)
    case _ =>
      intro hrs
      subst hrs
      have hYr : Yr = [] := by have := hLR.out.1; simpa [eq_comm] using this
      subst hYr
      have hP2 : Yd.Perm t.rec' := by simpa using hP.out
      have hsort := sortA_c wr w.heap.size _ X hO.out (by rw [hNN.out]; omega)
      replace hsort := Lib.hid hsort
      replace hP2 := Lib.hid hP2
      clear hP hrg hLR hNr
      go_wp2_with fail
      refine hsort.out.mono ?_
      rintro e w2 ⟨rfl, X', hp, hpw, hO2, hk2⟩
      have hk2' : Keeps [] w w2 := hkw.out.fresh hk2 (fun b hb => .inr (hO.out.ge b (by simpa using hb)))
      have hi2 : KI wr w2 := hk2.ki (fun b hb cs f e => by
        obtain ⟨cs', hc⟩ := hO.out.tag b (by simpa using hb)
        exact tag_ne hc e (by decide) rfl)
      obtain ⟨Y', hpy, hL2⟩ := (hLA.out.ki hi2).perm hp
      have hPY : Y'.Perm (t.rec'.map (·.2)) := hpy.trans (hP2.out.map _)
      have hkeys : (t.rec'.map (·.2)).map Ans.q = t.rec'.map (fun p => p.1) := by
        rw [List.map_map]
        exact List.map_congr_left (fun p hp => hrq.out p hp)
      have hnY : (Y'.map Ans.q).Nodup := by
        have := (hPY.map Ans.q)
        rw [hkeys] at this
        exact this.nodup_iff.2 hns.out
      have hpY : (Y'.map Ans.q).Pairwise (fun x y => ¬ qlt y x) := by
        rw [← hL2.keys]
        exact List.pairwise_map.2 hpw
      have hstr : Y'.Pairwise (fun x y => qlt x.q y.q) := by
        have := List.Pairwise.and hpY hnY
        exact List.pairwise_map.1 (this.imp (fun {x y} h => by
          by_cases h2 : qlt x y
          · exact h2
          · exact absurd (qlt_total h2 h.1) h.2))
      have hfin : ∃ Xa Ya, shA.O w2 w.heap.size tA (.slice oa NN oc) Xa ∧ LA w2 Xa Ya ∧ SortedA t Ya ∧ Keeps [] w w2 := ⟨X', Y', hO2, hL2, ⟨hPY, hstr⟩, hk2'⟩
      replace hfin := Lib.hid hfin
      clear hpw hO2 hk2 hk2' hi2 hpy hL2 hPY hkeys hnY hpY hstr hp hsort hO hLA hkw
      go_wp2
      go_ret
      obtain ⟨Xa, Ya, f1, f2, f3, f4⟩ := hfin.out
      exact ⟨_, Xa, Ya, rfl, f1, f2, f3, f4⟩
    case _ =>
      intro x0 x1 x2 u R' w2 hok hgu hum hperm hrg2 hg2 hs2 hen
      have hns2 : MapS.ND rs := by obtain ⟨_, _, h3, _⟩ := hrg.out; exact h3
      obtain ⟨y, hxy, hpY, hLR2, hN2⟩ := hLR.out.next hns2 hNr.out hum hperm
      have hk2 : Keeps [] w w2 := hkw.out.grown hg2 (fun k e => by simp at e; subst e; exact .inl (Nat.le_refl _))
      have hk2r : Keeps [w.heap.size] wr w2 := Keeps.of_grown hg2
      have hi2 : KI wr w2 := hk2r.ki (fun b hb cs f e => by
        simp at hb; subst hb
        obtain ⟨⟨n, D, left, cnt, ⟨es, clock, since, seen, c0, e1, F, hs, hD, e2, rest⟩, hR⟩, _⟩ := hrg.out
        rw [e2] at e; cases e)
      have hO2 : shA.O w2 w.heap.size tA (.slice oa NN oc) X := hO.out.keepS hk2r (fun b hb e => by
        simp at hb; subst hb
        obtain ⟨cs, hc⟩ := hO.out.tag _ e
        obtain ⟨⟨n, D, left, cnt, ⟨es, clock, since, seen, c0, e1, F, hs, hD, e2, rest⟩, hR⟩, _⟩ := hrg.out
        rw [hc] at e2; cases e2)
      have hLA2 := hLA.out.ki hi2
      have hyo : y.Ok := by
        have : (( x0, x1, x2), y) ∈ t.rec' := hP.out.mem_iff.1 (List.mem_append_right _ (hpY.mem_iff.2 (by simp)))
        exact hro.out _ this
      have hxy2 := hxy.ki hi2
      have hLR3 := hLR2.ki hi2
      have hrl2 : R'.length < rs.length := by have := hperm.length_eq; simp at this; omega
      have hP3 : ((Yd ++ [((x0, x1, x2), y)]) ++ MapS.del (x0, x1, x2) Yr).Perm t.rec' := by
        rw [List.append_assoc]
        exact ((List.Perm.refl Yd).append hpY.symm).trans hP.out
      obtain ⟨u0, u1, u2, u3, u4, u5, u6, u7, u8, u9⟩ := u
      have hcop := fun (W : World) (hk : Keeps [] w2 W) => copied_c W ⟨u0, u1, u2, u3, u4, u5, u6, u7, u8, u9⟩ y.ins (hxy2.ins.r.keeps hk) (by have := hyo.len; omega)
      simp only [ktQ, qV, aV, AnV.v] at hen hcop
      replace hcop := Lib.hid hcop
      replace hxy2 := Lib.hid hxy2
      replace hLR3 := Lib.hid hLR3
      replace hP3 := Lib.hid hP3
      replace hN2 := Lib.hid hN2
      replace hrg2 := Lib.hid hrg2
      replace hO2 := Lib.hid hO2
      replace hLA2 := Lib.hid hLA2
      replace hk2 := Lib.hid hk2
      clear hg2 hk2r hi2 hxy hpY hLR2 hns2 hgu hum hok hyo hP hrg hLR hNr hO hLA hkw hperm
      go_wp2_with fail
      refine (hcop.out _ ((Keeps.refl [] _).alloc _)).mono ?_
      rintro e w3 ⟨⟨z0, z1, z2, z3, z4, z5, z6, z7, z8, z9⟩, rfl, f0, f1, f2, f3, f4, f5, f6, hIO, hk3⟩
      simp only at f0 f1 f2 f3 f4 f5 f6
      subst f0 f1 f2 f3 f4 f5 f6
      have hk23 : Keeps [] w2 w3 := ((Keeps.refl [] w2).alloc _).trans hk3
      have hO3 := (hO2.out.keeps hk23).keeps ((Keeps.refl [] w3).alloc (.cells #[.int .i64 z0, .int .i64 z1, .int .u64 z2, .int .i64 z3, .bool z4, .bool z5, .int .i64 z6, .slice z7 z8 z9] tA))
      have hk34 := hk23.trans ((Keeps.refl [] w3).alloc (.cells #[.int .i64 z0, .int .i64 z1, .int .u64 z2, .int .i64 z3, .bool z4, .bool z5, .int .i64 z6, .slice z7 z8 z9] tA))
      have hmade := Sh.O.one shA w3 (⟨z0, z1, z2, z3, z4, z5, z6, z7, z8, z9⟩ : AnV) #[.int .i64 z0, .int .i64 z1, .int .u64 z2, .int .i64 z3, .bool z4, .bool z5, .int .i64 z6, .slice z7 z8 z9] tA 0 rfl (by omega)
      have hwz := (hk2.out.trans hk34).size
      have hxy3 : InA w3 ⟨z0, z1, z2, z3, z4, z5, z6, z7, z8, z9⟩ y := ⟨hxy2.out.m, hxy2.out.ow, hxy2.out.n, hxy2.out.ep, hxy2.out.kn, hxy2.out.rt, hxy2.out.lu, hIO⟩
      simp only [AnV.v] at hIO
      replace hO3 := Lib.hid hO3
      replace hk34 := Lib.hid hk34
      replace hmade := Lib.hid hmade
      replace hxy3 := Lib.hid hxy3
      clear hO2 hcop hIO hk3 hk23 hxy2
      go_wp2_with (at_builtin; go_loud (refine Sh.wpl_app shA w.heap.size infoA rfl Tryz.underlying29 (.slice oa NN oc) (.slice (some ⟨w3.heap.size, 0, none⟩) 1 1) X [(⟨z0, z1, z2, z3, z4, z5, z6, z7, z8, z9⟩ : AnV)] rfl _ _ rfl rfl rfl hO3.out hmade.out.r (by rw [hNN.out]; simp; omega) (by simp at hwz; simp; omega) ?_; intro v5 w5 hO5 hG5; have hk45 := Sh.O.grew (hk2.out.trans hk34.out) hO3.out hG5 (Nat.le_refl _); have hGk := hG5.keepsO; clear hG5; replace hO5 := Lib.hid hO5; replace hk45 := Lib.hid hk45; replace hGk := Lib.hid hGk))
      have hi35 : KI (w3.alloc (.cells #[.int .i64 z0, .int .i64 z1, .int .u64 z2, .int .i64 z3, .bool z4, .bool z5, .int .i64 z6, .slice z7 z8 z9] tA)) w5 := hGk.out.ki (fun b hb cs f e => by
        obtain ⟨cs', hc⟩ := hO3.out.tag b (by simpa using hb)
        exact tag_ne hc e (by decide) rfl)
      have hi25 : KI w2 w5 := hk34.out.ki0.trans hi35
      have hrg3 := hrg2.out.keeps hk34.out
      have hnot : ∀ b, (∃ es c, w2.heap[b]? = some (Obj.map es c)) ∨ (∃ a s n c, w2.heap[b]? = some (Obj.mapIter a s n c)) → b < w2.heap.size → b ∉ (Value.slice oa NN oc).ownBlock.toList := fun b hb hl hm => by
        obtain ⟨cs', hc⟩ := hO3.out.tag b (by simpa using hm)
        rw [hk34.out.block b hl (by simp)] at hc
        rcases hb with ⟨es, c, e⟩ | ⟨a, s, n, c, e⟩
        · rw [e] at hc; cases hc
        · rw [e] at hc; cases hc
      have hrg5 : MapS.Rg ktQ aV w5 bm w.heap.size R R' := by
        obtain ⟨l1, l2, _⟩ := hrg2.out.lt
        obtain ⟨⟨n, D, left, cnt, ⟨es, clock, since, seen, c0, e1, F, hs, hD, e2, rest⟩, hR⟩, _⟩ := id hrg2.out
        exact hrg3.kept hGk.out (hnot _ (.inl ⟨_, _, e1⟩) l1) (hnot _ (.inr ⟨_, _, _, _, e2⟩) l2)
      have hL5 := (hLA2.out.ki hi25).snoc (hxy3.out.ki (((Keeps.refl [] w3).alloc _).ki0.trans hi35))
      rw [show Yd.map (·.2) ++ [y] = (Yd ++ [((x0, x1, x2), y)]).map (·.2) by simp] at hL5
      have hLR5 := hLR3.out.ki hi25
      replace hrg5 := Lib.hid hrg5
      replace hL5 := Lib.hid hL5
      replace hLR5 := Lib.hid hLR5
      clear hi35 hi25 hrg3 hnot hrg2 hLA2 hLR3 hO3 hk34 hGk hxy3 hmade
      go_wp2
      go_roundg R'.length
      case measure => exact hrl2
      case rel => exact ⟨R', _, _, _, rfl, hrg5, hLR5, hN2, hP3, hO5, hL5, hk45⟩
end Go.Proofs.YtiplgpefapeapaaGreat

namespace Go.Proofs.YtiplgpefapeapaaGreat
open Go.RowKit

/-- A claim. -/
structure PCl where
  m : Int
  ep : Int
  st : List T3
  sc : List T3
  ch : List T3
  deriving DecidableEq
def PCl.at (x : PCl) : Nat → List T3
  | 0 => x.st
  | 1 => x.sc
  | _ => x.ch
def PCl.upd (x : PCl) (j : Nat) (L : List T3) : PCl := match j with
  | 0 => { x with st := L }
  | 1 => { x with sc := L }
  | _ => { x with ch := L }
abbrev SlT := Option Addr × Nat × Nat
abbrev nilT : SlT := (none, 0, 0)
def rowsC (P : List PCl) (V : Nat → Nat → SlT) : List ClV := P.mapIdx (fun k p => ⟨p.m, p.ep, V k 0, V k 1, V k 2⟩)
theorem rowsC_len (P : List PCl) (V : Nat → Nat → SlT) : (rowsC P V).length = P.length := by simp [rowsC]
theorem rowsC_get (P : List PCl) (V : Nat → Nat → SlT) (k : Nat) (hk : k < P.length) : (rowsC P V)[k]'(by rw [rowsC_len]; exact hk) = ⟨P[k].m, P[k].ep, V k 0, V k 1, V k 2⟩ := by simp [rowsC]
def updV (V : Nat → Nat → SlT) (k j : Nat) (v : SlT) : Nat → Nat → SlT := fun a b => if a = k ∧ b = j then v else V a b
structure CL (w : World) (B : Nat) (vc : Value) (P : List PCl) (V : Nat → Nat → SlT) : Prop where
  c : shC.O w B tC vc (rowsC P V)
  o : ∀ k j (hk : k < P.length), j < 3 → shT.O w B tN (slv (V k j)) (P[k].at j)
  d : ∀ k j k' j' b, k < P.length → j < 3 → k' < P.length → j' < 3 → (slv (V k j)).ownBlock = some b → (slv (V k' j')).ownBlock = some b → k = k' ∧ j = j'
theorem CL.nil (w : World) (B : Nat) (V : Nat → Nat → SlT) : CL w B (.slice none 0 0) [] V := ⟨Sh.O.nil _ _ _ _, fun k j hk => by simp at hk, fun k j k' j' b hk => by simp at hk⟩
namespace CL
variable {w w' : World} {B : Nat} {vc vc' : Value} {P : List PCl} {V : Nat → Nat → SlT}
theorem keeps (h : CL w B vc P V) (hk : Keeps [] w w') : CL w' B vc P V := ⟨h.c.keeps hk, fun k j h1 h2 => (h.o k j h1 h2).keeps hk, h.d⟩
/-- The rows' blocks are no needs' blocks. -/
theorem ne (h : CL w B vc P V) {k j b : Nat} (hk : k < P.length) (hj : j < 3) (h1 : (slv (V k j)).ownBlock = some b) : vc.ownBlock ≠ some b := fun e => by
  obtain ⟨cs, h2⟩ := (h.o k j hk hj).tag b h1
  obtain ⟨cs', h3⟩ := h.c.tag b e
  exact tag_ne h2 h3 (by decide) rfl
theorem push (h : CL w B vc P V) (m ep : Int) (hG : Grw w w' vc vc') (hO : shC.O w' B tC vc' (rowsC P V ++ [⟨m, ep, nilT, nilT, nilT⟩])) :
    CL w' B vc' (P ++ [⟨m, ep, [], [], []⟩]) (fun a b => if a = P.length then nilT else V a b) := by
  have hk := hG.keepsO
  refine ⟨?_, fun k j hk2 hj => ?_, fun k j k' j' b h1 h2 h3 h4 e1 e2 => ?_⟩
  · have e : rowsC (P ++ [⟨m, ep, [], [], []⟩]) (fun a b => if a = P.length then nilT else V a b) = rowsC P V ++ [⟨m, ep, nilT, nilT, nilT⟩] := by
      refine List.ext_getElem (by simp [rowsC_len]) (fun k h1 h2 => ?_)
      have hk1 : k < P.length + 1 := by simpa [rowsC_len] using h1
      rw [rowsC_get _ _ k (by simpa using hk1)]
      by_cases e : k = P.length
      · subst e
        simp [List.getElem_append, rowsC_len]
      · have hlt : k < P.length := by omega
        rw [show (rowsC P V ++ [⟨m, ep, nilT, nilT, nilT⟩])[k] = (rowsC P V)[k]'(by rw [rowsC_len]; exact hlt) from List.getElem_append_left _, rowsC_get P V k hlt]
        simp [List.getElem_append_left hlt, e]
    rw [e]; exact hO
  · by_cases e : k = P.length
    · subst e
      simp only [if_true]
      have : (P ++ [(⟨m, ep, [], [], []⟩ : PCl)])[P.length].at j = [] := by
        simp only [List.getElem_concat_length]
        unfold PCl.at; split <;> rfl
      rw [this]
      exact Sh.O.nil _ _ _ _
    · have hlt : k < P.length := by simp at hk2; omega
      simp only [if_neg e, List.getElem_append_left hlt]
      refine (h.o k j hlt hj).keepS hk (fun b hb e => ?_)
      exact h.ne hlt hj e (by simpa using hb)
  · have n1 : k ≠ P.length := fun e => by subst e; simp [slv, Value.ownBlock] at e1
    have n2 : k' ≠ P.length := fun e => by subst e; simp [slv, Value.ownBlock] at e2
    simp only [if_neg n1] at e1
    simp only [if_neg n2] at e2
    simp at h1 h3
    exact h.d k j k' j' b (by omega) h2 (by omega) h4 e1 e2
theorem at_upd (x : PCl) (j j' : Nat) (L : List T3) (hj : j < 3) (hj' : j' < 3) : (x.upd j L).at j' = if j' = j then L else x.at j' := by
  match j, j', hj, hj' with
  | 0, 0, _, _ => rfl
  | 0, 1, _, _ => rfl
  | 0, 2, _, _ => rfl
  | 1, 0, _, _ => rfl
  | 1, 1, _, _ => rfl
  | 1, 2, _, _ => rfl
  | 2, 0, _, _ => rfl
  | 2, 1, _, _ => rfl
  | 2, 2, _, _ => rfl
theorem upd_m (x : PCl) (j : Nat) (L : List T3) : (x.upd j L).m = x.m ∧ (x.upd j L).ep = x.ep := by unfold PCl.upd; split <;> exact ⟨rfl, rfl⟩
/-- One list of needs turns, in its own block. -/
theorem turn (h : CL w B vc P V) {k j : Nat} (hk : k < P.length) (hj : j < 3) {L' : List T3} (hK : Keeps (slv (V k j)).ownBlock.toList w w') (hO : shT.O w' B tN (slv (V k j)) L') : CL w' B vc (P.set k (P[k].upd j L')) V := by
  refine ⟨?_, fun k' j' hk' hj' => ?_, fun k' j' k2 j2 b h1 h2 h3 h4 e1 e2 => h.d k' j' k2 j2 b (by simpa using h1) h2 (by simpa using h3) h4 e1 e2⟩
  · have e : rowsC (P.set k (P[k].upd j L')) V = rowsC P V := by
      refine List.ext_getElem (by simp [rowsC_len]) (fun i h1 h2 => ?_)
      have hi : i < P.length := by simpa [rowsC_len] using h2
      rw [rowsC_get _ _ i (by simpa using hi), rowsC_get P V i hi]
      rw [List.getElem_set]
      split
      · rename_i e; subst e; rw [(upd_m _ _ _).1, (upd_m _ _ _).2]
      · rfl
    rw [e]
    exact h.c.keepS hK (fun b hb e => h.ne hk hj (by simpa using hb) e)
  · have hk2 : k' < P.length := by simpa using hk'
    rw [List.getElem_set]
    by_cases e : k = k'
    · subst e
      rw [if_pos rfl, at_upd _ _ _ _ hj hj']
      by_cases ej : j' = j
      · subst ej; rw [if_pos rfl]; exact hO
      · rw [if_neg ej]
        exact (h.o k j' hk hj').keepS hK (fun b hb e => ej (h.d k j k j' b hk hj hk hj' (by simpa using hb) e).2.symm)
    · rw [if_neg e]
      exact (h.o k' j' hk2 hj').keepS hK (fun b hb e2 => e (h.d k j k' j' b hk hj hk2 hj' (by simpa using hb) e2).1)
/-- One list of needs has grown; the row's cell is stored. -/
theorem app {g n c : Nat} (h : CL w B (.slice (some ⟨g, 0, none⟩) n c) P V) {k j : Nat} (hk : k < P.length) (hj : j < 3) {L' : List T3} {v' : SlT} (hG : Grw w w' (slv (V k j)) (slv v')) (hO : shT.O w' B tN (slv v') L') :
    CL (w'.setCell ⟨g, k * 5 + (2 + j), none⟩ (slv v')) B (.slice (some ⟨g, 0, none⟩) n c) (P.set k (P[k].upd j L')) (updV V k j v') := by
  have hK := hG.keepsO
  have hcK : shC.O w' B tC (.slice (some ⟨g, 0, none⟩) n c) (rowsC P V) := h.c.keepS hK (fun b hb e => h.ne hk hj (by simpa using hb) e)
  have hk2 : Keeps [g] w' (w'.setCell ⟨g, k * 5 + (2 + j), none⟩ (slv v')) := (Keeps.refl _ _).setCell (.inr (by simp)) _
  have hgt : ∃ cs, w'.heap[g]? = some (Obj.cells cs tC (0, 0)) := hcK.tag g (by simp [Value.ownBlock])
  have hne : ∀ {L : List T3} {v : Value}, shT.O w' B tN v L → v.ownBlock ≠ some g := fun hO e => by
    obtain ⟨cs, hc⟩ := hO.tag g e
    obtain ⟨cs', hc'⟩ := hgt
    exact tag_ne hc hc' (by decide) rfl
  refine ⟨?_, fun k' j' hk' hj' => ?_, fun k' j' k2 j2 b h1 h2 h3 h4 e1 e2 => ?_⟩
  · have hkr : k < (rowsC P V).length := by rw [rowsC_len]; exact hk
    have hs := hcK.set hkr ⟨P[k].m, P[k].ep, updV V k j v' k 0, updV V k j v' k 1, updV V k j v' k 2⟩ (2 + j) (slv v') (by
      rw [rowsC_get P V k hk]
      match j, hj with
      | 0, _ => simp [shC, ClV.cs, updV]
      | 1, _ => simp [shC, ClV.cs, updV]
      | 2, _ => simp [shC, ClV.cs, updV]) (by show 2 + j < 5; omega) rfl
    have e : rowsC (P.set k (P[k].upd j L')) (updV V k j v') = (rowsC P V).set k ⟨P[k].m, P[k].ep, updV V k j v' k 0, updV V k j v' k 1, updV V k j v' k 2⟩ := by
      refine List.ext_getElem (by simp [rowsC_len]) (fun i h1 h2 => ?_)
      have hi : i < P.length := by simpa [rowsC_len] using h2
      rw [rowsC_get _ _ i (by simpa using hi), List.getElem_set, List.getElem_set]
      by_cases e : k = i
      · subst e; rw [if_pos rfl, if_pos rfl, (upd_m _ _ _).1, (upd_m _ _ _).2]
      · have e' : ¬ i = k := fun h => e h.symm
        rw [if_neg e, if_neg e, rowsC_get P V i hi]
        simp [updV, e']
    rw [e]; exact hs
  · have hk3 : k' < P.length := by simpa using hk'
    rw [List.getElem_set]
    by_cases e : k = k'
    · subst e
      rw [if_pos rfl, at_upd _ _ _ _ hj hj']
      by_cases ej : j' = j
      · subst ej
        rw [if_pos rfl]
        simp only [updV, and_self, if_true]
        exact hO.keepS hk2 (fun b hb e => by simp at hb; subst hb; exact hne hO e)
      · rw [if_neg ej]
        simp only [updV, ej, and_false, if_false]
        have h1 : shT.O w' B tN (slv (V k j')) (P[k].at j') := (h.o k j' hk hj').keepS hK (fun b hb e => ej (h.d k j k j' b hk hj hk hj' (by simpa using hb) e).2.symm)
        exact h1.keepS hk2 (fun b hb e => by simp at hb; subst hb; exact hne h1 e)
    · rw [if_neg e]
      have e' : ¬ k' = k := fun h => e h.symm
      simp only [updV, e', false_and, if_false]
      have h1 : shT.O w' B tN (slv (V k' j')) (P[k'].at j') := (h.o k' j' hk3 hj').keepS hK (fun b hb e2 => e (h.d k j k' j' b hk hj hk3 hj' (by simpa using hb) e2).1)
      exact h1.keepS hk2 (fun b hb e => by simp at hb; subst hb; exact hne h1 e)
  · have l1 : k' < P.length := by simpa using h1
    have l2 : k2 < P.length := by simpa using h3
    have old : ∀ a c, a < P.length → c < 3 → (slv (V a c)).ownBlock = some b → b < w.heap.size := fun a c ha hc e => (h.o a c ha hc).lt b e
    by_cases c1 : k' = k ∧ j' = j
    · by_cases c2 : k2 = k ∧ j2 = j
      · exact ⟨c1.1.trans c2.1.symm, c1.2.trans c2.2.symm⟩
      · exfalso
        obtain ⟨rfl, rfl⟩ := c1
        simp only [updV, and_self, if_true] at e1
        simp only [updV, if_neg c2] at e2
        rcases hG.own with e3 | ⟨q, e3, hq⟩
        · rw [e3] at e1
          have := h.d k' j' k2 j2 b l1 h2 l2 h4 e1 e2
          exact c2 ⟨this.1.symm, this.2.symm⟩
        · rw [e3] at e1; cases e1
          have := old k2 j2 l2 h4 e2; omega
    · by_cases c2 : k2 = k ∧ j2 = j
      · exfalso
        obtain ⟨rfl, rfl⟩ := c2
        simp only [updV, and_self, if_true] at e2
        simp only [updV, if_neg c1] at e1
        rcases hG.own with e3 | ⟨q, e3, hq⟩
        · rw [e3] at e2
          exact c1 (h.d k' j' k2 j2 b l1 h2 l2 h4 e1 e2)
        · rw [e3] at e2; cases e2
          have := old k' j' l1 h2 e1; omega
      · simp only [updV, if_neg c1] at e1
        simp only [updV, if_neg c2] at e2
        exact h.d k' j' k2 j2 b l1 h2 l2 h4 e1 e2
end CL
end Go.Proofs.YtiplgpefapeapaaGreat

namespace Go.Proofs.YtiplgpefapeapaaGreat
open Go.RowKit

abbrev tE : Nat := 135
theorem eLaw : WideMaps.KeyLaw Tryz.prog tE := deep_law_laid laidOut (m := 4) (by omega) (of_decide_eq_true (by kernel_rfl)) (by kernel_rfl) (by rw [Tryz.underlying135])
theorem e_key (x : Qn) (h : qOk x) : ∃ l, keyOf Tryz.prog tE (qV x) = some l := by
  obtain ⟨m, o, n⟩ := x
  obtain ⟨hm, ho, hn⟩ := h
  simp only at hm ho hn
  obtain ⟨d, hd⟩ : ∃ d, Tryz.prog.types.size = d + 2 := ⟨Tryz.prog.types.size - 2, by have : 2 ≤ Tryz.prog.types.size := of_decide_eq_true (by kernel_rfl); omega⟩
  have h1 : Tryz.prog.keyType tE = true := by kernel_rfl
  have h2 : (qV (m, o, n)).formed Tryz.prog tE = true := by kernel_rfl
  have c1 : Tryz.prog.cellsOf tE = 3 := by kernel_rfl
  have c3 : Tryz.prog.cellsOf 3 = 1 := by kernel_rfl
  have c4 : Tryz.prog.cellsOf 26 = 1 := by kernel_rfl
  unfold keyOf
  simp only [Tryz.underlying135, h1, h2, hd, Bool.and_self, if_true]
  have hk : Tryz.prog.keyLits (d + 2 + 1) tE (qV (m, o, n)).cells.toList = some [.int .i64 m, .int .i64 o, .int .u64 n] := by
    have wm : (Lit.int .i64 m).wf = true := hm
    have wo : (Lit.int .i64 o).wf = true := ho
    have wn := w64u hn
    simp [Program.keyLits, Tryz.underlying135, Tryz.underlying3, Tryz.underlying26, c1, c3, c4, Value.cells, wm, wo, wn]
  rw [hk]
  exact ⟨_, rfl⟩
def ktE : MapS.KT Tryz.prog tE Qn := ⟨qV, qOk, Maps.Keyed.of_law eLaw, e_key, fun x y h => by
  obtain ⟨a, b, c⟩ := x
  obtain ⟨a', b', c'⟩ := y
  simp [qV] at h
  obtain ⟨h1, h2, h3⟩ := h
  rw [h1, h2, show c = c' by omega]⟩
abbrev zV (x : Int) : Value := .int .i64 x
theorem zeroZ (w : World) : (zeroValue 3).run Tryz.prog w = .ok (zV 0) w := by kernel_rfl

def outA (m : Int) (acc : List (Qn × Int)) (x : T3) : List (Qn × Int) := if (MapS.get (m, x.1, x.2.1) acc).isSome then acc else acc ++ [((m, x.1, x.2.1), x.2.2)]
def outsA (acc : List (Qn × Int)) (a : Ans) : List (Qn × Int) := a.ins.foldl (outA a.m) acc
def outsOf (Y : List Ans) : List (Qn × Int) := Y.foldl outsA []
def luOf (t : Tr) (q : Qn) : Int := ((MapS.get q t.rec').map Ans.lu).getD 0
def updL (P : List PCl) (j : Nat) (f : List T3 → List T3) : List PCl := match P[P.length - 1]? with
  | some c => P.set (P.length - 1) (c.upd j (f (c.at j)))
  | none => P
def openC (P : List PCl) (a : Ans) : List PCl := match P[P.length - 1]? with
  | some c => if c.m = a.m then P else P ++ [⟨a.m, a.ep, [], [], []⟩]
  | none => P ++ [⟨a.m, a.ep, [], [], []⟩]
def newC (P : List PCl) (a : Ans) : Bool := match P[P.length - 1]? with
  | some c => decide (c.m ≠ a.m)
  | none => true
def needC (O : List (Qn × Int)) (P : List PCl) (a : Ans) : List PCl := match MapS.get (a.ow, a.m, a.n) O with
  | some o => updL P 0 (fun l => l ++ [(a.ow, a.n, o)])
  | none => updL P 2 (fun l => l ++ [(a.ow, a.n, 0)])
def addN (n : T3) (l : List T3) : List T3 := if n ∈ l then l else l ++ [n]
def scC (t : Tr) (m : Int) (P : List PCl) (x : T3) : List PCl := updL P 1 (addN (x.1, x.2.1, luOf t (x.1, m, x.2.1)))
def rawC (t : Tr) (O : List (Qn × Int)) (P : List PCl) (a : Ans) : List PCl := a.ins.foldl (scC t a.m) (needC O (openC P a) a)
def rawOf (t : Tr) (O : List (Qn × Int)) (Y : List Ans) : List PCl := Y.foldl (rawC t O) []

theorem outA_len (m : Int) (acc : List (Qn × Int)) (x : T3) : (outA m acc x).length ≤ acc.length + 1 := by unfold outA; split <;> simp
theorem out_fold_len (m : Int) : ∀ (l : List T3) (acc : List (Qn × Int)), (l.foldl (outA m) acc).length ≤ acc.length + l.length
  | [], _ => by simp
  | x :: r, acc => by
    rw [List.foldl_cons]
    have := out_fold_len m r (outA m acc x)
    have := outA_len m acc x
    simp; omega
theorem foldl_succ {α β : Type} (f : β → α → β) (b : β) (l : List α) (k : Nat) (hk : k < l.length) : (l.take (k + 1)).foldl f b = f ((l.take k).foldl f b) l[k] := by
  rw [List.take_succ_eq_append_getElem hk, List.foldl_append]; rfl
theorem foldl_all {α β : Type} (f : β → α → β) (b : β) (l : List α) : (l.take l.length).foldl f b = l.foldl f b := by rw [List.take_length]
theorem updL_len (P : List PCl) (j : Nat) (f : List T3 → List T3) : (updL P j f).length = P.length := by unfold updL; split <;> simp
theorem updL_at {P : List PCl} {n : Nat} (hn : P.length = n + 1) (j : Nat) (f : List T3 → List T3) : updL P j f = P.set n ((P[n]'(by omega)).upd j (f ((P[n]'(by omega)).at j))) := by
  unfold updL
  rw [show P.length - 1 = n by omega, List.getElem?_eq_getElem (by omega)]
theorem openC_pos (P : List PCl) (a : Ans) : ∃ n, (openC P a).length = n + 1 ∧ n ≤ P.length := by
  unfold openC
  split
  · rename_i c h
    have := (List.getElem?_eq_some_iff.1 h).1
    split
    · exact ⟨P.length - 1, by omega, by omega⟩
    · exact ⟨P.length, by simp, by omega⟩
  · exact ⟨P.length, by simp, by omega⟩
theorem openC_new {P : List PCl} {a : Ans} (h : newC P a = true) : openC P a = P ++ [⟨a.m, a.ep, [], [], []⟩] := by
  unfold newC at h
  unfold openC
  split
  · rename_i c e
    rw [e] at h
    rw [if_neg (of_decide_eq_true h)]
  · rfl
theorem openC_old {P : List PCl} {a : Ans} (h : newC P a = false) : openC P a = P := by
  unfold newC at h
  unfold openC
  split
  · rename_i c e
    rw [e] at h
    rw [if_pos (Decidable.not_not.1 (of_decide_eq_false h))]
  · rename_i e
    rw [e] at h; cases h
theorem newC_at {P : List PCl} {n : Nat} (hn : P.length = n + 1) (a : Ans) : newC P a = ((P[n]'(by omega)).m != a.m) := by
  unfold newC
  rw [show P.length - 1 = n by omega, List.getElem?_eq_getElem (by omega)]
  simp only [ne_eq, decide_not]; rfl
theorem newC_nil {P : List PCl} (hn : P.length = 0) (a : Ans) : newC P a = true := by
  unfold newC
  rw [List.getElem?_eq_none (by omega)]
theorem needC_len (O : List (Qn × Int)) (P : List PCl) (a : Ans) : (needC O P a).length = P.length := by unfold needC; split <;> exact updL_len _ _ _
theorem scC_len (t : Tr) (m : Int) (P : List PCl) (x : T3) : (scC t m P x).length = P.length := updL_len _ _ _
theorem sc_fold_len (t : Tr) (m : Int) : ∀ (l : List T3) (P : List PCl), (l.foldl (scC t m) P).length = P.length
  | [], _ => rfl
  | x :: r, P => by rw [List.foldl_cons, sc_fold_len t m r, scC_len]
theorem upd_same (x : PCl) (j : Nat) (hj : j < 3) : x.upd j (x.at j) = x := by
  match j, hj with
  | 0, _ => rfl
  | 1, _ => rfl
  | 2, _ => rfl
/-- No list is longer than this. -/
def LenLe (P : List PCl) (N : Nat) : Prop := ∀ (k : Nat) (hk : k < P.length) (j : Nat), j < 3 → (P[k].at j).length ≤ N
theorem LenLe.mono {P : List PCl} {N M : Nat} (h : LenLe P N) (hM : N ≤ M) : LenLe P M := fun k hk j hj => Nat.le_trans (h k hk j hj) hM
theorem LenLe.updL {P : List PCl} {N : Nat} (h : LenLe P N) (j : Nat) (hj : j < 3) (f : List T3 → List T3) (hf : ∀ l, (f l).length ≤ l.length + 1) : LenLe (updL P j f) (N + 1) := by
  intro k hk j' hj'
  have hk2 : k < P.length := by rw [updL_len] at hk; exact hk
  obtain ⟨n, hn⟩ : ∃ n, P.length = n + 1 := ⟨P.length - 1, by omega⟩
  have e := updL_at hn j f
  simp only [e, List.getElem_set]
  split
  · rename_i e2
    subst e2
    rw [CL.at_upd _ _ _ _ hj hj']
    split
    · have := hf (P[n].at j); have := h n (by omega) j hj; omega
    · have := h n (by omega) j' hj'; omega
  · have := h k hk2 j' hj'; omega
theorem LenLe.openC {P : List PCl} {N : Nat} (h : LenLe P N) (a : Ans) : LenLe (openC P a) N := by
  have hp : LenLe (P ++ [⟨a.m, a.ep, [], [], []⟩]) N := fun k hk j hj => by
    by_cases e : k < P.length
    · rw [List.getElem_append_left e]; exact h k e j hj
    · have : k = P.length := by simp at hk; omega
      subst this
      simp only [List.getElem_concat_length]
      unfold PCl.at; split <;> simp
  unfold Go.Proofs.YtiplgpefapeapaaGreat.openC
  split
  · split
    · exact h
    · exact hp
  · exact hp
theorem LenLe.needC {P : List PCl} {N : Nat} (h : LenLe P N) (O : List (Qn × Int)) (a : Ans) : LenLe (needC O P a) (N + 1) := by
  unfold Go.Proofs.YtiplgpefapeapaaGreat.needC
  split
  · exact h.updL 0 (by omega) _ (fun l => by simp)
  · exact h.updL 2 (by omega) _ (fun l => by simp)
theorem addN_len (n : T3) (l : List T3) : (addN n l).length ≤ l.length + 1 := by unfold addN; split <;> simp
theorem LenLe.scs (t : Tr) (m : Int) : ∀ {l : List T3} {P : List PCl} {N : Nat}, LenLe P N → LenLe (l.foldl (scC t m) P) (N + l.length)
  | [], _, _, h => h
  | x :: r, P, N, h => by
    rw [List.foldl_cons]
    have h1 : LenLe (scC t m P x) (N + 1) := h.updL 1 (by omega) _ (addN_len _)
    have := LenLe.scs t m (l := r) h1
    exact this.mono (by simp; omega)
theorem LenLe.rawC {P : List PCl} {N : Nat} (h : LenLe P N) (t : Tr) (O : List (Qn × Int)) (a : Ans) (ha : a.ins.length ≤ 100000) : LenLe (rawC t O P a) (N + 100001) :=
  (LenLe.scs t a.m ((h.openC a).needC O a)).mono (by omega)
theorem rawC_len (t : Tr) (O : List (Qn × Int)) (P : List PCl) (a : Ans) : (rawC t O P a).length ≤ P.length + 1 := by
  unfold rawC
  rw [sc_fold_len, needC_len]
  obtain ⟨n, h1, h2⟩ := openC_pos P a
  omega
theorem rawOf_take (t : Tr) (O : List (Qn × Int)) (Y : List Ans) (hY : ∀ a ∈ Y, a.ins.length ≤ 100000) : ∀ k, k ≤ Y.length → LenLe (rawOf t O (Y.take k)) (k * 100001) ∧ (rawOf t O (Y.take k)).length ≤ k
  | 0, _ => ⟨fun k hk => by simp [rawOf] at hk, by simp [rawOf]⟩
  | k + 1, h => by
    obtain ⟨h1, h2⟩ := rawOf_take t O Y hY k (by omega)
    have hk : k < Y.length := by omega
    have e : rawOf t O (Y.take (k + 1)) = rawC t O (rawOf t O (Y.take k)) Y[k] := foldl_succ _ _ _ _ hk
    rw [e]
    refine ⟨(h1.rawC t O Y[k] (hY _ (List.getElem_mem hk))).mono (by omega), ?_⟩
    have := rawC_len t O (rawOf t O (Y.take k)) Y[k]
    omega
end Go.Proofs.YtiplgpefapeapaaGreat

namespace Go.Proofs.YtiplgpefapeapaaGreat
open Go.RowKit
theorem lt_of_blk' {w : World} {b : Nat} {o : Obj} (h : w.heap[b]? = some o) : b < w.heap.size := (Array.getElem?_eq_some_iff.1 h).1
theorem Sh.O.form1 {α : Type} {s : Sh α} {w : World} {B e : Nat} {v : Value} {L : List α} (h : s.O w B e v L) (hL : 0 < L.length) : ∃ g c, v = .slice (some ⟨g, 0, none⟩) L.length c ∧ B ≤ g ∧ ∃ cs, w.heap[g]? = some (Obj.cells cs e (0, 0)) := by
  rcases h.2 with ⟨rfl, h2⟩ | ⟨g, cap, cur, rfl, hb, hg, _⟩
  · exfalso
    have h3 := Sh.cs_len (s := s) L
    have hp := s.pos
    have : 1 * 1 ≤ L.length * s.sz := Nat.mul_le_mul hL hp
    rw [h2] at h3; simp at h3; omega
  · exact ⟨g, cap, rfl, hb, _, hg⟩
theorem CL.row {w : World} {B : Nat} {vc : Value} {P : List PCl} {V : Nat → Nat → SlT} (h : CL w B vc P V) {k : Nat} (hk : k < P.length) :
    ∃ g c, vc = .slice (some ⟨g, 0, none⟩) P.length c ∧ B ≤ g ∧ g < w.heap.size ∧ w.cell? ⟨g, k * 5, none⟩ = some (.int .i64 P[k].m) ∧ w.cell? ⟨g, k * 5 + 1, none⟩ = some (.int .i64 P[k].ep) ∧
      w.cell? ⟨g, k * 5 + 2, none⟩ = some (slv (V k 0)) ∧ w.cell? ⟨g, k * 5 + 3, none⟩ = some (slv (V k 1)) ∧ w.cell? ⟨g, k * 5 + 4, none⟩ = some (slv (V k 2)) ∧ (∀ o, w.frozen? ⟨g, o, none⟩ = false) := by
  have hkr : k < (rowsC P V).length := by rw [rowsC_len]; exact hk
  obtain ⟨g, c, rfl, hb, cs, hg⟩ := h.c.form1 (by omega)
  obtain ⟨g', o', c', e, he⟩ := h.c.r.elem hkr
  cases e
  rw [rowsC_get P V k hk] at he
  refine ⟨g, c, by rw [rowsC_len], hb, lt_of_blk hg, ?_, ?_, ?_, ?_, ?_, fun o => by simp [World.frozen?, hg]⟩
  · simpa [shC] using he 0 _ rfl
  · simpa [shC] using he 1 _ rfl
  · simpa [shC] using he 2 _ rfl
  · simpa [shC] using he 3 _ rfl
  · simpa [shC] using he 4 _ rfl
/-- What the gathering of claims leaves. -/
def KO (w w' : World) : Prop := w.heap.size ≤ w'.heap.size ∧ ∀ (b : Nat) (cs : Array Value) (e : TypeId) (f : Nat × Nat), w.heap[b]? = some (Obj.cells cs e f) → e ≠ tC → e ≠ tN → w'.heap[b]? = w.heap[b]?
theorem KO.trans {a b c : World} (h : KO a b) (g : KO b c) : KO a c := ⟨Nat.le_trans h.1 g.1, fun x cs e f h1 h2 h3 => by
  have e1 := h.2 x cs e f h1 h2 h3
  exact (g.2 x cs e f (e1.trans h1) h2 h3).trans e1⟩
theorem KO.of {S : List Nat} {w w' : World} (hk : Keeps S w w') (hS : ∀ b ∈ S, ∃ (cs : Array Value) (e : TypeId) (f : Nat × Nat), w.heap[b]? = some (Obj.cells cs e f) ∧ (e = tC ∨ e = tN)) : KO w w' := ⟨hk.size, fun b cs e f h1 h2 h3 => hk.block b (lt_of_blk' h1) (fun hb => by
  obtain ⟨cs', e', f', g1, g2⟩ := hS b hb
  rw [g1] at h1; cases h1
  rcases g2 with g2 | g2
  · exact h2 g2
  · exact h3 g2)⟩
theorem KO.nil {w w' : World} (hk : Keeps [] w w') : KO w w' := KO.of hk (by simp)
theorem KO.ki {w w' : World} (h : KO w w') : KI w w' := fun b cs f hb => (h.2 b cs _ f hb (by decide) (by decide)).trans hb
theorem KO.grwC {w w' : World} {B : Nat} {v v' : Value} {L : List ClV} (hG : Grw w w' v v') (hO : shC.O w B tC v L) : KO w w' := KO.of hG.keepsO (fun b hb => by
  obtain ⟨cs, hc⟩ := hO.tag b (by simpa using hb)
  exact ⟨cs, _, _, hc, .inl rfl⟩)
theorem KO.grwN {w w' : World} {B : Nat} {v v' : Value} {L : List T3} (hG : Grw w w' v v') (hO : shT.O w B tN v L) : KO w w' := KO.of hG.keepsO (fun b hb => by
  obtain ⟨cs, hc⟩ := hO.tag b (by simpa using hb)
  exact ⟨cs, _, _, hc, .inr rfl⟩)
theorem field_lu (w : World) (v0 v1 : Int) (v2 : Nat) (v3 : Int) (v4 v5 : Bool) (v6 : Int) (u : Value) (hu : u.cells.size = 1) : (Instr.field tA (.agg #[.int .i64 v0, .int .i64 v1, .int .u64 v2, .int .i64 v3, .bool v4, .bool v5, .int .i64 v6, u]) 6).run Tryz.prog w = .ok (.int .i64 v6) w := by
  kernel_rfl
theorem LR.lu {w : World} {R : List (Qn × AnV)} {t : Tr} (h : LR w R t.rec') (q : Qn) : ∃ xv : AnV, ((MapS.get q R).map aV).getD (aV .zero) = aV xv ∧ xv.lu = luOf t q := by
  unfold luOf
  rcases h.2 q with ⟨h1, h2⟩ | ⟨x, y, h1, h2, h3⟩
  · rw [h1, h2]; exact ⟨.zero, rfl, rfl⟩
  · rw [h1, h2]; exact ⟨x, rfl, h3.lu⟩
/-- The lists before this one are sorted. -/
def Srt (k j : Nat) (P Q : List PCl) : Prop := Q.length = P.length ∧ ∀ (i : Nat) (h1 : i < Q.length) (h2 : i < P.length), Q[i].m = P[i].m ∧ Q[i].ep = P[i].ep ∧
  ∀ l, l < 3 → (Q[i].at l).Perm (P[i].at l) ∧ (i < k ∨ (i = k ∧ l < j) → (Q[i].at l).Pairwise (fun x y => ¬ tlt y x))
theorem Srt.start (P : List PCl) : Srt 0 0 P P := ⟨rfl, fun i h1 h2 => ⟨rfl, rfl, fun l hl => ⟨List.Perm.refl _, fun h => by omega⟩⟩⟩
theorem Srt.next {k : Nat} {P Q : List PCl} (h : Srt k 3 P Q) : Srt (k + 1) 0 P Q := ⟨h.1, fun i h1 h2 => ⟨(h.2 i h1 h2).1, (h.2 i h1 h2).2.1, fun l hl => ⟨((h.2 i h1 h2).2.2 l hl).1, fun hh => ((h.2 i h1 h2).2.2 l hl).2 (by omega)⟩⟩⟩
theorem Srt.step {k j : Nat} {P Q : List PCl} (h : Srt k j P Q) (hk : k < Q.length) (hj : j < 3) {L : List T3} (hp : L.Perm (Q[k].at j)) (hw : L.Pairwise (fun x y => ¬ tlt y x)) : Srt k (j + 1) P (Q.set k (Q[k].upd j L)) := by
  refine ⟨by rw [List.length_set]; exact h.1, fun i h1 h2 => ?_⟩
  have h3 : i < Q.length := by simpa using h1
  obtain ⟨g1, g2, g3⟩ := h.2 i h3 h2
  rw [List.getElem_set]
  by_cases e : k = i
  · subst e
    simp only [if_true]
    refine ⟨(CL.upd_m _ _ _).1.trans g1, (CL.upd_m _ _ _).2.trans g2, fun l hl => ?_⟩
    rw [CL.at_upd _ _ _ _ hj hl]
    by_cases el : l = j
    · subst el
      rw [if_pos rfl]
      exact ⟨hp.trans (g3 l hl).1, fun _ => hw⟩
    · rw [if_neg el]
      exact ⟨(g3 l hl).1, fun hh => (g3 l hl).2 (by omega)⟩
  · simp only [if_neg e]
    exact ⟨g1, g2, fun l hl => ⟨(g3 l hl).1, fun hh => (g3 l hl).2 (by omega)⟩⟩
theorem cells3s {w : World} {b : Nat} {u : Nat → Value} {t : TypeId} {f : Nat × Nat} (h : w.heap[b]? = some (.cells #[u 0, u 1, u 2] t f)) {j : Nat} (hj : j < 3) : w.cell? ⟨b, j, none⟩ = some (u j) := by
  match j, hj with
  | 0, _ => simp [World.cell?, h]
  | 1, _ => simp [World.cell?, h]
  | 2, _ => simp [World.cell?, h]
end Go.Proofs.YtiplgpefapeapaaGreat
