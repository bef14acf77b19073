/- Texts that the laws lean on, in the order in which they build. The sorts of answers and of needs. A trace in memory. Answering a trace: the plain function and its laws. New, ID, Start, State, Agreed; a copy of an answer. Whether a list of answers holds one of a machine with another epoch. What writing a trace's blocks leaves. -/
import Derived.Test.YtpobepninifenaaGreatS2
import Derived.Shelf.SlSortCmp.NoneTotal
import Derived.Laws.Rows
set_option linter.unusedVariables false
set_option linter.unusedSimpArgs false
namespace Go.Proofs.YtpobepninifenaaGreat
open Go.RowKit Go.Sort Go.Shelf Go.Proofs

theorem cells8t {w : World} {b : Nat} {x0 x1 x2 x3 x4 x5 x6 x7 : Value} {t : TypeId} {f : Nat × Nat} (h : w.heap[b]? = some (.cells #[x0, x1, x2, x3, x4, x5, x6, x7] t f)) : w.cell? ⟨b, 0, none⟩ = some x0 ∧ w.cell? ⟨b, 1, none⟩ = some x1 ∧ w.cell? ⟨b, 2, none⟩ = some x2 :=
  ⟨by simp [World.cell?, h], by simp [World.cell?, h], by simp [World.cell?, h]⟩
def cfA (x y : AnV) : Int := orL [cI x.m y.m, cI x.ow y.ow, cI x.n y.n]
def cfT (x y : T3) : Int := orL [cI x.1 y.1, cI x.2.1 y.2.1]
theorem shZ_of3 (w : World) (a b c : Int) (t : TypeId) : shZ.R (w.alloc (.cells #[.int .i64 a, .int .i64 b, .int .i64 c] t)) (.slice (some ⟨w.heap.size, 0, none⟩) 3 3) [a, b, c] :=
  Sh.R.made shZ w [a, b, c] #[.int .i64 a, .int .i64 b, .int .i64 c] t rfl (by simp [maxLen]) 3 rfl
theorem shZ_of2 (w : World) (a b : Int) (t : TypeId) : shZ.R (w.alloc (.cells #[.int .i64 a, .int .i64 b] t)) (.slice (some ⟨w.heap.size, 0, none⟩) 2 2) [a, b] :=
  Sh.R.made shZ w [a, b] #[.int .i64 a, .int .i64 b] t rfl (by simp [maxLen]) 2 rfl
set_option maxRecDepth 100000 in
set_option maxHeartbeats 2000000 in
theorem cmpT_c (x y : T3) (w : World) : Calls Tryz.prog 123 #[tV x, tV y] w fun e w' => e = .returned (.int .i64 (cfT x y)) ∧ ∃ q os, w' = grow (w.drewN q) os := by
  obtain ⟨x0, x1, x2⟩ := x
  obtain ⟨y0, y1, y2⟩ := y
  obtain ⟨r, hr⟩ : ∃ r, cfT (x0, x1, x2) (y0, y1, y2) = r := ⟨_, rfl⟩
  rw [hr]
  replace hr := Lib.hid hr
  have hk2 : Keeps [] (w.alloc (.cells #[.int .i64 x0, .int .u64 x1, .int .i64 x2] tN)) ((w.alloc (.cells #[.int .i64 x0, .int .u64 x1, .int .i64 x2] tN)).alloc (.cells #[.int .i64 y0, .int .u64 y1, .int .i64 y2] tN)) := (Keeps.refl _ _).alloc _
  have b1 := (hk2.block w.heap.size (by simp) (by simp)).trans (heap_alloc_new w (.cells #[.int .i64 x0, .int .u64 x1, .int .i64 x2] tN))
  have b2 := heap_alloc_new (w.alloc (.cells #[.int .i64 x0, .int .u64 x1, .int .i64 x2] tN)) (.cells #[.int .i64 y0, .int .u64 y1, .int .i64 y2] tN)
  rw [show (w.alloc (.cells #[.int .i64 x0, .int .u64 x1, .int .i64 x2] tN)).heap.size = w.heap.size + 1 by simp] at b2
  have hgr : (w.alloc (.cells #[.int .i64 x0, .int .u64 x1, .int .i64 x2] tN)).alloc (.cells #[.int .i64 y0, .int .u64 y1, .int .i64 y2] tN) = grow w #[.cells #[.int .i64 x0, .int .u64 x1, .int .i64 x2] tN, .cells #[.int .i64 y0, .int .u64 y1, .int .i64 y2] tN] := by
    rw [alloc_eq_grow, alloc_eq_grow, grow_grow]; rfl
  replace hgr := Lib.hid hgr
  go_enter Tryz.func123, Tryz.ntmps123
  go_wp2
  generalize (w.alloc (.cells #[.int .i64 x0, .int .u64 x1, .int .i64 x2] tN)).alloc (.cells #[.int .i64 y0, .int .u64 y1, .int .i64 y2] tN) = W at *
  obtain ⟨p0, p1, _⟩ := cells3t b1
  obtain ⟨s0, s1, _⟩ := cells3t b2
  clear b1 b2 hk2
  refine Free.wp_region_chain (fun i => i == 4 || i == 9 || i == 10 || i == 11) (fun i => true) (fun _ _ => False) (by kernel_rfl) (by kernel_rfl) (by kernel_rfl) ?_
  (repeat (first | (apply Free.cw_pure rfl rfl; (intro w'; go_simp <;> exact rfl); go_frame) | (apply Free.cw_steady rfl rfl rfl; (intro w' hS; have q0 := Free.sx_cell hS p0 (fun _ _ hT => hT); have q1 := Free.sx_cell hS p1 (fun _ _ hT => hT); have q2 := Free.sx_cell hS s0 (fun _ _ hT => hT); have q3 := Free.sx_cell hS s1 (fun _ _ hT => hT); go_simp <;> exact rfl); go_frame) | (refine Free.cw_skip rfl ?_; go_frame)))
  refine Free.cw_loud rfl rfl (fun K hK => ?_)
  go_wp2_with fail
  refine (compareI_c x0 y0 _).mono ?_
  rintro e _ ⟨rfl, rfl⟩
  refine hK _ _ rfl (Free.KeepsP.refl _ _) ?_
  clear hK K
  (repeat (first | (apply Free.cw_pure rfl rfl; (intro w'; go_simp <;> exact rfl); go_frame) | (apply Free.cw_steady rfl rfl rfl; (intro w' hS; have q0 := Free.sx_cell hS p0 (fun _ _ hT => hT); have q1 := Free.sx_cell hS p1 (fun _ _ hT => hT); have q2 := Free.sx_cell hS s0 (fun _ _ hT => hT); have q3 := Free.sx_cell hS s1 (fun _ _ hT => hT); go_simp <;> exact rfl); go_frame) | (refine Free.cw_skip rfl ?_; go_frame)))
  refine Free.cw_loud rfl rfl (fun K hK => ?_)
  go_wp2_with fail
  refine (compareU_c x1 y1 _).mono ?_
  rintro e _ ⟨rfl, rfl⟩
  refine hK _ _ rfl (Free.KeepsP.refl _ _) ?_
  clear hK K
  (repeat (first | (apply Free.cw_pure rfl rfl; (intro w'; go_simp <;> exact rfl); go_frame) | (apply Free.cw_steady rfl rfl rfl; (intro w' hS; have q0 := Free.sx_cell hS p0 (fun _ _ hT => hT); have q1 := Free.sx_cell hS p1 (fun _ _ hT => hT); have q2 := Free.sx_cell hS s0 (fun _ _ hT => hT); have q3 := Free.sx_cell hS s1 (fun _ _ hT => hT); go_simp <;> exact rfl); go_frame) | (refine Free.cw_skip rfl ?_; go_frame)))
  refine Free.cw_loud rfl rfl (fun K hK => ?_)
  go_wp2
  refine hK _ _ rfl (Free.KeepsP.alloc _ _ _) ?_
  clear hK K
  (repeat (apply Free.cw_pure rfl rfl; (intro w'; go_simp <;> exact rfl); go_frame))
  refine Free.cw_loud rfl rfl (fun K hK => ?_)
  go_wp2_with fail
  refine (or_c _ _ _ ((shZ_of2 W (cI x0 y0) (cI x1 y1) 3).keeps ((Keeps.refl [] _).drew))).mono ?_
  rintro e _ ⟨rfl, rfl⟩
  refine hK _ _ rfl (Free.KeepsP.refl _ _) ?_
  clear hK K
  (repeat (apply Free.cw_pure rfl rfl; (intro w'; go_simp <;> exact rfl); go_frame))
  refine Free.cw_nil ?_
  go_wp2
  go_ret
  exact ⟨by rw [← hr.out]; rfl, 1, _, by rw [hgr.out, alloc_eq_grow, grow_grow]; rfl⟩
set_option maxRecDepth 100000 in
set_option maxHeartbeats 2000000 in
theorem cmpA_c (x y : AnV) (w : World) : Calls Tryz.prog 130 #[aV x, aV y] w fun e w' => e = .returned (.int .i64 (cfA x y)) ∧ ∃ q os, w' = grow (w.drewN q) os := by
  obtain ⟨r, hr⟩ : ∃ r, cfA x y = r := ⟨_, rfl⟩
  rw [hr]
  obtain ⟨x0, x1, x2, x3, x4, x5, x6, x7, x8, x9⟩ := x
  obtain ⟨y0, y1, y2, y3, y4, y5, y6, y7, y8, y9⟩ := y
  replace hr := Lib.hid hr
  have hk2 : Keeps [] (w.alloc (.cells #[.int .i64 x0, .int .i64 x1, .int .u64 x2, .int .i64 x3, .bool x4, .bool x5, .int .i64 x6, .slice x7 x8 x9] tA)) ((w.alloc (.cells #[.int .i64 x0, .int .i64 x1, .int .u64 x2, .int .i64 x3, .bool x4, .bool x5, .int .i64 x6, .slice x7 x8 x9] tA)).alloc (.cells #[.int .i64 y0, .int .i64 y1, .int .u64 y2, .int .i64 y3, .bool y4, .bool y5, .int .i64 y6, .slice y7 y8 y9] tA)) := (Keeps.refl _ _).alloc _
  have b1 := (hk2.block w.heap.size (by simp) (by simp)).trans (heap_alloc_new w (.cells #[.int .i64 x0, .int .i64 x1, .int .u64 x2, .int .i64 x3, .bool x4, .bool x5, .int .i64 x6, .slice x7 x8 x9] tA))
  have b2 := heap_alloc_new (w.alloc (.cells #[.int .i64 x0, .int .i64 x1, .int .u64 x2, .int .i64 x3, .bool x4, .bool x5, .int .i64 x6, .slice x7 x8 x9] tA)) (.cells #[.int .i64 y0, .int .i64 y1, .int .u64 y2, .int .i64 y3, .bool y4, .bool y5, .int .i64 y6, .slice y7 y8 y9] tA)
  rw [show (w.alloc (.cells #[.int .i64 x0, .int .i64 x1, .int .u64 x2, .int .i64 x3, .bool x4, .bool x5, .int .i64 x6, .slice x7 x8 x9] tA)).heap.size = w.heap.size + 1 by simp] at b2
  have hgr : (w.alloc (.cells #[.int .i64 x0, .int .i64 x1, .int .u64 x2, .int .i64 x3, .bool x4, .bool x5, .int .i64 x6, .slice x7 x8 x9] tA)).alloc (.cells #[.int .i64 y0, .int .i64 y1, .int .u64 y2, .int .i64 y3, .bool y4, .bool y5, .int .i64 y6, .slice y7 y8 y9] tA) = grow w #[.cells #[.int .i64 x0, .int .i64 x1, .int .u64 x2, .int .i64 x3, .bool x4, .bool x5, .int .i64 x6, .slice x7 x8 x9] tA, .cells #[.int .i64 y0, .int .i64 y1, .int .u64 y2, .int .i64 y3, .bool y4, .bool y5, .int .i64 y6, .slice y7 y8 y9] tA] := by
    rw [alloc_eq_grow, alloc_eq_grow, grow_grow]; rfl
  replace hgr := Lib.hid hgr
  simp only [aV, AnV.v]
  go_enter Tryz.func130, Tryz.ntmps130
  go_wp2
  generalize (w.alloc (.cells #[.int .i64 x0, .int .i64 x1, .int .u64 x2, .int .i64 x3, .bool x4, .bool x5, .int .i64 x6, .slice x7 x8 x9] tA)).alloc (.cells #[.int .i64 y0, .int .i64 y1, .int .u64 y2, .int .i64 y3, .bool y4, .bool y5, .int .i64 y6, .slice y7 y8 y9] tA) = W at *
  obtain ⟨p0, p1, p2⟩ := cells8t b1
  obtain ⟨s0, s1, s2⟩ := cells8t b2
  clear b1 b2 hk2
  refine Free.wp_region_chain (fun i => i == 4 || i == 9 || i == 14 || i == 15 || i == 16) (fun i => true) (fun _ _ => False) (by kernel_rfl) (by kernel_rfl) (by kernel_rfl) ?_
  (repeat (first | (apply Free.cw_pure rfl rfl; (intro w'; go_simp <;> exact rfl); go_frame) | (apply Free.cw_steady rfl rfl rfl; (intro w' hS; have q0 := Free.sx_cell hS p0 (fun _ _ hT => hT); have q1 := Free.sx_cell hS p1 (fun _ _ hT => hT); have q2 := Free.sx_cell hS p2 (fun _ _ hT => hT); have q3 := Free.sx_cell hS s0 (fun _ _ hT => hT); have q4 := Free.sx_cell hS s1 (fun _ _ hT => hT); have q5 := Free.sx_cell hS s2 (fun _ _ hT => hT); go_simp <;> exact rfl); go_frame) | (refine Free.cw_skip rfl ?_; go_frame)))
  refine Free.cw_loud rfl rfl (fun K hK => ?_)
  go_wp2_with fail
  refine (compareI_c x0 y0 _).mono ?_
  rintro e _ ⟨rfl, rfl⟩
  refine hK _ _ rfl (Free.KeepsP.refl _ _) ?_
  clear hK K
  (repeat (first | (apply Free.cw_pure rfl rfl; (intro w'; go_simp <;> exact rfl); go_frame) | (apply Free.cw_steady rfl rfl rfl; (intro w' hS; have q0 := Free.sx_cell hS p0 (fun _ _ hT => hT); have q1 := Free.sx_cell hS p1 (fun _ _ hT => hT); have q2 := Free.sx_cell hS p2 (fun _ _ hT => hT); have q3 := Free.sx_cell hS s0 (fun _ _ hT => hT); have q4 := Free.sx_cell hS s1 (fun _ _ hT => hT); have q5 := Free.sx_cell hS s2 (fun _ _ hT => hT); go_simp <;> exact rfl); go_frame) | (refine Free.cw_skip rfl ?_; go_frame)))
  refine Free.cw_loud rfl rfl (fun K hK => ?_)
  go_wp2_with fail
  refine (compareI_c x1 y1 _).mono ?_
  rintro e _ ⟨rfl, rfl⟩
  refine hK _ _ rfl (Free.KeepsP.refl _ _) ?_
  clear hK K
  (repeat (first | (apply Free.cw_pure rfl rfl; (intro w'; go_simp <;> exact rfl); go_frame) | (apply Free.cw_steady rfl rfl rfl; (intro w' hS; have q0 := Free.sx_cell hS p0 (fun _ _ hT => hT); have q1 := Free.sx_cell hS p1 (fun _ _ hT => hT); have q2 := Free.sx_cell hS p2 (fun _ _ hT => hT); have q3 := Free.sx_cell hS s0 (fun _ _ hT => hT); have q4 := Free.sx_cell hS s1 (fun _ _ hT => hT); have q5 := Free.sx_cell hS s2 (fun _ _ hT => hT); go_simp <;> exact rfl); go_frame) | (refine Free.cw_skip rfl ?_; go_frame)))
  refine Free.cw_loud rfl rfl (fun K hK => ?_)
  go_wp2_with fail
  refine (compareU_c x2 y2 _).mono ?_
  rintro e _ ⟨rfl, rfl⟩
  refine hK _ _ rfl (Free.KeepsP.refl _ _) ?_
  clear hK K
  (repeat (apply Free.cw_pure rfl rfl; (intro w'; go_simp <;> exact rfl); go_frame))
  refine Free.cw_loud rfl rfl (fun K hK => ?_)
  go_wp2
  refine hK _ _ rfl (Free.KeepsP.alloc _ _ _) ?_
  clear hK K
  (repeat (apply Free.cw_pure rfl rfl; (intro w'; go_simp <;> exact rfl); go_frame))
  refine Free.cw_loud rfl rfl (fun K hK => ?_)
  go_wp2_with fail
  refine (or_c _ _ _ ((shZ_of3 W (cI x0 y0) (cI x1 y1) (cI x2 y2) 3).keeps ((Keeps.refl [] _).drew))).mono ?_
  rintro e _ ⟨rfl, rfl⟩
  refine hK _ _ rfl (Free.KeepsP.refl _ _) ?_
  clear hK K
  (repeat (apply Free.cw_pure rfl rfl; (intro w'; go_simp <;> exact rfl); go_frame))
  refine Free.cw_nil ?_
  go_wp2
  go_ret
  exact ⟨by rw [← hr.out]; rfl, 1, _, by rw [hgr.out, alloc_eq_grow, grow_grow]; rfl⟩
/-- The orders. -/
def qlt (x y : Qn) : Prop := x.1 < y.1 ∨ (x.1 = y.1 ∧ (x.2.1 < y.2.1 ∨ (x.2.1 = y.2.1 ∧ x.2.2 < y.2.2)))
instance : DecidableRel qlt := fun _ _ => inferInstanceAs (Decidable (_ ∨ _))
def tlt (x y : T3) : Prop := x.1 < y.1 ∨ (x.1 = y.1 ∧ x.2.1 < y.2.1)
instance : DecidableRel tlt := fun _ _ => inferInstanceAs (Decidable (_ ∨ _))
def AnV.q (x : AnV) : Qn := (x.m, x.ow, x.n)
theorem cI_lt (x y : Int) : cI x y < 0 ↔ x < y := by unfold cI; split <;> (try split) <;> omega
theorem cI_zero (x y : Int) : cI x y = 0 ↔ x = y := by unfold cI; split <;> (try split) <;> omega
theorem orL_lt (a : Int) (L : List Int) : orL (a :: L) < 0 ↔ a < 0 ∨ (a = 0 ∧ orL L < 0) := by
  rw [show orL (a :: L) = if a ≠ 0 then a else orL L from rfl]
  split
  · rename_i h; constructor
    · exact .inl
    · rintro (h1 | ⟨h1, _⟩)
      · exact h1
      · exact absurd h1 h
  · rename_i h
    have h0 : a = 0 := Classical.not_not.1 h
    constructor
    · exact fun h2 => .inr ⟨h0, h2⟩
    · rintro (h1 | ⟨_, h2⟩)
      · omega
      · exact h2
theorem ltA_iff (x y : AnV) : ltOf cfA x y = decide (qlt x.q y.q) := by
  unfold ltOf cfA
  rw [decide_eq_decide, orL_lt, orL_lt, orL_lt, cI_lt, cI_lt, cI_lt, cI_zero, cI_zero, cI_zero]
  simp only [orL, qlt, AnV.q]
  omega
theorem ltT_iff (x y : T3) : ltOf cfT x y = decide (tlt x y) := by
  unfold ltOf cfT
  rw [decide_eq_decide, orL_lt, orL_lt, cI_lt, cI_lt, cI_zero, cI_zero]
  simp only [orL, tlt]
  omega
theorem qlt_irrefl (x : Qn) : ¬ qlt x x := by unfold qlt; omega
theorem qlt_trans {x y z : Qn} : qlt x y → qlt y z → qlt x z := by unfold qlt; omega
theorem qlt_total {x y : Qn} : ¬ qlt x y → ¬ qlt y x → x = y := by
  obtain ⟨a, b, c⟩ := x
  obtain ⟨a', b', c'⟩ := y
  unfold qlt
  intro h1 h2
  simp only at h1 h2
  have : a = a' := by omega
  have : b = b' := by omega
  have : c = c' := by omega
  simp_all
theorem swoA : SWO (ltOf cfA) where
  irrefl x := by rw [ltA_iff]; simp [qlt_irrefl]
  trans x y z h1 h2 := by
    rw [ltA_iff] at *
    exact decide_eq_true (qlt_trans (of_decide_eq_true h1) (of_decide_eq_true h2))
  ntrans x y z h1 h2 := by
    rw [ltA_iff] at *
    have h1 := of_decide_eq_false h1
    have h2 := of_decide_eq_false h2
    refine decide_eq_false (fun h => ?_)
    unfold qlt at *
    omega
theorem swoT : SWO (ltOf cfT) where
  irrefl x := by rw [ltT_iff]; exact decide_eq_false (by unfold tlt; omega)
  trans x y z h1 h2 := by
    rw [ltT_iff] at *
    have h1 := of_decide_eq_true h1
    have h2 := of_decide_eq_true h2
    refine decide_eq_true ?_
    unfold tlt at *
    omega
  ntrans x y z h1 h2 := by
    rw [ltT_iff] at *
    have h1 := of_decide_eq_false h1
    have h2 := of_decide_eq_false h2
    refine decide_eq_false (fun h => ?_)
    unfold tlt at *
    omega
instance : Inhabited AnV := ⟨.zero⟩
/-- slices.SortFunc over answers. -/
theorem sortA_c (w : World) (B : Nat) (v : Value) (L : List AnV) (h : shA.O w B tA v L) (hl : L.length ≤ 1000000) :
    Calls Tryz.prog 129 #[v, .func (.func 130) #[] #[]] w fun e w' => e = .returned (.tuple #[]) ∧ ∃ L', L'.Perm L ∧ L'.Pairwise (fun x y => ¬ qlt y.q x.q) ∧ shA.O w' B tA v L' ∧ Keeps v.ownBlock.toList w w' := by
  obtain ⟨_, h2⟩ := id h
  rcases h2 with ⟨rfl, h0⟩ | ⟨g, cap, cur, rfl, hb, hg, _⟩
  · have hL : L = [] := by
      cases L with
      | nil => rfl
      | cons x t => simp [Sh.cs, shA, AnV.cs] at h0
    subst hL
    refine (AnyF.slices_SortFunc_none Tryz.sortAns none 0 (.func (.func 130) #[] #[]) w).mono ?_
    rintro e w' ⟨rfl, rfl⟩
    exact ⟨rfl, [], List.Perm.refl _, List.Pairwise.nil, h, Keeps.refl _ _⟩
  · have hgl : g < w.heap.size := (Array.getElem?_eq_some_iff.1 hg).1
    have eg : ∀ args w, (callFunc 130 args).run Tryz.prog w = .ok (.enter 130 args) w := enters_of Tryz.func130 (by kernel_rfl) rfl
    have hcmp : CmpLays Tryz.prog 130 #[] shA.cf 8 cfA g 0 L.toArray.size w := fun m os dk hs x y => cmpA_c x y _
    have hcon := AnyQ.slices_SortFunc Tryz.sortAns 8 (fun w => by kernel_rfl) (fun w => by kernel_rfl) shA.cf shA.len shA.one cfA swoA 130 #[] g 0 cap L.toArray w eg hcmp h.holds hgl (by simp; omega)
    simp only [List.size_toArray] at hcon
    refine hcon.mono ?_
    rintro e w' ⟨rfl, d', m, os, hp, hs, rfl⟩
    have hp' : PermIn 0 L.toArray.size L.toArray d' := by simpa using hp
    obtain ⟨hd, hpl⟩ := Sh.perm_of_permIn hp'
    have hd2 : d'.size = L.length := by simpa using hd
    rw [← hd2] at hs
    have hpw := Sh.pairwise_of_sortedIn hs
    obtain ⟨h3, h4⟩ := Sh.O.sorted (m := m) (os := os) h hd2
    exact ⟨rfl, d'.toList, by simpa using hpl, hpw.imp (fun h => by rw [ltA_iff] at h; exact of_decide_eq_false h), h3, h4⟩
/-- slices.SortFunc over needs. -/
theorem sortT_c (w : World) (B : Nat) (v : Value) (L : List T3) (h : shT.O w B tN v L) (hl : L.length ≤ 1000000000000) :
    Calls Tryz.prog 122 #[v, .func (.func 123) #[] #[]] w fun e w' => e = .returned (.tuple #[]) ∧ ∃ L', L'.Perm L ∧ L'.Pairwise (fun x y => ¬ tlt y x) ∧ shT.O w' B tN v L' ∧ Keeps v.ownBlock.toList w w' := by
  obtain ⟨_, h2⟩ := id h
  rcases h2 with ⟨rfl, h0⟩ | ⟨g, cap, cur, rfl, hb, hg, _⟩
  · have hL : L = [] := by
      cases L with
      | nil => rfl
      | cons x t => simp [Sh.cs, shT] at h0
    subst hL
    refine (AnyF.slices_SortFunc_none Tryz.sortNeed none 0 (.func (.func 123) #[] #[]) w).mono ?_
    rintro e w' ⟨rfl, rfl⟩
    exact ⟨rfl, [], List.Perm.refl _, List.Pairwise.nil, h, Keeps.refl _ _⟩
  · have hgl : g < w.heap.size := (Array.getElem?_eq_some_iff.1 hg).1
    have eg : ∀ args w, (callFunc 123 args).run Tryz.prog w = .ok (.enter 123 args) w := enters_of Tryz.func123 (by kernel_rfl) rfl
    have hcmp : CmpLays Tryz.prog 123 #[] shT.cf 3 cfT g 0 L.toArray.size w := fun m os dk hs x y => cmpT_c x y _
    have hcon := AnyQ.slices_SortFunc Tryz.sortNeed 3 (fun w => by kernel_rfl) (fun w => by kernel_rfl) shT.cf shT.len shT.one cfT swoT 123 #[] g 0 cap L.toArray w eg hcmp h.holds hgl (by simp; omega)
    simp only [List.size_toArray] at hcon
    refine hcon.mono ?_
    rintro e w' ⟨rfl, d', m, os, hp, hs, rfl⟩
    have hp' : PermIn 0 L.toArray.size L.toArray d' := by simpa using hp
    obtain ⟨hd, hpl⟩ := Sh.perm_of_permIn hp'
    have hd2 : d'.size = L.length := by simpa using hd
    rw [← hd2] at hs
    have hpw := Sh.pairwise_of_sortedIn hs
    obtain ⟨h3, h4⟩ := Sh.O.sorted (m := m) (os := os) h hd2
    exact ⟨rfl, d'.toList, by simpa using hpl, hpw.imp (fun h => by rw [ltT_iff] at h; exact of_decide_eq_false h), h3, h4⟩
end Go.Proofs.YtpobepninifenaaGreat

namespace Go.Proofs.YtpobepninifenaaGreat
open Go.RowKit

/-- An answer. -/
structure Ans where
  m : Int
  ow : Int
  n : Nat
  ep : Int
  kn : Bool
  rt : Bool
  lu : Int
  ins : List T3
  deriving DecidableEq
def Ans.q (x : Ans) : Qn := (x.m, x.ow, x.n)
/-- The cells of an answer say this answer. -/
structure InA (w : World) (x : AnV) (y : Ans) : Prop where
  m : x.m = y.m
  ow : x.ow = y.ow
  n : x.n = y.n
  ep : x.ep = y.ep
  kn : x.kn = y.kn
  rt : x.rt = y.rt
  lu : x.lu = y.lu
  ins : InsO w x.v y.ins
theorem InA.ki {w w' : World} {x : AnV} {y : Ans} (h : InA w x y) (hk : KI w w') : InA w' x y := ⟨h.m, h.ow, h.n, h.ep, h.kn, h.rt, h.lu, h.ins.ki hk⟩
theorem InA.q {w : World} {x : AnV} {y : Ans} (h : InA w x y) : x.q = y.q := by unfold AnV.q Ans.q; rw [h.m, h.ow, h.n]
/-- The same of a list. -/
def LA (w : World) (X : List AnV) (Y : List Ans) : Prop := X.length = Y.length ∧ ∀ (k : Nat) (x : AnV) (y : Ans), X[k]? = some x → Y[k]? = some y → InA w x y
theorem LA.nil (w : World) : LA w [] [] := ⟨rfl, fun k x y h => by simp at h⟩
theorem LA.ki {w w' : World} {X : List AnV} {Y : List Ans} (h : LA w X Y) (hk : KI w w') : LA w' X Y := ⟨h.1, fun k x y h1 h2 => (h.2 k x y h1 h2).ki hk⟩
theorem LA.snoc {w : World} {X : List AnV} {Y : List Ans} {x : AnV} {y : Ans} (h : LA w X Y) (hx : InA w x y) : LA w (X ++ [x]) (Y ++ [y]) := by
  obtain ⟨h1, h2⟩ := h
  refine ⟨by simp [h1], fun k a b ha hb => ?_⟩
  rcases Nat.lt_trichotomy k X.length with hk | hk | hk
  · rw [List.getElem?_append_left hk] at ha
    rw [List.getElem?_append_left (by omega)] at hb
    exact h2 k a b ha hb
  · rw [List.getElem?_append_right (by omega)] at ha
    rw [List.getElem?_append_right (by omega)] at hb
    rw [show k - X.length = 0 by omega] at ha
    rw [show k - Y.length = 0 by omega] at hb
    simp at ha hb
    subst ha hb
    exact hx
  · rw [List.getElem?_append_right (by omega), List.getElem?_eq_none (by simp; omega)] at ha
    cases ha
theorem LA.get {w : World} {X : List AnV} {Y : List Ans} (h : LA w X Y) {k : Nat} (hk : k < Y.length) : ∃ hx : k < X.length, InA w X[k] Y[k] :=
  ⟨by rw [h.1]; exact hk, h.2 k _ _ (List.getElem?_eq_getElem _) (List.getElem?_eq_getElem _)⟩
/-- A trace. -/
structure Tr where
  im : Int
  is : Int
  st : T3
  qs : List (Qn × Option Ans)
  told : Int
  hist : List Ans
  state : Int
  ag : List Int
  rf : Bool
def Tr.op (t : Tr) : List Qn := t.qs.map (·.1)
def recOf (qs : List (Qn × Option Ans)) : List (Qn × Ans) := qs.filterMap (fun p => p.2.map (fun a => (p.1, a)))
def Tr.rec' (t : Tr) : List (Qn × Ans) := recOf t.qs
/-- The entries of the map of the answers. -/
def LR (w : World) (R : List (Qn × AnV)) (Y : List (Qn × Ans)) : Prop :=
  R.length = Y.length ∧ ∀ q, (MapS.get q R = none ∧ MapS.get q Y = none) ∨ ∃ x y, MapS.get q R = some x ∧ MapS.get q Y = some y ∧ InA w x y
theorem LR.ki {w w' : World} {R : List (Qn × AnV)} {Y : List (Qn × Ans)} (h : LR w R Y) (hk : KI w w') : LR w' R Y :=
  ⟨h.1, fun q => (h.2 q).imp id (fun ⟨x, y, h1, h2, h3⟩ => ⟨x, y, h1, h2, h3.ki hk⟩)⟩
/-- Numbers that fit. -/
structure Ans.Ok (a : Ans) : Prop where
  q : qOk a.q
  ep : W64 a.ep
  lu : W64 a.lu
  ins : ∀ x ∈ a.ins, W64 x.1 ∧ x.2.1 < 18446744073709551616 ∧ W64 x.2.2
  len : a.ins.length ≤ 100000
structure Tr.Inv (t : Tr) : Prop where
  ok : ∀ q ∈ t.op, qOk q
  nd : t.op.Nodup
  rq : ∀ p ∈ t.rec', p.2.q = p.1
  rk : ∀ p ∈ t.rec', p.2.kn = true
  hi : ∀ a ∈ t.hist, a.Ok
  ro : ∀ p ∈ t.rec', p.2.Ok
structure TrM (w : World) (B bt bm : Nat) (vo vh vg : Value) (t : Tr) : Prop where
  blk : w.heap[bt]? = some (.cells #[.int .i64 t.im, .int .i64 t.is, .int .i64 t.st.1, .int .u64 t.st.2.1, .int .i64 t.st.2.2, vo, .int .i64 t.told, .map (some bm), vh, .int .i64 t.state, vg, .bool t.rf] tT (0, 0))
  op : shQ.O w B tQ vo t.op
  hi : ∃ X, shA.O w B tA vh X ∧ LA w X t.hist
  ag : shZ.O w B 3 vg t.ag
  mp : ∃ R, MapS.M ktQ aV w bm R ∧ LR w R t.rec'
  inv : t.Inv
  bB : B ≤ bt ∧ B ≤ bm
/-- The blocks that a trace writes. -/
def ownT (bt bm : Nat) (vo vh vg : Value) : List Nat := bt :: bm :: (vo.ownBlock.toList ++ vh.ownBlock.toList ++ vg.ownBlock.toList)
theorem Sh.O.tag {α : Type} {s : Sh α} {w : World} {B e : Nat} {v : Value} {L : List α} (h : s.O w B e v L) : ∀ b, v.ownBlock = some b → ∃ (cs : Array Value), w.heap[b]? = some (Obj.cells cs e (0, 0)) := fun b hb => by
  rcases h.2 with ⟨rfl, _⟩ | ⟨g, cap, cur, rfl, _, hg, _⟩
  · simp [Value.ownBlock] at hb
  · simp [Value.ownBlock] at hb; subst hb; exact ⟨_, hg⟩
/-- Blocks of different types are different. -/
theorem tag_ne {w : World} {b b' : Nat} {cs cs' : Array Value} {t t' : TypeId} {f f' : Nat × Nat} (h : w.heap[b]? = some (.cells cs t f)) (h' : w.heap[b']? = some (.cells cs' t' f')) (hne : t ≠ t') : b ≠ b' := fun e => by
  subst e; rw [h] at h'; cases h'; exact hne rfl
theorem mem_ownT {bt bm : Nat} {vo vh vg : Value} {b : Nat} : b ∈ ownT bt bm vo vh vg ↔ b = bt ∨ b = bm ∨ vo.ownBlock = some b ∨ vh.ownBlock = some b ∨ vg.ownBlock = some b := by
  simp [ownT, or_assoc]
theorem MapS.M.isMap {P : Program} {kt : TypeId} {κ : Type} [DecidableEq κ] {α : Type} {K : MapS.KT P kt κ} {vf : α → Value} {w : World} {b : Nat} {L : List (κ × α)} (h : MapS.M K vf w b L) : ∃ es c, w.heap[b]? = some (Obj.map es c) := by
  obtain ⟨⟨D, ⟨es, c, hb, _⟩, _⟩, _⟩ := h
  exact ⟨es, c, hb⟩
namespace TrM
variable {w w' : World} {B bt bm : Nat} {vo vh vg : Value} {t : Tr}
theorem cells (h : TrM w B bt bm vo vh vg t) : w.cell? ⟨bt, 0, none⟩ = some (.int .i64 t.im) ∧ w.cell? ⟨bt, 1, none⟩ = some (.int .i64 t.is) ∧ w.cell? ⟨bt, 2, none⟩ = some (.int .i64 t.st.1) ∧ w.cell? ⟨bt, 3, none⟩ = some (.int .u64 t.st.2.1) ∧ w.cell? ⟨bt, 4, none⟩ = some (.int .i64 t.st.2.2) ∧
    w.cell? ⟨bt, 5, none⟩ = some vo ∧ w.cell? ⟨bt, 6, none⟩ = some (.int .i64 t.told) ∧ w.cell? ⟨bt, 7, none⟩ = some (.map (some bm)) ∧ w.cell? ⟨bt, 8, none⟩ = some vh ∧ w.cell? ⟨bt, 9, none⟩ = some (.int .i64 t.state) ∧ w.cell? ⟨bt, 10, none⟩ = some vg ∧ w.cell? ⟨bt, 11, none⟩ = some (.bool t.rf) := by
  have h1 := h.blk
  refine ⟨?_, ?_, ?_, ?_, ?_, ?_, ?_, ?_, ?_, ?_, ?_, ?_⟩ <;> simp [World.cell?, h1]
theorem free (h : TrM w B bt bm vo vh vg t) (o : Nat) : w.frozen? ⟨bt, o, none⟩ = false := by simp [World.frozen?, h.blk]
theorem lt (h : TrM w B bt bm vo vh vg t) : bt < w.heap.size ∧ bm < w.heap.size := by
  obtain ⟨R, hR, _⟩ := h.mp
  exact ⟨lt_of_blk h.blk, MapS.M.lt ktQ hR⟩
/-- What a block of a trace's own holds. -/
theorem own_tag (h : TrM w B bt bm vo vh vg t) {b : Nat} (hb : b ∈ ownT bt bm vo vh vg) : B ≤ b ∧ b < w.heap.size ∧ ((∃ es c, w.heap[b]? = some (Obj.map es c)) ∨ ∃ (cs : Array Value) (e : TypeId), w.heap[b]? = some (Obj.cells cs e (0, 0)) ∧ (e = tT ∨ e = tQ ∨ e = tA ∨ e = 3)) := by
  obtain ⟨R, hR, _⟩ := h.mp
  obtain ⟨X, hX, _⟩ := h.hi
  rcases mem_ownT.1 hb with rfl | rfl | hb | hb | hb
  · exact ⟨h.bB.1, h.lt.1, .inr ⟨_, _, h.blk, .inl rfl⟩⟩
  · exact ⟨h.bB.2, h.lt.2, .inl hR.isMap⟩
  · obtain ⟨cs, hc⟩ := h.op.tag b hb
    exact ⟨h.op.ge b hb, h.op.lt b hb, .inr ⟨_, _, hc, .inr (.inl rfl)⟩⟩
  · obtain ⟨cs, hc⟩ := hX.tag b hb
    exact ⟨hX.ge b hb, hX.lt b hb, .inr ⟨_, _, hc, .inr (.inr (.inl rfl))⟩⟩
  · obtain ⟨cs, hc⟩ := h.ag.tag b hb
    exact ⟨h.ag.ge b hb, h.ag.lt b hb, .inr ⟨_, _, hc, .inr (.inr (.inr rfl))⟩⟩
/-- What touches other blocks leaves a trace as it is. -/
theorem keep {S : List Nat} (h : TrM w B bt bm vo vh vg t) (hk : Keeps S w w') (hS : ∀ b ∈ ownT bt bm vo vh vg, b ∉ S) (hi : KI w w') : TrM w' B bt bm vo vh vg t := by
  obtain ⟨X, hX, hXL⟩ := h.hi
  obtain ⟨R, hR, hRL⟩ := h.mp
  exact ⟨(hk.block bt h.lt.1 (hS bt (mem_ownT.2 (.inl rfl)))).trans h.blk, h.op.keepS hk (fun b hb e => hS b (mem_ownT.2 (.inr (.inr (.inl e)))) hb), ⟨X, hX.keepS hk (fun b hb e => hS b (mem_ownT.2 (.inr (.inr (.inr (.inl e))))) hb), hXL.ki hi⟩,
    h.ag.keepS hk (fun b hb e => hS b (mem_ownT.2 (.inr (.inr (.inr (.inr e))))) hb), ⟨R, hR.kept ktQ hk (hS bm (mem_ownT.2 (.inr (.inl rfl)))), hRL.ki hi⟩, h.inv, h.bB⟩
theorem keeps (h : TrM w B bt bm vo vh vg t) (hk : Keeps [] w w') : TrM w' B bt bm vo vh vg t := h.keep hk (by simp) hk.ki0
end TrM
end Go.Proofs.YtpobepninifenaaGreat

namespace Go.Proofs.YtpobepninifenaaGreat
open Go.RowKit
abbrev Qs := List (Qn × Option Ans)

def setQ (q : Qn) (a : Ans) (qs : Qs) : Qs := qs.map (fun p => if p.1 = q then (q, some a) else p)
def openQ (m : Int) (qs : Qs) (x : T3) : Qs := if (x.1, m, x.2.1) ∈ qs.map (·.1) then qs else qs ++ [((x.1, m, x.2.1), none)]
def Ans.odd (m ep : Int) (x : Ans) : Bool := x.m == m && x.ep != ep
def allQ (qs : Qs) : Bool := qs.all (fun p => p.2.isSome)
/-- A question is open. -/
def isOpen (q : Qn) (qs : Qs) : Bool := decide ((q, none) ∈ qs)
instance : DecidableEq (Qn × Option Ans) := inferInstance
def Tr.close (t : Tr) : Tr := if allQ t.qs then { t with state := 1 } else t
def Tr.take (t : Tr) (a : Ans) : Tr := { t with hist := t.hist ++ [a] }
def Tr.put (t : Tr) (a : Ans) : Tr := { t with qs := a.ins.foldl (openQ a.m) (setQ a.q a t.qs) }
def Tr.answer (t : Tr) (a : Ans) : Tr × Int :=
  if t.state ≠ 0 then (t, 9) else if isOpen a.q t.qs = false then (t, 6) else
  if a.kn = false then ({ t.take a with state := 4 }, 0) else if a.rt = true then ({ t.take a with state := 3 }, 0) else
  if (t.hist ++ [a]).any (Ans.odd a.m a.ep) then ({ t.take a with state := 4 }, 0) else (((t.take a).put a).close, 0)
theorem setQ_keys (q : Qn) (a : Ans) : ∀ qs : Qs, (setQ q a qs).map (·.1) = qs.map (·.1)
  | [] => rfl
  | (x, u) :: r => by
    have ih := setQ_keys q a r
    unfold setQ at ih ⊢
    simp only [List.map_cons]
    rw [ih]
    split
    · rename_i e; rw [e]
    · rfl
theorem recOf_keys {qs : Qs} {q : Qn} {a : Ans} : (q, a) ∈ recOf qs ↔ (q, some a) ∈ qs := by
  unfold recOf
  rw [List.mem_filterMap]
  constructor
  · rintro ⟨⟨x, o⟩, h1, h2⟩
    cases o with
    | none => cases h2
    | some b => simp at h2; obtain ⟨rfl, rfl⟩ := h2; exact h1
  · intro h
    exact ⟨_, h, rfl⟩
theorem recOf_sub : ∀ qs : Qs, ((recOf qs).map (·.1)).Sublist (qs.map (·.1))
  | [] => List.Sublist.slnil
  | (x, none) :: r => by
    have ih := recOf_sub r
    unfold recOf at ih ⊢
    exact List.Sublist.cons _ ih
  | (x, some a) :: r => by
    have ih := recOf_sub r
    unfold recOf at ih ⊢
    exact List.Sublist.cons_cons _ ih
theorem recOf_nd {qs : Qs} (h : (qs.map (·.1)).Nodup) : MapS.ND (recOf qs) := h.sublist (recOf_sub qs)
theorem nd_val {qs : Qs} (h : (qs.map (·.1)).Nodup) {q : Qn} {u v : Option Ans} (h1 : (q, u) ∈ qs) (h2 : (q, v) ∈ qs) : u = v := by
  have e1 := MapS.get_of_mem (L := qs) h h1
  have e2 := MapS.get_of_mem (L := qs) h h2
  rw [e1] at e2; cases e2; rfl
theorem rec_len : ∀ qs : Qs, (recOf qs).length ≤ qs.length ∧ ((recOf qs).length = qs.length ↔ allQ qs = true)
  | [] => ⟨Nat.le_refl _, by simp [recOf, allQ]⟩
  | (x, none) :: r => by
    obtain ⟨h1, h2⟩ := rec_len r
    have e : recOf ((x, none) :: r) = recOf r := rfl
    rw [e]
    refine ⟨by simp; omega, ?_⟩
    simp [allQ]; omega
  | (x, some a) :: r => by
    obtain ⟨h1, h2⟩ := rec_len r
    have e : recOf ((x, some a) :: r) = (x, a) :: recOf r := rfl
    rw [e]
    refine ⟨by simp; omega, ?_⟩
    have e2 : allQ ((x, some a) :: r) = allQ r := by simp [allQ]
    rw [e2, ← h2]; simp
theorem setQ_same {q : Qn} {a : Ans} : ∀ {qs : Qs}, q ∉ qs.map (·.1) → setQ q a qs = qs
  | [], _ => rfl
  | (x, u) :: r, h => by
    have ih := setQ_same (q := q) (a := a) (qs := r) (fun hm => h (List.mem_cons_of_mem _ hm))
    unfold setQ at ih ⊢
    rw [List.map_cons, ih, if_neg (fun e => h (by have e2 : x = q := e; rw [← e2]; simp))]
theorem setQ_cons (q x : Qn) (a : Ans) (u : Option Ans) (r : Qs) : setQ q a ((x, u) :: r) = (if x = q then (q, some a) else (x, u)) :: setQ q a r := rfl
theorem recOf_some (x : Qn) (a : Ans) (r : Qs) : recOf ((x, some a) :: r) = (x, a) :: recOf r := rfl
theorem recOf_none (x : Qn) (r : Qs) : recOf ((x, none) :: r) = recOf r := rfl
theorem setQ_len {q : Qn} {a : Ans} : ∀ {qs : Qs}, (qs.map (·.1)).Nodup → (q, none) ∈ qs → (recOf (setQ q a qs)).length = (recOf qs).length + 1
  | [], _, h => by simp at h
  | (x, u) :: r, hn, h => by
    obtain ⟨h1, h2⟩ := List.nodup_cons.1 hn
    rw [setQ_cons]
    rcases List.mem_cons.1 h with e | hm
    · cases e
      rw [if_pos rfl, setQ_same h1, recOf_some, recOf_none]; rfl
    · have hx : x ≠ q := fun e => h1 (List.mem_map.2 ⟨(q, none), hm, e.symm⟩)
      have ih := setQ_len (a := a) h2 hm
      rw [if_neg hx]
      cases u with
      | none => rw [recOf_none, recOf_none]; exact ih
      | some b => rw [recOf_some, recOf_some, List.length_cons, List.length_cons, ih]
theorem setQ_mem {q : Qn} {a : Ans} {qs : Qs} (hq : q ∈ qs.map (·.1)) (k : Qn) (u : Option Ans) : (k, u) ∈ setQ q a qs ↔ (k = q ∧ u = some a) ∨ (k ≠ q ∧ (k, u) ∈ qs) := by
  unfold setQ
  rw [List.mem_map]
  constructor
  · rintro ⟨⟨x, v⟩, h1, h2⟩
    simp only at h2
    split at h2
    · cases h2; exact .inl ⟨rfl, rfl⟩
    · cases h2; rename_i hne; exact .inr ⟨hne, h1⟩
  · rintro (⟨rfl, rfl⟩ | ⟨h1, h2⟩)
    · obtain ⟨⟨x, v⟩, h3, h4⟩ := List.mem_map.1 hq
      simp only at h4
      subst h4
      exact ⟨(x, v), h3, by simp⟩
    · exact ⟨(k, u), h2, by simp [h1]⟩
theorem get_rec {qs : Qs} (h : (qs.map (·.1)).Nodup) (k : Qn) (a : Ans) : MapS.get k (recOf qs) = some a ↔ (k, some a) ∈ qs := by
  rw [MapS.get_iff (recOf_nd h), recOf_keys]
theorem get_setQ {q : Qn} {a : Ans} {qs : Qs} (h : (qs.map (·.1)).Nodup) (hq : q ∈ qs.map (·.1)) (k : Qn) : MapS.get k (recOf (setQ q a qs)) = if k = q then some a else MapS.get k (recOf qs) := by
  have h' : ((setQ q a qs).map (·.1)).Nodup := by rw [setQ_keys]; exact h
  refine Option.ext fun b => ?_
  rw [get_rec h', setQ_mem hq]
  by_cases e : k = q
  · subst e
    simp [eq_comm]
  · rw [if_neg e, get_rec h]
    simp [e]
theorem openQ_rec (m : Int) (qs : Qs) (x : T3) : recOf (openQ m qs x) = recOf qs := by
  unfold openQ
  split
  · rfl
  · unfold recOf; simp
theorem openQ_nd {m : Int} {qs : Qs} {x : T3} (h : (qs.map (·.1)).Nodup) : ((openQ m qs x).map (·.1)).Nodup := by
  unfold openQ
  split
  · exact h
  · rename_i hn
    rw [List.map_append, List.nodup_append]
    exact ⟨h, by simp, fun a ha b hb e => by simp at hb; subst hb; subst e; exact hn ha⟩
theorem openQ_keys (m : Int) (qs : Qs) (x : T3) : (openQ m qs x).map (·.1) = if (x.1, m, x.2.1) ∈ qs.map (·.1) then qs.map (·.1) else qs.map (·.1) ++ [(x.1, m, x.2.1)] := by
  unfold openQ
  split <;> simp
theorem openQ_len (m : Int) (qs : Qs) (x : T3) : (openQ m qs x).length ≤ qs.length + 1 := by unfold openQ; split <;> simp
theorem fold_rec (m : Int) : ∀ (l : List T3) (qs : Qs), recOf (l.foldl (openQ m) qs) = recOf qs
  | [], _ => rfl
  | x :: t, qs => by rw [List.foldl_cons, fold_rec m t, openQ_rec]
theorem fold_nd (m : Int) : ∀ (l : List T3) (qs : Qs), (qs.map (·.1)).Nodup → ((l.foldl (openQ m) qs).map (·.1)).Nodup
  | [], _, h => h
  | x :: t, qs, h => by rw [List.foldl_cons]; exact fold_nd m t _ (openQ_nd h)
theorem fold_len (m : Int) : ∀ (l : List T3) (qs : Qs), (l.foldl (openQ m) qs).length ≤ qs.length + l.length
  | [], _ => by simp
  | x :: t, qs => by
    rw [List.foldl_cons]
    have := fold_len m t (openQ m qs x)
    have := openQ_len m qs x
    simp; omega
theorem fold_ok (m : Int) (hm : W64 m) : ∀ (l : List T3) (qs : Qs), (∀ x ∈ l, W64 x.1 ∧ x.2.1 < 18446744073709551616 ∧ W64 x.2.2) → (∀ q ∈ qs.map (·.1), qOk q) → ∀ q ∈ (l.foldl (openQ m) qs).map (·.1), qOk q
  | [], _, _, h => h
  | x :: t, qs, hl, h => by
    rw [List.foldl_cons]
    refine fold_ok m hm t _ (fun y hy => hl y (List.mem_cons_of_mem _ hy)) (fun q hq => ?_)
    rw [openQ_keys] at hq
    split at hq
    · exact h q hq
    · rcases List.mem_append.1 hq with hq | hq
      · exact h q hq
      · simp at hq
        subst hq
        have := hl x (by simp)
        exact ⟨this.1, hm, this.2.1⟩
/-- An answer keeps what holds of a trace. -/
theorem Tr.Inv.take {t : Tr} {a : Ans} (h : t.Inv) (ha : a.Ok) : (t.take a).Inv := ⟨h.ok, h.nd, h.rq, h.rk, fun b hb => by rcases List.mem_append.1 hb with hb | hb; exact h.hi b hb; simp at hb; subst hb; exact ha, h.ro⟩
theorem Tr.Inv.state {t : Tr} (h : t.Inv) (s : Int) : Tr.Inv { t with state := s } := ⟨h.ok, h.nd, h.rq, h.rk, h.hi, h.ro⟩
theorem isOpen_mem {q : Qn} {qs : Qs} : isOpen q qs = true ↔ (q, none) ∈ qs := by unfold isOpen; simp
theorem Tr.Inv.put {t : Tr} {a : Ans} (h : t.Inv) (ha : a.Ok) (hk : a.kn = true) (ho : isOpen a.q t.qs = true) : (t.put a).Inv := by
  have hm := isOpen_mem.1 ho
  have hq : a.q ∈ t.qs.map (·.1) := List.mem_map.2 ⟨_, hm, rfl⟩
  have hr : (t.put a).rec' = recOf (setQ a.q a t.qs) := fold_rec _ _ _
  have hnd : ((setQ a.q a t.qs).map (·.1)).Nodup := by rw [setQ_keys]; exact h.nd
  have hmem : ∀ p ∈ (t.put a).rec', (p.1 = a.q ∧ p.2 = a) ∨ p ∈ t.rec' := fun p hp => by
    rw [hr] at hp
    obtain ⟨k, b⟩ := p
    rcases (setQ_mem hq k (some b)).1 (recOf_keys.1 hp) with ⟨h1, h2⟩ | ⟨_, h2⟩
    · exact .inl ⟨h1, by simpa using h2⟩
    · exact .inr (recOf_keys.2 h2)
  refine ⟨fold_ok a.m ha.q.1 _ _ ha.ins (by rw [setQ_keys]; exact h.ok), fold_nd _ _ _ hnd, fun p hp => ?_, fun p hp => ?_, h.hi, fun p hp => ?_⟩
  · rcases hmem p hp with ⟨h1, h2⟩ | h1
    · rw [h1, h2]
    · exact h.rq p h1
  · rcases hmem p hp with ⟨h1, h2⟩ | h1
    · rw [h2]; exact hk
    · exact h.rk p h1
  · rcases hmem p hp with ⟨h1, h2⟩ | h1
    · rw [h2]; exact ha
    · exact h.ro p h1
end Go.Proofs.YtpobepninifenaaGreat

namespace Go.Proofs.YtpobepninifenaaGreat
open Go.RowKit

def Tr.new (im is : Int) (st : T3) : Tr := ⟨im, is, st, [((im, st.1, st.2.1), none)], 0, [], 0, [], false⟩
abbrev idV (a b : Int) : Value := .agg #[.int .i64 a, .int .i64 b]
theorem Sh.O.one {α : Type} (s : Sh α) (w : World) (x : α) (xs : Array Value) (e B : Nat) (hx : xs.toList = s.cf x) (hB : B ≤ w.heap.size) : s.O (w.alloc (.cells xs e)) B e (.slice (some ⟨w.heap.size, 0, none⟩) 1 1) [x] := by
  have hl : xs.size = s.sz := by rw [← Array.length_toList, hx]; exact s.len x
  refine ⟨by simp [Sh.cs, s.len], .inr ⟨w.heap.size, 1, xs, rfl, hB, heap_alloc_new w _, Nat.le_refl _, by simp [maxLen], by simpa using hl, ?_⟩⟩
  rw [List.take_of_length_le (by simp [hl]), hx]
  simp [Sh.cs]
set_option maxRecDepth 100000 in
set_option maxHeartbeats 2000000 in
theorem new_c (w : World) (im is : Int) (st : T3) (h1 : W64 im) (h2 : W64 st.1) (h3 : st.2.1 < 18446744073709551616) :
    Calls Tryz.prog 51 #[idV im is, tV st] w fun e w' => ∃ bt bm vo, e = .returned (.pointer (some ⟨bt, 0, none⟩)) ∧ TrM w' w.heap.size bt bm vo (.slice none 0 0) (.slice none 0 0) (Tr.new im is st) ∧ Keeps [] w w' := by
  obtain ⟨s0, s1, s2⟩ := st
  simp only at h2 h3
  have hmm := @run_makeMap Tryz.prog
  go_enter Tryz.func51, Tryz.ntmps51
  go_wp2
  go_ret
  obtain ⟨w1, hw1⟩ : ∃ w1, (w.alloc (.cells #[.int .i64 im, .int .i64 is] 39)).alloc (.cells #[.int .i64 s0, .int .u64 s1, .int .i64 s2] tN) = w1 := ⟨_, rfl⟩
  have hk1 : Keeps [] w w1 := by rw [← hw1]; exact ((Keeps.refl _ _).alloc _).alloc _
  have hz1 : w1.heap.size = w.heap.size + 1 + 1 := by rw [← hw1]; simp
  rw [hw1, ← hz1]
  have hO := Sh.O.one shQ w1 (im, s0, s1) #[.int .i64 im, .int .i64 s0, .int .u64 s1] tQ w.heap.size rfl (by omega)
  have hk2 := hk1.alloc (.cells #[.int .i64 im, .int .i64 s0, .int .u64 s1] tQ)
  obtain ⟨w2, hw2⟩ : ∃ w2, w1.alloc (.cells #[.int .i64 im, .int .i64 s0, .int .u64 s1] tQ) = w2 := ⟨_, rfl⟩
  have hz2 : w2.heap.size = w1.heap.size + 1 := by rw [← hw2]; simp
  rw [hw2] at hO hk2 ⊢
  rw [← hz2]
  have hM := MapS.M.made ktQ (vf := aV) w2
  have hkM : Keeps [] w2 (w2.alloc (.map #[] 0)) := (Keeps.refl _ _).alloc _
  obtain ⟨w3, hw3⟩ : ∃ w3, w2.alloc (.map #[] 0) = w3 := ⟨_, rfl⟩
  have hz3 : w3.heap.size = w2.heap.size + 1 := by rw [← hw3]; simp
  rw [hw3] at hM hkM ⊢
  rw [← hz3]
  refine ⟨w3.heap.size, w2.heap.size, .slice (some ⟨w1.heap.size, 0, none⟩) 1 1, rfl, ?_, (hk2.trans hkM).alloc _⟩
  have hk4 : Keeps [] w3 (w3.alloc (.cells #[.int .i64 im, .int .i64 is, .int .i64 s0, .int .u64 s1, .int .i64 s2, .slice (some ⟨w1.heap.size, 0, none⟩) 1 1, .int .i64 0, .map (some w2.heap.size), .slice none 0 0, .int .i64 0, .slice none 0 0, .bool false] tT)) := (Keeps.refl _ _).alloc _
  exact ⟨heap_alloc_new w3 _, hO.keeps (hkM.trans hk4), ⟨[], Sh.O.nil _ _ _ _, LA.nil _⟩, Sh.O.nil _ _ _ _, ⟨[], hM.keeps ktQ hk4, rfl, fun q => .inl ⟨rfl, rfl⟩⟩, ⟨fun q hq => by simp [Tr.op, Tr.new] at hq; subst hq; exact ⟨h1, h2, h3⟩, by simp [Tr.op, Tr.new], by simp [Tr.rec', Tr.new, recOf], by simp [Tr.rec', Tr.new, recOf], by simp [Tr.new], by simp [Tr.rec', Tr.new, recOf]⟩, by omega⟩
set_option maxRecDepth 100000 in
set_option maxHeartbeats 2000000 in
theorem id_c (w : World) (B bt bm : Nat) (vo vh vg : Value) (t : Tr) (h : TrM w B bt bm vo vh vg t) :
    Calls Tryz.prog 27 #[.pointer (some ⟨bt, 0, none⟩)] w fun e w' => e = .returned (idV t.im t.is) ∧ Keeps [] w w' := by
  obtain ⟨c0, c1, _⟩ := h.cells
  have hlt := h.lt.1
  clear h
  go_enter Tryz.func27, Tryz.ntmps27
  go_wp2
  refine bodyPost_ret (results_cell_row rfl _ _ _ _ _ _ _ rfl (heap_alloc_new w _) Tryz.underlying39 rfl (by kernel_rfl)) rfl ?_
  exact ⟨rfl, (Keeps.refl _ _).alloc _⟩
set_option maxRecDepth 100000 in
set_option maxHeartbeats 2000000 in
theorem start_c (w : World) (B bt bm : Nat) (vo vh vg : Value) (t : Tr) (h : TrM w B bt bm vo vh vg t) :
    Calls Tryz.prog 17 #[.pointer (some ⟨bt, 0, none⟩)] w fun e w' => e = .returned (tV t.st) ∧ Keeps [] w w' := by
  obtain ⟨_, _, c2, c3, c4, _⟩ := h.cells
  have hlt := h.lt.1
  clear h
  go_enter Tryz.func17, Tryz.ntmps17
  go_wp2
  refine bodyPost_ret (results_cell_row rfl _ _ _ _ _ _ _ rfl (heap_alloc_new w _) Tryz.underlying53 rfl (by kernel_rfl)) rfl ?_
  exact ⟨rfl, (Keeps.refl _ _).alloc _⟩
set_option maxRecDepth 100000 in
set_option maxHeartbeats 1000000 in
theorem state_c (w : World) (B bt bm : Nat) (vo vh vg : Value) (t : Tr) (h : TrM w B bt bm vo vh vg t) :
    Calls Tryz.prog 20 #[.pointer (some ⟨bt, 0, none⟩)] w fun e w' => e = .returned (.int .i64 t.state) ∧ w = w' := by
  have c9 := h.cells.2.2.2.2.2.2.2.2.2.1
  clear h
  go_enter Tryz.func20, Tryz.ntmps20
  go_wp2
  go_ret
  exact ⟨rfl, rfl⟩
theorem cells8 {w : World} {b : Nat} {x0 x1 x2 x3 x4 x5 x6 x7 : Value} {t : TypeId} (h : w.heap[b]? = some (.cells #[x0, x1, x2, x3, x4, x5, x6, x7] t (0, 0))) : w.cell? ⟨b, 0, none⟩ = some x0 ∧ w.cell? ⟨b, 1, none⟩ = some x1 ∧ w.cell? ⟨b, 2, none⟩ = some x2 ∧ w.cell? ⟨b, 3, none⟩ = some x3 ∧ w.cell? ⟨b, 4, none⟩ = some x4 ∧ w.cell? ⟨b, 5, none⟩ = some x5 ∧ w.cell? ⟨b, 6, none⟩ = some x6 ∧ w.cell? ⟨b, 7, none⟩ = some x7 ∧ (∀ o, w.frozen? ⟨b, o, none⟩ = false) ∧ b < w.heap.size := by
  refine ⟨?_, ?_, ?_, ?_, ?_, ?_, ?_, ?_, ?_, lt_of_blk h⟩ <;> simp [World.cell?, World.frozen?, h]
theorem setCs {w : World} {b : Nat} {cs : Array Value} {t : TypeId} {f : Nat × Nat} (h : w.heap[b]? = some (.cells cs t f)) (o : Nat) (v : Value) : (w.setCell ⟨b, o, none⟩ v).heap[b]? = some (.cells (cs.setIfInBounds o v) t f) := by
  simp [World.setCell, Array.getElem?_modify, h]
theorem setO {w : World} {b b' : Nat} (hb : b ≠ b') (o : Nat) (v : Value) : (w.setCell ⟨b', o, none⟩ v).heap[b]? = w.heap[b]? := Below.heap_setCell _ _ _ _ (by simpa using hb)
/-- An answer is copied into another block. -/
theorem cp8 {w : World} {X : Nat} {x0 x1 x2 x3 x4 x5 x6 x7 u0 u1 u2 u3 u4 u5 u6 u7 : Value} (h1 : w.heap[X]? = some (.cells #[x0, x1, x2, x3, x4, x5, x6, x7] tA (0, 0))) (h2 : w.heap[X + 1]? = some (.cells #[u0, u1, u2, u3, u4, u5, u6, u7] tA (0, 0))) (a : Option Addr) (n c : Nat) :
    (((((((((w.setCell ⟨X, 7, none⟩ (.slice a n c)).setCell ⟨X + 1, 0, none⟩ x0).setCell ⟨X + 1, 1, none⟩ x1).setCell ⟨X + 1, 2, none⟩ x2).setCell ⟨X + 1, 3, none⟩ x3).setCell ⟨X + 1, 4, none⟩ x4).setCell ⟨X + 1, 5, none⟩ x5).setCell ⟨X + 1, 6, none⟩ x6).setCell ⟨X + 1, 7, none⟩ (.slice a n c)).heap[X + 1]? = some (.cells #[x0, x1, x2, x3, x4, x5, x6, .slice a n c] tA (0, 0)) ∧
    Keeps [X, X + 1] w (((((((((w.setCell ⟨X, 7, none⟩ (.slice a n c)).setCell ⟨X + 1, 0, none⟩ x0).setCell ⟨X + 1, 1, none⟩ x1).setCell ⟨X + 1, 2, none⟩ x2).setCell ⟨X + 1, 3, none⟩ x3).setCell ⟨X + 1, 4, none⟩ x4).setCell ⟨X + 1, 5, none⟩ x5).setCell ⟨X + 1, 6, none⟩ x6).setCell ⟨X + 1, 7, none⟩ (.slice a n c)) ∧ KI w (((((((((w.setCell ⟨X, 7, none⟩ (.slice a n c)).setCell ⟨X + 1, 0, none⟩ x0).setCell ⟨X + 1, 1, none⟩ x1).setCell ⟨X + 1, 2, none⟩ x2).setCell ⟨X + 1, 3, none⟩ x3).setCell ⟨X + 1, 4, none⟩ x4).setCell ⟨X + 1, 5, none⟩ x5).setCell ⟨X + 1, 6, none⟩ x6).setCell ⟨X + 1, 7, none⟩ (.slice a n c)) := by
  have hk : Keeps [X, X + 1] w (((((((((w.setCell ⟨X, 7, none⟩ (.slice a n c)).setCell ⟨X + 1, 0, none⟩ x0).setCell ⟨X + 1, 1, none⟩ x1).setCell ⟨X + 1, 2, none⟩ x2).setCell ⟨X + 1, 3, none⟩ x3).setCell ⟨X + 1, 4, none⟩ x4).setCell ⟨X + 1, 5, none⟩ x5).setCell ⟨X + 1, 6, none⟩ x6).setCell ⟨X + 1, 7, none⟩ (.slice a n c)) := by
    refine (((((((((Keeps.refl _ w).setCell ?_ _).setCell ?_ _).setCell ?_ _).setCell ?_ _).setCell ?_ _).setCell ?_ _).setCell ?_ _).setCell ?_ _).setCell ?_ _ <;> exact .inr (by simp)
  refine ⟨?_, hk, hk.ki (fun b hb cs f e => ?_)⟩
  · clear hk
    have s0 := (setO (b := X + 1) (b' := X) (by omega) 7 (.slice a n c)).trans h2
    generalize w.setCell ⟨X, 7, none⟩ (.slice a n c) = w0 at s0 ⊢
    have s1 := setCs s0 0 x0
    generalize w0.setCell ⟨X + 1, 0, none⟩ x0 = w1 at s1 ⊢
    have s2 := setCs s1 1 x1
    generalize w1.setCell ⟨X + 1, 1, none⟩ x1 = w2 at s2 ⊢
    have s3 := setCs s2 2 x2
    generalize w2.setCell ⟨X + 1, 2, none⟩ x2 = w3 at s3 ⊢
    have s4 := setCs s3 3 x3
    generalize w3.setCell ⟨X + 1, 3, none⟩ x3 = w4 at s4 ⊢
    have s5 := setCs s4 4 x4
    generalize w4.setCell ⟨X + 1, 4, none⟩ x4 = w5 at s5 ⊢
    have s6 := setCs s5 5 x5
    generalize w5.setCell ⟨X + 1, 5, none⟩ x5 = w6 at s6 ⊢
    have s7 := setCs s6 6 x6
    generalize w6.setCell ⟨X + 1, 6, none⟩ x6 = w7 at s7 ⊢
    have s8 := setCs s7 7 (.slice a n c)
    generalize w7.setCell ⟨X + 1, 7, none⟩ (.slice a n c) = w8 at s8 ⊢
    simpa using s8
  · simp at hb
    rcases hb with rfl | rfl
    · rw [h1] at e; cases e
    · rw [h2] at e; cases e
set_option maxRecDepth 100000 in
set_option maxHeartbeats 2000000 in
theorem copied_c (w : World) (x : AnV) (L : List T3) (h : shT.R w x.v L) (hl : L.length ≤ 1000000) :
    Calls Tryz.prog 78 #[aV x] w fun e w' => ∃ x' : AnV, e = .returned (aV x') ∧ x'.m = x.m ∧ x'.ow = x.ow ∧ x'.n = x.n ∧ x'.ep = x.ep ∧ x'.kn = x.kn ∧ x'.rt = x.rt ∧ x'.lu = x.lu ∧ InsO w' x'.v L ∧ Keeps [] w w' := by
  obtain ⟨x0, x1, x2, x3, x4, x5, x6, x7, x8, x9⟩ := x
  have hC := fun W (hk : Keeps [] w W) => cloneI_c W _ L (h.keeps hk) hl
  simp only [AnV.v] at hC
  have hkA : Keeps [] w (w.alloc (.cells #[.int .i64 x0, .int .i64 x1, .int .u64 x2, .int .i64 x3, .bool x4, .bool x5, .int .i64 x6, .slice x7 x8 x9] tA)) := (Keeps.refl _ _).alloc _
  have hb := heap_alloc_new w (.cells #[.int .i64 x0, .int .i64 x1, .int .u64 x2, .int .i64 x3, .bool x4, .bool x5, .int .i64 x6, .slice x7 x8 x9] tA)
  replace hC := Lib.hid hC
  replace hkA := Lib.hid hkA
  replace hb := Lib.hid hb
  clear h
  simp only [aV, AnV.v]
  go_enter Tryz.func78, Tryz.ntmps78
  go_wp2_with fail
  have hk2 : Keeps [] (w.alloc (.cells #[.int .i64 x0, .int .i64 x1, .int .u64 x2, .int .i64 x3, .bool x4, .bool x5, .int .i64 x6, .slice x7 x8 x9] tA)) ((w.alloc (.cells #[.int .i64 x0, .int .i64 x1, .int .u64 x2, .int .i64 x3, .bool x4, .bool x5, .int .i64 x6, .slice x7 x8 x9] tA)).alloc (.cells #[.int .i64 0, .int .i64 0, .int .u64 0, .int .i64 0, .bool false, .bool false, .int .i64 0, .slice none 0 0] tA)) := (Keeps.refl _ _).alloc _
  have hb1 := (hk2.block w.heap.size (by simp) (by simp)).trans hb.out
  have hb2 := heap_alloc_new (w.alloc (.cells #[.int .i64 x0, .int .i64 x1, .int .u64 x2, .int .i64 x3, .bool x4, .bool x5, .int .i64 x6, .slice x7 x8 x9] tA)) (.cells #[.int .i64 0, .int .i64 0, .int .u64 0, .int .i64 0, .bool false, .bool false, .int .i64 0, .slice none 0 0] tA)
  rw [show (w.alloc (.cells #[.int .i64 x0, .int .i64 x1, .int .u64 x2, .int .i64 x3, .bool x4, .bool x5, .int .i64 x6, .slice x7 x8 x9] tA)).heap.size = w.heap.size + 1 by simp] at hb2
  have hk02 := hkA.out.trans hk2
  have hsz : ((w.alloc (.cells #[.int .i64 x0, .int .i64 x1, .int .u64 x2, .int .i64 x3, .bool x4, .bool x5, .int .i64 x6, .slice x7 x8 x9] tA)).alloc (.cells #[.int .i64 0, .int .i64 0, .int .u64 0, .int .i64 0, .bool false, .bool false, .int .i64 0, .slice none 0 0] tA)).heap.size = w.heap.size + 2 := by simp
  clear hkA hb hk2
  generalize ((w.alloc (.cells #[.int .i64 x0, .int .i64 x1, .int .u64 x2, .int .i64 x3, .bool x4, .bool x5, .int .i64 x6, .slice x7 x8 x9] tA)).alloc (.cells #[.int .i64 0, .int .i64 0, .int .u64 0, .int .i64 0, .bool false, .bool false, .int .i64 0, .slice none 0 0] tA)) = W at *
  refine (hC.out W hk02).mono ?_
  rintro e w1 ⟨v1, rfl, hO, hk1⟩
  have hI : InsO w1 v1 L := ⟨_, hO⟩
  have hge := hO.ge
  obtain ⟨a1, c1, rfl⟩ := hO.form
  obtain ⟨LL, hLL⟩ : ∃ n, L.length = n := ⟨_, rfl⟩
  rw [hLL] at hI hge ⊢
  have hb11 := (hk1.block _ (by omega) (by simp)).trans hb1
  have hb21 := (hk1.block _ (by omega) (by simp)).trans hb2
  have hk01 := hk02.trans hk1
  have hz1 := hk1.size
  obtain ⟨X, hX⟩ : ∃ X, w.heap.size = X := ⟨_, rfl⟩
  rw [hX] at hb11 hb21 hsz ⊢
  have hfin := cp8 hb11 hb21 a1 LL c1
  obtain ⟨y0, y1, y2, y3, y4, y5, y6, y7, yf, ylt⟩ := cells8 hb11
  obtain ⟨z0, z1, z2, z3, z4, z5, z6, z7, zf, zlt⟩ := cells8 hb21
  replace hI := Lib.hid hI
  replace hge := Lib.hid hge
  replace hk01 := Lib.hid hk01
  replace hfin := Lib.hid hfin
  replace hX := Lib.hid hX
  replace hLL := Lib.hid hLL
  clear hb1 hb2 hb11 hb21 hO hk1 hk02 hC hsz
  go_wp2
  obtain ⟨g1, g2, g3⟩ := hfin.out
  refine bodyPost_ret (results_cell_row rfl _ _ _ _ _ _ _ rfl g1 Tryz.underlying37 rfl (by kernel_rfl)) rfl ?_
  refine ⟨⟨x0, x1, x2, x3, x4, x5, x6, a1, LL, c1⟩, rfl, rfl, rfl, rfl, rfl, rfl, rfl, rfl, hI.out.ki g3, hk01.out.fresh g2 (fun b hb => by rw [hX.out]; simp at hb; rcases hb with rfl | rfl <;> exact .inr (by omega))⟩
end Go.Proofs.YtpobepninifenaaGreat

namespace Go.Proofs.YtpobepninifenaaGreat
open Go.RowKit

def AnV.odd (m ep : Int) (x : AnV) : Bool := x.m == m && x.ep != ep
set_option maxRecDepth 100000 in
set_option maxHeartbeats 2000000 in
theorem odd_c (w : World) (x : AnV) (bx : Nat) (m ep : Int) (h0 : w.cell? ⟨bx, 0, none⟩ = some (.int .i64 m)) (h3 : w.cell? ⟨bx, 3, none⟩ = some (.int .i64 ep)) :
    Calls Tryz.prog 79 #[aV x, .pointer (some ⟨bx, 0, none⟩)] w fun e w' => e = .returned (.bool (x.odd m ep)) ∧ Keeps [] w w' := by
  have hlt := lt_of_cell h0
  obtain ⟨x0, x1, x2, x3, x4, x5, x6, x7, x8, x9⟩ := x
  simp only [aV, AnV.v, AnV.odd]
  have hkA : Keeps [] w (w.alloc (.cells #[.int .i64 x0, .int .i64 x1, .int .u64 x2, .int .i64 x3, .bool x4, .bool x5, .int .i64 x6, .slice x7 x8 x9] tA)) := (Keeps.refl _ _).alloc _
  by_cases e1 : x0 = m
  · subst e1
    have b1 : (x0 == x0) = true := by simp
    by_cases e2 : x3 = ep
    · subst e2
      have b2 : (x3 != x3) = false := by simp
      go_enter Tryz.func79, Tryz.ntmps79
      go_wp2
      go_ret
      exact ⟨by rw [b1, b2]; rfl, hkA⟩
    · have b2 : (x3 != ep) = true := by simpa using e2
      go_enter Tryz.func79, Tryz.ntmps79
      go_wp2
      go_ret
      exact ⟨by rw [b1, b2]; rfl, hkA⟩
  · have b1 : (x0 == m) = false := by simpa using e1
    go_enter Tryz.func79, Tryz.ntmps79
    go_wp2
    go_ret
    exact ⟨by rw [b1]; rfl, hkA⟩
set_option maxRecDepth 100000 in
set_option maxHeartbeats 2000000 in
theorem indexA_c (w : World) (v : Value) (X : List AnV) (bx : Nat) (m ep : Int) (h : shA.R w v X) (h0 : w.cell? ⟨bx, 0, none⟩ = some (.int .i64 m)) (h3 : w.cell? ⟨bx, 3, none⟩ = some (.int .i64 ep)) :
    Calls Tryz.prog 120 #[v, .func (.func 79) #[] #[.pointer (some ⟨bx, 0, none⟩)]] w fun e w' => ∃ i : Int, e = .returned (.int .i64 i) ∧ (X.any (AnV.odd m ep) = true → 0 ≤ i) ∧ (X.any (AnV.odd m ep) = false → i = -1) ∧ Keeps [] w w' := by
  obtain ⟨a, c, rfl, hlc, hcm, _⟩ := h.form
  have hel := fun k hk => h.elem (k := k) hk
  obtain ⟨M, hM⟩ : ∃ N, X.length = N := ⟨_, rfl⟩
  rw [hM] at hlc ⊢
  have hMm : M ≤ 9223372036854775807 := by unfold maxLen at hcm; omega
  replace hel := Lib.hid hel
  replace hM := Lib.hid hM
  clear h
  go_enter Tryz.func120, Tryz.ntmps120
  go_wp2
  go_loopw [8, 5] (fun i _ wr => ∃ k : Nat, i = .int .i64 k ∧ k ≤ M ∧ Hid (∀ j (hj : j < X.length), j < k → X[j].odd m ep = false) ∧ Keeps [] w wr) (fun i _ _ => M - (intOf i).toNat)
  case atStart => exact ⟨0, rfl, by omega, fun _ _ h => by omega, Keeps.refl _ _⟩
  case round =>
    obtain ⟨k, rfl, hk, hno, hkw⟩ := hrel
    by_cases hlt : k < M
    · obtain ⟨g, o, c', hv, he⟩ := hel.out k (by rw [hM.out]; exact hlt)
      cases hv
      obtain ⟨x, hx⟩ : ∃ x, X[k]'(by rw [hM.out]; exact hlt) = x := ⟨_, rfl⟩
      rw [hx] at he
      have hoc := odd_c wr x bx m ep (hkw.val h0) (hkw.val h3)
      obtain ⟨x0, x1, x2, x3, x4, x5, x6, x7, x8, x9⟩ := x
      have e0 := hkw.val (he 0 _ rfl)
      have e1 := hkw.val (he 1 _ rfl)
      have e2 := hkw.val (he 2 _ rfl)
      have e3 := hkw.val (he 3 _ rfl)
      have e4 := hkw.val (he 4 _ rfl)
      have e5 := hkw.val (he 5 _ rfl)
      have e6 := hkw.val (he 6 _ rfl)
      have e7 := hkw.val (he 7 _ rfl)
      simp only [shA, AnV.v, Nat.add_zero] at e0 e1 e2 e3 e4 e5 e6 e7
      simp only [aV, AnV.v] at hoc
      obtain ⟨od, hod⟩ : ∃ od, AnV.odd m ep ⟨x0, x1, x2, x3, x4, x5, x6, x7, x8, x9⟩ = od := ⟨_, rfl⟩
      rw [hod] at hoc
      replace hx := Lib.hid hx
      replace hod := Lib.hid hod
      replace hkw := Lib.hid hkw
      replace hoc := Lib.hid hoc
      clear he
      go_wp2_with fail
      refine hoc.out.mono ?_
      rintro e w1 ⟨rfl, hk1⟩
      cases od with
      | true =>
        go_wp2
        go_ret
        exact ⟨k, rfl, fun _ => by omega, fun h => by
          rw [List.any_eq_false] at h
          have := h _ (hx.out ▸ List.getElem_mem _)
          exact absurd hod.out this, hkw.out.trans hk1⟩
      | false =>
        have hk2 := hkw.out.trans hk1
        go_wp2
        go_roundw
        case rel => exact ⟨k + 1, rfl, by omega, fun j hj hjk => by
            by_cases e : j = k
            · subst e; rw [hx.out]; exact hod.out
            · exact hno.out j hj (by omega), hk2⟩
        case measure => simp [intOf]; omega
    · go_wp2
      go_ret
      exact ⟨-1, rfl, (fun h => by
        rw [List.any_eq_true] at h
        obtain ⟨y, hy, ho⟩ := h
        obtain ⟨j, hj, rfl⟩ := List.getElem_of_mem hy
        rw [hno.out j hj (by rw [hM.out] at hj; omega)] at ho
        cases ho), fun _ => rfl, hkw⟩
set_option maxRecDepth 100000 in
set_option maxHeartbeats 1000000 in
theorem anyA_c (w : World) (v : Value) (X : List AnV) (bx : Nat) (m ep : Int) (h : shA.R w v X) (h0 : w.cell? ⟨bx, 0, none⟩ = some (.int .i64 m)) (h3 : w.cell? ⟨bx, 3, none⟩ = some (.int .i64 ep)) :
    Calls Tryz.prog 80 #[v, .func (.func 79) #[] #[.pointer (some ⟨bx, 0, none⟩)]] w fun e w' => e = .returned (.bool (X.any (AnV.odd m ep))) ∧ Keeps [] w w' := by
  have hI := indexA_c w v X bx m ep h h0 h3
  obtain ⟨b, hb⟩ : ∃ b, X.any (AnV.odd m ep) = b := ⟨_, rfl⟩
  rw [hb] at hI ⊢
  obtain ⟨a, c, rfl, _, _, _⟩ := h.form
  replace hI := Lib.hid hI
  replace hb := Lib.hid hb
  clear h h0 h3
  go_enter Tryz.func80, Tryz.ntmps80
  go_wp2_with fail
  refine hI.out.mono ?_
  rintro e w1 ⟨i, rfl, h1, h2, hk1⟩
  cases b with
  | true =>
    have h0 := h1 rfl
    replace h2 := Lib.hid h2
    go_wp2
    go_ret
    exact ⟨rfl, hk1⟩
  | false =>
    have h0 := h2 rfl
    subst h0
    replace h1 := Lib.hid h1
    go_wp2
    go_ret
    exact ⟨rfl, hk1⟩
end Go.Proofs.YtpobepninifenaaGreat

namespace Go.Proofs.YtpobepninifenaaGreat
open Go.RowKit

theorem MapS.M.at' {P : Program} {kt : TypeId} {κ : Type} [DecidableEq κ] {α : Type} {K : MapS.KT P kt κ} {vf : α → Value} {w w' : World} {b : Nat} {L : List (κ × α)} (h : MapS.M K vf w b L) (hb : w'.heap[b]? = w.heap[b]?) : MapS.M K vf w' b L := by
  obtain ⟨⟨D, ⟨es, clock, h1, F, hs, hD⟩, h2, h3⟩, ha, hw⟩ := h
  exact ⟨⟨D, ⟨es, clock, hb.trans h1, F, hs, hD⟩, h2, h3⟩, ha, hw⟩
theorem Keeps.setT {w : World} {bt o : Nat} {cs : Array Value} (h : w.heap[bt]? = some (.cells cs tT (0, 0))) (v : Value) : Keeps [bt] w (w.setCell ⟨bt, o, none⟩ v) ∧ KI w (w.setCell ⟨bt, o, none⟩ v) := by
  have hk : Keeps [bt] w (w.setCell ⟨bt, o, none⟩ v) := (Keeps.refl _ _).setCell (.inr (by simp)) _
  refine ⟨hk, hk.ki (fun b hb cs f e => ?_)⟩
  simp at hb; subst hb
  rw [h] at e; cases e
namespace TrM
variable {w w' : World} {B bt bm : Nat} {vo vh vg : Value} {t : Tr}
theorem ne_bt (h : TrM w B bt bm vo vh vg t) : bm ≠ bt ∧ vo.ownBlock ≠ some bt ∧ vh.ownBlock ≠ some bt ∧ vg.ownBlock ≠ some bt := by
  obtain ⟨R, hR, _⟩ := h.mp
  obtain ⟨X, hX, _⟩ := h.hi
  refine ⟨fun e => ?_, fun e => ?_, fun e => ?_, fun e => ?_⟩
  · obtain ⟨es, c, hm⟩ := hR.isMap
    rw [e, h.blk] at hm; cases hm
  · obtain ⟨cs, hc⟩ := h.op.tag bt e
    exact tag_ne h.blk hc (by decide) rfl
  · obtain ⟨cs, hc⟩ := hX.tag bt e
    exact tag_ne h.blk hc (by decide) rfl
  · obtain ⟨cs, hc⟩ := h.ag.tag bt e
    exact tag_ne h.blk hc (by decide) rfl
/-- A cell of the trace itself is stored. -/
theorem store (h : TrM w B bt bm vo vh vg t) (o : Nat) (v : Value) : (w.setCell ⟨bt, o, none⟩ v).heap[bt]? = some (.cells ((#[.int .i64 t.im, .int .i64 t.is, .int .i64 t.st.1, .int .u64 t.st.2.1, .int .i64 t.st.2.2, vo, .int .i64 t.told, .map (some bm), vh, .int .i64 t.state, vg, .bool t.rf] : Array Value).setIfInBounds o v) tT (0, 0)) ∧
    shQ.O (w.setCell ⟨bt, o, none⟩ v) B tQ vo t.op ∧ (∃ X, shA.O (w.setCell ⟨bt, o, none⟩ v) B tA vh X ∧ LA (w.setCell ⟨bt, o, none⟩ v) X t.hist) ∧ shZ.O (w.setCell ⟨bt, o, none⟩ v) B 3 vg t.ag ∧
    (∃ R, MapS.M ktQ aV (w.setCell ⟨bt, o, none⟩ v) bm R ∧ LR (w.setCell ⟨bt, o, none⟩ v) R t.rec') ∧ Keeps [bt] w (w.setCell ⟨bt, o, none⟩ v) ∧ KI w (w.setCell ⟨bt, o, none⟩ v) := by
  obtain ⟨hk, hi⟩ := Keeps.setT (o := o) h.blk v
  obtain ⟨n1, n2, n3, n4⟩ := h.ne_bt
  obtain ⟨X, hX, hXL⟩ := h.hi
  obtain ⟨R, hR, hRL⟩ := h.mp
  exact ⟨setCs h.blk o v, h.op.keepS hk (by simpa using n2), ⟨X, hX.keepS hk (by simpa using n3), hXL.ki hi⟩, h.ag.keepS hk (by simpa using n4), ⟨R, hR.kept ktQ hk (by simpa using n1), hRL.ki hi⟩, hk, hi⟩
theorem setState (h : TrM w B bt bm vo vh vg t) (s : Int) : TrM (w.setCell ⟨bt, 9, none⟩ (.int .i64 s)) B bt bm vo vh vg { t with state := s } := by
  obtain ⟨h1, h2, h3, h4, h5, _⟩ := h.store 9 (.int .i64 s)
  exact ⟨by simpa using h1, h2, h3, h4, h5, h.inv.state s, h.bB⟩
theorem setTold (h : TrM w B bt bm vo vh vg t) (s : Int) : TrM (w.setCell ⟨bt, 6, none⟩ (.int .i64 s)) B bt bm vo vh vg { t with told := s } := by
  obtain ⟨h1, h2, h3, h4, h5, _⟩ := h.store 6 (.int .i64 s)
  exact ⟨by simpa using h1, h2, h3, h4, h5, ⟨h.inv.ok, h.inv.nd, h.inv.rq, h.inv.rk, h.inv.hi, h.inv.ro⟩, h.bB⟩
/-- The history has grown. -/
theorem setHist (h : TrM w B bt bm vo vh vg t) {vh' : Value} {X : List AnV} {a : Ans} (hG : Grw w w' vh vh') (hO : shA.O w' B tA vh' X) (hL : LA w' X (t.hist ++ [a])) (ha : a.Ok) :
    TrM (w'.setCell ⟨bt, 8, none⟩ vh') B bt bm vo vh' vg (t.take a) ∧ Keeps [bt] w' (w'.setCell ⟨bt, 8, none⟩ vh') ∧ KI w w' ∧ KI w' (w'.setCell ⟨bt, 8, none⟩ vh') := by
  obtain ⟨n1, n2, n3, n4⟩ := h.ne_bt
  obtain ⟨X0, hX0, hX0L⟩ := h.hi
  obtain ⟨R, hR, hRL⟩ := h.mp
  have hk := hG.keepsO
  have hi : KI w w' := hk.ki (fun b hb cs f e => by
    obtain ⟨cs', hc⟩ := hX0.tag b (by simpa using hb)
    exact tag_ne hc e (by decide) rfl)
  have hne : ∀ (e : TypeId) (b : Nat) (cs : Array Value), w.heap[b]? = some (Obj.cells cs e (0, 0)) → tA ≠ e → b ∉ vh.ownBlock.toList := fun e b cs hb hn hm => by
    obtain ⟨cs', hc⟩ := hX0.tag b (by simpa using hm)
    exact tag_ne hc hb hn rfl
  have hblk : w'.heap[bt]? = _ := (hk.block bt h.lt.1 (hne _ _ _ h.blk (by decide))).trans h.blk
  have hop : shQ.O w' B tQ vo t.op := h.op.keepS hk (fun b hb e => by obtain ⟨cs, hc⟩ := h.op.tag b e; exact hne _ _ _ hc (by decide) hb)
  have hag : shZ.O w' B 3 vg t.ag := h.ag.keepS hk (fun b hb e => by obtain ⟨cs, hc⟩ := h.ag.tag b e; exact hne _ _ _ hc (by decide) hb)
  have hR' : MapS.M ktQ aV w' bm R := hR.kept ktQ hk (fun hm => by
    obtain ⟨cs', hc⟩ := hX0.tag bm (by simpa using hm)
    obtain ⟨es, c, hmm⟩ := hR.isMap
    rw [hc] at hmm; cases hmm)
  have hM : TrM w' B bt bm vo vh' vg { t with hist := t.hist ++ [a] } ∨ True := .inr trivial
  obtain ⟨hk2, hi2⟩ := Keeps.setT (o := 8) hblk vh'
  have hnv : vh'.ownBlock ≠ some bt := fun e => by
    obtain ⟨cs, hc⟩ := hO.tag bt e
    exact tag_ne hblk hc (by decide) rfl
  refine ⟨⟨?_, hop.keepS hk2 (by simpa using n2), ⟨X, hO.keepS hk2 (by simpa using hnv), hL.ki hi2⟩, hag.keepS hk2 (by simpa using n4), ⟨R, hR'.kept ktQ hk2 (by simpa using n1), (hRL.ki hi).ki hi2⟩, h.inv.take ha, h.bB⟩, hk2, hi, hi2⟩
  have := setCs hblk 8 vh'
  simpa [Tr.take] using this
/-- The map of the answers has a further one. -/
theorem setRec (h : TrM w B bt bm vo vh vg t) {a : Ans} {x : AnV} {R : List (Qn × AnV)} (hR : MapS.M ktQ aV w bm R) (hRL : LR w R t.rec') (ho : isOpen a.q t.qs = true) (hk : Keeps [bm] w w') (hM : MapS.M ktQ aV w' bm (R ++ [(a.q, x)])) (hx : InA w x a) (ha : a.Ok) (hkn : a.kn = true) :
    TrM w' B bt bm vo vh vg { t with qs := setQ a.q a t.qs } ∧ KI w w' := by
  have hm := isOpen_mem.1 ho
  have hq : a.q ∈ t.qs.map (·.1) := List.mem_map.2 ⟨_, hm, rfl⟩
  have hi : KI w w' := hk.ki (fun b hb cs f e => by
    simp at hb; subst hb
    obtain ⟨es, c, hmm⟩ := hR.isMap
    rw [hmm] at e; cases e)
  obtain ⟨X0, hX0, hX0L⟩ := h.hi
  have hne : ∀ (b : Nat) (cs : Array Value) (e : TypeId), w.heap[b]? = some (Obj.cells cs e (0, 0)) → b ≠ bm := fun b cs e hb h2 => by
    subst h2
    obtain ⟨es, c, hmm⟩ := hR.isMap
    rw [hmm] at hb; cases hb
  have inv2 : Tr.Inv { t with qs := setQ a.q a t.qs } := by
    have h2 := Tr.Inv.put (t := t) (a := { a with ins := [] }) h.inv ⟨ha.q, ha.ep, ha.lu, by simp, by simp⟩ hkn ho
    have hrk : ∀ p ∈ recOf (setQ a.q a t.qs), (p.1 = a.q ∧ p.2 = a) ∨ p ∈ t.rec' := fun p hp => by
      obtain ⟨k, b⟩ := p
      rcases (setQ_mem hq k (some b)).1 (recOf_keys.1 hp) with ⟨h1, h2⟩ | ⟨_, h2⟩
      · exact .inl ⟨h1, by simpa using h2⟩
      · exact .inr (recOf_keys.2 h2)
    refine ⟨?_, ?_, fun p hp => ?_, fun p hp => ?_, h.inv.hi, fun p hp => ?_⟩
    · simp only [Tr.op]; rw [setQ_keys]; exact h.inv.ok
    · simp only [Tr.op]; rw [setQ_keys]; exact h.inv.nd
    · rcases hrk p hp with ⟨h1, h2⟩ | h1
      · rw [h1, h2]
      · exact h.inv.rq p h1
    · rcases hrk p hp with ⟨h1, h2⟩ | h1
      · rw [h2]; exact hkn
      · exact h.inv.rk p h1
    · rcases hrk p hp with ⟨h1, h2⟩ | h1
      · rw [h2]; exact ha
      · exact h.inv.ro p h1
  refine ⟨⟨(hk.block bt h.lt.1 (by simpa using hne _ _ _ h.blk)).trans h.blk, ?_, ⟨X0, hX0.keepS hk (fun b hb e => ?_), hX0L.ki hi⟩, h.ag.keepS hk (fun b hb e => ?_), ⟨_, hM, ?_, fun q => ?_⟩, inv2, h.bB⟩, hi⟩
  · have : shQ.O w' B tQ vo t.op := h.op.keepS hk (fun b hb e => by simp at hb; subst hb; obtain ⟨cs, hc⟩ := h.op.tag _ e; exact hne _ _ _ hc rfl)
    simpa [Tr.op, setQ_keys] using this
  · simp at hb; subst hb; obtain ⟨cs, hc⟩ := hX0.tag _ e; exact hne _ _ _ hc rfl
  · simp at hb; subst hb; obtain ⟨cs, hc⟩ := h.ag.tag _ e; exact hne _ _ _ hc rfl
  · have := setQ_len (a := a) h.inv.nd hm
    simp only [Tr.rec']
    rw [this, List.length_append, hRL.1]; rfl
  · simp only [Tr.rec']
    rw [get_setQ h.inv.nd hq, MapS.get_append]
    by_cases e : q = a.q
    · subst e
      rw [if_pos rfl]
      rcases hRL.2 a.q with ⟨h1, h2⟩ | ⟨x', y', h1, h2, h3⟩
      · rw [h1]
        exact .inr ⟨x, a, by simp [MapS.get], rfl, hx.ki hi⟩
      · exfalso
        have := (get_rec h.inv.nd a.q y').1 h2
        have := nd_val h.inv.nd this hm
        cases this
    · rw [if_neg e]
      have e' : ¬ a.q = q := fun h => e h.symm
      rcases hRL.2 q with ⟨h1, h2⟩ | ⟨x', y', h1, h2, h3⟩
      · exact .inl ⟨by rw [h1]; simp [MapS.get, e'], h2⟩
      · exact .inr ⟨x', y', by rw [h1]; rfl, h2, h3.ki hi⟩
/-- A question is opened. -/
theorem setOpen (h : TrM w B bt bm vo vh vg t) {vo' : Value} {q : Qn} (hG : Grw w w' vo vo') (hO : shQ.O w' B tQ vo' (t.op ++ [q])) (hq : qOk q) (hn : q ∉ t.op) :
    TrM (w'.setCell ⟨bt, 5, none⟩ vo') B bt bm vo' vh vg { t with qs := t.qs ++ [(q, none)] } ∧ Keeps [bt] w' (w'.setCell ⟨bt, 5, none⟩ vo') ∧ KI w w' ∧ KI w' (w'.setCell ⟨bt, 5, none⟩ vo') := by
  obtain ⟨n1, n2, n3, n4⟩ := h.ne_bt
  obtain ⟨X0, hX0, hX0L⟩ := h.hi
  obtain ⟨R, hR, hRL⟩ := h.mp
  have hk := hG.keepsO
  have hi : KI w w' := hk.ki (fun b hb cs f e => by
    obtain ⟨cs', hc⟩ := h.op.tag b (by simpa using hb)
    exact tag_ne hc e (by decide) rfl)
  have hne : ∀ (e : TypeId) (b : Nat) (cs : Array Value), w.heap[b]? = some (Obj.cells cs e (0, 0)) → tQ ≠ e → b ∉ vo.ownBlock.toList := fun e b cs hb hn hm => by
    obtain ⟨cs', hc⟩ := h.op.tag b (by simpa using hm)
    exact tag_ne hc hb hn rfl
  have hblk : w'.heap[bt]? = _ := (hk.block bt h.lt.1 (hne _ _ _ h.blk (by decide))).trans h.blk
  have hhi : shA.O w' B tA vh X0 := hX0.keepS hk (fun b hb e => by obtain ⟨cs, hc⟩ := hX0.tag b e; exact hne _ _ _ hc (by decide) hb)
  have hag : shZ.O w' B 3 vg t.ag := h.ag.keepS hk (fun b hb e => by obtain ⟨cs, hc⟩ := h.ag.tag b e; exact hne _ _ _ hc (by decide) hb)
  have hR' : MapS.M ktQ aV w' bm R := hR.kept ktQ hk (fun hm => by
    obtain ⟨cs', hc⟩ := h.op.tag bm (by simpa using hm)
    obtain ⟨es, c, hmm⟩ := hR.isMap
    rw [hc] at hmm; cases hmm)
  obtain ⟨hk2, hi2⟩ := Keeps.setT (o := 5) hblk vo'
  have hnv : vo'.ownBlock ≠ some bt := fun e => by
    obtain ⟨cs, hc⟩ := hO.tag bt e
    exact tag_ne hblk hc (by decide) rfl
  have hrec : recOf (t.qs ++ [(q, none)]) = recOf t.qs := by unfold recOf; simp
  refine ⟨⟨?_, ?_, ⟨X0, hhi.keepS hk2 (by simpa using n3), (hX0L.ki hi).ki hi2⟩, hag.keepS hk2 (by simpa using n4), ⟨R, hR'.kept ktQ hk2 (by simpa using n1), ?_⟩, ?_, h.bB⟩, hk2, hi, hi2⟩
  · have := setCs hblk 5 vo'
    simpa using this
  · have := hO.keepS hk2 (by simpa using hnv)
    simpa [Tr.op] using this
  · simp only [Tr.rec']; rw [hrec]; exact (hRL.ki hi).ki hi2
  · refine ⟨fun p hp => ?_, ?_, ?_, ?_, h.inv.hi, ?_⟩
    · simp only [Tr.op, List.map_append, List.mem_append] at hp
      rcases hp with hp | hp
      · exact h.inv.ok p hp
      · simp at hp; subst hp; exact hq
    · simp only [Tr.op, List.map_append]
      rw [List.nodup_append]
      exact ⟨h.inv.nd, by simp, fun a ha b hb e => by simp at hb; subst hb; subst e; exact hn ha⟩
    · simp only [Tr.rec']; rw [hrec]; exact h.inv.rq
    · simp only [Tr.rec']; rw [hrec]; exact h.inv.rk
    · simp only [Tr.rec']; rw [hrec]; exact h.inv.ro
end TrM
/-- What a step leaves, and which blocks it then writes. -/
structure Mv (S S' : List Nat) (w w' : World) : Prop where
  k : Keeps S w w'
  i : KI w w'
  s : ∀ b ∈ S', b ∈ S ∨ w.heap.size ≤ b
theorem Mv.trans {S S' S'' : List Nat} {a b c : World} (h : Mv S S' a b) (g : Mv S' S'' b c) : Mv S S'' a c :=
  ⟨h.k.fresh g.k h.s, h.i.trans g.i, fun x hx => (g.s x hx).elim (h.s x) (fun hle => .inr (Nat.le_trans h.k.size hle))⟩
theorem Mv.nil {S : List Nat} {w w' : World} (h : Keeps [] w w') : Mv S S w w' := ⟨h.of_nil, h.ki0, fun _ hb => .inl hb⟩
namespace TrM
variable {w w' : World} {B bt bm : Nat} {vo vh vg : Value} {t : Tr}
theorem mvSet (h : TrM w B bt bm vo vh vg t) (o : Nat) (v : Value) : Mv (ownT bt bm vo vh vg) (ownT bt bm vo vh vg) w (w.setCell ⟨bt, o, none⟩ v) := by
  obtain ⟨hk, hi⟩ := Keeps.setT (o := o) h.blk v
  exact ⟨hk.mono (fun b hb => by simp at hb; subst hb; exact mem_ownT.2 (.inl rfl)), hi, fun _ hb => .inl hb⟩
theorem mvHist {vh' : Value} {X : List AnV} {a : Ans} (h : TrM w B bt bm vo vh vg t) (hG : Grw w w' vh vh') (hO : shA.O w' B tA vh' X) (hL : LA w' X (t.hist ++ [a])) (ha : a.Ok) :
    Mv (ownT bt bm vo vh vg) (ownT bt bm vo vh' vg) w (w'.setCell ⟨bt, 8, none⟩ vh') := by
  obtain ⟨_, hk, hi, hi2⟩ := h.setHist hG hO hL ha
  refine ⟨(hG.keepsO.mono (fun b hb => mem_ownT.2 (.inr (.inr (.inr (.inl (by simpa using hb))))))).trans (hk.mono (fun b hb => by simp at hb; subst hb; exact mem_ownT.2 (.inl rfl))), hi.trans hi2, fun b hb => ?_⟩
  rcases mem_ownT.1 hb with e | e | e | e | e
  · exact .inl (mem_ownT.2 (.inl e))
  · exact .inl (mem_ownT.2 (.inr (.inl e)))
  · exact .inl (mem_ownT.2 (.inr (.inr (.inl e))))
  · rcases hG.own with e2 | ⟨k, e2, hle⟩
    · exact .inl (mem_ownT.2 (.inr (.inr (.inr (.inl (e2 ▸ e))))))
    · rw [e2] at e; cases e; exact .inr hle
  · exact .inl (mem_ownT.2 (.inr (.inr (.inr (.inr e)))))
theorem mvRec {a : Ans} {x : AnV} {R : List (Qn × AnV)} (h : TrM w B bt bm vo vh vg t) (hR : MapS.M ktQ aV w bm R) (hRL : LR w R t.rec') (ho : isOpen a.q t.qs = true) (hk : Keeps [bm] w w') (hM : MapS.M ktQ aV w' bm (R ++ [(a.q, x)])) (hx : InA w x a) (ha : a.Ok) (hkn : a.kn = true) :
    Mv (ownT bt bm vo vh vg) (ownT bt bm vo vh vg) w w' := 
  ⟨hk.mono (fun b hb => by simp at hb; subst hb; exact mem_ownT.2 (.inr (.inl rfl))), (h.setRec hR hRL ho hk hM hx ha hkn).2, fun _ hb => .inl hb⟩
theorem mvOpen {vo' : Value} {q : Qn} (h : TrM w B bt bm vo vh vg t) (hG : Grw w w' vo vo') (hO : shQ.O w' B tQ vo' (t.op ++ [q])) (hq : qOk q) (hn : q ∉ t.op) :
    Mv (ownT bt bm vo vh vg) (ownT bt bm vo' vh vg) w (w'.setCell ⟨bt, 5, none⟩ vo') := by
  obtain ⟨_, hk, hi, hi2⟩ := h.setOpen hG hO hq hn
  refine ⟨(hG.keepsO.mono (fun b hb => mem_ownT.2 (.inr (.inr (.inl (by simpa using hb)))))).trans (hk.mono (fun b hb => by simp at hb; subst hb; exact mem_ownT.2 (.inl rfl))), hi.trans hi2, fun b hb => ?_⟩
  rcases mem_ownT.1 hb with e | e | e | e | e
  · exact .inl (mem_ownT.2 (.inl e))
  · exact .inl (mem_ownT.2 (.inr (.inl e)))
  · rcases hG.own with e2 | ⟨k, e2, hle⟩
    · exact .inl (mem_ownT.2 (.inr (.inr (.inl (e2 ▸ e)))))
    · rw [e2] at e; cases e; exact .inr hle
  · exact .inl (mem_ownT.2 (.inr (.inr (.inr (.inl e)))))
  · exact .inl (mem_ownT.2 (.inr (.inr (.inr (.inr e)))))
end TrM
end Go.Proofs.YtpobepninifenaaGreat
