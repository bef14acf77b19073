/- Texts that the laws lean on, in the order in which they build. The comparisons of package certificate; the sort of needs. (Printed by mkctc.py.) Identities, needs and answers among a law's arguments, opened. The specification's trace: its value, what it says; New, answered, index. The specification's less, lastUse, out. The specification's comparisons of needs and of claims. append(append(append([]E{}, ..), x), ..) in one region that draws its order: the facts of its operations. Of whatever program. The specification's Sorted. The specification's ClaimsOf. Trace.Claim, pending, Refuse. The specification's Claims and Claim. The cells of a block; blocks made one after the other. Trace.Certificate. (Printed by mktrcert.py.) A certificate among a law's arguments, opened. Package certificate: increasing, at answers and at claims. Package certificate: increasing at claims, short. Package certificate: formed. The keys of package certificate: stubs, scions, numbers. (Printed by mkctt.py.) The claims that follow from answers, as certificate.claims gathers them (plain). -/
import Derived.Test.YtiplgpefapeapaaGreatE4
import Derived.Laws.Rows
import Derived.Deep.CutRange
set_option linter.unusedVariables false
set_option linter.unusedSimpArgs false
namespace Go.Proofs.YtiplgpefapeapaaGreat
open Go.RowKit Go.Sort Go.Shelf Go.Proofs

theorem keeps_grow (w : World) (q : Nat) (os : Array Obj) : Keeps [] w (Sort.grow (w.drewN q) os) := by
  refine ⟨rfl, rfl, rfl, ?_, fun k hk _ => ?_⟩
  · simp [Sort.grow]
  · simp only [Sort.grow]
    rw [Array.getElem?_append_left (by simpa using hk)]
    rfl
set_option maxRecDepth 100000 in
set_option maxHeartbeats 2000000 in
theorem cmpN_c (x y : T3) (w : World) : Calls Tryz.prog 105 #[tV x, tV y] w fun e w' => e = .returned (.int .i64 (cfT x y)) ∧ ∃ q os, w' = grow (w.drewN q) os := by
  obtain ⟨x0, x1, x2⟩ := x
  obtain ⟨y0, y1, y2⟩ := y
  obtain ⟨r, hr⟩ : ∃ r, cfT (x0, x1, x2) (y0, y1, y2) = r := ⟨_, rfl⟩
  rw [hr]
  replace hr := Lib.hid hr
  have hk2 : Keeps [] (w.alloc (.cells #[.int .i64 x0, .int .u64 x1, .int .i64 x2] tN)) ((w.alloc (.cells #[.int .i64 x0, .int .u64 x1, .int .i64 x2] tN)).alloc (.cells #[.int .i64 y0, .int .u64 y1, .int .i64 y2] tN)) := (Keeps.refl _ _).alloc _
  have b1 := (hk2.block w.heap.size (by simp) (by simp)).trans (heap_alloc_new w (.cells #[.int .i64 x0, .int .u64 x1, .int .i64 x2] tN))
  have b2 := heap_alloc_new (w.alloc (.cells #[.int .i64 x0, .int .u64 x1, .int .i64 x2] tN)) (.cells #[.int .i64 y0, .int .u64 y1, .int .i64 y2] tN)
  rw [show (w.alloc (.cells #[.int .i64 x0, .int .u64 x1, .int .i64 x2] tN)).heap.size = w.heap.size + 1 by simp] at b2
  have hgr : (w.alloc (.cells #[.int .i64 x0, .int .u64 x1, .int .i64 x2] tN)).alloc (.cells #[.int .i64 y0, .int .u64 y1, .int .i64 y2] tN) = grow w #[.cells #[.int .i64 x0, .int .u64 x1, .int .i64 x2] tN, .cells #[.int .i64 y0, .int .u64 y1, .int .i64 y2] tN] := by
    rw [alloc_eq_grow, alloc_eq_grow, grow_grow]; rfl
  replace hgr := Lib.hid hgr
  go_enter Tryz.func105, Tryz.ntmps105
  go_wp2
  generalize (w.alloc (.cells #[.int .i64 x0, .int .u64 x1, .int .i64 x2] tN)).alloc (.cells #[.int .i64 y0, .int .u64 y1, .int .i64 y2] tN) = W at *
  obtain ⟨p0, p1, _⟩ := cells3t b1
  obtain ⟨s0, s1, _⟩ := cells3t b2
  clear b1 b2 hk2
  refine Free.wp_region_chain (fun i => i == 4 || i == 9 || i == 10 || i == 11) (fun i => true) (fun _ _ => False) (by kernel_rfl) (by kernel_rfl) (by kernel_rfl) ?_
  (repeat (first | (apply Free.cw_pure rfl rfl; (intro w'; go_simp <;> exact rfl); go_frame) | (apply Free.cw_steady rfl rfl rfl; (intro w' hS; have q0 := Free.sx_cell hS p0 (fun _ _ hT => hT); have q1 := Free.sx_cell hS p1 (fun _ _ hT => hT); have q2 := Free.sx_cell hS s0 (fun _ _ hT => hT); have q3 := Free.sx_cell hS s1 (fun _ _ hT => hT); go_simp <;> exact rfl); go_frame) | (refine Free.cw_skip rfl ?_; go_frame)))
  refine Free.cw_loud rfl rfl (fun K hK => ?_)
  go_wp2_with fail
  refine (compareI_c x0 y0 _).mono ?_
  rintro e _ ⟨rfl, rfl⟩
  refine hK _ _ rfl (Free.KeepsP.refl _ _) ?_
  clear hK K
  (repeat (first | (apply Free.cw_pure rfl rfl; (intro w'; go_simp <;> exact rfl); go_frame) | (apply Free.cw_steady rfl rfl rfl; (intro w' hS; have q0 := Free.sx_cell hS p0 (fun _ _ hT => hT); have q1 := Free.sx_cell hS p1 (fun _ _ hT => hT); have q2 := Free.sx_cell hS s0 (fun _ _ hT => hT); have q3 := Free.sx_cell hS s1 (fun _ _ hT => hT); go_simp <;> exact rfl); go_frame) | (refine Free.cw_skip rfl ?_; go_frame)))
  refine Free.cw_loud rfl rfl (fun K hK => ?_)
  go_wp2_with fail
  refine (compareU_c x1 y1 _).mono ?_
  rintro e _ ⟨rfl, rfl⟩
  refine hK _ _ rfl (Free.KeepsP.refl _ _) ?_
  clear hK K
  (repeat (first | (apply Free.cw_pure rfl rfl; (intro w'; go_simp <;> exact rfl); go_frame) | (apply Free.cw_steady rfl rfl rfl; (intro w' hS; have q0 := Free.sx_cell hS p0 (fun _ _ hT => hT); have q1 := Free.sx_cell hS p1 (fun _ _ hT => hT); have q2 := Free.sx_cell hS s0 (fun _ _ hT => hT); have q3 := Free.sx_cell hS s1 (fun _ _ hT => hT); go_simp <;> exact rfl); go_frame) | (refine Free.cw_skip rfl ?_; go_frame)))
  refine Free.cw_loud rfl rfl (fun K hK => ?_)
  go_wp2
  refine hK _ _ rfl (Free.KeepsP.alloc _ _ _) ?_
  clear hK K
  (repeat (apply Free.cw_pure rfl rfl; (intro w'; go_simp <;> exact rfl); go_frame))
  refine Free.cw_loud rfl rfl (fun K hK => ?_)
  go_wp2_with fail
  refine (or_c _ _ _ ((shZ_of2 W (cI x0 y0) (cI x1 y1) 3).keeps ((Keeps.refl [] _).drew))).mono ?_
  rintro e _ ⟨rfl, rfl⟩
  refine hK _ _ rfl (Free.KeepsP.refl _ _) ?_
  clear hK K
  (repeat (apply Free.cw_pure rfl rfl; (intro w'; go_simp <;> exact rfl); go_frame))
  refine Free.cw_nil ?_
  go_wp2
  go_ret
  exact ⟨by rw [← hr.out]; rfl, 1, _, by rw [hgr.out, alloc_eq_grow, grow_grow]; rfl⟩
set_option maxRecDepth 100000 in
set_option maxHeartbeats 2000000 in
theorem cmpB_c (x y : AnV) (w : World) : Calls Tryz.prog 100 #[aV x, aV y] w fun e w' => e = .returned (.int .i64 (cfA x y)) ∧ ∃ q os, w' = grow (w.drewN q) os := by
  obtain ⟨r, hr⟩ : ∃ r, cfA x y = r := ⟨_, rfl⟩
  rw [hr]
  obtain ⟨x0, x1, x2, x3, x4, x5, x6, x7, x8, x9⟩ := x
  obtain ⟨y0, y1, y2, y3, y4, y5, y6, y7, y8, y9⟩ := y
  replace hr := Lib.hid hr
  have hk2 : Keeps [] (w.alloc (.cells #[.int .i64 x0, .int .i64 x1, .int .u64 x2, .int .i64 x3, .bool x4, .bool x5, .int .i64 x6, .slice x7 x8 x9] tA)) ((w.alloc (.cells #[.int .i64 x0, .int .i64 x1, .int .u64 x2, .int .i64 x3, .bool x4, .bool x5, .int .i64 x6, .slice x7 x8 x9] tA)).alloc (.cells #[.int .i64 y0, .int .i64 y1, .int .u64 y2, .int .i64 y3, .bool y4, .bool y5, .int .i64 y6, .slice y7 y8 y9] tA)) := (Keeps.refl _ _).alloc _
  have b1 := (hk2.block w.heap.size (by simp) (by simp)).trans (heap_alloc_new w (.cells #[.int .i64 x0, .int .i64 x1, .int .u64 x2, .int .i64 x3, .bool x4, .bool x5, .int .i64 x6, .slice x7 x8 x9] tA))
  have b2 := heap_alloc_new (w.alloc (.cells #[.int .i64 x0, .int .i64 x1, .int .u64 x2, .int .i64 x3, .bool x4, .bool x5, .int .i64 x6, .slice x7 x8 x9] tA)) (.cells #[.int .i64 y0, .int .i64 y1, .int .u64 y2, .int .i64 y3, .bool y4, .bool y5, .int .i64 y6, .slice y7 y8 y9] tA)
  rw [show (w.alloc (.cells #[.int .i64 x0, .int .i64 x1, .int .u64 x2, .int .i64 x3, .bool x4, .bool x5, .int .i64 x6, .slice x7 x8 x9] tA)).heap.size = w.heap.size + 1 by simp] at b2
  have hgr : (w.alloc (.cells #[.int .i64 x0, .int .i64 x1, .int .u64 x2, .int .i64 x3, .bool x4, .bool x5, .int .i64 x6, .slice x7 x8 x9] tA)).alloc (.cells #[.int .i64 y0, .int .i64 y1, .int .u64 y2, .int .i64 y3, .bool y4, .bool y5, .int .i64 y6, .slice y7 y8 y9] tA) = grow w #[.cells #[.int .i64 x0, .int .i64 x1, .int .u64 x2, .int .i64 x3, .bool x4, .bool x5, .int .i64 x6, .slice x7 x8 x9] tA, .cells #[.int .i64 y0, .int .i64 y1, .int .u64 y2, .int .i64 y3, .bool y4, .bool y5, .int .i64 y6, .slice y7 y8 y9] tA] := by
    rw [alloc_eq_grow, alloc_eq_grow, grow_grow]; rfl
  replace hgr := Lib.hid hgr
  simp only [aV, AnV.v]
  go_enter Tryz.func100, Tryz.ntmps100
  go_wp2
  generalize (w.alloc (.cells #[.int .i64 x0, .int .i64 x1, .int .u64 x2, .int .i64 x3, .bool x4, .bool x5, .int .i64 x6, .slice x7 x8 x9] tA)).alloc (.cells #[.int .i64 y0, .int .i64 y1, .int .u64 y2, .int .i64 y3, .bool y4, .bool y5, .int .i64 y6, .slice y7 y8 y9] tA) = W at *
  obtain ⟨p0, p1, p2⟩ := cells8t b1
  obtain ⟨s0, s1, s2⟩ := cells8t b2
  clear b1 b2 hk2
  refine Free.wp_region_chain (fun i => i == 4 || i == 9 || i == 14 || i == 15 || i == 16) (fun i => true) (fun _ _ => False) (by kernel_rfl) (by kernel_rfl) (by kernel_rfl) ?_
  (repeat (first | (apply Free.cw_pure rfl rfl; (intro w'; go_simp <;> exact rfl); go_frame) | (apply Free.cw_steady rfl rfl rfl; (intro w' hS; have q0 := Free.sx_cell hS p0 (fun _ _ hT => hT); have q1 := Free.sx_cell hS p1 (fun _ _ hT => hT); have q2 := Free.sx_cell hS p2 (fun _ _ hT => hT); have q3 := Free.sx_cell hS s0 (fun _ _ hT => hT); have q4 := Free.sx_cell hS s1 (fun _ _ hT => hT); have q5 := Free.sx_cell hS s2 (fun _ _ hT => hT); go_simp <;> exact rfl); go_frame) | (refine Free.cw_skip rfl ?_; go_frame)))
  refine Free.cw_loud rfl rfl (fun K hK => ?_)
  go_wp2_with fail
  refine (compareI_c x0 y0 _).mono ?_
  rintro e _ ⟨rfl, rfl⟩
  refine hK _ _ rfl (Free.KeepsP.refl _ _) ?_
  clear hK K
  (repeat (first | (apply Free.cw_pure rfl rfl; (intro w'; go_simp <;> exact rfl); go_frame) | (apply Free.cw_steady rfl rfl rfl; (intro w' hS; have q0 := Free.sx_cell hS p0 (fun _ _ hT => hT); have q1 := Free.sx_cell hS p1 (fun _ _ hT => hT); have q2 := Free.sx_cell hS p2 (fun _ _ hT => hT); have q3 := Free.sx_cell hS s0 (fun _ _ hT => hT); have q4 := Free.sx_cell hS s1 (fun _ _ hT => hT); have q5 := Free.sx_cell hS s2 (fun _ _ hT => hT); go_simp <;> exact rfl); go_frame) | (refine Free.cw_skip rfl ?_; go_frame)))
  refine Free.cw_loud rfl rfl (fun K hK => ?_)
  go_wp2_with fail
  refine (compareI_c x1 y1 _).mono ?_
  rintro e _ ⟨rfl, rfl⟩
  refine hK _ _ rfl (Free.KeepsP.refl _ _) ?_
  clear hK K
  (repeat (first | (apply Free.cw_pure rfl rfl; (intro w'; go_simp <;> exact rfl); go_frame) | (apply Free.cw_steady rfl rfl rfl; (intro w' hS; have q0 := Free.sx_cell hS p0 (fun _ _ hT => hT); have q1 := Free.sx_cell hS p1 (fun _ _ hT => hT); have q2 := Free.sx_cell hS p2 (fun _ _ hT => hT); have q3 := Free.sx_cell hS s0 (fun _ _ hT => hT); have q4 := Free.sx_cell hS s1 (fun _ _ hT => hT); have q5 := Free.sx_cell hS s2 (fun _ _ hT => hT); go_simp <;> exact rfl); go_frame) | (refine Free.cw_skip rfl ?_; go_frame)))
  refine Free.cw_loud rfl rfl (fun K hK => ?_)
  go_wp2_with fail
  refine (compareU_c x2 y2 _).mono ?_
  rintro e _ ⟨rfl, rfl⟩
  refine hK _ _ rfl (Free.KeepsP.refl _ _) ?_
  clear hK K
  (repeat (apply Free.cw_pure rfl rfl; (intro w'; go_simp <;> exact rfl); go_frame))
  refine Free.cw_loud rfl rfl (fun K hK => ?_)
  go_wp2
  refine hK _ _ rfl (Free.KeepsP.alloc _ _ _) ?_
  clear hK K
  (repeat (apply Free.cw_pure rfl rfl; (intro w'; go_simp <;> exact rfl); go_frame))
  refine Free.cw_loud rfl rfl (fun K hK => ?_)
  go_wp2_with fail
  refine (or_c _ _ _ ((shZ_of3 W (cI x0 y0) (cI x1 y1) (cI x2 y2) 3).keeps ((Keeps.refl [] _).drew))).mono ?_
  rintro e _ ⟨rfl, rfl⟩
  refine hK _ _ rfl (Free.KeepsP.refl _ _) ?_
  clear hK K
  (repeat (apply Free.cw_pure rfl rfl; (intro w'; go_simp <;> exact rfl); go_frame))
  refine Free.cw_nil ?_
  go_wp2
  go_ret
  exact ⟨by rw [← hr.out]; rfl, 1, _, by rw [hgr.out, alloc_eq_grow, grow_grow]; rfl⟩
/-- slices.SortFunc over needs. -/
theorem sortN_c (w : World) (B : Nat) (v : Value) (L : List T3) (h : shT.O w B tN v L) (hl : L.length ≤ 1000000000000) :
    Calls Tryz.prog 89 #[v, .func (.func 105) #[] #[]] w fun e w' => e = .returned (.tuple #[]) ∧ ∃ L', L'.Perm L ∧ L'.Pairwise (fun x y => ¬ tlt y x) ∧ shT.O w' B tN v L' ∧ Keeps v.ownBlock.toList w w' := by
  obtain ⟨_, h2⟩ := id h
  rcases h2 with ⟨rfl, h0⟩ | ⟨g, cap, cur, rfl, hb, hg, _⟩
  · have hL : L = [] := by
      cases L with
      | nil => rfl
      | cons x t => simp [Sh.cs, shT] at h0
    subst hL
    refine (AnyF.slices_SortFunc_none Tryz.sortNeed none 0 (.func (.func 105) #[] #[]) w).mono ?_
    rintro e w' ⟨rfl, rfl⟩
    exact ⟨rfl, [], List.Perm.refl _, List.Pairwise.nil, h, Keeps.refl _ _⟩
  · have hgl : g < w.heap.size := (Array.getElem?_eq_some_iff.1 hg).1
    have eg : ∀ args w, (callFunc 105 args).run Tryz.prog w = .ok (.enter 105 args) w := enters_of Tryz.func105 (by kernel_rfl) rfl
    have hcmp : CmpLays Tryz.prog 105 #[] shT.cf 3 cfT g 0 L.toArray.size w := fun m os dk hs x y => cmpN_c x y _
    have hcon := AnyQ.slices_SortFunc Tryz.sortNeed 3 (fun w => by kernel_rfl) (fun w => by kernel_rfl) shT.cf shT.len shT.one cfT swoT 105 #[] g 0 cap L.toArray w eg hcmp h.holds hgl (by simp; omega)
    simp only [List.size_toArray] at hcon
    refine hcon.mono ?_
    rintro e w' ⟨rfl, d', m, os, hp, hs, rfl⟩
    have hp' : PermIn 0 L.toArray.size L.toArray d' := by simpa using hp
    obtain ⟨hd, hpl⟩ := Sh.perm_of_permIn hp'
    have hd2 : d'.size = L.length := by simpa using hd
    rw [← hd2] at hs
    have hpw := Sh.pairwise_of_sortedIn hs
    obtain ⟨h3, h4⟩ := Sh.O.sorted (m := m) (os := os) h hd2
    exact ⟨rfl, d'.toList, by simpa using hpl, hpw.imp (fun h => by rw [ltT_iff] at h; exact of_decide_eq_false h), h3, h4⟩
set_option maxRecDepth 100000 in
set_option maxHeartbeats 2000000 in
theorem cmpC_c (x y : ClV) (w : World) : Calls Tryz.prog 102 #[.agg #[.int .i64 x.m, .int .i64 x.ep, slv x.v1, slv x.v2, slv x.v3], .agg #[.int .i64 y.m, .int .i64 y.ep, slv y.v1, slv y.v2, slv y.v3]] w fun e w' => e = .returned (.int .i64 (cI x.m y.m)) ∧ Keeps [] w w' := by
  obtain ⟨x0, x1, ⟨x2, x3, x4⟩, ⟨x5, x6, x7⟩, ⟨x8, x9, x10⟩⟩ := x
  obtain ⟨y0, y1, ⟨y2, y3, y4⟩, ⟨y5, y6, y7⟩, ⟨y8, y9, y10⟩⟩ := y
  simp only [slv]
  have hkA : Keeps [] w ((w.alloc (.cells #[.int .i64 x0, .int .i64 x1, .slice x2 x3 x4, .slice x5 x6 x7, .slice x8 x9 x10] tC)).alloc (.cells #[.int .i64 y0, .int .i64 y1, .slice y2 y3 y4, .slice y5 y6 y7, .slice y8 y9 y10] tC)) := ((Keeps.refl [] w).alloc _).alloc _
  replace hkA := Lib.hid hkA
  go_enter Tryz.func102, Tryz.ntmps102
  go_wp2_with fail
  refine (compareI_c x0 y0 _).mono ?_
  rintro e _ ⟨rfl, rfl⟩
  go_wp2
  go_ret
  exact ⟨rfl, hkA.out⟩
set_option maxRecDepth 100000 in
set_option maxHeartbeats 1000000 in
theorem mach_c (n : Int) (w : World) : Calls Tryz.prog 97 #[.int .i64 n] w fun e w' => e = .returned (.bool (mach n)) ∧ w = w' := by
  obtain ⟨r, hr⟩ : ∃ r, mach n = r := ⟨_, rfl⟩
  rw [hr]
  unfold mach at hr
  by_cases h1 : 1 ≤ n
  · have h1d : decide (1 ≤ n) = true := by simpa using h1
    have hd : decide (n ≤ 8) = r := by rw [← hr, h1d]; rfl
    replace hr := Lib.hid hr
    go_enter Tryz.func97, Tryz.ntmps97
    go_wp2
    go_ret
    exact ⟨by rw [← hd]; rfl, rfl⟩
  · have h1d : decide (1 ≤ n) = false := by simpa using h1
    have hd : false = r := by rw [← hr, h1d]; rfl
    replace hr := Lib.hid hr
    replace hd := Lib.hid hd
    go_enter Tryz.func97, Tryz.ntmps97
    go_wp2
    go_ret
    exact ⟨by rw [← hd.out]; rfl, rfl⟩
end Go.Proofs.YtiplgpefapeapaaGreat

namespace Go.Proofs.YtiplgpefapeapaaGreat
open Go.ChangeShapes Go.WideShapes Go.ChangeAt Go.RowKit

/-- Numbers that fit. -/
structure Ans.Fit (a : Ans) : Prop where
  q : qOk a.q
  ep : W64 a.ep
  lu : W64 a.lu
  ins : ∀ x ∈ a.ins, W64 x.1 ∧ x.2.1 < 18446744073709551616 ∧ W64 x.2.2
theorem Ans.Fit.ok {a : Ans} (h : a.Fit) (hl : a.ins.length ≤ 100000) : a.Ok := ⟨h.q, h.ep, h.lu, h.ins, hl⟩
/-- The cells of an answer. -/
def AnC (w : World) (cs : List Value) (y : Ans) : Prop := ∃ x : AnV, cs = x.cs ∧ InR w x y ∧ y.Fit
theorem AnC.keeps {w w' : World} {cs : List Value} {y : Ans} (h : AnC w cs y) (hk : Keeps [] w w') : AnC w' cs y := by
  obtain ⟨x, h1, h2, h3⟩ := h
  exact ⟨x, h1, h2.keep hk (by simp), h3⟩
theorem u64_wf {z : Int} (h : (Lit.int .u64 z).wf = true) : ∃ n : Nat, z = n ∧ n < 18446744073709551616 := by
  have hb : 0 ≤ z ∧ z ≤ 18446744073709551615 := by simpa [Lit.wf, IntKind.min, IntKind.max, IntKind.signed, IntKind.bits] using h
  exact ⟨z.toNat, by omega, by omega⟩
theorem w64_wf {x : Int} (h : (Lit.int .i64 x).wf = true) : W64 x := by simpa [W64, Lit.wf, IntKind.min, IntKind.max, IntKind.signed, IntKind.bits] using h
set_option maxRecDepth 100000 in
set_option maxHeartbeats 1000000 in
theorem cs_tid {w : World} {cs : List Value} (h : Gen.Cs Tryz.prog w 25 cs) : ∃ a s, cs = [.int .i64 a, .int .i64 s] ∧ W64 a ∧ W64 s := by
  obtain ⟨hl, hall⟩ := Gen.Cs.struct Tryz.underlying25 h
  rw [show Tryz.prog.cellsOf 25 = 2 by kernel_rfl] at hl
  obtain ⟨a, b, rfl⟩ : ∃ a b, cs = [a, b] := by
    match cs, hl with
    | [a, b], _ => exact ⟨a, b, rfl⟩
  have h0 := hall 0 _ rfl
  have h1 := hall 1 _ rfl
  replace h0 : Gen.Cs Tryz.prog w 3 (([a, b].drop 0).take (Tryz.prog.cellsOf 3)) := h0
  replace h1 : Gen.Cs Tryz.prog w 3 (([a, b].drop 1).take (Tryz.prog.cellsOf 3)) := h1
  rw [show Tryz.prog.cellsOf 3 = 1 by kernel_rfl] at h0 h1
  obtain ⟨k, hk, wk⟩ := Gen.Cs.int Tryz.underlying3 h0
  obtain ⟨n, hn, wn⟩ := Gen.Cs.int Tryz.underlying3 h1
  simp at hk hn
  subst hk hn
  exact ⟨k, n, rfl, w64_wf wk, w64_wf wn⟩
set_option maxRecDepth 100000 in
set_option maxHeartbeats 1000000 in
theorem cs_t3 {w : World} {t : TypeId} {fs : Array Field} (ht : Tryz.prog.underlying t = some (.struct fs)) (hc : Tryz.prog.cellsOf t = 3) (hf : fs.toList.map (fun f => (f.type, f.offset)) = [(3, 0), (26, 1), (3, 2)]) {cs : List Value} (h : Gen.Cs Tryz.prog w t cs) :
    ∃ (x : T3), cs = shT.cf x ∧ W64 x.1 ∧ x.2.1 < 18446744073709551616 ∧ W64 x.2.2 := by
  obtain ⟨hl, hall⟩ := Gen.Cs.struct ht h
  rw [hc] at hl
  obtain ⟨f0, f1, f2, hfs⟩ : ∃ f0 f1 f2, fs = #[f0, f1, f2] := by
    obtain ⟨l⟩ := fs
    have hl := congrArg List.length hf
    simp only [List.length_map, List.length_cons, List.length_nil] at hl
    match l, hl with
    | [f0, f1, f2], _ => exact ⟨f0, f1, f2, rfl⟩
  subst hfs
  simp only [List.map_cons, List.map_nil, List.cons.injEq, Prod.mk.injEq, and_true] at hf
  obtain ⟨⟨t0, o0⟩, ⟨t1, o1⟩, t2, o2⟩ := hf
  obtain ⟨a, b, c, rfl⟩ : ∃ a b c, cs = [a, b, c] := by
    match cs, hl with
    | [a, b, c], _ => exact ⟨a, b, c, rfl⟩
  have h0 := hall 0 f0 rfl
  have h1 := hall 1 f1 rfl
  have h2 := hall 2 f2 rfl
  rw [t0, o0, show Tryz.prog.cellsOf 3 = 1 by kernel_rfl] at h0
  rw [t1, o1, show Tryz.prog.cellsOf 26 = 1 by kernel_rfl] at h1
  rw [t2, o2, show Tryz.prog.cellsOf 3 = 1 by kernel_rfl] at h2
  obtain ⟨k, hk, wk⟩ := Gen.Cs.int Tryz.underlying3 h0
  obtain ⟨n, hn, wn⟩ := Gen.Cs.int Tryz.underlying26 h1
  obtain ⟨m, hm, wm⟩ := Gen.Cs.int Tryz.underlying3 h2
  obtain ⟨n2, en, wn2⟩ := u64_wf wn
  rw [en] at hn
  simp at hk hn hm
  subst hk hn hm
  exact ⟨(k, n2, m), rfl, w64_wf wk, wn2, w64_wf wm⟩
set_option maxRecDepth 100000 in
set_option maxHeartbeats 1000000 in
theorem cs_need {w : World} {cs : List Value} (h : Gen.Cs Tryz.prog w tN cs) : ∃ (x : T3), cs = shT.cf x ∧ W64 x.1 ∧ x.2.1 < 18446744073709551616 ∧ W64 x.2.2 := cs_t3 Tryz.underlying28 (by kernel_rfl) rfl h
set_option maxRecDepth 100000 in
set_option maxHeartbeats 1000000 in
theorem cs_ins {w : World} {cs : List Value} (h : Gen.Cs Tryz.prog w tI cs) : ∃ (x : T3), cs = shT.cf x ∧ W64 x.1 ∧ x.2.1 < 18446744073709551616 ∧ W64 x.2.2 := cs_t3 Tryz.underlying66 (by kernel_rfl) rfl h
set_option maxRecDepth 100000 in
set_option maxHeartbeats 1000000 in
theorem cs_inset {w : World} {v : Value} (h : Gen.Cs Tryz.prog w 44 [v]) : ∃ L : List T3, shT.R w v L ∧ ∀ x ∈ L, W64 x.1 ∧ x.2.1 < 18446744073709551616 ∧ W64 x.2.2 := by
  obtain ⟨L, hL, _⟩ := Gen.SlR.open (R := fun _ cs (x : T3) => cs = shT.cf x ∧ W64 x.1 ∧ x.2.1 < 18446744073709551616 ∧ W64 x.2.2) Tryz.underlying44 (show Tryz.prog.cellsOf tI = 3 by kernel_rfl) (by decide) (fun cs hcs => cs_ins hcs) h
  refine ⟨L, Sh.R.of_slR (s := shT) (fun cs x h => h.1) hL, fun x hx => ?_⟩
  obtain ⟨k, hk, rfl⟩ := List.mem_iff_getElem.1 hx
  obtain ⟨cs, _, h2⟩ := hL
  exact (h2 k hk).2
set_option maxRecDepth 100000 in
set_option maxHeartbeats 1000000 in
theorem cs_ans {w : World} {cs : List Value} (h : Gen.Cs Tryz.prog w tA cs) : ∃ y, AnC w cs y := by
  obtain ⟨hl, hall⟩ := Gen.Cs.struct Tryz.underlying46 h
  rw [show Tryz.prog.cellsOf tA = 8 by kernel_rfl] at hl
  obtain ⟨a, b, c, d, e, f, g, i, rfl⟩ : ∃ a b c d e f g i, cs = [a, b, c, d, e, f, g, i] := by
    match cs, hl with
    | [a, b, c, d, e, f, g, i], _ => exact ⟨a, b, c, d, e, f, g, i, rfl⟩
  have h0 := hall 0 _ rfl
  have h1 := hall 1 _ rfl
  have h2 := hall 2 _ rfl
  have h3 := hall 3 _ rfl
  have h4 := hall 4 _ rfl
  have h5 := hall 5 _ rfl
  have h6 := hall 6 _ rfl
  have h7 := hall 7 _ rfl
  replace h0 : Gen.Cs Tryz.prog w 3 (([a, b, c, d, e, f, g, i].drop 0).take (Tryz.prog.cellsOf 3)) := h0
  replace h1 : Gen.Cs Tryz.prog w 3 (([a, b, c, d, e, f, g, i].drop 1).take (Tryz.prog.cellsOf 3)) := h1
  replace h2 : Gen.Cs Tryz.prog w 26 (([a, b, c, d, e, f, g, i].drop 2).take (Tryz.prog.cellsOf 26)) := h2
  replace h3 : Gen.Cs Tryz.prog w 3 (([a, b, c, d, e, f, g, i].drop 3).take (Tryz.prog.cellsOf 3)) := h3
  replace h4 : Gen.Cs Tryz.prog w 4 (([a, b, c, d, e, f, g, i].drop 4).take (Tryz.prog.cellsOf 4)) := h4
  replace h5 : Gen.Cs Tryz.prog w 4 (([a, b, c, d, e, f, g, i].drop 5).take (Tryz.prog.cellsOf 4)) := h5
  replace h6 : Gen.Cs Tryz.prog w 3 (([a, b, c, d, e, f, g, i].drop 6).take (Tryz.prog.cellsOf 3)) := h6
  replace h7 : Gen.Cs Tryz.prog w 44 (([a, b, c, d, e, f, g, i].drop 7).take (Tryz.prog.cellsOf 44)) := h7
  rw [show Tryz.prog.cellsOf 3 = 1 by kernel_rfl] at h0 h1 h3 h6
  rw [show Tryz.prog.cellsOf 26 = 1 by kernel_rfl] at h2
  rw [show Tryz.prog.cellsOf 4 = 1 by kernel_rfl] at h4 h5
  rw [show Tryz.prog.cellsOf 44 = 1 by kernel_rfl] at h7
  obtain ⟨z0, e0, w0⟩ := Gen.Cs.int Tryz.underlying3 h0
  obtain ⟨z1, e1, w1⟩ := Gen.Cs.int Tryz.underlying3 h1
  obtain ⟨z2, e2, w2⟩ := Gen.Cs.int Tryz.underlying26 h2
  obtain ⟨z3, e3, w3⟩ := Gen.Cs.int Tryz.underlying3 h3
  obtain ⟨z4, e4⟩ := Gen.Cs.bool Tryz.underlying4 h4
  obtain ⟨z5, e5⟩ := Gen.Cs.bool Tryz.underlying4 h5
  obtain ⟨z6, e6, w6⟩ := Gen.Cs.int Tryz.underlying3 h6
  obtain ⟨y2, ey2, wy2⟩ := u64_wf w2
  rw [ey2] at e2
  simp at e0 e1 e2 e3 e4 e5 e6 h7
  subst e0 e1 e2 e3 e4 e5 e6
  obtain ⟨L, hL, hLf⟩ := cs_inset h7
  obtain ⟨x, k, rfl, _⟩ := hL.form
  exact ⟨⟨z0, z1, y2, z3, z4, z5, z6, L⟩, ⟨z0, z1, y2, z3, z4, z5, z6, x, L.length, k⟩, rfl, ⟨rfl, rfl, rfl, rfl, rfl, rfl, rfl, hL⟩, ⟨⟨w64_wf w0, w64_wf w1, wy2⟩, w64_wf w3, w64_wf w6, hLf⟩⟩
end Go.Proofs.YtiplgpefapeapaaGreat

namespace Go.Proofs.YtiplgpefapeapaaGreat
open Go.RowKit

theorem InR.keeps {w w' : World} {x : AnV} {y : Ans} (h : InR w x y) (hk : Keeps [] w w') : InR w' x y := h.keep hk (by simp)
theorem InA.r {w : World} {x : AnV} {y : Ans} (h : InA w x y) : InR w x y := ⟨h.m, h.ow, h.n, h.ep, h.kn, h.rt, h.lu, h.ins.r⟩
def LRd (w : World) (X : List AnV) (Y : List Ans) : Prop := X.length = Y.length ∧ ∀ (k : Nat) (x : AnV) (y : Ans), X[k]? = some x → Y[k]? = some y → InR w x y
theorem LRd.keeps {w w' : World} {X : List AnV} {Y : List Ans} (h : LRd w X Y) (hk : Keeps [] w w') : LRd w' X Y := ⟨h.1, fun k x p h1 h2 => (h.2 k x p h1 h2).keeps hk⟩
end Go.Proofs.YtiplgpefapeapaaGreat

namespace Go.Proofs.YtiplgpefapeapaaGreat
open Go.RowKit

/-- A list of answers that is read. -/
def RdA (w : World) (v : Value) (Y : List Ans) : Prop := ∃ X, shA.R w v X ∧ LRd w X Y
theorem RdA.keeps {w w' : World} {v : Value} {Y : List Ans} (h : RdA w v Y) (hk : Keeps [] w w') : RdA w' v Y := by
  obtain ⟨X, h1, h2⟩ := h
  exact ⟨X, h1.keeps hk, h2.keeps hk⟩
theorem RdA.form {w : World} {v : Value} {Y : List Ans} (h : RdA w v Y) : ∃ a c, v = .slice a Y.length c ∧ Y.length ≤ c ∧ c ≤ maxLen := by
  obtain ⟨X, h1, h2⟩ := h
  obtain ⟨a, c, e, e1, e2, _⟩ := h1.form
  rw [h2.1] at e e1
  exact ⟨a, c, e, e1, e2⟩
theorem RdA.elem {w : World} {v : Value} {Y : List Ans} (h : RdA w v Y) {k : Nat} (hk : k < Y.length) : ∃ g o c x, v = .slice (some ⟨g, o, none⟩) Y.length c ∧ InR w x Y[k] ∧ ∀ j u, x.cs[j]? = some u → w.cell? ⟨g, o + k * 8 + j, none⟩ = some u := by
  obtain ⟨X, h1, h2⟩ := h
  have hkX : k < X.length := by rw [h2.1]; exact hk
  obtain ⟨g, o, c, e, he⟩ := h1.elem hkX
  rw [h2.1] at e
  exact ⟨g, o, c, X[k], e, h2.2 k _ _ (List.getElem?_eq_getElem hkX) (List.getElem?_eq_getElem hk), he⟩
theorem luL_at {Y : List Ans} {q : Qn} {k : Nat} (hk : k < Y.length) (hno : ∀ j (hj : j < Y.length), j < k → Y[j].q ≠ q) (hq : Y[k].q = q) : luL Y q = Y[k].lu := by
  unfold luL
  have : Y.find? (fun a => decide (a.q = q)) = some Y[k] := List.find?_eq_some_iff_getElem.2 ⟨by simpa using hq, k, hk, rfl, fun j hj => by simpa using hno j (by omega) hj⟩
  rw [this]; rfl
theorem luL_no {Y : List Ans} {q : Qn} (hno : ∀ j (hj : j < Y.length), Y[j].q ≠ q) : luL Y q = 0 := by
  unfold luL
  have : Y.find? (fun a => decide (a.q = q)) = none := List.find?_eq_none.2 (fun c hc => by
    obtain ⟨j, hj, rfl⟩ := List.mem_iff_getElem.1 hc
    simpa using hno j hj)
  rw [this]; rfl
end Go.Proofs.YtiplgpefapeapaaGreat

namespace Go.Proofs.YtiplgpefapeapaaGreat
open Go.RowKit

def clV (x : ClV) : Value := .agg #[.int .i64 x.m, .int .i64 x.ep, slv x.v1, slv x.v2, slv x.v3]
/-- The cells of a claim say this claim. -/
structure CR (w : World) (x : ClV) (p : PCl) : Prop where
  m : x.m = p.m
  ep : x.ep = p.ep
  st : shT.R w (slv x.v1) p.st
  sc : shT.R w (slv x.v2) p.sc
  ch : shT.R w (slv x.v3) p.ch
theorem CR.keeps {w w' : World} {x : ClV} {p : PCl} (h : CR w x p) (hk : Keeps [] w w') : CR w' x p := ⟨h.m, h.ep, h.st.keeps hk, h.sc.keeps hk, h.ch.keeps hk⟩
theorem decide_pcl (p q : PCl) : decide (p = q) = (p.m == q.m && (p.ep == q.ep && (decide (p.st = q.st) && (decide (p.sc = q.sc) && decide (p.ch = q.ch))))) := by
  obtain ⟨a, b, c, d, e⟩ := p
  obtain ⟨a', b', c', d', e'⟩ := q
  simp only [PCl.mk.injEq, Bool.decide_and]
  rfl
theorem cells5 {w : World} {b : Nat} {x0 x1 x2 x3 x4 : Value} {t : TypeId} {f : Nat × Nat} (h : w.heap[b]? = some (.cells #[x0, x1, x2, x3, x4] t f)) : w.cell? ⟨b, 0, none⟩ = some x0 ∧ w.cell? ⟨b, 1, none⟩ = some x1 ∧ w.cell? ⟨b, 2, none⟩ = some x2 ∧ w.cell? ⟨b, 3, none⟩ = some x3 ∧ w.cell? ⟨b, 4, none⟩ = some x4 ∧ b < w.heap.size := by
  refine ⟨?_, ?_, ?_, ?_, ?_, lt_of_blk h⟩ <;> simp [World.cell?, h]
/-- A list of claims that is read. -/
def LC (w : World) (v : Value) (P : List PCl) : Prop := ∃ C, shC.R w v C ∧ C.length = P.length ∧ ∀ (k : Nat) (x : ClV) (p : PCl), C[k]? = some x → P[k]? = some p → CR w x p
theorem LC.keeps {w w' : World} {v : Value} {P : List PCl} (h : LC w v P) (hk : Keeps [] w w') : LC w' v P := by
  obtain ⟨C, h1, h2, h3⟩ := h
  exact ⟨C, h1.keeps hk, h2, fun k x p hx hp => (h3 k x p hx hp).keeps hk⟩
theorem LC.nil (w : World) : LC w (.slice none 0 0) [] := ⟨[], Sh.R.nil _ _, rfl, fun k x p h => by simp at h⟩
theorem LC.form {w : World} {v : Value} {P : List PCl} (h : LC w v P) : ∃ a c, v = .slice a P.length c ∧ P.length ≤ c ∧ c ≤ maxLen := by
  obtain ⟨C, h1, h2, h3⟩ := h
  obtain ⟨a, c, e, h4, h5, _⟩ := h1.form
  exact ⟨a, c, by rw [← h2]; exact e, by omega, h5⟩
theorem LC.elem {w : World} {v : Value} {P : List PCl} (h : LC w v P) {k : Nat} (hk : k < P.length) : ∃ g o c x, v = .slice (some ⟨g, o, none⟩) P.length c ∧ CR w x P[k] ∧ w.cell? ⟨g, o + k * 5, none⟩ = some (.int .i64 x.m) ∧ w.cell? ⟨g, o + k * 5 + 1, none⟩ = some (.int .i64 x.ep) ∧
    w.cell? ⟨g, o + k * 5 + 2, none⟩ = some (slv x.v1) ∧ w.cell? ⟨g, o + k * 5 + 3, none⟩ = some (slv x.v2) ∧ w.cell? ⟨g, o + k * 5 + 4, none⟩ = some (slv x.v3) := by
  obtain ⟨C, h1, h2, h3⟩ := h
  have hkC : k < C.length := by omega
  obtain ⟨g, o, c, e, he⟩ := h1.elem hkC
  refine ⟨g, o, c, C[k], by rw [← h2]; exact e, h3 k _ _ (List.getElem?_eq_getElem _) (List.getElem?_eq_getElem _), ?_, ?_, ?_, ?_, ?_⟩
  · simpa [shC] using he 0 _ rfl
  · simpa [shC] using he 1 _ rfl
  · simpa [shC] using he 2 _ rfl
  · simpa [shC] using he 3 _ rfl
  · simpa [shC] using he 4 _ rfl
theorem CL.lc {w : World} {B : Nat} {vc : Value} {P : List PCl} {V : Nat → Nat → SlT} (h : CL w B vc P V) : LC w vc P := by
  refine ⟨_, h.c.r, rowsC_len P V, fun k x p hx hp => ?_⟩
  obtain ⟨hk, rfl⟩ := List.getElem?_eq_some_iff.1 hp
  obtain ⟨hk2, rfl⟩ := List.getElem?_eq_some_iff.1 hx
  rw [rowsC_get P V k hk]
  exact ⟨rfl, rfl, (h.o k 0 hk (by omega)).r, (h.o k 1 hk (by omega)).r, (h.o k 2 hk (by omega)).r⟩
end Go.Proofs.YtiplgpefapeapaaGreat

namespace Go.Proofs.YtiplgpefapeapaaGreat
open Go Go.RowKit

theorem Sh.O.keepP {α : Type} {s : Sh α} {w w' : World} {B : Nat} {e : TypeId} {v : Value} {L : List α} {S : Nat → Prop} (h : s.O w B e v L) (hk : Free.KeepsP S w w') (hS : ∀ g, v.ownBlock = some g → ¬ S g) : s.O w' B e v L := by
  refine ⟨h.1, ?_⟩
  rcases h.2 with hn | ⟨g, cap, cur, rfl, hb, hg, rest⟩
  · exact .inl hn
  · exact .inr ⟨g, cap, cur, rfl, hb, (hk.block g (Array.getElem?_eq_some_iff.1 hg).1 (hS g rfl)).trans hg, rest⟩
namespace Ins
variable {α : Type}
/-- What holds behind each operation: 0 makes the empty slice, A appends the first part, M makes the slice of one, A2 appends it, A3 the rest (A3 = A2: there is none). -/
def F (s : Sh α) (A M A2 A3 : Nat) (B0 : Nat) (e : TypeId) (L1 : List α) (x : α) (L2 : List α) (i : Nat) (v : Value) (w : World) : Prop :=
  (i = 0 → ∃ g, v = .slice (some ⟨g, 0, none⟩) 0 0 ∧ B0 ≤ g ∧ w.heap[g]? = some (.cells #[] e (0, 0))) ∧ (i = A → s.O w B0 e v L1) ∧ (i = M → s.R w v [x] ∧ s.O w B0 e v [x]) ∧ (i = A2 → s.O w B0 e v (L1 ++ [x])) ∧ (i = A3 → A3 ≠ A2 → s.O w B0 e v (L1 ++ [x] ++ L2))
def T (A2 A3 B0 : Nat) (k b : Nat) : Prop := (k = A2 ∨ k = A3) ∧ B0 ≤ b
def K (A2 A3 : Nat) (k i : Nat) : Bool := (k == A2 && i != A3 && i != A2) || (k == A3 && i != A3)
theorem keepF {s : Sh α} {A M A2 A3 : Nat} {B0 : Nat} {e : TypeId} {L1 : List α} {x : α} {L2 : List α} {i : Nat} {v : Value} {w w' : World} (h : F s A M A2 A3 B0 e L1 x L2 i v w) (hk : Free.KeepsP (fun _ => False) w w') : F s A M A2 A3 B0 e L1 x L2 i v w' := by
  obtain ⟨h0, h1, h2, h3, h4⟩ := h
  refine ⟨fun hi => ?_, fun hi => (h1 hi).keepP hk (by simp), fun hi => ?_, fun hi => (h3 hi).keepP hk (by simp), fun hi hn => (h4 hi hn).keepP hk (by simp)⟩
  · obtain ⟨g, e1, e2, e3⟩ := h0 hi
    exact ⟨g, e1, e2, (hk.block g (Array.getElem?_eq_some_iff.1 e3).1 (by simp)).trans e3⟩
  · have := (h2 hi).2.keepP hk (by simp)
    exact ⟨this.r, this⟩
theorem stable {s : Sh α} {A M A2 A3 : Nat} {B0 : Nat} {e : TypeId} {L1 : List α} {x : α} {L2 : List α} {ops : Array Oper} {loud : Nat → Bool} (hpre : A3 = A2 ∨ Free.pre ops A2 A3 = true) :
    ∀ i k v w w', loud i = true → i ≠ k → K A2 A3 k i = false → Free.pre ops k i = false → F s A M A2 A3 B0 e L1 x L2 i v w → Free.KeepsP (T A2 A3 B0 k) w w' → F s A M A2 A3 B0 e L1 x L2 i v w' := by
  intro i k v w w' _ hne hK hp hF hk
  by_cases h2 : k = A2
  · subst h2
    by_cases h3 : i = A3
    · subst h3
      rcases hpre with e | e
      · exact absurd e hne
      · rw [hp] at e; cases e
    · exfalso
      unfold K at hK
      simp only [beq_self_eq_true, Bool.true_and, Bool.or_eq_false_iff] at hK
      have h4 := hK.1
      simp [h3, hne] at h4
  · by_cases h3 : k = A3
    · subst h3
      exfalso
      unfold K at hK
      simp [hne] at hK
    · exact keepF hF (hk.mono (fun b hb => by rcases hb.1 with e | e; exact h2 e; exact h3 e))
section
variable {P : Program} {o : Oper} {a : Act} {w w0 : World} {s : Sh α} {A M A2 A3 : Nat} {e t : TypeId} {L1 : List α} {x : α} {L2 : List α} {z : Value} {by_ : Nat}
end
theorem low {ops : Array Oper} {A2 A3 B0 i b : Nat} (h : Free.sx ops (T A2 A3 B0) i b) : B0 ≤ b := by obtain ⟨k, _, _, h⟩ := h; exact h.2
end Ins
end Go.Proofs.YtiplgpefapeapaaGreat

namespace Go.Proofs.YtiplgpefapeapaaGreat
open Go.RowKit

theorem LRd.ins {w : World} {X : List AnV} {Y : List Ans} {x : AnV} {y : Ans} (h : LRd w X Y) (hx : InR w x y) (k : Nat) : LRd w (X.take k ++ [x] ++ X.drop k) (Y.take k ++ y :: Y.drop k) := by
  obtain ⟨hl, hh⟩ := h
  refine ⟨by simp; omega, fun j a b ha hb => ?_⟩
  rw [List.append_assoc, List.singleton_append] at ha
  have htl : (X.take k).length = (Y.take k).length := by simp [hl]
  by_cases h1 : j < (X.take k).length
  · rw [List.getElem?_append_left h1] at ha
    rw [List.getElem?_append_left (by omega)] at hb
    rw [List.getElem?_take] at ha hb
    split at ha
    · rename_i hjk
      rw [if_pos hjk] at hb
      exact hh j a b ha hb
    · cases ha
  · rw [List.getElem?_append_right (by omega)] at ha
    rw [List.getElem?_append_right (by omega)] at hb
    rw [← htl] at hb
    obtain ⟨i, hi⟩ : ∃ i, j - (X.take k).length = i := ⟨_, rfl⟩
    rw [hi] at ha hb
    cases i with
    | zero => simp at ha hb; subst ha hb; exact hx
    | succ i =>
      simp only [List.getElem?_cons_succ, List.getElem?_drop] at ha hb
      exact hh _ a b ha hb
end Go.Proofs.YtiplgpefapeapaaGreat

namespace Go.Proofs.YtiplgpefapeapaaGreat
open Go.RowKit

/-- A list of needs, in a block of needs. -/
def Nd (w : World) (v : Value) (L : List T3) : Prop := shT.R w v L ∧ ∀ b, v.ownBlock = some b → ∃ (cs : Array Value) (f : Nat × Nat), w.heap[b]? = some (Obj.cells cs tN f)
theorem Nd.nil (w : World) : Nd w (.slice none 0 0) [] := ⟨Sh.R.nil _ _, fun b h => by simp [Value.ownBlock] at h⟩
theorem Nd.of_O {w : World} {B : Nat} {v : Value} {L : List T3} (h : shT.O w B tN v L) : Nd w v L := ⟨h.r, fun b hb => by obtain ⟨cs, hc⟩ := h.tag b hb; exact ⟨cs, _, hc⟩⟩
theorem Nd.keepS {w w' : World} {v : Value} {L : List T3} {S : List Nat} (h : Nd w v L) (hk : Keeps S w w') (hS : ∀ b ∈ S, ∀ (cs : Array Value) (f : Nat × Nat), w.heap[b]? ≠ some (Obj.cells cs tN f)) : Nd w' v L := by
  refine ⟨h.1.keepS hk (fun b hb e => ?_), fun b hb => ?_⟩
  · obtain ⟨cs, f, hc⟩ := h.2 b e
    exact hS b hb cs f hc
  · obtain ⟨cs, f, hc⟩ := h.2 b hb
    exact ⟨cs, f, (hk.block b (lt_of_blk' hc) (fun hm => hS b hm cs f hc)).trans hc⟩
theorem Nd.keeps {w w' : World} {v : Value} {L : List T3} (h : Nd w v L) (hk : Keeps [] w w') : Nd w' v L := h.keepS hk (by simp)
theorem Nd.put {w w' : World} {v v' : Value} {L : List T3} {n : T3} (h : Nd w v L) (hk : Keeps [] w w') (hp : (v' = v ∧ putN n L = L) ∨ shT.O w' w.heap.size tN v' (putN n L)) : Nd w' v' (putN n L) := by
  rcases hp with ⟨rfl, e⟩ | hO
  · rw [e]; exact h.keeps hk
  · exact Nd.of_O hO
structure CRt (w : World) (x : ClV) (p : PCl) : Prop where
  m : x.m = p.m
  ep : x.ep = p.ep
  st : Nd w (slv x.v1) p.st
  sc : Nd w (slv x.v2) p.sc
  ch : Nd w (slv x.v3) p.ch
theorem CRt.keepS {w w' : World} {x : ClV} {p : PCl} {S : List Nat} (h : CRt w x p) (hk : Keeps S w w') (hS : ∀ b ∈ S, ∀ (cs : Array Value) (f : Nat × Nat), w.heap[b]? ≠ some (Obj.cells cs tN f)) : CRt w' x p := ⟨h.m, h.ep, h.st.keepS hk hS, h.sc.keepS hk hS, h.ch.keepS hk hS⟩
def Rows' (w : World) (C : List ClV) (P : List PCl) : Prop := C.length = P.length ∧ ∀ (j : Nat) (x : ClV) (p : PCl), C[j]? = some x → P[j]? = some p → CRt w x p
theorem Rows'.keepS {w w' : World} {C : List ClV} {P : List PCl} {S : List Nat} (h : Rows' w C P) (hk : Keeps S w w') (hS : ∀ b ∈ S, ∀ (cs : Array Value) (f : Nat × Nat), w.heap[b]? ≠ some (Obj.cells cs tN f)) : Rows' w' C P := ⟨h.1, fun j x p h1 h2 => (h.2 j x p h1 h2).keepS hk hS⟩
theorem Rows'.keeps {w w' : World} {C : List ClV} {P : List PCl} (h : Rows' w C P) (hk : Keeps [] w w') : Rows' w' C P := h.keepS hk (by simp)
theorem Rows'.snoc {w : World} {C : List ClV} {P : List PCl} {x : ClV} {p : PCl} (h : Rows' w C P) (hx : CRt w x p) : Rows' w (C ++ [x]) (P ++ [p]) := by
  obtain ⟨hl, hh⟩ := h
  refine ⟨by simp [hl], fun j a b ha hb => ?_⟩
  by_cases e : j < C.length
  · rw [List.getElem?_append_left e] at ha
    rw [List.getElem?_append_left (by omega)] at hb
    exact hh j a b ha hb
  · rw [List.getElem?_append_right (by omega)] at ha
    rw [List.getElem?_append_right (by omega), ← hl] at hb
    obtain ⟨i, hi⟩ : ∃ i, j - C.length = i := ⟨_, rfl⟩
    rw [hi] at ha hb
    cases i with
    | zero => simp at ha hb; subst ha hb; exact hx
    | succ i => simp at ha
theorem Rows'.lc {w : World} {v : Value} {C : List ClV} {P : List PCl} (h : Rows' w C P) (hR : shC.R w v C) : LC w v P := ⟨C, hR, h.1, fun k x p h1 h2 => by
  have := h.2 k x p h1 h2
  exact ⟨this.m, this.ep, this.st.1, this.sc.1, this.ch.1⟩⟩
end Go.Proofs.YtiplgpefapeapaaGreat

namespace Go.Proofs.YtiplgpefapeapaaGreat
open Go.RowKit

theorem sizeC : (Tryz.prog.info? tC).map (·.size) = some 5 := by kernel_rfl
theorem load_clm (w : World) (g : Nat) (t : TypeId) (x0 x1 x2 x3 x4 : Value) (f : Nat × Nat) (hg : w.heap[g]? = some (.cells #[x0, x1, x2, x3, x4] t f)) : (loadVar tC ⟨g, 0, none⟩).run Tryz.prog w = .ok (.agg #[x0, x1, x2, x3, x4]) w :=
  run_loadVar_row w g t tC #[x0, x1, x2, x3, x4] f _ hg Tryz.underlying49 rfl sizeC
theorem results_clm {fn : Func} {p u : Tmp} (h : fn.results = #[.cell p tC, .tmp u]) (tmps : Array Value) (w : World) (g : Nat) (t : TypeId) (x0 x1 x2 x3 x4 : Value) (f : Nat × Nat) (hp : tmps.getD p undef = .pointer (some ⟨g, 0, none⟩))
    (hg : w.heap[g]? = some (.cells #[x0, x1, x2, x3, x4] t f)) : (results fn tmps).run Tryz.prog w = .ok (.tuple #[.agg #[x0, x1, x2, x3, x4], tmps.getD u undef]) w := by
  have hp' : tmps[p]?.getD undef = .pointer (some ⟨g, 0, none⟩) := by simpa using hp
  simp [results, h, hp', asAddr, load_clm w g t x0 x1 x2 x3 x4 f hg]
def ClV.zero : ClV := ⟨0, 0, nilT, nilT, nilT⟩
def PCl.zero : PCl := ⟨0, 0, [], [], []⟩
def ClaimPost (w : World) (t : Tr) (e : Ending) (w' : World) : Prop :=
  ∃ (x : ClV) (p : PCl), e = .returned (.tuple #[clV x, .bool (t.state == 1)]) ∧ CR w' x p ∧ Keeps [] w w' ∧
    ((t.state ≠ 1 ∧ p = PCl.zero) ∨ (t.state = 1 ∧ ∃ P Y, SortedA t Y ∧ ClaimsP t Y P ∧ P[t.ag.length]? = some p))
set_option maxRecDepth 100000 in
set_option maxHeartbeats 4000000 in
theorem claim_c (w : World) (B bt bm : Nat) (vo vh vg : Value) (t : Tr) (h : TrM w B bt bm vo vh vg t) (hl : t.qs.length ≤ 1000) (hag : t.state = 1 → ∀ P Y, SortedA t Y → ClaimsP t Y P → t.ag.length < P.length) :
    Calls Tryz.prog 16 #[.pointer (some ⟨bt, 0, none⟩)] w (ClaimPost w t) := by
  have c9 := h.cells.2.2.2.2.2.2.2.2.2.1
  have hlt := h.lt
  by_cases hs : t.state = 1
  case neg =>
    have b1 : (t.state != 1) = true := by simpa using hs
    have b2 : (t.state == 1) = false := by simpa using hs
    replace hs := Lib.hid hs
    have hb0 := heap_alloc_new w (.cells #[.int .i64 0, .int .i64 0, .slice none 0 0, .slice none 0 0, .slice none 0 0] tC)
    have hkA := (Keeps.refl [] w).alloc (.cells #[.int .i64 0, .int .i64 0, .slice none 0 0, .slice none 0 0, .slice none 0 0] tC)
    replace hkA := Lib.hid hkA
    replace hb0 := Lib.hid hb0
    clear h
    go_enter Tryz.func16, Tryz.ntmps16
    go_wp2
    refine bodyPost_ret (results_clm rfl _ _ _ _ _ _ _ _ _ _ rfl hb0.out) rfl ?_
    exact ⟨ClV.zero, PCl.zero, by rw [b2]; rfl, ⟨rfl, rfl, Sh.R.nil _ _, Sh.R.nil _ _, Sh.R.nil _ _⟩, hkA.out, .inl ⟨hs.out, rfl⟩⟩
  case pos =>
    have b2 : (t.state == 1) = true := by simpa using hs
    have c10 := h.cells.2.2.2.2.2.2.2.2.2.2.1
    obtain ⟨ga, gc, rfl⟩ := h.ag.form
    obtain ⟨LG, hLG⟩ : ∃ n, t.ag.length = n := ⟨_, rfl⟩
    rw [hLG] at h c10
    have hb0 := heap_alloc_new w (.cells #[.int .i64 0, .int .i64 0, .slice none 0 0, .slice none 0 0, .slice none 0 0] tC)
    have hkA := (Keeps.refl [] w).alloc (.cells #[.int .i64 0, .int .i64 0, .slice none 0 0, .slice none 0 0, .slice none 0 0] tC)
    have hcl := fun (W : World) (hk : Keeps [] w W) => claims_c W B bt bm vo vh _ t (h.keeps hk) hl
    rw [hs] at c9
    replace hkA := Lib.hid hkA
    replace hb0 := Lib.hid hb0
    replace hcl := Lib.hid hcl
    replace hs := Lib.hid hs
    replace hag := Lib.hid hag
    replace hLG := Lib.hid hLG
    replace b2 := Lib.hid b2
    clear h
    go_enter Tryz.func16, Tryz.ntmps16
    go_wp2
    generalize (w.alloc (.cells #[.int .i64 0, .int .i64 0, .slice none 0 0, .slice none 0 0, .slice none 0 0] tC)) = WA at *
    have c10 := hkA.out.val c10
    have hltA : bt < WA.heap.size := Nat.lt_of_lt_of_le hlt.1 hkA.out.size
    refine Free.wp_region_chain (fun i => i == 1 || i == 8 || i == 9) (fun i => true) (fun j b => j = 9 ∧ b = w.heap.size) (by kernel_rfl) (by kernel_rfl) (by kernel_rfl) ?_
    (repeat (first | (apply Free.cw_pure rfl rfl; (intro w'; go_simp <;> exact rfl); go_frame) | (apply Free.cw_steady rfl rfl rfl; (intro w' hS; have q0 := Free.sx_cell hS c10 (fun _ _ hT => by have := hT.2; omega); go_simp <;> exact rfl); go_frame) | (refine Free.cw_skip rfl ?_; go_frame)))
    refine Free.cw_loud rfl rfl (fun K hK => ?_)
    go_wp2_with fail
    refine (hcl.out _ (hkA.out.trans ((Keeps.refl [] _).drew))).mono ?_
    rintro e w2 ⟨vc, P, V, Bc, Y, rfl, g1, g2, g3, g4, g5⟩
    refine hK _ _ rfl (Free.KeepsP.of g5 (by simp)) ?_
    clear hK K hcl
    have c10w := (((Keeps.refl [] WA).drew).trans g5).val c10
    have hltP := hag.out hs.out P Y g3 g4
    rw [hLG.out] at hltP
    obtain ⟨gl, cc, rfl, hgB, hgl, m0, m1, m2, m3, m4, _⟩ := g2.row hltP
    have hXl : w.heap.size < WA.heap.size := lt_of_blk hb0.out
    have hbX := (g5.block w.heap.size hXl (by simp)).trans hb0.out
    have hWl : WA.heap.size ≤ gl := Nat.le_trans g1 hgB
    have hne : gl ≠ w.heap.size := by omega
    obtain ⟨x0, x1, x2, x3, x4, xl⟩ := cells5 hbX
    have xf : ∀ o, w2.frozen? ⟨w.heap.size, o, none⟩ = false := fun o => by simp [World.frozen?, hbX]
    have hro := g2.o LG
    obtain ⟨NP, hNP⟩ : ∃ n, P.length = n := ⟨_, rfl⟩
    rw [hNP] at hltP ⊢
    obtain ⟨⟨a1, a2, a3⟩, hv1⟩ : ∃ x, V LG 0 = x := ⟨_, rfl⟩
    obtain ⟨⟨b1, b2', b3⟩, hv2⟩ : ∃ x, V LG 1 = x := ⟨_, rfl⟩
    obtain ⟨⟨d1, d2, d3⟩, hv3⟩ : ∃ x, V LG 2 = x := ⟨_, rfl⟩
    simp only [hv1, hv2, hv3, slv] at m2 m3 m4
    replace hbX := Lib.hid hbX
    replace hNP := Lib.hid hNP
    replace g2 := Lib.hid g2
    replace g3 := Lib.hid g3
    replace g4 := Lib.hid g4
    replace g5 := Lib.hid g5
    clear hro
    (repeat (first | (apply Free.cw_pure rfl rfl; (intro w'; go_simp <;> exact rfl); go_frame) | (apply Free.cw_steady rfl rfl rfl; (intro w' hS; have q0 := Free.sx_cell hS c10 (fun _ _ hT => by have := hT.2; omega); go_simp <;> exact rfl); go_frame) | (refine Free.cw_skip rfl ?_; go_frame)))
    refine Free.cw_loud rfl rfl (fun K hK => ?_)
    go_wp2
    refine hK _ _ rfl (Free.KeepsP.refl _ _) ?_
    clear hK K
    (repeat (apply Free.cw_pure rfl rfl; (intro w'; go_simp <;> exact rfl); go_frame))
    refine Free.cw_loud rfl rfl (fun K hK => ?_)
    go_wp2
    have hkS : Keeps [w.heap.size] w2 (((((w2.setCell ⟨w.heap.size, 0, none⟩ (.int .i64 P[LG].m)).setCell ⟨w.heap.size, 1, none⟩ (.int .i64 P[LG].ep)).setCell ⟨w.heap.size, 2, none⟩ (.slice a1 a2 a3)).setCell ⟨w.heap.size, 3, none⟩ (.slice b1 b2' b3)).setCell ⟨w.heap.size, 4, none⟩ (.slice d1 d2 d3)) := (((((Keeps.refl _ _).setCell (.inr (by simp)) _).setCell (.inr (by simp)) _).setCell (.inr (by simp)) _).setCell (.inr (by simp)) _).setCell (.inr (by simp)) _
    have hbS : (((((w2.setCell ⟨w.heap.size, 0, none⟩ (.int .i64 P[LG].m)).setCell ⟨w.heap.size, 1, none⟩ (.int .i64 P[LG].ep)).setCell ⟨w.heap.size, 2, none⟩ (.slice a1 a2 a3)).setCell ⟨w.heap.size, 3, none⟩ (.slice b1 b2' b3)).setCell ⟨w.heap.size, 4, none⟩ (.slice d1 d2 d3)).heap[w.heap.size]? = some (.cells #[.int .i64 P[LG].m, .int .i64 P[LG].ep, .slice a1 a2 a3, .slice b1 b2' b3, .slice d1 d2 d3] tC (0, 0)) := by
      have := setCs (setCs (setCs (setCs (setCs hbX.out 0 (.int .i64 P[LG].m)) 1 (.int .i64 P[LG].ep)) 2 (.slice a1 a2 a3)) 3 (.slice b1 b2' b3)) 4 (.slice d1 d2 d3)
      simpa using this
    refine hK _ _ rfl (Free.KeepsP.of hkS (fun b hb => ⟨trivial, by simpa using hb⟩)) ?_
    clear hK K
    replace hkS := Lib.hid hkS
    replace hbS := Lib.hid hbS
    generalize (((((w2.setCell ⟨w.heap.size, 0, none⟩ (.int .i64 P[LG].m)).setCell ⟨w.heap.size, 1, none⟩ (.int .i64 P[LG].ep)).setCell ⟨w.heap.size, 2, none⟩ (.slice a1 a2 a3)).setCell ⟨w.heap.size, 3, none⟩ (.slice b1 b2' b3)).setCell ⟨w.heap.size, 4, none⟩ (.slice d1 d2 d3)) = W5 at *
    (repeat (apply Free.cw_pure rfl rfl; (intro w'; go_simp <;> exact rfl); go_frame))
    refine Free.cw_nil ?_
    go_wp2
    refine bodyPost_ret (results_clm rfl _ _ _ _ _ _ _ _ _ _ rfl hbS.out) rfl ?_
    have hPl : LG < P.length := by rw [hNP.out]; exact hltP
    have hOk : ∀ j (hj : j < 3), shT.R W5 (slv (V LG j)) (P[LG].at j) := fun j hj => ((g2.out.o LG j hPl hj).keepS hkS.out (fun b hb e => by
      simp at hb; subst hb
      exact absurd (Nat.lt_of_lt_of_le hXl (Nat.le_trans g1 ((g2.out.o LG j hPl hj).ge _ e))) (Nat.lt_irrefl _))).r
    have r1 := hOk 0 (by omega)
    have r2 := hOk 1 (by omega)
    have r3 := hOk 2 (by omega)
    rw [hv1] at r1
    rw [hv2] at r2
    rw [hv3] at r3
    exact ⟨⟨P[LG].m, P[LG].ep, (a1, a2, a3), (b1, b2', b3), (d1, d2, d3)⟩, P[LG], by rw [b2.out]; rfl, ⟨rfl, rfl, r1, r2, r3⟩, ((hkA.out.trans ((Keeps.refl [] WA).drew)).trans g5.out).fresh hkS.out (fun b hb => by simp at hb; subst hb; exact .inr (Nat.le_refl _)), .inr ⟨hs.out, P, Y, g3.out, g4.out, by rw [hLG.out]; exact List.getElem?_eq_getElem _⟩⟩
end Go.Proofs.YtiplgpefapeapaaGreat

namespace Go.Proofs.YtiplgpefapeapaaGreat
open Go.RowKit

/-- The claims of a trace. -/
def Tr.clm (t : Tr) : List PCl := refOf t (outsOf (srtOf t.qs)) (srtOf t.qs)
theorem Tr.clm_eq {t : Tr} (h : t.Inv) {Y : List Ans} {P : List PCl} (hY : SortedA t Y) (hP : ClaimsP t Y P) : P = t.clm := by
  obtain rfl := hY.uniq (srtOf_sorted h)
  exact ClaimsP.uniq hY.2 hP (refOf_claims hY.2)
end Go.Proofs.YtiplgpefapeapaaGreat

namespace Go.Proofs.YtiplgpefapeapaaGreat
open Go.RowKit

theorem cl1 {w : World} {b : Nat} {x0 : Value} {t : TypeId} (h : w.heap[b]? = some (.cells #[x0] t (0, 0))) :
    w.cell? ⟨b, 0, none⟩ = some x0 ∧ (∀ o, w.frozen? ⟨b, o, none⟩ = false) ∧ b < w.heap.size := by
  refine ⟨?_, fun o => ?_, (Array.getElem?_eq_some_iff.1 h).1⟩ <;> simp [World.cell?, World.frozen?, h]
theorem cl3 {w : World} {b : Nat} {x0 x1 x2 : Value} {t : TypeId} (h : w.heap[b]? = some (.cells #[x0, x1, x2] t (0, 0))) :
    w.cell? ⟨b, 0, none⟩ = some x0 ∧ w.cell? ⟨b, 1, none⟩ = some x1 ∧ w.cell? ⟨b, 2, none⟩ = some x2 ∧ (∀ o, w.frozen? ⟨b, o, none⟩ = false) ∧ b < w.heap.size := by
  refine ⟨?_, ?_, ?_, fun o => ?_, (Array.getElem?_eq_some_iff.1 h).1⟩ <;> simp [World.cell?, World.frozen?, h]
theorem cl5 {w : World} {b : Nat} {x0 x1 x2 x3 x4 : Value} {t : TypeId} (h : w.heap[b]? = some (.cells #[x0, x1, x2, x3, x4] t (0, 0))) :
    w.cell? ⟨b, 0, none⟩ = some x0 ∧ w.cell? ⟨b, 1, none⟩ = some x1 ∧ w.cell? ⟨b, 2, none⟩ = some x2 ∧ w.cell? ⟨b, 3, none⟩ = some x3 ∧ w.cell? ⟨b, 4, none⟩ = some x4 ∧ (∀ o, w.frozen? ⟨b, o, none⟩ = false) ∧ b < w.heap.size := by
  refine ⟨?_, ?_, ?_, ?_, ?_, fun o => ?_, (Array.getElem?_eq_some_iff.1 h).1⟩ <;> simp [World.cell?, World.frozen?, h]
theorem cl7 {w : World} {b : Nat} {x0 x1 x2 x3 x4 x5 x6 : Value} {t : TypeId} (h : w.heap[b]? = some (.cells #[x0, x1, x2, x3, x4, x5, x6] t (0, 0))) :
    w.cell? ⟨b, 0, none⟩ = some x0 ∧ w.cell? ⟨b, 1, none⟩ = some x1 ∧ w.cell? ⟨b, 2, none⟩ = some x2 ∧ w.cell? ⟨b, 3, none⟩ = some x3 ∧ w.cell? ⟨b, 4, none⟩ = some x4 ∧ w.cell? ⟨b, 5, none⟩ = some x5 ∧ w.cell? ⟨b, 6, none⟩ = some x6 ∧ (∀ o, w.frozen? ⟨b, o, none⟩ = false) ∧ b < w.heap.size := by
  refine ⟨?_, ?_, ?_, ?_, ?_, ?_, ?_, fun o => ?_, (Array.getElem?_eq_some_iff.1 h).1⟩ <;> simp [World.cell?, World.frozen?, h]
theorem cl8 {w : World} {b : Nat} {x0 x1 x2 x3 x4 x5 x6 x7 : Value} {t : TypeId} (h : w.heap[b]? = some (.cells #[x0, x1, x2, x3, x4, x5, x6, x7] t (0, 0))) :
    w.cell? ⟨b, 0, none⟩ = some x0 ∧ w.cell? ⟨b, 1, none⟩ = some x1 ∧ w.cell? ⟨b, 2, none⟩ = some x2 ∧ w.cell? ⟨b, 3, none⟩ = some x3 ∧ w.cell? ⟨b, 4, none⟩ = some x4 ∧ w.cell? ⟨b, 5, none⟩ = some x5 ∧ w.cell? ⟨b, 6, none⟩ = some x6 ∧ w.cell? ⟨b, 7, none⟩ = some x7 ∧ (∀ o, w.frozen? ⟨b, o, none⟩ = false) ∧ b < w.heap.size := by
  refine ⟨?_, ?_, ?_, ?_, ?_, ?_, ?_, ?_, fun o => ?_, (Array.getElem?_eq_some_iff.1 h).1⟩ <;> simp [World.cell?, World.frozen?, h]
theorem blks2 (w : World) (A0 A1 : Obj) : ((w.alloc A0).alloc A1).heap[w.heap.size]? = some A0 ∧ ((w.alloc A0).alloc A1).heap[w.heap.size + 1]? = some A1 ∧ Keeps [] w ((w.alloc A0).alloc A1) ∧ ((w.alloc A0).alloc A1).heap.size = w.heap.size + 1 + 1 := by
  have h0 := heap_alloc_new w A0
  have h1 := heap_alloc_new (w.alloc A0) A1
  rw [show (w.alloc A0).heap.size = w.heap.size + 1 by simp] at h1
  exact ⟨(((Keeps.refl [] (w.alloc A0)).alloc A1).block _ (Array.getElem?_eq_some_iff.1 h0).1 (by simp)).trans h0, ((Keeps.refl [] ((w.alloc A0).alloc A1)).block _ (Array.getElem?_eq_some_iff.1 h1).1 (by simp)).trans h1, (((Keeps.refl [] w).alloc A0).alloc A1), by simp⟩
theorem sc3 {w : World} {X : Nat} {t : TypeId} {y0 y1 y2 : Value} (x0 x1 x2 : Value) (h : w.heap[X]? = some (.cells #[y0, y1, y2] t (0, 0))) : (((w.setCell ⟨X, 0, none⟩ x0).setCell ⟨X, 1, none⟩ x1).setCell ⟨X, 2, none⟩ x2).heap[X]? = some (.cells #[x0, x1, x2] t (0, 0)) ∧ Keeps [X] w (((w.setCell ⟨X, 0, none⟩ x0).setCell ⟨X, 1, none⟩ x1).setCell ⟨X, 2, none⟩ x2) := by
  refine ⟨by simp [World.setCell, Array.getElem?_modify, h], ?_⟩
  refine (((Keeps.refl _ w).setCell ?_ _).setCell ?_ _).setCell ?_ _ <;> exact .inr (by simp)
theorem sc5 {w : World} {X : Nat} {t : TypeId} {y0 y1 y2 y3 y4 : Value} (x0 x1 x2 x3 x4 : Value) (h : w.heap[X]? = some (.cells #[y0, y1, y2, y3, y4] t (0, 0))) : (((((w.setCell ⟨X, 0, none⟩ x0).setCell ⟨X, 1, none⟩ x1).setCell ⟨X, 2, none⟩ x2).setCell ⟨X, 3, none⟩ x3).setCell ⟨X, 4, none⟩ x4).heap[X]? = some (.cells #[x0, x1, x2, x3, x4] t (0, 0)) ∧ Keeps [X] w (((((w.setCell ⟨X, 0, none⟩ x0).setCell ⟨X, 1, none⟩ x1).setCell ⟨X, 2, none⟩ x2).setCell ⟨X, 3, none⟩ x3).setCell ⟨X, 4, none⟩ x4) := by
  refine ⟨by simp [World.setCell, Array.getElem?_modify, h], ?_⟩
  refine (((((Keeps.refl _ w).setCell ?_ _).setCell ?_ _).setCell ?_ _).setCell ?_ _).setCell ?_ _ <;> exact .inr (by simp)
theorem sc7 {w : World} {X : Nat} {t : TypeId} {y0 y1 y2 y3 y4 y5 y6 : Value} (x0 x1 x2 x3 x4 x5 x6 : Value) (h : w.heap[X]? = some (.cells #[y0, y1, y2, y3, y4, y5, y6] t (0, 0))) : (((((((w.setCell ⟨X, 0, none⟩ x0).setCell ⟨X, 1, none⟩ x1).setCell ⟨X, 2, none⟩ x2).setCell ⟨X, 3, none⟩ x3).setCell ⟨X, 4, none⟩ x4).setCell ⟨X, 5, none⟩ x5).setCell ⟨X, 6, none⟩ x6).heap[X]? = some (.cells #[x0, x1, x2, x3, x4, x5, x6] t (0, 0)) ∧ Keeps [X] w (((((((w.setCell ⟨X, 0, none⟩ x0).setCell ⟨X, 1, none⟩ x1).setCell ⟨X, 2, none⟩ x2).setCell ⟨X, 3, none⟩ x3).setCell ⟨X, 4, none⟩ x4).setCell ⟨X, 5, none⟩ x5).setCell ⟨X, 6, none⟩ x6) := by
  refine ⟨by simp [World.setCell, Array.getElem?_modify, h], ?_⟩
  refine (((((((Keeps.refl _ w).setCell ?_ _).setCell ?_ _).setCell ?_ _).setCell ?_ _).setCell ?_ _).setCell ?_ _).setCell ?_ _ <;> exact .inr (by simp)
theorem sc8 {w : World} {X : Nat} {t : TypeId} {y0 y1 y2 y3 y4 y5 y6 y7 : Value} (x0 x1 x2 x3 x4 x5 x6 x7 : Value) (h : w.heap[X]? = some (.cells #[y0, y1, y2, y3, y4, y5, y6, y7] t (0, 0))) : ((((((((w.setCell ⟨X, 0, none⟩ x0).setCell ⟨X, 1, none⟩ x1).setCell ⟨X, 2, none⟩ x2).setCell ⟨X, 3, none⟩ x3).setCell ⟨X, 4, none⟩ x4).setCell ⟨X, 5, none⟩ x5).setCell ⟨X, 6, none⟩ x6).setCell ⟨X, 7, none⟩ x7).heap[X]? = some (.cells #[x0, x1, x2, x3, x4, x5, x6, x7] t (0, 0)) ∧ Keeps [X] w ((((((((w.setCell ⟨X, 0, none⟩ x0).setCell ⟨X, 1, none⟩ x1).setCell ⟨X, 2, none⟩ x2).setCell ⟨X, 3, none⟩ x3).setCell ⟨X, 4, none⟩ x4).setCell ⟨X, 5, none⟩ x5).setCell ⟨X, 6, none⟩ x6).setCell ⟨X, 7, none⟩ x7) := by
  refine ⟨by simp [World.setCell, Array.getElem?_modify, h], ?_⟩
  refine ((((((((Keeps.refl _ w).setCell ?_ _).setCell ?_ _).setCell ?_ _).setCell ?_ _).setCell ?_ _).setCell ?_ _).setCell ?_ _).setCell ?_ _ <;> exact .inr (by simp)
end Go.Proofs.YtiplgpefapeapaaGreat

namespace Go.Proofs.YtiplgpefapeapaaGreat
open Go.RowKit

abbrev tCt : Nat := 32
/-- A certificate as its cells. -/
structure CtV where
  im : Int
  is : Int
  s0 : Int
  s1 : Nat
  s2 : Int
  va : Option Addr × Nat × Nat
  vc : Option Addr × Nat × Nat
def ctV (x : CtV) : Value := .agg #[.int .i64 x.im, .int .i64 x.is, .int .i64 x.s0, .int .u64 x.s1, .int .i64 x.s2, slv x.va, slv x.vc]
end Go.Proofs.YtiplgpefapeapaaGreat

namespace Go.Proofs.YtiplgpefapeapaaGreat
open Go.ChangeShapes Go.WideShapes Go.ChangeAt Go.RowKit

/-- The elements' cells, and what they say, parted. -/
theorem SlR.split {α β : Type} {w : World} {v : Value} {L : List α} (s : Sh β) {Rel : World → List Value → α → Prop} {Q : β → α → Prop} (hR : ∀ cs y, Rel w cs y → ∃ x, cs = s.cf x ∧ Q x y) (h : Gen.SlR Rel s.sz w v L) :
    ∃ X, s.R w v X ∧ X.length = L.length ∧ ∀ (k : Nat) (x : β) (y : α), X[k]? = some x → L[k]? = some y → Q x y := by
  obtain ⟨cs, h1, h2⟩ := h
  by_cases hl : L.length = 0
  · have : L = [] := List.eq_nil_of_length_eq_zero hl
    subst this
    exact ⟨[], Sh.R.of_slR (Rel := fun _ cs x => cs = s.cf x) (fun _ _ h => h) ⟨cs, h1, fun k hk => by simp at hk⟩, rfl, fun k x y h => by simp at h⟩
  haveI : Inhabited β := ⟨(hR _ _ (h2 0 (by omega))).choose⟩
  obtain ⟨f, hf⟩ := Go.Deep.choose_lt (α := β) (n := L.length) (p := fun k x => ∀ (hk : k < L.length), (cs.drop (k * s.sz)).take s.sz = s.cf x ∧ Q x L[k]) (fun k hk => by
    obtain ⟨x, e1, e2⟩ := hR _ _ (h2 k hk)
    exact ⟨x, fun _ => ⟨e1, e2⟩⟩)
  refine ⟨(List.range L.length).map f, Sh.R.of_slR (Rel := fun _ cs x => cs = s.cf x) (fun _ _ h => h) ⟨cs, by simpa using h1, fun k hk => ?_⟩, by simp, fun k x y hx hy => ?_⟩
  · simp at hk
    simpa using (hf k hk hk).1
  · obtain ⟨hk, rfl⟩ := List.getElem?_eq_some_iff.1 hy
    obtain ⟨hk2, rfl⟩ := List.getElem?_eq_some_iff.1 hx
    simpa using (hf k hk hk).2
/-- Numbers that fit. -/
def T3.Fit (x : T3) : Prop := W64 x.1 ∧ x.2.1 < 18446744073709551616 ∧ W64 x.2.2
structure PCl.Fit (p : PCl) : Prop where
  m : W64 p.m
  ep : W64 p.ep
  st : ∀ x ∈ p.st, T3.Fit x
  sc : ∀ x ∈ p.sc, T3.Fit x
  ch : ∀ x ∈ p.ch, T3.Fit x
structure Ct.Fit (c : Ct) : Prop where
  im : W64 c.im
  is : W64 c.is
  st : T3.Fit c.st
  an : ∀ a ∈ c.an, a.Fit
  cl : ∀ p ∈ c.cl, p.Fit
/-- The cells of a certificate say this certificate. -/
structure CtW (w : World) (x : CtV) (c : Ct) : Prop where
  im : x.im = c.im
  is : x.is = c.is
  s0 : x.s0 = c.st.1
  s1 : x.s1 = c.st.2.1
  s2 : x.s2 = c.st.2.2
  an : RdA w (slv x.va) c.an
  cl : LC w (slv x.vc) c.cl
theorem CtW.keeps {w w' : World} {x : CtV} {c : Ct} (h : CtW w x c) (hk : Keeps [] w w') : CtW w' x c := ⟨h.im, h.is, h.s0, h.s1, h.s2, h.an.keeps hk, h.cl.keeps hk⟩
set_option maxRecDepth 100000 in
set_option maxHeartbeats 1000000 in
theorem cs_needs {w : World} {v : Value} (h : Gen.Cs Tryz.prog w 42 [v]) : ∃ L : List T3, shT.R w v L ∧ ∀ x ∈ L, T3.Fit x := by
  obtain ⟨L, hL, _⟩ := Gen.SlR.open (R := fun _ cs (x : T3) => cs = shT.cf x ∧ T3.Fit x) Tryz.underlying42 (show Tryz.prog.cellsOf tN = 3 by kernel_rfl) (by decide) (fun cs hcs => by
    obtain ⟨x, h1, h2⟩ := cs_need hcs
    exact ⟨x, h1, h2⟩) h
  refine ⟨L, Sh.R.of_slR (s := shT) (fun cs x h => h.1) hL, fun x hx => ?_⟩
  obtain ⟨k, hk, rfl⟩ := List.mem_iff_getElem.1 hx
  obtain ⟨cs, _, h2⟩ := hL
  exact (h2 k hk).2
/-- The cells of a claim. -/
def ClC (w : World) (cs : List Value) (p : PCl) : Prop := ∃ x : ClV, cs = x.cs ∧ CR w x p ∧ p.Fit
set_option maxRecDepth 100000 in
set_option maxHeartbeats 1000000 in
theorem cs_claim {w : World} {cs : List Value} (h : Gen.Cs Tryz.prog w tC cs) : ∃ p, ClC w cs p := by
  obtain ⟨hl, hall⟩ := Gen.Cs.struct Tryz.underlying49 h
  rw [show Tryz.prog.cellsOf tC = 5 by kernel_rfl] at hl
  obtain ⟨a, b, c, d, e, rfl⟩ : ∃ a b c d e, cs = [a, b, c, d, e] := by
    match cs, hl with
    | [a, b, c, d, e], _ => exact ⟨a, b, c, d, e, rfl⟩
  have h0 := hall 0 _ rfl
  have h1 := hall 1 _ rfl
  have h2 := hall 2 _ rfl
  have h3 := hall 3 _ rfl
  have h4 := hall 4 _ rfl
  replace h0 : Gen.Cs Tryz.prog w 3 (([a, b, c, d, e].drop 0).take (Tryz.prog.cellsOf 3)) := h0
  replace h1 : Gen.Cs Tryz.prog w 3 (([a, b, c, d, e].drop 1).take (Tryz.prog.cellsOf 3)) := h1
  replace h2 : Gen.Cs Tryz.prog w 42 (([a, b, c, d, e].drop 2).take (Tryz.prog.cellsOf 42)) := h2
  replace h3 : Gen.Cs Tryz.prog w 42 (([a, b, c, d, e].drop 3).take (Tryz.prog.cellsOf 42)) := h3
  replace h4 : Gen.Cs Tryz.prog w 42 (([a, b, c, d, e].drop 4).take (Tryz.prog.cellsOf 42)) := h4
  rw [show Tryz.prog.cellsOf 3 = 1 by kernel_rfl] at h0 h1
  rw [show Tryz.prog.cellsOf 42 = 1 by kernel_rfl] at h2 h3 h4
  obtain ⟨z0, e0, w0⟩ := Gen.Cs.int Tryz.underlying3 h0
  obtain ⟨z1, e1, w1⟩ := Gen.Cs.int Tryz.underlying3 h1
  simp at e0 e1 h2 h3 h4
  subst e0 e1
  obtain ⟨L2, g2, f2⟩ := cs_needs h2
  obtain ⟨L3, g3, f3⟩ := cs_needs h3
  obtain ⟨L4, g4, f4⟩ := cs_needs h4
  obtain ⟨x2, k2, rfl, _⟩ := g2.form
  obtain ⟨x3, k3, rfl, _⟩ := g3.form
  obtain ⟨x4, k4, rfl, _⟩ := g4.form
  exact ⟨⟨z0, z1, L2, L3, L4⟩, ⟨z0, z1, (x2, L2.length, k2), (x3, L3.length, k3), (x4, L4.length, k4)⟩, rfl, ⟨rfl, rfl, g2, g3, g4⟩, ⟨w64_wf w0, w64_wf w1, f2, f3, f4⟩⟩
set_option maxRecDepth 100000 in
set_option maxHeartbeats 1000000 in
theorem cs_claims {w : World} {v : Value} (h : Gen.Cs Tryz.prog w 30 [v]) : ∃ P : List PCl, LC w v P ∧ ∀ p ∈ P, p.Fit := by
  obtain ⟨L, hL, _⟩ := Gen.SlR.open (R := ClC) Tryz.underlying30 (show Tryz.prog.cellsOf tC = 5 by kernel_rfl) (by decide) (fun cs hcs => cs_claim hcs) h
  refine ⟨L, ?_, fun p hp => ?_⟩
  · obtain ⟨X, h1, h2, h3⟩ := SlR.split shC (Q := fun x p => CR w x p) (fun cs y ⟨x, e1, e2, _⟩ => ⟨x, e1, e2⟩) hL
    exact ⟨X, h1, h2, h3⟩
  · obtain ⟨k, hk, rfl⟩ := List.mem_iff_getElem.1 hp
    obtain ⟨cs, _, h2⟩ := hL
    obtain ⟨x, _, _, h3⟩ := h2 k hk
    exact h3
set_option maxRecDepth 100000 in
set_option maxHeartbeats 1000000 in
theorem cs_answers {w : World} {v : Value} (h : Gen.Cs Tryz.prog w 29 [v]) : ∃ Y : List Ans, RdA w v Y ∧ ∀ a ∈ Y, a.Fit := by
  obtain ⟨L, hL, _⟩ := Gen.SlR.open (R := AnC) Tryz.underlying29 (show Tryz.prog.cellsOf tA = 8 by kernel_rfl) (by decide) (fun cs hcs => cs_ans hcs) h
  refine ⟨L, ?_, fun p hp => ?_⟩
  · obtain ⟨X, h1, h2, h3⟩ := SlR.split shA (Q := fun x p => InR w x p) (fun cs y ⟨x, e1, e2, _⟩ => ⟨x, e1, e2⟩) hL
    exact ⟨X, h1, h2, h3⟩
  · obtain ⟨k, hk, rfl⟩ := List.mem_iff_getElem.1 hp
    obtain ⟨cs, _, h2⟩ := hL
    obtain ⟨x, _, _, h3⟩ := h2 k hk
    exact h3
set_option maxRecDepth 100000 in
set_option maxHeartbeats 1000000 in
theorem open_cert {H : Type} {enc : TypeId × Value → H} {W : World} {base : Nat} {r : Reach} {v : Value} {d : DataW H} {ps : List MemPlace} (hv : Value.okWide Tryz.prog W r base tCt v)
    (h : DataW.Trod enc Tryz.prog W 0 (fun _ => true) true tCt v d ps) : ∃ (x : CtV) (c : Ct), v = ctV x ∧ CtW W x c ∧ c.Fit := by
  have hc := Gen.Cs.of_agg h
  obtain ⟨cs, rfl, _⟩ := okWide_struct Tryz.underlying32 hv
  obtain ⟨hl, hall⟩ := Gen.Cs.struct Tryz.underlying32 hc
  rw [show Tryz.prog.cellsOf tCt = 7 by kernel_rfl] at hl
  replace hl : cs.toList.length = 7 := hl
  obtain ⟨l, hcs⟩ : ∃ l, cs.toList = l := ⟨_, rfl⟩
  rw [hcs] at hl
  have h0 := hall 0 _ rfl
  have h1 := hall 1 _ rfl
  have h2 := hall 2 _ rfl
  have h3 := hall 3 _ rfl
  replace h0 : Gen.Cs Tryz.prog W 25 ((cs.toList.drop 0).take (Tryz.prog.cellsOf 25)) := h0
  replace h1 : Gen.Cs Tryz.prog W tN ((cs.toList.drop 2).take (Tryz.prog.cellsOf tN)) := h1
  replace h2 : Gen.Cs Tryz.prog W 29 ((cs.toList.drop 5).take (Tryz.prog.cellsOf 29)) := h2
  replace h3 : Gen.Cs Tryz.prog W 30 ((cs.toList.drop 6).take (Tryz.prog.cellsOf 30)) := h3
  rw [hcs] at h0 h1 h2 h3
  rw [show Tryz.prog.cellsOf 25 = 2 by kernel_rfl] at h0
  rw [show Tryz.prog.cellsOf tN = 3 by kernel_rfl] at h1
  rw [show Tryz.prog.cellsOf 29 = 1 by kernel_rfl] at h2
  rw [show Tryz.prog.cellsOf 30 = 1 by kernel_rfl] at h3
  obtain ⟨a, b, c, d, e, f, g, rfl⟩ : ∃ a b c d e f g, l = [a, b, c, d, e, f, g] := by
    match l, hl with
    | [a, b, c, d, e, f, g], _ => exact ⟨a, b, c, d, e, f, g, rfl⟩
  obtain ⟨i0, i1, e0, w0, w1⟩ := cs_tid h0
  obtain ⟨s, e1, w2⟩ := cs_need h1
  simp at e0 h2 h3
  obtain ⟨rfl, rfl⟩ := e0
  have e2 : c = .int .i64 s.1 ∧ d = .int .u64 s.2.1 ∧ e = .int .i64 s.2.2 := by simpa [shT] using e1
  obtain ⟨rfl, rfl, rfl⟩ := e2
  obtain ⟨Y, g2, f2⟩ := cs_answers h2
  obtain ⟨P, g3, f3⟩ := cs_claims h3
  obtain ⟨x2, k2, rfl, _⟩ := g2.form
  obtain ⟨x3, k3, rfl, _⟩ := g3.form
  refine ⟨⟨i0, i1, s.1, s.2.1, s.2.2, (x2, Y.length, k2), (x3, P.length, k3)⟩, ⟨i0, i1, s, Y, P⟩, ?_, ⟨rfl, rfl, rfl, rfl, rfl, g2, g3⟩, ⟨w0, w1, w2, f2, f3⟩⟩
  rw [← Array.toArray_toList (xs := cs), hcs]
  rfl
end Go.Proofs.YtiplgpefapeapaaGreat

namespace Go.Proofs.YtiplgpefapeapaaGreat
open Go.RowKit

abbrev fnV (f : Nat) : Value := .func (.func f) #[] #[]
theorem cfA_lt (x y : AnV) : cfA x y < 0 ↔ qlt x.q y.q := by
  have := ltA_iff x y
  unfold ltOf at this
  exact decide_eq_decide.1 this
set_option maxRecDepth 100000 in
set_option maxHeartbeats 4000000 in
theorem incA_c (w : World) (v : Value) (Y : List Ans) (h : RdA w v Y) :
    Calls Tryz.prog 99 #[v, fnV 100] w fun e w' => e = .returned (.bool (incA Y)) ∧ Keeps [] w w' := by
  obtain ⟨a, c, rfl, hlc, hcm⟩ := h.form
  obtain ⟨M, hM⟩ : ∃ N, Y.length = N := ⟨_, rfl⟩
  rw [hM] at hlc ⊢
  have hMm : M ≤ 9223372036854775807 := by unfold maxLen at hcm; omega
  obtain ⟨r, hr⟩ : ∃ r, incA Y = r := ⟨_, rfl⟩
  rw [hr]
  replace h := Lib.hid h
  replace hM := Lib.hid hM
  replace hr := Lib.hid hr
  go_enter Tryz.func99, Tryz.ntmps99
  go_wp2
  go_loopw [5] (fun i wr => ∃ k : Nat, i = .int .i64 k ∧ 1 ≤ k ∧ (k ≤ M ∨ k = 1) ∧ Hid (∀ j (hj : j + 1 < Y.length), j + 1 < k → qlt (Y[j]'(by omega)).q Y[j + 1].q) ∧ Hid (Keeps [] w wr)) (fun i _ => M + 1 - (intOf i).toNat)
  case atStart => exact ⟨1, rfl, by omega, .inr rfl, Lib.hid (fun _ _ h => by omega), Lib.hid (Keeps.refl _ _)⟩
  case round =>
    obtain ⟨k, rfl, hk1, hkM, hno, hkw⟩ := hrel
    by_cases hlt : k < M
    · have hlt2 : (k : Int) < M := by omega
      have hkl : k < Y.length := by rw [hM.out]; exact hlt
      obtain ⟨m, hm⟩ : ∃ m, k = m + 1 := ⟨k - 1, by omega⟩
      have hml : m < Y.length := by omega
      have hmM : (m : Int) < M := by omega
      have hwm : IntKind.i64.wrap ((k : Int) - 1) = m := by rw [IntWalk.i64_in _ (by omega)]; omega
      have hkd := hkw.out.drew
      obtain ⟨g, o, c', x, hv, hx, he⟩ := (h.out.keeps hkd).elem hkl
      obtain ⟨g2, o2, c2, y, hv2, hy, he2⟩ := (h.out.keeps hkd).elem hml
      rw [hM.out] at hv hv2
      cases hv
      cases hv2
      have hqx : x.q = Y[k].q := by unfold AnV.q Ans.q; rw [hx.m, hx.ow, hx.n]
      have hqy : y.q = Y[m].q := by unfold AnV.q Ans.q; rw [hy.m, hy.ow, hy.n]
      obtain ⟨C, hC⟩ : ∃ C, cfA y x = C := ⟨_, rfl⟩
      have hcl : C < 0 ↔ qlt Y[m].q Y[k].q := by rw [← hC, cfA_lt, hqx, hqy]
      have hcc := fun W => cmpB_c y x W
      rw [hC] at hcc
      obtain ⟨x0, x1, x2, x3, x4, x5, x6, x7, x8, x9⟩ := x
      obtain ⟨y0, y1, y2, y3, y4, y5, y6, y7, y8, y9⟩ := y
      simp only [aV, AnV.v] at hcc
      have e0 := he 0 _ rfl
      have e1 := he 1 _ rfl
      have e2 := he 2 _ rfl
      have e3 := he 3 _ rfl
      have e4 := he 4 _ rfl
      have e5 := he 5 _ rfl
      have e6 := he 6 _ rfl
      have e7 := he 7 _ rfl
      have f0 := he2 0 _ rfl
      have f1 := he2 1 _ rfl
      have f2 := he2 2 _ rfl
      have f3 := he2 3 _ rfl
      have f4 := he2 4 _ rfl
      have f5 := he2 5 _ rfl
      have f6 := he2 6 _ rfl
      have f7 := he2 7 _ rfl
      simp only [AnV.v, Nat.add_zero] at e0 e1 e2 e3 e4 e5 e6 e7 f0 f1 f2 f3 f4 f5 f6 f7
      replace hcl := Lib.hid hcl
      replace hcc := Lib.hid hcc
      replace hm := Lib.hid hm
      replace hkd := Lib.hid hkd
      clear he he2 hx hy hqx hqy hC
      go_upto_region 4 with fail
      refine Free.wp_region_chain (fun i => i == 10) (fun i => true) (fun _ _ => False) (by kernel_rfl) (by kernel_rfl) (by kernel_rfl) ?_
      generalize wr.drew = wd at *
      (repeat (first | (apply Free.cw_pure rfl rfl; (intro w'; go_simp <;> exact rfl); go_frame) | (apply Free.cw_steady rfl rfl rfl; (intro w' hS; have q0 := Free.sx_cell hS e0 (fun _ _ hT => hT); have q1 := Free.sx_cell hS e1 (fun _ _ hT => hT); have q2 := Free.sx_cell hS e2 (fun _ _ hT => hT); have q3 := Free.sx_cell hS e3 (fun _ _ hT => hT); have q4 := Free.sx_cell hS e4 (fun _ _ hT => hT); have q5 := Free.sx_cell hS e5 (fun _ _ hT => hT); have q6 := Free.sx_cell hS e6 (fun _ _ hT => hT); have q7 := Free.sx_cell hS e7 (fun _ _ hT => hT); have q8 := Free.sx_cell hS f0 (fun _ _ hT => hT); have q9 := Free.sx_cell hS f1 (fun _ _ hT => hT); have q10 := Free.sx_cell hS f2 (fun _ _ hT => hT); have q11 := Free.sx_cell hS f3 (fun _ _ hT => hT); have q12 := Free.sx_cell hS f4 (fun _ _ hT => hT); have q13 := Free.sx_cell hS f5 (fun _ _ hT => hT); have q14 := Free.sx_cell hS f6 (fun _ _ hT => hT); have q15 := Free.sx_cell hS f7 (fun _ _ hT => hT); go_simp <;> exact rfl); go_frame) | (refine Free.cw_skip rfl ?_; go_frame)))
      refine Free.cw_loud rfl rfl (fun K hK => ?_)
      go_wp2_with fail
      refine (hcc.out _).mono ?_
      rintro e w1 ⟨rfl, q, os, rfl⟩
      have hkg := keeps_grow wd q os
      refine hK _ _ rfl (Free.KeepsP.of hkg (by simp)) ?_
      replace hkd := Lib.hid (hkd.out.trans hkg)
      clear hK K hcc hkg
      (repeat (apply Free.cw_pure rfl rfl; (intro w'; go_simp <;> exact rfl); go_frame))
      refine Free.cw_nil ?_
      by_cases hq : C < 0
      · have hd : decide ((0 : Int) ≤ C) = false := by simpa using hq
        have hno2 : ∀ j (hj : j + 1 < Y.length), j + 1 < k + 1 → qlt (Y[j]'(by omega)).q Y[j + 1].q := fun j hj hjk => by
          by_cases e : j + 1 = k
          · have hjm : j = m := by have := hm.out; omega
            subst hjm
            have := hcl.out.1 hq
            simp only [e]
            exact this
          · exact hno.out j hj (by omega)
        replace hno2 := Lib.hid hno2
        go_wp2
        go_roundw
        case rel => exact ⟨k + 1, rfl, by omega, .inl (by omega), hno2, hkd⟩
        case measure => simp [intOf]; omega
      · have hd : decide ((0 : Int) ≤ C) = true := by simpa using hq
        have hf : false = r := by
          rw [← hr.out]
          refine (Bool.eq_false_iff.2 (fun hi => hq (hcl.out.2 ?_))).symm
          have := incA_iff.1 hi m (by have := hm.out; omega)
          have e := hm.out
          subst e
          exact this
        replace hf := Lib.hid hf
        go_wp2
        go_ret
        exact ⟨by rw [← hf.out]; rfl, hkd.out⟩
    · have hlt2 : ¬ ((k : Int) < M) := by omega
      have hf : true = r := by
        rw [← hr.out]
        exact (incA_iff.2 (fun j hj => hno.out j hj (by have := hM.out; omega))).symm
      replace hf := Lib.hid hf
      go_wp2
      go_ret
      exact ⟨by rw [← hf.out]; rfl, hkw.out⟩
end Go.Proofs.YtiplgpefapeapaaGreat

namespace Go.Proofs.YtiplgpefapeapaaGreat
open Go.RowKit

set_option maxRecDepth 100000 in
set_option maxHeartbeats 4000000 in
theorem incC_c (w : World) (v : Value) (Y : List PCl) (h : LC w v Y) :
    Calls Tryz.prog 101 #[v, fnV 102] w fun e w' => e = .returned (.bool (incC Y)) ∧ Keeps [] w w' := by
  obtain ⟨a, c, rfl, hlc, hcm⟩ := h.form
  obtain ⟨M, hM⟩ : ∃ N, Y.length = N := ⟨_, rfl⟩
  rw [hM] at hlc ⊢
  have hMm : M ≤ 9223372036854775807 := by unfold maxLen at hcm; omega
  obtain ⟨r, hr⟩ : ∃ r, incC Y = r := ⟨_, rfl⟩
  rw [hr]
  replace h := Lib.hid h
  replace hM := Lib.hid hM
  replace hr := Lib.hid hr
  go_enter Tryz.func101, Tryz.ntmps101
  go_wp2
  go_loopw [5] (fun i wr => ∃ k : Nat, i = .int .i64 k ∧ 1 ≤ k ∧ (k ≤ M ∨ k = 1) ∧ Hid (∀ j (hj : j + 1 < Y.length), j + 1 < k → (Y[j]'(by omega)).m < Y[j + 1].m) ∧ Hid (Keeps [] w wr)) (fun i _ => M + 1 - (intOf i).toNat)
  case atStart => exact ⟨1, rfl, by omega, .inr rfl, Lib.hid (fun _ _ h => by omega), Lib.hid (Keeps.refl _ _)⟩
  case round =>
    obtain ⟨k, rfl, hk1, hkM, hno, hkw⟩ := hrel
    by_cases hlt : k < M
    · have hlt2 : (k : Int) < M := by omega
      have hkl : k < Y.length := by rw [hM.out]; exact hlt
      obtain ⟨m, hm⟩ : ∃ m, k = m + 1 := ⟨k - 1, by omega⟩
      have hml : m < Y.length := by omega
      have hmM : (m : Int) < M := by omega
      have hwm : IntKind.i64.wrap ((k : Int) - 1) = m := by rw [IntWalk.i64_in _ (by omega)]; omega
      have hkd := hkw.out.drew
      obtain ⟨g, o, c', x, hv, hx, e0, e1, e2, e3, e4⟩ := (h.out.keeps hkd).elem hkl
      obtain ⟨g2, o2, c2, y, hv2, hy, f0, f1, f2, f3, f4⟩ := (h.out.keeps hkd).elem hml
      rw [hM.out] at hv hv2
      cases hv
      cases hv2
      have hqx := hx.m
      have hqy := hy.m
      obtain ⟨C, hC⟩ : ∃ C, cI y.m x.m = C := ⟨_, rfl⟩
      have hcl : C < 0 ↔ Y[m].m < Y[k].m := by rw [← hC, cI_lt, hqx, hqy]
      have hcc := fun W => cmpC_c y x W
      rw [hC] at hcc
      obtain ⟨x0, x1, ⟨x2, x3, x4⟩, ⟨x5, x6, x7⟩, ⟨x8, x9, x10⟩⟩ := x
      obtain ⟨y0, y1, ⟨y2, y3, y4⟩, ⟨y5, y6, y7⟩, ⟨y8, y9, y10⟩⟩ := y
      simp only [slv] at hcc e0 e1 e2 e3 e4 f0 f1 f2 f3 f4
      replace hcl := Lib.hid hcl
      replace hcc := Lib.hid hcc
      replace hm := Lib.hid hm
      replace hkd := Lib.hid hkd
      clear hx hy hqx hqy hC
      go_upto_region 4 with fail
      refine Free.wp_region_chain (fun i => i == 10) (fun i => true) (fun _ _ => False) (by kernel_rfl) (by kernel_rfl) (by kernel_rfl) ?_
      generalize wr.drew = wd at *
      (repeat (first | (apply Free.cw_pure rfl rfl; (intro w'; go_simp <;> exact rfl); go_frame) | (apply Free.cw_steady rfl rfl rfl; (intro w' hS; have q0 := Free.sx_cell hS e0 (fun _ _ hT => hT); have q1 := Free.sx_cell hS e1 (fun _ _ hT => hT); have q2 := Free.sx_cell hS e2 (fun _ _ hT => hT); have q3 := Free.sx_cell hS e3 (fun _ _ hT => hT); have q4 := Free.sx_cell hS e4 (fun _ _ hT => hT); have q5 := Free.sx_cell hS f0 (fun _ _ hT => hT); have q6 := Free.sx_cell hS f1 (fun _ _ hT => hT); have q7 := Free.sx_cell hS f2 (fun _ _ hT => hT); have q8 := Free.sx_cell hS f3 (fun _ _ hT => hT); have q9 := Free.sx_cell hS f4 (fun _ _ hT => hT); go_simp <;> exact rfl); go_frame) | (refine Free.cw_skip rfl ?_; go_frame)))
      refine Free.cw_loud rfl rfl (fun K hK => ?_)
      go_wp2_with fail
      refine (hcc.out _).mono ?_
      rintro e w1 ⟨rfl, hkg⟩
      refine hK _ _ rfl (Free.KeepsP.of hkg (by simp)) ?_
      replace hkd := Lib.hid (hkd.out.trans hkg)
      clear hK K hcc hkg
      (repeat (apply Free.cw_pure rfl rfl; (intro w'; go_simp <;> exact rfl); go_frame))
      refine Free.cw_nil ?_
      by_cases hq : C < 0
      · have hd : decide ((0 : Int) ≤ C) = false := by simpa using hq
        have hno2 : ∀ j (hj : j + 1 < Y.length), j + 1 < k + 1 → (Y[j]'(by omega)).m < Y[j + 1].m := fun j hj hjk => by
          by_cases e : j + 1 = k
          · have hjm : j = m := by have := hm.out; omega
            subst hjm
            have := hcl.out.1 hq
            simp only [e]
            exact this
          · exact hno.out j hj (by omega)
        replace hno2 := Lib.hid hno2
        go_wp2
        go_roundw
        case rel => exact ⟨k + 1, rfl, by omega, .inl (by omega), hno2, hkd⟩
        case measure => simp [intOf]; omega
      · have hd : decide ((0 : Int) ≤ C) = true := by simpa using hq
        have hf : false = r := by
          rw [← hr.out]
          refine (Bool.eq_false_iff.2 (fun hi => hq (hcl.out.2 ?_))).symm
          have := incC_iff.1 hi m (by have := hm.out; omega)
          have e := hm.out
          subst e
          exact this
        replace hf := Lib.hid hf
        go_wp2
        go_ret
        exact ⟨by rw [← hf.out]; rfl, hkd.out⟩
    · have hlt2 : ¬ ((k : Int) < M) := by omega
      have hf : true = r := by
        rw [← hr.out]
        exact (incC_iff.2 (fun j hj => hno.out j hj (by have := hM.out; omega))).symm
      replace hf := Lib.hid hf
      go_wp2
      go_ret
      exact ⟨by rw [← hf.out]; rfl, hkw.out⟩
/-- What the walks count on: all lists are short. -/
structure Ct.Few (c : Ct) : Prop where
  an : c.an.length ≤ 1000
  cl : c.cl.length ≤ 1000
  ins : ∀ a ∈ c.an, a.ins.length ≤ 1000
  ns : ∀ p ∈ c.cl, p.st.length ≤ 1000 ∧ p.sc.length ≤ 1000 ∧ p.ch.length ≤ 1000
set_option maxRecDepth 100000 in
set_option maxHeartbeats 4000000 in
theorem short_c (w : World) (x : CtV) (c : Ct) (h : CtW w x c) (hf : c.Few) :
    Calls Tryz.prog 98 #[ctV x] w fun e w' => e = .returned (.bool true) ∧ Keeps [] w w' := by
  obtain ⟨x0, x1, x2, x3, x4, ⟨x5, x6, x7⟩, ⟨x8, x9, x10⟩⟩ := x
  have han := h.an
  have hcl := h.cl
  have hf1 := hf.an
  have hf2 := hf.cl
  simp only [slv] at han hcl
  obtain ⟨_, _, e1, hla, hca⟩ := han.form
  obtain ⟨_, _, e2, hlc, hcc⟩ := hcl.form
  simp only [Value.slice.injEq] at e1 e2
  obtain ⟨-, e1, -⟩ := e1
  obtain ⟨-, e2, -⟩ := e2
  rw [← e1] at hla hf1
  rw [← e2] at hlc hf2
  have hA := heap_alloc_new w (.cells #[.int .i64 x0, .int .i64 x1, .int .i64 x2, .int .u64 x3, .int .i64 x4, .slice x5 x6 x7, .slice x8 x9 x10] tCt)
  have hkA := (Keeps.refl [] w).alloc (.cells #[.int .i64 x0, .int .i64 x1, .int .i64 x2, .int .u64 x3, .int .i64 x4, .slice x5 x6 x7, .slice x8 x9 x10] tCt)
  have han1 := han.keeps hkA
  have hcl1 := hcl.keeps hkA
  obtain ⟨W, hW⟩ : ∃ W, w.alloc (.cells #[.int .i64 x0, .int .i64 x1, .int .i64 x2, .int .u64 x3, .int .i64 x4, .slice x5 x6 x7, .slice x8 x9 x10] tCt) = W := ⟨_, rfl⟩
  obtain ⟨B, hB⟩ : ∃ B, w.heap.size = B := ⟨_, rfl⟩
  have hn6 : decide ((1024 : Int) < x6) = false := by simp; omega
  have hn9 : decide ((1024 : Int) < x9) = false := by simp; omega
  have hx6m : x6 ≤ 9223372036854775807 := by omega
  have hx9m : x9 ≤ 9223372036854775807 := by omega
  rw [hW] at han1 hcl1 hA hkA
  rw [hB] at hA
  replace han1 := Lib.hid han1
  replace hcl1 := Lib.hid hcl1
  replace hkA := Lib.hid hkA
  replace hW := Lib.hid hW
  replace hB := Lib.hid hB
  replace e1 := Lib.hid e1
  replace e2 := Lib.hid e2
  replace hf := Lib.hid hf
  replace hA := Lib.hid hA
  clear h han hcl
  simp only [ctV, slv]
  go_enter Tryz.func98, Tryz.ntmps98
  go_upto_region 1 with fail
  rw [hW.out, hB.out]
  obtain ⟨i0, i1, i2, i3, i4, i5, i6, if', il⟩ := cl7 hA.out
  go_wp2
  go_loopw [20] (fun i wr => ∃ k : Nat, i = .int .i64 k ∧ k ≤ x6 ∧ Hid (Keeps [] W wr)) (fun i _ => x6 - (intOf i).toNat)
  case atStart => exact ⟨0, rfl, by omega, Lib.hid (Keeps.refl _ _)⟩
  case round =>
    clear i0 i1 i2 i3 i4 i5 i6 if' il
    obtain ⟨k, rfl, hk, hkw⟩ := hrel
    by_cases hlt : k < x6
    · have hlt2 : (k : Int) < x6 := by omega
      have hkl : k < c.an.length := by rw [← e1.out]; exact hlt
      obtain ⟨g, o, c', x, hv, hx, he⟩ := (han1.out.keeps hkw.out).elem hkl
      rw [← e1.out] at hv
      cases hv
      have hil := hf.out.ins _ (List.getElem_mem hkl)
      obtain ⟨_, _, ev, _⟩ := hx.ins.form
      obtain ⟨y0, y1, y2, y3, y4, y5, y6, y7, y8, y9⟩ := x
      simp only [AnV.v, Value.slice.injEq] at ev
      obtain ⟨-, ev, -⟩ := ev
      have hn8 : decide ((1024 : Int) < y8) = false := by simp; omega
      have g0 := he 0 _ rfl
      have g1 := he 1 _ rfl
      have g2 := he 2 _ rfl
      have g3 := he 3 _ rfl
      have g4 := he 4 _ rfl
      have g5 := he 5 _ rfl
      have g6 := he 6 _ rfl
      have g7 := he 7 _ rfl
      simp only [AnV.v, Nat.add_zero] at g0 g1 g2 g3 g4 g5 g6 g7
      replace ev := Lib.hid ev
      have hkn := Lib.hid (hkw.out.trans ((Keeps.refl [] wr).alloc (.cells #[.int .i64 y0, .int .i64 y1, .int .u64 y2, .int .i64 y3, .bool y4, .bool y5, .int .i64 y6, .slice y7 y8 y9] tA)))
      clear he hx
      go_wp2
      go_roundw
      case rel => exact ⟨k + 1, rfl, by omega, hkn⟩
      case measure => simp [intOf]; omega
    · have hlt2 : ¬ ((k : Int) < x6) := by omega
      have hAr := (hkw.out.block _ (lt_of_blk hA.out) (by simp)).trans hA.out
      obtain ⟨i0, i1, i2, i3, i4, i5, i6, if', il⟩ := cl7 hAr
      go_wp2
      generalize wr = W2 at *
      go_loopw [32] (fun i wr => ∃ k : Nat, i = .int .i64 k ∧ k ≤ x9 ∧ Hid (Keeps [] W wr)) (fun i _ => x9 - (intOf i).toNat)
      case atStart => exact ⟨0, rfl, by omega, hkw⟩
      case round =>
        clear i0 i1 i2 i3 i4 i5 i6 if' il
        obtain ⟨k, rfl, hk, hkw⟩ := hrel
        by_cases hlt : k < x9
        · have hlt2 : (k : Int) < x9 := by omega
          have hkl : k < c.cl.length := by rw [← e2.out]; exact hlt
          obtain ⟨g, o, c', x, hv, hx, g0, g1, g2, g3, g4⟩ := (hcl1.out.keeps hkw.out).elem hkl
          rw [← e2.out] at hv
          cases hv
          obtain ⟨hi1, hi2, hi3⟩ := hf.out.ns _ (List.getElem_mem hkl)
          obtain ⟨_, _, ev1, _⟩ := hx.st.form
          obtain ⟨_, _, ev2, _⟩ := hx.sc.form
          obtain ⟨_, _, ev3, _⟩ := hx.ch.form
          obtain ⟨y0, y1, ⟨y2, y3, y4⟩, ⟨y5, y6, y7⟩, ⟨y8, y9, y10⟩⟩ := x
          simp only [slv, Value.slice.injEq] at ev1 ev2 ev3
          simp only [slv] at g0 g1 g2 g3 g4
          obtain ⟨-, ev1, -⟩ := ev1
          obtain ⟨-, ev2, -⟩ := ev2
          obtain ⟨-, ev3, -⟩ := ev3
          have hn1 : decide ((1024 : Int) < y3) = false := by simp; omega
          have hn2 : decide ((1024 : Int) < y6) = false := by simp; omega
          have hn3 : decide ((1024 : Int) < y9) = false := by simp; omega
          replace ev1 := Lib.hid ev1
          replace ev2 := Lib.hid ev2
          replace ev3 := Lib.hid ev3
          have hkn := Lib.hid (hkw.out.trans ((Keeps.refl [] wr).alloc (.cells #[.int .i64 y0, .int .i64 y1, .slice y2 y3 y4, .slice y5 y6 y7, .slice y8 y9 y10] tC)))
          clear hx
          go_wp2
          go_roundw
          case rel => exact ⟨k + 1, rfl, by omega, hkn⟩
          case measure => simp [intOf]; omega
        · have hlt2 : ¬ ((k : Int) < x9) := by omega
          go_wp2
          go_ret
          exact ⟨rfl, hkA.out.trans hkw.out⟩
end Go.Proofs.YtiplgpefapeapaaGreat

namespace Go.Proofs.YtiplgpefapeapaaGreat
open Go.RowKit

theorem ansOk_def (a : Ans) : ansOk a = (mach a.m && mach a.ow && decide (0 ≤ a.ep) && decide (0 ≤ a.lu) && a.ins.all insOk) := rfl
theorem all_take {α : Type} {l : List α} {p : α → Bool} (h : ∀ j (hj : j < l.length), p l[j] = true) : l.all p = true := List.all_eq_true.2 (fun x hx => by obtain ⟨j, hj, rfl⟩ := List.getElem_of_mem hx; exact h j hj)
theorem all_no {α : Type} {l : List α} {p : α → Bool} {j : Nat} (hj : j < l.length) (h : p l[j] = false) : l.all p = false := List.all_eq_false.2 ⟨l[j], List.getElem_mem hj, by rw [h]; decide⟩
set_option maxRecDepth 100000 in
set_option maxHeartbeats 8000000 in
theorem formed_c (w : World) (x : CtV) (c : Ct) (h : CtW w x c) (hf : c.Few) :
    Calls Tryz.prog 70 #[ctV x] w fun e w' => e = .returned (.bool (wf c)) ∧ Keeps [] w w' := by
  have hsh := fun (W : World) (hk : Keeps [] w W) => short_c W x c (h.keeps hk) hf
  have him := h.im
  have his := h.is
  have hs0 := h.s0
  have han := h.an
  have hcl := h.cl
  have hinA := fun (W : World) (hk : Keeps [] w W) => incA_c W _ _ (han.keeps hk)
  have hinC := fun (W : World) (hk : Keeps [] w W) => incC_c W _ _ (hcl.keeps hk)
  obtain ⟨x0, x1, x2, x3, x4, ⟨x5, x6, x7⟩, ⟨x8, x9, x10⟩⟩ := x
  simp only [ctV, slv] at hsh han hcl hinA hinC
  simp only at him his hs0
  obtain ⟨_, _, e1, hla, hca⟩ := han.form
  simp only [Value.slice.injEq] at e1
  obtain ⟨-, e1, -⟩ := e1
  rw [← e1] at hla
  have hx6m : x6 ≤ 9223372036854775807 := by unfold maxLen at hca; omega
  have hA := heap_alloc_new w (.cells #[.int .i64 x0, .int .i64 x1, .int .i64 x2, .int .u64 x3, .int .i64 x4, .slice x5 x6 x7, .slice x8 x9 x10] tCt)
  have hkA := (Keeps.refl [] w).alloc (.cells #[.int .i64 x0, .int .i64 x1, .int .i64 x2, .int .u64 x3, .int .i64 x4, .slice x5 x6 x7, .slice x8 x9 x10] tCt)
  obtain ⟨W, hW⟩ : ∃ W, w.alloc (.cells #[.int .i64 x0, .int .i64 x1, .int .i64 x2, .int .u64 x3, .int .i64 x4, .slice x5 x6 x7, .slice x8 x9 x10] tCt) = W := ⟨_, rfl⟩
  obtain ⟨B, hB⟩ : ∃ B, w.heap.size = B := ⟨_, rfl⟩
  rw [hW] at hA hkA
  rw [hB] at hA
  obtain ⟨r, hr⟩ : ∃ r, wf c = r := ⟨_, rfl⟩
  rw [hr]
  unfold wf at hr
  rw [← him, ← his, ← hs0] at hr
  obtain ⟨m1, hm1⟩ : ∃ b, mach x0 = b := ⟨_, rfl⟩
  obtain ⟨m2, hm2⟩ : ∃ b, mach x2 = b := ⟨_, rfl⟩
  obtain ⟨b1, hb1⟩ : ∃ b, incA c.an = b := ⟨_, rfl⟩
  obtain ⟨b2, hb2⟩ : ∃ b, incC c.cl = b := ⟨_, rfl⟩
  have hc1 := fun W => mach_c x0 W
  have hc2 := fun W => mach_c x2 W
  rw [hm1] at hc1 hr
  rw [hm2] at hc2 hr
  rw [hb1] at hinA hr
  rw [hb2] at hinC hr
  replace hsh := Lib.hid hsh
  replace hinA := Lib.hid hinA
  replace hinC := Lib.hid hinC
  replace hc1 := Lib.hid hc1
  replace hc2 := Lib.hid hc2
  replace hr := Lib.hid hr
  replace han := Lib.hid han
  replace hkA := Lib.hid hkA
  replace hW := Lib.hid hW
  replace hB := Lib.hid hB
  replace e1 := Lib.hid e1
  replace hf := Lib.hid hf
  replace hA := Lib.hid hA
  clear h hcl hm1 hm2 hb1 hb2 him his hs0
  simp only [ctV, slv]
  go_enter Tryz.func70, Tryz.ntmps70
  go_upto_region 1 with fail
  rw [hW.out, hB.out]
  obtain ⟨i0, i1, i2, i3, i4, i5, i6, if', il⟩ := cl7 hA.out
  go_wp2_with fail
  refine (hc1.out _).mono ?_
  rintro e w' ⟨rfl, hw⟩
  obtain rfl := hw
  clear hc1
  cases m1 with
  | false =>
    have hd : false = r := by rw [← hr.out]; simp
    replace hd := Lib.hid hd
    go_wp2
    go_ret
    exact ⟨by rw [← hd.out]; rfl, hkA.out⟩
  | true =>
  by_cases h1 : x1 < 1
  · have hd : false = r := by
      rw [← hr.out]
      have : decide (1 ≤ x1) = false := by simpa using h1
      rw [this]; simp
    replace hd := Lib.hid hd
    go_wp2
    go_ret
    exact ⟨by rw [← hd.out]; rfl, hkA.out⟩
  have h1d : decide (x1 < 1) = false := by simpa using h1
  have h1e : decide (1 ≤ x1) = true := by simpa using h1
  rw [h1e] at hr
  go_wp2_with fail
  refine (hc2.out _).mono ?_
  rintro e w' ⟨rfl, hw⟩
  obtain rfl := hw
  clear hc2
  cases m2 with
  | false =>
    have hd : false = r := by rw [← hr.out]; simp
    replace hd := Lib.hid hd
    go_wp2
    go_ret
    exact ⟨by rw [← hd.out]; rfl, hkA.out⟩
  | true =>
  go_wp2_with fail
  refine (hsh.out _ hkA.out).mono ?_
  rintro e w1 ⟨rfl, hk1⟩
  have hk01 := Lib.hid (hkA.out.trans hk1)
  have hA1 := (hk1.block _ (lt_of_blk hA.out) (by simp)).trans hA.out
  replace hA1 := Lib.hid hA1
  clear i0 i1 i2 i3 i4 i5 i6 if' il hsh hk1
  obtain ⟨i0, i1, i2, i3, i4, i5, i6, if', il⟩ := cl7 hA1.out
  go_wp2_with fail
  refine (hinA.out _ hk01.out).mono ?_
  rintro e w2 ⟨rfl, hk1⟩
  have hk02 := Lib.hid (hk01.out.trans hk1)
  have hA2 := (hk1.block _ (lt_of_blk hA1.out) (by simp)).trans hA1.out
  replace hA2 := Lib.hid hA2
  clear i0 i1 i2 i3 i4 i5 i6 if' il hinA hk1
  obtain ⟨i0, i1, i2, i3, i4, i5, i6, if', il⟩ := cl7 hA2.out
  cases b1 with
  | false =>
    have hd : false = r := by rw [← hr.out]; simp
    replace hd := Lib.hid hd
    go_wp2
    go_ret
    exact ⟨by rw [← hd.out]; rfl, hk02.out⟩
  | true =>
  go_wp2_with fail
  refine (hinC.out _ hk02.out).mono ?_
  rintro e w3 ⟨rfl, hk1⟩
  have hk03 := Lib.hid (hk02.out.trans hk1)
  have hA3 := (hk1.block _ (lt_of_blk hA2.out) (by simp)).trans hA2.out
  replace hA3 := Lib.hid hA3
  clear i0 i1 i2 i3 i4 i5 i6 if' il hinC hk1
  obtain ⟨i0, i1, i2, i3, i4, i5, i6, if', il⟩ := cl7 hA3.out
  cases b2 with
  | false =>
    have hd : false = r := by rw [← hr.out]; simp
    replace hd := Lib.hid hd
    go_wp2
    go_ret
    exact ⟨by rw [← hd.out]; rfl, hk03.out⟩
  | true =>
  have hr2 : c.an.all ansOk = r := by rw [← hr.out]; simp
  replace hr2 := Lib.hid hr2
  have han3 := Lib.hid (han.out.keeps hk03.out)
  clear hr han
  go_wp2
  go_loopw [45] (fun i wr => ∃ k : Nat, i = .int .i64 k ∧ k ≤ x6 ∧ Hid (∀ j (hj : j < c.an.length), j < k → ansOk c.an[j] = true) ∧ Hid (Keeps [] w3 wr)) (fun i _ => x6 - (intOf i).toNat)
  case atStart => exact ⟨0, rfl, by omega, Lib.hid (fun _ _ h => by omega), Lib.hid (Keeps.refl _ _)⟩
  case round =>
    clear i0 i1 i2 i3 i4 i5 i6 if' il
    obtain ⟨k, rfl, hk, hno, hkw⟩ := hrel
    by_cases hlt : k < x6
    · have hlt2 : (k : Int) < x6 := by omega
      have hkl : k < c.an.length := by rw [← e1.out]; exact hlt
      obtain ⟨g, o, c', y, hv, hy, he⟩ := (han3.out.keeps hkw.out).elem hkl
      rw [← e1.out] at hv
      cases hv
      obtain ⟨a, ha⟩ : ∃ a, c.an[k] = a := ⟨_, rfl⟩
      rw [ha] at hy
      have hno1 : ansOk a = false → false = r := fun h => by rw [← hr2.out]; exact (all_no hkl (by rw [ha]; exact h)).symm
      have hno2 : ansOk a = true → ∀ j (hj : j < c.an.length), j < k + 1 → ansOk c.an[j] = true := fun h j hj hjk => by
        by_cases e : j = k
        · subst e; rw [ha]; exact h
        · exact hno.out j hj (by omega)
      obtain ⟨ai, aic, ev, hl1, hl2, _⟩ := hy.ins.form
      have hins := hy.ins
      obtain ⟨y0, y1, y2, y3, y4, y5, y6, y7, y8, y9⟩ := y
      have q0 := hy.m
      have q1 := hy.ow
      have q3 := hy.ep
      have q6 := hy.lu
      simp only [AnV.v] at ev hins
      simp only at q0 q1 q3 q6
      simp only [Value.slice.injEq] at ev
      obtain ⟨-, ev, -⟩ := ev
      have hy8m : y8 ≤ 9223372036854775807 := by unfold maxLen at hl2; omega
      have hok : ansOk a = (mach y0 && mach y1 && decide (0 ≤ y3) && decide (0 ≤ y6) && a.ins.all insOk) := by rw [ansOk_def, q0, q1, q3, q6]
      rw [hok] at hno1 hno2
      obtain ⟨n1, hn1⟩ : ∃ b, mach y0 = b := ⟨_, rfl⟩
      obtain ⟨n2, hn2⟩ : ∃ b, mach y1 = b := ⟨_, rfl⟩
      have hd1 := fun W => mach_c y0 W
      have hd2 := fun W => mach_c y1 W
      rw [hn1] at hd1 hno1 hno2
      rw [hn2] at hd2 hno1 hno2
      have g0 := he 0 _ rfl
      have g1 := he 1 _ rfl
      have g2 := he 2 _ rfl
      have g3 := he 3 _ rfl
      have g4 := he 4 _ rfl
      have g5 := he 5 _ rfl
      have g6 := he 6 _ rfl
      have g7 := he 7 _ rfl
      simp only [AnV.v, Nat.add_zero] at g0 g1 g2 g3 g4 g5 g6 g7
      have hbA := heap_alloc_new wr (.cells #[.int .i64 y0, .int .i64 y1, .int .u64 y2, .int .i64 y3, .bool y4, .bool y5, .int .i64 y6, .slice y7 y8 y9] tA)
      have hkn := (Keeps.refl [] wr).alloc (.cells #[.int .i64 y0, .int .i64 y1, .int .u64 y2, .int .i64 y3, .bool y4, .bool y5, .int .i64 y6, .slice y7 y8 y9] tA)
      have hkr := Lib.hid (hkw.out.trans hkn)
      have hinsn := Lib.hid (hins.keeps hkn)
      replace hno1 := Lib.hid hno1
      replace hno2 := Lib.hid hno2
      replace hd1 := Lib.hid hd1
      replace hd2 := Lib.hid hd2
      replace ev := Lib.hid ev
      replace hbA := Lib.hid hbA
      replace ha := Lib.hid ha
      clear he hy q0 q1 q3 q6 hok hn1 hn2 hins hkn hl1 hl2 hkw hno
      go_upto_region 6 with fail
      generalize (wr.alloc (.cells #[.int .i64 y0, .int .i64 y1, .int .u64 y2, .int .i64 y3, .bool y4, .bool y5, .int .i64 y6, .slice y7 y8 y9] tA)) = WA at *
      obtain ⟨XA, hXA⟩ : ∃ X, wr.heap.size = X := ⟨_, rfl⟩
      rw [hXA] at hbA ⊢
      replace hXA := Lib.hid hXA
      clear g0 g1 g2 g3 g4 g5 g6 g7
      obtain ⟨g0, g1, g2, g3, g4, g5, g6, g7, gf, gl⟩ := cl8 hbA.out
      have hfin := Lib.hid (hk03.out.trans hkr.out)
      go_wp2_with fail
      refine (hd1.out _).mono ?_
      rintro e w' ⟨rfl, hw⟩
      obtain rfl := hw
      cases n1 with
      | false =>
        have hd := Lib.hid (hno1.out (by simp))
        go_wp2
        go_ret
        exact ⟨by rw [← hd.out]; rfl, hfin.out⟩
      | true =>
      go_wp2_with fail
      refine (hd2.out _).mono ?_
      rintro e w' ⟨rfl, hw⟩
      obtain rfl := hw
      cases n2 with
      | false =>
        have hd := Lib.hid (hno1.out (by simp))
        go_wp2
        go_ret
        exact ⟨by rw [← hd.out]; rfl, hfin.out⟩
      | true =>
      by_cases h3 : y3 < 0
      · have hd := Lib.hid (hno1.out (by have : decide (0 ≤ y3) = false := by simpa using h3
                                         rw [this]; simp))
        go_wp2
        go_ret
        exact ⟨by rw [← hd.out]; rfl, hfin.out⟩
      have h3d : decide (y3 < 0) = false := by simpa using h3
      have h3e : decide (0 ≤ y3) = true := by simpa using h3
      by_cases h6 : y6 < 0
      · have hd := Lib.hid (hno1.out (by have : decide (0 ≤ y6) = false := by simpa using h6
                                         rw [this]; simp))
        go_wp2
        go_ret
        exact ⟨by rw [← hd.out]; rfl, hfin.out⟩
      have h6d : decide (y6 < 0) = false := by simpa using h6
      have h6e : decide (0 ≤ y6) = true := by simpa using h6
      rw [h3e, h6e] at hno1 hno2
      simp only [Bool.and_self, Bool.true_and] at hno1 hno2
      go_wp2
      generalize WA = W4 at *
      go_loopw [72] (fun i wr => ∃ q : Nat, i = .int .i64 q ∧ q ≤ y8 ∧ Hid (∀ j (hj : j < a.ins.length), j < q → insOk a.ins[j] = true) ∧ Hid (Keeps [] W4 wr)) (fun i _ => y8 - (intOf i).toNat)
      case atStart => exact ⟨0, rfl, by omega, Lib.hid (fun _ _ h => by omega), Lib.hid (Keeps.refl _ _)⟩
      case round =>
        clear g0 g1 g2 g3 g4 g5 g6 g7 gf gl
        obtain ⟨q, rfl, hq, hnq, hkq⟩ := hrel
        by_cases hltq : q < y8
        · have hlt2q : (q : Int) < y8 := by omega
          have hql : q < a.ins.length := by rw [← ev.out]; exact hltq
          obtain ⟨gi, oi, ci, hvi, hei⟩ := (hinsn.out.keeps hkq.out).elem hql
          rw [← ev.out] at hvi
          cases hvi
          obtain ⟨⟨z0, z1, z2⟩, hz⟩ : ∃ z, a.ins[q] = z := ⟨_, rfl⟩
          rw [hz] at hei
          have t0 := hei 0 _ rfl
          have t1 := hei 1 _ rfl
          have t2 := hei 2 _ rfl
          simp only [shT, Nat.add_zero] at t0 t1 t2
          obtain ⟨n3, hn3⟩ : ∃ b, mach z0 = b := ⟨_, rfl⟩
          have hd3 := fun W => mach_c z0 W
          rw [hn3] at hd3
          have hok : insOk a.ins[q] = (n3 && decide (0 ≤ z2)) := by rw [hz, ← hn3]; rfl
          have hbI := heap_alloc_new wr (.cells #[.int .i64 z0, .int .u64 z1, .int .i64 z2] tI)
          have hkI := (Keeps.refl [] wr).alloc (.cells #[.int .i64 z0, .int .u64 z1, .int .i64 z2] tI)
          have hkqI := Lib.hid (hkq.out.trans hkI)
          have hfq := Lib.hid (hfin.out.trans hkqI.out)
          replace hd3 := Lib.hid hd3
          replace hok := Lib.hid hok
          replace hbI := Lib.hid hbI
          replace hz := Lib.hid hz
          clear hei hn3 hkI
          go_upto_region 11 with fail
          generalize (wr.alloc (.cells #[.int .i64 z0, .int .u64 z1, .int .i64 z2] tI)) = WI at *
          obtain ⟨XI, hXI⟩ : ∃ X, wr.heap.size = X := ⟨_, rfl⟩
          rw [hXI] at hbI ⊢
          replace hXI := Lib.hid hXI
          clear t0 t1 t2
          obtain ⟨t0, t1, t2, tf, tl⟩ := cl3 hbI.out
          go_wp2_with fail
          refine (hd3.out _).mono ?_
          rintro e w' ⟨rfl, hw⟩
          obtain rfl := hw
          cases n3 with
          | false =>
            have hd := Lib.hid (hno1.out (all_no hql (by rw [hok.out]; rfl)))
            go_wp2
            go_ret
            exact ⟨by rw [← hd.out]; rfl, hfq.out⟩
          | true =>
          by_cases h2 : z2 < 0
          · have hd := Lib.hid (hno1.out (all_no hql (by rw [hok.out]; simpa using h2)))
            go_wp2
            go_ret
            exact ⟨by rw [← hd.out]; rfl, hfq.out⟩
          have h2d : decide (z2 < 0) = false := by simpa using h2
          have hnq2 : ∀ j (hj : j < a.ins.length), j < q + 1 → insOk a.ins[j] = true := fun j hj hjq => by
            by_cases e : j = q
            · subst e; rw [hok.out]; simpa using h2
            · exact hnq.out j hj (by omega)
          replace hnq2 := Lib.hid hnq2
          go_wp2
          go_roundw
          case rel => exact ⟨q + 1, rfl, by omega, hnq2, hkqI⟩
          case measure => simp [intOf]; omega
        · have hlt2q : ¬ ((q : Int) < y8) := by omega
          have hn4 := Lib.hid (hno2.out (all_take (fun j hj => hnq.out j hj (by have := ev.out; omega))))
          have hkz := Lib.hid (hkr.out.trans hkq.out)
          go_wp2
          go_roundw
          case rel => exact ⟨k + 1, rfl, by omega, hn4, hkz⟩
          case measure => simp [intOf]; omega
    · have hlt2 : ¬ ((k : Int) < x6) := by omega
      have hd : true = r := by rw [← hr2.out]; exact (all_take (fun j hj => hno.out j hj (by have := e1.out; omega))).symm
      have hfin := Lib.hid (hk03.out.trans hkw.out)
      replace hd := Lib.hid hd
      go_wp2
      go_ret
      exact ⟨by rw [← hd.out]; rfl, hfin.out⟩
end Go.Proofs.YtiplgpefapeapaaGreat

namespace Go.Proofs.YtiplgpefapeapaaGreat
open Go.RowKit

abbrev tS : Nat := 115
theorem sLaw : WideMaps.KeyLaw Tryz.prog tS := deep_law_laid laidOut (m := 4) (by omega) (of_decide_eq_true (by kernel_rfl)) (by kernel_rfl) (by rw [Tryz.underlying115])
theorem s_key (x : Qn) (h : qOk x) : ∃ l, keyOf Tryz.prog tS (qV x) = some l := by
  obtain ⟨m, o, n⟩ := x
  obtain ⟨hm, ho, hn⟩ := h
  simp only at hm ho hn
  obtain ⟨d, hd⟩ : ∃ d, Tryz.prog.types.size = d + 2 := ⟨Tryz.prog.types.size - 2, by have : 2 ≤ Tryz.prog.types.size := of_decide_eq_true (by kernel_rfl); omega⟩
  have h1 : Tryz.prog.keyType tS = true := by kernel_rfl
  have h2 : (qV (m, o, n)).formed Tryz.prog tS = true := by kernel_rfl
  have c1 : Tryz.prog.cellsOf tS = 3 := by kernel_rfl
  have c3 : Tryz.prog.cellsOf 3 = 1 := by kernel_rfl
  have c4 : Tryz.prog.cellsOf 26 = 1 := by kernel_rfl
  unfold keyOf
  simp only [Tryz.underlying115, h1, h2, hd, Bool.and_self, if_true]
  have hk : Tryz.prog.keyLits (d + 2 + 1) tS (qV (m, o, n)).cells.toList = some [.int .i64 m, .int .i64 o, .int .u64 n] := by
    have wm : (Lit.int .i64 m).wf = true := hm
    have wo : (Lit.int .i64 o).wf = true := ho
    have wn := w64u hn
    simp [Program.keyLits, Tryz.underlying115, Tryz.underlying3, Tryz.underlying26, c1, c3, c4, Value.cells, wm, wo, wn]
  rw [hk]
  exact ⟨_, rfl⟩
def ktS : MapS.KT Tryz.prog tS Qn := ⟨qV, qOk, Maps.Keyed.of_law sLaw, s_key, fun x y h => by
  obtain ⟨a, b, c⟩ := x
  obtain ⟨a', b', c'⟩ := y
  simp [qV] at h
  obtain ⟨h1, h2, h3⟩ := h
  rw [h1, h2, show c = c' by omega]⟩
abbrev tK : Nat := 120
theorem kLaw : WideMaps.KeyLaw Tryz.prog tK := deep_law_laid laidOut (m := 4) (by omega) (of_decide_eq_true (by kernel_rfl)) (by kernel_rfl) (by rw [Tryz.underlying120])
theorem k_key (x : Qn) (h : qOk x) : ∃ l, keyOf Tryz.prog tK (qV x) = some l := by
  obtain ⟨m, o, n⟩ := x
  obtain ⟨hm, ho, hn⟩ := h
  simp only at hm ho hn
  obtain ⟨d, hd⟩ : ∃ d, Tryz.prog.types.size = d + 2 := ⟨Tryz.prog.types.size - 2, by have : 2 ≤ Tryz.prog.types.size := of_decide_eq_true (by kernel_rfl); omega⟩
  have h1 : Tryz.prog.keyType tK = true := by kernel_rfl
  have h2 : (qV (m, o, n)).formed Tryz.prog tK = true := by kernel_rfl
  have c1 : Tryz.prog.cellsOf tK = 3 := by kernel_rfl
  have c3 : Tryz.prog.cellsOf 3 = 1 := by kernel_rfl
  have c4 : Tryz.prog.cellsOf 26 = 1 := by kernel_rfl
  unfold keyOf
  simp only [Tryz.underlying120, h1, h2, hd, Bool.and_self, if_true]
  have hk : Tryz.prog.keyLits (d + 2 + 1) tK (qV (m, o, n)).cells.toList = some [.int .i64 m, .int .i64 o, .int .u64 n] := by
    have wm : (Lit.int .i64 m).wf = true := hm
    have wo : (Lit.int .i64 o).wf = true := ho
    have wn := w64u hn
    simp [Program.keyLits, Tryz.underlying120, Tryz.underlying3, Tryz.underlying26, c1, c3, c4, Value.cells, wm, wo, wn]
  rw [hk]
  exact ⟨_, rfl⟩
def ktK : MapS.KT Tryz.prog tK Qn := ⟨qV, qOk, Maps.Keyed.of_law kLaw, k_key, fun x y h => by
  obtain ⟨a, b, c⟩ := x
  obtain ⟨a', b', c'⟩ := y
  simp [qV] at h
  obtain ⟨h1, h2, h3⟩ := h
  rw [h1, h2, show c = c' by omega]⟩
theorem z_key (x : Int) (h : W64 x) : ∃ l, keyOf Tryz.prog 3 (zV x) = some l := ⟨_, Maps.keyOf_int_mk Tryz.underlying3 h⟩
def ktZ : MapS.KT Tryz.prog 3 Int := ⟨zV, W64, Maps.int_keyed Tryz.underlying3, z_key, fun x y h => by simpa using h⟩
end Go.Proofs.YtiplgpefapeapaaGreat

namespace Go.Proofs.YtiplgpefapeapaaGreat
open Go.RowKit

def strip (a : Ans) : Ans := { a with ins := [] }
def stepB (O : List (Qn × Int)) (P : List PCl) (a : Ans) : List PCl := needC O (openC P a) a
/-- The claims without their scions. -/
def basC (O : List (Qn × Int)) (Y : List Ans) : List PCl := Y.foldl (stepB O) []
def basOf (O : List (Qn × Int)) (Y : List Ans) (m : Int) : PCl := ⟨m, epOf Y m, stOf O Y m, [], chOf O Y m⟩
theorem strip_srt {Y : List Ans} (h : SrtA Y) : SrtA (Y.map strip) := by unfold SrtA; rw [List.pairwise_map]; exact h
theorem ms_strip (Y : List Ans) : msOf (Y.map strip) = msOf Y := by unfold msOf; rw [List.foldl_map]; rfl
theorem basC_strip (O : List (Qn × Int)) (Y : List Ans) : basC O Y = rawOf (trOf []) O (Y.map strip) := by
  unfold basC rawOf
  rw [List.foldl_map]
  rfl
theorem sc_strip (t : Tr) (m : Int) : ∀ (Y : List Ans) (l : List T3), (Y.map strip).foldl (scA t m) l = l
  | [], _ => rfl
  | a :: Y, l => by
    rw [List.map_cons, List.foldl_cons]
    have : scA t m l (strip a) = l := by unfold scA strip; split <;> rfl
    rw [this]
    exact sc_strip t m Y l
theorem basC_eq {O : List (Qn × Int)} {Y : List Ans} (hs : SrtA Y) : basC O Y = (msOf Y).map (basOf O Y) := by
  rw [basC_strip, (rawOf_eq (trOf []) O (Y.map strip) (strip_srt hs)).1, ms_strip]
  refine List.map_congr_left (fun m _ => ?_)
  unfold clOf basOf
  have e1 : epOf (Y.map strip) m = epOf Y m := by
    unfold epOf
    rw [List.find?_map, Option.map_map]
    rfl
  have e2 : stOf O (Y.map strip) m = stOf O Y m := by unfold stOf; rw [List.filterMap_map]; rfl
  have e3 : chOf O (Y.map strip) m = chOf O Y m := by unfold chOf; rw [List.filterMap_map]; rfl
  have e4 : scOf (trOf []) (Y.map strip) m = [] := sc_strip _ m Y []
  rw [e1, e2, e3, e4]
theorem basC_ms {O : List (Qn × Int)} {Y : List Ans} (hs : SrtA Y) : (basC O Y).map PCl.m = msOf Y := by
  rw [basC_eq hs, List.map_map]
  have : (PCl.m ∘ basOf O Y) = id := rfl
  rw [this, List.map_id]
theorem ms_srt {Y : List Ans} (hs : SrtA Y) : (msOf Y).Pairwise (· < ·) ∧ ∀ m, m ∈ msOf Y ↔ ∃ a ∈ Y, a.m = m := (rawOf_eq (trOf []) [] Y hs).2
theorem basC_take (O : List (Qn × Int)) (Y : List Ans) (k : Nat) (hk : k < Y.length) : basC O (Y.take (k + 1)) = stepB O (basC O (Y.take k)) Y[k] := foldl_succ _ _ _ _ hk
/-- What the next answer finds. -/
theorem basC_next {O : List (Qn × Int)} {Z : List Ans} {a : Ans} (hs : SrtA (Z ++ [a])) :
    (∃ n, (basC O Z).length = n + 1 ∧ (∃ h : n < (basC O Z).length, ((basC O Z)[n]'h).m = a.m) ∧ openC (basC O Z) a = basC O Z) ∨
    ((∀ p ∈ basC O Z, p.m ≠ a.m) ∧ openC (basC O Z) a = basC O Z ++ [⟨a.m, a.ep, [], [], []⟩]) := by
  obtain ⟨hs1, _, hs2⟩ := List.pairwise_append.1 hs
  have hle : ∀ b ∈ Z, b.m ≤ a.m := fun b hb => by have := hs2 b hb a (by simp); unfold qlt Ans.q at this; simp only at this; omega
  obtain ⟨i2, i3⟩ := ms_srt hs1
  have hm := basC_ms (O := O) hs1
  generalize basC O Z = P at *
  rcases nil_or_snoc P with h | ⟨R, c, h⟩
  · subst h
    exact .inr ⟨by simp, rfl⟩
  · subst h
    have hc : c.m ∈ msOf Z := by rw [← hm]; simp
    obtain ⟨b, hb, hbc⟩ := (i3 c.m).1 hc
    rw [openC_snoc]
    by_cases e : c.m = a.m
    · refine .inl ⟨R.length, by simp, ⟨by simp, by simp [e]⟩, by rw [if_pos e]⟩
    · refine .inr ⟨fun p hp hpa => ?_, by rw [if_neg e]⟩
      have hlt : c.m < a.m := by have := hle b hb; omega
      rcases List.mem_append.1 hp with hp | hp
      · rw [← hm, List.map_append, List.map_cons, List.map_nil] at i2
        have := (List.pairwise_append.1 i2).2.2 p.m (List.mem_map.2 ⟨p, hp, rfl⟩) c.m (by simp)
        omega
      · rw [List.mem_singleton.1 hp] at hpa
        exact e hpa
/-! ### the map by machine -/
theorem get_zip : ∀ {ms : List Int} {bs : List Nat} (_ : bs.length = ms.length) (_ : ms.Nodup) (k : Nat) (h1 : k < ms.length) (h2 : k < bs.length), MapS.get ms[k] (ms.zip bs) = some bs[k]
  | [], _, _, _, k, h1, _ => by simp at h1
  | m :: ms, [], h, _, _, _, _ => by simp at h
  | m :: ms, b :: bs, _, _, 0, _, _ => by simp [MapS.get]
  | m :: ms, b :: bs, hl, hn, k + 1, h1, h2 => by
    obtain ⟨n1, n2⟩ := List.nodup_cons.1 hn
    have hk : k < ms.length := by simpa using h1
    have hne : ¬ m = ms[k] := fun e => n1 (by rw [e]; exact List.getElem_mem hk)
    simp only [List.zip_cons_cons, List.getElem_cons_succ, MapS.get, if_neg hne]
    exact get_zip (by simpa using hl) n2 k hk (by simpa using h2)
theorem get_zip_none : ∀ {ms : List Int} {bs : List Nat} {m : Int}, m ∉ ms → MapS.get m (ms.zip bs) = none
  | [], _, _, _ => by simp [MapS.get]
  | x :: ms, [], _, _ => by simp [MapS.get]
  | x :: ms, b :: bs, m, h => by
    have hne : ¬ x = m := fun e => h (by simp [e])
    simp only [List.zip_cons_cons, MapS.get, if_neg hne]
    exact get_zip_none (fun hm => h (by simp [hm]))
theorem zip_snoc {ms : List Int} {bs : List Nat} (h : bs.length = ms.length) (m : Int) (b : Nat) : (ms ++ [m]).zip (bs ++ [b]) = ms.zip bs ++ [(m, b)] := by
  rw [List.zip_append h.symm]
  rfl
theorem lt_nodup {l : List Int} (h : l.Pairwise (· < ·)) : l.Nodup := h.imp (fun h => by omega)
/-! ### the scions -/
theorem outsOf_nd (Y : List Ans) : MapS.ND (outsOf Y) := by
  unfold outsOf
  suffices h : ∀ (Y : List Ans) (acc : List (Qn × Int)), MapS.ND acc → MapS.ND (Y.foldl outsA acc) from h Y [] List.nodup_nil
  intro Y
  induction Y with
  | nil => exact fun _ h => h
  | cons a Y ih =>
    refine fun acc h => ih _ ?_
    unfold outsA
    generalize a.ins = xs
    induction xs generalizing acc with
    | nil => exact h
    | cons x r ih2 =>
      refine ih2 _ ?_
      unfold outA
      split
      · exact h
      · rename_i hn
        exact MapS.nd_snoc h (by simpa using hn) _
def scE (Y : List Ans) (m : Int) (p : Qn × Int) : Option T3 := if p.1.1 = m then some (p.1.2.1, p.1.2.2, luL Y (p.1.2.1, m, p.1.2.2)) else none
def scD (Y : List Ans) (m : Int) (L : List (Qn × Int)) : List T3 := L.filterMap (scE Y m)
theorem scD_snoc (Y : List Ans) (m : Int) (L : List (Qn × Int)) (p : Qn × Int) : scD Y m (L ++ [p]) = scD Y m L ++ (scE Y m p).toList := by
  unfold scD
  rw [List.filterMap_append]
  have : [p].filterMap (scE Y m) = (scE Y m p).toList := by cases h : scE Y m p <;> simp [h]
  rw [this]
theorem scD_perm {Y : List Ans} (m : Int) {L : List (Qn × Int)} (hp : L.Perm (outsOf Y)) : (scD Y m L).Perm (scOf (trOf Y) Y m) := by
  refine (hp.filterMap _).trans ((List.perm_ext_iff_of_nodup ?_ (scOf_nd _ _ _)).2 (fun e => ?_))
  · have hn := outsOf_nd Y
    generalize outsOf Y = O at hn
    clear hp
    induction O with
    | nil => exact List.nodup_nil
    | cons p O ih =>
      obtain ⟨n1, n2⟩ := List.nodup_cons.1 hn
      rw [List.filterMap_cons]
      cases h : scE Y m p with
      | none => exact ih n2
      | some e =>
        refine List.nodup_cons.2 ⟨fun hm => ?_, ih n2⟩
        obtain ⟨q, hq, hqe⟩ := List.mem_filterMap.1 hm
        refine n1 (List.mem_map.2 ⟨q, hq, ?_⟩)
        unfold scE at h hqe
        split at h
        · split at hqe
          · rename_i h1 h2
            cases h
            simp only [Option.some.injEq, Prod.mk.injEq] at hqe
            obtain ⟨⟨q0, q1, q2⟩, qo⟩ := q
            obtain ⟨⟨p0, p1, p2⟩, po⟩ := p
            simp only at h1 h2 hqe ⊢
            rw [h1, h2, hqe.1, hqe.2.1]
          · cases hqe
        · cases h
  · rw [scOf_mem, List.mem_filterMap]
    constructor
    · rintro ⟨⟨⟨q0, q1, q2⟩, o⟩, hq, he⟩
      unfold scE at he
      split at he
      · rename_i hm
        simp only at hm
        subst hm
        cases he
        have hg := (MapS.get_iff (outsOf_nd Y)).2 hq
        obtain ⟨a, ha, x, hx, e⟩ := (outsOf_some Y (q0, q1, q2)).1 (by rw [hg]; rfl)
        simp only [Prod.mk.injEq] at e
        obtain ⟨e1, e2, e3⟩ := e
        refine ⟨a, ha, e1.symm, x, hx, ?_⟩
        unfold scN
        rw [luOf_trOf, e2, e3]
      · cases he
    · rintro ⟨a, ha, hm, x, hx, rfl⟩
      have h1 := (outsOf_some Y (m, x.1, x.2.1)).2 ⟨a, ha, x, hx, by rw [hm]⟩
      obtain ⟨o, ho⟩ := Option.isSome_iff_exists.1 h1
      refine ⟨((m, x.1, x.2.1), o), MapS.get_mem ho, ?_⟩
      unfold scE scN
      rw [if_pos rfl, luOf_trOf]
/-- The sorted lists are the claims. -/
theorem clY_fin {Y : List Ans} {P : List PCl} (hs : SrtA Y) (hl : P.length = (msOf Y).length) (h : ∀ (k : Nat) (h1 : k < P.length) (h2 : k < (msOf Y).length), P[k].m = (msOf Y)[k] ∧ P[k].ep = epOf Y (msOf Y)[k] ∧
    (P[k].st.Perm (stOf (outsOf Y) Y (msOf Y)[k]) ∧ P[k].st.Pairwise (fun x y => ¬ tlt y x)) ∧ (P[k].sc.Perm (scOf (trOf Y) Y (msOf Y)[k]) ∧ P[k].sc.Pairwise (fun x y => ¬ tlt y x)) ∧ P[k].ch.Perm (chOf (outsOf Y) Y (msOf Y)[k]) ∧ P[k].ch.Pairwise (fun x y => ¬ tlt y x)) : P = clY Y := by
  refine clY_of hs hl (fun k h1 h2 => ?_)
  obtain ⟨e1, e2, e3, e4, e5⟩ := h k h1 h2
  refine ⟨e1, e2, fun j hj => ?_⟩
  match j, hj with
  | 0, _ => exact e3
  | 1, _ => exact e4
  | 2, _ => exact e5
end Go.Proofs.YtiplgpefapeapaaGreat
