/- Texts that the laws lean on, in the order in which they build. The law's apply, kind 0. (Printed by mkscap.py.) The law's apply, kind 1. (Printed by mkscap.py.) The law's apply, kind 2. (Printed by mkscap.py.) The law's apply, kind 3. (Printed by mkscap.py.) The law's apply, kind 4. (Printed by mkscap.py.) The law's apply, kind 5. (Printed by mkscap5.py.) The law's run. (Printed by mkscrun.py.) Sorting two numbers. Insertion sort of two numbers. (Printed by mkscn.py.) slices.Sort and slices.Compact at two numbers. slices.Compact at two numbers. The table's numbers, where there are two. The chapter's examples. (Printed by mkscaw.py.) The contract of the reference's encoding of a number. The specification's encoding of a truth value. -/
import Derived.Test.YtblaaafpglomnaaGreatK7
set_option linter.unusedVariables false
set_option linter.unusedSimpArgs false
namespace Go.Proofs.YtblaaafpglomnaaGreat
open Go Go.RowKit

set_option maxRecDepth 100000 in
set_option maxHeartbeats 8000000 in
theorem apply0 (w : World) (bt bm : Nat) (S : List Rw) (v : Value) (x : OpT) (t : TM w bt bm S) (hS : shR.R w v S) (hG : Good S) (hl : S.length ≤ 1000) (hx : x.ok) (hr : x.k % 6 = 0) :
    Calls Tryz.prog 44 #[.pointer (some ⟨bt, 0, none⟩), tbV v, opV x] w (ApplyPost w bt bm (stepS x S)) := by
  have hG2 := hG.step hx
  have hl2 := len_step x S
  obtain ⟨k, ⟨cl, n, im, is, o, i, d, tc, wk, gb, lm, ls⟩, h⟩ := x
  obtain ⟨hk, he, hw⟩ := hx
  simp only at hk he hw hr
  have hky : kOk (cl, n) := ⟨he.cl, he.n⟩
  obtain ⟨a, cp, rfl, hlc, hcm, _⟩ := hS.form
  have hst : stepS ⟨k, ⟨cl, n, im, is, o, i, d, tc, wk, gb, lm, ls⟩, h⟩ S = (addS (⟨cl, n, im, is, o, i, d, tc, wk, gb, lm, ls⟩ : En) h S).2 := by simp [stepS, hr, En.key]
  rw [hst] at hG2 hl2 ⊢
  clear hst
  obtain ⟨M, hM⟩ : ∃ N, S.length = N := ⟨_, rfl⟩
  have hlM : M ≤ 1000 := by omega
  rw [hM] at hS hlc hl2
  rw [hM]
  obtain ⟨hb0, hb1, hb2, hb3, hk4⟩ := four_b w (.cells #[.slice a M cp] tTb) (.cells #[.int .u8 k, .int .i64 cl, .int .u64 n, .int .i64 im, .int .i64 is, .int .i64 o, .int .i64 i, .int .i64 d, .bool tc, .bool wk, .bool gb, .int .i64 lm, .int .i64 ls, .int .i64 h] tOp) (.cells #[.slice none 0 0] tTb) (.cells #[.slice a M cp] tTb)
  have hpc := add_c _ bt bm S (⟨cl, n, im, is, o, i, d, tc, wk, gb, lm, ls⟩ : En) h (t.keeps hk4) he hw (by omega)
  have hrc := fun (w1 : World) (hR1 : shR.R w1 (.slice a M cp) S) => addR_c w1 _ S (⟨cl, n, im, is, o, i, d, tc, wk, gb, lm, ls⟩ : En) h hR1 (by omega)
  simp only [tbV] at hrc ⊢
  have hbm := t.lt
  have hR4 := hS.keeps hk4
  have hnc := t.mp.noCells ktK
  obtain ⟨z0, hz0⟩ : ∃ z, (addS (⟨cl, n, im, is, o, i, d, tc, wk, gb, lm, ls⟩ : En) h S).1 = z := ⟨_, rfl⟩
  rw [hz0] at hpc hrc
  obtain ⟨S2, hS2⟩ : ∃ S2, (addS (⟨cl, n, im, is, o, i, d, tc, wk, gb, lm, ls⟩ : En) h S).2 = S2 := ⟨_, rfl⟩
  rw [hS2] at hpc hrc hG2 hl2 ⊢
  clear hS2
  obtain ⟨X, hX⟩ : ∃ X, w.heap.size = X := ⟨_, rfl⟩
  rw [hX] at hb0 hb1 hb2 hb3 hbm
  obtain ⟨x0, x1, x2, x3, x4, x5, x6, x7, x8, x9, x10, x11, x12, x13⟩ := cells14 hb1
  have q0 := cells1 hb0
  have hrr : ((k : Int) % 6) = 0 := by omega
  replace hb0 := Lib.hid hb0
  replace hb1 := Lib.hid hb1
  replace hb2 := Lib.hid hb2
  replace hb3 := Lib.hid hb3
  replace hk4 := Lib.hid hk4
  replace hpc := Lib.hid hpc
  replace hrc := Lib.hid hrc
  replace hG := Lib.hid hG
  replace hG2 := Lib.hid hG2
  replace hR4 := Lib.hid hR4
  replace t := Lib.hid t
  replace hnc := Lib.hid hnc
  replace hM := Lib.hid hM
  clear hS he hw
  go_enter Tryz.func44, Tryz.ntmps44
  go_wp2_with fail
  refine hpc.out.mono ?_
  rintro e w1 ⟨rfl, t1, k1⟩
  have hR1 := hR4.out.keepN k1 (fun b hb oo => by simp at hb; subst hb; exact (t.out.keeps hk4.out).mp.noCells ktK oo)
  have hn0 : X ∉ [bm] := by simp; omega
  have hb01 := (k1.block X (lt_of_blk hb0.out) (by simp; omega)).trans hb0.out
  have hb11 := (k1.block (X + 1) (lt_of_blk hb1.out) (by simp; omega)).trans hb1.out
  have hb21 := (k1.block (X + 2) (lt_of_blk hb2.out) (by simp; omega)).trans hb2.out
  have hb31 := (k1.block (X + 3) (lt_of_blk hb3.out) (by simp; omega)).trans hb3.out
  have hk1 := hk4.out.of_nil.trans k1
  clear x0 x1 x2 x3 x4 x5 x6 x7 x8 x9 x10 x11 x12 x13 q0
  obtain ⟨x0, x1, x2, x3, x4, x5, x6, x7, x8, x9, x10, x11, x12, x13⟩ := cells14 hb11
  have q0 := cells1 hb01
  replace hb21 := Lib.hid hb21
  replace hb31 := Lib.hid hb31
  replace hk1 := Lib.hid hk1
  replace hR1 := Lib.hid hR1
  replace t1 := Lib.hid t1
  clear k1 hb01 hb11 hb0 hb1 hb2 hb3 hk4 hR4 t hpc hnc
  go_wp2_with fail
  refine (hrc.out w1 hR1.out).mono ?_
  rintro e w2 ⟨v2, rfl, hR2, k2⟩
  obtain ⟨a2, c2, rfl, _⟩ := hR2.form
  obtain ⟨M2, hM2⟩ : ∃ N, S2.length = N := ⟨_, rfl⟩
  rw [hM2] at hR2 hl2 ⊢
  have t2 := t1.out.keeps k2
  have hb22 := (k2.block (X + 2) (lt_of_blk hb21.out) (by simp)).trans hb21.out
  have hb32 := (k2.block (X + 3) (lt_of_blk hb31.out) (by simp)).trans hb31.out
  have hk2 := hk1.out.trans k2.of_nil
  have hbb2 := t2.lt
  have n0 := cells1 hb32
  have hfz := frz hb32
  replace hM2 := Lib.hid hM2
  replace hR2 := Lib.hid hR2
  replace t2 := Lib.hid t2
  replace hb22 := Lib.hid hb22
  replace hb32 := Lib.hid hb32
  replace hk2 := Lib.hid hk2
  clear x0 x1 x2 x3 x4 x5 x6 x7 x8 x9 x10 x11 x12 x13 q0 k2 hb21 hb31 hk1 hR1 t1 hrc
  go_wp2
  have hkE : Keeps [X + 3] w2 (w2.setCell ⟨X + 1 + 1 + 1, 0, none⟩ (.slice a2 M2 c2)) := (Keeps.refl _ _).setCell (p := ⟨X + 1 + 1 + 1, 0, none⟩) (.inr (by simp)) _
  have hb33 := setCs hb32.out 0 (.slice a2 M2 c2)
  simp only [List.setIfInBounds_toArray, List.set_cons_zero] at hb33
  have hR3 := hR2.out.keepE hkE (fun b hb hne => by simp at hb; subst hb; exact R_box hR2.out hb32.out hne)
  have t3 := t2.out.kept hkE (by simp; omega) (by simp; omega)
  have hb23 := (hkE.block (X + 2) (lt_of_blk hb22.out) (by simp)).trans hb22.out
  have hk3 := hk2.out.fresh hkE (fun b hb => .inr (by simp at hb; omega))
  clear n0 hfz
  replace hb33 : (w2.setCell ⟨X + 1 + 1 + 1, 0, none⟩ (.slice a2 M2 c2)).heap[X + 3]? = some (.cells #[.slice a2 M2 c2] tTb (0, 0)) := hb33
  generalize w2.setCell ⟨X + 1 + 1 + 1, 0, none⟩ (.slice a2 M2 c2) = w3 at *
  have n0 : w3.cell? ⟨X + 1 + 1 + 1, 0, none⟩ = some (.slice a2 M2 c2) := cells1 hb33
  replace hb23 := Lib.hid hb23
  replace hk3 := Lib.hid hk3
  replace hR3 := Lib.hid hR3
  replace t3 := Lib.hid t3
  clear hb33 hkE hR2 t2 hb22 hb32 hk2
  refine Free.wp_region_chain (fun i => i == 7 || i == 9 || i == 10 || i == 13) (fun i => true) (fun j b => j = 13 ∧ b = X + 1 + 1) (by kernel_rfl) (by kernel_rfl) (by kernel_rfl) ?_
  (repeat (first | (apply Free.cw_pure rfl rfl; (intro w'; go_simp <;> exact rfl); go_frame) | (apply Free.cw_steady rfl rfl rfl; (intro w' hS2; have z0 := Free.sx_cell hS2 n0 (fun jj hp hT => by omega); go_simp <;> exact rfl); go_frame) | (apply Free.cw_pureW rfl rfl; (intro w'; go_simp <;> exact rfl); go_frame) | (apply Free.cw_steadyW rfl rfl rfl; (intro w' hS2; have z0 := Free.sx_cell hS2 n0 (fun jj hp hT => by omega); go_simp <;> exact rfl); go_frame) | (refine Free.cw_skip rfl ?_; go_frame)))
  refine Free.cw_loudW rfl rfl (fun K hK => ?_)
  go_wp2_with fail
  refine (list_c _ bt bm S2 (t3.out.keeps ((Keeps.refl [] _).drew)) hG2.out).mono ?_
  rintro e w4 ⟨v4, rfl, hO4, k4⟩
  refine hK _ _ rfl (Free.KeepsP.of k4 (fun b hb => by simp at hb)) ?_
  clear hK K
  have k34 := Lib.hid (((Keeps.refl [] w3).drew).trans k4)
  have hR4 := hO4.r
  replace hR4 := Lib.hid hR4
  clear hO4 k4
  (repeat (first | (apply Free.cw_pure rfl rfl; (intro w'; go_simp <;> exact rfl); go_frame) | (apply Free.cw_steady rfl rfl rfl; (intro w' hS2; have z0 := Free.sx_cell hS2 n0 (fun jj hp hT => by omega); go_simp <;> exact rfl); go_frame) | (apply Free.cw_pureW rfl rfl; (intro w'; go_simp <;> exact rfl); go_frame) | (apply Free.cw_steadyW rfl rfl rfl; (intro w' hS2; have z0 := Free.sx_cell hS2 n0 (fun jj hp hT => by omega); go_simp <;> exact rfl); go_frame) | (refine Free.cw_skip rfl ?_; go_frame)))
  refine Free.cw_loudW rfl rfl (fun K hK => ?_)
  go_wp2_with fail
  refine (listR_c _ _ S2 (hR3.out.keeps k34.out) (by rw [hM2.out]; omega)).mono ?_
  rintro e w5 ⟨v5, rfl, hO5, k5⟩
  refine hK _ _ rfl (Free.KeepsP.of k5 (fun b hb => by simp at hb)) ?_
  clear hK K
  have k45 := Lib.hid k5
  have hR5 := hO5.r
  replace hR5 := Lib.hid hR5
  clear hO5 k5
  (repeat (first | (apply Free.cw_pure rfl rfl; (intro w'; go_simp <;> exact rfl); go_frame) | (apply Free.cw_steady rfl rfl rfl; (intro w' hS2; have z0 := Free.sx_cell hS2 n0 (fun jj hp hT => by omega); go_simp <;> exact rfl); go_frame) | (apply Free.cw_pureW rfl rfl; (intro w'; go_simp <;> exact rfl); go_frame) | (apply Free.cw_steadyW rfl rfl rfl; (intro w' hS2; have z0 := Free.sx_cell hS2 n0 (fun jj hp hT => by omega); go_simp <;> exact rfl); go_frame) | (refine Free.cw_skip rfl ?_; go_frame)))
  refine Free.cw_loudW rfl rfl (fun K hK => ?_)
  go_wp2_with fail
  refine (sameE_c _ _ _ _ _ (hR4.out.keeps k45.out) hR5.out).mono ?_
  rintro e w6 ⟨rfl, k6⟩
  rw [decide_eq_true rfl]
  refine hK _ _ rfl (Free.KeepsP.of k6 (fun b hb => by simp at hb)) ?_
  clear hK K
  have k36 := (k34.out.trans k45.out).trans k6
  have t6 := t3.out.keeps k36
  have hR6 := hR3.out.keeps k36
  have hb26 := (k36.block (X + 2) (lt_of_blk hb23.out) (by simp)).trans hb23.out
  have hk6 := hk3.out.trans k36.of_nil
  have r0 := cells1 hb26
  have hfz := frz hb26
  have hlR := lt_of_blk hb26
  replace hb26 := Lib.hid hb26
  replace hk6 := Lib.hid hk6
  replace hR6 := Lib.hid hR6
  replace t6 := Lib.hid t6
  clear k36 k6 hb23 hk3 hR3 t3 hR4 hR5 k34 k45
  (repeat (first | (apply Free.cw_pure rfl rfl; (intro w'; go_simp <;> exact rfl); go_frame) | (apply Free.cw_steady rfl rfl rfl; (intro w' hS2; have z0 := Free.sx_cell hS2 n0 (fun jj hp hT => by omega); go_simp <;> exact rfl); go_frame) | (apply Free.cw_pureW rfl rfl; (intro w'; go_simp <;> exact rfl); go_frame) | (apply Free.cw_steadyW rfl rfl rfl; (intro w' hS2; have z0 := Free.sx_cell hS2 n0 (fun jj hp hT => by omega); go_simp <;> exact rfl); go_frame) | (refine Free.cw_skip rfl ?_; go_frame)))
  refine Free.cw_loud rfl rfl (fun K hK => ?_)
  go_wp2
  refine hK _ _ rfl (Free.KeepsP.setCell _ (p := ⟨X + 1 + 1, 0, none⟩) ⟨trivial, rfl⟩ _) ?_
  clear hK K
  (repeat (apply Free.cw_pure rfl rfl; (intro w'; go_simp <;> exact rfl); go_frame))
  refine Free.cw_nil ?_
  clear n0
  go_wp2
  have hkE : Keeps [X + 2] w6 (w6.setCell ⟨X + 1 + 1, 0, none⟩ (.slice a2 M2 c2)) := (Keeps.refl _ _).setCell (p := ⟨X + 1 + 1, 0, none⟩) (.inr (by simp)) _
  refine bodyPost_ret (results_utv rfl _ _ _ _ (.slice a2 M2 c2) _ rfl (by have := setCs hb26.out 0 (.slice a2 M2 c2); simpa using this)) rfl ?_
  exact ⟨bt, bm, _, rfl, t6.out.kept hkE (by simp; omega) (by simp; omega), hR6.out.keepE hkE (fun b hb hne => by simp at hb; subst hb; exact R_box hR6.out hb26.out hne), hk6.out.fresh hkE (fun b hb => .inr (by simp at hb; omega)), .inl ⟨rfl, rfl⟩⟩
end Go.Proofs.YtblaaafpglomnaaGreat

namespace Go.Proofs.YtblaaafpglomnaaGreat
open Go Go.RowKit

set_option maxRecDepth 100000 in
set_option maxHeartbeats 8000000 in
theorem apply1 (w : World) (bt bm : Nat) (S : List Rw) (v : Value) (x : OpT) (t : TM w bt bm S) (hS : shR.R w v S) (hG : Good S) (hl : S.length ≤ 1000) (hx : x.ok) (hr : x.k % 6 = 1) :
    Calls Tryz.prog 44 #[.pointer (some ⟨bt, 0, none⟩), tbV v, opV x] w (ApplyPost w bt bm (stepS x S)) := by
  have hG2 := hG.step hx
  have hl2 := len_step x S
  obtain ⟨k, ⟨cl, n, im, is, o, i, d, tc, wk, gb, lm, ls⟩, h⟩ := x
  obtain ⟨hk, he, hw⟩ := hx
  simp only at hk he hw hr
  have hky : kOk (cl, n) := ⟨he.cl, he.n⟩
  obtain ⟨a, cp, rfl, hlc, hcm, _⟩ := hS.form
  have hst : stepS ⟨k, ⟨cl, n, im, is, o, i, d, tc, wk, gb, lm, ls⟩, h⟩ S = (putS (⟨cl, n, im, is, o, i, d, tc, wk, gb, lm, ls⟩ : En) S).2 := by simp [stepS, hr, En.key]
  rw [hst] at hG2 hl2 ⊢
  clear hst
  obtain ⟨M, hM⟩ : ∃ N, S.length = N := ⟨_, rfl⟩
  have hlM : M ≤ 1000 := by omega
  rw [hM] at hS hlc hl2
  rw [hM]
  obtain ⟨hb0, hb1, hb2, hb3, hk4⟩ := four_b w (.cells #[.slice a M cp] tTb) (.cells #[.int .u8 k, .int .i64 cl, .int .u64 n, .int .i64 im, .int .i64 is, .int .i64 o, .int .i64 i, .int .i64 d, .bool tc, .bool wk, .bool gb, .int .i64 lm, .int .i64 ls, .int .i64 h] tOp) (.cells #[.slice none 0 0] tTb) (.cells #[.slice a M cp] tTb)
  have hpc := put_c _ bt bm S (⟨cl, n, im, is, o, i, d, tc, wk, gb, lm, ls⟩ : En) (t.keeps hk4) he (by omega)
  have hrc := fun (w1 : World) (hR1 : shR.R w1 (.slice a M cp) S) => putR_c w1 _ S (⟨cl, n, im, is, o, i, d, tc, wk, gb, lm, ls⟩ : En) hR1 hG.srt (by omega)
  simp only [tbV] at hrc ⊢
  have hbm := t.lt
  have hR4 := hS.keeps hk4
  have hnc := t.mp.noCells ktK
  obtain ⟨z0, hz0⟩ : ∃ z, (putS (⟨cl, n, im, is, o, i, d, tc, wk, gb, lm, ls⟩ : En) S).1 = z := ⟨_, rfl⟩
  rw [hz0] at hpc hrc
  obtain ⟨S2, hS2⟩ : ∃ S2, (putS (⟨cl, n, im, is, o, i, d, tc, wk, gb, lm, ls⟩ : En) S).2 = S2 := ⟨_, rfl⟩
  rw [hS2] at hpc hrc hG2 hl2 ⊢
  clear hS2
  obtain ⟨X, hX⟩ : ∃ X, w.heap.size = X := ⟨_, rfl⟩
  rw [hX] at hb0 hb1 hb2 hb3 hbm
  obtain ⟨x0, x1, x2, x3, x4, x5, x6, x7, x8, x9, x10, x11, x12, x13⟩ := cells14 hb1
  have q0 := cells1 hb0
  have hrr : ((k : Int) % 6) = 1 := by omega
  replace hb0 := Lib.hid hb0
  replace hb1 := Lib.hid hb1
  replace hb2 := Lib.hid hb2
  replace hb3 := Lib.hid hb3
  replace hk4 := Lib.hid hk4
  replace hpc := Lib.hid hpc
  replace hrc := Lib.hid hrc
  replace hG := Lib.hid hG
  replace hG2 := Lib.hid hG2
  replace hR4 := Lib.hid hR4
  replace t := Lib.hid t
  replace hnc := Lib.hid hnc
  replace hM := Lib.hid hM
  clear hS he hw
  go_enter Tryz.func44, Tryz.ntmps44
  go_wp2_with fail
  refine hpc.out.mono ?_
  rintro e w1 ⟨rfl, t1, k1⟩
  have hR1 := hR4.out.keepN k1 (fun b hb oo => by simp at hb; subst hb; exact (t.out.keeps hk4.out).mp.noCells ktK oo)
  have hn0 : X ∉ [bm] := by simp; omega
  have hb01 := (k1.block X (lt_of_blk hb0.out) (by simp; omega)).trans hb0.out
  have hb11 := (k1.block (X + 1) (lt_of_blk hb1.out) (by simp; omega)).trans hb1.out
  have hb21 := (k1.block (X + 2) (lt_of_blk hb2.out) (by simp; omega)).trans hb2.out
  have hb31 := (k1.block (X + 3) (lt_of_blk hb3.out) (by simp; omega)).trans hb3.out
  have hk1 := hk4.out.of_nil.trans k1
  clear x0 x1 x2 x3 x4 x5 x6 x7 x8 x9 x10 x11 x12 x13 q0
  obtain ⟨x0, x1, x2, x3, x4, x5, x6, x7, x8, x9, x10, x11, x12, x13⟩ := cells14 hb11
  have q0 := cells1 hb01
  replace hb21 := Lib.hid hb21
  replace hb31 := Lib.hid hb31
  replace hk1 := Lib.hid hk1
  replace hR1 := Lib.hid hR1
  replace t1 := Lib.hid t1
  clear k1 hb01 hb11 hb0 hb1 hb2 hb3 hk4 hR4 t hpc hnc
  go_wp2_with fail
  refine (hrc.out w1 hR1.out).mono ?_
  rintro e w2 ⟨v2, rfl, hR2, k2⟩
  obtain ⟨a2, c2, rfl, _⟩ := hR2.form
  obtain ⟨M2, hM2⟩ : ∃ N, S2.length = N := ⟨_, rfl⟩
  rw [hM2] at hR2 hl2 ⊢
  have t2 := t1.out.keeps k2
  have hb22 := (k2.block (X + 2) (lt_of_blk hb21.out) (by simp)).trans hb21.out
  have hb32 := (k2.block (X + 3) (lt_of_blk hb31.out) (by simp)).trans hb31.out
  have hk2 := hk1.out.trans k2.of_nil
  have hbb2 := t2.lt
  have n0 := cells1 hb32
  have hfz := frz hb32
  replace hM2 := Lib.hid hM2
  replace hR2 := Lib.hid hR2
  replace t2 := Lib.hid t2
  replace hb22 := Lib.hid hb22
  replace hb32 := Lib.hid hb32
  replace hk2 := Lib.hid hk2
  clear x0 x1 x2 x3 x4 x5 x6 x7 x8 x9 x10 x11 x12 x13 q0 k2 hb21 hb31 hk1 hR1 t1 hrc
  go_wp2
  have hkE : Keeps [X + 3] w2 (w2.setCell ⟨X + 1 + 1 + 1, 0, none⟩ (.slice a2 M2 c2)) := (Keeps.refl _ _).setCell (p := ⟨X + 1 + 1 + 1, 0, none⟩) (.inr (by simp)) _
  have hb33 := setCs hb32.out 0 (.slice a2 M2 c2)
  simp only [List.setIfInBounds_toArray, List.set_cons_zero] at hb33
  have hR3 := hR2.out.keepE hkE (fun b hb hne => by simp at hb; subst hb; exact R_box hR2.out hb32.out hne)
  have t3 := t2.out.kept hkE (by simp; omega) (by simp; omega)
  have hb23 := (hkE.block (X + 2) (lt_of_blk hb22.out) (by simp)).trans hb22.out
  have hk3 := hk2.out.fresh hkE (fun b hb => .inr (by simp at hb; omega))
  clear n0 hfz
  replace hb33 : (w2.setCell ⟨X + 1 + 1 + 1, 0, none⟩ (.slice a2 M2 c2)).heap[X + 3]? = some (.cells #[.slice a2 M2 c2] tTb (0, 0)) := hb33
  generalize w2.setCell ⟨X + 1 + 1 + 1, 0, none⟩ (.slice a2 M2 c2) = w3 at *
  have n0 : w3.cell? ⟨X + 1 + 1 + 1, 0, none⟩ = some (.slice a2 M2 c2) := cells1 hb33
  replace hb23 := Lib.hid hb23
  replace hk3 := Lib.hid hk3
  replace hR3 := Lib.hid hR3
  replace t3 := Lib.hid t3
  clear hb33 hkE hR2 t2 hb22 hb32 hk2
  refine Free.wp_region_chain (fun i => i == 7 || i == 9 || i == 10 || i == 13) (fun i => true) (fun j b => j = 13 ∧ b = X + 1 + 1) (by kernel_rfl) (by kernel_rfl) (by kernel_rfl) ?_
  (repeat (first | (apply Free.cw_pure rfl rfl; (intro w'; go_simp <;> exact rfl); go_frame) | (apply Free.cw_steady rfl rfl rfl; (intro w' hS2; have z0 := Free.sx_cell hS2 n0 (fun jj hp hT => by omega); go_simp <;> exact rfl); go_frame) | (apply Free.cw_pureW rfl rfl; (intro w'; go_simp <;> exact rfl); go_frame) | (apply Free.cw_steadyW rfl rfl rfl; (intro w' hS2; have z0 := Free.sx_cell hS2 n0 (fun jj hp hT => by omega); go_simp <;> exact rfl); go_frame) | (refine Free.cw_skip rfl ?_; go_frame)))
  refine Free.cw_loudW rfl rfl (fun K hK => ?_)
  go_wp2_with fail
  refine (list_c _ bt bm S2 (t3.out.keeps ((Keeps.refl [] _).drew)) hG2.out).mono ?_
  rintro e w4 ⟨v4, rfl, hO4, k4⟩
  refine hK _ _ rfl (Free.KeepsP.of k4 (fun b hb => by simp at hb)) ?_
  clear hK K
  have k34 := Lib.hid (((Keeps.refl [] w3).drew).trans k4)
  have hR4 := hO4.r
  replace hR4 := Lib.hid hR4
  clear hO4 k4
  (repeat (first | (apply Free.cw_pure rfl rfl; (intro w'; go_simp <;> exact rfl); go_frame) | (apply Free.cw_steady rfl rfl rfl; (intro w' hS2; have z0 := Free.sx_cell hS2 n0 (fun jj hp hT => by omega); go_simp <;> exact rfl); go_frame) | (apply Free.cw_pureW rfl rfl; (intro w'; go_simp <;> exact rfl); go_frame) | (apply Free.cw_steadyW rfl rfl rfl; (intro w' hS2; have z0 := Free.sx_cell hS2 n0 (fun jj hp hT => by omega); go_simp <;> exact rfl); go_frame) | (refine Free.cw_skip rfl ?_; go_frame)))
  refine Free.cw_loudW rfl rfl (fun K hK => ?_)
  go_wp2_with fail
  refine (listR_c _ _ S2 (hR3.out.keeps k34.out) (by rw [hM2.out]; omega)).mono ?_
  rintro e w5 ⟨v5, rfl, hO5, k5⟩
  refine hK _ _ rfl (Free.KeepsP.of k5 (fun b hb => by simp at hb)) ?_
  clear hK K
  have k45 := Lib.hid k5
  have hR5 := hO5.r
  replace hR5 := Lib.hid hR5
  clear hO5 k5
  (repeat (first | (apply Free.cw_pure rfl rfl; (intro w'; go_simp <;> exact rfl); go_frame) | (apply Free.cw_steady rfl rfl rfl; (intro w' hS2; have z0 := Free.sx_cell hS2 n0 (fun jj hp hT => by omega); go_simp <;> exact rfl); go_frame) | (apply Free.cw_pureW rfl rfl; (intro w'; go_simp <;> exact rfl); go_frame) | (apply Free.cw_steadyW rfl rfl rfl; (intro w' hS2; have z0 := Free.sx_cell hS2 n0 (fun jj hp hT => by omega); go_simp <;> exact rfl); go_frame) | (refine Free.cw_skip rfl ?_; go_frame)))
  refine Free.cw_loudW rfl rfl (fun K hK => ?_)
  go_wp2_with fail
  refine (sameE_c _ _ _ _ _ (hR4.out.keeps k45.out) hR5.out).mono ?_
  rintro e w6 ⟨rfl, k6⟩
  rw [decide_eq_true rfl]
  refine hK _ _ rfl (Free.KeepsP.of k6 (fun b hb => by simp at hb)) ?_
  clear hK K
  have k36 := (k34.out.trans k45.out).trans k6
  have t6 := t3.out.keeps k36
  have hR6 := hR3.out.keeps k36
  have hb26 := (k36.block (X + 2) (lt_of_blk hb23.out) (by simp)).trans hb23.out
  have hk6 := hk3.out.trans k36.of_nil
  have r0 := cells1 hb26
  have hfz := frz hb26
  have hlR := lt_of_blk hb26
  replace hb26 := Lib.hid hb26
  replace hk6 := Lib.hid hk6
  replace hR6 := Lib.hid hR6
  replace t6 := Lib.hid t6
  clear k36 k6 hb23 hk3 hR3 t3 hR4 hR5 k34 k45
  (repeat (first | (apply Free.cw_pure rfl rfl; (intro w'; go_simp <;> exact rfl); go_frame) | (apply Free.cw_steady rfl rfl rfl; (intro w' hS2; have z0 := Free.sx_cell hS2 n0 (fun jj hp hT => by omega); go_simp <;> exact rfl); go_frame) | (apply Free.cw_pureW rfl rfl; (intro w'; go_simp <;> exact rfl); go_frame) | (apply Free.cw_steadyW rfl rfl rfl; (intro w' hS2; have z0 := Free.sx_cell hS2 n0 (fun jj hp hT => by omega); go_simp <;> exact rfl); go_frame) | (refine Free.cw_skip rfl ?_; go_frame)))
  refine Free.cw_loud rfl rfl (fun K hK => ?_)
  go_wp2
  refine hK _ _ rfl (Free.KeepsP.setCell _ (p := ⟨X + 1 + 1, 0, none⟩) ⟨trivial, rfl⟩ _) ?_
  clear hK K
  (repeat (apply Free.cw_pure rfl rfl; (intro w'; go_simp <;> exact rfl); go_frame))
  refine Free.cw_nil ?_
  clear n0
  go_wp2
  have hkE : Keeps [X + 2] w6 (w6.setCell ⟨X + 1 + 1, 0, none⟩ (.slice a2 M2 c2)) := (Keeps.refl _ _).setCell (p := ⟨X + 1 + 1, 0, none⟩) (.inr (by simp)) _
  refine bodyPost_ret (results_utv rfl _ _ _ _ (.slice a2 M2 c2) _ rfl (by have := setCs hb26.out 0 (.slice a2 M2 c2); simpa using this)) rfl ?_
  exact ⟨bt, bm, _, rfl, t6.out.kept hkE (by simp; omega) (by simp; omega), hR6.out.keepE hkE (fun b hb hne => by simp at hb; subst hb; exact R_box hR6.out hb26.out hne), hk6.out.fresh hkE (fun b hb => .inr (by simp at hb; omega)), .inl ⟨rfl, rfl⟩⟩
end Go.Proofs.YtblaaafpglomnaaGreat

namespace Go.Proofs.YtblaaafpglomnaaGreat
open Go Go.RowKit

set_option maxRecDepth 100000 in
set_option maxHeartbeats 8000000 in
theorem apply2 (w : World) (bt bm : Nat) (S : List Rw) (v : Value) (x : OpT) (t : TM w bt bm S) (hS : shR.R w v S) (hG : Good S) (hl : S.length ≤ 1000) (hx : x.ok) (hr : x.k % 6 = 2) :
    Calls Tryz.prog 44 #[.pointer (some ⟨bt, 0, none⟩), tbV v, opV x] w (ApplyPost w bt bm (stepS x S)) := by
  have hG2 := hG.step hx
  have hl2 := len_step x S
  obtain ⟨k, ⟨cl, n, im, is, o, i, d, tc, wk, gb, lm, ls⟩, h⟩ := x
  obtain ⟨hk, he, hw⟩ := hx
  simp only at hk he hw hr
  have hky : kOk (cl, n) := ⟨he.cl, he.n⟩
  obtain ⟨a, cp, rfl, hlc, hcm, _⟩ := hS.form
  have hst : stepS ⟨k, ⟨cl, n, im, is, o, i, d, tc, wk, gb, lm, ls⟩, h⟩ S = (touchS (cl, n) S).2 := by simp [stepS, hr, En.key]
  rw [hst] at hG2 hl2 ⊢
  clear hst
  obtain ⟨M, hM⟩ : ∃ N, S.length = N := ⟨_, rfl⟩
  have hlM : M ≤ 1000 := by omega
  rw [hM] at hS hlc hl2
  rw [hM]
  obtain ⟨hb0, hb1, hb2, hb3, hk4⟩ := four_b w (.cells #[.slice a M cp] tTb) (.cells #[.int .u8 k, .int .i64 cl, .int .u64 n, .int .i64 im, .int .i64 is, .int .i64 o, .int .i64 i, .int .i64 d, .bool tc, .bool wk, .bool gb, .int .i64 lm, .int .i64 ls, .int .i64 h] tOp) (.cells #[.slice none 0 0] tTb) (.cells #[.slice a M cp] tTb)
  have hpc := touch_c _ bt bm S cl n (t.keeps hk4) hky (by omega)
  have hrc := fun (w1 : World) (hR1 : shR.R w1 (.slice a M cp) S) => touchR_c w1 _ S cl n hR1 hG
  simp only [tbV] at hrc ⊢
  have hbm := t.lt
  have hR4 := hS.keeps hk4
  have hnc := t.mp.noCells ktK
  obtain ⟨z0, hz0⟩ : ∃ z, (touchS (cl, n) S).1 = z := ⟨_, rfl⟩
  rw [hz0] at hpc hrc
  obtain ⟨S2, hS2⟩ : ∃ S2, (touchS (cl, n) S).2 = S2 := ⟨_, rfl⟩
  rw [hS2] at hpc hrc hG2 hl2 ⊢
  clear hS2
  obtain ⟨X, hX⟩ : ∃ X, w.heap.size = X := ⟨_, rfl⟩
  rw [hX] at hb0 hb1 hb2 hb3 hbm
  obtain ⟨x0, x1, x2, x3, x4, x5, x6, x7, x8, x9, x10, x11, x12, x13⟩ := cells14 hb1
  have q0 := cells1 hb0
  have hrr : ((k : Int) % 6) = 2 := by omega
  replace hb0 := Lib.hid hb0
  replace hb1 := Lib.hid hb1
  replace hb2 := Lib.hid hb2
  replace hb3 := Lib.hid hb3
  replace hk4 := Lib.hid hk4
  replace hpc := Lib.hid hpc
  replace hrc := Lib.hid hrc
  replace hG := Lib.hid hG
  replace hG2 := Lib.hid hG2
  replace hR4 := Lib.hid hR4
  replace t := Lib.hid t
  replace hnc := Lib.hid hnc
  replace hM := Lib.hid hM
  clear hS he hw
  go_enter Tryz.func44, Tryz.ntmps44
  go_wp2_with fail
  refine hpc.out.mono ?_
  rintro e w1 ⟨rfl, t1, k1⟩
  have hR1 := hR4.out.keepN k1 (fun b hb oo => by simp at hb; subst hb; exact (t.out.keeps hk4.out).mp.noCells ktK oo)
  have hn0 : X ∉ [bm] := by simp; omega
  have hb01 := (k1.block X (lt_of_blk hb0.out) (by simp; omega)).trans hb0.out
  have hb11 := (k1.block (X + 1) (lt_of_blk hb1.out) (by simp; omega)).trans hb1.out
  have hb21 := (k1.block (X + 2) (lt_of_blk hb2.out) (by simp; omega)).trans hb2.out
  have hb31 := (k1.block (X + 3) (lt_of_blk hb3.out) (by simp; omega)).trans hb3.out
  have hk1 := hk4.out.of_nil.trans k1
  clear x0 x1 x2 x3 x4 x5 x6 x7 x8 x9 x10 x11 x12 x13 q0
  obtain ⟨x0, x1, x2, x3, x4, x5, x6, x7, x8, x9, x10, x11, x12, x13⟩ := cells14 hb11
  have q0 := cells1 hb01
  replace hb21 := Lib.hid hb21
  replace hb31 := Lib.hid hb31
  replace hk1 := Lib.hid hk1
  replace hR1 := Lib.hid hR1
  replace t1 := Lib.hid t1
  clear k1 hb01 hb11 hb0 hb1 hb2 hb3 hk4 hR4 t hpc hnc
  go_wp2_with fail
  refine (hrc.out w1 hR1.out).mono ?_
  rintro e w2 ⟨v2, rfl, hR2, k2⟩
  obtain ⟨a2, c2, rfl, _⟩ := hR2.form
  obtain ⟨M2, hM2⟩ : ∃ N, S2.length = N := ⟨_, rfl⟩
  rw [hM2] at hR2 hl2 ⊢
  have t2 := t1.out.keeps k2
  have hb22 := (k2.block (X + 2) (lt_of_blk hb21.out) (by simp)).trans hb21.out
  have hb32 := (k2.block (X + 3) (lt_of_blk hb31.out) (by simp)).trans hb31.out
  have hk2 := hk1.out.trans k2.of_nil
  have hbb2 := t2.lt
  have n0 := cells1 hb32
  have hfz := frz hb32
  replace hM2 := Lib.hid hM2
  replace hR2 := Lib.hid hR2
  replace t2 := Lib.hid t2
  replace hb22 := Lib.hid hb22
  replace hb32 := Lib.hid hb32
  replace hk2 := Lib.hid hk2
  clear x0 x1 x2 x3 x4 x5 x6 x7 x8 x9 x10 x11 x12 x13 q0 k2 hb21 hb31 hk1 hR1 t1 hrc
  go_wp2
  have hkE : Keeps [X + 3] w2 (w2.setCell ⟨X + 1 + 1 + 1, 0, none⟩ (.slice a2 M2 c2)) := (Keeps.refl _ _).setCell (p := ⟨X + 1 + 1 + 1, 0, none⟩) (.inr (by simp)) _
  have hb33 := setCs hb32.out 0 (.slice a2 M2 c2)
  simp only [List.setIfInBounds_toArray, List.set_cons_zero] at hb33
  have hR3 := hR2.out.keepE hkE (fun b hb hne => by simp at hb; subst hb; exact R_box hR2.out hb32.out hne)
  have t3 := t2.out.kept hkE (by simp; omega) (by simp; omega)
  have hb23 := (hkE.block (X + 2) (lt_of_blk hb22.out) (by simp)).trans hb22.out
  have hk3 := hk2.out.fresh hkE (fun b hb => .inr (by simp at hb; omega))
  clear n0 hfz
  replace hb33 : (w2.setCell ⟨X + 1 + 1 + 1, 0, none⟩ (.slice a2 M2 c2)).heap[X + 3]? = some (.cells #[.slice a2 M2 c2] tTb (0, 0)) := hb33
  generalize w2.setCell ⟨X + 1 + 1 + 1, 0, none⟩ (.slice a2 M2 c2) = w3 at *
  have n0 : w3.cell? ⟨X + 1 + 1 + 1, 0, none⟩ = some (.slice a2 M2 c2) := cells1 hb33
  replace hb23 := Lib.hid hb23
  replace hk3 := Lib.hid hk3
  replace hR3 := Lib.hid hR3
  replace t3 := Lib.hid t3
  clear hb33 hkE hR2 t2 hb22 hb32 hk2
  refine Free.wp_region_chain (fun i => i == 7 || i == 9 || i == 10 || i == 13) (fun i => true) (fun j b => j = 13 ∧ b = X + 1 + 1) (by kernel_rfl) (by kernel_rfl) (by kernel_rfl) ?_
  (repeat (first | (apply Free.cw_pure rfl rfl; (intro w'; go_simp <;> exact rfl); go_frame) | (apply Free.cw_steady rfl rfl rfl; (intro w' hS2; have z0 := Free.sx_cell hS2 n0 (fun jj hp hT => by omega); go_simp <;> exact rfl); go_frame) | (apply Free.cw_pureW rfl rfl; (intro w'; go_simp <;> exact rfl); go_frame) | (apply Free.cw_steadyW rfl rfl rfl; (intro w' hS2; have z0 := Free.sx_cell hS2 n0 (fun jj hp hT => by omega); go_simp <;> exact rfl); go_frame) | (refine Free.cw_skip rfl ?_; go_frame)))
  refine Free.cw_loudW rfl rfl (fun K hK => ?_)
  go_wp2_with fail
  refine (list_c _ bt bm S2 (t3.out.keeps ((Keeps.refl [] _).drew)) hG2.out).mono ?_
  rintro e w4 ⟨v4, rfl, hO4, k4⟩
  refine hK _ _ rfl (Free.KeepsP.of k4 (fun b hb => by simp at hb)) ?_
  clear hK K
  have k34 := Lib.hid (((Keeps.refl [] w3).drew).trans k4)
  have hR4 := hO4.r
  replace hR4 := Lib.hid hR4
  clear hO4 k4
  (repeat (first | (apply Free.cw_pure rfl rfl; (intro w'; go_simp <;> exact rfl); go_frame) | (apply Free.cw_steady rfl rfl rfl; (intro w' hS2; have z0 := Free.sx_cell hS2 n0 (fun jj hp hT => by omega); go_simp <;> exact rfl); go_frame) | (apply Free.cw_pureW rfl rfl; (intro w'; go_simp <;> exact rfl); go_frame) | (apply Free.cw_steadyW rfl rfl rfl; (intro w' hS2; have z0 := Free.sx_cell hS2 n0 (fun jj hp hT => by omega); go_simp <;> exact rfl); go_frame) | (refine Free.cw_skip rfl ?_; go_frame)))
  refine Free.cw_loudW rfl rfl (fun K hK => ?_)
  go_wp2_with fail
  refine (listR_c _ _ S2 (hR3.out.keeps k34.out) (by rw [hM2.out]; omega)).mono ?_
  rintro e w5 ⟨v5, rfl, hO5, k5⟩
  refine hK _ _ rfl (Free.KeepsP.of k5 (fun b hb => by simp at hb)) ?_
  clear hK K
  have k45 := Lib.hid k5
  have hR5 := hO5.r
  replace hR5 := Lib.hid hR5
  clear hO5 k5
  (repeat (first | (apply Free.cw_pure rfl rfl; (intro w'; go_simp <;> exact rfl); go_frame) | (apply Free.cw_steady rfl rfl rfl; (intro w' hS2; have z0 := Free.sx_cell hS2 n0 (fun jj hp hT => by omega); go_simp <;> exact rfl); go_frame) | (apply Free.cw_pureW rfl rfl; (intro w'; go_simp <;> exact rfl); go_frame) | (apply Free.cw_steadyW rfl rfl rfl; (intro w' hS2; have z0 := Free.sx_cell hS2 n0 (fun jj hp hT => by omega); go_simp <;> exact rfl); go_frame) | (refine Free.cw_skip rfl ?_; go_frame)))
  refine Free.cw_loudW rfl rfl (fun K hK => ?_)
  go_wp2_with fail
  refine (sameE_c _ _ _ _ _ (hR4.out.keeps k45.out) hR5.out).mono ?_
  rintro e w6 ⟨rfl, k6⟩
  rw [decide_eq_true rfl]
  refine hK _ _ rfl (Free.KeepsP.of k6 (fun b hb => by simp at hb)) ?_
  clear hK K
  have k36 := (k34.out.trans k45.out).trans k6
  have t6 := t3.out.keeps k36
  have hR6 := hR3.out.keeps k36
  have hb26 := (k36.block (X + 2) (lt_of_blk hb23.out) (by simp)).trans hb23.out
  have hk6 := hk3.out.trans k36.of_nil
  have r0 := cells1 hb26
  have hfz := frz hb26
  have hlR := lt_of_blk hb26
  replace hb26 := Lib.hid hb26
  replace hk6 := Lib.hid hk6
  replace hR6 := Lib.hid hR6
  replace t6 := Lib.hid t6
  clear k36 k6 hb23 hk3 hR3 t3 hR4 hR5 k34 k45
  (repeat (first | (apply Free.cw_pure rfl rfl; (intro w'; go_simp <;> exact rfl); go_frame) | (apply Free.cw_steady rfl rfl rfl; (intro w' hS2; have z0 := Free.sx_cell hS2 n0 (fun jj hp hT => by omega); go_simp <;> exact rfl); go_frame) | (apply Free.cw_pureW rfl rfl; (intro w'; go_simp <;> exact rfl); go_frame) | (apply Free.cw_steadyW rfl rfl rfl; (intro w' hS2; have z0 := Free.sx_cell hS2 n0 (fun jj hp hT => by omega); go_simp <;> exact rfl); go_frame) | (refine Free.cw_skip rfl ?_; go_frame)))
  refine Free.cw_loud rfl rfl (fun K hK => ?_)
  go_wp2
  refine hK _ _ rfl (Free.KeepsP.setCell _ (p := ⟨X + 1 + 1, 0, none⟩) ⟨trivial, rfl⟩ _) ?_
  clear hK K
  (repeat (apply Free.cw_pure rfl rfl; (intro w'; go_simp <;> exact rfl); go_frame))
  refine Free.cw_nil ?_
  clear n0
  go_wp2
  have hkE : Keeps [X + 2] w6 (w6.setCell ⟨X + 1 + 1, 0, none⟩ (.slice a2 M2 c2)) := (Keeps.refl _ _).setCell (p := ⟨X + 1 + 1, 0, none⟩) (.inr (by simp)) _
  refine bodyPost_ret (results_utv rfl _ _ _ _ (.slice a2 M2 c2) _ rfl (by have := setCs hb26.out 0 (.slice a2 M2 c2); simpa using this)) rfl ?_
  exact ⟨bt, bm, _, rfl, t6.out.kept hkE (by simp; omega) (by simp; omega), hR6.out.keepE hkE (fun b hb hne => by simp at hb; subst hb; exact R_box hR6.out hb26.out hne), hk6.out.fresh hkE (fun b hb => .inr (by simp at hb; omega)), .inl ⟨rfl, rfl⟩⟩
end Go.Proofs.YtblaaafpglomnaaGreat

namespace Go.Proofs.YtblaaafpglomnaaGreat
open Go Go.RowKit

set_option maxRecDepth 100000 in
set_option maxHeartbeats 8000000 in
theorem apply3 (w : World) (bt bm : Nat) (S : List Rw) (v : Value) (x : OpT) (t : TM w bt bm S) (hS : shR.R w v S) (hG : Good S) (hl : S.length ≤ 1000) (hx : x.ok) (hr : x.k % 6 = 3) :
    Calls Tryz.prog 44 #[.pointer (some ⟨bt, 0, none⟩), tbV v, opV x] w (ApplyPost w bt bm (stepS x S)) := by
  have hG2 := hG.step hx
  have hl2 := len_step x S
  obtain ⟨k, ⟨cl, n, im, is, o, i, d, tc, wk, gb, lm, ls⟩, h⟩ := x
  obtain ⟨hk, he, hw⟩ := hx
  simp only at hk he hw hr
  have hky : kOk (cl, n) := ⟨he.cl, he.n⟩
  obtain ⟨a, cp, rfl, hlc, hcm, _⟩ := hS.form
  have hst : stepS ⟨k, ⟨cl, n, im, is, o, i, d, tc, wk, gb, lm, ls⟩, h⟩ S = (remS (cl, n) S).2.2 := by simp [stepS, hr, En.key]
  rw [hst] at hG2 hl2 ⊢
  clear hst
  obtain ⟨M, hM⟩ : ∃ N, S.length = N := ⟨_, rfl⟩
  have hlM : M ≤ 1000 := by omega
  rw [hM] at hS hlc hl2
  rw [hM]
  obtain ⟨hb0, hb1, hb2, hb3, hk4⟩ := four_b w (.cells #[.slice a M cp] tTb) (.cells #[.int .u8 k, .int .i64 cl, .int .u64 n, .int .i64 im, .int .i64 is, .int .i64 o, .int .i64 i, .int .i64 d, .bool tc, .bool wk, .bool gb, .int .i64 lm, .int .i64 ls, .int .i64 h] tOp) (.cells #[.slice none 0 0] tTb) (.cells #[.slice a M cp] tTb)
  have hpc := remove_c _ bt bm S (cl, n) (t.keeps hk4) hky
  have hrc := fun (w1 : World) (hR1 : shR.R w1 (.slice a M cp) S) => removeR_c w1 _ S cl n hR1 hG.srt (by omega)
  simp only [tbV] at hrc ⊢
  have hbm := t.lt
  have hR4 := hS.keeps hk4
  have hnc := t.mp.noCells ktK
  obtain ⟨z0, hz0⟩ : ∃ z, (remS (cl, n) S).1 = z := ⟨_, rfl⟩
  rw [hz0] at hpc hrc
  obtain ⟨z1, hz1⟩ : ∃ z, (remS (cl, n) S).2.1 = z := ⟨_, rfl⟩
  rw [hz1] at hpc hrc
  obtain ⟨S2, hS2⟩ : ∃ S2, (remS (cl, n) S).2.2 = S2 := ⟨_, rfl⟩
  rw [hS2] at hpc hrc hG2 hl2 ⊢
  clear hS2
  obtain ⟨X, hX⟩ : ∃ X, w.heap.size = X := ⟨_, rfl⟩
  rw [hX] at hb0 hb1 hb2 hb3 hbm
  obtain ⟨x0, x1, x2, x3, x4, x5, x6, x7, x8, x9, x10, x11, x12, x13⟩ := cells14 hb1
  have q0 := cells1 hb0
  have hrr : ((k : Int) % 6) = 3 := by omega
  replace hb0 := Lib.hid hb0
  replace hb1 := Lib.hid hb1
  replace hb2 := Lib.hid hb2
  replace hb3 := Lib.hid hb3
  replace hk4 := Lib.hid hk4
  replace hpc := Lib.hid hpc
  replace hrc := Lib.hid hrc
  replace hG := Lib.hid hG
  replace hG2 := Lib.hid hG2
  replace hR4 := Lib.hid hR4
  replace t := Lib.hid t
  replace hnc := Lib.hid hnc
  replace hM := Lib.hid hM
  clear hS he hw
  go_enter Tryz.func44, Tryz.ntmps44
  go_wp2_with fail
  refine hpc.out.mono ?_
  rintro e w1 ⟨rfl, t1, k1⟩
  have hR1 := hR4.out.keepN k1 (fun b hb oo => by simp at hb; subst hb; exact (t.out.keeps hk4.out).mp.noCells ktK oo)
  have hn0 : X ∉ [bm] := by simp; omega
  have hb01 := (k1.block X (lt_of_blk hb0.out) (by simp; omega)).trans hb0.out
  have hb11 := (k1.block (X + 1) (lt_of_blk hb1.out) (by simp; omega)).trans hb1.out
  have hb21 := (k1.block (X + 2) (lt_of_blk hb2.out) (by simp; omega)).trans hb2.out
  have hb31 := (k1.block (X + 3) (lt_of_blk hb3.out) (by simp; omega)).trans hb3.out
  have hk1 := hk4.out.of_nil.trans k1
  clear x0 x1 x2 x3 x4 x5 x6 x7 x8 x9 x10 x11 x12 x13 q0
  obtain ⟨x0, x1, x2, x3, x4, x5, x6, x7, x8, x9, x10, x11, x12, x13⟩ := cells14 hb11
  have q0 := cells1 hb01
  replace hb21 := Lib.hid hb21
  replace hb31 := Lib.hid hb31
  replace hk1 := Lib.hid hk1
  replace hR1 := Lib.hid hR1
  replace t1 := Lib.hid t1
  clear k1 hb01 hb11 hb0 hb1 hb2 hb3 hk4 hR4 t hpc hnc
  go_wp2_with fail
  refine (hrc.out w1 hR1.out).mono ?_
  rintro e w2 ⟨v2, rfl, hR2, k2⟩
  obtain ⟨a2, c2, rfl, _⟩ := hR2.form
  obtain ⟨M2, hM2⟩ : ∃ N, S2.length = N := ⟨_, rfl⟩
  rw [hM2] at hR2 hl2 ⊢
  have t2 := t1.out.keeps k2
  have hb22 := (k2.block (X + 2) (lt_of_blk hb21.out) (by simp)).trans hb21.out
  have hb32 := (k2.block (X + 3) (lt_of_blk hb31.out) (by simp)).trans hb31.out
  have hk2 := hk1.out.trans k2.of_nil
  have hbb2 := t2.lt
  have n0 := cells1 hb32
  have hfz := frz hb32
  replace hM2 := Lib.hid hM2
  replace hR2 := Lib.hid hR2
  replace t2 := Lib.hid t2
  replace hb22 := Lib.hid hb22
  replace hb32 := Lib.hid hb32
  replace hk2 := Lib.hid hk2
  clear x0 x1 x2 x3 x4 x5 x6 x7 x8 x9 x10 x11 x12 x13 q0 k2 hb21 hb31 hk1 hR1 t1 hrc
  go_wp2
  have hkE : Keeps [X + 3] w2 (w2.setCell ⟨X + 1 + 1 + 1, 0, none⟩ (.slice a2 M2 c2)) := (Keeps.refl _ _).setCell (p := ⟨X + 1 + 1 + 1, 0, none⟩) (.inr (by simp)) _
  have hb33 := setCs hb32.out 0 (.slice a2 M2 c2)
  simp only [List.setIfInBounds_toArray, List.set_cons_zero] at hb33
  have hR3 := hR2.out.keepE hkE (fun b hb hne => by simp at hb; subst hb; exact R_box hR2.out hb32.out hne)
  have t3 := t2.out.kept hkE (by simp; omega) (by simp; omega)
  have hb23 := (hkE.block (X + 2) (lt_of_blk hb22.out) (by simp)).trans hb22.out
  have hk3 := hk2.out.fresh hkE (fun b hb => .inr (by simp at hb; omega))
  clear n0 hfz
  replace hb33 : (w2.setCell ⟨X + 1 + 1 + 1, 0, none⟩ (.slice a2 M2 c2)).heap[X + 3]? = some (.cells #[.slice a2 M2 c2] tTb (0, 0)) := hb33
  generalize w2.setCell ⟨X + 1 + 1 + 1, 0, none⟩ (.slice a2 M2 c2) = w3 at *
  have n0 : w3.cell? ⟨X + 1 + 1 + 1, 0, none⟩ = some (.slice a2 M2 c2) := cells1 hb33
  replace hb23 := Lib.hid hb23
  replace hk3 := Lib.hid hk3
  replace hR3 := Lib.hid hR3
  replace t3 := Lib.hid t3
  clear hb33 hkE hR2 t2 hb22 hb32 hk2
  refine Free.wp_region_chain (fun i => i == 7 || i == 9 || i == 10 || i == 13) (fun i => true) (fun j b => j = 13 ∧ b = X + 1 + 1) (by kernel_rfl) (by kernel_rfl) (by kernel_rfl) ?_
  (repeat (first | (apply Free.cw_pure rfl rfl; (intro w'; go_simp <;> exact rfl); go_frame) | (apply Free.cw_steady rfl rfl rfl; (intro w' hS2; have z0 := Free.sx_cell hS2 n0 (fun jj hp hT => by omega); go_simp <;> exact rfl); go_frame) | (apply Free.cw_pureW rfl rfl; (intro w'; go_simp <;> exact rfl); go_frame) | (apply Free.cw_steadyW rfl rfl rfl; (intro w' hS2; have z0 := Free.sx_cell hS2 n0 (fun jj hp hT => by omega); go_simp <;> exact rfl); go_frame) | (refine Free.cw_skip rfl ?_; go_frame)))
  refine Free.cw_loudW rfl rfl (fun K hK => ?_)
  go_wp2_with fail
  refine (list_c _ bt bm S2 (t3.out.keeps ((Keeps.refl [] _).drew)) hG2.out).mono ?_
  rintro e w4 ⟨v4, rfl, hO4, k4⟩
  refine hK _ _ rfl (Free.KeepsP.of k4 (fun b hb => by simp at hb)) ?_
  clear hK K
  have k34 := Lib.hid (((Keeps.refl [] w3).drew).trans k4)
  have hR4 := hO4.r
  replace hR4 := Lib.hid hR4
  clear hO4 k4
  (repeat (first | (apply Free.cw_pure rfl rfl; (intro w'; go_simp <;> exact rfl); go_frame) | (apply Free.cw_steady rfl rfl rfl; (intro w' hS2; have z0 := Free.sx_cell hS2 n0 (fun jj hp hT => by omega); go_simp <;> exact rfl); go_frame) | (apply Free.cw_pureW rfl rfl; (intro w'; go_simp <;> exact rfl); go_frame) | (apply Free.cw_steadyW rfl rfl rfl; (intro w' hS2; have z0 := Free.sx_cell hS2 n0 (fun jj hp hT => by omega); go_simp <;> exact rfl); go_frame) | (refine Free.cw_skip rfl ?_; go_frame)))
  refine Free.cw_loudW rfl rfl (fun K hK => ?_)
  go_wp2_with fail
  refine (listR_c _ _ S2 (hR3.out.keeps k34.out) (by rw [hM2.out]; omega)).mono ?_
  rintro e w5 ⟨v5, rfl, hO5, k5⟩
  refine hK _ _ rfl (Free.KeepsP.of k5 (fun b hb => by simp at hb)) ?_
  clear hK K
  have k45 := Lib.hid k5
  have hR5 := hO5.r
  replace hR5 := Lib.hid hR5
  clear hO5 k5
  (repeat (first | (apply Free.cw_pure rfl rfl; (intro w'; go_simp <;> exact rfl); go_frame) | (apply Free.cw_steady rfl rfl rfl; (intro w' hS2; have z0 := Free.sx_cell hS2 n0 (fun jj hp hT => by omega); go_simp <;> exact rfl); go_frame) | (apply Free.cw_pureW rfl rfl; (intro w'; go_simp <;> exact rfl); go_frame) | (apply Free.cw_steadyW rfl rfl rfl; (intro w' hS2; have z0 := Free.sx_cell hS2 n0 (fun jj hp hT => by omega); go_simp <;> exact rfl); go_frame) | (refine Free.cw_skip rfl ?_; go_frame)))
  refine Free.cw_loudW rfl rfl (fun K hK => ?_)
  go_wp2_with fail
  refine (sameE_c _ _ _ _ _ (hR4.out.keeps k45.out) hR5.out).mono ?_
  rintro e w6 ⟨rfl, k6⟩
  rw [decide_eq_true rfl]
  refine hK _ _ rfl (Free.KeepsP.of k6 (fun b hb => by simp at hb)) ?_
  clear hK K
  have k36 := (k34.out.trans k45.out).trans k6
  have t6 := t3.out.keeps k36
  have hR6 := hR3.out.keeps k36
  have hb26 := (k36.block (X + 2) (lt_of_blk hb23.out) (by simp)).trans hb23.out
  have hk6 := hk3.out.trans k36.of_nil
  have r0 := cells1 hb26
  have hfz := frz hb26
  have hlR := lt_of_blk hb26
  replace hb26 := Lib.hid hb26
  replace hk6 := Lib.hid hk6
  replace hR6 := Lib.hid hR6
  replace t6 := Lib.hid t6
  clear k36 k6 hb23 hk3 hR3 t3 hR4 hR5 k34 k45
  (repeat (first | (apply Free.cw_pure rfl rfl; (intro w'; go_simp <;> exact rfl); go_frame) | (apply Free.cw_steady rfl rfl rfl; (intro w' hS2; have z0 := Free.sx_cell hS2 n0 (fun jj hp hT => by omega); go_simp <;> exact rfl); go_frame) | (apply Free.cw_pureW rfl rfl; (intro w'; go_simp <;> exact rfl); go_frame) | (apply Free.cw_steadyW rfl rfl rfl; (intro w' hS2; have z0 := Free.sx_cell hS2 n0 (fun jj hp hT => by omega); go_simp <;> exact rfl); go_frame) | (refine Free.cw_skip rfl ?_; go_frame)))
  refine Free.cw_loud rfl rfl (fun K hK => ?_)
  go_wp2
  refine hK _ _ rfl (Free.KeepsP.setCell _ (p := ⟨X + 1 + 1, 0, none⟩) ⟨trivial, rfl⟩ _) ?_
  clear hK K
  (repeat (apply Free.cw_pure rfl rfl; (intro w'; go_simp <;> exact rfl); go_frame))
  refine Free.cw_nil ?_
  clear n0
  go_wp2
  have hkE : Keeps [X + 2] w6 (w6.setCell ⟨X + 1 + 1, 0, none⟩ (.slice a2 M2 c2)) := (Keeps.refl _ _).setCell (p := ⟨X + 1 + 1, 0, none⟩) (.inr (by simp)) _
  refine bodyPost_ret (results_utv rfl _ _ _ _ (.slice a2 M2 c2) _ rfl (by have := setCs hb26.out 0 (.slice a2 M2 c2); simpa using this)) rfl ?_
  exact ⟨bt, bm, _, rfl, t6.out.kept hkE (by simp; omega) (by simp; omega), hR6.out.keepE hkE (fun b hb hne => by simp at hb; subst hb; exact R_box hR6.out hb26.out hne), hk6.out.fresh hkE (fun b hb => .inr (by simp at hb; omega)), .inl ⟨rfl, rfl⟩⟩
end Go.Proofs.YtblaaafpglomnaaGreat

namespace Go.Proofs.YtblaaafpglomnaaGreat
open Go Go.RowKit

set_option maxRecDepth 100000 in
set_option maxHeartbeats 8000000 in
theorem apply4 (w : World) (bt bm : Nat) (S : List Rw) (v : Value) (x : OpT) (t : TM w bt bm S) (hS : shR.R w v S) (hG : Good S) (hl : S.length ≤ 1000) (hx : x.ok) (hr : x.k % 6 = 4) :
    Calls Tryz.prog 44 #[.pointer (some ⟨bt, 0, none⟩), tbV v, opV x] w (ApplyPost w bt bm (stepS x S)) := by
  have hG2 := hG.step hx
  have hl2 := len_step x S
  obtain ⟨k, ⟨cl, n, im, is, o, i, d, tc, wk, gb, lm, ls⟩, h⟩ := x
  obtain ⟨hk, he, hw⟩ := hx
  simp only at hk he hw hr
  have hky : kOk (cl, n) := ⟨he.cl, he.n⟩
  obtain ⟨a, cp, rfl, hlc, hcm, _⟩ := hS.form
  have hst : stepS ⟨k, ⟨cl, n, im, is, o, i, d, tc, wk, gb, lm, ls⟩, h⟩ S = (clrS S) := by simp [stepS, hr, En.key]
  rw [hst] at hG2 hl2 ⊢
  clear hst
  obtain ⟨M, hM⟩ : ∃ N, S.length = N := ⟨_, rfl⟩
  have hlM : M ≤ 1000 := by omega
  rw [hM] at hS hlc hl2
  rw [hM]
  obtain ⟨hb0, hb1, hb2, hb3, hk4⟩ := four_b w (.cells #[.slice a M cp] tTb) (.cells #[.int .u8 k, .int .i64 cl, .int .u64 n, .int .i64 im, .int .i64 is, .int .i64 o, .int .i64 i, .int .i64 d, .bool tc, .bool wk, .bool gb, .int .i64 lm, .int .i64 ls, .int .i64 h] tOp) (.cells #[.slice none 0 0] tTb) (.cells #[.slice a M cp] tTb)
  have hpc := clear_c _ bt bm S (t.keeps hk4) hG.srt (by omega) (fun r hr => ⟨(hG.ok r hr).1.cl, (hG.ok r hr).1.n⟩)
  have hrc := fun (w1 : World) (hR1 : shR.R w1 (.slice a M cp) S) => clearR_c w1 _ S hR1 (by omega)
  simp only [tbV] at hrc ⊢
  have hbm := t.lt
  have hR4 := hS.keeps hk4
  have hnc := t.mp.noCells ktK

  obtain ⟨S2, hS2⟩ : ∃ S2, (clrS S) = S2 := ⟨_, rfl⟩
  rw [hS2] at hpc hrc hG2 hl2 ⊢
  clear hS2
  obtain ⟨X, hX⟩ : ∃ X, w.heap.size = X := ⟨_, rfl⟩
  rw [hX] at hb0 hb1 hb2 hb3 hbm
  obtain ⟨x0, x1, x2, x3, x4, x5, x6, x7, x8, x9, x10, x11, x12, x13⟩ := cells14 hb1
  have q0 := cells1 hb0
  have hrr : ((k : Int) % 6) = 4 := by omega
  replace hb0 := Lib.hid hb0
  replace hb1 := Lib.hid hb1
  replace hb2 := Lib.hid hb2
  replace hb3 := Lib.hid hb3
  replace hk4 := Lib.hid hk4
  replace hpc := Lib.hid hpc
  replace hrc := Lib.hid hrc
  replace hG := Lib.hid hG
  replace hG2 := Lib.hid hG2
  replace hR4 := Lib.hid hR4
  replace t := Lib.hid t
  replace hnc := Lib.hid hnc
  replace hM := Lib.hid hM
  clear hS he hw
  go_enter Tryz.func44, Tryz.ntmps44
  go_wp2_with fail
  refine hpc.out.mono ?_
  rintro e w1 ⟨rfl, t1, k1⟩
  have hR1 := hR4.out.keepN k1 (fun b hb oo => by simp at hb; subst hb; exact (t.out.keeps hk4.out).mp.noCells ktK oo)
  have hn0 : X ∉ [bm] := by simp; omega
  have hb01 := (k1.block X (lt_of_blk hb0.out) (by simp; omega)).trans hb0.out
  have hb11 := (k1.block (X + 1) (lt_of_blk hb1.out) (by simp; omega)).trans hb1.out
  have hb21 := (k1.block (X + 2) (lt_of_blk hb2.out) (by simp; omega)).trans hb2.out
  have hb31 := (k1.block (X + 3) (lt_of_blk hb3.out) (by simp; omega)).trans hb3.out
  have hk1 := hk4.out.of_nil.trans k1
  clear x0 x1 x2 x3 x4 x5 x6 x7 x8 x9 x10 x11 x12 x13 q0
  obtain ⟨x0, x1, x2, x3, x4, x5, x6, x7, x8, x9, x10, x11, x12, x13⟩ := cells14 hb11
  have q0 := cells1 hb01
  replace hb21 := Lib.hid hb21
  replace hb31 := Lib.hid hb31
  replace hk1 := Lib.hid hk1
  replace hR1 := Lib.hid hR1
  replace t1 := Lib.hid t1
  clear k1 hb01 hb11 hb0 hb1 hb2 hb3 hk4 hR4 t hpc hnc
  go_wp2_with fail
  refine (hrc.out w1 hR1.out).mono ?_
  rintro e w2 ⟨v2, rfl, hR2, k2⟩
  obtain ⟨a2, c2, rfl, _⟩ := hR2.form
  obtain ⟨M2, hM2⟩ : ∃ N, S2.length = N := ⟨_, rfl⟩
  rw [hM2] at hR2 hl2 ⊢
  have t2 := t1.out.keeps k2
  have hb22 := (k2.block (X + 2) (lt_of_blk hb21.out) (by simp)).trans hb21.out
  have hb32 := (k2.block (X + 3) (lt_of_blk hb31.out) (by simp)).trans hb31.out
  have hk2 := hk1.out.trans k2.of_nil
  have hbb2 := t2.lt
  have n0 := cells1 hb32
  have hfz := frz hb32
  replace hM2 := Lib.hid hM2
  replace hR2 := Lib.hid hR2
  replace t2 := Lib.hid t2
  replace hb22 := Lib.hid hb22
  replace hb32 := Lib.hid hb32
  replace hk2 := Lib.hid hk2
  clear x0 x1 x2 x3 x4 x5 x6 x7 x8 x9 x10 x11 x12 x13 q0 k2 hb21 hb31 hk1 hR1 t1 hrc
  go_wp2
  have hkE : Keeps [X + 3] w2 (w2.setCell ⟨X + 1 + 1 + 1, 0, none⟩ (.slice a2 M2 c2)) := (Keeps.refl _ _).setCell (p := ⟨X + 1 + 1 + 1, 0, none⟩) (.inr (by simp)) _
  have hb33 := setCs hb32.out 0 (.slice a2 M2 c2)
  simp only [List.setIfInBounds_toArray, List.set_cons_zero] at hb33
  have hR3 := hR2.out.keepE hkE (fun b hb hne => by simp at hb; subst hb; exact R_box hR2.out hb32.out hne)
  have t3 := t2.out.kept hkE (by simp; omega) (by simp; omega)
  have hb23 := (hkE.block (X + 2) (lt_of_blk hb22.out) (by simp)).trans hb22.out
  have hk3 := hk2.out.fresh hkE (fun b hb => .inr (by simp at hb; omega))
  clear n0 hfz
  replace hb33 : (w2.setCell ⟨X + 1 + 1 + 1, 0, none⟩ (.slice a2 M2 c2)).heap[X + 3]? = some (.cells #[.slice a2 M2 c2] tTb (0, 0)) := hb33
  generalize w2.setCell ⟨X + 1 + 1 + 1, 0, none⟩ (.slice a2 M2 c2) = w3 at *
  have n0 : w3.cell? ⟨X + 1 + 1 + 1, 0, none⟩ = some (.slice a2 M2 c2) := cells1 hb33
  replace hb23 := Lib.hid hb23
  replace hk3 := Lib.hid hk3
  replace hR3 := Lib.hid hR3
  replace t3 := Lib.hid t3
  clear hb33 hkE hR2 t2 hb22 hb32 hk2
  refine Free.wp_region_chain (fun i => i == 7 || i == 9 || i == 10 || i == 13) (fun i => true) (fun j b => j = 13 ∧ b = X + 1 + 1) (by kernel_rfl) (by kernel_rfl) (by kernel_rfl) ?_
  (repeat (first | (apply Free.cw_pure rfl rfl; (intro w'; go_simp <;> exact rfl); go_frame) | (apply Free.cw_steady rfl rfl rfl; (intro w' hS2; have z0 := Free.sx_cell hS2 n0 (fun jj hp hT => by omega); go_simp <;> exact rfl); go_frame) | (apply Free.cw_pureW rfl rfl; (intro w'; go_simp <;> exact rfl); go_frame) | (apply Free.cw_steadyW rfl rfl rfl; (intro w' hS2; have z0 := Free.sx_cell hS2 n0 (fun jj hp hT => by omega); go_simp <;> exact rfl); go_frame) | (refine Free.cw_skip rfl ?_; go_frame)))
  refine Free.cw_loudW rfl rfl (fun K hK => ?_)
  go_wp2_with fail
  refine (list_c _ bt bm S2 (t3.out.keeps ((Keeps.refl [] _).drew)) hG2.out).mono ?_
  rintro e w4 ⟨v4, rfl, hO4, k4⟩
  refine hK _ _ rfl (Free.KeepsP.of k4 (fun b hb => by simp at hb)) ?_
  clear hK K
  have k34 := Lib.hid (((Keeps.refl [] w3).drew).trans k4)
  have hR4 := hO4.r
  replace hR4 := Lib.hid hR4
  clear hO4 k4
  (repeat (first | (apply Free.cw_pure rfl rfl; (intro w'; go_simp <;> exact rfl); go_frame) | (apply Free.cw_steady rfl rfl rfl; (intro w' hS2; have z0 := Free.sx_cell hS2 n0 (fun jj hp hT => by omega); go_simp <;> exact rfl); go_frame) | (apply Free.cw_pureW rfl rfl; (intro w'; go_simp <;> exact rfl); go_frame) | (apply Free.cw_steadyW rfl rfl rfl; (intro w' hS2; have z0 := Free.sx_cell hS2 n0 (fun jj hp hT => by omega); go_simp <;> exact rfl); go_frame) | (refine Free.cw_skip rfl ?_; go_frame)))
  refine Free.cw_loudW rfl rfl (fun K hK => ?_)
  go_wp2_with fail
  refine (listR_c _ _ S2 (hR3.out.keeps k34.out) (by rw [hM2.out]; omega)).mono ?_
  rintro e w5 ⟨v5, rfl, hO5, k5⟩
  refine hK _ _ rfl (Free.KeepsP.of k5 (fun b hb => by simp at hb)) ?_
  clear hK K
  have k45 := Lib.hid k5
  have hR5 := hO5.r
  replace hR5 := Lib.hid hR5
  clear hO5 k5
  (repeat (first | (apply Free.cw_pure rfl rfl; (intro w'; go_simp <;> exact rfl); go_frame) | (apply Free.cw_steady rfl rfl rfl; (intro w' hS2; have z0 := Free.sx_cell hS2 n0 (fun jj hp hT => by omega); go_simp <;> exact rfl); go_frame) | (apply Free.cw_pureW rfl rfl; (intro w'; go_simp <;> exact rfl); go_frame) | (apply Free.cw_steadyW rfl rfl rfl; (intro w' hS2; have z0 := Free.sx_cell hS2 n0 (fun jj hp hT => by omega); go_simp <;> exact rfl); go_frame) | (refine Free.cw_skip rfl ?_; go_frame)))
  refine Free.cw_loudW rfl rfl (fun K hK => ?_)
  go_wp2_with fail
  refine (sameE_c _ _ _ _ _ (hR4.out.keeps k45.out) hR5.out).mono ?_
  rintro e w6 ⟨rfl, k6⟩
  rw [decide_eq_true rfl]
  refine hK _ _ rfl (Free.KeepsP.of k6 (fun b hb => by simp at hb)) ?_
  clear hK K
  have k36 := (k34.out.trans k45.out).trans k6
  have t6 := t3.out.keeps k36
  have hR6 := hR3.out.keeps k36
  have hb26 := (k36.block (X + 2) (lt_of_blk hb23.out) (by simp)).trans hb23.out
  have hk6 := hk3.out.trans k36.of_nil
  have r0 := cells1 hb26
  have hfz := frz hb26
  have hlR := lt_of_blk hb26
  replace hb26 := Lib.hid hb26
  replace hk6 := Lib.hid hk6
  replace hR6 := Lib.hid hR6
  replace t6 := Lib.hid t6
  clear k36 k6 hb23 hk3 hR3 t3 hR4 hR5 k34 k45
  (repeat (first | (apply Free.cw_pure rfl rfl; (intro w'; go_simp <;> exact rfl); go_frame) | (apply Free.cw_steady rfl rfl rfl; (intro w' hS2; have z0 := Free.sx_cell hS2 n0 (fun jj hp hT => by omega); go_simp <;> exact rfl); go_frame) | (apply Free.cw_pureW rfl rfl; (intro w'; go_simp <;> exact rfl); go_frame) | (apply Free.cw_steadyW rfl rfl rfl; (intro w' hS2; have z0 := Free.sx_cell hS2 n0 (fun jj hp hT => by omega); go_simp <;> exact rfl); go_frame) | (refine Free.cw_skip rfl ?_; go_frame)))
  refine Free.cw_loud rfl rfl (fun K hK => ?_)
  go_wp2
  refine hK _ _ rfl (Free.KeepsP.setCell _ (p := ⟨X + 1 + 1, 0, none⟩) ⟨trivial, rfl⟩ _) ?_
  clear hK K
  (repeat (apply Free.cw_pure rfl rfl; (intro w'; go_simp <;> exact rfl); go_frame))
  refine Free.cw_nil ?_
  clear n0
  go_wp2
  have hkE : Keeps [X + 2] w6 (w6.setCell ⟨X + 1 + 1, 0, none⟩ (.slice a2 M2 c2)) := (Keeps.refl _ _).setCell (p := ⟨X + 1 + 1, 0, none⟩) (.inr (by simp)) _
  refine bodyPost_ret (results_utv rfl _ _ _ _ (.slice a2 M2 c2) _ rfl (by have := setCs hb26.out 0 (.slice a2 M2 c2); simpa using this)) rfl ?_
  exact ⟨bt, bm, _, rfl, t6.out.kept hkE (by simp; omega) (by simp; omega), hR6.out.keepE hkE (fun b hb hne => by simp at hb; subst hb; exact R_box hR6.out hb26.out hne), hk6.out.fresh hkE (fun b hb => .inr (by simp at hb; omega)), .inl ⟨rfl, rfl⟩⟩
end Go.Proofs.YtblaaafpglomnaaGreat

namespace Go.Proofs.YtblaaafpglomnaaGreat
open Go Go.RowKit

theorem encS_len {S : List Rw} (g : Good S) : (encS S).length ≤ 200000 := by
  have h1 := encU_len (n := S.length) (by have := g.len; omega)
  have h2 := encL_len (S := S) (fun r hr => g.num hr)
  have := g.len
  unfold encS
  rw [List.length_append]; omega
set_option maxRecDepth 100000 in
set_option maxHeartbeats 8000000 in
theorem apply5 (w : World) (bt bm : Nat) (S : List Rw) (v : Value) (x : OpT) (t : TM w bt bm S) (hS : shR.R w v S) (hG : Good S) (hl : S.length ≤ 1000) (hx : x.ok) (hr : x.k % 6 = 5) :
    Calls Tryz.prog 44 #[.pointer (some ⟨bt, 0, none⟩), tbV v, opV x] w (ApplyPost w bt bm (stepS x S)) := by
  have hG2 := hG.step hx
  have hl2 := len_step x S
  obtain ⟨k, ⟨cl, n, im, is, o, i, d, tc, wk, gb, lm, ls⟩, h⟩ := x
  obtain ⟨hk, he, hw⟩ := hx
  simp only at hk he hw hr
  have hky : kOk (cl, n) := ⟨he.cl, he.n⟩
  obtain ⟨a, cp, rfl, hlc, hcm, _⟩ := hS.form
  have hst : stepS ⟨k, ⟨cl, n, im, is, o, i, d, tc, wk, gb, lm, ls⟩, h⟩ S = S := by simp [stepS, hr, En.key]
  rw [hst] at hG2 hl2 ⊢
  clear hst
  obtain ⟨M, hM⟩ : ∃ N, S.length = N := ⟨_, rfl⟩
  have hlM : M ≤ 1000 := by omega
  rw [hM] at hS hlc hl2
  rw [hM]
  obtain ⟨hb0, hb1, hb2, hb3, hk4⟩ := four_b w (.cells #[.slice a M cp] tTb) (.cells #[.int .u8 k, .int .i64 cl, .int .u64 n, .int .i64 im, .int .i64 is, .int .i64 o, .int .i64 i, .int .i64 d, .bool tc, .bool wk, .bool gb, .int .i64 lm, .int .i64 ls, .int .i64 h] tOp) (.cells #[.slice none 0 0] tTb) (.cells #[.slice a M cp] tTb)
  simp only [tbV]
  have hbm := t.lt
  have hR4 := hS.keeps hk4
  have hnc := t.mp.noCells ktK
  obtain ⟨X, hX⟩ : ∃ X, w.heap.size = X := ⟨_, rfl⟩
  rw [hX] at hb0 hb1 hb2 hb3 hbm
  obtain ⟨x0, x1, x2, x3, x4, x5, x6, x7, x8, x9, x10, x11, x12, x13⟩ := cells14 hb1
  have q0 := cells1 hb0
  have hrr : ((k : Int) % 6) = 5 := by omega
  replace hb0 := Lib.hid hb0
  replace hb1 := Lib.hid hb1
  replace hb2 := Lib.hid hb2
  replace hb3 := Lib.hid hb3
  replace hk4 := Lib.hid hk4
  replace hG := Lib.hid hG
  replace hG2 := Lib.hid hG2
  replace hR4 := Lib.hid hR4
  replace t := Lib.hid t
  replace hnc := Lib.hid hnc
  replace hM := Lib.hid hM
  clear hS he hw hky
  go_enter Tryz.func44, Tryz.ntmps44
  go_wp2_with fail
  refine (encode_c _ bt bm S (t.out.keeps hk4.out) hG.out).mono ?_
  rintro e w1 ⟨v1, rfl, hB1, k1⟩
  obtain ⟨a1, c1, rfl⟩ := hB1.form
  have hsl := hB1.slB
  have hlen := encS_len hG.out
  have k41 := hk4.out.trans k1
  obtain ⟨l1, hl1⟩ : ∃ l, (encS S).length = l := ⟨_, rfl⟩
  rw [hl1] at hsl hB1 hlen ⊢
  replace hsl := Lib.hid hsl
  replace k41 := Lib.hid k41
  replace hl1 := Lib.hid hl1
  clear hB1 x0 x1 x2 x3 x4 x5 x6 x7 x8 x9 x10 x11 x12 x13 q0
  go_wp2_with fail
  refine (decode_c w1 _ (encS S) hsl.out (by rw [hl1.out]; omega)).mono ?_
  intro e w2 hd
  rw [enc_dec hG.out] at hd
  rcases hd with ⟨hd, _⟩ | ⟨S3, bt', bm', hd, rfl, t2, _, k2, hb'1, hb'2⟩
  · cases hd
  cases hd
  have k42 := k41.out.trans k2
  have hz1 := k41.out.size
  have hkb := (hk4.out.size)
  have htt := t.out.keeps k42
  have hne1 : bt' ≠ bm := by have := t.out.lt; omega
  have hne2 : bm' ≠ bm := by have := t.out.lt; omega
  have k2b := Lib.hid k2
  replace t2 := Lib.hid t2
  replace k42 := Lib.hid k42
  replace htt := Lib.hid htt
  clear k2 k41 hsl
  go_wp2_with fail
  refine (clear_c w2 bt bm S htt.out hG.out.srt (by omega) (fun r hr => ⟨(hG.out.ok r hr).1.cl, (hG.out.ok r hr).1.n⟩)).mono ?_
  rintro e w3 ⟨rfl, _, k3⟩
  have hk3 := k42.out.of_nil.trans k3
  have k42b := k42.out
  have k14 := k1.trans k2b.out
  have hb23 := ((k3.block (X + 2) (by have := (k14.block (X + 2) (lt_of_blk hb2.out) (by simp)).trans hb2.out; exact lt_of_blk this) (by simp; omega)).trans (k14.block (X + 2) (lt_of_blk hb2.out) (by simp))).trans hb2.out
  have hb33 := ((k3.block (X + 3) (by have := (k14.block (X + 3) (lt_of_blk hb3.out) (by simp)).trans hb3.out; exact lt_of_blk this) (by simp; omega)).trans (k14.block (X + 3) (lt_of_blk hb3.out) (by simp))).trans hb3.out
  have hR3 := (hR4.out.keeps k14).keepN k3 (fun b hb oo => by simp at hb; subst hb; exact htt.out.mp.noCells ktK oo)
  have t3 := t2.out.kept k3 (by simpa using hne1) (by simpa using hne2)
  have n0 : w3.cell? ⟨X + 1 + 1 + 1, 0, none⟩ = some (.slice a M cp) := cells1 hb33
  have hbb2 := t3.lt
  have hz3 := lt_of_blk hb3.out
  have hz4 := k1.size
  have hfin : X + 4 ≤ bt' ∧ X + 4 ≤ bm' := ⟨by omega, by omega⟩
  clear hz3 hz4 hz1 hkb hb'1 hb'2
  replace hb23 := Lib.hid hb23
  replace hk3 := Lib.hid hk3
  replace hR3 := Lib.hid hR3
  replace t3 := Lib.hid t3
  clear hb33 hR4 t2 hb0 hb1 hb2 hb3 hk4 k42 k42b k14 k3 k1 k2b htt t
  go_wp2
  refine Free.wp_region_chain (fun i => i == 7 || i == 9 || i == 10 || i == 13) (fun i => true) (fun j b => j = 13 ∧ b = X + 1 + 1) (by kernel_rfl) (by kernel_rfl) (by kernel_rfl) ?_
  (repeat (first | (apply Free.cw_pure rfl rfl; (intro w'; go_simp <;> exact rfl); go_frame) | (apply Free.cw_steady rfl rfl rfl; (intro w' hS2; have z0 := Free.sx_cell hS2 n0 (fun jj hp hT => by omega); go_simp <;> exact rfl); go_frame) | (apply Free.cw_pureW rfl rfl; (intro w'; go_simp <;> exact rfl); go_frame) | (apply Free.cw_steadyW rfl rfl rfl; (intro w' hS2; have z0 := Free.sx_cell hS2 n0 (fun jj hp hT => by omega); go_simp <;> exact rfl); go_frame) | (refine Free.cw_skip rfl ?_; go_frame)))
  refine Free.cw_loudW rfl rfl (fun K hK => ?_)
  go_wp2_with fail
  refine (list_c _ bt' bm' S (t3.out.keeps ((Keeps.refl [] _).drew)) hG2.out).mono ?_
  rintro e w4 ⟨v4, rfl, hO4, k4⟩
  refine hK _ _ rfl (Free.KeepsP.of k4 (fun b hb => by simp at hb)) ?_
  clear hK K
  have k34 := Lib.hid (((Keeps.refl [] w3).drew).trans k4)
  have hR4 := hO4.r
  replace hR4 := Lib.hid hR4
  clear hO4 k4
  (repeat (first | (apply Free.cw_pure rfl rfl; (intro w'; go_simp <;> exact rfl); go_frame) | (apply Free.cw_steady rfl rfl rfl; (intro w' hS2; have z0 := Free.sx_cell hS2 n0 (fun jj hp hT => by omega); go_simp <;> exact rfl); go_frame) | (apply Free.cw_pureW rfl rfl; (intro w'; go_simp <;> exact rfl); go_frame) | (apply Free.cw_steadyW rfl rfl rfl; (intro w' hS2; have z0 := Free.sx_cell hS2 n0 (fun jj hp hT => by omega); go_simp <;> exact rfl); go_frame) | (refine Free.cw_skip rfl ?_; go_frame)))
  refine Free.cw_loudW rfl rfl (fun K hK => ?_)
  go_wp2_with fail
  refine (listR_c _ _ S (hR3.out.keeps k34.out) (by rw [hM.out]; omega)).mono ?_
  rintro e w5 ⟨v5, rfl, hO5, k5⟩
  refine hK _ _ rfl (Free.KeepsP.of k5 (fun b hb => by simp at hb)) ?_
  clear hK K
  have k45 := Lib.hid k5
  have hR5 := hO5.r
  replace hR5 := Lib.hid hR5
  clear hO5 k5
  (repeat (first | (apply Free.cw_pure rfl rfl; (intro w'; go_simp <;> exact rfl); go_frame) | (apply Free.cw_steady rfl rfl rfl; (intro w' hS2; have z0 := Free.sx_cell hS2 n0 (fun jj hp hT => by omega); go_simp <;> exact rfl); go_frame) | (apply Free.cw_pureW rfl rfl; (intro w'; go_simp <;> exact rfl); go_frame) | (apply Free.cw_steadyW rfl rfl rfl; (intro w' hS2; have z0 := Free.sx_cell hS2 n0 (fun jj hp hT => by omega); go_simp <;> exact rfl); go_frame) | (refine Free.cw_skip rfl ?_; go_frame)))
  refine Free.cw_loudW rfl rfl (fun K hK => ?_)
  go_wp2_with fail
  refine (sameE_c _ _ _ _ _ (hR4.out.keeps k45.out) hR5.out).mono ?_
  rintro e w6 ⟨rfl, k6⟩
  rw [decide_eq_true rfl]
  refine hK _ _ rfl (Free.KeepsP.of k6 (fun b hb => by simp at hb)) ?_
  clear hK K
  have k36 := (k34.out.trans k45.out).trans k6
  have t6 := t3.out.keeps k36
  have hR6 := hR3.out.keeps k36
  have hb26 := (k36.block (X + 2) (lt_of_blk hb23.out) (by simp)).trans hb23.out
  have hk6 := hk3.out.trans k36.of_nil
  have r0 := cells1 hb26
  have hfz := frz hb26
  have hlR := lt_of_blk hb26
  replace hb26 := Lib.hid hb26
  replace hk6 := Lib.hid hk6
  replace hR6 := Lib.hid hR6
  replace t6 := Lib.hid t6
  clear k36 k6 hb23 hk3 hR3 t3 hR4 hR5 k34 k45
  (repeat (first | (apply Free.cw_pure rfl rfl; (intro w'; go_simp <;> exact rfl); go_frame) | (apply Free.cw_steady rfl rfl rfl; (intro w' hS2; have z0 := Free.sx_cell hS2 n0 (fun jj hp hT => by omega); go_simp <;> exact rfl); go_frame) | (apply Free.cw_pureW rfl rfl; (intro w'; go_simp <;> exact rfl); go_frame) | (apply Free.cw_steadyW rfl rfl rfl; (intro w' hS2; have z0 := Free.sx_cell hS2 n0 (fun jj hp hT => by omega); go_simp <;> exact rfl); go_frame) | (refine Free.cw_skip rfl ?_; go_frame)))
  refine Free.cw_loud rfl rfl (fun K hK => ?_)
  go_wp2
  refine hK _ _ rfl (Free.KeepsP.setCell _ (p := ⟨X + 1 + 1, 0, none⟩) ⟨trivial, rfl⟩ _) ?_
  clear hK K
  (repeat (apply Free.cw_pure rfl rfl; (intro w'; go_simp <;> exact rfl); go_frame))
  refine Free.cw_nil ?_
  clear n0
  go_wp2
  have hkE : Keeps [X + 2] w6 (w6.setCell ⟨X + 1 + 1, 0, none⟩ (.slice a M cp)) := (Keeps.refl _ _).setCell (p := ⟨X + 1 + 1, 0, none⟩) (.inr (by simp)) _
  refine bodyPost_ret (results_utv rfl _ _ _ _ (.slice a M cp) _ rfl (by have := setCs hb26.out 0 (.slice a M cp); simpa using this)) rfl ?_
  exact ⟨bt', bm', _, rfl, t6.out.kept hkE (by simp; omega) (by simp; omega), hR6.out.keepE hkE (fun b hb hne => by simp at hb; subst hb; exact R_box hR6.out hb26.out hne), hk6.out.fresh hkE (fun b hb => .inr (by simp at hb; omega)), .inr (by rw [hX]; omega)⟩
end Go.Proofs.YtblaaafpglomnaaGreat

namespace Go.Proofs.YtblaaafpglomnaaGreat
open Go Go.RowKit

theorem apply_c (w : World) (bt bm : Nat) (S : List Rw) (v : Value) (x : OpT) (t : TM w bt bm S) (hS : shR.R w v S) (hG : Good S) (hl : S.length ≤ 1000) (hx : x.ok) :
    Calls Tryz.prog 44 #[.pointer (some ⟨bt, 0, none⟩), tbV v, opV x] w (ApplyPost w bt bm (stepS x S)) := by
  rcases (show x.k % 6 = 0 ∨ x.k % 6 = 1 ∨ x.k % 6 = 2 ∨ x.k % 6 = 3 ∨ x.k % 6 = 4 ∨ x.k % 6 = 5 by omega) with h | h | h | h | h | h
  · exact apply0 w bt bm S v x t hS hG hl hx h
  · exact apply1 w bt bm S v x t hS hG hl hx h
  · exact apply2 w bt bm S v x t hS hG hl hx h
  · exact apply3 w bt bm S v x t hS hG hl hx h
  · exact apply4 w bt bm S v x t hS hG hl hx h
  · exact apply5 w bt bm S v x t hS hG hl hx h
def runS (l : List OpT) : List Rw := l.foldl (fun S x => stepS x S) []
theorem runS_snoc (l : List OpT) (x : OpT) : runS (l ++ [x]) = stepS x (runS l) := by simp [runS]
theorem runS_good' : ∀ (l : List OpT) (S : List Rw), Good S → (∀ o ∈ l, o.ok) → Good (l.foldl (fun S x => stepS x S) S)
  | [], _, g, _ => g
  | x :: l, S, g, h => runS_good' l _ (g.step (h x (by simp))) (fun o ho => h o (by simp [ho]))
theorem runS_good {l : List OpT} (h : ∀ o ∈ l, o.ok) : Good (runS l) := runS_good' l _ Good.nil h
theorem runS_len' : ∀ (l : List OpT) (S : List Rw), (l.foldl (fun S x => stepS x S) S).length ≤ S.length + l.length
  | [], S => by simp
  | x :: l, S => by
    have h1 := runS_len' l (stepS x S)
    have h2 := len_step x S
    simp only [List.foldl_cons, List.length_cons]
    omega
theorem runS_len (l : List OpT) : (runS l).length ≤ l.length := by have := runS_len' l []; simpa [runS] using this
def RunPost (w : World) (S : List Rw) (e : Ending) (w' : World) : Prop :=
  ∃ bt bm v, e = .returned (.tuple #[.pointer (some ⟨bt, 0, none⟩), tbV v, .bool true]) ∧ TM w' bt bm S ∧ shR.R w' v S ∧ Keeps [] w w' ∧ w.heap.size ≤ bt ∧ w.heap.size ≤ bm
set_option maxRecDepth 100000 in
set_option maxHeartbeats 8000000 in
theorem run_c (w : World) (v0 : Value) (l : List OpT) (h : shO.R w v0 l) (hok : ∀ o ∈ l, o.ok) (hl : l.length ≤ 100) :
    Calls Tryz.prog 13 #[v0] w (RunPost w (runS l)) := by
  obtain ⟨a0, c0, rfl, hlc, hcm, _⟩ := h.form
  obtain ⟨M, hM⟩ : ∃ N, l.length = N := ⟨_, rfl⟩
  rw [hM] at hlc h hl ⊢
  have hkA : Keeps [] w (w.alloc (.cells #[.slice none 0 0] tTb)) := (Keeps.refl _ _).alloc _
  have hbX := heap_alloc_new w (.cells #[.slice none 0 0] tTb)
  obtain ⟨X, hX⟩ : ∃ X, w.heap.size = X := ⟨_, rfl⟩
  rw [hX] at hbX
  replace hM := Lib.hid hM
  replace h := Lib.hid h
  replace hok := Lib.hid hok
  replace hkA := Lib.hid hkA
  replace hbX := Lib.hid hbX
  go_enter Tryz.func13, Tryz.ntmps13
  go_wp2_with fail
  refine (new_c _).mono ?_
  rintro e w1 ⟨bt, bm, rfl, t1, k1, hbt, hbm⟩
  have hlX := lt_of_blk hbX.out
  have hk1 := hkA.out.trans k1
  have hbX1 := (k1.block X hlX (by simp)).trans hbX.out
  have hk2 : Keeps [] w1 (w1.alloc (.cells #[.slice none 0 0] tTb)) := (Keeps.refl _ _).alloc _
  have hbY := heap_alloc_new w1 (.cells #[.slice none 0 0] tTb)
  have hbX2 := (hk2.block X (lt_of_blk hbX1) (by simp)).trans hbX1
  have t2 := t1.keeps hk2
  have hkW := hk1.trans hk2
  have hXY := lt_of_blk hbX1
  obtain ⟨Y, hY⟩ : ∃ Y, w1.heap.size = Y := ⟨_, rfl⟩
  rw [hY] at hbY hXY
  have hsz : (w.alloc (.cells #[.slice none 0 0] tTb)).heap.size = X + 1 := by simp [hX]
  rw [hsz] at hbt hbm
  replace t2 := Lib.hid t2
  replace hkW := Lib.hid hkW
  replace hbX2 := Lib.hid hbX2
  replace hbY := Lib.hid hbY
  clear t1 k1 hk1 hbX1 hk2 hkA hbX hlX hsz
  go_wp2
  generalize w1.alloc (.cells #[.slice none 0 0] tTb) = w2 at *
  go_loopw [7, 5, 8] (fun ok tv iv wr => ∃ (k bt bm : Nat) (v : Value), ok = .bool true ∧ tv = .pointer (some ⟨bt, 0, none⟩) ∧ iv = .int .i64 k ∧ k ≤ M ∧ TM wr bt bm (runS (l.take k)) ∧ shR.R wr v (runS (l.take k)) ∧ X < bt ∧ X < bm ∧ wr.heap[Y]? = some (.cells #[v] tTb (0, 0)) ∧ Keeps [] w wr ∧ wr.heap[X]? = some (.cells #[.slice none 0 0] tTb (0, 0))) (fun _ _ iv _ => M - (intOf iv).toNat)
  case atStart => exact ⟨0, bt, bm, _, rfl, rfl, rfl, by omega, t2.out, Sh.R.nil shR _, by omega, by omega, hbY.out, hkW.out, hbX2.out⟩
  case round =>
    obtain ⟨k, btk, bmk, v, rfl, rfl, rfl, hk, tk, hR, hbt', hbm', hmb, hkr, hbXr⟩ := hrel
    clear t2 hkW hbX2 hbY hbt hbm
    obtain ⟨a, cp, rfl, _⟩ := hR.form
    obtain ⟨NN, hNN⟩ : ∃ n, (runS (l.take k)).length = n := ⟨_, rfl⟩
    rw [hNN] at hR hmb
    have m0 := cells1 hmb
    have hfz := frz hmb
    have hmbm : Y ≠ bmk := fun e => by have := tk.mp.noCells ktK 0; rw [← e] at this; rw [m0] at this; cases this
    have hmlt := lt_of_blk hmb
    by_cases hlt : k < M
    · have hkl : k < l.length := by rw [hM.out]; exact hlt
      obtain ⟨g, o, c', hv, he⟩ := (h.out.keeps hkr).elem hkl
      rw [hM.out] at hv
      cases hv
      obtain ⟨x, hx⟩ : ∃ x, l[k] = x := ⟨_, rfl⟩
      have hxok : x.ok := by rw [← hx]; exact hok.out _ (List.getElem_mem hkl)
      have hsn : runS (l.take (k + 1)) = stepS x (runS (l.take k)) := by
        rw [List.take_add_one, List.getElem?_eq_getElem hkl, hx]; exact runS_snoc _ _
      have hgd : Good (runS (l.take k)) := runS_good (fun o ho => hok.out o (List.mem_of_mem_take ho))
      have hln : (runS (l.take k)).length ≤ 100 := by
        have := runS_len (l.take k)
        have : (l.take k).length ≤ l.length := by rw [List.length_take]; omega
        have := hM.out
        omega
      rw [hx] at he
      have x0 := he 0 _ rfl
      have x1 := he 1 _ rfl
      have x2 := he 2 _ rfl
      have x3 := he 3 _ rfl
      have x4 := he 4 _ rfl
      have x5 := he 5 _ rfl
      have x6 := he 6 _ rfl
      have x7 := he 7 _ rfl
      have x8 := he 8 _ rfl
      have x9 := he 9 _ rfl
      have x10 := he 10 _ rfl
      have x11 := he 11 _ rfl
      have x12 := he 12 _ rfl
      have x13 := he 13 _ rfl
      simp only [shO, Nat.add_zero] at x0 x1 x2 x3 x4 x5 x6 x7 x8 x9 x10 x11 x12 x13
      have hgw : g < w.heap.size := by
        obtain ⟨_, _, _, hv0, he0⟩ := h.out.elem hkl
        rw [hM.out] at hv0
        cases hv0
        exact lt_of_cell (he0 0 _ rfl)
      rw [hX] at hgw
      have hgbm : g ≠ bmk := by omega
      have hgY : g ≠ Y := by omega
      have hap := apply_c wr.drew btk bmk _ (.slice a NN cp) x (tk.keeps ((Keeps.refl [] wr).drew)) (hR.keeps ((Keeps.refl [] wr).drew)) hgd (by omega) hxok
      simp only [tbV] at hap
      rw [← hsn] at hap
      have hzr := hkr.size
      rw [hX] at hzr
      have hwrs : wr.drew.heap.size = wr.heap.size := rfl
      have hrX := lt_of_blk hbXr
      replace hap := Lib.hid hap
      replace hmb := Lib.hid hmb
      replace hkr := Lib.hid hkr
      replace hbXr := Lib.hid hbXr
      replace hx := Lib.hid hx
      clear he tk hR hsn hgd hln hxok hNN
      have hlt2 : (k : Int) < M := by omega
      go_wp2
      refine Free.wp_region_chain (fun i => i == 6 || i == 12) (fun i => true) (fun j b => (j = 6 ∧ b = bmk) ∨ (j = 12 ∧ b = Y)) (by kernel_rfl) (by kernel_rfl) (by kernel_rfl) ?_
      (repeat (first | (apply Free.cw_pure rfl rfl; (intro w'; go_simp <;> exact rfl); go_frame) | (apply Free.cw_steady rfl rfl rfl; (intro w' hS2; have z0 := Free.sx_cell hS2 m0 (fun j hp hT => Or.elim hT (fun h => hmbm h.2) (fun h => by obtain rfl := h.1; exact absurd hp (by decide +kernel))); have z1 := Free.sx_cell hS2 x0 (fun j hp hT => Or.elim hT (fun h => hgbm h.2) (fun h => by omega)); have z2 := Free.sx_cell hS2 x1 (fun j hp hT => Or.elim hT (fun h => hgbm h.2) (fun h => by omega)); have z3 := Free.sx_cell hS2 x2 (fun j hp hT => Or.elim hT (fun h => hgbm h.2) (fun h => by omega)); have z4 := Free.sx_cell hS2 x3 (fun j hp hT => Or.elim hT (fun h => hgbm h.2) (fun h => by omega)); have z5 := Free.sx_cell hS2 x4 (fun j hp hT => Or.elim hT (fun h => hgbm h.2) (fun h => by omega)); have z6 := Free.sx_cell hS2 x5 (fun j hp hT => Or.elim hT (fun h => hgbm h.2) (fun h => by omega)); have z7 := Free.sx_cell hS2 x6 (fun j hp hT => Or.elim hT (fun h => hgbm h.2) (fun h => by omega)); have z8 := Free.sx_cell hS2 x7 (fun j hp hT => Or.elim hT (fun h => hgbm h.2) (fun h => by omega)); have z9 := Free.sx_cell hS2 x8 (fun j hp hT => Or.elim hT (fun h => hgbm h.2) (fun h => by omega)); have z10 := Free.sx_cell hS2 x9 (fun j hp hT => Or.elim hT (fun h => hgbm h.2) (fun h => by omega)); have z11 := Free.sx_cell hS2 x10 (fun j hp hT => Or.elim hT (fun h => hgbm h.2) (fun h => by omega)); have z12 := Free.sx_cell hS2 x11 (fun j hp hT => Or.elim hT (fun h => hgbm h.2) (fun h => by omega)); have z13 := Free.sx_cell hS2 x12 (fun j hp hT => Or.elim hT (fun h => hgbm h.2) (fun h => by omega)); have z14 := Free.sx_cell hS2 x13 (fun j hp hT => Or.elim hT (fun h => hgbm h.2) (fun h => by omega)); go_simp <;> exact rfl); go_frame)))
      refine Free.cw_loud rfl rfl (fun K hK => ?_)
      go_wp2_with fail
      refine hap.out.mono ?_
      rintro e w4 ⟨bt', bm', v', rfl, t4, hR4, k4, hfr⟩
      obtain ⟨a4, c4, rfl, _⟩ := hR4.form
      obtain ⟨N4, hN4⟩ : ∃ n, (runS (l.take (k + 1))).length = n := ⟨_, rfl⟩
      rw [hN4] at hR4 ⊢
      refine hK _ _ rfl (Free.KeepsP.of k4 (fun b hb => .inl ⟨trivial, by simpa using hb⟩)) ?_
      clear hK K
      have hkd : Keeps [bmk] wr w4 := ((Keeps.refl [bmk] wr).drew).trans k4
      have hmb4 := (hkd.block _ hmlt (by simpa using hmbm)).trans hmb.out
      have hbX4 := (hkd.block X hrX (by simp; omega)).trans hbXr.out
      have hkE : Keeps [Y] w4 (w4.setCell ⟨Y, 0, none⟩ (.slice a4 N4 c4)) := (Keeps.refl _ _).setCell (p := ⟨Y, 0, none⟩) (.inr (by simp)) _
      have hs4 := setCs hmb4 0 (.slice a4 N4 c4)
      simp only [List.setIfInBounds_toArray, List.set_cons_zero] at hs4
      have hbX5 := (hkE.block X (lt_of_blk hbX4) (by simp; omega)).trans hbX4
      have hR5 := hR4.keepE hkE (fun b hb hne => by simp at hb; subst hb; exact R_box hR4 hmb4 hne)
      have n0 := cells1 hmb4
      have hfz4 := frz hmb4
      have hY1 : bt' ≠ Y := by
        rcases hfr with ⟨rfl, rfl⟩ | ⟨f1, f2⟩
        · intro e; have := t4.blk; rw [e, hmb4] at this; cases this
        · omega
      have hY2 : bm' ≠ Y := fun e => by have := t4.mp.noCells ktK 0; rw [e, n0] at this; cases this
      have t5 := t4.kept hkE (by simpa using hY1) (by simpa using hY2)
      have hk5 := (hkr.out.fresh hkd (fun b hb => .inr (by simp at hb; omega))).fresh hkE (fun b hb => .inr (by simp at hb; omega))
      have hX1 : X < bt' ∧ X < bm' := by
        rcases hfr with ⟨rfl, rfl⟩ | ⟨f1, f2⟩
        · exact ⟨hbt', hbm'⟩
        · exact ⟨by omega, by omega⟩
      have hlY := lt_of_blk hmb4
      replace hs4 := Lib.hid hs4
      replace hR5 := Lib.hid hR5
      replace t5 := Lib.hid t5
      replace hk5 := Lib.hid hk5
      replace hbX5 := Lib.hid hbX5
      replace hN4 := Lib.hid hN4
      clear hkd hmb4 hbX4 hkE hR4 t4 k4 hap m0 hfz x0 x1 x2 x3 x4 x5 x6 x7 x8 x9 x10 x11 x12 x13 hfr
      (repeat (apply Free.cw_pure rfl rfl; (intro w'; go_simp <;> exact rfl); go_frame))
      refine Free.cw_loud rfl rfl (fun K hK => ?_)
      go_wp2
      refine hK _ _ rfl (Free.KeepsP.setCell _ (p := ⟨Y, 0, none⟩) (.inr ⟨trivial, rfl⟩) _) ?_
      clear hK K
      (repeat (apply Free.cw_pure rfl rfl; (intro w'; go_simp <;> exact rfl); go_frame))
      refine Free.cw_nil ?_
      clear n0 hfz4
      go_wp2
      go_roundw
      case rel => exact ⟨k + 1, bt', bm', _, rfl, rfl, rfl, by omega, t5.out, hR5.out, hX1.1, hX1.2, hs4.out, hk5.out, hbX5.out⟩
      case measure => simp [intOf]; omega
    · have hkM : k = M := by omega
      have hall : l.take k = l := List.take_of_length_le (by rw [hM.out]; omega)
      rw [hall] at tk hR
      have z0 := cells1 hbXr
      have hfz2 := frz hbXr
      have hrX := lt_of_blk hbXr
      have hXY2 : X ≠ Y := by omega
      replace tk := Lib.hid tk
      replace hR := Lib.hid hR
      replace hbXr := Lib.hid hbXr
      replace hkr := Lib.hid hkr
      replace hmb := Lib.hid hmb
      clear hall hNN
      have hlt2 : decide ((k : Int) < M) = false := by simp; omega
      replace hkM := Lib.hid hkM
      go_wp2
      refine Free.wp_region_chain (fun i => i == 4) (fun i => true) (fun j b => j = 4 ∧ b = X) (by kernel_rfl) (by kernel_rfl) (by kernel_rfl) ?_
      (repeat (first | (apply Free.cw_pure rfl rfl; (intro w'; go_simp <;> exact rfl); go_frame) | (apply Free.cw_steady rfl rfl rfl; (intro w' hS2; have z0 := Free.sx_cell hS2 m0 (fun j hp hT => hXY2 hT.2.symm); go_simp <;> exact rfl); go_frame)))
      refine Free.cw_loud rfl rfl (fun K hK => ?_)
      go_wp2
      refine hK _ _ rfl (Free.KeepsP.setCell _ (p := ⟨X, 0, none⟩) ⟨trivial, rfl⟩ _).drews ?_
      clear hK K
      (repeat (apply Free.cw_pure rfl rfl; (intro w'; go_simp <;> exact rfl); go_frame))
      refine Free.cw_nil ?_
      clear m0
      go_wp2
      have hkE : Keeps [X] wr (wr.setCell ⟨X, 0, none⟩ (.slice a NN cp)) := (Keeps.refl _ _).setCell (p := ⟨X, 0, none⟩) (.inr (by simp)) _
      have hsz := setCs hbXr.out 0 (.slice a NN cp)
      simp only [List.setIfInBounds_toArray, List.set_cons_zero] at hsz
      refine bodyPost_ret (results_utv rfl _ _ _ _ (.slice a NN cp) _ rfl ((drewHeap _ _).trans hsz)) rfl ?_
      exact ⟨btk, bmk, _, rfl, (tk.out.kept hkE (by simp; omega) (by simp; omega)).keeps ((Keeps.refl [] _).drew), (hR.out.keepE hkE (fun b hb hne => by simp at hb; subst hb; exact R_box hR.out hbXr.out hne)).keeps ((Keeps.refl [] _).drew), (hkr.out.fresh hkE (fun b hb => .inr (by simp at hb; omega))).drew, by omega, by omega⟩
end Go.Proofs.YtblaaafpglomnaaGreat

namespace Go.Proofs.YtblaaafpglomnaaGreat
open Go Go.RowKit
attribute [local go_sem] Oper.semAt_some

set_option maxRecDepth 100000 in
set_option maxHeartbeats 4000000 in
theorem nan_c (w : World) (n : Nat) : Calls Tryz.prog 78 #[.int .u64 n] w fun e w' => e = .returned (.bool false) ∧ w' = w := by
  go_enter Tryz.func78, Tryz.ntmps78
  go_wp2
  go_ret
  exact ⟨rfl, rfl⟩
set_option maxRecDepth 100000 in
set_option maxHeartbeats 4000000 in
theorem less_c (w : World) (x y : Nat) : Calls Tryz.prog 94 #[.int .u64 x, .int .u64 y] w fun e w' => e = .returned (.bool (decide (x < y))) ∧ w' = w := by
  have h1 := fun w => nan_c w x
  go_enter Tryz.func94, Tryz.ntmps94
  go_wp2_with fail
  refine (h1 _).mono ?_
  rintro e w1 ⟨rfl, rfl⟩
  go_wp2
  go_ret
  exact ⟨by simp, rfl⟩
set_option maxRecDepth 100000 in
set_option maxHeartbeats 4000000 in
theorem len64_c (w : World) : Calls Tryz.prog 98 #[.int .u64 2] w fun e w' => e = .returned (.int .i64 2) ∧ w' = w := by
  go_enter Tryz.func98, Tryz.ntmps98
  go_wp2
  go_ret
  exact ⟨by kernel_rfl, rfl⟩
set_option maxRecDepth 100000 in
set_option maxHeartbeats 4000000 in
theorem blen_c (w : World) : Calls Tryz.prog 76 #[.int .u64 2] w fun e w' => e = .returned (.int .i64 2) ∧ w' = w := by
  have h1 := fun w => len64_c w
  go_enter Tryz.func76, Tryz.ntmps76
  go_wp2_with fail
  refine (h1 _).mono ?_
  rintro e w1 ⟨rfl, rfl⟩
  go_wp2
  go_ret
  exact ⟨rfl, rfl⟩
end Go.Proofs.YtblaaafpglomnaaGreat

namespace Go.Proofs.YtblaaafpglomnaaGreat
open Go Go.RowKit
attribute [local go_sem] Oper.semAt_some

/-- The block of an owned list of numbers. -/
theorem U_blk {w : World} {B ee g n c : Nat} {L : List Nat} (h : shU.O w B ee (.slice (some ⟨g, 0, none⟩) n c) L) (hn : L.length = n) (hp : 0 < n) : B ≤ g ∧ g < w.heap.size ∧ (∀ o, w.frozen? ⟨g, o, none⟩ = false) ∧ (∀ k (hk : k < L.length), w.cell? ⟨g, k, none⟩ = some (.int .u64 L[k])) := by
  have hr := h.r
  have h0 := h
  unfold Sh.O at h
  rw [hn] at h
  obtain ⟨hl, h2⟩ := h
  rcases h2 with ⟨_, e⟩ | ⟨g', cap, cur, e, hb, hg, hle, hm, hsz, ht⟩
  · exfalso
    omega
  · cases e
    refine ⟨hb, lt_of_blk hg, frz hg, fun k hk => ?_⟩
    obtain ⟨g1, o1, c1, e1, he⟩ := hr.elem hk
    cases e1
    have := he 0 _ rfl
    simpa [shU] using this
def sort2 (x y : Nat) : List Nat := if y < x then [y, x] else [x, y]
set_option maxRecDepth 100000 in
set_option maxHeartbeats 8000000 in
theorem ins2_c (w : World) (B ee g c x y : Nat) (h : shU.O w B ee (.slice (some ⟨g, 0, none⟩) 2 c) [x, y]) :
    Calls Tryz.prog 88 #[.slice (some ⟨g, 0, none⟩) 2 c, .int .i64 0, .int .i64 2] w fun e w' => e = .returned (.tuple #[]) ∧ shU.O w' B ee (.slice (some ⟨g, 0, none⟩) 2 c) (sort2 x y) ∧ Keeps [g] w w' := by
  obtain ⟨hB, hgl, hfz, hc⟩ := U_blk h rfl (by omega)
  have c0 : w.cell? ⟨g, 0, none⟩ = some (.int .u64 x) := hc 0 (by simp)
  have c1 : w.cell? ⟨g, 1, none⟩ = some (.int .u64 y) := hc 1 (by simp)
  have hlt := fun W => less_c W y x
  have hkE : Keeps [g] w ((w.setCell ⟨g, 1, none⟩ (.int .u64 x)).setCell ⟨g, 0, none⟩ (.int .u64 y)) := ((Keeps.refl _ _).setCell (p := ⟨g, 1, none⟩) (.inr (by simp)) _).setCell (p := ⟨g, 0, none⟩) (.inr (by simp)) _
  have hO2 : shU.O ((w.setCell ⟨g, 1, none⟩ (.int .u64 x)).setCell ⟨g, 0, none⟩ (.int .u64 y)) B ee (.slice (some ⟨g, 0, none⟩) 2 c) [y, x] := by
    have h1 := h.set (k := 1) (by simp) x 0 (.int .u64 x) rfl (by decide) rfl
    have h2 := h1.set (k := 0) (by simp) y 0 (.int .u64 y) rfl (by decide) rfl
    exact h2
  replace hlt := Lib.hid hlt
  replace hkE := Lib.hid hkE
  replace hO2 := Lib.hid hO2
  replace h := Lib.hid h
  have hc := Lib.hid (And.intro c0 c1)
  have hw0 : IntKind.i64.wrap 0 = 0 := by rw [IntKind.wrap_i64]; rfl
  by_cases hyx : y < x
  · have hs : sort2 x y = [y, x] := if_pos hyx
    rw [hs]
    have hd : decide (y < x) = true := by simpa using hyx
    rw [hd] at hlt
    clear hs hd
    go_enter Tryz.func88, Tryz.ntmps88
    go_wp2
    go_loopw [6] (fun iv wr => (iv = .int .i64 1 ∧ wr = w) ∨ (iv = .int .i64 2 ∧ shU.O wr B ee (.slice (some ⟨g, 0, none⟩) 2 c) [y, x] ∧ Keeps [g] w wr)) (fun iv _ => 2 - (intOf iv).toNat)
    case atStart => exact .inl ⟨rfl, rfl⟩
    case round =>
      rcases hrel with ⟨rfl, rfl⟩ | ⟨rfl, hO, hkw⟩
      · go_wp2
        go_loopw [7] (fun jv wq => (jv = .int .i64 1 ∧ wq = wr) ∨ (jv = .int .i64 0 ∧ shU.O wq B ee (.slice (some ⟨g, 0, none⟩) 2 c) [y, x] ∧ Keeps [g] wr wq)) (fun jv _ => (intOf jv).toNat)
        case atStart => exact .inl ⟨rfl, rfl⟩
        case round =>
          rcases hrel with ⟨rfl, rfl⟩ | ⟨rfl, hO, hkw⟩
          · go_wp2
            refine Free.wp_region_chain (fun i => i == 13) (fun i => true) (fun j b => False) (by kernel_rfl) (by kernel_rfl) (by kernel_rfl) ?_
            (repeat (first | (apply Free.cw_pure rfl rfl; (intro w'; go_simp <;> exact rfl); go_frame) | (apply Free.cw_steady rfl rfl rfl; (intro w' hS2; have z0 := Free.sx_cell hS2 c0 (fun _ _ hT => hT); have z1 := Free.sx_cell hS2 c1 (fun _ _ hT => hT); go_simp <;> exact rfl); go_frame) | (apply Free.cw_pureW rfl rfl; (intro w'; go_simp <;> exact rfl); go_frame) | (apply Free.cw_steadyW rfl rfl rfl; (intro w' hS2; have z0 := Free.sx_cell hS2 c0 (fun _ _ hT => hT); have z1 := Free.sx_cell hS2 c1 (fun _ _ hT => hT); go_simp <;> exact rfl); go_frame) | (refine Free.cw_skip rfl ?_; go_frame)))
            refine Free.cw_loudW rfl rfl (fun K hK => ?_)
            go_wp2_with fail
            refine (hlt.out _).mono ?_
            rintro e w6 ⟨rfl, rfl⟩
            refine hK _ _ rfl (Free.KeepsP.refl _ _) ?_
            clear hK K
            (repeat (first | (apply Free.cw_pure rfl rfl; (intro w'; go_simp <;> exact rfl); go_frame) | (apply Free.cw_steady rfl rfl rfl; (intro w' hS2; have z0 := Free.sx_cell hS2 c0 (fun _ _ hT => hT); have z1 := Free.sx_cell hS2 c1 (fun _ _ hT => hT); go_simp <;> exact rfl); go_frame) | (apply Free.cw_pureW rfl rfl; (intro w'; go_simp <;> exact rfl); go_frame) | (apply Free.cw_steadyW rfl rfl rfl; (intro w' hS2; have z0 := Free.sx_cell hS2 c0 (fun _ _ hT => hT); have z1 := Free.sx_cell hS2 c1 (fun _ _ hT => hT); go_simp <;> exact rfl); go_frame) | (refine Free.cw_skip rfl ?_; go_frame)))
            refine Free.cw_nil ?_
            go_wp2
            clear c0 c1
            have c0 : wr.drew.cell? ⟨g, 0, none⟩ = some (.int .u64 x) := hc.out.1
            have c1 : wr.drew.cell? ⟨g, 1, none⟩ = some (.int .u64 y) := hc.out.2
            have hfz2 : ∀ o, wr.drew.frozen? ⟨g, o, none⟩ = false := hfz
            have hgl2 : g < wr.drew.heap.size := hgl
            refine Free.wp_region_chain (fun i => i == 15 || i == 17) (fun i => true) (fun j b => (j = 15 ∨ j = 17) ∧ b = g) (by kernel_rfl) (by kernel_rfl) (by kernel_rfl) ?_
            (repeat (first | (apply Free.cw_pure rfl rfl; (intro w'; go_simp <;> exact rfl); go_frame) | (apply Free.cw_steady rfl rfl rfl; (intro w' hS2; have z0 := Free.sx_cell hS2 c0 (fun j hp hT => by rcases hT with ⟨rfl | rfl, _⟩ <;> exact absurd hp (by decide +kernel)); have z1 := Free.sx_cell hS2 c1 (fun j hp hT => by rcases hT with ⟨rfl | rfl, _⟩ <;> exact absurd hp (by decide +kernel)); go_simp <;> exact rfl); go_frame)))
            refine Free.cw_loud rfl rfl (fun K hK => ?_)
            go_wp2
            refine hK _ _ rfl (Free.KeepsP.setCell _ (p := ⟨g, 1, none⟩) ⟨.inl trivial, rfl⟩ _) ?_
            clear hK K
            (repeat (first | (apply Free.cw_pure rfl rfl; (intro w'; go_simp <;> exact rfl); go_frame) | (apply Free.cw_steady rfl rfl rfl; (intro w' hS2; have z0 := Free.sx_cell hS2 c0 (fun j hp hT => by rcases hT with ⟨rfl | rfl, _⟩ <;> exact absurd hp (by decide +kernel)); have z1 := Free.sx_cell hS2 c1 (fun j hp hT => by rcases hT with ⟨rfl | rfl, _⟩ <;> exact absurd hp (by decide +kernel)); go_simp <;> exact rfl); go_frame)))
            refine Free.cw_loud rfl rfl (fun K hK => ?_)
            go_wp2
            refine hK _ _ rfl (Free.KeepsP.setCell _ (p := ⟨g, 0, none⟩) ⟨.inr trivial, rfl⟩ _) ?_
            clear hK K
            (repeat (apply Free.cw_pure rfl rfl; (intro w'; go_simp <;> exact rfl); go_frame))
            refine Free.cw_nil ?_
            clear c0 c1 hfz2
            go_wp2
            go_roundw
            case rel => exact .inr ⟨rfl, hO2.out.keeps ((Keeps.refl [] _).drew.drew), hkE.out.drew.drew⟩
            case measure => simp [intOf]
          · replace hO := Lib.hid hO
            replace hkw := Lib.hid hkw
            go_wp2
            refine Free.wp_region_chain (fun i => i == 13) (fun i => true) (fun j b => False) (by kernel_rfl) (by kernel_rfl) (by kernel_rfl) ?_
            (repeat (first | (apply Free.cw_pure rfl rfl; (intro w'; go_simp <;> exact rfl); go_frame) | (apply Free.cw_steady rfl rfl rfl; (intro w' hS2; go_simp <;> exact rfl); go_frame) | (apply Free.cw_pureW rfl rfl; (intro w'; go_simp <;> exact rfl); go_frame) | (apply Free.cw_steadyW rfl rfl rfl; (intro w' hS2; go_simp <;> exact rfl); go_frame) | (refine Free.cw_skip rfl ?_; go_frame)))
            refine Free.cw_nil ?_
            go_wp2
            go_roundw
            case rel => exact .inr ⟨rfl, hO.out.keeps ((Keeps.refl [] _).drew), hkw.out.drew⟩
            case measure => simp [intOf]
      · replace hO := Lib.hid hO
        replace hkw := Lib.hid hkw
        go_wp2
        (try simp only [Exit.inBlock, Exit.then])
        refine bodyPost_end (results_none rfl _ _ _) rfl ?_
        exact ⟨rfl, hO.out, hkw.out⟩
  · have hs : sort2 x y = [x, y] := if_neg hyx
    rw [hs]
    have hd : decide (y < x) = false := by simpa using hyx
    rw [hd] at hlt
    clear hs hd
    go_enter Tryz.func88, Tryz.ntmps88
    go_wp2
    go_loopw [6] (fun iv wr => (iv = .int .i64 1 ∧ wr = w) ∨ (iv = .int .i64 2 ∧ wr = w.drew)) (fun iv _ => 2 - (intOf iv).toNat)
    case atStart => exact .inl ⟨rfl, rfl⟩
    case round =>
      rcases hrel with ⟨rfl, rfl⟩ | ⟨rfl, rfl⟩
      · go_wp2
        go_loopw [7] (fun jv wq => jv = .int .i64 1 ∧ wq = wr) (fun jv _ => (intOf jv).toNat)
        case atStart => exact ⟨rfl, rfl⟩
        case round =>
          obtain ⟨rfl, rfl⟩ := hrel
          go_wp2
          refine Free.wp_region_chain (fun i => i == 13) (fun i => true) (fun j b => False) (by kernel_rfl) (by kernel_rfl) (by kernel_rfl) ?_
          (repeat (first | (apply Free.cw_pure rfl rfl; (intro w'; go_simp <;> exact rfl); go_frame) | (apply Free.cw_steady rfl rfl rfl; (intro w' hS2; have z0 := Free.sx_cell hS2 c0 (fun _ _ hT => hT); have z1 := Free.sx_cell hS2 c1 (fun _ _ hT => hT); go_simp <;> exact rfl); go_frame) | (apply Free.cw_pureW rfl rfl; (intro w'; go_simp <;> exact rfl); go_frame) | (apply Free.cw_steadyW rfl rfl rfl; (intro w' hS2; have z0 := Free.sx_cell hS2 c0 (fun _ _ hT => hT); have z1 := Free.sx_cell hS2 c1 (fun _ _ hT => hT); go_simp <;> exact rfl); go_frame) | (refine Free.cw_skip rfl ?_; go_frame)))
          refine Free.cw_loudW rfl rfl (fun K hK => ?_)
          go_wp2_with fail
          refine (hlt.out _).mono ?_
          rintro e w6 ⟨rfl, rfl⟩
          refine hK _ _ rfl (Free.KeepsP.refl _ _) ?_
          clear hK K
          (repeat (first | (apply Free.cw_pure rfl rfl; (intro w'; go_simp <;> exact rfl); go_frame) | (apply Free.cw_steady rfl rfl rfl; (intro w' hS2; have z0 := Free.sx_cell hS2 c0 (fun _ _ hT => hT); have z1 := Free.sx_cell hS2 c1 (fun _ _ hT => hT); go_simp <;> exact rfl); go_frame) | (apply Free.cw_pureW rfl rfl; (intro w'; go_simp <;> exact rfl); go_frame) | (apply Free.cw_steadyW rfl rfl rfl; (intro w' hS2; have z0 := Free.sx_cell hS2 c0 (fun _ _ hT => hT); have z1 := Free.sx_cell hS2 c1 (fun _ _ hT => hT); go_simp <;> exact rfl); go_frame) | (refine Free.cw_skip rfl ?_; go_frame)))
          refine Free.cw_nil ?_
          go_wp2
          go_roundw
          case rel => exact .inr ⟨rfl, trivial⟩
          case measure => simp [intOf]
      · go_wp2
        (try simp only [Exit.inBlock, Exit.then])
        refine bodyPost_end (results_none rfl _ _ _) rfl ?_
        exact ⟨rfl, h.out.keeps ((Keeps.refl [] _).drew), (Keeps.refl [g] _).drew⟩
end Go.Proofs.YtblaaafpglomnaaGreat

namespace Go.Proofs.YtblaaafpglomnaaGreat
open Go Go.RowKit
attribute [local go_sem] Oper.semAt_some

set_option maxRecDepth 100000 in
set_option maxHeartbeats 8000000 in
theorem pdq2_c (w : World) (B ee g c x y : Nat) (lim : Int) (h : shU.O w B ee (.slice (some ⟨g, 0, none⟩) 2 c) [x, y]) :
    Calls Tryz.prog 75 #[.slice (some ⟨g, 0, none⟩) 2 c, .int .i64 0, .int .i64 2, .int .i64 lim] w fun e w' => e = .returned (.tuple #[]) ∧ shU.O w' B ee (.slice (some ⟨g, 0, none⟩) 2 c) (sort2 x y) ∧ Keeps [g] w w' := by
  have hi := ins2_c w B ee g c x y h
  obtain ⟨S, hS⟩ : ∃ S, sort2 x y = S := ⟨_, rfl⟩
  rw [hS] at hi ⊢
  replace hi := Lib.hid hi
  clear h hS
  go_enter Tryz.func75, Tryz.ntmps75
  go_wp2
  go_loopw [1, 2] (fun av iv wr => av = .int .i64 0 ∧ iv = .int .i64 2 ∧ wr = w) (fun _ _ _ => 0)
  case atStart => exact ⟨rfl, rfl, rfl⟩
  case round =>
    obtain ⟨rfl, rfl, rfl⟩ := hrel
    go_wp2_with fail
    refine hi.out.mono ?_
    rintro e w6 ⟨rfl, hO, hk⟩
    replace hO := Lib.hid hO
    replace hk := Lib.hid hk
    go_wp2
    (try simp only [Exit.inBlock, Exit.then])
    refine bodyPost_ret (results_none rfl _ _ _) rfl ?_
    exact ⟨rfl, hO.out, hk.out⟩
set_option maxRecDepth 100000 in
set_option maxHeartbeats 8000000 in
theorem sort2_c (w : World) (B ee g c x y : Nat) (h : shU.O w B ee (.slice (some ⟨g, 0, none⟩) 2 c) [x, y]) :
    Calls Tryz.prog 49 #[.slice (some ⟨g, 0, none⟩) 2 c] w fun e w' => e = .returned (.tuple #[]) ∧ shU.O w' B ee (.slice (some ⟨g, 0, none⟩) 2 c) (sort2 x y) ∧ Keeps [g] w w' := by
  have hp := pdq2_c w B ee g c x y 2 h
  have hb := fun w => blen_c w
  obtain ⟨S, hS⟩ : ∃ S, sort2 x y = S := ⟨_, rfl⟩
  rw [hS] at hp ⊢
  replace hp := Lib.hid hp
  clear h hS
  go_enter Tryz.func49, Tryz.ntmps49
  go_wp2_with fail
  refine (hb _).mono ?_
  rintro e w6 ⟨rfl, rfl⟩
  go_wp2_with fail
  refine hp.out.mono ?_
  rintro e w7 ⟨rfl, hO, hk⟩
  replace hO := Lib.hid hO
  replace hk := Lib.hid hk
  go_wp2
  (try simp only [Exit.inBlock, Exit.then])
  refine bodyPost_end (results_none rfl _ _ _) rfl ?_
  exact ⟨rfl, hO.out, hk.out⟩
end Go.Proofs.YtblaaafpglomnaaGreat

namespace Go.Proofs.YtblaaafpglomnaaGreat
open Go Go.RowKit
attribute [local go_sem] Oper.semAt_some

set_option maxRecDepth 100000 in
set_option maxHeartbeats 8000000 in
theorem compact2_c (w : World) (B ee g c x y : Nat) (h : shU.O w B ee (.slice (some ⟨g, 0, none⟩) 2 c) [x, y]) (hxy : x ≠ y) :
    Calls Tryz.prog 50 #[.slice (some ⟨g, 0, none⟩) 2 c] w fun e w' => e = .returned (.slice (some ⟨g, 0, none⟩) 2 c) ∧ Keeps [] w w' := by
  obtain ⟨hB, hgl, hfz, hc⟩ := U_blk h rfl (by omega)
  have c0 : w.cell? ⟨g, 0, none⟩ = some (.int .u64 x) := hc 0 (by simp)
  have c1 : w.cell? ⟨g, 1, none⟩ = some (.int .u64 y) := hc 1 (by simp)
  have hd : ((y : Int) == x) = false := by simp; omega
  have hw0 : IntKind.i64.wrap 0 = 0 := by rw [IntKind.wrap_i64]; rfl
  clear hc h
  go_enter Tryz.func50, Tryz.ntmps50
  go_wp2
  go_loopw [3] (fun iv wr => (iv = .int .i64 1 ∧ wr = w) ∨ (iv = .int .i64 2 ∧ wr = w.drew)) (fun iv _ => 2 - (intOf iv).toNat)
  case atStart => exact .inl ⟨rfl, rfl⟩
  case round =>
    rcases hrel with ⟨rfl, rfl⟩ | ⟨rfl, rfl⟩
    · go_wp2
      refine Free.wp_region_chain (fun i => false) (fun i => true) (fun j b => False) (by kernel_rfl) (by kernel_rfl) (by kernel_rfl) ?_
      (repeat (first | (apply Free.cw_pure rfl rfl; (intro w'; go_simp <;> exact rfl); go_frame) | (apply Free.cw_steady rfl rfl rfl; (intro w' hS; have q0 := Free.sx_cell hS c0 (fun _ _ hT => hT); have q1 := Free.sx_cell hS c1 (fun _ _ hT => hT); go_simp <;> exact rfl); go_frame) | (refine Free.cw_skip rfl ?_; go_frame)))
      refine Free.cw_nil ?_
      go_wp2
      go_roundw
      case rel => exact .inr ⟨rfl, trivial⟩
      case measure => simp [intOf]
    · go_wp2
      go_ret
      exact ⟨rfl, (Keeps.refl [] _).drew⟩
end Go.Proofs.YtblaaafpglomnaaGreat

namespace Go.Proofs.YtblaaafpglomnaaGreat
open Go Go.RowKit
attribute [local go_sem] Oper.semAt_some

theorem two_perm {L : List Nat} {x y : Nat} (hxy : x < y) (h : L.Perm [x, y]) : ∃ p q, L = [p, q] ∧ p ≠ q ∧ sort2 p q = [x, y] := by
  have hlen : L.length = 2 := h.length_eq
  match L, hlen with
  | [p, q], _ =>
    have hx : x ∈ [p, q] := h.mem_iff.2 (by simp)
    have hy : y ∈ [p, q] := h.mem_iff.2 (by simp)
    simp only [List.mem_cons, List.not_mem_nil, or_false] at hx hy
    refine ⟨p, q, rfl, by omega, ?_⟩
    unfold sort2
    rcases hx with rfl | rfl
    · rcases hy with rfl | rfl
      · omega
      · rw [if_neg (by omega)]
    · rcases hy with rfl | rfl
      · rw [if_pos hxy]
      · omega
theorem U_own {w : World} {B ee n : Nat} {a : Option Addr} {c : Nat} {L : List Nat} (h : shU.O w B ee (.slice a n c) L) (hp : L ≠ []) : ∃ g, a = some ⟨g, 0, none⟩ ∧ B ≤ g ∧ g < w.heap.size := by
  unfold Sh.O at h
  obtain ⟨hl, h2⟩ := h
  rcases h2 with ⟨_, e⟩ | ⟨g', cap, cur, e, hb, hg, hle, hm, hsz, ht⟩
  · exact absurd (List.length_eq_zero_iff.1 e) hp
  · cases e
    exact ⟨g', rfl, hb, lt_of_blk hg⟩
set_option maxRecDepth 100000 in
set_option maxHeartbeats 8000000 in
theorem numbers2_c (w : World) (bt bm : Nat) (T : List Rw) (x y : Nat) (t : TM w bt bm T) (hT : T.map (fun r => r.1.n) = [x, y]) (hxy : x < y) :
    Calls Tryz.prog 20 #[.pointer (some ⟨bt, 0, none⟩)] w fun e w' => ∃ v, e = .returned v ∧ shU.R w' v [x, y] ∧ Keeps [] w w' := by
  have hM := t.mp
  have d7 := t.cell
  have hlt := t.lt
  have hnb := t.ne
  have hbt := t.blk
  have hTl : T.length = 2 := by have := congrArg List.length hT; simpa using this
  replace hM := Lib.hid hM
  replace hbt := Lib.hid hbt
  clear t
  go_enter Tryz.func20, Tryz.ntmps20
  go_wp2_with (at_range; refine MapS.wpl_range ktK rfl _ rfl Tryz.underlying74 rfl hM.out ?_; intro w1 hrg1 hg1 hs1)
  have hk1 : Keeps [] w w1 := (Keeps.refl _ _).grown hg1 (fun k e => by cases e)
  have hM1 := hM.out.keeps ktK hk1
  replace hrg1 := Lib.hid hrg1
  replace hk1 := Lib.hid hk1
  clear hM1 hM
  try go_frame
  go_loopg [3] T.length (fun n ov wr => ∃ (L : List Nat) (R : MapS.Es Ky Rw), n = R.length ∧ Hid (MapS.Rg ktK (fun r : Rw => rwV r) wr bm w.heap.size (kr T) R) ∧ Hid (shU.O wr (w.heap.size + 1) 43 ov L) ∧ Hid ((L ++ R.map (fun p => p.1.2)).Perm [x, y]) ∧ Hid (Keeps [] w wr))
  case atStart => exact ⟨[], kr T, by rw [kr_len], hrg1, Sh.O.nil _ _ _ _, by show List.Perm _ _; rw [← hT]; simp only [List.nil_append, kr, List.map_map]; exact List.Perm.refl _, hk1⟩
  case round =>
    obtain ⟨L, R, rfl, hrg, hO, hP, hkw⟩ := hrel
    go_wp2_with (at_next; refine MapS.wpl_next ktK rfl _ rfl rfl hrg.out ?_ ?_)
    case _ =>
      intro hrs
      subst hrs
      have hP2 : L.Perm [x, y] := by simpa using hP.out
      obtain ⟨p, q, rfl, hpq, hso⟩ := two_perm hxy hP2
      obtain ⟨oa, oc, rfl⟩ := hO.out.form
      obtain ⟨g, rfl, hg1, _⟩ := U_own hO.out (by simp)
      have hsr := sort2_c wr (w.heap.size + 1) 43 g oc p q hO.out
      rw [hso] at hsr
      have hcp := fun W h => compact2_c W (w.heap.size + 1) 43 g oc x y h (by omega)
      replace hsr := Lib.hid hsr
      replace hcp := Lib.hid hcp
      clear hP hP2 hO hso hpq hrg
      go_wp2_with fail
      refine hsr.out.mono ?_
      rintro e w5 ⟨rfl, hO5, hk5⟩
      replace hO5 := Lib.hid hO5
      have hk55 := hkw.out.fresh hk5 (fun b hb => .inr (by simp at hb; omega))
      replace hk55 := Lib.hid hk55
      clear hk5
      go_wp2_with fail
      refine (hcp.out w5 hO5.out).mono ?_
      rintro e w6 ⟨rfl, hk6⟩
      replace hk6 := Lib.hid hk6
      go_wp2
      go_ret
      exact ⟨_, rfl, (hO5.out.keeps hk6.out).r, hk55.out.trans hk6.out⟩
    case _ =>
      intro x0 x1 ue rh R' w2 hx hgx hm hpR hrg2 hg2 hs2 hen
      have hlenR : R'.length < R.length := by have := hpR.length_eq; simp at this; omega
      have hk12 : Keeps [w.heap.size] wr w2 := (Keeps.refl _ _).grown hg2 (fun k e => .inr (by cases e; simp))
      have hkw2 := hkw.out.fresh hk12 (fun b hb => .inr (by simp at hb; omega))
      have hO2 := hO.out.keepS hk12 (fun b hb e => by simp at hb; subst hb; have := hO.out.ge _ e; omega)
      have hP2 : (L ++ [x1] ++ R'.map (fun p => p.1.2)).Perm [x, y] := by
        refine List.Perm.trans ?_ hP.out
        rw [List.append_assoc]
        exact ((hpR.map (fun p => p.1.2)).symm).append_left L
      have hLl : L.length ≤ 2 := by have := hP2.length_eq; simp at this; omega
      have hkA : Keeps [] w2 ((w2.alloc (.cells #[.int .i64 x0, .int .u64 x1] tK)).alloc (.cells #[.int .u64 x1] 43)) := ((Keeps.refl _ _).alloc _).alloc _
      have hrgA := hrg2.keeps hkA
      have hkwA := hkw2.trans hkA
      have hOA := hO2.keeps hkA
      have hsz2 : w.heap.size ≤ w2.heap.size := hkw2.size
      have hltr := hrg2.lt
      have hmade := (Sh.O.one shU (w2.alloc (.cells #[.int .i64 x0, .int .u64 x1] tK)) x1 #[.int .u64 x1] 43 0 rfl (Nat.zero_le _)).r
      rw [show (w2.alloc (.cells #[.int .i64 x0, .int .u64 x1] tK)).heap.size = w2.heap.size + 1 by simp] at hmade
      obtain ⟨oa, oc, rfl⟩ := hOA.form
      obtain ⟨NN, hNN⟩ : ∃ n, L.length = n := ⟨_, rfl⟩
      rw [hNN] at hOA hLl ⊢
      simp only [ktK, kyV, rwV] at hen ⊢
      replace hrgA := Lib.hid hrgA
      replace hkwA := Lib.hid hkwA
      replace hOA := Lib.hid hOA
      replace hmade := Lib.hid hmade
      replace hP2 := Lib.hid hP2
      replace hNN := Lib.hid hNN
      clear hx hgx hm hpR hrg2 hg2 hs2 hP hrg hkw hkw2 hkA hk12 hO hO2
      go_wp2_with (at_builtin; go_loud (refine Sh.wpl_app shU (w.heap.size + 1) infoU rfl Tryz.underlying57 (.slice oa NN oc) (.slice (some ⟨w2.heap.size + 1, 0, none⟩) 1 1) L [x1] rfl _ _ rfl rfl rfl hOA.out hmade.out (by rw [hNN.out]; simp; omega) (by simp; omega) ?_; intro v5 w5 hO5 hG5; have hk5 := Lib.hid (Grw.keeps hkwA.out hG5 (fun b hb => by have := hOA.out.ge b hb; omega)); have hrg5 := Lib.hid (hrgA.out.kept hG5.keepsO (fun hm => by have := hOA.out.ge _ (by simpa using hm); omega) (fun hm => by have := hOA.out.ge _ (by simpa using hm); omega)); replace hO5 := Lib.hid hO5; clear hG5))
      go_roundg R'.length
      case measure => exact hlenR
      case rel => exact ⟨_, _, rfl, hrg5, hO5, hP2, hk5⟩
end Go.Proofs.YtblaaafpglomnaaGreat

namespace Go.Proofs.YtblaaafpglomnaaGreat
open Go Go.RowKit
attribute [local go_sem] Oper.semAt_some

def aw1 : OpT := ⟨0, ⟨2, 7, 1, 3, 0, 0, 0, false, false, false, 0, 0⟩, 4⟩
def aw2 : OpT := ⟨0, ⟨2, 5, 1, 3, 0, 0, 0, false, false, false, 0, 0⟩, 9⟩
theorem aw_run : runS [aw1, aw2] = [(aw2.e, 9), (aw1.e, 4)] := by decide +kernel
theorem aw_ok : ∀ o ∈ [aw1, aw2], o.ok := by
  intro o ho
  simp only [List.mem_cons, List.not_mem_nil, or_false] at ho
  rcases ho with rfl | rfl
  · exact ⟨by decide, ⟨by decide, by decide, by decide, by decide, by decide, by decide, by decide, by decide, by decide⟩, by decide⟩
  · exact ⟨by decide, ⟨by decide, by decide, by decide, by decide, by decide, by decide, by decide, by decide, by decide⟩, by decide⟩
theorem aw_for : forT 2 1 3 [(aw2.e, (9 : Int)), (aw1.e, 4)] = some aw2.e := by decide +kernel
theorem aw_rem : remS (2, 7) [(aw2.e, (9 : Int)), (aw1.e, 4)] = (4, 0, [(aw2.e, 9)]) := by decide +kernel
set_option maxRecDepth 100000 in
set_option maxHeartbeats 8000000 in
theorem awake_c (w : World) : Calls Tryz.prog 6 #[] w fun e w' => e = .returned (.bool true) ∧ Keeps [] w w' := by
  have hkA : Keeps [] w ((w.alloc (.cells #[.int .i64 1, .int .i64 3] tID)).alloc (.cells #[.int .u8 0, .int .i64 2, .int .u64 7, .int .i64 1, .int .i64 3, .int .i64 0, .int .i64 0, .int .i64 0, .bool false, .bool false, .bool false, .int .i64 0, .int .i64 0, .int .i64 4, .int .u8 0, .int .i64 2, .int .u64 5, .int .i64 1, .int .i64 3, .int .i64 0, .int .i64 0, .int .i64 0, .bool false, .bool false, .bool false, .int .i64 0, .int .i64 0, .int .i64 9] tOp)) := ((Keeps.refl _ _).alloc _).alloc _
  have hbI := two_a w (.cells #[.int .i64 1, .int .i64 3] tID) (.cells #[.int .u8 0, .int .i64 2, .int .u64 7, .int .i64 1, .int .i64 3, .int .i64 0, .int .i64 0, .int .i64 0, .bool false, .bool false, .bool false, .int .i64 0, .int .i64 0, .int .i64 4, .int .u8 0, .int .i64 2, .int .u64 5, .int .i64 1, .int .i64 3, .int .i64 0, .int .i64 0, .int .i64 0, .bool false, .bool false, .bool false, .int .i64 0, .int .i64 0, .int .i64 9] tOp)
  have hops := Sh.R.made shO (w.alloc (.cells #[.int .i64 1, .int .i64 3] tID)) [aw1, aw2] #[.int .u8 0, .int .i64 2, .int .u64 7, .int .i64 1, .int .i64 3, .int .i64 0, .int .i64 0, .int .i64 0, .bool false, .bool false, .bool false, .int .i64 0, .int .i64 0, .int .i64 4, .int .u8 0, .int .i64 2, .int .u64 5, .int .i64 1, .int .i64 3, .int .i64 0, .int .i64 0, .int .i64 0, .bool false, .bool false, .bool false, .int .i64 0, .int .i64 0, .int .i64 9] tOp rfl (by decide) 2 rfl
  rw [show (w.alloc (.cells #[.int .i64 1, .int .i64 3] tID)).heap.size = w.heap.size + 1 by simp] at hops
  have hrc := run_c _ _ _ hops aw_ok (by decide)
  rw [aw_run] at hrc
  have hgd : Good [(aw2.e, (9 : Int)), (aw1.e, 4)] := by rw [← aw_run]; exact runS_good aw_ok
  obtain ⟨X, hX⟩ : ∃ X, w.heap.size = X := ⟨_, rfl⟩
  rw [hX] at hbI hrc hops
  have hlX := lt_of_blk hbI
  replace hkA := Lib.hid hkA
  replace hbI := Lib.hid hbI
  replace hrc := Lib.hid hrc
  replace hgd := Lib.hid hgd
  clear hops
  go_enter Tryz.func6, Tryz.ntmps6
  go_wp2_with fail
  refine hrc.out.mono ?_
  rintro e w1 ⟨bt, bm, v, rfl, t1, hR1, k1, hb1, hb2⟩
  obtain ⟨a1, c1, rfl, _⟩ := hR1.form
  have hbI1 := (k1.block X hlX (by simp)).trans hbI.out
  have hk1 := hkA.out.trans k1
  have hz1 := k1.size
  have hkB : Keeps [] w1 (w1.alloc (.cells #[.slice a1 2 c1] tTb)) := (Keeps.refl _ _).alloc _
  have t2 := t1.keeps hkB
  have hk2 := hk1.trans hkB
  have hbI2 := (hkB.block X (lt_of_blk hbI1) (by simp)).trans hbI1
  obtain ⟨i0, i1, _⟩ := cells2 hbI2
  replace t2 := Lib.hid t2
  replace hk2 := Lib.hid hk2
  replace hbI2 := Lib.hid hbI2
  clear hrc hkA hbI t1 hR1 k1 hbI1 hk1 hkB
  go_wp2_with fail
  refine (forTarget_c _ bt bm _ 2 1 3 t2.out hgd.out).mono ?_
  rintro e w3 ⟨rfl, k3⟩
  rw [aw_for]
  have t3 := t2.out.keeps k3
  have hk3 := hk2.out.trans k3
  have hkC : Keeps [] w3 (w3.alloc (.cells #[.int .i64 2, .int .u64 5, .int .i64 1, .int .i64 3, .int .i64 0, .int .i64 0, .int .i64 0, .bool false, .bool false, .bool false, .int .i64 0, .int .i64 0] tE)) := (Keeps.refl _ _).alloc _
  have t4 := t3.keeps hkC
  have hk4 := hk3.trans hkC
  have hbE := heap_alloc_new w3 (.cells #[.int .i64 2, .int .u64 5, .int .i64 1, .int .i64 3, .int .i64 0, .int .i64 0, .int .i64 0, .bool false, .bool false, .bool false, .int .i64 0, .int .i64 0] tE)
  replace t4 := Lib.hid t4
  replace hk4 := Lib.hid hk4
  replace hbE := Lib.hid hbE
  clear t3 hk3 hkC k3 t2 hk2 hbI2 i0 i1
  simp only [Option.getD_some, Option.isSome_some, aw2, enV] at *
  go_wp2_with fail
  refine (numbers2_c _ bt bm _ 5 7 t4.out rfl (by omega)).mono ?_
  rintro e w5 ⟨v5, rfl, hR5, k5⟩
  have t5 := t4.out.keeps k5
  have hk5 := hk4.out.trans k5
  have hlE := lt_of_blk hbE.out
  have hbE5 := (k5.block _ hlE (by simp)).trans hbE.out
  obtain ⟨E, hE⟩ : ∃ E, w3.heap.size = E := ⟨_, rfl⟩
  rw [hE] at hbE5
  have hmt := t5.lt
  have hnE : E ≠ bm := fun e => by have := t5.mp.noCells ktK 0; rw [← e] at this; rw [(cells12 hbE5).1] at this; cases this
  have hnn := fun o => t5.mp.noCells ktK o
  replace t5 := Lib.hid t5
  replace hk5 := Lib.hid hk5
  replace hR5 := Lib.hid hR5
  replace hbE5 := Lib.hid hbE5
  replace hnn := Lib.hid hnn
  clear k5 t4 hk4 hbE hlE
  go_wp2_with fail
  refine (remove_c w5 bt bm _ (2, 7) t5.out ⟨by decide, by decide⟩).mono ?_
  have har := aw_rem
  simp only [aw2] at har
  rw [har]
  rintro e w6 ⟨rfl, t6, k6⟩
  have hR6 := hR5.out.keepN k6 (fun b hb o => by simp at hb; subst hb; exact hnn.out o)
  have hbE6 := (k6.block E (lt_of_blk hbE5.out) (by simpa using hnE)).trans hbE5.out
  have hk6 := hk5.out.fresh k6 (fun b hb => .inr (by simp at hb; omega))
  obtain ⟨y0, y1, _⟩ := cells12 hbE6
  have hm := Sh.R.made shU w6 [5, 7] #[.int .u64 5, .int .u64 7] 43 rfl (by decide) 2 rfl
  have hkS : Keeps [] w6 (w6.alloc (.cells #[.int .u64 5, .int .u64 7] 43)) := (Keeps.refl _ _).alloc _
  have hsm := fun v (h : shU.R (w6.alloc (.cells #[.int .u64 5, .int .u64 7] 43)) v [5, 7]) => sameU_c _ _ _ _ _ h hm
  have hsv := hsm _ (hR6.keeps hkS)
  have hk7 := hk6.trans hkS
  obtain ⟨a5, c5, rfl, _⟩ := hR6.form
  replace hsv := Lib.hid hsv
  replace hk7 := Lib.hid hk7
  clear hsm hm hkS hR6 hR5 t5 hk5 hbE5 k6 t6 hbE6 har hnn hk6
  go_wp2_with fail
  refine hsv.out.mono ?_
  rintro e w7 ⟨rfl, k7⟩
  (try rw [show decide (([5, 7] : List Nat) = [5, 7]) = true from by decide])
  replace k7 := Lib.hid k7
  go_wp2
  go_ret
  exact ⟨rfl, hk7.out.trans k7.out⟩
end Go.Proofs.YtblaaafpglomnaaGreat

namespace Go.Proofs.YtblaaafpglomnaaGreat
open Go.RowKit

theorem Buf.mono {w : World} {b b' : Nat} {v : Value} {l : List UInt8} (h : Buf w b v l) (hb : b' ≤ b) : Buf w b' v l := by
  refine ⟨h.1, ?_⟩
  rcases h.2 with hn | ⟨g, cap, cur, rfl, hg, rest⟩
  · exact .inl hn
  · exact .inr ⟨g, cap, cur, rfl, by omega, rest⟩
set_option maxRecDepth 100000 in
set_option maxHeartbeats 2000000 in
theorem refU_c (w : World) (v0 : Value) (l : List UInt8) (n : Nat) (h : SlB w v0 l) (hn : n < 18446744073709551616) (hl : l.length ≤ 140737488355000) :
    Calls Tryz.prog 45 #[v0, .int .u64 n] w fun e w' => ∃ v', e = .returned v' ∧ Buf w' w.heap.size v' (l ++ encU n) ∧ Keeps [] w w' := by
  obtain ⟨a0, c0, rfl⟩ := h.form
  replace h := Lib.hid h
  go_enter Tryz.func45, Tryz.ntmps45
  go_wp2_with fail
  go_loopw [1, 5] (fun n' d wr => ∃ (m : Nat) (L : List UInt8), m ≤ n ∧ n' = .int .u64 m ∧ Hid (digs n = digs m ++ L) ∧ Buf wr w.heap.size d L ∧ Keeps [] w wr) (fun n' _ _ => (intOf n').toNat)
  case atStart => exact ⟨n, [], by omega, rfl, by show _ = _; simp, Buf.fresh w, (Keeps.refl [] w).alloc _⟩
  case round =>
    obtain ⟨m, L, hm, rfl, hL, hB, hk⟩ := hrel
    obtain ⟨aL, cL, rfl⟩ := hB.form
    have hsz := hk.size
    have hLl : L.length ≤ 8 := by
      have h1 := congrArg List.length hL.out
      have h2 := digs_len8 (n := n) (by omega)
      simp at h1; omega
    replace hB := Lib.hid hB
    replace hk := Lib.hid hk
    by_cases hp : 0 < m
    · have hd : Hid (digs n = digs (m / 256) ++ (UInt8.ofNat (m % 256) :: L)) := by show _ = _; rw [hL.out, digs_pos hp]; simp
      clear hL
      go_wp2_with (at_builtin; (refine wpl_appB _ w.heap.size (.slice (some ⟨_, 0, none⟩) 1 1) [UInt8.ofNat (m % 256)] rfl _ _ rfl rfl _ L rfl ((Buf.one _ (UInt8.ofNat (m % 256)) (by simp)).mono (by omega)) (hB.out.slB.keeps ((Keeps.refl [] _).alloc _)) (by simp; omega) (by simp; omega) ?_; intro v2 w2 hB2 hG2))
      go_roundw
      case rel => exact ⟨m / 256, _, by omega, by go_num, hd, hB2, hG2.keeps (hk.out.alloc _) (by simp [Value.ownBlock]; omega)⟩
      case measure => simp [intOf]; omega
    · have hm0 : m = 0 := by omega
      have hdL : Hid (digs n = L) := by show _ = _; rw [hL.out, hm0, digs_zero]; simp
      clear hL hm
      subst hm0
      go_wp2_with (first
        | (at_builtin; (refine wpl_appB _ wr.heap.size (.slice (some ⟨wr.heap.size, 0, none⟩) 0 0) [] rfl (.tmp 17) (.tmp 18) rfl rfl _ l rfl (Buf.fresh wr) ((h.out.keeps hk.out).keeps ((Keeps.refl [] _).alloc _)) (by simp; omega) (by simp) ?_; intro v2 w2 hB2 hG2; have hkk2 := Lib.hid (hG2.keeps ((Keeps.refl [] wr).alloc _) (by simp [Value.ownBlock])); have hB2' := Lib.hid hB2; clear hB2 hG2))
        | (at_builtin; (refine wpl_pushB _ wr.heap.size v2 _ _ rfl (.tmp 19) (.tmp 23) rfl rfl rfl hB2'.out (UInt8.ofNat L.length) (by simp; omega) (by simp; omega) (by have := hkk2.out.size; omega) ?_; intro v3 w3 hB3 hG3; have hkk3 := Lib.hid (hG3.keeps hkk2.out (fun b hb => ownBlock_ge hB2'.out b hb)); have hB3' := Lib.hid hB3; clear hB3 hG3))
        | (at_builtin; (refine wpl_appB _ wr.heap.size v3 _ rfl (.tmp 24) (.tmp 25) rfl rfl _ L rfl hB3'.out (hB.out.slB.keeps hkk3.out) (by simp; omega) (by have := hkk3.out.size; omega) ?_; intro v4 w4 hB4 hG4; have hkk4 := Lib.hid (hG4.keeps hkk3.out (fun b hb => ownBlock_ge hB3'.out b hb)); have hB4' := Lib.hid hB4; clear hB4 hG4)))
      go_ret
      refine ⟨_, rfl, ?_, hk.out.trans hkk4.out⟩
      have := hB4'.out.mono hsz
      rw [← hdL.out] at this
      simpa [encU] using this
end Go.Proofs.YtblaaafpglomnaaGreat

namespace Go.Proofs.YtblaaafpglomnaaGreat
open Go.RowKit

set_option maxRecDepth 100000 in
set_option maxHeartbeats 2000000 in
theorem refB_c (w : World) (v0 : Value) (l : List UInt8) (b : Bool) (h : SlB w v0 l) (hl : l.length ≤ 140737488355000) :
    Calls Tryz.prog 47 #[v0, .bool b] w fun e w' => ∃ v', e = .returned v' ∧ SlB w' v' (l ++ encB b) ∧ Keeps [] w w' := by
  obtain ⟨a0, c0, rfl⟩ := h.form
  replace h := Lib.hid h
  cases b
  · go_enter Tryz.func47, Tryz.ntmps47
    go_wp2_with (first
      | (at_builtin; (refine wpl_appB _ w.heap.size (.slice (some ⟨w.heap.size, 0, none⟩) 0 0) [] rfl (.tmp 11) (.tmp 12) rfl rfl _ l rfl (Buf.fresh w) (h.out.keeps ((Keeps.refl [] w).alloc _)) (by simp; omega) (by simp) ?_; intro v2 w2 hB2 hG2; have hkk2 := Lib.hid (hG2.keeps ((Keeps.refl [] w).alloc _) (by simp [Value.ownBlock])); have hB2' := Lib.hid hB2; clear hB2 hG2))
      | (at_builtin; (refine wpl_pushB _ w.heap.size v2 _ _ rfl (.tmp 13) (.tmp 14) rfl rfl rfl hB2'.out (0 : UInt8) (by rfl) (by simp; omega) (by have := hkk2.out.size; omega) ?_; intro v3 w3 hB3 hG3; have hkk3 := Lib.hid (hG3.keeps hkk2.out (fun b hb => ownBlock_ge hB2'.out b hb)); have hB3' := Lib.hid hB3; clear hB3 hG3)))
    go_ret
    exact ⟨_, rfl, by have := hB3'.out.slB; simpa [encB] using this, hkk3.out⟩
  · go_enter Tryz.func47, Tryz.ntmps47
    go_wp2_with (first
      | (at_builtin; (refine wpl_appB _ w.heap.size (.slice (some ⟨w.heap.size, 0, none⟩) 0 0) [] rfl (.tmp 6) (.tmp 7) rfl rfl _ l rfl (Buf.fresh w) (h.out.keeps ((Keeps.refl [] w).alloc _)) (by simp; omega) (by simp) ?_; intro v2 w2 hB2 hG2; have hkk2 := Lib.hid (hG2.keeps ((Keeps.refl [] w).alloc _) (by simp [Value.ownBlock])); have hB2' := Lib.hid hB2; clear hB2 hG2))
      | (at_builtin; (refine wpl_pushB _ w.heap.size v2 _ _ rfl (.tmp 8) (.tmp 9) rfl rfl rfl hB2'.out (1 : UInt8) (by rfl) (by simp; omega) (by have := hkk2.out.size; omega) ?_; intro v3 w3 hB3 hG3; have hkk3 := Lib.hid (hG3.keeps hkk2.out (fun b hb => ownBlock_ge hB2'.out b hb)); have hB3' := Lib.hid hB3; clear hB3 hG3)))
    go_ret
    exact ⟨_, rfl, by have := hB3'.out.slB; simpa [encB] using this, hkk3.out⟩
end Go.Proofs.YtblaaafpglomnaaGreat
