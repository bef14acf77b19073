/- Texts that the laws lean on, in the order in which they build. The specification's Agree and Refuse. The history of a trace that gathers holds the recorded answers: kept by the operations. The law's operations: their cells, what they do (plain). What holds of a trace after n operations (plain). A certificate, and what its check says (plain). A tracer (plain). The specification's Answer: its lists while the inset is opened. A trace and the specification's value side by side. The cells of a block; blocks made one after the other. Trace.Certificate. (Printed by mktrcert.py.) A certificate among a law's arguments, opened. A tracer in memory, and the specification's value beside it. The tracer's New, Started, Find, begins. -/
import Derived.Test.YtpobepninifenaaGreatS7
set_option linter.unusedVariables false
set_option linter.unusedSimpArgs false
namespace Go.Proofs.YtpobepninifenaaGreat
open Go.RowKit

def Tr.agreeT (t : Tr) (m : Int) : Tr × Int :=
  if t.state ≠ 1 then (t, 9) else match t.clm[t.ag.length]? with
  | some p => if p.m ≠ m then (t, 1) else ({ t with ag := t.ag ++ [m], state := if t.ag.length + 1 = t.clm.length then 2 else t.state }, 0)
  | none => (t, 0)
def Tr.refuseT (t : Tr) (m : Int) : Tr × Int :=
  if t.state ≠ 1 then (t, 9) else match t.clm[t.ag.length]? with
  | some p => if p.m ≠ m then (t, 1) else ({ t with state := 4, rf := true }, 0)
  | none => (t, 0)
def RPost (w : World) (x0 : RfV) (r : Tr × Int) (e : Ending) (w' : World) : Prop := ∃ x, e = .returned (.tuple #[rfV x, .int .i64 r.2]) ∧ RfR w' x r.1 ∧ Keeps [] w w' ∧ Fsh w w' x0 x
theorem Fsh_ag {w w' : World} {x x' : RfV} (h1 : x'.vo = x.vo) (h2 : x'.va = x.va) (h4 : x'.vh = x.vh) (h3 : ∀ b, (slv x'.vg).ownBlock = some b → w.heap.size ≤ b ∧ b < w'.heap.size) : Fsh w w' x x' := fun b hb => by
  rcases mem_blks.1 hb with e | e | e | e
  · exact .inl (mem_blks.2 (.inl (h1 ▸ e)))
  · exact .inl (mem_blks.2 (.inr (.inl (h2 ▸ e))))
  · exact .inr (h3 b e)
  · exact .inl (mem_blks.2 (.inr (.inr (.inr (h4 ▸ e)))))
theorem RPost.same {w W : World} {x : RfV} {t : Tr} {r : Tr × Int} {n : Int} (hr : r = (t, n)) (hR : RfR W x t) (hk : Keeps [] w W) : RPost w x r (.returned (.tuple #[rfV x, .int .i64 n])) W := by
  subst hr
  exact ⟨x, rfl, hR, hk, fun b hb => .inl hb⟩
set_option maxRecDepth 100000 in
set_option maxHeartbeats 8000000 in
theorem refuseR_c (w : World) (x : RfV) (t : Tr) (m : Int) (h : RfR w x t) (hi : t.Inv) (hl : t.qs.length ≤ 1000) (hag : t.state = 1 → t.ag.length < t.clm.length) :
    Calls Tryz.prog 40 #[rfV x, .int .i64 m] w (RPost w x (t.refuseT m)) := by
  have hcl := fun (W : World) (hk : Keeps [] w W) => claimR_c W x t (h.keeps hk) hi hl hag
  have hst := h.st
  have hga := h.ag
  obtain ⟨x0, x1, x2, x3, x4, x5, ⟨x6, x7, x8⟩, ⟨x9, x10, x11⟩, x12, ⟨x13, x14, x15⟩, x16, ⟨x17, x18, x19⟩⟩ := x
  simp only [slv, rfV] at hst hcl hga ⊢
  have hb1 := heap_alloc_new (w.alloc (.cells #[.int .i64 x0, .int .i64 x1, .int .i64 x2, .int .u64 x3, .int .i64 x4, .int .i64 x5, .slice x6 x7 x8, .slice x9 x10 x11, .int .i64 x12, .slice x13 x14 x15, .bool x16, .slice x17 x18 x19] tR)) (.cells #[.int .i64 0, .int .i64 0, .int .i64 0, .int .u64 0, .int .i64 0, .int .i64 0, .slice none 0 0, .slice none 0 0, .int .i64 0, .slice none 0 0, .bool false, .slice none 0 0] tR)
  rw [show (w.alloc (.cells #[.int .i64 x0, .int .i64 x1, .int .i64 x2, .int .u64 x3, .int .i64 x4, .int .i64 x5, .slice x6 x7 x8, .slice x9 x10 x11, .int .i64 x12, .slice x13 x14 x15, .bool x16, .slice x17 x18 x19] tR)).heap.size = w.heap.size + 1 by simp] at hb1
  have hkA : Keeps [] w ((w.alloc (.cells #[.int .i64 x0, .int .i64 x1, .int .i64 x2, .int .u64 x3, .int .i64 x4, .int .i64 x5, .slice x6 x7 x8, .slice x9 x10 x11, .int .i64 x12, .slice x13 x14 x15, .bool x16, .slice x17 x18 x19] tR)).alloc (.cells #[.int .i64 0, .int .i64 0, .int .i64 0, .int .u64 0, .int .i64 0, .int .i64 0, .slice none 0 0, .slice none 0 0, .int .i64 0, .slice none 0 0, .bool false, .slice none 0 0] tR)) := ((Keeps.refl _ _).alloc _).alloc _
  have hb0 := ((Keeps.refl [] (w.alloc (.cells #[.int .i64 x0, .int .i64 x1, .int .i64 x2, .int .u64 x3, .int .i64 x4, .int .i64 x5, .slice x6 x7 x8, .slice x9 x10 x11, .int .i64 x12, .slice x13 x14 x15, .bool x16, .slice x17 x18 x19] tR))).alloc (.cells #[.int .i64 0, .int .i64 0, .int .i64 0, .int .u64 0, .int .i64 0, .int .i64 0, .slice none 0 0, .slice none 0 0, .int .i64 0, .slice none 0 0, .bool false, .slice none 0 0] tR)).block _ (by simp) (by simp) |>.trans (heap_alloc_new w (.cells #[.int .i64 x0, .int .i64 x1, .int .i64 x2, .int .u64 x3, .int .i64 x4, .int .i64 x5, .slice x6 x7 x8, .slice x9 x10 x11, .int .i64 x12, .slice x13 x14 x15, .bool x16, .slice x17 x18 x19] tR))
  replace hkA := Lib.hid hkA
  replace hcl := Lib.hid hcl
  replace hb1 := Lib.hid hb1
  replace hb0 := Lib.hid hb0
  replace h := Lib.hid h
  replace hst := Lib.hid hst
  replace hi := Lib.hid hi
  replace hga := Lib.hid hga
  replace hag := Lib.hid hag
  go_enter Tryz.func40, Tryz.ntmps40
  go_wp2_with fail
  generalize ((w.alloc (.cells #[.int .i64 x0, .int .i64 x1, .int .i64 x2, .int .u64 x3, .int .i64 x4, .int .i64 x5, .slice x6 x7 x8, .slice x9 x10 x11, .int .i64 x12, .slice x13 x14 x15, .bool x16, .slice x17 x18 x19] tR)).alloc (.cells #[.int .i64 0, .int .i64 0, .int .i64 0, .int .u64 0, .int .i64 0, .int .i64 0, .slice none 0 0, .slice none 0 0, .int .i64 0, .slice none 0 0, .bool false, .slice none 0 0] tR)) = WA at *
  refine (hcl.out _ hkA.out).mono ?_
  rintro e w1 ⟨cx, p, rfl, hcr, hk1, hcase⟩
  obtain ⟨c0, c1, ⟨c2, c3, c4⟩, ⟨c5, c6, c7⟩, ⟨c8, c9, c10⟩⟩ := cx
  simp only [clV, slv]
  have hkM := (Keeps.refl [] w1).alloc (.cells #[.int .i64 c0, .int .i64 c1, .slice c2 c3 c4, .slice c5 c6 c7, .slice c8 c9 c10] tC)
  have hbC := heap_alloc_new w1 (.cells #[.int .i64 c0, .int .i64 c1, .slice c2 c3 c4, .slice c5 c6 c7, .slice c8 c9 c10] tC)
  have hk1M := hk1.trans hkM
  have hbx := (hk1M.block _ (lt_of_blk hb0.out) (by simp)).trans hb0.out
  have hbz := (hk1M.block _ (lt_of_blk hb1.out) (by simp)).trans hb1.out
  have hkw := hkA.out.trans hk1M
  have hcm := hcr.m
  simp only at hcm
  obtain ⟨sb, hsb⟩ : ∃ b, (t.state == 1) = b := ⟨_, rfl⟩
  rw [hsb]
  replace hbx := Lib.hid hbx
  replace hbz := Lib.hid hbz
  replace hkw := Lib.hid hkw
  replace hcase := Lib.hid hcase
  replace hcm := Lib.hid hcm
  replace hbC := Lib.hid hbC
  clear hk1 hkM hk1M hcr hcl
  go_upto_if 14 with fail
  generalize (w1.alloc (.cells #[.int .i64 c0, .int .i64 c1, .slice c2 c3 c4, .slice c5 c6 c7, .slice c8 c9 c10] tC)) = W2 at *
  obtain ⟨XC, hXC⟩ : ∃ X, w1.heap.size = X := ⟨_, rfl⟩
  rw [hXC] at hbC ⊢
  replace hXC := Lib.hid hXC
  obtain ⟨y0, y1, y2, y3, y4, y5, y6, y7, y8, y9, y10, y11, yf, yl⟩ := cells12 hbx.out
  obtain ⟨z0, z1, z2, z3, z4, z5, z6, z7, z8, z9, z10, z11, zf, zl⟩ := cells12 hbz.out
  obtain ⟨k0, k1, k2, k3, k4, kl⟩ := cells5 hbC.out
  cases sb with
  | false =>
    have hs : t.state ≠ 1 := by simpa using hsb
    have hr : t.refuseT m = (t, 9) := by unfold Tr.refuseT; rw [if_pos hs]
    replace hr := Lib.hid hr
    replace hs := Lib.hid hs
    replace hsb := Lib.hid hsb
    go_wp2
    obtain ⟨s1, s2⟩ := st12 (x0 := .int .i64 x0) (x1 := .int .i64 x1) (x2 := .int .i64 x2) (x3 := .int .u64 x3) (x4 := .int .i64 x4) (x5 := .int .i64 x5) (x6 := .slice x6 x7 x8) (x7 := .slice x9 x10 x11) (x8 := .int .i64 x12) (x9 := .slice x13 x14 x15) (x10 := .bool x16) (x11 := .slice x17 x18 x19) hbz.out
    have hkf := hkw.out.fresh s2 (fun b hb => by simp at hb; subst hb; exact .inr (by omega))
    refine bodyPost_ret (results_rf rfl _ _ _ _ _ _ _ _ _ _ _ _ _ _ _ _ _ rfl s1) ?_ ?_
    · rfl
    · exact RPost.same (x := ⟨x0, x1, x2, x3, x4, x5, (x6, x7, x8), (x9, x10, x11), x12, (x13, x14, x15), x16, (x17, x18, x19)⟩) hr.out (h.out.keeps hkf) hkf
  | true =>
    have hs : t.state = 1 := by simpa using hsb
    have hget : t.clm[t.ag.length]? = some p := by
      rcases hcase.out with ⟨e, _⟩ | ⟨_, e⟩
      · exact absurd hs e
      · exact e
    by_cases hm : c0 = m
    case neg =>
      have hmb : (c0 != m) = true := by simpa using hm
      have hr : t.refuseT m = (t, 1) := by unfold Tr.refuseT; rw [if_neg (by simp [hs]), hget]; simp only; rw [if_pos (by rw [← hcm.out]; exact hm)]
      replace hr := Lib.hid hr
      replace hs := Lib.hid hs
      replace hsb := Lib.hid hsb
      replace hm := Lib.hid hm
      replace hget := Lib.hid hget
      go_wp2
      obtain ⟨s1, s2⟩ := st12 (x0 := .int .i64 x0) (x1 := .int .i64 x1) (x2 := .int .i64 x2) (x3 := .int .u64 x3) (x4 := .int .i64 x4) (x5 := .int .i64 x5) (x6 := .slice x6 x7 x8) (x7 := .slice x9 x10 x11) (x8 := .int .i64 x12) (x9 := .slice x13 x14 x15) (x10 := .bool x16) (x11 := .slice x17 x18 x19) hbz.out
      have hkf := hkw.out.fresh s2 (fun b hb => by simp at hb; subst hb; exact .inr (by omega))
      refine bodyPost_ret (results_rf rfl _ _ _ _ _ _ _ _ _ _ _ _ _ _ _ _ _ rfl s1) ?_ ?_
      · rfl
      · exact RPost.same (x := ⟨x0, x1, x2, x3, x4, x5, (x6, x7, x8), (x9, x10, x11), x12, (x13, x14, x15), x16, (x17, x18, x19)⟩) hr.out (h.out.keeps hkf) hkf
    case pos =>
      have hmb : (c0 != m) = false := by simpa using hm
      have hx5 : x5 = 1 := hst.out.trans hs
      subst hx5
      have hr : t.refuseT m = ({ t with state := 4, rf := true }, 0) := by unfold Tr.refuseT; rw [if_neg (by simp [hs]), hget]; simp only; rw [if_neg (by rw [← hcm.out, hm]; simp)]
      replace hr := Lib.hid hr
      replace hs := Lib.hid hs
      replace hsb := Lib.hid hsb
      replace hm := Lib.hid hm
      replace hget := Lib.hid hget
      go_wp2
      have hkb := ((Keeps.refl [w.heap.size] W2).setCell (p := ⟨w.heap.size, 5, none⟩) (.inr (by simp)) (.int .i64 4)).setCell (p := ⟨w.heap.size, 10, none⟩) (.inr (by simp)) (.bool true)
      have hbz2 := (hkb.block _ zl (by simp)).trans hbz.out
      obtain ⟨u1, u2⟩ := st12 (x0 := .int .i64 x0) (x1 := .int .i64 x1) (x2 := .int .i64 x2) (x3 := .int .u64 x3) (x4 := .int .i64 x4) (x5 := .int .i64 4) (x6 := .slice x6 x7 x8) (x7 := .slice x9 x10 x11) (x8 := .int .i64 x12) (x9 := .slice x13 x14 x15) (x10 := .bool true) (x11 := .slice x17 x18 x19) hbz2
      have hkf := (hkw.out.fresh hkb (fun b hb => by simp at hb; subst hb; exact .inr (Nat.le_refl _))).fresh u2 (fun b hb => by simp at hb; subst hb; exact .inr (by omega))
      have hE := h.out.keeps hkf
      refine bodyPost_ret (results_rf rfl _ _ _ _ _ _ _ _ _ _ _ _ _ _ _ _ _ rfl u1) ?_ ?_
      · rfl
      · rw [hr.out]
        exact ⟨⟨x0, x1, x2, x3, x4, 4, (x6, x7, x8), (x9, x10, x11), x12, (x13, x14, x15), true, (x17, x18, x19)⟩, rfl, ⟨hE.im, hE.is, hE.s0, hE.s1, hE.s2, rfl, hE.told, rfl, hE.op, hE.an, hE.ag, hE.hi⟩, hkf, fun b hb => .inl hb⟩
set_option maxRecDepth 100000 in
set_option maxHeartbeats 8000000 in
theorem agreeR_c (w : World) (x : RfV) (t : Tr) (m : Int) (h : RfR w x t) (hi : t.Inv) (hl : t.qs.length ≤ 1000) (hl2 : t.ag.length ≤ 1000) (hag : t.state = 1 → t.ag.length < t.clm.length) :
    Calls Tryz.prog 38 #[rfV x, .int .i64 m] w (RPost w x (t.agreeT m)) := by
  have hcl := fun (W : World) (hk : Keeps [] w W) => claimR_c W x t (h.keeps hk) hi hl hag
  have hst := h.st
  have hga := h.ag
  obtain ⟨x0, x1, x2, x3, x4, x5, ⟨x6, x7, x8⟩, ⟨x9, x10, x11⟩, x12, ⟨x13, x14, x15⟩, x16, ⟨x17, x18, x19⟩⟩ := x
  simp only [slv, rfV] at hst hcl hga ⊢
  have hb1 := heap_alloc_new (w.alloc (.cells #[.int .i64 x0, .int .i64 x1, .int .i64 x2, .int .u64 x3, .int .i64 x4, .int .i64 x5, .slice x6 x7 x8, .slice x9 x10 x11, .int .i64 x12, .slice x13 x14 x15, .bool x16, .slice x17 x18 x19] tR)) (.cells #[.int .i64 0, .int .i64 0, .int .i64 0, .int .u64 0, .int .i64 0, .int .i64 0, .slice none 0 0, .slice none 0 0, .int .i64 0, .slice none 0 0, .bool false, .slice none 0 0] tR)
  rw [show (w.alloc (.cells #[.int .i64 x0, .int .i64 x1, .int .i64 x2, .int .u64 x3, .int .i64 x4, .int .i64 x5, .slice x6 x7 x8, .slice x9 x10 x11, .int .i64 x12, .slice x13 x14 x15, .bool x16, .slice x17 x18 x19] tR)).heap.size = w.heap.size + 1 by simp] at hb1
  have hkA : Keeps [] w ((w.alloc (.cells #[.int .i64 x0, .int .i64 x1, .int .i64 x2, .int .u64 x3, .int .i64 x4, .int .i64 x5, .slice x6 x7 x8, .slice x9 x10 x11, .int .i64 x12, .slice x13 x14 x15, .bool x16, .slice x17 x18 x19] tR)).alloc (.cells #[.int .i64 0, .int .i64 0, .int .i64 0, .int .u64 0, .int .i64 0, .int .i64 0, .slice none 0 0, .slice none 0 0, .int .i64 0, .slice none 0 0, .bool false, .slice none 0 0] tR)) := ((Keeps.refl _ _).alloc _).alloc _
  have hb0 := ((Keeps.refl [] (w.alloc (.cells #[.int .i64 x0, .int .i64 x1, .int .i64 x2, .int .u64 x3, .int .i64 x4, .int .i64 x5, .slice x6 x7 x8, .slice x9 x10 x11, .int .i64 x12, .slice x13 x14 x15, .bool x16, .slice x17 x18 x19] tR))).alloc (.cells #[.int .i64 0, .int .i64 0, .int .i64 0, .int .u64 0, .int .i64 0, .int .i64 0, .slice none 0 0, .slice none 0 0, .int .i64 0, .slice none 0 0, .bool false, .slice none 0 0] tR)).block _ (by simp) (by simp) |>.trans (heap_alloc_new w (.cells #[.int .i64 x0, .int .i64 x1, .int .i64 x2, .int .u64 x3, .int .i64 x4, .int .i64 x5, .slice x6 x7 x8, .slice x9 x10 x11, .int .i64 x12, .slice x13 x14 x15, .bool x16, .slice x17 x18 x19] tR))
  replace hkA := Lib.hid hkA
  replace hcl := Lib.hid hcl
  replace hb1 := Lib.hid hb1
  replace hb0 := Lib.hid hb0
  replace h := Lib.hid h
  replace hst := Lib.hid hst
  replace hi := Lib.hid hi
  replace hga := Lib.hid hga
  replace hag := Lib.hid hag
  go_enter Tryz.func38, Tryz.ntmps38
  go_wp2_with fail
  generalize ((w.alloc (.cells #[.int .i64 x0, .int .i64 x1, .int .i64 x2, .int .u64 x3, .int .i64 x4, .int .i64 x5, .slice x6 x7 x8, .slice x9 x10 x11, .int .i64 x12, .slice x13 x14 x15, .bool x16, .slice x17 x18 x19] tR)).alloc (.cells #[.int .i64 0, .int .i64 0, .int .i64 0, .int .u64 0, .int .i64 0, .int .i64 0, .slice none 0 0, .slice none 0 0, .int .i64 0, .slice none 0 0, .bool false, .slice none 0 0] tR)) = WA at *
  refine (hcl.out _ hkA.out).mono ?_
  rintro e w1 ⟨cx, p, rfl, hcr, hk1, hcase⟩
  obtain ⟨c0, c1, ⟨c2, c3, c4⟩, ⟨c5, c6, c7⟩, ⟨c8, c9, c10⟩⟩ := cx
  simp only [clV, slv]
  have hkM := (Keeps.refl [] w1).alloc (.cells #[.int .i64 c0, .int .i64 c1, .slice c2 c3 c4, .slice c5 c6 c7, .slice c8 c9 c10] tC)
  have hbC := heap_alloc_new w1 (.cells #[.int .i64 c0, .int .i64 c1, .slice c2 c3 c4, .slice c5 c6 c7, .slice c8 c9 c10] tC)
  have hk1M := hk1.trans hkM
  have hbx := (hk1M.block _ (lt_of_blk hb0.out) (by simp)).trans hb0.out
  have hbz := (hk1M.block _ (lt_of_blk hb1.out) (by simp)).trans hb1.out
  have hkw := hkA.out.trans hk1M
  have hcm := hcr.m
  simp only at hcm
  obtain ⟨sb, hsb⟩ : ∃ b, (t.state == 1) = b := ⟨_, rfl⟩
  rw [hsb]
  replace hbx := Lib.hid hbx
  replace hbz := Lib.hid hbz
  replace hkw := Lib.hid hkw
  replace hcase := Lib.hid hcase
  replace hcm := Lib.hid hcm
  replace hbC := Lib.hid hbC
  clear hk1 hkM hk1M hcr hcl
  go_upto_if 14 with fail
  generalize (w1.alloc (.cells #[.int .i64 c0, .int .i64 c1, .slice c2 c3 c4, .slice c5 c6 c7, .slice c8 c9 c10] tC)) = W2 at *
  obtain ⟨XC, hXC⟩ : ∃ X, w1.heap.size = X := ⟨_, rfl⟩
  rw [hXC] at hbC ⊢
  replace hXC := Lib.hid hXC
  obtain ⟨y0, y1, y2, y3, y4, y5, y6, y7, y8, y9, y10, y11, yf, yl⟩ := cells12 hbx.out
  obtain ⟨z0, z1, z2, z3, z4, z5, z6, z7, z8, z9, z10, z11, zf, zl⟩ := cells12 hbz.out
  obtain ⟨k0, k1, k2, k3, k4, kl⟩ := cells5 hbC.out
  cases sb with
  | false =>
    have hs : t.state ≠ 1 := by simpa using hsb
    have hr : t.agreeT m = (t, 9) := by unfold Tr.agreeT; rw [if_pos hs]
    replace hr := Lib.hid hr
    replace hs := Lib.hid hs
    replace hsb := Lib.hid hsb
    go_wp2
    obtain ⟨s1, s2⟩ := st12 (x0 := .int .i64 x0) (x1 := .int .i64 x1) (x2 := .int .i64 x2) (x3 := .int .u64 x3) (x4 := .int .i64 x4) (x5 := .int .i64 x5) (x6 := .slice x6 x7 x8) (x7 := .slice x9 x10 x11) (x8 := .int .i64 x12) (x9 := .slice x13 x14 x15) (x10 := .bool x16) (x11 := .slice x17 x18 x19) hbz.out
    have hkf := hkw.out.fresh s2 (fun b hb => by simp at hb; subst hb; exact .inr (by omega))
    refine bodyPost_ret (results_rf rfl _ _ _ _ _ _ _ _ _ _ _ _ _ _ _ _ _ rfl s1) ?_ ?_
    · rfl
    · exact RPost.same (x := ⟨x0, x1, x2, x3, x4, x5, (x6, x7, x8), (x9, x10, x11), x12, (x13, x14, x15), x16, (x17, x18, x19)⟩) hr.out (h.out.keeps hkf) hkf
  | true =>
    have hs : t.state = 1 := by simpa using hsb
    have hget : t.clm[t.ag.length]? = some p := by
      rcases hcase.out with ⟨e, _⟩ | ⟨_, e⟩
      · exact absurd hs e
      · exact e
    by_cases hm : c0 = m
    case neg =>
      have hmb : (c0 != m) = true := by simpa using hm
      have hr : t.agreeT m = (t, 1) := by unfold Tr.agreeT; rw [if_neg (by simp [hs]), hget]; simp only; rw [if_pos (by rw [← hcm.out]; exact hm)]
      replace hr := Lib.hid hr
      replace hs := Lib.hid hs
      replace hsb := Lib.hid hsb
      replace hm := Lib.hid hm
      replace hget := Lib.hid hget
      go_wp2
      obtain ⟨s1, s2⟩ := st12 (x0 := .int .i64 x0) (x1 := .int .i64 x1) (x2 := .int .i64 x2) (x3 := .int .u64 x3) (x4 := .int .i64 x4) (x5 := .int .i64 x5) (x6 := .slice x6 x7 x8) (x7 := .slice x9 x10 x11) (x8 := .int .i64 x12) (x9 := .slice x13 x14 x15) (x10 := .bool x16) (x11 := .slice x17 x18 x19) hbz.out
      have hkf := hkw.out.fresh s2 (fun b hb => by simp at hb; subst hb; exact .inr (by omega))
      refine bodyPost_ret (results_rf rfl _ _ _ _ _ _ _ _ _ _ _ _ _ _ _ _ _ rfl s1) ?_ ?_
      · rfl
      · exact RPost.same (x := ⟨x0, x1, x2, x3, x4, x5, (x6, x7, x8), (x9, x10, x11), x12, (x13, x14, x15), x16, (x17, x18, x19)⟩) hr.out (h.out.keeps hkf) hkf
    case pos =>
      have hmb : (c0 != m) = false := by simpa using hm
      have hx5 : x5 = 1 := hst.out.trans hs
      subst hx5
      have hr : t.agreeT m = ({ t with ag := t.ag ++ [m], state := if t.ag.length + 1 = t.clm.length then 2 else t.state }, 0) := by unfold Tr.agreeT; rw [if_neg (by simp [hs]), hget]; simp only; rw [if_neg (by rw [← hcm.out, hm]; simp)]
      replace hr := Lib.hid hr
      have hx14 : t.ag.length = x14 := by
        obtain ⟨_, _, e, _⟩ := hga.out.form
        simp only [Value.slice.injEq] at e
        exact e.2.1.symm
      rw [hx14] at hl2 hget
      have hgaW := hga.out.keeps hkw.out
      have hfr := Sh.O.fresh shZ W2 W2.heap.size 3 (Nat.le_refl _)
      have hkE := (Keeps.refl [] W2).alloc (.cells #[] 3)
      have hsE : W2.heap.size ≤ (W2.alloc (.cells #[] 3)).heap.size := by simp
      replace hgaW := Lib.hid hgaW
      replace hfr := Lib.hid hfr
      replace hkE := Lib.hid hkE
      replace hs := Lib.hid hs
      replace hsb := Lib.hid hsb
      replace hm := Lib.hid hm
      replace hget := Lib.hid hget
      replace hx14 := Lib.hid hx14
      go_wp2_with (first
        | (at_builtin; (refine Sh.wpl_app shZ W2.heap.size infoZ rfl Tryz.underlying86 (.slice (some ⟨W2.heap.size, 0, none⟩) 0 0) (.slice x13 x14 x15) [] t.ag rfl _ _ rfl rfl rfl hfr.out (hgaW.out.keeps hkE.out) (by rw [hx14.out]; simp only [List.length_nil]; omega) hsE ?_; intro v5 w5 hO5 hG5; rw [List.nil_append] at hO5; have hk5 := hG5.keeps (a := W2) hkE.out (fun b hb => by simp [Value.ownBlock] at hb; omega); have hm5 := Sh.R.made shZ w5 [m] #[.int .i64 m] 3 rfl (by simp [maxLen]) 1 rfl; have hkm := (Keeps.refl [] w5).alloc (.cells #[.int .i64 m] 3); have hO5a := Lib.hid (hO5.keeps hkm); have hk5a := Lib.hid (hk5.trans hkm); have hs5 : W2.heap.size ≤ (w5.alloc (.cells #[.int .i64 m] 3)).heap.size := hk5a.out.size; replace hm5 := Lib.hid hm5; clear hO5 hk5 hG5 hkm))
        | (at_builtin; (refine Sh.wpl_app shZ W2.heap.size infoZ rfl Tryz.underlying86 v5 (.slice (some ⟨w5.heap.size, 0, none⟩) 1 1) t.ag [m] rfl _ _ rfl rfl rfl hO5a.out hm5.out (by rw [hx14.out]; simp only [List.length_singleton]; omega) hs5 ?_; intro v6 w6 hO6 hG6; have hk6 := Sh.O.grew hk5a.out hO5a.out hG6 (Nat.le_refl _); obtain ⟨va, vc, rfl⟩ := hO6.form; obtain ⟨N6, hN6⟩ : ∃ n, (t.ag ++ [m]).length = n := ⟨_, rfl⟩; rw [hN6] at hO6 ⊢; have hbx6 := Lib.hid ((hk6.block _ yl (by simp)).trans hbx.out); have hbz6 := Lib.hid ((hk6.block _ zl (by simp)).trans hbz.out); obtain ⟨y0, y1, y2, y3, y4, y5, y6, y7, y8, y9, y10, y11, yf, yl6⟩ := cells12 hbx6.out; have hkw6 := Lib.hid (hkw.out.trans hk6); replace hO6 := Lib.hid hO6; replace hN6 := Lib.hid hN6; clear hG6 hk6))
        | fail)
      have hkS : Keeps [w.heap.size] w6 (w6.setCell ⟨w.heap.size, 9, none⟩ (.slice va N6 vc)) := (Keeps.refl _ _).setCell (.inr (by simp)) _
      have hbx7 := setCs hbx6.out 9 (.slice va N6 vc)
      have hbz7 := (hkS.block _ (lt_of_blk hbz6.out) (by simp)).trans hbz6.out
      have hkw7 := hkw6.out.fresh hkS (fun b hb => by simp at hb; subst hb; exact .inr (Nat.le_refl _))
      have hO7 := hO6.out.keepS hkS (fun b hb e => by
        simp at hb; subst hb
        obtain ⟨cs, hc⟩ := hO6.out.tag _ e
        exact tag_ne hbx6.out hc (by decide) rfl)
      have hE7 := h.out.keeps hkw7
      have hR7 : RfR (w6.setCell ⟨w.heap.size, 9, none⟩ (.slice va N6 vc)) ⟨x0, x1, x2, x3, x4, 1, (x6, x7, x8), (x9, x10, x11), x12, (va, N6, vc), x16, (x17, x18, x19)⟩ { t with ag := t.ag ++ [m] } := ⟨hE7.im, hE7.is, hE7.s0, hE7.s1, hE7.s2, hE7.st, hE7.told, hE7.rf, hE7.op, hE7.an, hO7.r, hE7.hi⟩
      have hN6' : N6 = x14 + 1 := by rw [← hN6.out, List.length_append, hx14.out]; rfl
      replace hN6' := Lib.hid hN6'
      have hsc := fun (W : World) (hk : Keeps [] (w6.setCell ⟨w.heap.size, 9, none⟩ (.slice va N6 vc)) W) => sortedR_c W _ { t with ag := t.ag ++ [m] } (hR7.keeps hk) hi.out.rk hl
      simp only [rfV, slv] at hsc
      replace hbx7 : (w6.setCell ⟨w.heap.size, 9, none⟩ (.slice va N6 vc)).heap[w.heap.size]? = some (.cells #[.int .i64 x0, .int .i64 x1, .int .i64 x2, .int .u64 x3, .int .i64 x4, .int .i64 1, .slice x6 x7 x8, .slice x9 x10 x11, .int .i64 x12, .slice va N6 vc, .bool x16, .slice x17 x18 x19] tR) := by simpa using hbx7
      replace hbx7 := Lib.hid hbx7
      replace hbz7 := Lib.hid hbz7
      replace hkw7 := Lib.hid hkw7
      replace hR7 := Lib.hid hR7
      replace hO7 := Lib.hid hO7
      replace hsc := Lib.hid hsc
      clear hkS hE7 hO6 hkw6 hbx6 hbz6
      generalize (w6.setCell ⟨w.heap.size, 9, none⟩ (.slice va N6 vc)) = w7 at *
      clear y0 y1 y2 y3 y4 y5 y6 y7 y8 y9 y10 y11 yf yl6 z0 z1 z2 z3 z4 z5 z6 z7 z8 z9 z10 z11 zf
      obtain ⟨y0, y1, y2, y3, y4, y5, y6, y7, y8, y9, y10, y11, yf, yl7⟩ := cells12 hbx7.out
      refine Free.wp_region_chain (fun i => i == 4 || i == 5) (fun i => true) (fun _ _ => False) (by kernel_rfl) (by kernel_rfl) (by kernel_rfl) ?_
      (repeat (first | (apply Free.cw_pure rfl rfl; (intro w'; go_simp <;> exact rfl); go_frame) | (apply Free.cw_steady rfl rfl rfl; (intro w' hS; have q0 := Free.sx_cell hS y0 (fun _ _ hT => hT); have q1 := Free.sx_cell hS y1 (fun _ _ hT => hT); have q2 := Free.sx_cell hS y2 (fun _ _ hT => hT); have q3 := Free.sx_cell hS y3 (fun _ _ hT => hT); have q4 := Free.sx_cell hS y4 (fun _ _ hT => hT); have q5 := Free.sx_cell hS y5 (fun _ _ hT => hT); have q6 := Free.sx_cell hS y6 (fun _ _ hT => hT); have q7 := Free.sx_cell hS y7 (fun _ _ hT => hT); have q8 := Free.sx_cell hS y8 (fun _ _ hT => hT); have q9 := Free.sx_cell hS y9 (fun _ _ hT => hT); have q10 := Free.sx_cell hS y10 (fun _ _ hT => hT); have q11 := Free.sx_cell hS y11 (fun _ _ hT => hT); go_simp <;> exact rfl); go_frame) | (refine Free.cw_skip rfl ?_; go_frame)))
      refine Free.cw_loud rfl rfl (fun K hK => ?_)
      go_wp2_with fail
      refine (hsc.out _ ((Keeps.refl [] w7).drew)).mono ?_
      rintro e w8 ⟨v8, rfl, hv8, hk8⟩
      refine hK _ _ rfl (Free.KeepsP.of hk8 (by simp)) ?_
      clear hK K
      have hcl := clmOf_c w8 v8 t hi.out hl hv8
      have hk8d := ((Keeps.refl [] w7).drew).trans hk8
      replace hcl := Lib.hid hcl
      replace hk8d := Lib.hid hk8d
      clear hv8 hk8
      (repeat (apply Free.cw_pure rfl rfl; (intro w'; go_simp <;> exact rfl); go_frame))
      refine Free.cw_loud rfl rfl (fun K hK => ?_)
      go_wp2_with fail
      refine hcl.out.mono ?_
      rintro e w9 ⟨v9, rfl, hLC, hk9⟩
      refine hK _ _ rfl (Free.KeepsP.of hk9 (by simp)) ?_
      clear hK K hcl
      obtain ⟨la, lc, rfl, _, _⟩ := hLC.lc.form
      obtain ⟨NC, hNC⟩ : ∃ n, t.clm.length = n := ⟨_, rfl⟩
      rw [hNC]
      have hk79 := hk8d.out.trans hk9
      have hbx9 := (hk79.block _ (lt_of_blk hbx7.out) (by simp)).trans hbx7.out
      have hbz9 := (hk79.block _ (lt_of_blk hbz7.out) (by simp)).trans hbz7.out
      have hkw9 := hkw7.out.trans hk79
      have hR9 := hR7.out.keeps hk79
      have hO9 := hO7.out.keeps hk79
      replace hNC := Lib.hid hNC
      replace hbx9 := Lib.hid hbx9
      replace hbz9 := Lib.hid hbz9
      replace hkw9 := Lib.hid hkw9
      replace hR9 := Lib.hid hR9
      replace hO9 := Lib.hid hO9
      clear hk9 hk79 hLC hO7 hR7
      (repeat (apply Free.cw_pure rfl rfl; (intro w'; go_simp <;> exact rfl); go_frame))
      refine Free.cw_nil ?_
      obtain ⟨y0, y1, y2, y3, y4, y5, y6, y7, y8, y9, y10, y11, yf, yl9⟩ := cells12 hbx9.out
      obtain ⟨z0, z1, z2, z3, z4, z5, z6, z7, z8, z9, z10, z11, zf, zl9⟩ := cells12 hbz9.out
      by_cases hfin : N6 = NC
      · have hfb : ((N6 : Int) == (NC : Int)) = true := by simp [hfin]
        replace hfin := Lib.hid hfin
        go_wp2
        have hkb := (Keeps.refl [w.heap.size] w9).setCell (p := ⟨w.heap.size, 5, none⟩) (.inr (by simp)) (.int .i64 2)
        have hbz2 := (hkb.block _ zl9 (by simp)).trans hbz9.out
        obtain ⟨u1, u2⟩ := st12 (x0 := .int .i64 x0) (x1 := .int .i64 x1) (x2 := .int .i64 x2) (x3 := .int .u64 x3) (x4 := .int .i64 x4) (x5 := .int .i64 2) (x6 := .slice x6 x7 x8) (x7 := .slice x9 x10 x11) (x8 := .int .i64 x12) (x9 := .slice va N6 vc) (x10 := .bool x16) (x11 := .slice x17 x18 x19) hbz2
        have hks := (hkb.mono (T := [w.heap.size, w.heap.size + 1]) (by simp)).trans (u2.mono (by simp))
        have hkf := (hkw9.out.fresh hkb (fun b hb => by simp at hb; subst hb; exact .inr (Nat.le_refl _))).fresh u2 (fun b hb => by simp at hb; subst hb; exact .inr (by omega))
        have hE := h.out.keeps hkf
        have hOE := hO9.out.keepS hks (fun b hb e => by
          obtain ⟨cs, hc⟩ := hO9.out.tag _ e
          simp at hb
          rcases hb with hb | hb
          · subst hb; exact tag_ne hbx9.out hc (by decide) rfl
          · subst hb; exact tag_ne hbz9.out hc (by decide) rfl)
        refine bodyPost_ret (results_rf rfl _ _ _ _ _ _ _ _ _ _ _ _ _ _ _ _ _ rfl u1) ?_ ?_
        · rfl
        · rw [hr.out, if_pos (by rw [hNC.out, hx14.out, ← hfin.out, hN6'.out])]
          exact ⟨⟨x0, x1, x2, x3, x4, 2, (x6, x7, x8), (x9, x10, x11), x12, (va, N6, vc), x16, (x17, x18, x19)⟩, rfl, ⟨hE.im, hE.is, hE.s0, hE.s1, hE.s2, rfl, hE.told, hE.rf, hE.op, hE.an, hOE.r, hE.hi⟩, hkf, Fsh_ag rfl rfl rfl (fun b hb => ⟨by have := hOE.ge b hb; omega, hOE.lt b hb⟩)⟩
      · have hfb : ((N6 : Int) == (NC : Int)) = false := by simp; omega
        replace hfin := Lib.hid hfin
        go_wp2
        obtain ⟨u1, u2⟩ := st12 (x0 := .int .i64 x0) (x1 := .int .i64 x1) (x2 := .int .i64 x2) (x3 := .int .u64 x3) (x4 := .int .i64 x4) (x5 := .int .i64 1) (x6 := .slice x6 x7 x8) (x7 := .slice x9 x10 x11) (x8 := .int .i64 x12) (x9 := .slice va N6 vc) (x10 := .bool x16) (x11 := .slice x17 x18 x19) hbz9.out
        have hkf := hkw9.out.fresh u2 (fun b hb => by simp at hb; subst hb; exact .inr (by omega))
        have hE := h.out.keeps hkf
        have hOE := hO9.out.keepS u2 (fun b hb e => by
          obtain ⟨cs, hc⟩ := hO9.out.tag _ e
          simp at hb
          subst hb; exact tag_ne hbz9.out hc (by decide) rfl)
        refine bodyPost_ret (results_rf rfl _ _ _ _ _ _ _ _ _ _ _ _ _ _ _ _ _ rfl u1) ?_ ?_
        · rfl
        · rw [hr.out, if_neg (by rw [hNC.out, hx14.out, ← hN6'.out]; exact hfin.out)]
          exact ⟨⟨x0, x1, x2, x3, x4, 1, (x6, x7, x8), (x9, x10, x11), x12, (va, N6, vc), x16, (x17, x18, x19)⟩, rfl, ⟨hE.im, hE.is, hE.s0, hE.s1, hE.s2, hE.st, hE.told, hE.rf, hE.op, hE.an, hOE.r, hE.hi⟩, hkf, Fsh_ag rfl rfl rfl (fun b hb => ⟨by have := hOE.ge b hb; omega, hOE.lt b hb⟩)⟩
end Go.Proofs.YtpobepninifenaaGreat

namespace Go.Proofs.YtpobepninifenaaGreat
open Go.RowKit

theorem Tr.put_rec {t : Tr} {a : Ans} (hn : t.op.Nodup) (ho : isOpen a.q t.qs = true) (b : Ans) : (∃ p ∈ ((t.take a).put a).rec', p.2 = b) ↔ b = a ∨ ∃ p ∈ t.rec', p.2 = b := by
  have hm := isOpen_mem.1 ho
  have hq : a.q ∈ t.qs.map (·.1) := List.mem_map.2 ⟨_, hm, rfl⟩
  have hr : ((t.take a).put a).rec' = recOf (setQ a.q a t.qs) := fold_rec _ _ _
  rw [hr]
  constructor
  · rintro ⟨⟨k, c⟩, hp, rfl⟩
    rcases (setQ_mem hq k (some c)).1 (recOf_keys.1 hp) with ⟨_, e⟩ | ⟨_, e⟩
    · exact .inl (Option.some.inj e)
    · exact .inr ⟨(k, c), recOf_keys.2 e, rfl⟩
  · rintro (rfl | ⟨⟨k, c⟩, hp, rfl⟩)
    · exact ⟨(b.q, b), recOf_keys.2 ((setQ_mem hq _ _).2 (.inl ⟨rfl, rfl⟩)), rfl⟩
    · refine ⟨(k, c), recOf_keys.2 ((setQ_mem hq _ _).2 ?_), rfl⟩
      have hp2 : (k, some c) ∈ t.qs := recOf_keys.1 hp
      by_cases e : k = a.q
      · subst e
        have := nd_val hn hm hp2
        cases this
      · exact .inr ⟨e, hp2⟩
theorem Tr.HistOk.new (im is : Int) (st : T3) : (Tr.new im is st).HistOk := fun _ b => by simp [Tr.new, Tr.rec', recOf]
theorem Tr.close_hist (t : Tr) : t.close.hist = t.hist ∧ t.close.rec' = t.rec' ∧ (t.close.state = 0 → t.state = 0) := by
  unfold Tr.close
  split
  · exact ⟨rfl, rfl, fun h => by simp at h⟩
  · exact ⟨rfl, rfl, id⟩
theorem Tr.HistOk.answer {t : Tr} {a : Ans} (h : t.HistOk) (hi : t.Inv) : (t.answer a).1.HistOk := by
  unfold Tr.answer
  split
  · exact h
  split
  · exact h
  split
  · exact fun hs => by simp at hs
  split
  · exact fun hs => by simp at hs
  split
  · exact fun hs => by simp at hs
  rename_i h0 ho _ _ _
  intro _ b
  obtain ⟨e1, e2, _⟩ := Tr.close_hist ((t.take a).put a)
  simp only [e1, e2]
  have ho2 : isOpen a.q t.qs = true := by simpa using ho
  rw [Tr.put_rec hi.nd ho2, ← h (by simpa using h0) b]
  show b ∈ t.hist ++ [a] ↔ _
  simp [or_comm]
theorem Tr.HistOk.refuse {t : Tr} (h : t.HistOk) (m : Int) : (t.refuseT m).1.HistOk := by
  unfold Tr.refuseT
  split
  · exact h
  split
  · split
    · exact h
    · exact fun hs => by simp at hs
  · exact h
theorem Tr.HistOk.agree {t : Tr} (h : t.HistOk) (m : Int) : (t.agreeT m).1.HistOk := by
  unfold Tr.agreeT
  split
  · exact h
  rename_i h1
  split
  · split
    · exact h
    · intro hs
      simp only at hs
      split at hs
      · cases hs
      · have : t.state = 1 := by simpa using h1
        omega
  · exact h
theorem Tr.mid_zero {t : Tr} {a : Ans} (hn : t.op.Nodup) {k : Nat} (hk : k < t.qs.length) (e : t.qs[k].1 = a.q) : (t.mid a 0).qs = t.qs.set k (a.q, some a) ∧ (t.mid a 0).op = t.op := by
  have h1 : (t.mid a 0).qs = setQ a.q a t.qs := by unfold Tr.mid; simp
  refine ⟨by rw [h1, setQ_set hn k hk e], ?_⟩
  unfold Tr.op
  rw [h1, setQ_keys]
theorem Tr.mid_take (t : Tr) (a : Ans) (i : Nat) : (t.mid a i).hist = t.hist ++ [a] ∧ (t.mid a i).state = t.state ∧ (t.mid a i).im = t.im ∧ (t.mid a i).is = t.is ∧ (t.mid a i).st = t.st ∧ (t.mid a i).told = t.told ∧ (t.mid a i).ag = t.ag ∧ (t.mid a i).rf = t.rf := ⟨rfl, rfl, rfl, rfl, rfl, rfl, rfl, rfl⟩
theorem Tr.mid_rk {t : Tr} {a : Ans} (hi : t.Inv) (ho : isOpen a.q t.qs = true) (hk : a.kn = true) (i : Nat) : ∀ p ∈ (t.mid a i).rec', p.2.kn = true := by
  intro p hp
  have hr : (t.mid a i).rec' = recOf (setQ a.q a t.qs) := fold_rec _ _ _
  rw [hr] at hp
  obtain ⟨q, b⟩ := p
  have hm := isOpen_mem.1 ho
  rcases (setQ_mem (List.mem_map.2 ⟨_, hm, rfl⟩) q (some b)).1 (recOf_keys.1 hp) with ⟨_, e⟩ | ⟨_, e⟩
  · rw [Option.some.inj e]; exact hk
  · exact hi.rk (q, b) (recOf_keys.2 e)
end Go.Proofs.YtpobepninifenaaGreat

namespace Go.Proofs.YtpobepninifenaaGreat
open Go.ChangeShapes Go.WideShapes Go.ChangeAt Go.RowKit

/-- The questions without an answer. -/
def opens (qs : Qs) : List Qn := (qs.filter (fun p => !p.2.isSome)).map (·.1)
theorem opens_snoc (qs : Qs) (p : Qn × Option Ans) : opens (qs ++ [p]) = opens qs ++ if p.2.isSome then [] else [p.1] := by
  unfold opens
  rw [List.filter_append, List.map_append]
  obtain ⟨q, u⟩ := p
  cases u <;> simp
theorem opens_len (qs : Qs) : (opens qs).length ≤ qs.length := by unfold opens; rw [List.length_map]; exact List.length_filter_le _ _
theorem opens_mem {qs : Qs} {q : Qn} (h : q ∈ opens qs) : q ∈ qs.map (·.1) := by
  unfold opens at h
  obtain ⟨p, hp, rfl⟩ := List.mem_map.1 h
  exact List.mem_map.2 ⟨p, (List.mem_filter.1 hp).1, rfl⟩
end Go.Proofs.YtpobepninifenaaGreat

namespace Go.Proofs.YtpobepninifenaaGreat
open Go.RowKit

/-- A trace after n operations of at most five entries each. -/
structure Tr.Bnd (t : Tr) (n : Nat) : Prop where
  ho : t.HistOk
  qs : t.qs.length ≤ 1 + 5 * n
  ne : t.qs ≠ []
  hl : t.hist.length ≤ n
  hi : ∀ a ∈ t.hist, a.ins.length ≤ 5
  ag : t.ag.length ≤ n
  tl : ∃ tn : Nat, t.told = tn ∧ tn ≤ t.qs.length
  s1 : t.state = 1 → t.ag.length < t.clm.length
  s0 : t.state = 0 → t.ag = []
  rf : t.rf = true → t.state = 4
theorem Tr.clm_qs {t u : Tr} (h : u.qs = t.qs) : u.clm = t.clm := by
  cases t; cases u
  simp only at h
  subst h
  rfl
theorem Tr.clm_pos {t : Tr} (h : t.Inv) (hn : t.rec' ≠ []) : 0 < t.clm.length := by
  have hs := srtOf_sorted h
  have hp : ClaimsP t (srtOf t.qs) t.clm := refOf_claims hs.2
  obtain ⟨h1, _⟩ := ClaimsP.at' hs.2 hp
  rw [h1]
  obtain ⟨_, _, h3⟩ := rawOf_eq t (outsOf (srtOf t.qs)) (srtOf t.qs) hs.2
  obtain ⟨p, hpm⟩ := List.exists_mem_of_ne_nil _ hn
  have hm : p.2 ∈ srtOf t.qs := hs.1.mem_iff.2 (List.mem_map.2 ⟨p, hpm, rfl⟩)
  have := (h3 p.2.m).2 ⟨p.2, hm, rfl⟩
  exact List.length_pos_of_mem this
theorem Tr.Bnd.new (im is : Int) (st : T3) : (Tr.new im is st).Bnd 0 :=
  ⟨Tr.HistOk.new im is st, by simp [Tr.new], by simp [Tr.new], by simp [Tr.new], by simp [Tr.new], by simp [Tr.new], ⟨0, rfl, by simp [Tr.new]⟩, by simp [Tr.new], by simp [Tr.new], by simp [Tr.new]⟩
theorem Tr.Bnd.mono {t : Tr} {n m : Nat} (h : t.Bnd n) (hm : n ≤ m) : t.Bnd m := ⟨h.ho, by have := h.qs; omega, h.ne, by have := h.hl; omega, h.hi, by have := h.ag; omega, h.tl, h.s1, h.s0, h.rf⟩
theorem setQ_length (q : Qn) (a : Ans) (qs : Qs) : (setQ q a qs).length = qs.length := by unfold setQ; simp
theorem fold_ge (m : Int) : ∀ (l : List T3) (qs : Qs), qs.length ≤ (l.foldl (openQ m) qs).length
  | [], _ => Nat.le_refl _
  | x :: l, qs => Nat.le_trans (by unfold openQ; split <;> simp) (fold_ge m l (openQ m qs x))
theorem Tr.Bnd.answer {t : Tr} {n : Nat} {a : Ans} (h : t.Bnd n) (hi : t.Inv) (hi' : (t.answer a).1.Inv) (ha : a.ins.length ≤ 5) : (t.answer a).1.Bnd (n + 1) := by
  have hho := h.ho.answer (a := a) hi
  have hist : ∀ b ∈ t.hist ++ [a], b.ins.length ≤ 5 := fun b hb => by
    rcases List.mem_append.1 hb with hb | hb
    · exact h.hi b hb
    · rw [List.mem_singleton.1 hb]; exact ha
  have hl : (t.hist ++ [a]).length ≤ n + 1 := by have := h.hl; simp; omega
  have hg : t.ag.length ≤ n + 1 := by have := h.ag; omega
  have hq : t.qs.length ≤ 1 + 5 * (n + 1) := by have := h.qs; omega
  revert hho hi'
  unfold Tr.answer
  split
  · exact fun _ _ => h.mono (by omega)
  rename_i h0
  have h0 : t.state = 0 := by simpa using h0
  have hrf : t.rf = false := by
    cases e : t.rf with
    | false => rfl
    | true => have := h.rf e; omega
  split
  · exact fun _ _ => h.mono (by omega)
  split
  · exact fun _ hho => ⟨hho, hq, h.ne, hl, hist, hg, h.tl, by simp, by simp, fun _ => rfl⟩
  split
  · exact fun _ hho => ⟨hho, hq, h.ne, hl, hist, hg, h.tl, by simp, by simp, fun e => by simp [Tr.take, hrf] at e⟩
  split
  · exact fun _ hho => ⟨hho, hq, h.ne, hl, hist, hg, h.tl, by simp, by simp, fun _ => rfl⟩
  intro hi' hho
  obtain ⟨tn, e1, e2⟩ := h.tl
  have hlen : ((t.take a).put a).qs.length ≤ 1 + 5 * (n + 1) := by
    have := fold_len a.m a.ins (setQ a.q a t.qs)
    rw [setQ_length] at this
    have h2 := h.qs
    show (a.ins.foldl (openQ a.m) (setQ a.q a t.qs)).length ≤ _
    omega
  have hge : t.qs.length ≤ ((t.take a).put a).qs.length := by
    have := fold_ge a.m a.ins (setQ a.q a t.qs)
    rw [setQ_length] at this
    exact this
  have hpos : 0 < t.qs.length := List.length_pos_iff.2 h.ne
  have hne : ((t.take a).put a).qs ≠ [] := List.length_pos_iff.1 (by omega)
  unfold Tr.close at hho hi' ⊢
  by_cases hall : allQ ((t.take a).put a).qs = true
  · simp only [hall, if_true] at hho hi' ⊢
    refine ⟨hho, hlen, hne, hl, hist, hg, ⟨tn, e1, by simp only; omega⟩, fun _ => ?_, by simp, fun e => by simp [Tr.take, Tr.put, hrf] at e⟩
    have hag : ((t.take a).put a).ag = [] := h.s0 h0
    have hcp := Tr.clm_pos hi' (fun e => by
      have := (rec_len ((t.take a).put a).qs).2.2 hall
      have e' : recOf ((t.take a).put a).qs = [] := e
      rw [e'] at this
      simp at this
      omega)
    show ((t.take a).put a).ag.length < _
    rw [hag]
    exact hcp
  · simp only [hall] at hho hi' ⊢
    exact ⟨hho, hlen, hne, hl, hist, hg, ⟨tn, e1, by simp only [Bool.false_eq_true, if_false]; omega⟩, fun e => by simp [Tr.take, Tr.put, h0] at e, fun _ => h.s0 h0, fun e => by simp [Tr.take, Tr.put, hrf] at e⟩
theorem Tr.Bnd.queries {t : Tr} {n : Nat} (h : t.Bnd n) : t.queries.1.Bnd (n + 1) := by
  unfold Tr.queries
  split
  · exact h.mono (by omega)
  · exact ⟨h.ho, by have := h.qs; simp only; omega, h.ne, by have := h.hl; simp only; omega, h.hi, by have := h.ag; simp only; omega, ⟨t.qs.length, rfl, Nat.le_refl _⟩, h.s1, h.s0, h.rf⟩
theorem Tr.Bnd.agree {t : Tr} {n : Nat} (h : t.Bnd n) (m : Int) : (t.agreeT m).1.Bnd (n + 1) := by
  have hho := h.ho.agree m
  revert hho
  unfold Tr.agreeT
  split
  · exact fun _ => h.mono (by omega)
  rename_i h1
  have h1 : t.state = 1 := by simpa using h1
  have hlt := h.s1 h1
  split
  · split
    · exact fun _ => h.mono (by omega)
    · intro hho
      refine ⟨hho, by have := h.qs; simp only; omega, h.ne, by have := h.hl; simp only; omega, h.hi, by have := h.ag; simp; omega, h.tl, fun e => ?_, fun e => ?_, fun e => ?_⟩
      · simp only at e
        split at e
        · omega
        · rename_i hne
          have e2 := @Tr.clm_qs t { t with ag := t.ag ++ [m], state := if t.ag.length + 1 = t.clm.length then 2 else t.state } rfl
          rw [e2]
          simp only [List.length_append, List.length_cons, List.length_nil]
          omega
      · simp only at e
        split at e <;> omega
      · have := h.rf e
        omega
  · exact fun _ => h.mono (by omega)
theorem Tr.Bnd.refuse {t : Tr} {n : Nat} (h : t.Bnd n) (m : Int) : (t.refuseT m).1.Bnd (n + 1) := by
  have hho := h.ho.refuse m
  revert hho
  unfold Tr.refuseT
  split
  · exact fun _ => h.mono (by omega)
  split
  · split
    · exact fun _ => h.mono (by omega)
    · intro hho
      exact ⟨hho, by have := h.qs; simp only; omega, h.ne, by have := h.hl; simp only; omega, h.hi, by have := h.ag; simp only; omega, h.tl, by simp, by simp, fun _ => rfl⟩
  · exact fun _ => h.mono (by omega)
end Go.Proofs.YtpobepninifenaaGreat

namespace Go.Proofs.YtpobepninifenaaGreat
open Go.RowKit

/-- A certificate. -/
structure Ct where
  im : Int
  is : Int
  st : T3
  an : List Ans
  cl : List PCl
/-! ### well-formed -/
/-! ### good -/
/-! ### the specification -/
/-! #### the machines -/
/-! #### the claims -/
end Go.Proofs.YtpobepninifenaaGreat

namespace Go.Proofs.YtpobepninifenaaGreat
open Go.RowKit

/-- A suspect: owner and number. -/
abbrev Sm := Int × Nat
/-- A tracer: its machine, how many traces it has started, the active traces, the certificates. -/
structure Tc where
  m : Int
  s : Int
  act : List Tr
  cs : List Ct
def Tc.new (m : Int) : Tc := ⟨m, 0, [], []⟩
abbrev Tr.idp (t : Tr) : Int × Int := (t.im, t.is)
def certOf (t : Tr) : Ct := ⟨t.im, t.is, t.st, srtOf t.qs, t.clm⟩
def Tc.begins (T : Tc) (st : T3) : Bool := T.act.any (fun t => decide (t.st = st))
abbrev smN (x : Sm) : T3 := (x.1, x.2, 0)
def Tc.start1 (T : Tc) (x : Sm) : Tc := if T.begins (smN x) = true then T else { T with s := T.s + 1, act := T.act ++ [Tr.new T.m (T.s + 1) (smN x)] }
def Tc.start (T : Tc) (S : List Sm) : Tc := S.foldl Tc.start1 T
/-- The identities that are given out. -/
def Tc.ids1 (T : Tc) (x : Sm) : List (Int × Int) := if T.begins (smN x) = true then [] else [(T.m, T.s + 1)]
def Tc.startIds (T : Tc) : List Sm → List (Int × Int)
  | [] => []
  | x :: r => T.ids1 x ++ (T.start1 x).startIds r
theorem Tc.start_take (T : Tc) (S : List Sm) (k : Nat) (hk : k < S.length) : T.start (S.take (k + 1)) = (T.start (S.take k)).start1 S[k] := by
  unfold Tc.start
  rw [List.take_succ_eq_append_getElem hk, List.foldl_append]
  rfl
theorem Tc.startIds_append : ∀ (S R : List Sm) (T : Tc), T.startIds (S ++ R) = T.startIds S ++ (T.start S).startIds R
  | [], _, _ => rfl
  | x :: S, R, T => by
    show T.ids1 x ++ (T.start1 x).startIds (S ++ R) = (T.ids1 x ++ (T.start1 x).startIds S) ++ _
    rw [Tc.startIds_append S R, List.append_assoc]
    rfl
theorem Tc.startIds_take (T : Tc) (S : List Sm) (k : Nat) (hk : k < S.length) : T.startIds (S.take (k + 1)) = T.startIds (S.take k) ++ (T.start (S.take k)).ids1 S[k] := by
  rw [List.take_succ_eq_append_getElem hk, Tc.startIds_append]
  show _ ++ (_ ++ []) = _
  rw [List.append_nil]
/-- The place of an active trace. -/
def Tc.find (T : Tc) (id : Int × Int) : Option Nat := T.act.findIdx? (fun t => decide (t.idp = id))
def Tc.finish (T : Tc) (id : Int × Int) : Tc :=
  match T.find id with
  | none => T
  | some i => { T with act := T.act.eraseIdx i, cs := if (T.act[i]?.map (·.state)) = some 2 then T.cs ++ (T.act[i]?.map certOf).toList else T.cs }
def Tc.setT (T : Tc) (i : Nat) (u : Tr) : Tc := { T with act := T.act.set i u }
/-- An operation. -/
structure Op5 where
  k : Int
  i : Int
  n : Int
  S : List Sm
  a : Ans
  id : Int × Int
def aimQ (a : Ans) (l : List Qn) (n : Int) : Ans := if 0 < l.length ∧ 0 ≤ n then (match l[(n % l.length).toNat]? with | some q => { a with m := q.1, ow := q.2.1, n := q.2.2 } | none => a) else a
def Op5.aim (o : Op5) (t : Tr) : Ans := aimQ o.a (opens t.qs) o.n
/-- The machine of the pending claim. -/
def Tr.mach (t : Tr) : Int := match t.clm[t.ag.length]? with | some p => p.m | none => 0
def Op5.step (o : Op5) (T : Tc) : Tc :=
  if o.k = 0 then T.start o.S
  else if o.k = 6 then T.finish o.id
  else if o.k < 1 ∨ 6 < o.k ∨ o.i < 0 then T
  else match T.act[(o.i % T.act.length).toNat]? with
    | none => T
    | some t =>
      if o.k = 1 then T.setT (o.i % T.act.length).toNat (t.answer (o.aim t)).1
      else if o.k = 2 then T.setT (o.i % T.act.length).toNat t.queries.1
      else if o.k = 3 ∧ t.state = 1 then T.setT (o.i % T.act.length).toNat (t.agreeT t.mach).1
      else if o.k = 4 ∧ t.state = 1 then T.setT (o.i % T.act.length).toNat (t.refuseT t.mach).1
      else if o.k = 5 then T.finish t.idp
      else T
/-- What holds of a tracer after n operations that have started at most k traces. -/
structure Tc.Ok (T : Tc) (n k : Nat) : Prop where
  im : ∀ t ∈ T.act, t.im = T.m
  srt : T.act.Pairwise (fun a b => a.is < b.is)
  is : ∀ t ∈ T.act, 1 ≤ t.is ∧ t.is ≤ T.s
  s0 : 0 ≤ T.s
  s1 : T.s ≤ k
  st : T.act.Pairwise (fun a b => a.st ≠ b.st)
  st0 : ∀ t ∈ T.act, t.st.2.2 = 0
  bnd : ∀ t ∈ T.act, t.Bnd n
  two : ∀ t ∈ T.act, t.state = 2 → 0 < t.clm.length
  al : T.act.length ≤ k
  cl : T.cs.length ≤ n
  ci : ∀ c ∈ T.cs, c.im = T.m ∧ 1 ≤ c.is ∧ c.is ≤ T.s ∧ 0 < c.cl.length ∧ 0 < c.an.length ∧ c.an.length ≤ 1 + 5 * n ∧ (∀ a ∈ c.an, a.ins.length ≤ 100000) ∧ c.cl.length ≤ 1 + 5 * n ∧ ∀ p ∈ c.cl, ∀ j, j < 3 → (p.at j).length ≤ (1 + 5 * n) * 100001
  cn : T.cs.Pairwise (fun a b => a.is ≠ b.is)
  ca : ∀ c ∈ T.cs, ∀ t ∈ T.act, c.is ≠ t.is
theorem Tc.Ok.new (m : Int) : (Tc.new m).Ok 0 0 := by
  constructor <;> simp [Tc.new]
theorem Tc.Ok.mono {T : Tc} {n k n' k' : Nat} (h : T.Ok n k) (hn : n ≤ n') (hk : k ≤ k') : T.Ok n' k' :=
  ⟨h.im, h.srt, h.is, h.s0, by have := h.s1; omega, h.st, h.st0, fun t ht => (h.bnd t ht).mono hn, h.two, by have := h.al; omega, by have := h.cl; omega,
    fun c hc => by obtain ⟨h1, h2, h3, h4, h5, h6, h7, h8, h9⟩ := h.ci c hc; exact ⟨h1, h2, h3, h4, h5, by omega, h7, by omega, fun p hp j hj => Nat.le_trans (h9 p hp j hj) (Nat.mul_le_mul_right _ (by omega))⟩, h.cn, h.ca⟩
theorem Tc.Ok.start1 {T : Tc} {n k : Nat} (h : T.Ok n k) (x : Sm) : (T.start1 x).Ok n (k + 1) := by
  unfold Tc.start1
  split
  · exact h.mono (Nat.le_refl _) (by omega)
  · rename_i hb
    have hb' : ∀ t ∈ T.act, t.st ≠ smN x := fun t ht e => hb (by unfold Tc.begins; rw [List.any_eq_true]; exact ⟨t, ht, by simp [e]⟩)
    have hs := h.s0
    refine ⟨?_, ?_, ?_, by show 0 ≤ T.s + 1; omega, by show T.s + 1 ≤ ((k + 1 : Nat) : Int); have := h.s1; omega, ?_, ?_, ?_, ?_, by simp; exact h.al, h.cl, ?_, h.cn, ?_⟩
    · intro t ht
      rcases List.mem_append.1 ht with h1 | h1
      · exact h.im t h1
      · simp at h1; subst h1; rfl
    · refine List.pairwise_append.2 ⟨h.srt, by simp, fun a ha b hb2 => ?_⟩
      simp at hb2; subst hb2
      have := (h.is a ha).2
      show a.is < T.s + 1
      omega
    · intro t ht
      show 1 ≤ t.is ∧ t.is ≤ T.s + 1
      rcases List.mem_append.1 ht with h1 | h1
      · have := h.is t h1; omega
      · simp at h1; subst h1; show 1 ≤ T.s + 1 ∧ T.s + 1 ≤ T.s + 1; omega
    · refine List.pairwise_append.2 ⟨h.st, by simp, fun a ha b hb2 => ?_⟩
      simp at hb2; subst hb2
      exact hb' a ha
    · intro t ht
      rcases List.mem_append.1 ht with h1 | h1
      · exact h.st0 t h1
      · simp at h1; subst h1; rfl
    · intro t ht
      rcases List.mem_append.1 ht with h1 | h1
      · exact h.bnd t h1
      · simp at h1; subst h1; exact (Tr.Bnd.new _ _ _).mono (by omega)
    · intro t ht
      rcases List.mem_append.1 ht with h1 | h1
      · exact h.two t h1
      · simp at h1; subst h1; intro e; exact absurd e (by show ¬ (0 : Int) = 2; decide)
    · intro c hc
      obtain ⟨h1, h2, h3, h4⟩ := h.ci c hc
      exact ⟨h1, h2, by show c.is ≤ T.s + 1; omega, h4⟩
    · intro c hc t ht
      rcases List.mem_append.1 ht with h1 | h1
      · exact h.ca c hc t h1
      · simp at h1; subst h1
        have := (h.ci c hc).2.2.1
        show c.is ≠ T.s + 1
        omega
theorem Tc.Ok.start {n : Nat} : ∀ (S : List Sm) {T : Tc} {k : Nat}, T.Ok n k → (T.start S).Ok n (k + S.length)
  | [], T, k, h => h
  | x :: S, T, k, h => by
    have := Tc.Ok.start S (h.start1 x)
    rw [List.length_cons, show k + (S.length + 1) = k + 1 + S.length by omega]
    exact this
theorem Tc.start_m (S : List Sm) (T : Tc) : (T.start S).m = T.m := by
  induction S generalizing T with
  | nil => rfl
  | cons x S ih => show ((T.start1 x).start S).m = _; rw [ih]; unfold Tc.start1; split <;> rfl
theorem clm_an {t : Tr} (hi : t.Inv) (h : 0 < t.clm.length) : 0 < (srtOf t.qs).length := by
  rcases Nat.eq_zero_or_pos (srtOf t.qs).length with e | e
  · exfalso
    have hs := srtOf_sorted hi
    have he : srtOf t.qs = [] := List.eq_nil_of_length_eq_zero e
    have hp : ClaimsP t (srtOf t.qs) t.clm := refOf_claims hs.2
    obtain ⟨h1, _⟩ := ClaimsP.at' hs.2 hp
    rw [h1] at h
    obtain ⟨_, _, h3⟩ := rawOf_eq t (outsOf (srtOf t.qs)) (srtOf t.qs) hs.2
    obtain ⟨m, hm⟩ := List.exists_mem_of_length_pos h
    obtain ⟨a, ha, _⟩ := (h3 m).1 hm
    rw [he] at ha
    simp at ha
  · exact e
theorem clm_len' {t : Tr} (h : t.Inv) : t.clm.length ≤ t.qs.length := by
  have hs := srtOf_sorted h
  have hp : ClaimsP t (srtOf t.qs) t.clm := refOf_claims hs.2
  obtain ⟨e1, _⟩ := ClaimsP.at' hs.2 hp
  obtain ⟨e4, _, _⟩ := rawOf_eq t (outsOf (srtOf t.qs)) (srtOf t.qs) hs.2
  have e5 := (rawOf_take t (outsOf (srtOf t.qs)) (srtOf t.qs) (fun a ha => by
    obtain ⟨p, hp, rfl⟩ := List.mem_map.1 (hs.1.mem_iff.1 ha)
    exact (h.ro p hp).len) (srtOf t.qs).length (Nat.le_refl _)).2
  rw [List.take_length, e4, List.length_map] at e5
  have e3 := hs.1.length_eq
  rw [List.length_map] at e3
  have h3 : t.rec'.length ≤ t.qs.length := by unfold Tr.rec' recOf; exact List.length_filterMap_le ..
  rw [e1]
  omega
theorem clm_lists {t : Tr} (h : t.Inv) : ∀ p ∈ t.clm, ∀ j, j < 3 → (p.at j).length ≤ t.qs.length * 100001 := fun p hp j hj => by
  have hs := srtOf_sorted h
  have hpc : ClaimsP t (srtOf t.qs) t.clm := refOf_claims hs.2
  obtain ⟨e1, e2⟩ := ClaimsP.at' hs.2 hpc
  obtain ⟨e4, _, _⟩ := rawOf_eq t (outsOf (srtOf t.qs)) (srtOf t.qs) hs.2
  have e5 := (rawOf_take t (outsOf (srtOf t.qs)) (srtOf t.qs) (fun a ha => by
    obtain ⟨p, hp, rfl⟩ := List.mem_map.1 (hs.1.mem_iff.1 ha)
    exact (h.ro p hp).len) (srtOf t.qs).length (Nat.le_refl _)).1
  rw [List.take_length] at e5
  have e3 := hs.1.length_eq
  rw [List.length_map] at e3
  have h3 : t.rec'.length ≤ t.qs.length := by unfold Tr.rec' recOf; exact List.length_filterMap_le ..
  obtain ⟨k, hk, rfl⟩ := List.mem_iff_getElem.1 hp
  have hk2 : k < (msOf (srtOf t.qs)).length := by rw [← e1]; exact hk
  have h4 := ((e2 k hk hk2).at' j hj).1.length_eq
  have h6 : clOf t (outsOf (srtOf t.qs)) (srtOf t.qs) (msOf (srtOf t.qs))[k] ∈ rawOf t (outsOf (srtOf t.qs)) (srtOf t.qs) := by rw [e4]; exact List.mem_map.2 ⟨_, List.getElem_mem hk2, rfl⟩
  obtain ⟨k', hk', e6⟩ := List.mem_iff_getElem.1 h6
  have h7 := e5 k' hk' j hj
  rw [e6] at h7
  rw [h4]
  exact Nat.le_trans h7 (Nat.mul_le_mul_right _ (by omega))
theorem Tc.find_some {T : Tc} {id : Int × Int} {i : Nat} (h : T.find id = some i) : ∃ h : i < T.act.length, T.act[i].idp = id := by
  unfold Tc.find at h
  obtain ⟨h1, h2, _⟩ := List.findIdx?_eq_some_iff_getElem.1 h
  exact ⟨h1, by simpa using h2⟩
theorem Tc.find_none {T : Tc} {id : Int × Int} (h : T.find id = none) : ∀ t ∈ T.act, t.idp ≠ id := by
  unfold Tc.find at h
  rw [List.findIdx?_eq_none_iff] at h
  intro t ht e
  have := h t ht
  simp [e] at this
theorem Tc.Ok.nodup {T : Tc} {n k : Nat} (h : T.Ok n k) {i j : Nat} (hi : i < T.act.length) (hj : j < T.act.length) (e : T.act[i].idp = T.act[j].idp) : i = j := by
  have e2 : T.act[i].is = T.act[j].is := (Prod.mk.inj e).2
  rcases Nat.lt_trichotomy i j with h1 | h1 | h1
  · have := List.pairwise_iff_getElem.1 h.srt i j hi hj h1; omega
  · exact h1
  · have := List.pairwise_iff_getElem.1 h.srt j i hj hi h1; omega
theorem Tc.Ok.find {T : Tc} {n k : Nat} (h : T.Ok n k) {i : Nat} (hi : i < T.act.length) : T.find T.act[i].idp = some i := by
  cases hf : T.find T.act[i].idp with
  | none => exact absurd rfl (Tc.find_none hf _ (List.getElem_mem hi))
  | some j =>
    obtain ⟨hj, e⟩ := Tc.find_some hf
    rw [h.nodup hj hi e]
theorem Tc.finish_at {T : Tc} {id : Int × Int} {i : Nat} (h : T.find id = some i) (hi : i < T.act.length) : T.finish id = { T with act := T.act.eraseIdx i, cs := if T.act[i].state = 2 then T.cs ++ [certOf T.act[i]] else T.cs } := by
  unfold Tc.finish
  rw [h]
  simp [List.getElem?_eq_getElem hi]
theorem Tc.finish_none {T : Tc} {id : Int × Int} (h : T.find id = none) : T.finish id = T := by
  unfold Tc.finish
  rw [h]
theorem Tc.Ok.finish {T : Tc} {n k : Nat} (h : T.Ok n k) (hinv : ∀ t ∈ T.act, t.Inv) (id : Int × Int) : (T.finish id).Ok (n + 1) k := by
  cases hf : T.find id with
  | none => rw [Tc.finish_none hf]; exact h.mono (by omega) (Nat.le_refl _)
  | some i =>
    obtain ⟨hi, e⟩ := Tc.find_some hf
    rw [Tc.finish_at hf hi]
    have hsub : List.Sublist (T.act.eraseIdx i) T.act := List.eraseIdx_sublist ..
    have hm : ∀ t ∈ T.act.eraseIdx i, t ∈ T.act := fun t ht => hsub.subset ht
    have hti := List.getElem_mem hi
    have hne : ∀ t ∈ T.act.eraseIdx i, t.is ≠ T.act[i].is := fun t ht e2 => by
      obtain ⟨j, hj, e3⟩ := List.mem_iff_getElem.1 ht
      rw [List.getElem_eraseIdx] at e3
      have hlen : (T.act.eraseIdx i).length = T.act.length - 1 := by rw [List.length_eraseIdx, if_pos hi]
      split at e3
      · rename_i hji
        have := List.pairwise_iff_getElem.1 h.srt j i (by omega) hi hji
        rw [e3] at this
        omega
      · rename_i hji
        have := List.pairwise_iff_getElem.1 h.srt i (j + 1) hi (by omega) (by omega)
        rw [e3] at this
        omega
    have hb := h.mono (n' := n + 1) (k' := k) (by omega) (Nat.le_refl _)
    refine ⟨fun t ht => h.im t (hm t ht), h.srt.sublist hsub, fun t ht => h.is t (hm t ht), h.s0, h.s1, h.st.sublist hsub, fun t ht => h.st0 t (hm t ht), fun t ht => hb.bnd t (hm t ht), fun t ht => h.two t (hm t ht),
      Nat.le_trans hsub.length_le h.al, ?_, ?_, ?_, ?_⟩
    · show (if T.act[i].state = 2 then T.cs ++ [certOf T.act[i]] else T.cs).length ≤ n + 1
      have := h.cl
      split
      · rw [List.length_append, List.length_singleton]; omega
      · omega
    · intro c hc
      replace hc : c ∈ (if T.act[i].state = 2 then T.cs ++ [certOf T.act[i]] else T.cs) := hc
      split at hc
      · rename_i h2
        rcases List.mem_append.1 hc with h1 | h1
        · exact hb.ci c h1
        · simp at h1; subst h1
          have hq := (h.bnd _ hti).qs
          have hs := srtOf_sorted (hinv _ hti)
          refine ⟨h.im _ hti, (h.is _ hti).1, (h.is _ hti).2, h.two _ hti h2, clm_an (hinv _ hti) (h.two _ hti h2), ?_, ?_, by have := clm_len' (hinv _ hti); show (Tr.clm _).length ≤ _; omega, fun p hp j hj => Nat.le_trans (clm_lists (hinv _ hti) p hp j hj) (Nat.mul_le_mul_right _ (by omega))⟩
          · show (srtOf _).length ≤ 1 + 5 * (n + 1)
            have := hs.1.length_eq
            rw [List.length_map] at this
            have h3 : T.act[i].rec'.length ≤ T.act[i].qs.length := by unfold Tr.rec' recOf; exact List.length_filterMap_le ..
            omega
          · intro a ha
            obtain ⟨p, hp, e3⟩ := List.mem_map.1 (hs.1.mem_iff.1 ha)
            rw [← e3]
            exact ((hinv _ hti).ro p hp).len
      · exact hb.ci c hc
    · show (if T.act[i].state = 2 then T.cs ++ [certOf T.act[i]] else T.cs).Pairwise _
      split
      · refine List.pairwise_append.2 ⟨h.cn, by simp, fun a ha b hb2 => ?_⟩
        simp at hb2; subst hb2
        exact h.ca a ha _ hti
      · exact h.cn
    · intro c hc t ht
      replace hc : c ∈ (if T.act[i].state = 2 then T.cs ++ [certOf T.act[i]] else T.cs) := hc
      split at hc
      · rcases List.mem_append.1 hc with h1 | h1
        · exact h.ca c h1 t (hm t ht)
        · simp at h1; subst h1
          exact fun e2 => hne t ht e2.symm
      · exact h.ca c hc t (hm t ht)
theorem Tc.Ok.set {T : Tc} {n k : Nat} (h : T.Ok n k) {i : Nat} (hi : i < T.act.length) {u : Tr} (h1 : u.im = T.act[i].im) (h2 : u.is = T.act[i].is) (h3 : u.st = T.act[i].st) (hb : u.Bnd (n + 1)) (h4 : u.state = 2 → 0 < u.clm.length) : (T.setT i u).Ok (n + 1) k := by
  have hti := List.getElem_mem hi
  have hg := h.mono (n' := n + 1) (k' := k) (by omega) (Nat.le_refl _)
  have hmem : ∀ t ∈ T.act.set i u, t ∈ T.act ∨ t = u := fun t ht => (List.mem_or_eq_of_mem_set ht)
  have hpw : ∀ (R : Tr → Tr → Prop), (∀ b, R T.act[i] b → R u b) → (∀ a, R a T.act[i] → R a u) → T.act.Pairwise R → (T.act.set i u).Pairwise R := fun R f g hp => by
    rw [List.pairwise_iff_getElem] at hp ⊢
    intro a b ha hb2 hab
    rw [List.length_set] at ha hb2
    rw [List.getElem_set, List.getElem_set]
    split
    · split
      · omega
      · rename_i e1 e2; subst e1; exact f _ (hp i b hi hb2 hab)
    · split
      · rename_i e1 e2; subst e2; exact g _ (hp a i ha hi hab)
      · exact hp a b ha hb2 hab
  refine ⟨fun t ht => ?_, hpw _ (fun b hb2 => by show u.is < b.is; rw [h2]; exact hb2) (fun a ha => by show a.is < u.is; rw [h2]; exact ha) h.srt, fun t ht => ?_, h.s0, h.s1,
    hpw _ (fun b hb2 => by show u.st ≠ b.st; rw [h3]; exact hb2) (fun a ha => by show a.st ≠ u.st; rw [h3]; exact ha) h.st, fun t ht => ?_, fun t ht => ?_, fun t ht => ?_, by show (T.act.set i u).length ≤ k; rw [List.length_set]; exact h.al, hg.cl, hg.ci, h.cn, fun c hc t ht => ?_⟩
  · rcases hmem t ht with g | rfl
    · exact h.im t g
    · rw [h1]; exact h.im _ hti
  · rcases hmem t ht with g | rfl
    · exact h.is t g
    · rw [h2]; exact h.is _ hti
  · rcases hmem t ht with g | rfl
    · exact h.st0 t g
    · rw [h3]; exact h.st0 _ hti
  · rcases hmem t ht with g | rfl
    · exact hg.bnd t g
    · exact hb
  · rcases hmem t ht with g | rfl
    · exact h.two t g
    · exact h4
  · rcases hmem t ht with g | rfl
    · exact h.ca c hc t g
    · rw [h2]; exact h.ca c hc _ hti
end Go.Proofs.YtpobepninifenaaGreat

namespace Go.Proofs.YtpobepninifenaaGreat
open Go.RowKit

theorem drewH (w : World) (b : Nat) : w.drew.heap[b]? = w.heap[b]? := rfl
theorem Tr.mid_len (t : Tr) (a : Ans) : ∀ i, i ≤ a.ins.length → t.qs.length ≤ (t.mid a i).qs.length
  | 0, _ => by unfold Tr.mid; simp [setQ]
  | i + 1, hi => by
    have ih := Tr.mid_len t a i (by omega)
    rw [Tr.mid_succ t a i (by omega)]
    simp only
    unfold openQ
    split
    · exact ih
    · simp; omega
def midX (t : Tr) (a : Ans) (X : List AnV) (k : Nat) (y : AnV) (i : Nat) : List AnV := X.set k y ++ List.replicate ((t.mid a i).qs.length - t.qs.length) AnV.zero
def nq (a : Ans) (x : T3) : Qn := (x.1, a.m, x.2.1)
theorem midX_old {t : Tr} {a : Ans} {X : List AnV} {k : Nat} {y : AnV} {i : Nat} (hi : i < a.ins.length) (h : nq a a.ins[i] ∈ (t.mid a i).op) : midX t a X k y (i + 1) = midX t a X k y i ∧ (t.mid a (i + 1)).op = (t.mid a i).op := by
  unfold midX
  rw [Tr.mid_old t a i hi h]
  exact ⟨rfl, rfl⟩
theorem midX_new {t : Tr} {a : Ans} {X : List AnV} {k : Nat} {y : AnV} {i : Nat} (hi : i < a.ins.length) (h : nq a a.ins[i] ∉ (t.mid a i).op) : midX t a X k y (i + 1) = midX t a X k y i ++ [AnV.zero] ∧ (t.mid a (i + 1)).op.map ndq = (t.mid a i).op.map ndq ++ [ndq (nq a a.ins[i])] := by
  have hl := Tr.mid_len t a i (by omega)
  unfold midX
  rw [Tr.mid_new t a i hi h]
  refine ⟨?_, by simp [Tr.op, nq]⟩
  simp only [List.length_append, List.length_singleton]
  rw [show (t.mid a i).qs.length + 1 - t.qs.length = ((t.mid a i).qs.length - t.qs.length) + 1 by omega, List.replicate_succ', List.append_assoc]
theorem midX_zero {t : Tr} {a : Ans} {X : List AnV} {k : Nat} {y : AnV} (hn : t.op.Nodup) (hk : k < t.qs.length) (e : t.qs[k].1 = a.q) : midX t a X k y 0 = X.set k y := by
  unfold midX
  rw [(Tr.mid_zero hn hk e).1]
  simp
theorem RA.mid {w : World} {t : Tr} {a : Ans} {X : List AnV} {k : Nat} {y : AnV} (hn : t.op.Nodup) (hk : k < t.qs.length) (e : t.qs[k].1 = a.q) (h : RA w X t.qs) (hy : InA w y a) : ∀ i, i ≤ a.ins.length → RA w (midX t a X k y i) (t.mid a i).qs
  | 0, _ => by
    have h1 := (Tr.mid_zero hn hk e).1
    unfold midX
    rw [h1]
    simp only [List.length_set, Nat.sub_self, List.replicate_zero, List.append_nil]
    exact h.set hy
  | i + 1, hi => by
    have ih := RA.mid hn hk e h hy i (by omega)
    by_cases hm : nq a (a.ins[i]'(by omega)) ∈ (t.mid a i).op
    · rw [(midX_old (by omega) hm).1, Tr.mid_old t a i (by omega) hm]; exact ih
    · rw [(midX_new (by omega) hm).1, Tr.mid_new t a i (by omega) hm]; exact ih.open
theorem Tr.mid_le (t : Tr) (a : Ans) : ∀ i, i ≤ a.ins.length → (t.mid a i).qs.length ≤ t.qs.length + i
  | 0, _ => by unfold Tr.mid; simp [setQ]
  | i + 1, hi => by
    have ih := Tr.mid_le t a i (by omega)
    rw [Tr.mid_succ t a i (by omega)]
    simp only
    unfold openQ
    split
    · omega
    · simp; omega
theorem grwBlk {wr w' : World} {v v' : Value} {e : TypeId} {b : Nat} (hG : Grw wr w' v v') (hv : ∀ b, v.ownBlock = some b → ∃ (cs : Array Value), wr.heap[b]? = some (Obj.cells cs e (0, 0))) {cs : Array Value} {e' : TypeId} (hb : wr.heap[b]? = some (.cells cs e' (0, 0))) (hne : e' ≠ e) : w'.heap[b]? = some (.cells cs e' (0, 0)) :=
  (hG.keepsO.block b (lt_of_blk hb) (fun hm => by obtain ⟨c2, h2⟩ := hv b (by simpa using hm); exact tag_ne hb h2 hne rfl)).trans hb
/-- The memory while the inset is opened. -/
structure MidS (w wr : World) (a : Ans) (B : Nat) (v6 v7 v8 vI : Value) (L6 : List T3) (L7 L8 : List AnV) : Prop where
  o6 : shT.O wr w.heap.size tN v6 L6
  o7 : shA.O wr B tA v7 L7
  o8 : shA.O wr w.heap.size tA v8 L8
  oI : shT.O wr w.heap.size tI vI a.ins
  b8 : ∀ b, v8.ownBlock = some b → b < B
  kw : Keeps [] w wr
  lB : w.heap.size ≤ B
  wB : B ≤ wr.heap.size
theorem MidS.keeps {w wr w' : World} {a : Ans} {B : Nat} {v6 v7 v8 vI : Value} {L6 : List T3} {L7 L8 : List AnV} (m : MidS w wr a B v6 v7 v8 vI L6 L7 L8) (hk : Keeps [] wr w') : MidS w w' a B v6 v7 v8 vI L6 L7 L8 :=
  ⟨m.o6.keeps hk, m.o7.keeps hk, m.o8.keeps hk, m.oI.keeps hk, m.b8, m.kw.trans hk, m.lB, Nat.le_trans m.wB hk.size⟩
theorem MidS.boxes {w wr w' : World} {a : Ans} {B : Nat} {v6 v7 v8 vI : Value} {L6 : List T3} {L7 L8 : List AnV} {S : List Nat} (m : MidS w wr a B v6 v7 v8 vI L6 L7 L8) (hk : Keeps S wr w') (hS : ∀ b ∈ S, w.heap.size ≤ b ∧ ∃ cs : Array Value, wr.heap[b]? = some (.cells cs tR (0, 0))) : MidS w w' a B v6 v7 v8 vI L6 L7 L8 := by
  have k1 : ∀ (e : TypeId) (v : Value), e ≠ tR → (∀ b, v.ownBlock = some b → ∃ (cs : Array Value), wr.heap[b]? = some (Obj.cells cs e (0, 0))) → ∀ b ∈ S, v.ownBlock ≠ some b := fun e v he ht b hb hv => by
    obtain ⟨cs, hc⟩ := ht b hv
    obtain ⟨_, cs2, h2⟩ := hS b hb
    exact tag_ne h2 hc (Ne.symm he) rfl
  exact ⟨m.o6.keepS hk (k1 tN _ (by decide) m.o6.tag), m.o7.keepS hk (k1 tA _ (by decide) m.o7.tag), m.o8.keepS hk (k1 tA _ (by decide) m.o8.tag), m.oI.keepS hk (k1 tI _ (by decide) m.oI.tag), m.b8,
    m.kw.fresh hk (fun b hb => .inr (hS b hb).1), m.lB, Nat.le_trans m.wB hk.size⟩
theorem MidS.grow6 {w wr w' : World} {a : Ans} {B : Nat} {v6 v6' v7 v8 vI : Value} {L6 L6' : List T3} {L7 L8 : List AnV} (m : MidS w wr a B v6 v7 v8 vI L6 L7 L8) (hO : shT.O w' w.heap.size tN v6' L6') (hG : Grw wr w' v6 v6') : MidS w w' a B v6' v7 v8 vI L6' L7 L8 := by
  have k1 : ∀ (e : TypeId) (v : Value), e ≠ tN → (∀ b, v.ownBlock = some b → ∃ (cs : Array Value), wr.heap[b]? = some (Obj.cells cs e (0, 0))) → ∀ b ∈ v6.ownBlock.toList, v.ownBlock ≠ some b := fun e v he ht b hb hv => by
    obtain ⟨cs, hc⟩ := ht b hv
    obtain ⟨cs2, h2⟩ := m.o6.tag b (by simpa using hb)
    exact tag_ne h2 hc (Ne.symm he) rfl
  have hk := hG.keepsO
  exact ⟨hO, m.o7.keepS hk (k1 tA _ (by decide) m.o7.tag), m.o8.keepS hk (k1 tA _ (by decide) m.o8.tag), m.oI.keepS hk (k1 tI _ (by decide) m.oI.tag), m.b8, Grw.keeps m.kw hG (fun b hb => m.o6.ge b hb), m.lB, Nat.le_trans m.wB hk.size⟩
theorem MidS.grow7 {w wr w' : World} {a : Ans} {B : Nat} {v6 v7 v7' v8 vI : Value} {L6 : List T3} {L7 L7' L8 : List AnV} (m : MidS w wr a B v6 v7 v8 vI L6 L7 L8) (hO : shA.O w' B tA v7' L7') (hG : Grw wr w' v7 v7') : MidS w w' a B v6 v7' v8 vI L6 L7' L8 := by
  have k1 : ∀ (e : TypeId) (v : Value), e ≠ tA → (∀ b, v.ownBlock = some b → ∃ (cs : Array Value), wr.heap[b]? = some (Obj.cells cs e (0, 0))) → ∀ b ∈ v7.ownBlock.toList, v.ownBlock ≠ some b := fun e v he ht b hb hv => by
    obtain ⟨cs, hc⟩ := ht b hv
    obtain ⟨cs2, h2⟩ := m.o7.tag b (by simpa using hb)
    exact tag_ne h2 hc (Ne.symm he) rfl
  have hk := hG.keepsO
  exact ⟨m.o6.keepS hk (k1 tN _ (by decide) m.o6.tag), hO, m.o8.keepS hk (fun b hb e => by have h1 := m.b8 b e; have h2 := m.o7.ge b (by simpa using hb); omega), m.oI.keepS hk (k1 tI _ (by decide) m.oI.tag), m.b8,
    Grw.keeps m.kw hG (fun b hb => Nat.le_trans m.lB (m.o7.ge b hb)), m.lB, Nat.le_trans m.wB hk.size⟩
theorem MidS.rf {w wr : World} {t : Tr} {a : Ans} {B : Nat} {p6 p7 p8 : Option Addr × Nat × Nat} {va : Option Addr} {N vc k i : Nat} {X XH : List AnV} {x : RfV} (n : Int)
    (m : MidS w wr a B (slv p6) (slv p7) (slv p8) (.slice va N vc) ((t.mid a i).op.map ndq) (midX t a X k ⟨a.m, a.ow, a.n, a.ep, a.kn, a.rt, a.lu, va, N, vc⟩ i) (XH ++ [⟨a.m, a.ow, a.n, a.ep, a.kn, a.rt, a.lu, va, N, vc⟩]))
    (h : RfR w x t) (hX : RA w X t.qs) (hH : LA w XH t.hist) (hn : t.op.Nodup) (hk : k < t.qs.length) (e : t.qs[k].1 = a.q) (hi : i ≤ a.ins.length) :
    RfR wr ⟨x.im, x.is, x.s0, x.s1, x.s2, n, p6, p7, x.told, x.vg, x.rf, p8⟩ { t.mid a i with state := n } := by
  have hy : InA wr ⟨a.m, a.ow, a.n, a.ep, a.kn, a.rt, a.lu, va, N, vc⟩ a := ⟨rfl, rfl, rfl, rfl, rfl, rfl, rfl, ⟨_, m.oI⟩⟩
  exact ⟨h.im, h.is, h.s0, h.s1, h.s2, rfl, h.told, h.rf, m.o6.r, ⟨_, m.o7.r, RA.mid hn hk e (hX.keeps m.kw) hy i hi⟩, h.ag.keeps m.kw, ⟨_, m.o8.r, (hH.ki m.kw.ki0).snoc hy⟩⟩
end Go.Proofs.YtpobepninifenaaGreat

namespace Go.Proofs.YtpobepninifenaaGreat
open Go.RowKit

theorem RfR.moved {w w' : World} {x : RfV} {t : Tr} {S : List Nat} (h : RfR w x t) (hk : Keeps S w w') (hi : KI w w') (hS : ∀ b ∈ S, b ∉ blks x) : RfR w' x t := by
  obtain ⟨X, hX, hXR⟩ := h.an
  obtain ⟨Z, hZ, hZR⟩ := h.hi
  exact ⟨h.im, h.is, h.s0, h.s1, h.s2, h.st, h.told, h.rf, h.op.keepS hk (fun b hb e => hS b hb (mem_blks.2 (.inl e))),
    ⟨X, hX.keepS hk (fun b hb e => hS b hb (mem_blks.2 (.inr (.inl e)))), hXR.all (fun x b hb => hb.ki hi)⟩,
    h.ag.keepS hk (fun b hb e => hS b hb (mem_blks.2 (.inr (.inr (.inl e))))), ⟨Z, hZ.keepS hk (fun b hb e => hS b hb (mem_blks.2 (.inr (.inr (.inr e))))), hZR.ki hi⟩⟩
end Go.Proofs.YtpobepninifenaaGreat

namespace Go.Proofs.YtpobepninifenaaGreat
open Go.RowKit

theorem cl2 {w : World} {b : Nat} {x0 x1 : Value} {t : TypeId} (h : w.heap[b]? = some (.cells #[x0, x1] t (0, 0))) :
    w.cell? ⟨b, 0, none⟩ = some x0 ∧ w.cell? ⟨b, 1, none⟩ = some x1 ∧ (∀ o, w.frozen? ⟨b, o, none⟩ = false) ∧ b < w.heap.size := by
  refine ⟨?_, ?_, fun o => ?_, (Array.getElem?_eq_some_iff.1 h).1⟩ <;> simp [World.cell?, World.frozen?, h]
theorem cl3 {w : World} {b : Nat} {x0 x1 x2 : Value} {t : TypeId} (h : w.heap[b]? = some (.cells #[x0, x1, x2] t (0, 0))) :
    w.cell? ⟨b, 0, none⟩ = some x0 ∧ w.cell? ⟨b, 1, none⟩ = some x1 ∧ w.cell? ⟨b, 2, none⟩ = some x2 ∧ (∀ o, w.frozen? ⟨b, o, none⟩ = false) ∧ b < w.heap.size := by
  refine ⟨?_, ?_, ?_, fun o => ?_, (Array.getElem?_eq_some_iff.1 h).1⟩ <;> simp [World.cell?, World.frozen?, h]
theorem cl4 {w : World} {b : Nat} {x0 x1 x2 x3 : Value} {t : TypeId} (h : w.heap[b]? = some (.cells #[x0, x1, x2, x3] t (0, 0))) :
    w.cell? ⟨b, 0, none⟩ = some x0 ∧ w.cell? ⟨b, 1, none⟩ = some x1 ∧ w.cell? ⟨b, 2, none⟩ = some x2 ∧ w.cell? ⟨b, 3, none⟩ = some x3 ∧ (∀ o, w.frozen? ⟨b, o, none⟩ = false) ∧ b < w.heap.size := by
  refine ⟨?_, ?_, ?_, ?_, fun o => ?_, (Array.getElem?_eq_some_iff.1 h).1⟩ <;> simp [World.cell?, World.frozen?, h]
theorem cl5 {w : World} {b : Nat} {x0 x1 x2 x3 x4 : Value} {t : TypeId} (h : w.heap[b]? = some (.cells #[x0, x1, x2, x3, x4] t (0, 0))) :
    w.cell? ⟨b, 0, none⟩ = some x0 ∧ w.cell? ⟨b, 1, none⟩ = some x1 ∧ w.cell? ⟨b, 2, none⟩ = some x2 ∧ w.cell? ⟨b, 3, none⟩ = some x3 ∧ w.cell? ⟨b, 4, none⟩ = some x4 ∧ (∀ o, w.frozen? ⟨b, o, none⟩ = false) ∧ b < w.heap.size := by
  refine ⟨?_, ?_, ?_, ?_, ?_, fun o => ?_, (Array.getElem?_eq_some_iff.1 h).1⟩ <;> simp [World.cell?, World.frozen?, h]
theorem cl7 {w : World} {b : Nat} {x0 x1 x2 x3 x4 x5 x6 : Value} {t : TypeId} (h : w.heap[b]? = some (.cells #[x0, x1, x2, x3, x4, x5, x6] t (0, 0))) :
    w.cell? ⟨b, 0, none⟩ = some x0 ∧ w.cell? ⟨b, 1, none⟩ = some x1 ∧ w.cell? ⟨b, 2, none⟩ = some x2 ∧ w.cell? ⟨b, 3, none⟩ = some x3 ∧ w.cell? ⟨b, 4, none⟩ = some x4 ∧ w.cell? ⟨b, 5, none⟩ = some x5 ∧ w.cell? ⟨b, 6, none⟩ = some x6 ∧ (∀ o, w.frozen? ⟨b, o, none⟩ = false) ∧ b < w.heap.size := by
  refine ⟨?_, ?_, ?_, ?_, ?_, ?_, ?_, fun o => ?_, (Array.getElem?_eq_some_iff.1 h).1⟩ <;> simp [World.cell?, World.frozen?, h]
theorem cl8 {w : World} {b : Nat} {x0 x1 x2 x3 x4 x5 x6 x7 : Value} {t : TypeId} (h : w.heap[b]? = some (.cells #[x0, x1, x2, x3, x4, x5, x6, x7] t (0, 0))) :
    w.cell? ⟨b, 0, none⟩ = some x0 ∧ w.cell? ⟨b, 1, none⟩ = some x1 ∧ w.cell? ⟨b, 2, none⟩ = some x2 ∧ w.cell? ⟨b, 3, none⟩ = some x3 ∧ w.cell? ⟨b, 4, none⟩ = some x4 ∧ w.cell? ⟨b, 5, none⟩ = some x5 ∧ w.cell? ⟨b, 6, none⟩ = some x6 ∧ w.cell? ⟨b, 7, none⟩ = some x7 ∧ (∀ o, w.frozen? ⟨b, o, none⟩ = false) ∧ b < w.heap.size := by
  refine ⟨?_, ?_, ?_, ?_, ?_, ?_, ?_, ?_, fun o => ?_, (Array.getElem?_eq_some_iff.1 h).1⟩ <;> simp [World.cell?, World.frozen?, h]
theorem cl12 {w : World} {b : Nat} {x0 x1 x2 x3 x4 x5 x6 x7 x8 x9 x10 x11 : Value} {t : TypeId} (h : w.heap[b]? = some (.cells #[x0, x1, x2, x3, x4, x5, x6, x7, x8, x9, x10, x11] t (0, 0))) :
    w.cell? ⟨b, 0, none⟩ = some x0 ∧ w.cell? ⟨b, 1, none⟩ = some x1 ∧ w.cell? ⟨b, 2, none⟩ = some x2 ∧ w.cell? ⟨b, 3, none⟩ = some x3 ∧ w.cell? ⟨b, 4, none⟩ = some x4 ∧ w.cell? ⟨b, 5, none⟩ = some x5 ∧ w.cell? ⟨b, 6, none⟩ = some x6 ∧ w.cell? ⟨b, 7, none⟩ = some x7 ∧ w.cell? ⟨b, 8, none⟩ = some x8 ∧ w.cell? ⟨b, 9, none⟩ = some x9 ∧ w.cell? ⟨b, 10, none⟩ = some x10 ∧ w.cell? ⟨b, 11, none⟩ = some x11 ∧ (∀ o, w.frozen? ⟨b, o, none⟩ = false) ∧ b < w.heap.size := by
  refine ⟨?_, ?_, ?_, ?_, ?_, ?_, ?_, ?_, ?_, ?_, ?_, ?_, fun o => ?_, (Array.getElem?_eq_some_iff.1 h).1⟩ <;> simp [World.cell?, World.frozen?, h]
theorem cl14 {w : World} {b : Nat} {x0 x1 x2 x3 x4 x5 x6 x7 x8 x9 x10 x11 x12 x13 : Value} {t : TypeId} (h : w.heap[b]? = some (.cells #[x0, x1, x2, x3, x4, x5, x6, x7, x8, x9, x10, x11, x12, x13] t (0, 0))) :
    w.cell? ⟨b, 0, none⟩ = some x0 ∧ w.cell? ⟨b, 1, none⟩ = some x1 ∧ w.cell? ⟨b, 2, none⟩ = some x2 ∧ w.cell? ⟨b, 3, none⟩ = some x3 ∧ w.cell? ⟨b, 4, none⟩ = some x4 ∧ w.cell? ⟨b, 5, none⟩ = some x5 ∧ w.cell? ⟨b, 6, none⟩ = some x6 ∧ w.cell? ⟨b, 7, none⟩ = some x7 ∧ w.cell? ⟨b, 8, none⟩ = some x8 ∧ w.cell? ⟨b, 9, none⟩ = some x9 ∧ w.cell? ⟨b, 10, none⟩ = some x10 ∧ w.cell? ⟨b, 11, none⟩ = some x11 ∧ w.cell? ⟨b, 12, none⟩ = some x12 ∧ w.cell? ⟨b, 13, none⟩ = some x13 ∧ (∀ o, w.frozen? ⟨b, o, none⟩ = false) ∧ b < w.heap.size := by
  refine ⟨?_, ?_, ?_, ?_, ?_, ?_, ?_, ?_, ?_, ?_, ?_, ?_, ?_, ?_, fun o => ?_, (Array.getElem?_eq_some_iff.1 h).1⟩ <;> simp [World.cell?, World.frozen?, h]
theorem blks2 (w : World) (A0 A1 : Obj) : ((w.alloc A0).alloc A1).heap[w.heap.size]? = some A0 ∧ ((w.alloc A0).alloc A1).heap[w.heap.size + 1]? = some A1 ∧ Keeps [] w ((w.alloc A0).alloc A1) ∧ ((w.alloc A0).alloc A1).heap.size = w.heap.size + 1 + 1 := by
  have h0 := heap_alloc_new w A0
  have h1 := heap_alloc_new (w.alloc A0) A1
  rw [show (w.alloc A0).heap.size = w.heap.size + 1 by simp] at h1
  exact ⟨(((Keeps.refl [] (w.alloc A0)).alloc A1).block _ (Array.getElem?_eq_some_iff.1 h0).1 (by simp)).trans h0, ((Keeps.refl [] ((w.alloc A0).alloc A1)).block _ (Array.getElem?_eq_some_iff.1 h1).1 (by simp)).trans h1, (((Keeps.refl [] w).alloc A0).alloc A1), by simp⟩
theorem blks3 (w : World) (A0 A1 A2 : Obj) : (((w.alloc A0).alloc A1).alloc A2).heap[w.heap.size]? = some A0 ∧ (((w.alloc A0).alloc A1).alloc A2).heap[w.heap.size + 1]? = some A1 ∧ (((w.alloc A0).alloc A1).alloc A2).heap[w.heap.size + 1 + 1]? = some A2 ∧ Keeps [] w (((w.alloc A0).alloc A1).alloc A2) ∧ (((w.alloc A0).alloc A1).alloc A2).heap.size = w.heap.size + 1 + 1 + 1 := by
  have h0 := heap_alloc_new w A0
  have h1 := heap_alloc_new (w.alloc A0) A1
  rw [show (w.alloc A0).heap.size = w.heap.size + 1 by simp] at h1
  have h2 := heap_alloc_new ((w.alloc A0).alloc A1) A2
  rw [show ((w.alloc A0).alloc A1).heap.size = w.heap.size + 1 + 1 by simp] at h2
  exact ⟨((((Keeps.refl [] (w.alloc A0)).alloc A1).alloc A2).block _ (Array.getElem?_eq_some_iff.1 h0).1 (by simp)).trans h0, (((Keeps.refl [] ((w.alloc A0).alloc A1)).alloc A2).block _ (Array.getElem?_eq_some_iff.1 h1).1 (by simp)).trans h1, ((Keeps.refl [] (((w.alloc A0).alloc A1).alloc A2)).block _ (Array.getElem?_eq_some_iff.1 h2).1 (by simp)).trans h2, ((((Keeps.refl [] w).alloc A0).alloc A1).alloc A2), by simp⟩
theorem sc2 {w : World} {X : Nat} {t : TypeId} {y0 y1 : Value} (x0 x1 : Value) (h : w.heap[X]? = some (.cells #[y0, y1] t (0, 0))) : ((w.setCell ⟨X, 0, none⟩ x0).setCell ⟨X, 1, none⟩ x1).heap[X]? = some (.cells #[x0, x1] t (0, 0)) ∧ Keeps [X] w ((w.setCell ⟨X, 0, none⟩ x0).setCell ⟨X, 1, none⟩ x1) := by
  refine ⟨by simp [World.setCell, Array.getElem?_modify, h], ?_⟩
  refine ((Keeps.refl _ w).setCell ?_ _).setCell ?_ _ <;> exact .inr (by simp)
theorem sc3 {w : World} {X : Nat} {t : TypeId} {y0 y1 y2 : Value} (x0 x1 x2 : Value) (h : w.heap[X]? = some (.cells #[y0, y1, y2] t (0, 0))) : (((w.setCell ⟨X, 0, none⟩ x0).setCell ⟨X, 1, none⟩ x1).setCell ⟨X, 2, none⟩ x2).heap[X]? = some (.cells #[x0, x1, x2] t (0, 0)) ∧ Keeps [X] w (((w.setCell ⟨X, 0, none⟩ x0).setCell ⟨X, 1, none⟩ x1).setCell ⟨X, 2, none⟩ x2) := by
  refine ⟨by simp [World.setCell, Array.getElem?_modify, h], ?_⟩
  refine (((Keeps.refl _ w).setCell ?_ _).setCell ?_ _).setCell ?_ _ <;> exact .inr (by simp)
theorem sc4 {w : World} {X : Nat} {t : TypeId} {y0 y1 y2 y3 : Value} (x0 x1 x2 x3 : Value) (h : w.heap[X]? = some (.cells #[y0, y1, y2, y3] t (0, 0))) : ((((w.setCell ⟨X, 0, none⟩ x0).setCell ⟨X, 1, none⟩ x1).setCell ⟨X, 2, none⟩ x2).setCell ⟨X, 3, none⟩ x3).heap[X]? = some (.cells #[x0, x1, x2, x3] t (0, 0)) ∧ Keeps [X] w ((((w.setCell ⟨X, 0, none⟩ x0).setCell ⟨X, 1, none⟩ x1).setCell ⟨X, 2, none⟩ x2).setCell ⟨X, 3, none⟩ x3) := by
  refine ⟨by simp [World.setCell, Array.getElem?_modify, h], ?_⟩
  refine ((((Keeps.refl _ w).setCell ?_ _).setCell ?_ _).setCell ?_ _).setCell ?_ _ <;> exact .inr (by simp)
theorem sc7 {w : World} {X : Nat} {t : TypeId} {y0 y1 y2 y3 y4 y5 y6 : Value} (x0 x1 x2 x3 x4 x5 x6 : Value) (h : w.heap[X]? = some (.cells #[y0, y1, y2, y3, y4, y5, y6] t (0, 0))) : (((((((w.setCell ⟨X, 0, none⟩ x0).setCell ⟨X, 1, none⟩ x1).setCell ⟨X, 2, none⟩ x2).setCell ⟨X, 3, none⟩ x3).setCell ⟨X, 4, none⟩ x4).setCell ⟨X, 5, none⟩ x5).setCell ⟨X, 6, none⟩ x6).heap[X]? = some (.cells #[x0, x1, x2, x3, x4, x5, x6] t (0, 0)) ∧ Keeps [X] w (((((((w.setCell ⟨X, 0, none⟩ x0).setCell ⟨X, 1, none⟩ x1).setCell ⟨X, 2, none⟩ x2).setCell ⟨X, 3, none⟩ x3).setCell ⟨X, 4, none⟩ x4).setCell ⟨X, 5, none⟩ x5).setCell ⟨X, 6, none⟩ x6) := by
  refine ⟨by simp [World.setCell, Array.getElem?_modify, h], ?_⟩
  refine (((((((Keeps.refl _ w).setCell ?_ _).setCell ?_ _).setCell ?_ _).setCell ?_ _).setCell ?_ _).setCell ?_ _).setCell ?_ _ <;> exact .inr (by simp)
theorem sc8 {w : World} {X : Nat} {t : TypeId} {y0 y1 y2 y3 y4 y5 y6 y7 : Value} (x0 x1 x2 x3 x4 x5 x6 x7 : Value) (h : w.heap[X]? = some (.cells #[y0, y1, y2, y3, y4, y5, y6, y7] t (0, 0))) : ((((((((w.setCell ⟨X, 0, none⟩ x0).setCell ⟨X, 1, none⟩ x1).setCell ⟨X, 2, none⟩ x2).setCell ⟨X, 3, none⟩ x3).setCell ⟨X, 4, none⟩ x4).setCell ⟨X, 5, none⟩ x5).setCell ⟨X, 6, none⟩ x6).setCell ⟨X, 7, none⟩ x7).heap[X]? = some (.cells #[x0, x1, x2, x3, x4, x5, x6, x7] t (0, 0)) ∧ Keeps [X] w ((((((((w.setCell ⟨X, 0, none⟩ x0).setCell ⟨X, 1, none⟩ x1).setCell ⟨X, 2, none⟩ x2).setCell ⟨X, 3, none⟩ x3).setCell ⟨X, 4, none⟩ x4).setCell ⟨X, 5, none⟩ x5).setCell ⟨X, 6, none⟩ x6).setCell ⟨X, 7, none⟩ x7) := by
  refine ⟨by simp [World.setCell, Array.getElem?_modify, h], ?_⟩
  refine ((((((((Keeps.refl _ w).setCell ?_ _).setCell ?_ _).setCell ?_ _).setCell ?_ _).setCell ?_ _).setCell ?_ _).setCell ?_ _).setCell ?_ _ <;> exact .inr (by simp)
end Go.Proofs.YtpobepninifenaaGreat

namespace Go.Proofs.YtpobepninifenaaGreat
open Go.RowKit

abbrev tCt : Nat := 70
theorem sizeCt : (Tryz.prog.info? tCt).map (·.size) = some 7 := by kernel_rfl
theorem load_ct (w : World) (g : Nat) (t : TypeId) (x0 x1 x2 x3 x4 x5 x6 : Value) (f : Nat × Nat) (hg : w.heap[g]? = some (.cells #[x0, x1, x2, x3, x4, x5, x6] t f)) : (loadVar tCt ⟨g, 0, none⟩).run Tryz.prog w = .ok (.agg #[x0, x1, x2, x3, x4, x5, x6]) w :=
  run_loadVar_row w g t tCt #[x0, x1, x2, x3, x4, x5, x6] f _ hg Tryz.underlying70 rfl sizeCt
theorem results_ct {fn : Func} {p u : Tmp} (h : fn.results = #[.cell p tCt, .tmp u]) (tmps : Array Value) (w : World) (g : Nat) (t : TypeId) (x0 x1 x2 x3 x4 x5 x6 : Value) (f : Nat × Nat) (hp : tmps.getD p undef = .pointer (some ⟨g, 0, none⟩))
    (hg : w.heap[g]? = some (.cells #[x0, x1, x2, x3, x4, x5, x6] t f)) : (results fn tmps).run Tryz.prog w = .ok (.tuple #[.agg #[x0, x1, x2, x3, x4, x5, x6], tmps.getD u undef]) w := by
  have hp' : tmps[p]?.getD undef = .pointer (some ⟨g, 0, none⟩) := by simpa using hp
  simp [results, h, hp', asAddr, load_ct w g t x0 x1 x2 x3 x4 x5 x6 f hg]
/-- A certificate as its cells. -/
structure CtV where
  im : Int
  is : Int
  s0 : Int
  s1 : Nat
  s2 : Int
  va : Option Addr × Nat × Nat
  vc : Option Addr × Nat × Nat
def ctV (x : CtV) : Value := .agg #[.int .i64 x.im, .int .i64 x.is, .int .i64 x.s0, .int .u64 x.s1, .int .i64 x.s2, slv x.va, slv x.vc]
end Go.Proofs.YtpobepninifenaaGreat

namespace Go.Proofs.YtpobepninifenaaGreat
open Go.ChangeShapes Go.WideShapes Go.ChangeAt Go.RowKit

/-- The cells of a certificate say this certificate. -/
structure CtW (w : World) (x : CtV) (c : Ct) : Prop where
  im : x.im = c.im
  is : x.is = c.is
  s0 : x.s0 = c.st.1
  s1 : x.s1 = c.st.2.1
  s2 : x.s2 = c.st.2.2
  an : RdA w (slv x.va) c.an
  cl : LC w (slv x.vc) c.cl
theorem CtW.keeps {w w' : World} {x : CtV} {c : Ct} (h : CtW w x c) (hk : Keeps [] w w') : CtW w' x c := ⟨h.im, h.is, h.s0, h.s1, h.s2, h.an.keeps hk, h.cl.keeps hk⟩
end Go.Proofs.YtpobepninifenaaGreat

namespace Go.Proofs.YtpobepninifenaaGreat
open Go.RowKit

abbrev tTc : Nat := 80
abbrev tId : Nat := 39
abbrev tRc : Nat := 30
/-! identities -/
abbrev Idp := Int × Int
def shId : Sh Idp := ⟨2, fun x => [.int .i64 x.1, .int .i64 x.2], fun _ => rfl, by decide, fun x u hu => by simp at hu; rcases hu with rfl | rfl <;> rfl⟩
abbrev ipV (x : Idp) : Value := .agg #[.int .i64 x.1, .int .i64 x.2]
def ipOk (x : Idp) : Prop := W64 x.1 ∧ W64 x.2
theorem idLaw : WideMaps.KeyLaw Tryz.prog tId := deep_law_laid laidOut (m := 4) (by omega) (of_decide_eq_true (by kernel_rfl)) (by kernel_rfl) (by rw [Tryz.underlying39])
theorem id_key (x : Idp) (h : ipOk x) : ∃ l, keyOf Tryz.prog tId (ipV x) = some l := by
  obtain ⟨m, o⟩ := x
  obtain ⟨hm, ho⟩ := h
  simp only at hm ho
  obtain ⟨d, hd⟩ : ∃ d, Tryz.prog.types.size = d + 2 := ⟨Tryz.prog.types.size - 2, by have : 2 ≤ Tryz.prog.types.size := of_decide_eq_true (by kernel_rfl); omega⟩
  have h1 : Tryz.prog.keyType tId = true := by kernel_rfl
  have h2 : (ipV (m, o)).formed Tryz.prog tId = true := by kernel_rfl
  have c1 : Tryz.prog.cellsOf tId = 2 := by kernel_rfl
  have c3 : Tryz.prog.cellsOf 3 = 1 := by kernel_rfl
  unfold keyOf
  simp only [Tryz.underlying39, h1, h2, hd, Bool.and_self, if_true]
  have hk : Tryz.prog.keyLits (d + 2 + 1) tId (ipV (m, o)).cells.toList = some [.int .i64 m, .int .i64 o] := by
    have wm : (Lit.int .i64 m).wf = true := hm
    have wo : (Lit.int .i64 o).wf = true := ho
    simp [Program.keyLits, Tryz.underlying39, Tryz.underlying3, c1, c3, Value.cells, wm, wo]
  rw [hk]
  exact ⟨_, rfl⟩
def ktId : MapS.KT Tryz.prog tId Idp := ⟨ipV, ipOk, Maps.Keyed.of_law idLaw, id_key, fun x y h => by
  obtain ⟨a, b⟩ := x
  obtain ⟨a', b'⟩ := y
  simp [ipV] at h
  obtain ⟨h1, h2⟩ := h
  rw [h1, h2]⟩
def ptrV (b : Nat) : Value := .pointer (some ⟨b, 0, none⟩)
/-! rows of traces, rows of certificates -/
def shRf : Sh RfV := ⟨12, RfV.cs, fun _ => rfl, by decide, fun x u hu => by simp [RfV.cs] at hu; rcases hu with rfl | rfl | rfl | rfl | rfl | rfl | rfl | rfl | rfl | rfl | rfl | rfl <;> rfl⟩
def CtV.cs (x : CtV) : List Value := [.int .i64 x.im, .int .i64 x.is, .int .i64 x.s0, .int .u64 x.s1, .int .i64 x.s2, slv x.va, slv x.vc]
def shCt : Sh CtV := ⟨7, CtV.cs, fun _ => rfl, by decide, fun x u hu => by simp [CtV.cs] at hu; rcases hu with rfl | rfl | rfl | rfl | rfl | rfl | rfl <;> rfl⟩
/-- What a tracer's own blocks hold. -/
def OwnTag (w : World) (b : Nat) : Prop := b < w.heap.size ∧ ((∃ es c, w.heap[b]? = some (Obj.map es c)) ∨ ∃ (cs : Array Value) (e : TypeId), w.heap[b]? = some (Obj.cells cs e (0, 0)) ∧ (e = tT ∨ e = tQ ∨ e = tA ∨ e = 3 ∨ e = tTc ∨ e = tCt))
theorem OwnTag.not {w : World} {b : Nat} (h : OwnTag w b) {e : TypeId} (he : e ≠ tT ∧ e ≠ tQ ∧ e ≠ tA ∧ e ≠ 3 ∧ e ≠ tTc ∧ e ≠ tCt) : ∀ (cs : Array Value) (f : Nat × Nat), w.heap[b]? ≠ some (Obj.cells cs e f) := fun cs f g => by
  rcases h.2 with ⟨es, c, h1⟩ | ⟨cs', e', h1, h2⟩
  · rw [h1] at g; cases g
  · rw [h1] at g
    cases g
    obtain ⟨a1, a2, a3, a4, a5, a6⟩ := he
    rcases h2 with h2 | h2 | h2 | h2 | h2 | h2
    · exact a1 h2
    · exact a2 h2
    · exact a3 h2
    · exact a4 h2
    · exact a5 h2
    · exact a6 h2
/-- Claims that are read out of blocks of claims and of needs. -/
def LCo (w : World) (v : Value) (P : List PCl) : Prop := ∃ C, shC.R w v C ∧ (∀ b, v.ownBlock = some b → ∃ (cs : Array Value) (f : Nat × Nat), w.heap[b]? = some (Obj.cells cs tC f)) ∧ Rows' w C P
theorem LCo.lc {w : World} {v : Value} {P : List PCl} (h : LCo w v P) : LC w v P := by obtain ⟨C, h1, _, h2⟩ := h; exact h2.lc h1
theorem LCo.keepS {w w' : World} {v : Value} {P : List PCl} {S : List Nat} (h : LCo w v P) (hk : Keeps S w w') (hS : ∀ b ∈ S, ∀ (cs : Array Value) (f : Nat × Nat), w.heap[b]? ≠ some (Obj.cells cs tC f) ∧ w.heap[b]? ≠ some (Obj.cells cs tN f)) : LCo w' v P := by
  obtain ⟨C, h1, h2, h3⟩ := h
  refine ⟨C, h1.keepS hk (fun b hb e => ?_), fun b hb => ?_, h3.keepS hk (fun b hb cs f => (hS b hb cs f).2)⟩
  · obtain ⟨cs, f, g⟩ := h2 b e
    exact (hS b hb cs f).1 g
  · obtain ⟨cs, f, g⟩ := h2 b hb
    exact ⟨cs, f, (hk.block b (lt_of_blk' g) (fun hm => (hS b hm cs f).1 g)).trans g⟩
/-- The cells of a certificate say this certificate, out of blocks that last. -/
structure CtO (w : World) (x : CtV) (c : Ct) : Prop where
  im : x.im = c.im
  is : x.is = c.is
  s0 : x.s0 = c.st.1
  s1 : x.s1 = c.st.2.1
  s2 : x.s2 = c.st.2.2
  an : ∃ X, shA.R w (slv x.va) X ∧ LA w X c.an ∧ ∀ b, (slv x.va).ownBlock = some b → ∃ (cs : Array Value) (f : Nat × Nat), w.heap[b]? = some (Obj.cells cs tA f)
  cl : LCo w (slv x.vc) c.cl
theorem CtO.w {w : World} {x : CtV} {c : Ct} (h : CtO w x c) : CtW w x c := by
  obtain ⟨X, h1, h2, _⟩ := h.an
  exact ⟨h.im, h.is, h.s0, h.s1, h.s2, ⟨X, h1, h2.1, fun k a b g1 g2 => (h2.2 k a b g1 g2).r⟩, h.cl.lc⟩
theorem CtO.keepG {w w' : World} {x : CtV} {c : Ct} {S : List Nat} (h : CtO w x c) (hk : Keeps S w w') (hi : KI w w') (hS : ∀ b ∈ S, ∀ (cs : Array Value) (f : Nat × Nat), w.heap[b]? ≠ some (Obj.cells cs tC f) ∧ w.heap[b]? ≠ some (Obj.cells cs tN f)) (hv : ∀ b, (slv x.va).ownBlock = some b → b ∉ S) : CtO w' x c := by
  obtain ⟨X, h1, h2, h3⟩ := h.an
  exact ⟨h.im, h.is, h.s0, h.s1, h.s2, ⟨X, h1.keepS hk (fun b hb e => hv b e hb), h2.ki hi, fun b hb => by obtain ⟨cs, f, g⟩ := h3 b hb; exact ⟨cs, f, (hk.block b (lt_of_blk' g) (hv b hb)).trans g⟩⟩, h.cl.keepS hk hS⟩
theorem CtO.keepS {w w' : World} {x : CtV} {c : Ct} {S : List Nat} (h : CtO w x c) (hk : Keeps S w w') (hi : KI w w') (hS : ∀ b ∈ S, OwnTag w b) (hv : ∀ b, (slv x.va).ownBlock = some b → b ∉ S) : CtO w' x c :=
  h.keepG hk hi (fun b hb cs f => ⟨(hS b hb).not (by decide) cs f, (hS b hb).not (by decide) cs f⟩) hv
theorem CtO.keeps {w w' : World} {x : CtV} {c : Ct} (h : CtO w x c) (hk : Keeps [] w w') : CtO w' x c := h.keepS hk hk.ki0 (by simp) (by simp)
/-! the active traces -/
structure AT where
  t : Tr
  bt : Nat
  bm : Nat
  vo : Value
  vh : Value
  vg : Value
def AT.own (a : AT) : List Nat := ownT a.bt a.bm a.vo a.vh a.vg
def ownTc (bp bm : Nat) (vc : Value) (A : List AT) : List Nat := bp :: bm :: (vc.ownBlock.toList ++ A.flatMap AT.own)
theorem mem_ownTc {bp bm : Nat} {vc : Value} {A : List AT} {b : Nat} : b ∈ ownTc bp bm vc A ↔ b = bp ∨ b = bm ∨ vc.ownBlock = some b ∨ ∃ a ∈ A, b ∈ a.own := by
  simp [ownTc]
/-- A tracer. -/
structure TcM (w : World) (B bp bm : Nat) (vc : Value) (A : List AT) (T : Tc) : Prop where
  ac : A.map (·.t) = T.act
  blk : w.heap[bp]? = some (.cells #[.int .i64 T.m, .int .i64 T.s, .map (some bm), vc] tTc (0, 0))
  mp : MapS.M ktId ptrV w bm (A.map (fun a => (a.t.idp, a.bt)))
  tr : ∀ a ∈ A, TrM w B a.bt a.bm a.vo a.vh a.vg a.t
  dj : A.Pairwise (fun a b => ∀ c ∈ a.own, c ∉ b.own)
  ob : ∀ a ∈ A, ∀ c ∈ a.own, c ≠ bp ∧ c ≠ bm ∧ vc.ownBlock ≠ some c
  cs : ∃ X, shCt.O w B tCt vc X ∧ X.length = T.cs.length ∧ ∀ (k : Nat) (x : CtV) (c : Ct), X[k]? = some x → T.cs[k]? = some c → CtO w x c ∧ ∀ b, (slv x.va).ownBlock = some b → b < w.heap.size ∧ b ∉ ownTc bp bm vc A
  bB : B ≤ bp ∧ B ≤ bm
namespace TcM
variable {w w' : World} {B bp bm : Nat} {vc : Value} {A : List AT} {T : Tc}
theorem lt (h : TcM w B bp bm vc A T) : bp < w.heap.size ∧ bm < w.heap.size := ⟨lt_of_blk h.blk, MapS.M.lt ktId h.mp⟩
theorem tag (h : TcM w B bp bm vc A T) {b : Nat} (hb : b ∈ ownTc bp bm vc A) : OwnTag w b := by
  obtain ⟨X, hX, _⟩ := h.cs
  rcases mem_ownTc.1 hb with rfl | rfl | hb | ⟨a, ha, hb⟩
  · exact ⟨h.lt.1, .inr ⟨_, _, h.blk, by simp⟩⟩
  · exact ⟨h.lt.2, .inl h.mp.isMap⟩
  · obtain ⟨cs, hc⟩ := hX.tag b hb
    exact ⟨hX.lt b hb, .inr ⟨_, _, hc, by simp⟩⟩
  · obtain ⟨_, h1, h2⟩ := (h.tr a ha).own_tag hb
    refine ⟨h1, h2.imp id (fun ⟨cs, e, h3, h4⟩ => ⟨cs, e, h3, ?_⟩)⟩
    rcases h4 with h4 | h4 | h4 | h4 <;> simp [h4]
theorem ge (h : TcM w B bp bm vc A T) {b : Nat} (hb : b ∈ ownTc bp bm vc A) : B ≤ b := by
  obtain ⟨X, hX, _⟩ := h.cs
  rcases mem_ownTc.1 hb with rfl | rfl | hb | ⟨a, ha, hb⟩
  · exact h.bB.1
  · exact h.bB.2
  · exact hX.ge b hb
  · exact ((h.tr a ha).own_tag hb).1
theorem len (h : TcM w B bp bm vc A T) : A.length = T.act.length := by rw [← h.ac, List.length_map]
theorem keep {S : List Nat} (h : TcM w B bp bm vc A T) (hk : Keeps S w w') (hi : KI w w') (hS : ∀ b ∈ S, b ∉ ownTc bp bm vc A ∧ ∀ (cs : Array Value) (f : Nat × Nat), w.heap[b]? ≠ some (Obj.cells cs tC f) ∧ w.heap[b]? ≠ some (Obj.cells cs tN f) ∧ w.heap[b]? ≠ some (Obj.cells cs tA f)) : TcM w' B bp bm vc A T := by
  obtain ⟨X, hX, hl, hc⟩ := h.cs
  refine ⟨h.ac, (hk.block _ h.lt.1 (fun hm => (hS _ hm).1 (mem_ownTc.2 (.inl rfl)))).trans h.blk, h.mp.kept ktId hk (fun hm => (hS _ hm).1 (mem_ownTc.2 (.inr (.inl rfl)))),
    fun a ha => (h.tr a ha).keep hk (fun b hb hm => (hS b hm).1 (mem_ownTc.2 (.inr (.inr (.inr ⟨a, ha, hb⟩))))) hi, h.dj, h.ob, ⟨X, hX.keepS hk (fun b hb e => (hS b hb).1 (mem_ownTc.2 (.inr (.inr (.inl e))))), hl, fun k x c h1 h2 => ?_⟩, h.bB⟩
  obtain ⟨g1, g2⟩ := hc k x c h1 h2
  obtain ⟨Z, _, _, hz⟩ := g1.an
  exact ⟨g1.keepG hk hi (fun b hb cs f => ⟨((hS b hb).2 cs f).1, ((hS b hb).2 cs f).2.1⟩) (fun b hb hm => by obtain ⟨cs, f, g⟩ := hz b hb; exact ((hS b hm).2 cs f).2.2 g), fun b hb => ⟨Nat.lt_of_lt_of_le (g2 b hb).1 hk.size, (g2 b hb).2⟩⟩
theorem keeps (h : TcM w B bp bm vc A T) (hk : Keeps [] w w') : TcM w' B bp bm vc A T := h.keep hk hk.ki0 (by simp)
/-- A block of another kind is written. -/
theorem keepT {b : Nat} {cs : Array Value} {e : TypeId} {f : Nat × Nat} (h : TcM w B bp bm vc A T) (hk : Keeps [b] w w') (hb : w.heap[b]? = some (Obj.cells cs e f)) (he : e ≠ tT ∧ e ≠ tQ ∧ e ≠ tA ∧ e ≠ 3 ∧ e ≠ tTc ∧ e ≠ tCt) (he2 : e ≠ tC ∧ e ≠ tN ∧ e ≠ tI) : TcM w' B bp bm vc A T :=
  h.keep hk (hk.ki (fun b' hb' cs' f' g => by simp at hb'; subst hb'; rw [hb] at g; cases g; exact he2.2.2 rfl)) (fun b' hb' => by
    simp at hb'; subst hb'
    refine ⟨fun hm => (h.tag hm).not he cs f hb, fun cs' f' => ⟨fun g => ?_, fun g => ?_, fun g => ?_⟩⟩
    · rw [hb] at g; cases g; exact he2.1 rfl
    · rw [hb] at g; cases g; exact he2.2.1 rfl
    · rw [hb] at g; cases g; exact he.2.2.1 rfl)
/-- One active trace moves. -/
theorem set (h : TcM w B bp bm vc A T) {i : Nat} (hi : i < A.length) {u : Tr} {vo' vh' vg' : Value} (hT : TrM w' B A[i].bt A[i].bm vo' vh' vg' u) (hM : Mv A[i].own (ownT A[i].bt A[i].bm vo' vh' vg') w w') (hid : u.idp = A[i].t.idp) :
    TcM w' B bp bm vc (A.set i ⟨u, A[i].bt, A[i].bm, vo', vh', vg'⟩) (T.setT i u) ∧ Mv (ownTc bp bm vc A) (ownTc bp bm vc (A.set i ⟨u, A[i].bt, A[i].bm, vo', vh', vg'⟩)) w w' := by
  obtain ⟨X, hX, hl, hc⟩ := h.cs
  have hai := List.getElem_mem hi
  have hsub : ∀ b ∈ A[i].own, b ∈ ownTc bp bm vc A := fun b hb => mem_ownTc.2 (.inr (.inr (.inr ⟨_, hai, hb⟩)))
  have hK : Keeps (ownTc bp bm vc A) w w' := hM.k.mono hsub
  have hmem : ∀ a ∈ A.set i ⟨u, A[i].bt, A[i].bm, vo', vh', vg'⟩, (a ∈ A ∧ ∀ c ∈ A[i].own, c ∉ a.own) ∨ a = ⟨u, A[i].bt, A[i].bm, vo', vh', vg'⟩ := fun a ha => by
    obtain ⟨j, hj, e⟩ := List.mem_iff_getElem.1 ha
    rw [List.length_set] at hj
    rw [List.getElem_set] at e
    split at e
    · exact .inr e.symm
    · rename_i hne
      refine .inl ⟨e ▸ List.getElem_mem hj, fun c hc1 hc2 => ?_⟩
      rw [← e] at hc2
      rcases Nat.lt_or_gt_of_ne hne with h1 | h1
      · exact List.pairwise_iff_getElem.1 h.dj i j hi hj h1 c hc1 hc2
      · exact List.pairwise_iff_getElem.1 h.dj j i hj hi h1 c hc2 hc1
  have hown : ∀ b ∈ ownTc bp bm vc (A.set i ⟨u, A[i].bt, A[i].bm, vo', vh', vg'⟩), b ∈ ownTc bp bm vc A ∨ w.heap.size ≤ b := fun b hb => by
    rcases mem_ownTc.1 hb with e | e | e | ⟨a, ha, hb⟩
    · exact .inl (mem_ownTc.2 (.inl e))
    · exact .inl (mem_ownTc.2 (.inr (.inl e)))
    · exact .inl (mem_ownTc.2 (.inr (.inr (.inl e))))
    · rcases hmem a ha with ⟨h1, _⟩ | rfl
      · exact .inl (mem_ownTc.2 (.inr (.inr (.inr ⟨a, h1, hb⟩))))
      · exact (hM.s b hb).imp (hsub b) id
  have hmap : (A.set i ⟨u, A[i].bt, A[i].bm, vo', vh', vg'⟩).map (fun a => (a.t.idp, a.bt)) = A.map (fun a => (a.t.idp, a.bt)) := by
    refine List.ext_getElem (by simp) (fun k h1 h2 => ?_)
    rw [List.getElem_map, List.getElem_map, List.getElem_set]
    split
    · rename_i e; subst e; simp only; rw [hid]
    · rfl
  refine ⟨⟨?_, ?_, ?_, ?_, ?_, ?_, ?_, h.bB⟩, hK, hM.i, hown⟩
  · show _ = T.act.set i u
    rw [List.map_set, h.ac]
  · exact (hM.k.block _ h.lt.1 (fun hm => (h.ob _ hai _ hm).1 rfl)).trans h.blk
  · rw [hmap]
    exact h.mp.kept ktId hM.k (fun hm => (h.ob _ hai _ hm).2.1 rfl)
  · intro a ha
    rcases hmem a ha with ⟨h1, h2⟩ | rfl
    · exact (h.tr a h1).keep hM.k (fun b hb hm => h2 b hm hb) hM.i
    · exact hT
  · rw [List.pairwise_iff_getElem]
    intro j k hj hk hjk c h1 h2
    rw [List.length_set] at hj hk
    rw [List.getElem_set] at h1 h2
    have hlt : ∀ (j : Nat) (hj : j < A.length), ∀ c ∈ A[j].own, c < w.heap.size := fun j hj c hc => ((h.tr _ (List.getElem_mem hj)).own_tag hc).2.1
    split at h1
    · rename_i e1
      subst e1
      rw [if_neg (by omega)] at h2
      rcases hM.s c h1 with h3 | h3
      · exact List.pairwise_iff_getElem.1 h.dj i k hi hk hjk c h3 h2
      · have := hlt k hk c h2; omega
    · split at h2
      · rename_i e1
        subst e1
        rcases hM.s c h2 with h3 | h3
        · exact List.pairwise_iff_getElem.1 h.dj j i hj hi hjk c h1 h3
        · have := hlt j hj c h1; omega
      · exact List.pairwise_iff_getElem.1 h.dj j k hj hk hjk c h1 h2
  · intro a ha c hc1
    rcases hmem a ha with ⟨h1, _⟩ | rfl
    · exact h.ob a h1 c hc1
    · rcases hM.s c hc1 with h3 | h3
      · exact h.ob _ hai c h3
      · have h4 := h.lt
        refine ⟨by omega, by omega, fun e => ?_⟩
        have := hX.lt c e
        omega
  · refine ⟨X, hX.keepS hM.k (fun b hb e => (h.ob _ hai _ hb).2.2 e), hl, fun k x c h1 h2 => ?_⟩
    obtain ⟨g1, g2⟩ := hc k x c h1 h2
    refine ⟨g1.keepS hK hM.i (fun b hb => h.tag hb) (fun b hb => (g2 b hb).2), fun b hb => ⟨Nat.lt_of_lt_of_le (g2 b hb).1 hM.k.size, fun hm => ?_⟩⟩
    rcases hown b hm with h3 | h3
    · exact (g2 b hb).2 h3
    · have := (g2 b hb).1; omega
end TcM
/-! the specification's value -/
structure RtV where
  m : Int
  s : Int
  va : Option Addr × Nat × Nat
  vc : Option Addr × Nat × Nat
def rtV (x : RtV) : Value := .agg #[.int .i64 x.m, .int .i64 x.s, slv x.va, slv x.vc]
/-- It says this tracer, out of blocks that are none of O. -/
structure RtR (O : List Nat) (w : World) (x : RtV) (T : Tc) : Prop where
  m : x.m = T.m
  s : x.s = T.s
  ac : ∃ X, shRf.R w (slv x.va) X ∧ (∀ b, (slv x.va).ownBlock = some b → b < w.heap.size ∧ b ∉ O) ∧ X.length = T.act.length ∧ ∀ (k : Nat) (y : RfV) (t : Tr), X[k]? = some y → T.act[k]? = some t → RfR w y t ∧ ∀ b ∈ blks y, b < w.heap.size ∧ b ∉ O
  cs : ∃ X, shCt.R w (slv x.vc) X ∧ (∀ b, (slv x.vc).ownBlock = some b → b < w.heap.size ∧ b ∉ O) ∧ X.length = T.cs.length ∧ ∀ (k : Nat) (y : CtV) (c : Ct), X[k]? = some y → T.cs[k]? = some c → CtO w y c ∧ ∀ b, (slv y.va).ownBlock = some b → b < w.heap.size ∧ b ∉ O
theorem RtR.keeps {O : List Nat} {w w' : World} {x : RtV} {T : Tc} (h : RtR O w x T) (hk : Keeps [] w w') : RtR O w' x T := by
  obtain ⟨X, h1, h2, h3, h4⟩ := h.ac
  obtain ⟨Y, g1, g2, g3, g4⟩ := h.cs
  have hs := hk.size
  exact ⟨h.m, h.s, ⟨X, h1.keeps hk, fun b hb => ⟨by have := (h2 b hb).1; omega, (h2 b hb).2⟩, h3, fun k y t e1 e2 => ⟨(h4 k y t e1 e2).1.keeps hk, fun b hb => ⟨by have := ((h4 k y t e1 e2).2 b hb).1; omega, ((h4 k y t e1 e2).2 b hb).2⟩⟩⟩,
    ⟨Y, g1.keeps hk, fun b hb => ⟨by have := (g2 b hb).1; omega, (g2 b hb).2⟩, g3, fun k y c e1 e2 => ⟨(g4 k y c e1 e2).1.keeps hk, fun b hb => ⟨by have := ((g4 k y c e1 e2).2 b hb).1; omega, ((g4 k y c e1 e2).2 b hb).2⟩⟩⟩⟩
end Go.Proofs.YtpobepninifenaaGreat

namespace Go.Proofs.YtpobepninifenaaGreat
open Go.RowKit

/-- A tracer's own blocks, as they are after a call that keeps all. -/
theorem TcM.cells {w : World} {B bp bm : Nat} {vc : Value} {A : List AT} {T : Tc} (h : TcM w B bp bm vc A T) : w.cell? ⟨bp, 0, none⟩ = some (.int .i64 T.m) ∧ w.cell? ⟨bp, 1, none⟩ = some (.int .i64 T.s) ∧ w.cell? ⟨bp, 2, none⟩ = some (.map (some bm)) ∧ w.cell? ⟨bp, 3, none⟩ = some vc := by
  have h1 := h.blk
  refine ⟨?_, ?_, ?_, ?_⟩ <;> simp [World.cell?, h1]
set_option maxRecDepth 100000 in
set_option maxHeartbeats 2000000 in
theorem tnew_c (w : World) (m : Int) :
    Calls Tryz.prog 11 #[.int .i64 m] w fun e w' => ∃ bp bm, e = .returned (ptrV bp) ∧ TcM w' w.heap.size bp bm (.slice none 0 0) [] (Tc.new m) ∧ Keeps [] w w' := by
  have hmm := @run_makeMap Tryz.prog
  go_enter Tryz.func11, Tryz.ntmps11
  go_wp2
  go_ret
  have hM := MapS.M.made ktId (vf := ptrV) w
  have hk1 := (Keeps.refl [] w).alloc (.map #[] 0)
  obtain ⟨w1, hw1⟩ : ∃ w1, w.alloc (.map #[] 0) = w1 := ⟨_, rfl⟩
  have hz1 : w1.heap.size = w.heap.size + 1 := by rw [← hw1]; simp
  rw [hw1] at hM hk1 ⊢
  rw [← hz1]
  have hk2 := (Keeps.refl [] w1).alloc (.cells #[.int .i64 m, .int .i64 0, .map (some w.heap.size), .slice none 0 0] tTc)
  exact ⟨w1.heap.size, w.heap.size, rfl, ⟨rfl, heap_alloc_new w1 _, hM.keeps ktId hk2, by simp, by simp, by simp, ⟨[], Sh.O.nil _ _ _ _, rfl, by simp⟩, by omega⟩, hk1.trans hk2⟩
set_option maxRecDepth 100000 in
set_option maxHeartbeats 1000000 in
theorem started_c (w : World) (B bp bm : Nat) (vc : Value) (A : List AT) (T : Tc) (h : TcM w B bp bm vc A T) :
    Calls Tryz.prog 18 #[ptrV bp] w fun e w' => e = .returned (.int .i64 T.s) ∧ w = w' := by
  obtain ⟨c0, c1, c2, c3⟩ := h.cells
  clear h
  unfold ptrV
  go_enter Tryz.func18, Tryz.ntmps18
  go_wp2
  go_ret
  exact ⟨rfl, rfl⟩
theorem zeroTp (w : World) : (zeroValue 49).run Tryz.prog w = .ok (.pointer none) w := by kernel_rfl
theorem TcM.get {w : World} {B bp bm : Nat} {vc : Value} {A : List AT} {T : Tc} {n k : Nat} (h : TcM w B bp bm vc A T) (ho : T.Ok n k) (id : Idp) :
    (∃ i, ∃ hi : i < A.length, T.find id = some i ∧ A[i].t.idp = id ∧ MapS.get id (A.map (fun a => (a.t.idp, a.bt))) = some A[i].bt) ∨ (T.find id = none ∧ MapS.get id (A.map (fun a => (a.t.idp, a.bt))) = none) := by
  have hl := h.len
  have hnd : MapS.ND (A.map (fun a => (a.t.idp, a.bt))) := by obtain ⟨_, h2, _⟩ := h.mp; exact h2
  have hat : ∀ (i : Nat) (hi : i < A.length), T.act[i]'(by omega) = A[i].t := fun i hi => by simp [← h.ac]
  cases hf : T.find id with
  | none =>
    refine .inr ⟨rfl, MapS.get_none.2 (fun p hp e => ?_)⟩
    obtain ⟨a, ha, rfl⟩ := List.mem_map.1 hp
    exact Tc.find_none hf a.t (by rw [← h.ac]; exact List.mem_map.2 ⟨a, ha, rfl⟩) e
  | some i =>
    obtain ⟨hi, e⟩ := Tc.find_some hf
    have hiA : i < A.length := by omega
    refine .inl ⟨i, hiA, rfl, by rw [← hat i hiA]; exact e, ?_⟩
    refine MapS.get_of_mem hnd (List.mem_map.2 ⟨A[i], List.getElem_mem hiA, ?_⟩)
    rw [← hat i hiA, e]
set_option maxRecDepth 100000 in
set_option maxHeartbeats 2000000 in
theorem find_c (w : World) (B bp bm : Nat) (vc : Value) (A : List AT) (T : Tc) (n k : Nat) (h : TcM w B bp bm vc A T) (ho : T.Ok n k) (id : Idp) (hid : ipOk id) :
    Calls Tryz.prog 16 #[ptrV bp, ipV id] w fun e w' => ((∃ i, ∃ hi : i < A.length, T.find id = some i ∧ A[i].t.idp = id ∧ e = .returned (.tuple #[ptrV A[i].bt, .bool true])) ∨ (T.find id = none ∧ e = .returned (.tuple #[.pointer none, .bool false]))) ∧ Keeps [] w w' := by
  obtain ⟨i0, i1⟩ := id
  have hg := h.get ho (i0, i1)
  have hkA := (Keeps.refl [] w).alloc (.cells #[.int .i64 i0, .int .i64 i1] tId)
  have hbA := heap_alloc_new w (.cells #[.int .i64 i0, .int .i64 i1] tId)
  have hT := h.keeps hkA
  obtain ⟨c0, c1, c2, c3⟩ := hT.cells
  have hM := hT.mp
  replace hbA := Lib.hid hbA
  replace hkA := Lib.hid hkA
  replace hM := Lib.hid hM
  replace hg := Lib.hid hg
  clear h hT
  unfold ptrV ipV
  go_enter Tryz.func16, Tryz.ntmps16
  go_upto_region 1 with fail
  generalize (w.alloc (.cells #[.int .i64 i0, .int .i64 i1] tId)) = W at *
  obtain ⟨X, hX⟩ : ∃ X, w.heap.size = X := ⟨_, rfl⟩
  rw [hX] at hbA ⊢
  replace hX := Lib.hid hX
  obtain ⟨p0, p1, pf, pl⟩ := cl2 hbA.out
  have hlk := MapS.M.look_ok ktId (k := (i0, i1)) Tryz.underlying78 (.pointer none) zeroTp (hM.out.keeps ktId (Keeps.refl [] W).drew) hid
  simp only [ktId] at hlk
  have hkd := Lib.hid (hkA.out.trans (Keeps.refl [] W).drew)
  rcases hg.out with ⟨i, hi, h1, h2, h3⟩ | ⟨h1, h3⟩
  · rw [h3] at hlk
    simp only [Option.map_some, Option.getD_some, Option.isSome_some, ptrV] at hlk
    obtain ⟨b9, hb9⟩ : ∃ b, A[i].bt = b := ⟨_, rfl⟩
    rw [hb9] at hlk
    replace h1 := Lib.hid h1
    replace h2 := Lib.hid h2
    replace hb9 := Lib.hid hb9
    clear h3
    refine Free.wp_region_chain (fun i => i == 5) (fun i => true) (fun _ _ => False) (by kernel_rfl) (by kernel_rfl) (by kernel_rfl) ?_
    (repeat (first | (apply Free.cw_pure rfl rfl; (intro w'; go_simp <;> exact rfl); go_frame) | (apply Free.cw_steady rfl rfl rfl; (intro w' hS; have q0 := Free.sx_cell hS c2 (fun _ _ hT => hT); have q1 := Free.sx_cell hS p0 (fun _ _ hT => hT); have q2 := Free.sx_cell hS p1 (fun _ _ hT => hT); go_simp <;> exact rfl); go_frame) | (refine Free.cw_skip rfl ?_; go_frame)))
    refine Free.cw_loud rfl rfl (fun K hK => ?_)
    go_wp2
    refine hK _ _ rfl (Free.KeepsP.refl _ _) ?_
    clear hK K hlk
    (repeat (first | (apply Free.cw_pure rfl rfl; (intro w'; go_simp <;> exact rfl); go_frame) | (apply Free.cw_steady rfl rfl rfl; (intro w' hS; have q0 := Free.sx_cell hS c2 (fun _ _ hT => hT); have q1 := Free.sx_cell hS p0 (fun _ _ hT => hT); have q2 := Free.sx_cell hS p1 (fun _ _ hT => hT); go_simp <;> exact rfl); go_frame) | (refine Free.cw_skip rfl ?_; go_frame)))
    refine Free.cw_nil ?_
    go_wp2
    go_ret2
    exact ⟨.inl ⟨i, hi, h1.out, h2.out, by rw [← hb9.out]; rfl⟩, hkd.out⟩
  · rw [h3] at hlk
    simp only [Option.map_none, Option.getD_none, Option.isSome_none] at hlk
    replace h1 := Lib.hid h1
    clear h3
    refine Free.wp_region_chain (fun i => i == 5) (fun i => true) (fun _ _ => False) (by kernel_rfl) (by kernel_rfl) (by kernel_rfl) ?_
    (repeat (first | (apply Free.cw_pure rfl rfl; (intro w'; go_simp <;> exact rfl); go_frame) | (apply Free.cw_steady rfl rfl rfl; (intro w' hS; have q0 := Free.sx_cell hS c2 (fun _ _ hT => hT); have q1 := Free.sx_cell hS p0 (fun _ _ hT => hT); have q2 := Free.sx_cell hS p1 (fun _ _ hT => hT); go_simp <;> exact rfl); go_frame) | (refine Free.cw_skip rfl ?_; go_frame)))
    refine Free.cw_loud rfl rfl (fun K hK => ?_)
    go_wp2
    refine hK _ _ rfl (Free.KeepsP.refl _ _) ?_
    clear hK K hlk
    (repeat (first | (apply Free.cw_pure rfl rfl; (intro w'; go_simp <;> exact rfl); go_frame) | (apply Free.cw_steady rfl rfl rfl; (intro w' hS; have q0 := Free.sx_cell hS c2 (fun _ _ hT => hT); have q1 := Free.sx_cell hS p0 (fun _ _ hT => hT); have q2 := Free.sx_cell hS p1 (fun _ _ hT => hT); go_simp <;> exact rfl); go_frame) | (refine Free.cw_skip rfl ?_; go_frame)))
    refine Free.cw_nil ?_
    go_wp2
    go_ret2
    exact ⟨.inr ⟨h1.out, rfl⟩, hkd.out⟩
set_option maxRecDepth 100000 in
set_option maxHeartbeats 2000000 in
theorem begins_c (w : World) (B bp bm : Nat) (vc : Value) (A : List AT) (T : Tc) (h : TcM w B bp bm vc A T) (st : T3) (hl : A.length ≤ 100000) :
    Calls Tryz.prog 50 #[ptrV bp, tV st] w fun e w' => e = .returned (.bool (T.begins st)) ∧ Keeps [] w w' := by
  obtain ⟨s0, s1, s2⟩ := st
  have hbe : T.begins (s0, s1, s2) = A.any (fun a => decide (a.t.st = (s0, s1, s2))) := by unfold Tc.begins; rw [← h.ac, List.any_map]; rfl
  have hkA := (Keeps.refl [] w).alloc (.cells #[.int .i64 s0, .int .u64 s1, .int .i64 s2] tN)
  have hbA := heap_alloc_new w (.cells #[.int .i64 s0, .int .u64 s1, .int .i64 s2] tN)
  have hT := h.keeps hkA
  obtain ⟨c0, c1, c2, c3⟩ := hT.cells
  have hM := hT.mp
  rw [hbe]
  replace hbA := Lib.hid hbA
  replace hkA := Lib.hid hkA
  replace hM := Lib.hid hM
  replace hT := Lib.hid hT
  clear h hbe
  unfold ptrV
  go_enter Tryz.func50, Tryz.ntmps50
  go_upto_region 1 with fail
  generalize (w.alloc (.cells #[.int .i64 s0, .int .u64 s1, .int .i64 s2] tN)) = W at *
  obtain ⟨X, hX⟩ : ∃ X, w.heap.size = X := ⟨_, rfl⟩
  rw [hX] at hbA ⊢
  replace hX := Lib.hid hX
  go_wp2_with (at_range; refine MapS.wpl_range ktId rfl _ rfl Tryz.underlying78 rfl hM.out ?_; intro w1 hrg1 hg1 hs1)
  have hk1 : Keeps [] W w1 := (Keeps.refl [] W).grown hg1 (by simp)
  obtain ⟨r, hr⟩ : ∃ r, W.heap.size = r := ⟨_, rfl⟩
  rw [hr] at hrg1 ⊢
  have hXr : X < r := by rw [← hr]; exact lt_of_blk hbA.out
  replace hrg1 := Lib.hid hrg1
  replace hk1 := Lib.hid hk1
  replace hr := Lib.hid hr
  clear hg1 hs1 hM c0 c1 c2 c3
  try go_frame
  go_loopg [6] A.length (fun n _ wr => ∃ (rs : List (Idp × Nat)), n = rs.length ∧ Hid (MapS.Rg ktId ptrV wr bm r (A.map (fun a => (a.t.idp, a.bt))) rs) ∧ Hid (∀ a ∈ A, (a.t.idp, a.bt) ∈ rs ∨ a.t.st ≠ (s0, s1, s2)) ∧ Hid (Keeps [] W wr))
  case atStart => exact ⟨A.map (fun a => (a.t.idp, a.bt)), by rw [List.length_map], hrg1, Lib.hid (fun a ha => .inl (List.mem_map.2 ⟨a, ha, rfl⟩)), hk1⟩
  case round =>
    obtain ⟨rs, rfl, hrg, hall, hkw⟩ := hrel
    go_wp2_with (at_next; refine MapS.wpl_next ktId rfl _ rfl rfl hrg.out ?_ ?_)
    case _ =>
      intro hrs
      subst hrs
      have hno : A.any (fun a => decide (a.t.st = (s0, s1, s2))) = false := by
        rw [List.any_eq_false]
        intro a ha
        rcases hall.out a ha with h1 | h1
        · simp at h1
        · simp [h1]
      replace hno := Lib.hid hno
      clear hall hrg
      go_wp2
      go_ret
      exact ⟨by rw [hno.out]; rfl, hkA.out.trans hkw.out⟩
    case _ =>
      intro x0 x1 u R' w2 hok hgu hum hperm hrg2 hg2 hs2 hen
      obtain ⟨a, ha, e⟩ := List.mem_map.1 (hrg.out.sub _ hum)
      simp only [Prod.mk.injEq] at e
      obtain ⟨⟨e1, e2⟩, e3⟩ := e
      subst e3
      have hk2 : Keeps [] W w2 := hkw.out.grown hg2 (fun k e => by simp at e; subst e; exact .inl (by have := hr.out; omega))
      have hTa := (hT.out.keeps hk2).tr a ha
      have hbX := (hk2.block _ (lt_of_blk hbA.out) (by simp)).trans hbA.out
      obtain ⟨z0, z1, z2, zf, zl⟩ := cl3 hbX
      have hq := fun w => eqN w a.t.st (s0, s1, s2)
      have hall2 : a.t.st ≠ (s0, s1, s2) → ∀ b ∈ A, (b.t.idp, b.bt) ∈ R' ∨ b.t.st ≠ (s0, s1, s2) := fun hne b hb => by
        rcases hall.out b hb with h1 | h1
        · rcases List.mem_cons.1 (hperm.mem_iff.1 h1) with h2 | h2
          · refine .inr ?_
            simp only [Prod.mk.injEq] at h2
            have hTb := ((hT.out.keeps hk2).tr b hb).blk
            rw [h2.2, hTa.blk] at hTb
            simp only [Option.some.injEq, Obj.cells.injEq, Array.mk.injEq, List.cons.injEq, Value.int.injEq, true_and, and_true] at hTb
            have e5 : b.t.st = a.t.st := by
              obtain ⟨_, _, g0, g1, g2, _⟩ := hTb
              refine Prod.ext g0.symm (Prod.ext ?_ g2.symm)
              omega
            rw [e5]; exact hne
          · exact .inl h2
        · exact .inr h1
      have hlenR : R'.length < rs.length := by have := hperm.length_eq; simp at this; omega
      have hany : a.t.st = (s0, s1, s2) → A.any (fun a => decide (a.t.st = (s0, s1, s2))) = true := fun e => List.any_eq_true.2 ⟨a, ha, by simp [e]⟩
      obtain ⟨⟨a0, a1, a2⟩, hast⟩ : ∃ s, a.t.st = s := ⟨_, rfl⟩
      have hcs := fun (W' : World) (hk : Keeps [] w2 W') => start_c W' B a.bt a.bm a.vo a.vh a.vg a.t (hTa.keeps hk)
      rw [hast] at hq hall2 hany
      simp only [hast, tV] at hcs
      simp only [tV, ktId, ptrV] at hq hen ⊢
      replace hcs := Lib.hid hcs
      replace hall2 := Lib.hid hall2
      replace hany := Lib.hid hany
      replace hrg2 := Lib.hid hrg2
      replace hk2 := Lib.hid hk2
      obtain ⟨b9, hb9⟩ : ∃ b, a.bt = b := ⟨_, rfl⟩
      rw [hb9] at hen hcs ⊢
      clear hTa hbX hum hgu hperm hg2 hs2 hall hrg hkw hast hok e1 e2
      go_upto_region 4 with fail
      refine Free.wp_region_chain (fun i => i == 1) (fun i => true) (fun _ _ => False) (by kernel_rfl) (by kernel_rfl) (by kernel_rfl) ?_
      (repeat (first | (apply Free.cw_pure rfl rfl; (intro w'; go_simp <;> exact rfl); go_frame) | (apply Free.cw_steady rfl rfl rfl; (intro w' hS; have q0 := Free.sx_cell hS z0 (fun _ _ hT => hT); have q1 := Free.sx_cell hS z1 (fun _ _ hT => hT); have q2 := Free.sx_cell hS z2 (fun _ _ hT => hT); go_simp <;> exact rfl); go_frame) | (refine Free.cw_skip rfl ?_; go_frame)))
      refine Free.cw_loud rfl rfl (fun K hK => ?_)
      go_wp2_with fail
      refine (hcs.out w2.drew (Keeps.refl [] w2).drew).mono ?_
      rintro e w3 ⟨rfl, hk3⟩
      refine hK _ _ rfl (Free.KeepsP.of hk3 (by simp)) ?_
      clear hK K hcs
      have hk4 := Lib.hid ((Keeps.refl [] w2).drew.trans hk3)
      clear hk3
      by_cases hs : (a0, a1, a2) = (s0, s1, s2)
      · rw [decide_eq_true hs] at hq
        replace hs := Lib.hid hs
        (repeat (first | (apply Free.cw_pure rfl rfl; (intro w'; go_simp <;> exact rfl); go_frame) | (apply Free.cw_steady rfl rfl rfl; (intro w' hS; have q0 := Free.sx_cell hS z0 (fun _ _ hT => hT); have q1 := Free.sx_cell hS z1 (fun _ _ hT => hT); have q2 := Free.sx_cell hS z2 (fun _ _ hT => hT); go_simp <;> exact rfl); go_frame) | (refine Free.cw_skip rfl ?_; go_frame)))
        refine Free.cw_nil ?_
        clear z0 z1 z2 zf zl hq hen
        go_wp2
        go_ret
        exact ⟨by rw [hany.out hs.out]; rfl, (hkA.out.trans hk2.out).trans hk4.out⟩
      · rw [decide_eq_false hs] at hq
        replace hs := Lib.hid hs
        (repeat (first | (apply Free.cw_pure rfl rfl; (intro w'; go_simp <;> exact rfl); go_frame) | (apply Free.cw_steady rfl rfl rfl; (intro w' hS; have q0 := Free.sx_cell hS z0 (fun _ _ hT => hT); have q1 := Free.sx_cell hS z1 (fun _ _ hT => hT); have q2 := Free.sx_cell hS z2 (fun _ _ hT => hT); go_simp <;> exact rfl); go_frame) | (refine Free.cw_skip rfl ?_; go_frame)))
        refine Free.cw_nil ?_
        clear z0 z1 z2 zf zl hq hen
        go_wp2
        go_roundg R'.length
        case measure => exact hlenR
        case rel => exact ⟨R', rfl, Lib.hid (hrg2.out.keeps hk4.out), Lib.hid (hall2.out hs.out), Lib.hid (hk2.out.trans hk4.out)⟩
end Go.Proofs.YtpobepninifenaaGreat
