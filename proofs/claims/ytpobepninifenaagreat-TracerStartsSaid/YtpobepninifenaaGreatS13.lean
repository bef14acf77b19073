/- Texts that the laws lean on, in the order in which they build. The specification's Answer. Trace.Agree. -/
import Derived.Test.YtpobepninifenaaGreatS12
set_option linter.unusedVariables false
set_option linter.unusedSimpArgs false
namespace Go.Proofs.YtpobepninifenaaGreat
open Go.RowKit

theorem Fsh.hist {w w' W : World} {x x' : RfV} {B : Nat} {X : List AnV} (h1 : x'.vo = x.vo) (h2 : x'.va = x.va) (h3 : x'.vg = x.vg) (hO : shA.O W B tA (slv x'.vh) X) (hB : w.heap.size ≤ B) (hs : W.heap.size ≤ w'.heap.size) : Fsh w w' x x' := fun b hb => by
  rcases mem_blks.1 hb with e | e | e | e
  · exact .inl (mem_blks.2 (.inl (h1 ▸ e)))
  · exact .inl (mem_blks.2 (.inr (.inl (h2 ▸ e))))
  · exact .inl (mem_blks.2 (.inr (.inr (.inl (h3 ▸ e)))))
  · exact .inr ⟨Nat.le_trans hB (hO.ge b e), Nat.lt_of_lt_of_le (hO.lt b e) hs⟩
theorem MidS.fsh {w wr : World} {a : Ans} {B : Nat} {p6 p7 p8 : Option Addr × Nat × Nat} {vI : Value} {L6 : List T3} {L7 L8 : List AnV} (m : MidS w wr a B (slv p6) (slv p7) (slv p8) vI L6 L7 L8) (x : RfV) (n : Int) : Fsh w wr x ⟨x.im, x.is, x.s0, x.s1, x.s2, n, p6, p7, x.told, x.vg, x.rf, p8⟩ := fun b hb => by
  rcases mem_blks.1 hb with e | e | e | e
  · exact .inr ⟨m.o6.ge b e, m.o6.lt b e⟩
  · exact .inr ⟨Nat.le_trans m.lB (m.o7.ge b e), m.o7.lt b e⟩
  · exact .inl (mem_blks.2 (.inr (.inr (.inl e))))
  · exact .inr ⟨m.o8.ge b e, m.o8.lt b e⟩
theorem Tr.answerR_fin {t : Tr} {a : Ans} (hs : t.state = 0) (ho : isOpen a.q t.qs ≠ false) (hk : a.kn = true) (hr : a.rt = false) (hodd : (t.rec'.any fun p => Ans.odd a.m a.ep p.2) = false) (i : Nat) (hi : i = a.ins.length) :
    t.answerR a = ({ t.mid a i with state := if allQ (t.mid a i).qs then 1 else 0 }, 0) := by
  subst hi
  have h0 : (t.mid a a.ins.length).state = 0 := (Tr.mid_take t a _).2.1.trans hs
  unfold Tr.answerR
  rw [if_neg (by simp [hs]), if_neg ho, if_neg (by simp [hk]), if_neg (by simp [hr]), if_neg (by simp [hodd]), ← Tr.mid_all]
  unfold Tr.close
  by_cases hq : allQ (t.mid a a.ins.length).qs = true
  · rw [if_pos hq, if_pos hq]
  · rw [if_neg hq, if_neg hq]
    generalize t.mid a a.ins.length = u at h0 ⊢
    cases u
    simp only at h0
    subst h0
    rfl
set_option maxRecDepth 100000 in
set_option maxHeartbeats 20000000 in
theorem answerR_c (w : World) (x : RfV) (t : Tr) (y : AnV) (a : Ans) (h : RfR w x t) (hy : InR w y a) (hi : t.Inv) (hl : t.qs.length + a.ins.length ≤ 1000) (hlh : t.hist.length ≤ 1000) :
    Calls Tryz.prog 32 #[rfV x, aV y] w (RPost w x (t.answerR a)) := by
  have hix := fun (W : World) (hk : Keeps [] w W) => indexR_c W x t a.q (h.keeps hk)
  have hans := fun (W : World) (hk : Keeps [] w W) (k : Nat) (hkq : k < t.qs.length) => answeredR_c W x t k (h.keeps hk) hi.rk hkq
  have hst := h.st
  obtain ⟨x0, x1, x2, x3, x4, x5, ⟨x6, x7, x8⟩, ⟨x9, x10, x11⟩, x12, ⟨x13, x14, x15⟩, x16, ⟨x17, x18, x19⟩⟩ := x
  obtain ⟨y0, y1, y2, y3, y4, y5, y6, y7, y8, y9⟩ := y
  obtain ⟨i1, i2, i3, i4, i5, i6, i7, hI⟩ := hy
  simp only [AnV.v] at i1 i2 i3 i4 i5 i6 i7 hI
  subst i1 i2 i3 i4 i5 i6 i7
  simp only [slv, rfV] at hst hix hans ⊢
  simp only [aV, AnV.v, tV, ndq, Ans.q] at hix ⊢
  obtain ⟨W, hW⟩ : ∃ W, ((w.alloc (.cells #[.int .i64 x0, .int .i64 x1, .int .i64 x2, .int .u64 x3, .int .i64 x4, .int .i64 x5, .slice x6 x7 x8, .slice x9 x10 x11, .int .i64 x12, .slice x13 x14 x15, .bool x16, .slice x17 x18 x19] tR)).alloc (.cells #[.int .i64 a.m, .int .i64 a.ow, .int .u64 a.n, .int .i64 a.ep, .bool a.kn, .bool a.rt, .int .i64 a.lu, .slice y7 y8 y9] tA)).alloc (.cells #[.int .i64 0, .int .i64 0, .int .i64 0, .int .u64 0, .int .i64 0, .int .i64 0, .slice none 0 0, .slice none 0 0, .int .i64 0, .slice none 0 0, .bool false, .slice none 0 0] tR) = W := ⟨_, rfl⟩
  have hkA : Keeps [] w W := by rw [← hW]; exact (((Keeps.refl _ _).alloc _).alloc _).alloc _
  have hWz : W.heap.size = w.heap.size + 1 + 1 + 1 := by rw [← hW]; simp
  have hb2 : W.heap[w.heap.size + 1 + 1]? = some (.cells #[.int .i64 0, .int .i64 0, .int .i64 0, .int .u64 0, .int .i64 0, .int .i64 0, .slice none 0 0, .slice none 0 0, .int .i64 0, .slice none 0 0, .bool false, .slice none 0 0] tR) := by rw [← hW]; have := heap_alloc_new ((w.alloc (.cells #[.int .i64 x0, .int .i64 x1, .int .i64 x2, .int .u64 x3, .int .i64 x4, .int .i64 x5, .slice x6 x7 x8, .slice x9 x10 x11, .int .i64 x12, .slice x13 x14 x15, .bool x16, .slice x17 x18 x19] tR)).alloc (.cells #[.int .i64 a.m, .int .i64 a.ow, .int .u64 a.n, .int .i64 a.ep, .bool a.kn, .bool a.rt, .int .i64 a.lu, .slice y7 y8 y9] tA)) (.cells #[.int .i64 0, .int .i64 0, .int .i64 0, .int .u64 0, .int .i64 0, .int .i64 0, .slice none 0 0, .slice none 0 0, .int .i64 0, .slice none 0 0, .bool false, .slice none 0 0] tR); simpa using this
  have hb1 : W.heap[w.heap.size + 1]? = some (.cells #[.int .i64 a.m, .int .i64 a.ow, .int .u64 a.n, .int .i64 a.ep, .bool a.kn, .bool a.rt, .int .i64 a.lu, .slice y7 y8 y9] tA) := by
    rw [← hW]
    have h1 := heap_alloc_new (w.alloc (.cells #[.int .i64 x0, .int .i64 x1, .int .i64 x2, .int .u64 x3, .int .i64 x4, .int .i64 x5, .slice x6 x7 x8, .slice x9 x10 x11, .int .i64 x12, .slice x13 x14 x15, .bool x16, .slice x17 x18 x19] tR)) (.cells #[.int .i64 a.m, .int .i64 a.ow, .int .u64 a.n, .int .i64 a.ep, .bool a.kn, .bool a.rt, .int .i64 a.lu, .slice y7 y8 y9] tA)
    rw [show (w.alloc (.cells #[.int .i64 x0, .int .i64 x1, .int .i64 x2, .int .u64 x3, .int .i64 x4, .int .i64 x5, .slice x6 x7 x8, .slice x9 x10 x11, .int .i64 x12, .slice x13 x14 x15, .bool x16, .slice x17 x18 x19] tR)).heap.size = w.heap.size + 1 by simp] at h1
    exact (((Keeps.refl [] ((w.alloc (.cells #[.int .i64 x0, .int .i64 x1, .int .i64 x2, .int .u64 x3, .int .i64 x4, .int .i64 x5, .slice x6 x7 x8, .slice x9 x10 x11, .int .i64 x12, .slice x13 x14 x15, .bool x16, .slice x17 x18 x19] tR)).alloc (.cells #[.int .i64 a.m, .int .i64 a.ow, .int .u64 a.n, .int .i64 a.ep, .bool a.kn, .bool a.rt, .int .i64 a.lu, .slice y7 y8 y9] tA))).alloc (.cells #[.int .i64 0, .int .i64 0, .int .i64 0, .int .u64 0, .int .i64 0, .int .i64 0, .slice none 0 0, .slice none 0 0, .int .i64 0, .slice none 0 0, .bool false, .slice none 0 0] tR)).block _ (lt_of_blk h1) (by simp)).trans h1
  have hb0 : W.heap[w.heap.size]? = some (.cells #[.int .i64 x0, .int .i64 x1, .int .i64 x2, .int .u64 x3, .int .i64 x4, .int .i64 x5, .slice x6 x7 x8, .slice x9 x10 x11, .int .i64 x12, .slice x13 x14 x15, .bool x16, .slice x17 x18 x19] tR) := by
    rw [← hW]
    have h1 := heap_alloc_new w (.cells #[.int .i64 x0, .int .i64 x1, .int .i64 x2, .int .u64 x3, .int .i64 x4, .int .i64 x5, .slice x6 x7 x8, .slice x9 x10 x11, .int .i64 x12, .slice x13 x14 x15, .bool x16, .slice x17 x18 x19] tR)
    exact ((((Keeps.refl [] (w.alloc (.cells #[.int .i64 x0, .int .i64 x1, .int .i64 x2, .int .u64 x3, .int .i64 x4, .int .i64 x5, .slice x6 x7 x8, .slice x9 x10 x11, .int .i64 x12, .slice x13 x14 x15, .bool x16, .slice x17 x18 x19] tR))).alloc (.cells #[.int .i64 a.m, .int .i64 a.ow, .int .u64 a.n, .int .i64 a.ep, .bool a.kn, .bool a.rt, .int .i64 a.lu, .slice y7 y8 y9] tA)).alloc (.cells #[.int .i64 0, .int .i64 0, .int .i64 0, .int .u64 0, .int .i64 0, .int .i64 0, .slice none 0 0, .slice none 0 0, .int .i64 0, .slice none 0 0, .bool false, .slice none 0 0] tR)).block _ (lt_of_blk h1) (by simp)).trans h1
  replace hW := Lib.hid hW
  replace hkA := Lib.hid hkA
  replace hix := Lib.hid hix
  replace hans := Lib.hid hans
  replace hWz := Lib.hid hWz
  replace hb1 := Lib.hid hb1
  replace hb0 := Lib.hid hb0
  replace hb2 := Lib.hid hb2
  replace h := Lib.hid h
  replace hi := Lib.hid hi
  replace hI := Lib.hid hI
  replace hl := Lib.hid hl
  replace hlh := Lib.hid hlh
  by_cases hs : t.state = 0
  case neg =>
    have hr : t.answerR a = (t, 9) := by unfold Tr.answerR; rw [if_pos hs]
    have hmb : (x5 != 0) = true := by rw [hst]; simpa using hs
    replace hr := Lib.hid hr
    replace hst := Lib.hid hst
    replace hs := Lib.hid hs
    go_enter Tryz.func32, Tryz.ntmps32
    go_wp2
    have hkf : Keeps [] w (((w.alloc (.cells #[.int .i64 x0, .int .i64 x1, .int .i64 x2, .int .u64 x3, .int .i64 x4, .int .i64 x5, .slice x6 x7 x8, .slice x9 x10 x11, .int .i64 x12, .slice x13 x14 x15, .bool x16, .slice x17 x18 x19] tR)).alloc (.cells #[.int .i64 a.m, .int .i64 a.ow, .int .u64 a.n, .int .i64 a.ep, .bool a.kn, .bool a.rt, .int .i64 a.lu, .slice y7 y8 y9] tA)).alloc (.cells #[.int .i64 x0, .int .i64 x1, .int .i64 x2, .int .u64 x3, .int .i64 x4, .int .i64 x5, .slice x6 x7 x8, .slice x9 x10 x11, .int .i64 x12, .slice x13 x14 x15, .bool x16, .slice x17 x18 x19] tR)) := (((Keeps.refl _ _).alloc _).alloc _).alloc _
    have u1 := heap_alloc_new ((w.alloc (.cells #[.int .i64 x0, .int .i64 x1, .int .i64 x2, .int .u64 x3, .int .i64 x4, .int .i64 x5, .slice x6 x7 x8, .slice x9 x10 x11, .int .i64 x12, .slice x13 x14 x15, .bool x16, .slice x17 x18 x19] tR)).alloc (.cells #[.int .i64 a.m, .int .i64 a.ow, .int .u64 a.n, .int .i64 a.ep, .bool a.kn, .bool a.rt, .int .i64 a.lu, .slice y7 y8 y9] tA)) (.cells #[.int .i64 x0, .int .i64 x1, .int .i64 x2, .int .u64 x3, .int .i64 x4, .int .i64 x5, .slice x6 x7 x8, .slice x9 x10 x11, .int .i64 x12, .slice x13 x14 x15, .bool x16, .slice x17 x18 x19] tR)
    rw [show ((w.alloc (.cells #[.int .i64 x0, .int .i64 x1, .int .i64 x2, .int .u64 x3, .int .i64 x4, .int .i64 x5, .slice x6 x7 x8, .slice x9 x10 x11, .int .i64 x12, .slice x13 x14 x15, .bool x16, .slice x17 x18 x19] tR)).alloc (.cells #[.int .i64 a.m, .int .i64 a.ow, .int .u64 a.n, .int .i64 a.ep, .bool a.kn, .bool a.rt, .int .i64 a.lu, .slice y7 y8 y9] tA)).heap.size = w.heap.size + 1 + 1 by simp] at u1
    refine bodyPost_ret (results_rf rfl _ _ _ _ _ _ _ _ _ _ _ _ _ _ _ _ _ rfl u1) ?_ ?_
    · rfl
    · exact RPost.same (x := ⟨x0, x1, x2, x3, x4, x5, (x6, x7, x8), (x9, x10, x11), x12, (x13, x14, x15), x16, (x17, x18, x19)⟩) hr.out (h.out.keeps hkf) hkf
  case pos =>
    have hx5 : x5 = 0 := hst.trans hs
    subst hx5
    replace hst := Lib.hid hst
    go_enter Tryz.func32, Tryz.ntmps32
    go_wp2_with fail
    rw [hW.out]
    refine (hix.out _ hkA.out).mono ?_
    rintro e w1 ⟨ix, rfl, hixp, hk1⟩
    have hkw1 := hkA.out.trans hk1
    have hc0 := (hk1.block _ (lt_of_blk hb0.out) (by simp)).trans hb0.out
    have hc1 := (hk1.block _ (lt_of_blk hb1.out) (by simp)).trans hb1.out
    have hc2 := (hk1.block _ (lt_of_blk hb2.out) (by simp)).trans hb2.out
    have hs1 : w.heap.size + 1 + 1 + 1 ≤ w1.heap.size := by rw [← hWz.out]; exact hk1.size
    clear hb0 hb1 hb2 hk1 hix hkA hWz hW
    clear W
    obtain ⟨z0, z1, z2, z3, z4, z5, z6, z7, z8, z9, z10, z11, zf, zl⟩ := cells12 hc0
    obtain ⟨k0, k1, k2, k3, k4, k5, k6, k7, kf, kl⟩ := cells8f hc1
    obtain ⟨q0, q1, q2, q3, q4, q5, q6, q7, q8, q9, q10, q11, qf, ql⟩ := cells12 hc2
    replace hkw1 := Lib.hid hkw1
    replace hc0 := Lib.hid hc0
    replace hc1 := Lib.hid hc1
    replace hc2 := Lib.hid hc2
    rcases hixp with ⟨k, hk, rfl, hqk⟩ | ⟨rfl, hno⟩
    case inr =>
      have hr : t.answerR a = (t, 6) := by unfold Tr.answerR; rw [if_neg (by simp [hs]), if_pos (show isOpen a.q t.qs = false from isOpen_not hno)]
      replace hr := Lib.hid hr
      replace hs := Lib.hid hs
      replace hno := Lib.hid hno
      go_wp2
      obtain ⟨u1, u2⟩ := st12 (x0 := .int .i64 x0) (x1 := .int .i64 x1) (x2 := .int .i64 x2) (x3 := .int .u64 x3) (x4 := .int .i64 x4) (x5 := .int .i64 0) (x6 := .slice x6 x7 x8) (x7 := .slice x9 x10 x11) (x8 := .int .i64 x12) (x9 := .slice x13 x14 x15) (x10 := .bool x16) (x11 := .slice x17 x18 x19) hc2.out
      have hkf := hkw1.out.fresh u2 (fun b hb => by simp at hb; subst hb; exact .inr (by omega))
      refine bodyPost_ret (results_rf rfl _ _ _ _ _ _ _ _ _ _ _ _ _ _ _ _ _ rfl u1) ?_ ?_
      · rfl
      · exact RPost.same (x := ⟨x0, x1, x2, x3, x4, 0, (x6, x7, x8), (x9, x10, x11), x12, (x13, x14, x15), x16, (x17, x18, x19)⟩) hr.out (h.out.keeps hkf) hkf
    case inl =>
      have hop := isOpen_at hi.out hk hqk
      rw [show (a.m, a.ow, a.n) = a.q from rfl] at hop
      have hac := hans.out w1 hkw1.out k hk
      obtain ⟨ib, hib⟩ : ∃ b, t.qs[k].2.isSome = b := ⟨_, rfl⟩
      rw [hib] at hop hac
      replace hac := Lib.hid hac
      replace hib := Lib.hid hib
      have hkn : ¬ ((k : Int) < 0) := by omega
      replace hs := Lib.hid hs
      replace hqk := Lib.hid hqk
      go_wp2_with fail
      refine hac.out.mono ?_
      rintro e w2 ⟨rfl, hk2⟩
      have hd0 := (hk2.block _ (lt_of_blk hc0.out) (by simp)).trans hc0.out
      have hd1 := (hk2.block _ (lt_of_blk hc1.out) (by simp)).trans hc1.out
      have hd2 := (hk2.block _ (lt_of_blk hc2.out) (by simp)).trans hc2.out
      have hkw2 := hkw1.out.trans hk2
      have hs2 : w.heap.size + 1 + 1 + 1 ≤ w2.heap.size := Nat.le_trans hs1 hk2.size
      clear z0 z1 z2 z3 z4 z5 z6 z7 z8 z9 z10 z11 zf zl k0 k1 k2 k3 k4 k5 k6 k7 kf kl q0 q1 q2 q3 q4 q5 q6 q7 q8 q9 q10 q11 qf ql hk2 hc0 hc1 hc2 hac hs1 hkw1
      obtain ⟨z0, z1, z2, z3, z4, z5, z6, z7, z8, z9, z10, z11, zf, zl⟩ := cells12 hd0
      obtain ⟨k0, k1, k2, k3, k4, k5, k6, k7, kf, kl⟩ := cells8f hd1
      obtain ⟨q0, q1, q2, q3, q4, q5, q6, q7, q8, q9, q10, q11, qf, ql⟩ := cells12 hd2
      replace hd0 := Lib.hid hd0
      replace hd1 := Lib.hid hd1
      replace hd2 := Lib.hid hd2
      replace hkw2 := Lib.hid hkw2
      cases ib with
      | true =>
        have hr : t.answerR a = (t, 6) := by unfold Tr.answerR; rw [if_neg (by simp [hs.out]), if_pos (by simpa using hop)]
        replace hr := Lib.hid hr
        replace hop := Lib.hid hop
        go_wp2
        obtain ⟨u1, u2⟩ := st12 (x0 := .int .i64 x0) (x1 := .int .i64 x1) (x2 := .int .i64 x2) (x3 := .int .u64 x3) (x4 := .int .i64 x4) (x5 := .int .i64 0) (x6 := .slice x6 x7 x8) (x7 := .slice x9 x10 x11) (x8 := .int .i64 x12) (x9 := .slice x13 x14 x15) (x10 := .bool x16) (x11 := .slice x17 x18 x19) hd2.out
        have hkf := hkw2.out.fresh u2 (fun b hb => by simp at hb; subst hb; exact .inr (by omega))
        refine bodyPost_ret (results_rf rfl _ _ _ _ _ _ _ _ _ _ _ _ _ _ _ _ _ rfl u1) ?_ ?_
        · rfl
        · exact RPost.same (x := ⟨x0, x1, x2, x3, x4, 0, (x6, x7, x8), (x9, x10, x11), x12, (x13, x14, x15), x16, (x17, x18, x19)⟩) hr.out (h.out.keeps hkf) hkf
      | false =>
        replace hop := Lib.hid hop
        have hIW := hI.out.keeps hkw2.out
        have hfr := Sh.O.fresh shT w2 w.heap.size tI (by omega)
        have hkE := (Keeps.refl [] w2).alloc (.cells #[] tI)
        have hsE : w.heap.size ≤ (w2.alloc (.cells #[] tI)).heap.size := by simp; omega
        replace hIW := Lib.hid hIW
        replace hfr := Lib.hid hfr
        replace hkE := Lib.hid hkE
        go_wp2_with (first
          | (at_builtin; (refine Sh.wpl_app shT w.heap.size infoI rfl Tryz.underlying35 (.slice (some ⟨w2.heap.size, 0, none⟩) 0 0) (.slice y7 y8 y9) [] a.ins rfl _ _ rfl rfl rfl hfr.out (hIW.out.keeps hkE.out) (by simp only [List.length_nil]; have := hl.out; omega) hsE ?_; intro v3 w3 hO3 hG3; rw [List.nil_append] at hO3; have hk3 := hG3.keeps (a := w2) hkE.out (fun b hb => by simp [Value.ownBlock] at hb; omega); obtain ⟨va, vc, rfl⟩ := hO3.form; obtain ⟨N3, hN3⟩ : ∃ n, a.ins.length = n := ⟨_, rfl⟩; rw [hN3] at hO3 ⊢; have he0 := (hk3.block _ (lt_of_blk hd0.out) (by simp)).trans hd0.out; have he1 := (hk3.block _ (lt_of_blk hd1.out) (by simp)).trans hd1.out; have he2 := (hk3.block _ (lt_of_blk hd2.out) (by simp)).trans hd2.out; have hkw3 := hkw2.out.trans hk3; clear z0 z1 z2 z3 z4 z5 z6 z7 z8 z9 z10 z11 zf zl k0 k1 k2 k3 k4 k5 k6 k7 kf kl q0 q1 q2 q3 q4 q5 q6 q7 q8 q9 q10 q11 qf ql; obtain ⟨k0, k1, k2, k3, k4, k5, k6, k7, kf, kl⟩ := cells8f he1; replace hO3 := Lib.hid hO3; replace hN3 := Lib.hid hN3; replace hk3 := Lib.hid hk3; replace he0 := Lib.hid he0; replace he1 := Lib.hid he1; replace he2 := Lib.hid he2; replace hkw3 := Lib.hid hkw3; clear hG3))
          | fail)
        have hks : Keeps [w.heap.size + 1] w3 (w3.setCell ⟨w.heap.size + 1, 7, none⟩ (.slice va N3 vc)) := (Keeps.refl _ _).setCell (.inr (by simp)) _
        have hf1 := setCs he1.out 7 (.slice va N3 vc)
        have hf0 := (hks.block _ (lt_of_blk he0.out) (by simp)).trans he0.out
        have hf2 := (hks.block _ (lt_of_blk he2.out) (by simp)).trans he2.out
        have hkw4 := hkw3.out.fresh hks (fun b hb => by simp at hb; subst hb; exact .inr (by omega))
        have hO4 := hO3.out.keepS hks (fun b hb e => by
          simp at hb; subst hb
          obtain ⟨cs, hc⟩ := hO3.out.tag _ e
          exact tag_ne he1.out hc (by decide) rfl)
        replace hf1 : (w3.setCell ⟨w.heap.size + 1, 7, none⟩ (.slice va N3 vc)).heap[w.heap.size + 1]? = some (.cells #[.int .i64 a.m, .int .i64 a.ow, .int .u64 a.n, .int .i64 a.ep, .bool a.kn, .bool a.rt, .int .i64 a.lu, .slice va N3 vc] tA) := by simpa using hf1
        have hs4 : w.heap.size + 1 + 1 + 1 ≤ (w3.setCell ⟨w.heap.size + 1, 7, none⟩ (.slice va N3 vc)).heap.size := Nat.le_trans (Nat.le_trans hs2 hk3.out.size) hks.size
        clear k0 k1 k2 k3 k4 k5 k6 k7 kf kl hks he0 he1 he2 hkw3 hO3 hk3 hkw2 hd0 hd1 hd2 hfr hkE hsE hIW hs2
        generalize (w3.setCell ⟨w.heap.size + 1, 7, none⟩ (.slice va N3 vc)) = w4 at *
        obtain ⟨XH, hXH0, hLH⟩ := h.out.hi
        have hXH : shA.R w4 (.slice x17 x18 x19) XH := hXH0.keeps hkw4
        clear hXH0
        have hXHl : XH.length ≤ 1000 := by rw [hLH.1]; exact hlh.out
        obtain ⟨z0, z1, z2, z3, z4, z5, z6, z7, z8, z9, z10, z11, zf, zl⟩ := cells12 hf0
        obtain ⟨k0, k1, k2, k3, k4, k5, k6, k7, kf, kl⟩ := cells8f hf1
        replace hf0 := Lib.hid hf0
        replace hf1 := Lib.hid hf1
        replace hf2 := Lib.hid hf2
        replace hkw4 := Lib.hid hkw4
        replace hO4 := Lib.hid hO4
        replace hXH := Lib.hid hXH
        replace hLH := Lib.hid hLH
        have hn : Ins.Nums 3 5 6 6 := by unfold Ins.Nums; decide
        have hQ : ∀ w1 w2, (fun W => ∃ v, shA.O W w4.drew.heap.size tA v (XH ++ [(⟨a.m, a.ow, a.n, a.ep, a.kn, a.rt, a.lu, va, N3, vc⟩ : AnV)]) ∧ W.heap[w.heap.size]? = some (.cells #[.int .i64 x0, .int .i64 x1, .int .i64 x2, .int .u64 x3, .int .i64 x4, .int .i64 0, .slice x6 x7 x8, .slice x9 x10 x11, .int .i64 x12, .slice x13 x14 x15, .bool x16, v] tR)) w1 → Free.KeepsP (fun _ => False) w1 w2 → (fun W => ∃ v, shA.O W w4.drew.heap.size tA v (XH ++ [(⟨a.m, a.ow, a.n, a.ep, a.kn, a.rt, a.lu, va, N3, vc⟩ : AnV)]) ∧ W.heap[w.heap.size]? = some (.cells #[.int .i64 x0, .int .i64 x1, .int .i64 x2, .int .u64 x3, .int .i64 x4, .int .i64 0, .slice x6 x7 x8, .slice x9 x10 x11, .int .i64 x12, .slice x13 x14 x15, .bool x16, v] tR)) w2 := fun w1 w2 ⟨v, h1, h2⟩ hk => ⟨v, h1.keepP hk (by simp), (hk.block _ (lt_of_blk h2) (by simp)).trans h2⟩
        refine Free.wp_region_free (by kernel_rfl) (by kernel_rfl) (fun i => i == 0 || i == 3 || i == 5 || i == 6 || i == 8) (InsS.F shA 3 5 6 8 (fun W => ∃ v, shA.O W w4.drew.heap.size tA v (XH ++ [(⟨a.m, a.ow, a.n, a.ep, a.kn, a.rt, a.lu, va, N3, vc⟩ : AnV)]) ∧ W.heap[w.heap.size]? = some (.cells #[.int .i64 x0, .int .i64 x1, .int .i64 x2, .int .u64 x3, .int .i64 x4, .int .i64 0, .slice x6 x7 x8, .slice x9 x10 x11, .int .i64 x12, .slice x13 x14 x15, .bool x16, v] tR)) w4.drew.heap.size tA XH (⟨a.m, a.ow, a.n, a.ep, a.kn, a.rt, a.lu, va, N3, vc⟩ : AnV)) (InsS.T 6 8 w.heap.size w4.drew.heap.size) (InsS.K 6 8) (InsS.stable (by kernel_rfl) hQ) ?_
        apply Free.walk_loud rfl rfl
        · intro w' hg hf; clear hf
          have hwB := hg.size
          go_simp
          exact InsS.lift (by decide) (Ins.fE hn hwB)
        intro v0
        (apply Free.walk_quiet rfl rfl; (intro w' hg hf; clear hf; go_simp <;> exact rfl))
        apply Free.walk_quiet rfl rfl
        · intro w' hg hf; clear hf
          have r0 := (hg.cell _ _ (lt_of_cell z11) (fun h => Nat.not_le_of_lt (lt_of_cell z11) (InsS.low (by kernel_rfl) h))).trans z11
          go_simp <;> exact rfl
        apply Free.walk_loud rfl rfl
        · intro w' hg hf
          have hF0 : (InsS.F shA 3 5 6 8 (fun W => ∃ v, shA.O W w4.drew.heap.size tA v (XH ++ [(⟨a.m, a.ow, a.n, a.ep, a.kn, a.rt, a.lu, va, N3, vc⟩ : AnV)]) ∧ W.heap[w.heap.size]? = some (.cells #[.int .i64 x0, .int .i64 x1, .int .i64 x2, .int .u64 x3, .int .i64 x4, .int .i64 0, .slice x6 x7 x8, .slice x9 x10 x11, .int .i64 x12, .slice x13 x14 x15, .bool x16, v] tR)) w4.drew.heap.size tA XH (⟨a.m, a.ow, a.n, a.ep, a.kn, a.rt, a.lu, va, N3, vc⟩ : AnV)) 0 v0 w' := by simpa using hf 0 (by decide) (by kernel_rfl)
          clear hf
          exact InsS.loud_mono (Ins.lA hn infoA rfl Tryz.underlying67 hg (fun b h => InsS.low (by kernel_rfl) h) hF0.2 (hXH.out.keeps (Keeps.refl [] w4).drew) _ _ rfl (by simp [Act.eval, Act.put]) (by simp [Act.eval, Act.put]) (by omega)) (fun v w1 h => InsS.lift (by decide) h)
        intro v3
        apply Free.walk_quiet rfl rfl
        · intro w' hg hf; clear hf
          have r0 := (hg.cell _ _ (lt_of_cell k0) (fun h => Nat.not_le_of_lt (lt_of_cell k0) (InsS.low (by kernel_rfl) h))).trans k0
          have r1 := (hg.cell _ _ (lt_of_cell k1) (fun h => Nat.not_le_of_lt (lt_of_cell k1) (InsS.low (by kernel_rfl) h))).trans k1
          have r2 := (hg.cell _ _ (lt_of_cell k2) (fun h => Nat.not_le_of_lt (lt_of_cell k2) (InsS.low (by kernel_rfl) h))).trans k2
          have r3 := (hg.cell _ _ (lt_of_cell k3) (fun h => Nat.not_le_of_lt (lt_of_cell k3) (InsS.low (by kernel_rfl) h))).trans k3
          have r4 := (hg.cell _ _ (lt_of_cell k4) (fun h => Nat.not_le_of_lt (lt_of_cell k4) (InsS.low (by kernel_rfl) h))).trans k4
          have r5 := (hg.cell _ _ (lt_of_cell k5) (fun h => Nat.not_le_of_lt (lt_of_cell k5) (InsS.low (by kernel_rfl) h))).trans k5
          have r6 := (hg.cell _ _ (lt_of_cell k6) (fun h => Nat.not_le_of_lt (lt_of_cell k6) (InsS.low (by kernel_rfl) h))).trans k6
          have r7 := (hg.cell _ _ (lt_of_cell k7) (fun h => Nat.not_le_of_lt (lt_of_cell k7) (InsS.low (by kernel_rfl) h))).trans k7
          go_simp <;> exact rfl
        apply Free.walk_loud rfl rfl
        · intro w' hg hf; clear hf
          have hwB := hg.size
          go_simp
          exact InsS.lift (by decide) (Ins.fM hn hwB _ rfl)
        intro v5
        apply Free.walk_loud rfl rfl
        · intro w' hg hf
          have hFA : (InsS.F shA 3 5 6 8 (fun W => ∃ v, shA.O W w4.drew.heap.size tA v (XH ++ [(⟨a.m, a.ow, a.n, a.ep, a.kn, a.rt, a.lu, va, N3, vc⟩ : AnV)]) ∧ W.heap[w.heap.size]? = some (.cells #[.int .i64 x0, .int .i64 x1, .int .i64 x2, .int .u64 x3, .int .i64 x4, .int .i64 0, .slice x6 x7 x8, .slice x9 x10 x11, .int .i64 x12, .slice x13 x14 x15, .bool x16, v] tR)) w4.drew.heap.size tA XH (⟨a.m, a.ow, a.n, a.ep, a.kn, a.rt, a.lu, va, N3, vc⟩ : AnV)) 3 v3 w' := by simpa using hf 3 (by decide) (by kernel_rfl)
          have hFM : (InsS.F shA 3 5 6 8 (fun W => ∃ v, shA.O W w4.drew.heap.size tA v (XH ++ [(⟨a.m, a.ow, a.n, a.ep, a.kn, a.rt, a.lu, va, N3, vc⟩ : AnV)]) ∧ W.heap[w.heap.size]? = some (.cells #[.int .i64 x0, .int .i64 x1, .int .i64 x2, .int .u64 x3, .int .i64 x4, .int .i64 0, .slice x6 x7 x8, .slice x9 x10 x11, .int .i64 x12, .slice x13 x14 x15, .bool x16, v] tR)) w4.drew.heap.size tA XH (⟨a.m, a.ow, a.n, a.ep, a.kn, a.rt, a.lu, va, N3, vc⟩ : AnV)) 5 v5 w' := by simpa using hf 5 (by decide) (by kernel_rfl)
          clear hf
          exact InsS.loud_mono (Ins.lA2 hn infoA rfl Tryz.underlying67 hg hFA.2 hFM.2 _ _ rfl (by simp [Act.eval, Act.put]) (by simp [Act.eval, Act.put]) (by omega)) (fun v w1 h => InsS.lift (by decide) h)
        intro v6
        (apply Free.walk_quiet rfl rfl; (intro w' hg hf; clear hf; go_simp <;> exact rfl))
        apply Free.walk_loud rfl rfl
        · intro w' hg hf
          have hFA : (InsS.F shA 3 5 6 8 (fun W => ∃ v, shA.O W w4.drew.heap.size tA v (XH ++ [(⟨a.m, a.ow, a.n, a.ep, a.kn, a.rt, a.lu, va, N3, vc⟩ : AnV)]) ∧ W.heap[w.heap.size]? = some (.cells #[.int .i64 x0, .int .i64 x1, .int .i64 x2, .int .u64 x3, .int .i64 x4, .int .i64 0, .slice x6 x7 x8, .slice x9 x10 x11, .int .i64 x12, .slice x13 x14 x15, .bool x16, v] tR)) w4.drew.heap.size tA XH (⟨a.m, a.ow, a.n, a.ep, a.kn, a.rt, a.lu, va, N3, vc⟩ : AnV)) 6 v6 w' := by simpa using hf 6 (by decide) (by kernel_rfl)
          clear hf
          have hOA := hFA.2.2.2.2.1 rfl
          obtain ⟨pa, pc, rfl⟩ := hOA.form
          clear hFA
          obtain ⟨n8, hn8⟩ : ∃ n, (XH ++ [(⟨a.m, a.ow, a.n, a.ep, a.kn, a.rt, a.lu, va, N3, vc⟩ : AnV)]).length = n := ⟨_, rfl⟩
          rw [hn8] at hOA ⊢
          replace hn8 := Lib.hid hn8
          have hbX : w'.heap[w.heap.size]? = some (.cells #[.int .i64 x0, .int .i64 x1, .int .i64 x2, .int .u64 x3, .int .i64 x4, .int .i64 0, .slice x6 x7 x8, .slice x9 x10 x11, .int .i64 x12, .slice x13 x14 x15, .bool x16, .slice x17 x18 x19] tR) := (hg.block _ zl (fun h => Nat.not_le_of_lt zl (InsS.lowS h))).trans hf0.out
          obtain ⟨-, -, -, -, -, -, -, -, -, -, -, r11, rf, -⟩ := cells12 hbX
          have hXlt : w.heap.size < w4.drew.heap.size := by simpa using zl
          have hOB := hOA.keepP (Free.KeepsP.setCell (S := fun b => b = w.heap.size) w' (p := ⟨w.heap.size, 11, none⟩) rfl (.slice pa n8 pc)) (fun g hg e => by have := hOA.ge g hg; omega)
          have hbY : (w'.setCell ⟨w.heap.size, 11, none⟩ (.slice pa n8 pc)).heap[w.heap.size]? = some (.cells #[.int .i64 x0, .int .i64 x1, .int .i64 x2, .int .u64 x3, .int .i64 x4, .int .i64 0, .slice x6 x7 x8, .slice x9 x10 x11, .int .i64 x12, .slice x13 x14 x15, .bool x16, .slice pa n8 pc] tR) := by simpa using setCs hbX 11 (.slice pa n8 pc)
          go_simp
          exact ⟨⟨fun _ => ⟨_, hOB, hbY⟩, ⟨fun h => absurd h (by decide), fun h => absurd h (by decide), fun h => absurd h (by decide), fun h => absurd h (by decide), fun h => absurd h (by decide)⟩⟩, Free.KeepsP.setCell w' (.inr ⟨rfl, rfl⟩) _⟩
        intro v8
        refine Free.walk_nil ?_
        intro wF hg hf
        have hFin : (InsS.F shA 3 5 6 8 (fun W => ∃ v, shA.O W w4.drew.heap.size tA v (XH ++ [(⟨a.m, a.ow, a.n, a.ep, a.kn, a.rt, a.lu, va, N3, vc⟩ : AnV)]) ∧ W.heap[w.heap.size]? = some (.cells #[.int .i64 x0, .int .i64 x1, .int .i64 x2, .int .u64 x3, .int .i64 x4, .int .i64 0, .slice x6 x7 x8, .slice x9 x10 x11, .int .i64 x12, .slice x13 x14 x15, .bool x16, v] tR)) w4.drew.heap.size tA XH (⟨a.m, a.ow, a.n, a.ep, a.kn, a.rt, a.lu, va, N3, vc⟩ : AnV)) 8 v8 wF := by simpa using hf 8 (by decide) (by kernel_rfl)
        have hk8 := Lib.hid (hg.to (S := [w.heap.size]) ((Keeps.refl [w.heap.size] w4).drew) (fun b h => (InsS.lowA h).elim (fun e => .inr (by simpa using e)) (fun e => .inl (by simp [e]))))
        have hB4 := Lib.hid (Nat.le_of_lt (show w.heap.size < w4.drew.heap.size from by simpa using zl))
        obtain ⟨v8, hO8, hX8⟩ := hFin.1 rfl
        clear hf hg hFin
        have hg0 := hX8
        have hg1 := (hk8.out.block _ kl (by simp)).trans hf1.out
        have hg2 := (hk8.out.block _ (lt_of_blk hf2.out) (by simp; omega)).trans hf2.out
        have hkw8 := hkw4.out.fresh hk8.out (fun b hb => by simp at hb; subst hb; exact .inr (Nat.le_refl _))
        have hOI := hO4.out.keepS hk8.out (fun b hb e => by
          simp at hb; subst hb
          obtain ⟨cs, hc⟩ := hO4.out.tag _ e
          exact tag_ne hf0.out hc (by decide) rfl)
        replace hO8 := Ins.O_le hO8 (show w.heap.size ≤ w4.drew.heap.size by simp; omega)
        obtain ⟨ha, hc, rfl⟩ := hO8.form
        obtain ⟨N8, hN8⟩ : ∃ n, (XH ++ [(⟨a.m, a.ow, a.n, a.ep, a.kn, a.rt, a.lu, va, N3, vc⟩ : AnV)]).length = n := ⟨_, rfl⟩
        rw [hN8] at hO8 hg0
        clear hX8 hQ hn z0 z1 z2 z3 z4 z5 z6 z7 z8 z9 z10 z11 zf zl k0 k1 k2 k3 k4 k5 k6 k7 kf kl hf0 hf1 hf2 hk8 hO4 hXH
        obtain ⟨z0, z1, z2, z3, z4, z5, z6, z7, z8, z9, z10, z11, zf, zl⟩ := cells12 hg0
        obtain ⟨k0, k1, k2, k3, k4, k5, k6, k7, kf, kl⟩ := cells8f hg1
        obtain ⟨q0, q1, q2, q3, q4, q5, q6, q7, q8, q9, q10, q11, qf, ql⟩ := cells12 hg2
        replace hg0 := Lib.hid hg0
        replace hg1 := Lib.hid hg1
        replace hg2 := Lib.hid hg2
        replace hkw8 := Lib.hid hkw8
        replace hOI := Lib.hid hOI
        replace hO8 := Lib.hid hO8
        replace hN8 := Lib.hid hN8
        obtain ⟨kb, hkb⟩ : ∃ b, a.kn = b := ⟨_, rfl⟩
        have hop' : isOpen a.q t.qs ≠ false := by rw [hop.out]; decide
        cases kb with
        | false =>
          have hr : t.answerR a = ({ t.take a with state := 4 }, 0) := by unfold Tr.answerR; rw [if_neg (by simp [hs.out]), if_neg hop', if_pos hkb]
          rw [hkb] at k4
          replace hr := Lib.hid hr
          replace hop' := Lib.hid hop'
          replace hkb := Lib.hid hkb
          go_wp2
          have hkb := (Keeps.refl [w.heap.size] wF).setCell (p := ⟨w.heap.size, 5, none⟩) (.inr (by simp)) (.int .i64 4)
          have hbz2 := (hkb.block _ ql (by simp; omega)).trans hg2.out
          obtain ⟨u1, u2⟩ := st12 (x0 := .int .i64 x0) (x1 := .int .i64 x1) (x2 := .int .i64 x2) (x3 := .int .u64 x3) (x4 := .int .i64 x4) (x5 := .int .i64 4) (x6 := .slice x6 x7 x8) (x7 := .slice x9 x10 x11) (x8 := .int .i64 x12) (x9 := .slice x13 x14 x15) (x10 := .bool x16) (x11 := .slice ha N8 hc) hbz2
          have hks := (hkb.mono (T := [w.heap.size, w.heap.size + 1 + 1]) (by simp)).trans (u2.mono (by simp))
          have hkf := (hkw8.out.fresh hkb (fun b hb => by simp at hb; subst hb; exact .inr (Nat.le_refl _))).fresh u2 (fun b hb => by simp at hb; subst hb; exact .inr (by omega))
          have hE := h.out.keeps hkf
          have hH := ans_end hks hkf hLH.out hOI.out hO8.out hg0.out hg2.out
          refine bodyPost_ret (results_rf rfl _ _ _ _ _ _ _ _ _ _ _ _ _ _ _ _ _ rfl u1) ?_ ?_
          · rfl
          · rw [hr.out]
            exact ⟨⟨x0, x1, x2, x3, x4, 4, (x6, x7, x8), (x9, x10, x11), x12, (x13, x14, x15), x16, (ha, N8, hc)⟩, rfl, ⟨hE.im, hE.is, hE.s0, hE.s1, hE.s2, rfl, hE.told, hE.rf, hE.op, hE.an, hE.ag, hH⟩, hkf, Fsh.hist rfl rfl rfl hO8.out (Nat.le_refl _) hks.size⟩
        | true =>
          rw [hkb] at k4
          obtain ⟨rb, hrb⟩ : ∃ b, a.rt = b := ⟨_, rfl⟩
          rw [hrb] at k5
          cases rb with
          | true =>
            have hr : t.answerR a = ({ t.take a with state := 3 }, 0) := by unfold Tr.answerR; rw [if_neg (by simp [hs.out]), if_neg hop', if_neg (by simp [hkb]), if_pos hrb]
            replace hr := Lib.hid hr
            replace hop' := Lib.hid hop'
            replace hkb := Lib.hid hkb
            replace hrb := Lib.hid hrb
            go_wp2
            have hkb := (Keeps.refl [w.heap.size] wF).setCell (p := ⟨w.heap.size, 5, none⟩) (.inr (by simp)) (.int .i64 3)
            have hbz2 := (hkb.block _ ql (by simp; omega)).trans hg2.out
            obtain ⟨u1, u2⟩ := st12 (x0 := .int .i64 x0) (x1 := .int .i64 x1) (x2 := .int .i64 x2) (x3 := .int .u64 x3) (x4 := .int .i64 x4) (x5 := .int .i64 3) (x6 := .slice x6 x7 x8) (x7 := .slice x9 x10 x11) (x8 := .int .i64 x12) (x9 := .slice x13 x14 x15) (x10 := .bool x16) (x11 := .slice ha N8 hc) hbz2
            have hks := (hkb.mono (T := [w.heap.size, w.heap.size + 1 + 1]) (by simp)).trans (u2.mono (by simp))
            have hkf := (hkw8.out.fresh hkb (fun b hb => by simp at hb; subst hb; exact .inr (Nat.le_refl _))).fresh u2 (fun b hb => by simp at hb; subst hb; exact .inr (by omega))
            have hE := h.out.keeps hkf
            have hH := ans_end hks hkf hLH.out hOI.out hO8.out hg0.out hg2.out
            refine bodyPost_ret (results_rf rfl _ _ _ _ _ _ _ _ _ _ _ _ _ _ _ _ _ rfl u1) ?_ ?_
            · rfl
            · rw [hr.out]
              exact ⟨⟨x0, x1, x2, x3, x4, 3, (x6, x7, x8), (x9, x10, x11), x12, (x13, x14, x15), x16, (ha, N8, hc)⟩, rfl, ⟨hE.im, hE.is, hE.s0, hE.s1, hE.s2, rfl, hE.told, hE.rf, hE.op, hE.an, hE.ag, hH⟩, hkf, Fsh.hist rfl rfl rfl hO8.out (Nat.le_refl _) hks.size⟩
          | false =>
            have hE8 := h.out.keeps hkw8.out
            have hR8 : RfR wF ⟨x0, x1, x2, x3, x4, 0, (x6, x7, x8), (x9, x10, x11), x12, (x13, x14, x15), x16, (ha, N8, hc)⟩ (t.take a) := ⟨hE8.im, hE8.is, hE8.s0, hE8.s1, hE8.s2, hE8.st, hE8.told, hE8.rf, hE8.op, hE8.an, hE8.ag, ⟨_, by have := hO8.out.r; rw [← hN8.out] at this ⊢; exact this, (hLH.out.ki hkw8.out.ki0).snoc (x := ⟨a.m, a.ow, a.n, a.ep, a.kn, a.rt, a.lu, va, N3, vc⟩) ⟨rfl, rfl, rfl, rfl, rfl, rfl, rfl, ⟨_, hOI.out⟩⟩⟩⟩
            have han8 := fun (W : World) (hk : Keeps [] wF W) (j : Nat) (hj : j < t.qs.length) => answeredR_c W _ (t.take a) j (hR8.keeps hk) hi.out.rk hj
            simp only [rfV, slv] at han8
            obtain ⟨XA, hXA, hXR⟩ := hE8.an
            replace hXA : shA.R wF (.slice x9 x10 x11) XA := hXA
            have hMq : t.qs.length = x7 := by
              obtain ⟨_, _, e, _⟩ := hE8.op.form
              simp only [slv, Value.slice.injEq] at e
              rw [e.2.1]; simp [Tr.op]
            have hx10 : XA.length = x10 := by
              obtain ⟨_, _, e, _⟩ := hXA.form
              simp only [Value.slice.injEq] at e
              exact e.2.1.symm
            have hx7 : x7 = x10 := by rw [← hx10, hXR.1, hMq]
            subst hx7
            have hel := fun j hj => hXA.elem (k := j) hj
            have hMm : x7 ≤ 1000 := by have := hl.out; omega
            replace hop' := Lib.hid hop'
            replace hkb := Lib.hid hkb
            replace hrb := Lib.hid hrb
            replace hR8 := Lib.hid hR8
            replace han8 := Lib.hid han8
            replace hel := Lib.hid hel
            replace hXA := Lib.hid hXA
            replace hXR := Lib.hid hXR
            replace hMq := Lib.hid hMq
            replace hx10 := Lib.hid hx10
            clear hE8
            go_wp2_with fail
            go_loopw [7] (fun i wr => ∃ j : Nat, i = .int .i64 j ∧ j ≤ x7 ∧ Hid (∀ q (hq : q < t.qs.length), q < j → oddAt a t.qs[q] = false) ∧ Hid (Keeps [] wF wr)) (fun i _ => x7 - (intOf i).toNat)
            case atStart => exact ⟨0, rfl, by omega, Lib.hid (fun _ _ h => by omega), Lib.hid (Keeps.refl _ _)⟩
            case round =>
              obtain ⟨j, rfl, hj, hno, hkr⟩ := hrel
              have hr0 := (hkr.out.block _ (lt_of_blk hg0.out) (by simp)).trans hg0.out
              have hr1 := (hkr.out.block _ (lt_of_blk hg1.out) (by simp)).trans hg1.out
              have hr2 := (hkr.out.block _ (lt_of_blk hg2.out) (by simp)).trans hg2.out
              have hkwr := hkw8.out.trans hkr.out
              clear z0 z1 z2 z3 z4 z5 z6 z7 z8 z9 z10 z11 zf zl k0 k1 k2 k3 k4 k5 k6 k7 kf kl q0 q1 q2 q3 q4 q5 q6 q7 q8 q9 q10 q11 qf ql
              obtain ⟨z0, z1, z2, z3, z4, z5, z6, z7, z8, z9, z10, z11, zf, zl⟩ := cells12 hr0
              obtain ⟨k0, k1, k2, k3, k4, k5, k6, k7, kf, kl⟩ := cells8f hr1
              obtain ⟨q0, q1, q2, q3, q4, q5, q6, q7, q8, q9, q10, q11, qf, ql⟩ := cells12 hr2
              replace hr0 := Lib.hid hr0
              replace hr1 := Lib.hid hr1
              replace hr2 := Lib.hid hr2
              replace hkwr := Lib.hid hkwr
              by_cases hlt : j < x7
              · have hjq : j < t.qs.length := by rw [hMq.out]; exact hlt
                have hjX : j < XA.length := by rw [hx10.out]; exact hlt
                have hac := fun (W : World) (hk : Keeps [] wF W) => (han8.out W hk j hjq).mono (R' := fun e w' => e = .returned (.bool t.qs[j].2.isSome) ∧ Keeps [] W w') (fun _ _ h => h)
                obtain ⟨p, hp⟩ : ∃ p, t.qs[j] = p := ⟨_, rfl⟩
                have h1 := hXR.out.2 j _ _ (List.getElem?_eq_getElem hjX) (List.getElem?_eq_getElem hjq)
                rw [hp] at hac h1
                obtain ⟨g, o, c', hv, he⟩ := hel.out j hjX
                rw [hx10.out] at hv
                cases hv
                obtain ⟨m', hm'⟩ : ∃ m', XA[j].m = m' := ⟨_, rfl⟩
                obtain ⟨e', he'⟩ : ∃ e', XA[j].ep = e' := ⟨_, rfl⟩
                have e0 := hkr.out.val (he 0 _ rfl)
                have e3 := hkr.out.val (he 3 _ rfl)
                simp only [shA, Nat.add_zero] at e0 e3
                rw [hm'] at e0
                rw [he'] at e3
                replace hac := Lib.hid hac
                replace hm' := Lib.hid hm'
                replace he' := Lib.hid he'
                replace h1 := Lib.hid h1
                replace hp := Lib.hid hp
                clear he
                go_wp2_with fail
                refine Free.wp_region_chain (fun i => i == 2) (fun i => true) (fun _ _ => False) (by kernel_rfl) (by kernel_rfl) (by kernel_rfl) ?_
                (repeat (first | (apply Free.cw_pure rfl rfl; (intro w'; go_simp <;> exact rfl); go_frame) | (apply Free.cw_steady rfl rfl rfl; (intro w' hS; have q0 := Free.sx_cell hS z0 (fun _ _ hT => hT); have q1 := Free.sx_cell hS z1 (fun _ _ hT => hT); have q2 := Free.sx_cell hS z2 (fun _ _ hT => hT); have q3 := Free.sx_cell hS z3 (fun _ _ hT => hT); have q4 := Free.sx_cell hS z4 (fun _ _ hT => hT); have q5 := Free.sx_cell hS z5 (fun _ _ hT => hT); have q6 := Free.sx_cell hS z6 (fun _ _ hT => hT); have q7 := Free.sx_cell hS z7 (fun _ _ hT => hT); have q8 := Free.sx_cell hS z8 (fun _ _ hT => hT); have q9 := Free.sx_cell hS z9 (fun _ _ hT => hT); have q10 := Free.sx_cell hS z10 (fun _ _ hT => hT); have q11 := Free.sx_cell hS z11 (fun _ _ hT => hT); have q12 := Free.sx_cell hS k0 (fun _ _ hT => hT); have q13 := Free.sx_cell hS k3 (fun _ _ hT => hT); have q14 := Free.sx_cell hS e0 (fun _ _ hT => hT); have q15 := Free.sx_cell hS e3 (fun _ _ hT => hT); go_simp <;> exact rfl); go_frame) | (refine Free.cw_skip rfl ?_; go_frame)))
                refine Free.cw_loud rfl rfl (fun K hK => ?_)
                go_wp2_with fail
                refine (hac.out _ (hkr.out.trans ((Keeps.refl [] wr).drew))).mono ?_
                rintro e w9 ⟨rfl, hk9⟩
                refine hK _ _ rfl (Free.KeepsP.of hk9 (by simp)) ?_
                clear hK K hac
                have hkr9 := Lib.hid ((hkr.out.trans ((Keeps.refl [] wr).drew)).trans hk9)
                obtain ⟨pq, pu⟩ := p
                cases pu with
                | none =>
                  (repeat (first | (apply Free.cw_pureW rfl rfl; (intro w'; go_simp <;> exact rfl); go_frame) | (apply Free.cw_steadyW rfl rfl rfl; (intro w' hS; have q0 := Free.sx_cell hS z7 (fun _ _ hT => hT); have q1 := Free.sx_cell hS k0 (fun _ _ hT => hT); have q2 := Free.sx_cell hS k3 (fun _ _ hT => hT); have q3 := Free.sx_cell hS e0 (fun _ _ hT => hT); have q4 := Free.sx_cell hS e3 (fun _ _ hT => hT); go_simp <;> exact rfl); go_frame) | (refine Free.cw_skip rfl ?_; go_frame)))
                  refine Free.cw_nil ?_
                  have hno2 : ∀ q (hq : q < t.qs.length), q < j + 1 → oddAt a t.qs[q] = false := fun q hq hl => by
                    by_cases hqj : q < j
                    · exact hno.out q hq hqj
                    · have : q = j := by omega
                      subst this
                      rw [hp.out]
                      rfl
                  replace hno2 := Lib.hid hno2
                  go_wp2
                  go_roundw
                  case rel => exact ⟨j + 1, rfl, by omega, hno2, hkr9⟩
                  case measure => simp [intOf]; omega
                | some b =>
                  obtain ⟨f1, -, -, f4, -⟩ := h1.out
                  rw [hm'.out] at f1
                  rw [he'.out] at f4
                  subst f1
                  subst f4
                  by_cases hma : b.m = a.m
                  case neg =>
                    have hmb : (b.m == a.m) = false := by simpa using hma
                    (repeat (first | (apply Free.cw_pureW rfl rfl; (intro w'; go_simp <;> exact rfl); go_frame) | (apply Free.cw_steadyW rfl rfl rfl; (intro w' hS; have q0 := Free.sx_cell hS z7 (fun _ _ hT => hT); have q1 := Free.sx_cell hS k0 (fun _ _ hT => hT); have q2 := Free.sx_cell hS k3 (fun _ _ hT => hT); have q3 := Free.sx_cell hS e0 (fun _ _ hT => hT); have q4 := Free.sx_cell hS e3 (fun _ _ hT => hT); go_simp <;> exact rfl); go_frame) | (refine Free.cw_skip rfl ?_; go_frame)))
                    refine Free.cw_nil ?_
                    have hno2 : ∀ q (hq : q < t.qs.length), q < j + 1 → oddAt a t.qs[q] = false := fun q hq hl => by
                      by_cases hqj : q < j
                      · exact hno.out q hq hqj
                      · have : q = j := by omega
                        subst this
                        rw [hp.out]
                        simp [oddAt, Ans.odd, hmb]
                    replace hno2 := Lib.hid hno2
                    go_wp2
                    go_roundw
                    case rel => exact ⟨j + 1, rfl, by omega, hno2, hkr9⟩
                    case measure => simp [intOf]; omega
                  case pos =>
                    by_cases hpa : b.ep = a.ep
                    case pos =>
                      (repeat (first | (apply Free.cw_pureW rfl rfl; (intro w'; go_simp <;> exact rfl); go_frame) | (apply Free.cw_steadyW rfl rfl rfl; (intro w' hS; have q0 := Free.sx_cell hS z7 (fun _ _ hT => hT); have q1 := Free.sx_cell hS k0 (fun _ _ hT => hT); have q2 := Free.sx_cell hS k3 (fun _ _ hT => hT); have q3 := Free.sx_cell hS e0 (fun _ _ hT => hT); have q4 := Free.sx_cell hS e3 (fun _ _ hT => hT); go_simp <;> exact rfl); go_frame) | (refine Free.cw_skip rfl ?_; go_frame)))
                      refine Free.cw_nil ?_
                      have hno2 : ∀ q (hq : q < t.qs.length), q < j + 1 → oddAt a t.qs[q] = false := fun q hq hl => by
                        by_cases hqj : q < j
                        · exact hno.out q hq hqj
                        · have : q = j := by omega
                          subst this
                          rw [hp.out]
                          simp [oddAt, Ans.odd, hpa]
                      replace hno2 := Lib.hid hno2
                      go_wp2
                      go_roundw
                      case rel => exact ⟨j + 1, rfl, by omega, hno2, hkr9⟩
                      case measure => simp [intOf]; omega
                    case neg =>
                      (repeat (first | (apply Free.cw_pureW rfl rfl; (intro w'; go_simp <;> exact rfl); go_frame) | (apply Free.cw_steadyW rfl rfl rfl; (intro w' hS; have q0 := Free.sx_cell hS z7 (fun _ _ hT => hT); have q1 := Free.sx_cell hS k0 (fun _ _ hT => hT); have q2 := Free.sx_cell hS k3 (fun _ _ hT => hT); have q3 := Free.sx_cell hS e0 (fun _ _ hT => hT); have q4 := Free.sx_cell hS e3 (fun _ _ hT => hT); go_simp <;> exact rfl); go_frame) | (refine Free.cw_skip rfl ?_; go_frame)))
                      refine Free.cw_nil ?_
                      have hr : t.answerR a = ({ t.take a with state := 4 }, 0) := by unfold Tr.answerR; rw [if_neg (by simp [hs.out]), if_neg hop'.out, if_neg (by simp [hkb.out]), if_neg (by simp [hrb.out]), if_pos (show (t.rec'.any fun p => Ans.odd a.m a.ep p.2) = true from odd_some (a := a) hjq (by rw [hp.out]; simp [oddAt, Ans.odd, hma, hpa]))]
                      have ht0 := (hkr9.out.block _ (lt_of_blk hg0.out) (by simp)).trans hg0.out
                      have ht2 := (hkr9.out.block _ (lt_of_blk hg2.out) (by simp)).trans hg2.out
                      have hkw9 := hkw8.out.trans hkr9.out
                      have hOI9 := hOI.out.keeps hkr9.out
                      have hO89 := hO8.out.keeps hkr9.out
                      clear z0 z1 z2 z3 z4 z5 z6 z7 z8 z9 z10 z11 zf zl q0 q1 q2 q3 q4 q5 q6 q7 q8 q9 q10 q11 qf ql k0 k1 k2 k3 k4 k5 k6 k7 kf kl e0 e3
                      obtain ⟨z0, z1, z2, z3, z4, z5, z6, z7, z8, z9, z10, z11, zf, zl⟩ := cells12 ht0
                      obtain ⟨q0, q1, q2, q3, q4, q5, q6, q7, q8, q9, q10, q11, qf, ql⟩ := cells12 ht2
                      replace hr := Lib.hid hr
                      replace ht0 := Lib.hid ht0
                      replace ht2 := Lib.hid ht2
                      replace hkw9 := Lib.hid hkw9
                      replace hOI9 := Lib.hid hOI9
                      replace hO89 := Lib.hid hO89
                      go_wp2
                      have hkb := (Keeps.refl [w.heap.size] w9).setCell (p := ⟨w.heap.size, 5, none⟩) (.inr (by simp)) (.int .i64 4)
                      have hbz2 := (hkb.block _ ql (by simp; omega)).trans ht2.out
                      obtain ⟨u1, u2⟩ := st12 (x0 := .int .i64 x0) (x1 := .int .i64 x1) (x2 := .int .i64 x2) (x3 := .int .u64 x3) (x4 := .int .i64 x4) (x5 := .int .i64 4) (x6 := .slice x6 x7 x8) (x7 := .slice (some ⟨g, o, none⟩) x7 x11) (x8 := .int .i64 x12) (x9 := .slice x13 x14 x15) (x10 := .bool x16) (x11 := .slice ha N8 hc) hbz2
                      have hks := (hkb.mono (T := [w.heap.size, w.heap.size + 1 + 1]) (by simp)).trans (u2.mono (by simp))
                      have hkf := (hkw9.out.fresh hkb (fun b hb => by simp at hb; subst hb; exact .inr (Nat.le_refl _))).fresh u2 (fun b hb => by simp at hb; subst hb; exact .inr (by omega))
                      have hE := h.out.keeps hkf
                      have hH := ans_end hks hkf hLH.out hOI9.out hO89.out ht0.out ht2.out
                      refine bodyPost_ret (results_rf rfl _ _ _ _ _ _ _ _ _ _ _ _ _ _ _ _ _ rfl u1) ?_ ?_
                      · rfl
                      · rw [hr.out]
                        exact ⟨⟨x0, x1, x2, x3, x4, 4, (x6, x7, x8), (some ⟨g, o, none⟩, x7, x11), x12, (x13, x14, x15), x16, (ha, N8, hc)⟩, rfl, ⟨hE.im, hE.is, hE.s0, hE.s1, hE.s2, rfl, hE.told, hE.rf, hE.op, hE.an, hE.ag, hH⟩, hkf, Fsh.hist rfl rfl rfl hO89.out (Nat.le_refl _) hks.size⟩
              · have hjx : j = x7 := by omega
                subst hjx
                have hodd : (t.rec'.any fun p => Ans.odd a.m a.ep p.2) = false := odd_none (a := a) (fun q hq => hno.out q hq (by rw [← hMq.out]; exact hq))
                have hRo := (h.out.keeps hkwr.out).op
                replace hRo : shT.R wr (.slice x6 j x8) (t.op.map ndq) := hRo
                have hlo : (t.op.map ndq).length = j := by simp [Tr.op]; exact hMq.out
                have hfrT := Sh.O.fresh shT wr w.heap.size tN (by omega)
                have hkE := (Keeps.refl [] wr).alloc (.cells #[] tN)
                have hsE : w.heap.size ≤ (wr.alloc (.cells #[] tN)).heap.size := by simp; omega
                replace hodd := Lib.hid hodd
                replace hRo := Lib.hid hRo
                replace hlo := Lib.hid hlo
                replace hfrT := Lib.hid hfrT
                replace hkE := Lib.hid hkE
                have hOIr := Lib.hid (hOI.out.keeps hkr.out)
                have hO8r := Lib.hid (hO8.out.keeps hkr.out)
                clear hel han8 hans
                go_upto_region 21 with (first
                  | (at_builtin; (refine Sh.wpl_app shT w.heap.size infoN rfl Tryz.underlying85 (.slice (some ⟨wr.heap.size, 0, none⟩) 0 0) (.slice x6 j x8) [] (t.op.map ndq) rfl _ _ rfl rfl rfl hfrT.out (hRo.out.keeps hkE.out) (by simp only [List.length_nil, hlo.out]; omega) hsE ?_; intro v5 w5 hO5 hG5; rw [List.nil_append] at hO5; have hk5 := hG5.keeps (a := wr) hkE.out (fun b hb => by simp [Value.ownBlock] at hb; omega); obtain ⟨oa, oc, rfl⟩ := hO5.form; rw [hlo.out] at hO5 ⊢; have hu0 := (hk5.block _ zl (by simp)).trans hr0.out; have hu1 := (hk5.block _ kl (by simp)).trans hr1.out; have hu2 := (hk5.block _ ql (by simp)).trans hr2.out; have hOI5 := hOIr.out.keeps hk5; have hO85 := hO8r.out.keeps hk5; have hkw5 := hkwr.out.trans hk5; have hs5 := hk5.size; clear z0 z1 z2 z3 z4 z5 z6 z7 z8 z9 z10 z11 zf; obtain ⟨z0, z1, z2, z3, z4, z5, z6, z7, z8, z9, z10, z11, zf, zl5⟩ := cells12 hu0; replace hO5 := Lib.hid hO5; replace hk5 := Lib.hid hk5; replace hu0 := Lib.hid hu0; replace hu1 := Lib.hid hu1; replace hu2 := Lib.hid hu2; replace hOI5 := Lib.hid hOI5; replace hO85 := Lib.hid hO85; replace hkw5 := Lib.hid hkw5; clear hG5))
                  | fail)
                have hkS : Keeps [w.heap.size] w5 (w5.setCell ⟨w.heap.size, 6, none⟩ (.slice oa j oc)) := (Keeps.refl _ _).setCell (.inr (by simp)) _
                have hv0 := setCs hu0.out 6 (.slice oa j oc)
                replace hv0 : (w5.setCell ⟨w.heap.size, 6, none⟩ (.slice oa j oc)).heap[w.heap.size]? = some (.cells #[.int .i64 x0, .int .i64 x1, .int .i64 x2, .int .u64 x3, .int .i64 x4, .int .i64 0, .slice oa j oc, .slice x9 j x11, .int .i64 x12, .slice x13 x14 x15, .bool x16, .slice ha N8 hc] tR) := by simpa using hv0
                have hv1 := (hkS.block _ (lt_of_blk hu1.out) (by simp)).trans hu1.out
                have hv2 := (hkS.block _ (lt_of_blk hu2.out) (by simp; omega)).trans hu2.out
                have hkw6 := hkw5.out.fresh hkS (fun b hb => by simp at hb; subst hb; exact .inr (Nat.le_refl _))
                have kT : ∀ (e : TypeId) (v : Value), e ≠ tR → (∀ b, v.ownBlock = some b → ∃ (cs : Array Value), w5.heap[b]? = some (Obj.cells cs e (0, 0))) → ∀ b ∈ [w.heap.size], v.ownBlock ≠ some b := fun e v he ht b hb hv => by
                  obtain ⟨cs, hc⟩ := ht b hv
                  simp at hb
                  subst hb
                  exact tag_ne hu0.out hc (Ne.symm he) rfl
                have hO6 := hO5.out.keepS hkS (kT tN _ (by decide) hO5.out.tag)
                have hOI6 := hOI5.out.keepS hkS (kT tI _ (by decide) hOI5.out.tag)
                have hO86 := hO85.out.keepS hkS (kT tA _ (by decide) hO85.out.tag)
                have hs6 := hkw6.size
                have hs6b := lt_of_blk hv1
                clear kT hkS hu0 hu1 hu2 hO5 hOI5 hO85 hkw5 hk5 z0 z1 z2 z3 z4 z5 z6 z7 z8 z9 z10 z11 zf zl5 k0 k1 k2 k3 k4 k5 k6 k7 kf q0 q1 q2 q3 q4 q5 q6 q7 q8 q9 q10 q11 qf hRo hkE hsE hfrT hOIr hO8r hr0 hr1 hr2 hkwr
                generalize (w5.setCell ⟨w.heap.size, 6, none⟩ (.slice oa j oc)) = w6 at *
                obtain ⟨XA6, hXA60, hXR6⟩ := h.out.an
                have hXA6 : shA.R w6 (.slice x9 j x11) XA6 := hXA60.keeps hkw6
                clear hXA60
                have hl6 : XA6.length = j := by rw [hXR6.1, hMq.out]
                have hfrA := Sh.O.fresh shA w6 w6.heap.size tA (Nat.le_refl _)
                have lw6 : w.heap.size + 1 + 1 < w6.heap.size := lt_of_blk hv2
                have l6 := hO6.lt
                have lI := hOI6.lt
                have l8 := hO86.lt
                replace l6 := Lib.hid l6
                replace lI := Lib.hid lI
                replace l8 := Lib.hid l8
                have hkE := (Keeps.refl [] w6).alloc (.cells #[] tA)
                have hsE : w6.heap.size ≤ (w6.alloc (.cells #[] tA)).heap.size := by simp
                obtain ⟨z0, z1, z2, z3, z4, z5, z6, z7, z8, z9, z10, z11, zf, zl6⟩ := cells12 hv0
                replace hv0 := Lib.hid hv0
                replace hv1 := Lib.hid hv1
                replace hv2 := Lib.hid hv2
                replace hkw6 := Lib.hid hkw6
                replace hO6 := Lib.hid hO6
                replace hOI6 := Lib.hid hOI6
                replace hO86 := Lib.hid hO86
                replace hXA6 := Lib.hid hXA6
                replace hXR6 := Lib.hid hXR6
                replace hl6 := Lib.hid hl6
                replace hfrA := Lib.hid hfrA
                replace hkE := Lib.hid hkE
                go_upto_region 22 with (first
                  | (at_builtin; (refine Sh.wpl_app shA w6.heap.size infoA rfl Tryz.underlying67 (.slice (some ⟨w6.heap.size, 0, none⟩) 0 0) (.slice x9 j x11) [] XA6 rfl _ _ rfl rfl rfl hfrA.out (hXA6.out.keeps hkE.out) (by simp only [List.length_nil, hl6.out]; omega) hsE ?_; intro v7 w7 hO7 hG7; rw [List.nil_append] at hO7; have hk7 := hG7.keeps (a := w6) hkE.out (fun b hb => by simp [Value.ownBlock] at hb; omega); obtain ⟨g7, cp7, cu7, rfl, hgB7, hg7, hcp7, hsz7⟩ := O_some hO7 (by rw [hl6.out]; have := hMq.out; omega); rw [hl6.out] at hO7 hcp7 ⊢; have hy0 := (hk7.block _ zl6 (by simp)).trans hv0.out; have hy1 := (hk7.block _ (lt_of_blk hv1.out) (by simp)).trans hv1.out; have hy2 := (hk7.block _ (lt_of_blk hv2.out) (by simp)).trans hv2.out; have hO67 := hO6.out.keeps hk7; have hOI7 := hOI6.out.keeps hk7; have hO87 := hO86.out.keeps hk7; have hkw7 := hkw6.out.trans hk7; clear z0 z1 z2 z3 z4 z5 z6 z7 z8 z9 z10 z11 zf zl6; obtain ⟨z0, z1, z2, z3, z4, z5, z6, z7, z8, z9, z10, z11, zf, zl7⟩ := cells12 hy0; replace hO7 := Lib.hid hO7; replace hk7 := Lib.hid hk7; replace hy0 := Lib.hid hy0; replace hy1 := Lib.hid hy1; replace hy2 := Lib.hid hy2; replace hO67 := Lib.hid hO67; replace hOI7 := Lib.hid hOI7; replace hO87 := Lib.hid hO87; replace hkw7 := Lib.hid hkw7; replace hg7 := Lib.hid hg7; replace hsz7 := Lib.hid hsz7; clear hG7))
                  | fail)
                have hkS : Keeps [w.heap.size] w7 (w7.setCell ⟨w.heap.size, 7, none⟩ (.slice (some ⟨g7, 0, none⟩) j cp7)) := (Keeps.refl _ _).setCell (.inr (by simp)) _
                have hs68 : w6.heap.size ≤ (w7.setCell ⟨w.heap.size, 7, none⟩ (.slice (some ⟨g7, 0, none⟩) j cp7)).heap.size := Nat.le_trans hk7.out.size hkS.size
                have hn0 := setCs hy0.out 7 (.slice (some ⟨g7, 0, none⟩) j cp7)
                replace hn0 : (w7.setCell ⟨w.heap.size, 7, none⟩ (.slice (some ⟨g7, 0, none⟩) j cp7)).heap[w.heap.size]? = some (.cells #[.int .i64 x0, .int .i64 x1, .int .i64 x2, .int .u64 x3, .int .i64 x4, .int .i64 0, .slice oa j oc, .slice (some ⟨g7, 0, none⟩) j cp7, .int .i64 x12, .slice x13 x14 x15, .bool x16, .slice ha N8 hc] tR) := by simpa using hn0
                have hn1 := (hkS.block _ (lt_of_blk hy1.out) (by simp)).trans hy1.out
                have hn2 := (hkS.block _ (lt_of_blk hy2.out) (by simp; omega)).trans hy2.out
                have hkw8' := hkw7.out.fresh hkS (fun b hb => by simp at hb; subst hb; exact .inr (Nat.le_refl _))
                have kT : ∀ (e : TypeId) (v : Value), e ≠ tR → (∀ b, v.ownBlock = some b → ∃ (cs : Array Value), w7.heap[b]? = some (Obj.cells cs e (0, 0))) → ∀ b ∈ [w.heap.size], v.ownBlock ≠ some b := fun e v he ht b hb hv => by
                  obtain ⟨cs, hc⟩ := ht b hv
                  simp at hb
                  subst hb
                  exact tag_ne hy0.out hc (Ne.symm he) rfl
                have hgX : g7 ≠ w.heap.size := fun e => kT tA _ (by decide) hO7.out.tag _ (List.mem_singleton.2 rfl) (by simp [Value.ownBlock, e])
                have hO68 := hO67.out.keepS hkS (kT tN _ (by decide) hO67.out.tag)
                have hOI8 := hOI7.out.keepS hkS (kT tI _ (by decide) hOI7.out.tag)
                have hO88 := hO87.out.keepS hkS (kT tA _ (by decide) hO87.out.tag)
                have hO78 := hO7.out.keepS hkS (kT tA _ (by decide) hO7.out.tag)
                have hg8 := (hkS.block _ (lt_of_blk hg7.out) (by simpa using hgX)).trans hg7.out
                clear kT hkS hy0 hy1 hy2 hg7 hO7 hOI7 hO87 hO67 hkw7 hk7 z0 z1 z2 z3 z4 z5 z6 z7 z8 z9 z10 z11 zf zl7 hfrA hkE hsE hXA6 hv0 hv1 hv2 hO6 hOI6 hO86
                generalize (w7.setCell ⟨w.heap.size, 7, none⟩ (.slice (some ⟨g7, 0, none⟩) j cp7)) = w8 at *
                obtain ⟨z0, z1, z2, z3, z4, z5, z6, z7, z8, z9, z10, z11, zf, zl8⟩ := cells12 hn0
                obtain ⟨k0, k1, k2, k3, k4, k5, k6, k7, kf, kl8⟩ := cells8f hn1
                have hkj : k < j := by have := hMq.out; omega
                have hcz : ∀ i, i < 8 → k * 8 + i < cu7.size := fun i hi8 => by rw [hsz7.out]; show k * 8 + i < cp7 * 8; omega
                have hcell : ∀ o (ho : o < cu7.size), w8.cell? ⟨g7, o, none⟩ = some cu7[o] := fun o ho => by simp [World.cell?, hg8, ho]
                have c0 := hcell (k * 8) (hcz 0 (by omega))
                have c1 := hcell (k * 8 + 1) (hcz 1 (by omega))
                have c2 := hcell (k * 8 + 2) (hcz 2 (by omega))
                have c3 := hcell (k * 8 + 3) (hcz 3 (by omega))
                have c4 := hcell (k * 8 + 4) (hcz 4 (by omega))
                have c5 := hcell (k * 8 + 5) (hcz 5 (by omega))
                have c6 := hcell (k * 8 + 6) (hcz 6 (by omega))
                have c7 := hcell (k * 8 + 7) (hcz 7 (by omega))
                have cf : ∀ o, w8.frozen? ⟨g7, o, none⟩ = false := fun o => by simp [World.frozen?, hg8]
                have cl := lt_of_blk hg8
                replace hcz := Lib.hid hcz
                replace hcell := Lib.hid hcell
                replace hn0 := Lib.hid hn0
                replace hn1 := Lib.hid hn1
                replace hn2 := Lib.hid hn2
                replace hkw8' := Lib.hid hkw8'
                replace hO68 := Lib.hid hO68
                replace hOI8 := Lib.hid hOI8
                replace hO88 := Lib.hid hO88
                replace hO78 := Lib.hid hO78
                replace hg8 := Lib.hid hg8
                go_upto_region 23 with fail
                have hset := O_set8 hO78.out hl6.out k (by rw [hl6.out]; exact hkj) ⟨a.m, a.ow, a.n, a.ep, a.kn, a.rt, a.lu, va, N3, vc⟩
                have hk9 := keeps8 w8 g7 (k * 8) (.int .i64 a.m) (.int .i64 a.ow) (.int .u64 a.n) (.int .i64 a.ep) (.bool a.kn) (.bool a.rt) (.int .i64 a.lu) (.slice va N3 vc)
                simp only [AnV.v] at hset
                clear c0 c1 c2 c3 c4 c5 c6 c7 cf cl hcz hcell hO78 hg8
                generalize ((((((((w8.setCell ⟨g7, k * 8, none⟩ (.int .i64 a.m)).setCell ⟨g7, k * 8 + 1, none⟩ (.int .i64 a.ow)).setCell ⟨g7, k * 8 + 2, none⟩ (.int .u64 a.n)).setCell ⟨g7, k * 8 + 3, none⟩ (.int .i64 a.ep)).setCell ⟨g7, k * 8 + 4, none⟩ (.bool a.kn)).setCell ⟨g7, k * 8 + 5, none⟩ (.bool a.rt)).setCell ⟨g7, k * 8 + 6, none⟩ (.int .i64 a.lu)).setCell ⟨g7, k * 8 + 7, none⟩ (.slice va N3 vc)) = w9 at *
                have hp0 := (hk9.block _ (lt_of_blk hn0.out) (by simp; omega)).trans hn0.out
                have hp1 := (hk9.block _ (lt_of_blk hn1.out) (by simp; omega)).trans hn1.out
                have hp2 := (hk9.block _ (lt_of_blk hn2.out) (by simp; omega)).trans hn2.out
                have hkw9 := hkw8'.out.fresh hk9 (fun b hb => by simp at hb; subst hb; exact .inr (by omega))
                have hk9s := hk9.size
                have hO69 := hO68.out.keepS hk9 (fun b hb e => by simp at hb; subst hb; have := l6.out _ e; omega)
                have hOI9 := hOI8.out.keepS hk9 (fun b hb e => by simp at hb; subst hb; have := lI.out _ e; omega)
                have hO89 := hO88.out.keepS hk9 (fun b hb e => by simp at hb; subst hb; have := l8.out _ e; omega)
                clear hn0 hn1 hn2 hkw8' hO68 hOI8 hO88 hk9 l6 lI
                have hO6m := hO69
                rw [← (Tr.mid_zero hi.out.nd hk hqk.out).2] at hO6m
                have hM9 : MidS w w9 a w6.heap.size (.slice oa j oc) (.slice (some ⟨g7, 0, none⟩) j cp7) (.slice ha N8 hc) (.slice va N3 vc) ((t.mid a 0).op.map ndq) (midX t a XA6 k (⟨a.m, a.ow, a.n, a.ep, a.kn, a.rt, a.lu, va, N3, vc⟩ : AnV) 0) (XH ++ [(⟨a.m, a.ow, a.n, a.ep, a.kn, a.rt, a.lu, va, N3, vc⟩ : AnV)]) :=
                  ⟨hO6m, by rw [midX_zero hi.out.nd hk hqk.out]; exact hset, hO89, hOI9, l8.out, hkw9, hs6, by have := hk9s; omega⟩
                clear hset hO69 hO6m hOI9 hO89 hkw9 l8 z0 z1 z2 z3 z4 z5 z6 z7 z8 z9 z10 z11 zf zl8 k0 k1 k2 k3 k4 k5 k6 k7 kf kl8 hlo hl6 hk9s
                obtain ⟨B, hB⟩ : ∃ B, w6.heap.size = B := ⟨_, rfl⟩
                rw [hB] at hM9
                have hB1 : Hid (w.heap.size + 1 < B) := Lib.hid (by rw [← hB]; exact hs6b)
                clear hB
                replace hM9 := Lib.hid hM9
                replace hp0 := Lib.hid hp0
                replace hp1 := Lib.hid hp1
                replace hp2 := Lib.hid hp2
                have hN3i : Hid (a.ins.length = N3) := hN3
                go_wp2
                go_loopw [8] (fun iv wr => ∃ (ii : Nat) (p6 p7 : Option Addr × Nat × Nat), iv = .int .i64 ii ∧ ii ≤ N3 ∧ Hid (MidS w wr a B (slv p6) (slv p7) (.slice ha N8 hc) (.slice va N3 vc) ((t.mid a ii).op.map ndq) (midX t a XA6 k (⟨a.m, a.ow, a.n, a.ep, a.kn, a.rt, a.lu, va, N3, vc⟩ : AnV) ii) (XH ++ [(⟨a.m, a.ow, a.n, a.ep, a.kn, a.rt, a.lu, va, N3, vc⟩ : AnV)])) ∧ Hid (wr.heap[w.heap.size]? = some (.cells #[.int .i64 x0, .int .i64 x1, .int .i64 x2, .int .u64 x3, .int .i64 x4, .int .i64 0, slv p6, slv p7, .int .i64 x12, .slice x13 x14 x15, .bool x16, .slice ha N8 hc] tR)) ∧ Hid (wr.heap[w.heap.size + 1]? = some (.cells #[.int .i64 a.m, .int .i64 a.ow, .int .u64 a.n, .int .i64 a.ep, .bool a.kn, .bool a.rt, .int .i64 a.lu, .slice va N3 vc] tA)) ∧ Hid (wr.heap[w.heap.size + 1 + 1]? = some (.cells #[.int .i64 0, .int .i64 0, .int .i64 0, .int .u64 0, .int .i64 0, .int .i64 0, .slice none 0 0, .slice none 0 0, .int .i64 0, .slice none 0 0, .bool false, .slice none 0 0] tR))) (fun iv _ => N3 - (intOf iv).toNat)
                case atStart => exact ⟨0, (oa, j, oc), (some ⟨g7, 0, none⟩, j, cp7), rfl, by omega, hM9, hp0, hp1, hp2⟩
                case round =>
                  obtain ⟨ii, ⟨o1, o2, o3⟩, ⟨n1, n2, n3⟩, rfl, hii, hM, hr0, hr1, hr2⟩ := hrel
                  simp only [slv] at hM hr0
                  clear hM9 hp0 hp1 hp2
                  obtain ⟨z0, z1, z2, z3, z4, z5, z6, z7, z8, z9, z10, z11, zf, zl⟩ := cells12 hr0.out
                  obtain ⟨k0, k1, k2, k3, k4, k5, k6, k7, kf, kl⟩ := cells8f hr1.out
                  by_cases hlt : ii < N3
                  · have hil : ii < a.ins.length := by rw [hN3i.out]; exact hlt
                    have hlt2 : (ii : Int) < N3 := by omega
                    have hN3b : N3 ≤ 1000 := by have := hl.out; have := hN3i.out; omega
                    obtain ⟨g, o, c', hv, he⟩ := hM.out.oI.r.elem hil
                    rw [hN3i.out] at hv
                    obtain ⟨⟨q0, q1, q2⟩, hq⟩ : ∃ q, a.ins[ii] = q := ⟨_, rfl⟩
                    rw [hq] at he
                    have e0 := he 0 _ rfl
                    have e1 := he 1 _ rfl
                    simp only [shT, Nat.add_zero] at e0 e1
                    have hge := lt_of_cell e0
                    obtain ⟨rfl, rfl⟩ : va = some ⟨g, o, none⟩ ∧ vc = c' := by simpa using hv
                    have hkQ : Keeps [] wr ((wr.alloc (.cells #[.int .i64 q0, .int .u64 q1, .int .i64 a.m] tN)).drew) := ((Keeps.refl _ _).alloc _).drew
                    have hbQ := (drewH _ _).trans (heap_alloc_new wr (.cells #[.int .i64 q0, .int .u64 q1, .int .i64 a.m] tN))
                    replace hbQ := Lib.hid hbQ
                    replace hkQ := Lib.hid hkQ
                    replace hq := Lib.hid hq
                    clear he hv
                    go_wp2
                    refine Free.wp_region_chain (fun i => i == 15 || i == 16) (fun i => true) (fun jj b => jj = 16 ∧ wr.heap.size ≤ b) (by kernel_rfl) (by kernel_rfl) (by kernel_rfl) ?_
                    (repeat (first | (apply Free.cw_pure rfl rfl; (intro w'; go_simp <;> exact rfl); go_frame) | (apply Free.cw_steady rfl rfl rfl; (intro w' hS; have q0 := Free.sx_cell hS k0 (fun _ _ hT => by have := hT.2; omega); have q1 := Free.sx_cell hS k7 (fun _ _ hT => by have := hT.2; omega); have q2 := Free.sx_cell hS e0 (fun _ _ hT => by have := hT.2; omega); have q3 := Free.sx_cell hS e1 (fun _ _ hT => by have := hT.2; omega); go_simp <;> exact rfl); go_frame) | (refine Free.cw_skip rfl ?_; go_frame)))
                    refine Free.cw_loud rfl rfl (fun K hK => ?_)
                    go_wp2
                    refine hK _ _ rfl (Free.KeepsP.alloc _ _ _) ?_
                    clear hK K
                    (repeat (apply Free.cw_pure rfl rfl; (intro w'; go_simp <;> exact rfl); go_frame))
                    refine Free.cw_loud rfl rfl (fun K hK => ?_)
                    go_wp2
                    refine hK _ _ rfl (keepsP_remade (S := fun b => True ∧ wr.heap.size ≤ b) wr _ _ ⟨trivial, Nat.le_refl _⟩).drews ?_
                    clear hK K
                    (repeat (apply Free.cw_pure rfl rfl; (intro w'; go_simp <;> exact rfl); go_frame))
                    refine Free.cw_nil ?_
                    have hM1 := hM.out.keeps hkQ.out
                    have hs0 := (hkQ.out.block _ zl (by simp)).trans hr0.out
                    have hs1 := (hkQ.out.block _ kl (by simp)).trans hr1.out
                    have hs2 := (hkQ.out.block _ (lt_of_blk hr2.out) (by simp)).trans hr2.out
                    obtain ⟨Q, hQ⟩ : ∃ Q, wr.heap.size = Q := ⟨_, rfl⟩
                    rw [hQ] at hbQ
                    try rw [hQ]
                    clear hM hr0 hr1 hr2 z0 z1 z2 z3 z4 z5 z6 z7 z8 z9 z10 z11 zf zl k0 k1 k2 k3 k4 k5 k6 k7 kf kl e0 e1 hge hkQ
                    generalize ((wr.alloc (.cells #[.int .i64 q0, .int .u64 q1, .int .i64 a.m] tN)).drew) = W1 at *
                    clear hQ
                    have hRf := MidS.rf (p6 := (o1, o2, o3)) (p7 := (n1, n2, n3)) (p8 := (ha, N8, hc)) 0 hM1 h.out hXR6.out hLH.out hi.out.nd hk hqk.out (Nat.le_of_lt hil)
                    have hix2 := indexR_c W1 _ _ (nq a (q0, q1, q2)) hRf
                    simp only [slv, rfV, tV, ndq, nq] at hix2
                    obtain ⟨z0, z1, z2, z3, z4, z5, z6, z7, z8, z9, z10, z11, zf, zl⟩ := cells12 hs0
                    obtain ⟨y0, y1, y2⟩ := cells3t hbQ.out
                    replace hix2 := Lib.hid hix2
                    replace hRf := Lib.hid hRf
                    replace hM1 := Lib.hid hM1
                    replace hs0 := Lib.hid hs0
                    replace hs1 := Lib.hid hs1
                    replace hs2 := Lib.hid hs2
                    go_wp2_with fail
                    refine hix2.out.mono ?_
                    rintro e w10 ⟨ix, rfl, hixp, hk10⟩
                    have hM10 := hM1.out.keeps hk10
                    have hu0 := (hk10.block _ zl (by simp)).trans hs0.out
                    have hu1 := (hk10.block _ (lt_of_blk hs1.out) (by simp)).trans hs1.out
                    have hu2 := (hk10.block _ (lt_of_blk hs2.out) (by simp)).trans hs2.out
                    have hbQ10 := (hk10.block _ (lt_of_blk hbQ.out) (by simp)).trans hbQ.out
                    clear z0 z1 z2 z3 z4 z5 z6 z7 z8 z9 z10 z11 zf zl y0 y1 y2 hix2 hRf hM1 hs0 hs1 hs2 hbQ hk10
                    have hqe : a.ins[ii] = (q0, q1, q2) := hq.out
                    rcases hixp with ⟨kk, hkk, rfl, hqk2⟩ | ⟨rfl, hno2⟩
                    case inl =>
                      have hmem : nq a a.ins[ii] ∈ (t.mid a ii).op := by
                        rw [hqe]
                        exact List.mem_map.2 ⟨_, List.getElem_mem hkk, hqk2⟩
                      obtain ⟨g1, g2⟩ := midX_old (X := XA6) (k := k) (y := (⟨a.m, a.ow, a.n, a.ep, a.kn, a.rt, a.lu, some ⟨g, o, none⟩, N3, vc⟩ : AnV)) hil hmem
                      have hM11 : Hid (MidS w w10 a B (slv (o1, o2, o3)) (slv (n1, n2, n3)) (.slice ha N8 hc) (.slice (some ⟨g, o, none⟩) N3 vc) ((t.mid a (ii + 1)).op.map ndq) (midX t a XA6 k (⟨a.m, a.ow, a.n, a.ep, a.kn, a.rt, a.lu, some ⟨g, o, none⟩, N3, vc⟩ : AnV) (ii + 1)) (XH ++ [(⟨a.m, a.ow, a.n, a.ep, a.kn, a.rt, a.lu, some ⟨g, o, none⟩, N3, vc⟩ : AnV)])) := Lib.hid (by rw [g1, g2]; exact hM10)
                      replace hu0 := Lib.hid hu0
                      replace hu1 := Lib.hid hu1
                      replace hu2 := Lib.hid hu2
                      have hkk0 : decide ((kk : Int) < 0) = false := by simp
                      clear hmem hqe g1 g2 hM10 hqk2 hbQ10
                      go_wp2
                      go_roundw
                      case rel => exact ⟨ii + 1, (o1, o2, o3), (n1, n2, n3), rfl, by omega, hM11, hu0, hu1, hu2⟩
                      case measure => simp [intOf]; omega
                    case inr =>
                      have hnm : nq a a.ins[ii] ∉ (t.mid a ii).op := by rw [hqe]; exact hno2
                      obtain ⟨g1, g2⟩ := midX_new (X := XA6) (k := k) (y := (⟨a.m, a.ow, a.n, a.ep, a.kn, a.rt, a.lu, some ⟨g, o, none⟩, N3, vc⟩ : AnV)) hil hnm
                      have hndq : ndq (nq a a.ins[ii]) = (q0, q1, a.m) := by rw [hqe]; rfl
                      rw [hndq] at g2
                      obtain ⟨y0, y1, y2⟩ := cells3t hbQ10
                      have hmade := Sh.R.made shT w10 [(q0, q1, a.m)] #[.int .i64 q0, .int .u64 q1, .int .i64 a.m] tN rfl (by simp [maxLen]) 1 rfl
                      have hkM := (Keeps.refl [] w10).alloc (.cells #[.int .i64 q0, .int .u64 q1, .int .i64 a.m] tN)
                      have hMm := hM10.keeps hkM
                      have hm0 := (hkM.block _ (lt_of_blk hu0) (by simp)).trans hu0
                      have hm1 := (hkM.block _ (lt_of_blk hu1) (by simp)).trans hu1
                      have hm2 := (hkM.block _ (lt_of_blk hu2) (by simp)).trans hu2
                      have hlm : (t.mid a ii).qs.length ≤ 2000 := by have := Tr.mid_le t a ii (by omega); have := hl.out; omega
                      have hbd : (((t.mid a ii).op.map ndq).length + [(q0, q1, a.m)].length) * (24 + 1) ≤ 140737488355328 := by simp [Tr.op]; omega
                      have hB0 : w.heap.size ≤ (w10.alloc (.cells #[.int .i64 q0, .int .u64 q1, .int .i64 a.m] tN)).heap.size := hMm.kw.size
                      obtain ⟨z0, z1, z2, z3, z4, z5, z6, z7, z8, z9, z10, z11, zf, zl⟩ := cells12 hu0
                      replace hmade := Lib.hid hmade
                      replace hMm := Lib.hid hMm
                      replace hm0 := Lib.hid hm0
                      replace hm1 := Lib.hid hm1
                      replace hm2 := Lib.hid hm2
                      replace hbd := Lib.hid hbd
                      replace hB0 := Lib.hid hB0
                      replace g1 := Lib.hid g1
                      replace g2 := Lib.hid g2
                      clear hqe hno2 hnm hndq hM10 hkM hu0 hu1 hu2 hbQ10
                      go_upto_region 29 with (first
                        | (at_builtin; (refine Sh.wpl_app shT w.heap.size infoN rfl Tryz.underlying85 (.slice o1 o2 o3) (.slice (some ⟨w10.heap.size, 0, none⟩) 1 1) _ [(q0, q1, a.m)] rfl _ _ rfl rfl rfl hMm.out.o6 hmade.out hbd.out hB0.out ?_; intro v5 w5 hO5 hG5; obtain ⟨p1, p3, hf5⟩ := hO5.form; generalize (((t.mid a ii).op.map ndq) ++ [(q0, q1, a.m)]).length = p2 at hf5; subst hf5; have hM5 := hMm.out.grow6 hO5 hG5; have h50 := grwBlk hG5 hMm.out.o6.tag hm0.out (by decide); have h51 := grwBlk hG5 hMm.out.o6.tag hm1.out (by decide); have h52 := grwBlk hG5 hMm.out.o6.tag hm2.out (by decide); clear hO5 hG5 hMm hm0 hm1 hm2 hbd hB0 hmade z0 z1 z2 z3 z4 z5 z6 z7 z8 z9 z10 z11 zf zl y0 y1 y2; obtain ⟨z0, z1, z2, z3, z4, z5, z6, z7, z8, z9, z10, z11, zf, zl⟩ := cells12 h50; replace hM5 := Lib.hid hM5; replace h50 := Lib.hid h50; replace h51 := Lib.hid h51; replace h52 := Lib.hid h52))
                        | fail)
                      have hkS : Keeps [w.heap.size] w5 (w5.setCell ⟨w.heap.size, 6, none⟩ (.slice p1 p2 p3)) := (Keeps.refl _ _).setCell (.inr (by simp)) _
                      have hv0 := setCs h50.out 6 (.slice p1 p2 p3)
                      replace hv0 : (w5.setCell ⟨w.heap.size, 6, none⟩ (.slice p1 p2 p3)).heap[w.heap.size]? = some (.cells #[.int .i64 x0, .int .i64 x1, .int .i64 x2, .int .u64 x3, .int .i64 x4, .int .i64 0, .slice p1 p2 p3, .slice n1 n2 n3, .int .i64 x12, .slice x13 x14 x15, .bool x16, .slice ha N8 hc] tR) := by simpa using hv0
                      have hv1 := (hkS.block _ (lt_of_blk h51.out) (by simp)).trans h51.out
                      have hv2 := (hkS.block _ (lt_of_blk h52.out) (by simp; omega)).trans h52.out
                      have hM6 := hM5.out.boxes hkS (fun b hb => by simp at hb; subst hb; exact ⟨Nat.le_refl _, _, h50.out⟩)
                      clear hkS hM5 h50 h51 h52 z0 z1 z2 z3 z4 z5 z6 z7 z8 z9 z10 z11 zf zl
                      generalize (w5.setCell ⟨w.heap.size, 6, none⟩ (.slice p1 p2 p3)) = W6 at *
                      have hmade := Sh.R.made shA W6 [AnV.zero] #[.int .i64 0, .int .i64 0, .int .u64 0, .int .i64 0, .bool false, .bool false, .int .i64 0, .slice none 0 0] tA rfl (by simp [maxLen]) 1 rfl
                      have hkM := (Keeps.refl [] W6).alloc (.cells #[.int .i64 0, .int .i64 0, .int .u64 0, .int .i64 0, .bool false, .bool false, .int .i64 0, .slice none 0 0] tA)
                      have hMm := hM6.keeps hkM
                      have hm0 := (hkM.block _ (lt_of_blk hv0) (by simp)).trans hv0
                      have hm1 := (hkM.block _ (lt_of_blk hv1) (by simp)).trans hv1
                      have hm2 := (hkM.block _ (lt_of_blk hv2) (by simp)).trans hv2
                      obtain ⟨z0, z1, z2, z3, z4, z5, z6, z7, z8, z9, z10, z11, zf, zl⟩ := cells12 hv0
                      have hXl : XA6.length = t.qs.length := hXR6.out.1
                      have hbd : ((midX t a XA6 k (⟨a.m, a.ow, a.n, a.ep, a.kn, a.rt, a.lu, some ⟨g, o, none⟩, N3, vc⟩ : AnV) ii).length + [AnV.zero].length) * (72 + 1) ≤ 140737488355328 := by simp [midX]; have := hl.out; omega
                      have hB0 : B ≤ (W6.alloc (.cells #[.int .i64 0, .int .i64 0, .int .u64 0, .int .i64 0, .bool false, .bool false, .int .i64 0, .slice none 0 0] tA)).heap.size := hMm.wB
                      replace hmade := Lib.hid hmade
                      replace hMm := Lib.hid hMm
                      replace hm0 := Lib.hid hm0
                      replace hm1 := Lib.hid hm1
                      replace hm2 := Lib.hid hm2
                      replace hbd := Lib.hid hbd
                      replace hB0 := Lib.hid hB0
                      clear hM6 hkM hv0 hv1 hv2 hXl
                      go_upto_region 25 with (first
                        | (at_builtin; (refine Sh.wpl_app shA B infoA rfl Tryz.underlying67 (.slice n1 n2 n3) (.slice (some ⟨W6.heap.size, 0, none⟩) 1 1) _ [AnV.zero] rfl _ _ rfl rfl rfl hMm.out.o7 hmade.out hbd.out hB0.out ?_; intro v7 w7 hO7 hG7; obtain ⟨s1, s3, hf7⟩ := hO7.form; generalize ((midX t a XA6 k (⟨a.m, a.ow, a.n, a.ep, a.kn, a.rt, a.lu, some ⟨g, o, none⟩, N3, vc⟩ : AnV) ii) ++ [AnV.zero]).length = s2 at hf7; subst hf7; have hM7 := hMm.out.grow7 hO7 hG7; have h70 := grwBlk hG7 hMm.out.o7.tag hm0.out (by decide); have h72 := grwBlk hG7 hMm.out.o7.tag hm2.out (by decide); have h71 := (hG7.keepsO.block _ (lt_of_blk hm1.out) (fun hm => by have := hMm.out.o7.ge _ (by simpa using hm); have := hB1.out; omega)).trans hm1.out; clear hO7 hG7 hMm hm0 hm1 hm2 hbd hB0 hmade z0 z1 z2 z3 z4 z5 z6 z7 z8 z9 z10 z11 zf zl; obtain ⟨z0, z1, z2, z3, z4, z5, z6, z7, z8, z9, z10, z11, zf, zl⟩ := cells12 h70; replace hM7 := Lib.hid hM7; replace h70 := Lib.hid h70; replace h72 := Lib.hid h72))
                        | fail)
                      have hkS : Keeps [w.heap.size] w7 (w7.setCell ⟨w.heap.size, 7, none⟩ (.slice s1 s2 s3)) := (Keeps.refl _ _).setCell (.inr (by simp)) _
                      have hv0 := setCs h70.out 7 (.slice s1 s2 s3)
                      replace hv0 : (w7.setCell ⟨w.heap.size, 7, none⟩ (.slice s1 s2 s3)).heap[w.heap.size]? = some (.cells #[.int .i64 x0, .int .i64 x1, .int .i64 x2, .int .u64 x3, .int .i64 x4, .int .i64 0, .slice p1 p2 p3, .slice s1 s2 s3, .int .i64 x12, .slice x13 x14 x15, .bool x16, .slice ha N8 hc] tR) := by simpa using hv0
                      have hv1 := (hkS.block _ (lt_of_blk h71) (by simp)).trans h71
                      have hv2 := (hkS.block _ (lt_of_blk h72.out) (by simp; omega)).trans h72.out
                      have hM8 := hM7.out.boxes hkS (fun b hb => by simp at hb; subst hb; exact ⟨Nat.le_refl _, _, h70.out⟩)
                      rw [← g1.out, ← g2.out] at hM8
                      replace hM8 := Lib.hid hM8
                      replace hv0 := Lib.hid hv0
                      replace hv1 := Lib.hid hv1
                      replace hv2 := Lib.hid hv2
                      clear hkS hM7 h70 h71 h72 z0 z1 z2 z3 z4 z5 z6 z7 z8 z9 z10 z11 zf zl
                      generalize (w7.setCell ⟨w.heap.size, 7, none⟩ (.slice s1 s2 s3)) = W8 at *
                      go_wp2
                      go_roundw
                      case rel => exact ⟨ii + 1, (p1, p2, p3), (s1, s2, s3), rfl, by omega, hM8, hv0, hv1, hv2⟩
                      case measure => simp [intOf]; omega
                  · have hie : ii = a.ins.length := by have := hN3i.out; omega
                    have hf : ¬ ((ii : Int) < N3) := by omega
                    have ho2 : o2 = (t.mid a ii).qs.length := by obtain ⟨c1, c2, hc1, _⟩ := hM.out.o6.r.form; injection hc1 with _ e; rw [e]; simp [Tr.op]
                    have hle2 : (t.mid a ii).qs.length ≤ 1000 := by have := Tr.mid_le t a ii (by omega); have := hl.out; omega
                    have hgt : ¬ ((1024 : Int) < o2) := by omega
                    replace ho2 := Lib.hid ho2
                    have hRf := MidS.rf (p6 := (o1, o2, o3)) (p7 := (n1, n2, n3)) (p8 := (ha, N8, hc)) 0 hM.out h.out hXR6.out hLH.out hi.out.nd hk hqk.out (by omega)
                    have hrk := Tr.mid_rk hi.out (by simpa using hop'.out) hkb.out ii
                    replace hRf := Lib.hid hRf
                    replace hrk := Lib.hid hrk
                    replace hie := Lib.hid hie
                    clear hlt hii
                    go_wp2
                    obtain ⟨wM, hwM⟩ : ∃ x, x = wr := ⟨_, rfl⟩
                    subst hwM
                    clear hf
                    go_loopw [10] (fun iv wq => ∃ q : Nat, iv = .int .i64 q ∧ q ≤ o2 ∧ Hid (∀ n (hn : n < (t.mid a ii).qs.length), n < q → (t.mid a ii).qs[n].2.isSome = true) ∧ Hid (Keeps [] wM wq)) (fun iv _ => o2 - (intOf iv).toNat)
                    case atStart => exact ⟨0, rfl, by omega, Lib.hid (fun n _ h => absurd h (by omega)), Lib.hid (Keeps.refl _ _)⟩
                    case round =>
                      obtain ⟨q, rfl, hq, hsome, hkq⟩ := hrel
                      have hM2 := hM.out.keeps hkq.out
                      have hv0 := (hkq.out.block _ zl (by simp)).trans hr0.out
                      have hv1 := (hkq.out.block _ kl (by simp)).trans hr1.out
                      have hv2 := (hkq.out.block _ (lt_of_blk hr2.out) (by simp)).trans hr2.out
                      have hRq := hRf.out.keeps hkq.out
                      clear hM hr0 hr1 hr2 z0 z1 z2 z3 z4 z5 z6 z7 z8 z9 z10 z11 zf zl k0 k1 k2 k3 k4 k5 k6 k7 kf kl
                      obtain ⟨z0, z1, z2, z3, z4, z5, z6, z7, z8, z9, z10, z11, zf, zl⟩ := cells12 hv0
                      replace hM2 := Lib.hid hM2
                      have fz : ∀ o, wr.frozen? ⟨w.heap.size + 1 + 1, o, none⟩ = false := fun o => by simp [World.frozen?, hv2]
                      replace hv0 := Lib.hid hv0
                      replace hv1 := Lib.hid hv1
                      replace hv2 := Lib.hid hv2
                      by_cases hlt : q < o2
                      · have hlt2 : (q : Int) < o2 := by omega
                        have hqm : q < (t.mid a ii).qs.length := by rw [← ho2.out]; exact hlt
                        have hans := answeredR_c wr _ _ q hRq hrk.out hqm
                        simp only [rfV, slv] at hans
                        replace hans := Lib.hid hans
                        replace hRq := Lib.hid hRq
                        go_wp2_with fail
                        refine hans.out.mono ?_
                        rintro e w10 ⟨rfl, hk10⟩
                        have hM3 := hM2.out.keeps hk10
                        have hu0 := (hk10.block _ zl (by simp)).trans hv0.out
                        have hu1 := (hk10.block _ (lt_of_blk hv1.out) (by simp)).trans hv1.out
                        have hu2 := (hk10.block _ (lt_of_blk hv2.out) (by simp)).trans hv2.out
                        replace hM3 := Lib.hid hM3
                        have hkq2 := Lib.hid (hkq.out.trans hk10)
                        clear fz hans hRq hM2 hv0 hv1 hv2 hkq hk10 z0 z1 z2 z3 z4 z5 z6 z7 z8 z9 z10 z11 zf zl
                        obtain ⟨z0, z1, z2, z3, z4, z5, z6, z7, z8, z9, z10, z11, zf, zl⟩ := cells12 hu0
                        have fz : ∀ o, w10.frozen? ⟨w.heap.size + 1 + 1, o, none⟩ = false := fun o => by simp [World.frozen?, hu2]
                        replace hu0 := Lib.hid hu0
                        replace hu1 := Lib.hid hu1
                        replace hu2 := Lib.hid hu2
                        cases hb : (t.mid a ii).qs[q].2.isSome
                        case true =>
                          replace hb := Lib.hid hb
                          go_wp2
                          go_roundw
                          case rel => exact ⟨q + 1, rfl, by omega, Lib.hid (fun n hn h => by
                            rcases Nat.lt_or_ge n q with h' | h'
                            · exact hsome.out n hn h'
                            · have e : n = q := by omega
                              subst e
                              exact hb.out), hkq2⟩
                          case measure => simp [intOf]; omega
                        case false =>
                          replace hb := Lib.hid hb
                          obtain ⟨q0, q1, q2, q3, q4, q5, q6, q7, q8, q9, q10, q11, qf, ql⟩ := cells12 hu2.out
                          clear fz
                          go_wp2
                          have hall : allQ (t.mid a ii).qs = false := by
                            unfold allQ
                            rw [List.all_eq_false]
                            exact ⟨_, List.getElem_mem hqm, by rw [hb.out]; decide⟩
                          obtain ⟨e1, e2⟩ := st12 (x0 := .int .i64 x0) (x1 := .int .i64 x1) (x2 := .int .i64 x2) (x3 := .int .u64 x3) (x4 := .int .i64 x4) (x5 := .int .i64 0) (x6 := .slice o1 o2 o3) (x7 := .slice n1 n2 n3) (x8 := .int .i64 x12) (x9 := .slice x13 x14 x15) (x10 := .bool x16) (x11 := .slice ha N8 hc) hu2.out
                          have hM4 := hM3.out.boxes e2 (fun b hb => by simp only [List.mem_singleton] at hb; subst hb; exact ⟨by omega, _, hu2.out⟩)
                          have hR4 := MidS.rf (p6 := (o1, o2, o3)) (p7 := (n1, n2, n3)) (p8 := (ha, N8, hc)) 0 hM4 h.out hXR6.out hLH.out hi.out.nd hk hqk.out (by have := hie.out; omega)
                          have hF4 := MidS.fsh (p6 := (o1, o2, o3)) (p7 := (n1, n2, n3)) (p8 := (ha, N8, hc)) hM4 ⟨x0, x1, x2, x3, x4, 0, (x6, j, x8), (x9, j, x11), x12, (x13, x14, x15), x16, (x17, x18, x19)⟩ 0
                          have hr := Tr.answerR_fin hs.out hop'.out hkb.out hrb.out hodd.out ii hie.out
                          rw [hall, if_neg (by decide)] at hr
                          refine bodyPost_ret (results_rf rfl _ _ _ _ _ _ _ _ _ _ _ _ _ _ _ _ _ rfl e1) ?_ ?_
                          · rfl
                          · rw [hr]
                            exact ⟨_, rfl, hR4, hM4.kw, hF4⟩
                      · have hall : Hid (allQ (t.mid a ii).qs = true) := Lib.hid (by
                          unfold allQ
                          rw [List.all_eq_true]
                          intro p hp
                          obtain ⟨n, hn, rfl⟩ := List.getElem_of_mem hp
                          exact hsome.out n hn (by have := ho2.out; omega))
                        have hn : ¬ ((q : Int) < o2) := by omega
                        obtain ⟨q0, q1, q2, q3, q4, q5, q6, q7, q8, q9, q10, q11, qf, ql⟩ := cells12 hv2.out
                        clear fz
                        go_wp2
                        have hkk := (Keeps.refl [w.heap.size] wr).setCell (p := ⟨w.heap.size, 5, none⟩) (.inr (by simp)) (.int .i64 1)
                        have hb2 := (hkk.block _ (lt_of_blk hv2.out) (by simp; omega)).trans hv2.out
                        have hM3 := hM2.out.boxes hkk (fun b hb => by simp only [List.mem_singleton] at hb; subst hb; exact ⟨Nat.le_refl _, _, hv0.out⟩)
                        obtain ⟨e1, e2⟩ := st12 (x0 := .int .i64 x0) (x1 := .int .i64 x1) (x2 := .int .i64 x2) (x3 := .int .u64 x3) (x4 := .int .i64 x4) (x5 := .int .i64 1) (x6 := .slice o1 o2 o3) (x7 := .slice n1 n2 n3) (x8 := .int .i64 x12) (x9 := .slice x13 x14 x15) (x10 := .bool x16) (x11 := .slice ha N8 hc) hb2
                        have hM4 := hM3.boxes e2 (fun b hb => by simp only [List.mem_singleton] at hb; subst hb; exact ⟨by omega, _, hb2⟩)
                        have hR4 := MidS.rf (p6 := (o1, o2, o3)) (p7 := (n1, n2, n3)) (p8 := (ha, N8, hc)) 1 hM4 h.out hXR6.out hLH.out hi.out.nd hk hqk.out (by have := hie.out; omega)
                        have hF4 := MidS.fsh (p6 := (o1, o2, o3)) (p7 := (n1, n2, n3)) (p8 := (ha, N8, hc)) hM4 ⟨x0, x1, x2, x3, x4, 0, (x6, j, x8), (x9, j, x11), x12, (x13, x14, x15), x16, (x17, x18, x19)⟩ 1
                        have hr := Tr.answerR_fin hs.out hop'.out hkb.out hrb.out hodd.out ii hie.out
                        rw [hall.out, if_pos rfl] at hr
                        refine bodyPost_ret (results_rf rfl _ _ _ _ _ _ _ _ _ _ _ _ _ _ _ _ _ rfl e1) ?_ ?_
                        · rfl
                        · rw [hr]
                          exact ⟨_, rfl, hR4, hM4.kw, hF4⟩
end Go.Proofs.YtpobepninifenaaGreat

namespace Go.Proofs.YtpobepninifenaaGreat
open Go.RowKit
namespace TrM
variable {w w' : World} {B bt bm : Nat} {vo vh vg : Value} {t : Tr}
theorem setAg (h : TrM w B bt bm vo vh vg t) {vg' : Value} {m : Int} (hG : Grw w w' vg vg') (hO : shZ.O w' B 3 vg' (t.ag ++ [m])) :
    TrM (w'.setCell ⟨bt, 10, none⟩ vg') B bt bm vo vh vg' { t with ag := t.ag ++ [m] } ∧ Keeps [bt] w' (w'.setCell ⟨bt, 10, none⟩ vg') ∧ KI w w' ∧ KI w' (w'.setCell ⟨bt, 10, none⟩ vg') := by
  obtain ⟨n1, n2, n3, n4⟩ := h.ne_bt
  obtain ⟨X0, hX0, hX0L⟩ := h.hi
  obtain ⟨R, hR, hRL⟩ := h.mp
  have hk := hG.keepsO
  have hi : KI w w' := hk.ki (fun b hb cs f e => by
    obtain ⟨cs', hc⟩ := h.ag.tag b (by simpa using hb)
    exact tag_ne hc e (by decide) rfl)
  have hne : ∀ (e : TypeId) (b : Nat) (cs : Array Value), w.heap[b]? = some (Obj.cells cs e (0, 0)) → 3 ≠ e → b ∉ vg.ownBlock.toList := fun e b cs hb hn hm => by
    obtain ⟨cs', hc⟩ := h.ag.tag b (by simpa using hm)
    exact tag_ne hc hb hn rfl
  have hblk : w'.heap[bt]? = _ := (hk.block bt h.lt.1 (hne _ _ _ h.blk (by decide))).trans h.blk
  have hhi : shA.O w' B tA vh X0 := hX0.keepS hk (fun b hb e => by obtain ⟨cs, hc⟩ := hX0.tag b e; exact hne _ _ _ hc (by decide) hb)
  have hop : shQ.O w' B tQ vo t.op := h.op.keepS hk (fun b hb e => by obtain ⟨cs, hc⟩ := h.op.tag b e; exact hne _ _ _ hc (by decide) hb)
  have hR' : MapS.M ktQ aV w' bm R := hR.kept ktQ hk (fun hm => by
    obtain ⟨cs', hc⟩ := h.ag.tag bm (by simpa using hm)
    obtain ⟨es, c, hmm⟩ := hR.isMap
    rw [hc] at hmm; cases hmm)
  obtain ⟨hk2, hi2⟩ := Keeps.setT (o := 10) hblk vg'
  have hnv : vg'.ownBlock ≠ some bt := fun e => by
    obtain ⟨cs, hc⟩ := hO.tag bt e
    exact tag_ne hblk hc (by decide) rfl
  refine ⟨⟨?_, hop.keepS hk2 (by simpa using n2), ⟨X0, hhi.keepS hk2 (by simpa using n3), (hX0L.ki hi).ki hi2⟩, hO.keepS hk2 (by simpa using hnv), ⟨R, hR'.kept ktQ hk2 (by simpa using n1), (hRL.ki hi).ki hi2⟩, ⟨h.inv.ok, h.inv.nd, h.inv.rq, h.inv.rk, h.inv.hi, h.inv.ro⟩, h.bB⟩, hk2, hi, hi2⟩
  have := setCs hblk 10 vg'
  simpa using this
theorem mvAg {vg' : Value} {m : Int} (h : TrM w B bt bm vo vh vg t) (hG : Grw w w' vg vg') (hO : shZ.O w' B 3 vg' (t.ag ++ [m])) :
    Mv (ownT bt bm vo vh vg) (ownT bt bm vo vh vg') w (w'.setCell ⟨bt, 10, none⟩ vg') := by
  obtain ⟨_, hk, hi, hi2⟩ := h.setAg hG hO
  refine ⟨(hG.keepsO.mono (fun b hb => mem_ownT.2 (.inr (.inr (.inr (.inr (by simpa using hb))))))).trans (hk.mono (fun b hb => by simp at hb; subst hb; exact mem_ownT.2 (.inl rfl))), hi.trans hi2, fun b hb => ?_⟩
  rcases mem_ownT.1 hb with e | e | e | e | e
  · exact .inl (mem_ownT.2 (.inl e))
  · exact .inl (mem_ownT.2 (.inr (.inl e)))
  · exact .inl (mem_ownT.2 (.inr (.inr (.inl e))))
  · exact .inl (mem_ownT.2 (.inr (.inr (.inr (.inl e)))))
  · rcases hG.own with e2 | ⟨k, e2, hle⟩
    · exact .inl (mem_ownT.2 (.inr (.inr (.inr (.inr (e2 ▸ e))))))
    · rw [e2] at e; cases e; exact .inr hle
end TrM
/-- What agreeing leaves. -/
def AgrPost (w : World) (B bt bm : Nat) (vo vh vg : Value) (t : Tr) (m : Int) (e : Ending) (w' : World) : Prop :=
  ∃ vg', e = .returned (.int .i64 (t.agreeT m).2) ∧ TrM w' B bt bm vo vh vg' (t.agreeT m).1 ∧ Mv (ownT bt bm vo vh vg) (ownT bt bm vo vh vg') w w'
theorem AgrPost.of {w w' : World} {B bt bm : Nat} {vo vh vg vg' : Value} {t t' : Tr} {m r : Int} (he : t.agreeT m = (t', r)) (hT : TrM w' B bt bm vo vh vg' t') (hM : Mv (ownT bt bm vo vh vg) (ownT bt bm vo vh vg') w w') : AgrPost w B bt bm vo vh vg t m (.returned (.int .i64 r)) w' := by
  unfold AgrPost
  rw [he]
  exact ⟨vg', rfl, hT, hM⟩
set_option maxRecDepth 100000 in
set_option maxHeartbeats 4000000 in
theorem agree_c (w : World) (B bt bm : Nat) (vo vh vg : Value) (t : Tr) (m : Int) (h : TrM w B bt bm vo vh vg t) (hl : t.qs.length ≤ 1000) (hl2 : t.ag.length ≤ 1000) (hag : t.state = 1 → t.ag.length < t.clm.length) :
    Calls Tryz.prog 39 #[.pointer (some ⟨bt, 0, none⟩), .int .i64 m] w (AgrPost w B bt bm vo vh vg t m) := by
  have hc := pending_c w B bt bm vo vh vg t m h hl (fun hs P Y hY hP => by rw [Tr.clm_eq h.inv hY hP]; exact hag hs)
  have hinv := h.inv
  replace hc := Lib.hid hc
  replace h := Lib.hid h
  clear hag
  go_enter Tryz.func39, Tryz.ntmps39
  go_wp2_with fail
  refine hc.out.mono ?_
  rintro e w1 ⟨r, rfl, hk, hcase⟩
  have hT := h.out.keeps hk
  by_cases hr : r = 0
  · have hc2 : t.state = 1 ∧ ∃ p, t.clm[t.ag.length]? = some p ∧ p.m = m := by
      rcases hcase with ⟨_, h2⟩ | ⟨h1, P, Y, p, h2, h3, h4, h5⟩
      · omega
      · refine ⟨h1, p, ?_, ?_⟩
        · rw [← Tr.clm_eq hinv h2 h3]; exact h4
        · by_cases e : p.m = m
          · exact e
          · rw [if_neg e] at h5; omega
    obtain ⟨h1, p, h4, h5⟩ := hc2
    have hres : t.agreeT m = ({ t with ag := t.ag ++ [m], state := if t.ag.length + 1 = t.clm.length then 2 else t.state }, 0) := by
      unfold Tr.agreeT
      rw [if_neg (by simp [h1]), h4]
      simp only
      rw [if_neg (by simp [h5])]
    subst hr
    obtain ⟨ga, gc, rfl⟩ := hT.ag.form
    obtain ⟨LG, hLG⟩ : ∃ n, t.ag.length = n := ⟨_, rfl⟩
    rw [hLG] at hT ⊢
    have d10 := hT.cells.2.2.2.2.2.2.2.2.2.2.1
    have hfr := hT.free
    have hlt := hT.lt
    have hbB := hT.bB
    have hkA := (Keeps.refl [] w1).alloc (.cells #[.int .i64 m] 3)
    have hTA := hT.keeps hkA
    have hm1 := Sh.R.made shZ w1 [m] #[.int .i64 m] 3 rfl (by simp [maxLen]) 1 rfl
    have hsA : B ≤ (w1.alloc (.cells #[.int .i64 m] 3)).heap.size := by simp; omega
    have hOA := hTA.ag
    replace hTA := Lib.hid hTA
    replace hm1 := Lib.hid hm1
    replace hOA := Lib.hid hOA
    have hkw := Lib.hid (hk.trans hkA)
    replace hres := Lib.hid hres
    replace h1 := Lib.hid h1
    replace hLG := Lib.hid hLG
    clear hcase hT h4 h5 hk hkA hc
    go_upto_region 5 with (at_builtin; go_loud (refine Sh.wpl_app shZ B infoZ rfl Tryz.underlying86 (.slice ga LG gc) (.slice (some ⟨w1.heap.size, 0, none⟩) 1 1) t.ag [m] rfl _ _ rfl rfl rfl hOA.out hm1.out (by simp only [List.length_singleton]; omega) hsA ?_; intro v2 w2 hO2 hG2; have hS := hTA.out.setAg hG2 hO2; have hMv := hTA.out.mvAg hG2 hO2; have hb2 := (hG2.keepsO.block bt hTA.out.lt.1 (fun hm => by obtain ⟨cs', hc⟩ := hOA.out.tag bt (by simpa using hm); exact tag_ne hc hTA.out.blk (by decide) rfl)).trans hTA.out.blk; have d2 := (show w2.cell? ⟨bt, 10, none⟩ = some (.slice ga LG gc) by simp [World.cell?, hb2]); have hf2 := (show ∀ o, w2.frozen? ⟨bt, o, none⟩ = false by intro o; simp [World.frozen?, hb2]); have hl2' := lt_of_blk hb2; obtain ⟨g2, c2, rfl⟩ := hO2.form; obtain ⟨L2, hL2⟩ : ∃ n, (t.ag ++ [m]).length = n := ⟨_, rfl⟩; rw [hL2] at hO2 hS hMv ⊢; replace hS := Lib.hid hS; replace hMv := Lib.hid hMv; clear hO2 hG2 hb2 d10))
    have hT3 := hS.out.1
    have hMv3 := (Mv.nil hkw.out).trans hMv.out
    generalize w2.setCell ⟨bt, 10, none⟩ (.slice g2 L2 c2) = w3 at *
    have hcl := claims_c w3.drew B bt bm vo vh _ _ (hT3.keeps ((Keeps.refl [] w3).drew)) hl
    have d10 := hT3.cells.2.2.2.2.2.2.2.2.2.2.1
    have hfr := hT3.free
    have hlt := hT3.lt
    replace hT3 := Lib.hid hT3
    replace hMv3 := Lib.hid hMv3
    replace hcl := Lib.hid hcl
    clear hS hMv hkw hTA hm1 hOA d2 hf2 hl2'
    go_wp2
    refine Free.wp_region_chain (fun i => i == 6) (fun i => true) (fun _ _ => False) (by kernel_rfl) (by kernel_rfl) (by kernel_rfl) ?_
    (repeat (first | (apply Free.cw_pure rfl rfl; (intro w'; go_simp <;> exact rfl); go_frame) | (apply Free.cw_steady rfl rfl rfl; (intro w' hS; have q0 := Free.sx_cell hS d10 (fun _ _ hT => hT); go_simp <;> exact rfl); go_frame) | (refine Free.cw_skip rfl ?_; go_frame)))
    refine Free.cw_loud rfl rfl (fun K hK => ?_)
    go_wp2_with fail
    refine hcl.out.mono ?_
    rintro e w4 ⟨v4, P, V, Bc, Y, rfl, _, hCL, hY, hP, k4⟩
    refine hK _ _ rfl (Free.KeepsP.of k4 (by simp)) ?_
    clear hK K hcl
    obtain ⟨a4, c4, rfl⟩ := hCL.c.form
    have hPe : P = t.clm := by
      have := Tr.clm_eq (t := { t with ag := t.ag ++ [m] }) hT3.out.inv hY hP
      rw [this]; rfl
    obtain ⟨LP, hLP⟩ : ∃ n, (rowsC P V).length = n := ⟨_, rfl⟩
    have hLP2 : LP = t.clm.length := by rw [← hLP, ← hPe]; simp [rowsC]
    rw [hLP]
    have hT4 := hT3.out.keeps (((Keeps.refl [] w3).drew).trans k4)
    have hMv4 := hMv3.out.trans (Mv.nil (((Keeps.refl [] w3).drew).trans k4))
    have hfr4 := hT4.free
    have d9 := hT4.cells.2.2.2.2.2.2.2.2.2.1
    have hL2g : L2 = t.ag.length + 1 := by rw [← hL2]; simp
    replace hLP := Lib.hid hLP
    replace hL2 := Lib.hid hL2
    replace hT4 := Lib.hid hT4
    replace hMv4 := Lib.hid hMv4
    clear hCL hPe k4 hT3 hMv3
    by_cases heq : t.ag.length + 1 = t.clm.length
    · have hb : L2 = LP := by omega
      rw [if_pos heq] at hres
      have hb2 : ((L2 : Int) == (LP : Int)) = true := by simp [hb]
      replace hb := Lib.hid hb
      replace heq := Lib.hid heq
      replace hLP2 := Lib.hid hLP2
      replace hL2g := Lib.hid hL2g
      (repeat (apply Free.cw_pure rfl rfl; (intro w'; go_simp <;> exact rfl); go_frame))
      refine Free.cw_nil ?_
      clear d10
      go_wp2
      go_ret
      rw [hLG.out]
      exact AgrPost.of hres.out (hT4.out.setState 2) (hMv4.out.trans (hT4.out.mvSet 9 _))
    · have hb : ¬ L2 = LP := by omega
      rw [if_neg heq] at hres
      have hb2 : ((L2 : Int) == (LP : Int)) = false := by simp; omega
      replace hb := Lib.hid hb
      replace heq := Lib.hid heq
      replace hLP2 := Lib.hid hLP2
      replace hL2g := Lib.hid hL2g
      (repeat (apply Free.cw_pure rfl rfl; (intro w'; go_simp <;> exact rfl); go_frame))
      refine Free.cw_nil ?_
      clear d10
      go_wp2
      go_ret
      rw [hLG.out]
      exact AgrPost.of hres.out hT4.out hMv4.out
  · have br : (r != 0) = true := by simpa using hr
    have hres : t.agreeT m = (t, r) := by
      rcases hcase with ⟨h1, h2⟩ | ⟨h1, P, Y, p, h2, h3, h4, h5⟩
      · unfold Tr.agreeT; rw [if_pos h1, h2]
      · rw [Tr.clm_eq hinv h2 h3] at h4
        by_cases e : p.m = m
        · rw [if_pos e] at h5; exact absurd h5 hr
        · rw [if_neg e] at h5
          unfold Tr.agreeT
          rw [if_neg (by simp [h1]), h4]
          simp only
          rw [if_pos e, h5]
    replace hT := Lib.hid hT
    replace hk := Lib.hid hk
    replace hres := Lib.hid hres
    clear hcase
    go_wp2
    go_ret
    exact AgrPost.of hres.out hT.out (Mv.nil hk.out)
end Go.Proofs.YtpobepninifenaaGreat
