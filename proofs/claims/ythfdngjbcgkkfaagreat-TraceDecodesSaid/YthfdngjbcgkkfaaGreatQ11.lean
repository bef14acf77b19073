/- Texts that the laws lean on, in the order in which they build. The law's step. (Printed by mktrstep.py.) The law's same. (Printed by mktrsame.py.) The law's few: few operations with short insets. The example of the chapter, in plain Lean. StateName. The example of the chapter holds. -/
import Derived.Test.YthfdngjbcgkkfaaGreatQ10
set_option linter.unusedVariables false
set_option linter.unusedSimpArgs false
namespace Go.Proofs.YthfdngjbcgkkfaaGreat
open Go Go.RowKit

theorem RefPost.t {w w' : World} {B bt bm : Nat} {vo vh vg : Value} {t : Tr} {m : Int} {e : Ending} (hi : t.Inv) (h : RefPost w B bt bm vo vh vg t m e w') :
    e = .returned (.int .i64 (t.refuseT m).2) ∧ TrM w' B bt bm vo vh vg (t.refuseT m).1 ∧ Mv (ownT bt bm vo vh vg) (ownT bt bm vo vh vg) w w' := by
  obtain ⟨r, t', rfl, hT, hM, hc⟩ := h
  rcases hc with ⟨h1, rfl, rfl⟩ | ⟨h1, P, Y, p, hY, hP, hget, h2⟩
  · unfold Tr.refuseT
    rw [if_pos h1]
    exact ⟨rfl, hT, hM⟩
  · have hg : t.clm[t.ag.length]? = some p := by rw [← Tr.clm_eq hi hY hP]; exact hget
    unfold Tr.refuseT
    rw [if_neg (by simp [h1]), hg]
    simp only
    rcases h2 with ⟨h3, rfl, rfl⟩ | ⟨h3, rfl, rfl⟩
    · rw [if_pos h3]; exact ⟨rfl, hT, hM⟩
    · rw [if_neg (by simp [h3])]; exact ⟨rfl, hT, hM⟩
/-- What a step leaves. -/
def StepPost (w : World) (B bt bm : Nat) (vo vh vg : Value) (x : RfV) (o : Op3) (t : Tr) (e : Ending) (w' : World) : Prop :=
  ∃ x' vo' vh' vg', e = .returned (.tuple #[rfV x', .bool true]) ∧ Both w' B bt bm vo' vh' vg' x' (o.step t) ∧ Mv (ownT bt bm vo vh vg) (ownT bt bm vo' vh' vg') w w' ∧ ∀ b ∈ blks x', b ∈ blks x ∨ w.heap.size ≤ b
set_option maxRecDepth 100000 in
set_option maxHeartbeats 20000000 in
theorem step_c (w : World) (B bt bm : Nat) (vo vh vg : Value) (x : RfV) (t : Tr) (n : Nat) (o : Op3) (y : AnV) (h : Both w B bt bm vo vh vg x t) (hb : t.Bnd n) (hn : n ≤ 100) (hy : InR w y o.a) (hF : o.Fit) (hlen : o.a.ins.length ≤ 5)
    (hsep : ∀ b, o.a.ins ≠ [] → y.v.ownBlock = some b → b < B) :
    Calls Tryz.prog 8 #[.pointer (some ⟨bt, 0, none⟩), rfV x, opV o y] w (StepPost w B bt bm vo vh vg x o t) := by
  have hm := h.m
  have hi := hm.inv
  have hqs : t.qs.length ≤ 501 := by have := hb.qs; omega
  have hhl : t.hist.length ≤ 100 := by have := hb.hl; omega
  have hal : t.ag.length ≤ 100 := by have := hb.ag; omega
  have hag2 : t.state = 1 → ∀ P Y, SortedA t Y → ClaimsP t Y P → t.ag.length < P.length := fun hs P Y hY hP => by rw [Tr.clm_eq hi hY hP]; exact hb.s1 hs
  obtain ⟨tn, ht1, ht2⟩ := hb.tl
  have hBw : B ≤ w.heap.size := Nat.le_trans hm.bB.1 (Nat.le_of_lt hm.lt.1)
  have hcl := fun (W : World) (hk : Keeps [] w W) => claimR_c W x t (h.r.keeps hk) hi (by omega) hb.s1
  have haim := fun (W : World) (hk : Keeps [] w W) => aim_c W x t o y (h.r.keeps hk) hi.rk (hy.keeps hk) hF (by omega)
  have hains : (o.aim t.qs).ins.length ≤ 5 := by rw [aim_ins]; exact hlen
  have haok : (o.aim t.qs).Ok := (aim_fit hF hi).ok (by omega)
  have hown : ∀ b ∈ ownT bt bm vo vh vg, b < w.heap.size := fun b hb => (hm.own_tag hb).2.1
  have hsp : ∀ (W : World) (_ : Keeps [] w W) (y' : AnV) (_ : InR W y' (o.aim t.qs)), Calls Tryz.prog 20 #[rfV x, aV y'] W (RPost W x (t.answer (o.aim t.qs))) := fun W hk y' hy' => by
    have := answerR_c W x t y' (o.aim t.qs) (h.r.keeps hk) hy' hi (by omega) (by omega)
    rw [Tr.answerR_eq hb.ho] at this
    exact this
  have hpa : ∀ (W : World) (_ : Keeps [] w W) (y' : AnV) (_ : InR W y' (o.aim t.qs)) (_ : y'.v = y.v), Calls Tryz.prog 16 #[.pointer (some ⟨bt, 0, none⟩), aV y'] W (AnsPost W B bt bm vo vh vg (t.answer (o.aim t.qs))) := fun W hk y' hy' hv =>
    answer_c W B bt bm vo vh vg t y' (o.aim t.qs) (hm.keeps hk) hy' haok (fun b hbm hne e => by
      have h1 := hsep b (by rw [← aim_ins o t.qs]; exact hne) (hv ▸ e)
      have h2 := (hm.own_tag hbm).1
      omega) (Nat.le_trans hBw hk.size) (by omega) (by omega)
  have hsq := fun (W : World) (hk : Keeps [] w W) => queriesR_c W x t tn (h.r.keeps hk) hi.rk ht1 ht2 (by omega)
  have hpq := fun (W : World) (hk : Keeps [] w W) => queries_c W B bt bm vo vh vg t tn (hm.keeps hk) ht1 ht2 (by omega)
  have hsa := fun (W : World) (hk : Keeps [] w W) (m : Int) => agreeR_c W x t m (h.r.keeps hk) hi (by omega) (by omega) hb.s1
  have hpg := fun (W : World) (hk : Keeps [] w W) (m : Int) => agree_c W B bt bm vo vh vg t m (hm.keeps hk) (by omega) (by omega) hb.s1
  have hsr := fun (W : World) (hk : Keeps [] w W) (m : Int) => refuseR_c W x t m (h.r.keeps hk) hi (by omega) hb.s1
  have hpr : ∀ (W : World) (_ : Keeps [] w W) (m : Int), Calls Tryz.prog 26 #[.pointer (some ⟨bt, 0, none⟩), .int .i64 m] W fun e w' => e = .returned (.int .i64 (t.refuseT m).2) ∧ TrM w' B bt bm vo vh vg (t.refuseT m).1 ∧ Mv (ownT bt bm vo vh vg) (ownT bt bm vo vh vg) W w' := fun W hk m =>
    (refuse_c W B bt bm vo vh vg t m (hm.keeps hk) (by omega) hag2).mono fun e w' hp => hp.t hi
  obtain ⟨x0, x1, x2, x3, x4, x5, ⟨x6, x7, x8⟩, ⟨x9, x10, x11⟩, x12, ⟨x13, x14, x15⟩, x16, ⟨x17, x18, x19⟩⟩ := x
  obtain ⟨y0, y1, y2, y3, y4, y5, y6, y7, y8, y9⟩ := y
  obtain ⟨ok, oi, on, oa⟩ := o
  obtain ⟨hbX, hbO, hbZ, hkW, hzW⟩ := blks3 w (.cells #[.int .i64 x0, .int .i64 x1, .int .i64 x2, .int .u64 x3, .int .i64 x4, .int .i64 x5, .slice x6 x7 x8, .slice x9 x10 x11, .int .i64 x12, .slice x13 x14 x15, .bool x16, .slice x17 x18 x19] tR) (.cells #[.int .u8 ok, .int .i64 oi, .bool on, .int .i64 y0, .int .i64 y1, .int .u64 y2, .int .i64 y3, .bool y4, .bool y5, .int .i64 y6, .slice y7 y8 y9] tOp) (.cells #[.int .i64 0, .int .i64 0, .int .i64 0, .int .u64 0, .int .i64 0, .int .i64 0, .slice none 0 0, .slice none 0 0, .int .i64 0, .slice none 0 0, .bool false, .slice none 0 0] tR)
  obtain ⟨W, hW⟩ : ∃ W, (((w.alloc (.cells #[.int .i64 x0, .int .i64 x1, .int .i64 x2, .int .u64 x3, .int .i64 x4, .int .i64 x5, .slice x6 x7 x8, .slice x9 x10 x11, .int .i64 x12, .slice x13 x14 x15, .bool x16, .slice x17 x18 x19] tR)).alloc (.cells #[.int .u8 ok, .int .i64 oi, .bool on, .int .i64 y0, .int .i64 y1, .int .u64 y2, .int .i64 y3, .bool y4, .bool y5, .int .i64 y6, .slice y7 y8 y9] tOp)).alloc (.cells #[.int .i64 0, .int .i64 0, .int .i64 0, .int .u64 0, .int .i64 0, .int .i64 0, .slice none 0 0, .slice none 0 0, .int .i64 0, .slice none 0 0, .bool false, .slice none 0 0] tR)) = W := ⟨_, rfl⟩
  rw [hW] at hbX hbO hbZ hkW hzW
  simp only [rfV, slv] at hcl haim hsp hsq hsa hsr ⊢
  simp only [opV, AnV.v] at haim ⊢
  obtain ⟨z0, z1, z2, z3, z4, z5, z6, z7, z8, z9, z10, z11, zf, zl⟩ := cl12 hbX
  obtain ⟨r0, r1, r2, r3, r4, r5, r6, r7, r8, r9, r10, rf, rl⟩ := cl11 hbO
  replace hbX := Lib.hid hbX
  replace hbO := Lib.hid hbO
  replace hbZ := Lib.hid hbZ
  replace hkW := Lib.hid hkW
  replace hzW := Lib.hid hzW
  replace hcl := Lib.hid hcl
  replace haim := Lib.hid haim
  replace hsp := Lib.hid hsp
  replace hpa := Lib.hid hpa
  replace hsq := Lib.hid hsq
  replace hpq := Lib.hid hpq
  replace hsa := Lib.hid hsa
  replace hpg := Lib.hid hpg
  replace hsr := Lib.hid hsr
  replace hpr := Lib.hid hpr
  replace h := Lib.hid h
  replace hb := Lib.hid hb
  replace hown := Lib.hid hown
  replace hsep := Lib.hid hsep
  replace hm := Lib.hid hm
  replace hW := Lib.hid hW
  replace haok := Lib.hid haok
  replace hy := Lib.hid hy
  replace hF := Lib.hid hF
  replace hi := Lib.hid hi
  clear hqs hhl hal hag2 ht1 ht2 hBw hains
  go_enter Tryz.func8, Tryz.ntmps8
  go_wp2_with fail
  rw [hW.out]
  refine (hcl.out _ hkW.out).mono ?_
  rintro e w1 ⟨cx, p, rfl, hcr, hk1, hcase⟩
  obtain ⟨c0, c1, ⟨c2, c3, c4⟩, ⟨c5, c6, c7⟩, ⟨c8, c9, c10⟩⟩ := cx
  simp only [clV, slv]
  have hk1M := hk1.alloc (.cells #[.int .i64 c0, .int .i64 c1, .slice c2 c3 c4, .slice c5 c6 c7, .slice c8 c9 c10] tC)
  have hbC := heap_alloc_new w1 (.cells #[.int .i64 c0, .int .i64 c1, .slice c2 c3 c4, .slice c5 c6 c7, .slice c8 c9 c10] tC)
  have hmc : t.state = 1 → c0 = (match t.clm[t.ag.length]? with | some p => p.m | none => oi) := fun hs => by
    rcases hcase with ⟨e, _⟩ | ⟨_, e⟩
    · exact absurd hs e
    · rw [e]; exact hcr.m
  replace hmc := Lib.hid hmc
  obtain ⟨sb, hsb⟩ : ∃ b, (t.state == 1) = b := ⟨_, rfl⟩
  rw [hsb]
  replace hsb := Lib.hid hsb
  clear hcr hcase hcl
  go_upto_region 3 with fail
  generalize (w1.alloc (.cells #[.int .i64 c0, .int .i64 c1, .slice c2 c3 c4, .slice c5 c6 c7, .slice c8 c9 c10] tC)) = W2 at *
  obtain ⟨XC, hXC⟩ : ∃ X, w1.heap.size = X := ⟨_, rfl⟩
  rw [hXC] at hbC ⊢
  replace hXC := Lib.hid hXC
  replace hk1M := Lib.hid hk1M
  replace hbC := Lib.hid hbC
  replace hbX := Lib.hid ((hk1M.out.block _ (lt_of_blk hbX.out) (by simp)).trans hbX.out)
  replace hbO := Lib.hid ((hk1M.out.block _ (lt_of_blk hbO.out) (by simp)).trans hbO.out)
  replace hbZ := Lib.hid ((hk1M.out.block _ (lt_of_blk hbZ.out) (by simp)).trans hbZ.out)
  clear z0 z1 z2 z3 z4 z5 z6 z7 z8 z9 z10 z11 zf zl
  clear r0 r1 r2 r3 r4 r5 r6 r7 r8 r9 r10 rf rl
  obtain ⟨z0, z1, z2, z3, z4, z5, z6, z7, z8, z9, z10, z11, zf, zl⟩ := cl12 hbX.out
  obtain ⟨r0, r1, r2, r3, r4, r5, r6, r7, r8, r9, r10, rf, rl⟩ := cl11 hbO.out
  obtain ⟨v0, v1, v2, v3, v4, v5, v6, v7, v8, v9, v10, v11, vf, vl⟩ := cl12 hbZ.out
  obtain ⟨j0, j1, j2, j3, j4, jf, jl⟩ := cl5 hbC.out
  have hkw2 := Lib.hid (hkW.out.trans hk1M.out)
  clear hk1 hk1M hW hkW
  obtain ⟨bb, hbb⟩ : ∃ b, (sb && on) = b := ⟨_, rfl⟩
  replace hbb := Lib.hid hbb
  go_cut [31] from 20 (fun c wx => c = .bool bb ∧ W2 = wx)
  case first =>
    cases sb <;> cases on <;> (have hb2 := hbb.out; simp only [Bool.and_true, Bool.and_false, Bool.and_self] at hb2; subst hb2; go_wp2; go_meet; case rel => exact ⟨rfl, rfl⟩)
  case rest =>
  obtain ⟨hc1, hc2⟩ := hcut
  subst hc1
  subst hc2
  obtain ⟨mm, hmm⟩ : ∃ m, Op3.mach ⟨ok, oi, on, oa⟩ t = m := ⟨_, rfl⟩
  have hmt : bb = true → c0 = mm := fun e => by
    have hb2 := hbb.out
    rw [e] at hb2
    have hs : t.state = 1 := by have := hsb.out; simp at hb2; rw [hb2.1] at this; simpa using this
    rw [hmc.out hs, ← hmm]
    unfold Op3.mach
    rw [if_pos ⟨by simp at hb2; exact hb2.2, hs⟩]
    cases t.clm[t.ag.length]? <;> rfl
  have hmf : bb = false → oi = mm := fun e => by
    have hb2 := hbb.out
    rw [e] at hb2
    rw [← hmm]
    unfold Op3.mach
    rw [if_neg]
    rintro ⟨h1, h2⟩
    have h3 := hsb.out
    rw [h2] at h3
    simp only at h1
    rw [h1, ← h3] at hb2
    simp at hb2
  replace hmt := Lib.hid hmt
  replace hmf := Lib.hid hmf
  replace hmm := Lib.hid hmm
  go_upto_if 31 with fail
  go_cut [8] from 20 (fun mv wx => mv = .int .i64 mm ∧ W2 = wx)
  case first =>
    cases bb with
    | true =>
      have hmt2 := hmt.out rfl
      subst hmt2
      go_wp2
      go_meet
      case rel => exact ⟨rfl, rfl⟩
    | false =>
      have hmt2 := hmf.out rfl
      subst hmt2
      go_wp2
      go_meet
      case rel => exact ⟨rfl, rfl⟩
  case rest =>
  obtain ⟨hc1, hc2⟩ := hcut
  subst hc1
  subst hc2
  clear hmt hmf hmc hsb hbb
  by_cases e0 : ok = 0
  · subst e0
    have hstep : Op3.step ⟨0, oi, on, oa⟩ t = (t.answer (Op3.aim ⟨0, oi, on, oa⟩ t.qs)).1 := by unfold Op3.step; rw [if_pos (by simp)]
    replace hstep := Lib.hid hstep
    go_wp2_with fail
    refine (haim.out _ hkw2.out).mono ?_
    rintro e w3 ⟨ya, rfl, hyv, hyI, hk3⟩
    obtain ⟨p0, p1, p2, p3, p4, p5, p6, p7, p8, p9⟩ := ya
    simp only [aV, AnV.v]
    have hk3M := hk3.alloc (.cells #[.int .i64 p0, .int .i64 p1, .int .u64 p2, .int .i64 p3, .bool p4, .bool p5, .int .i64 p6, .slice p7 p8 p9] tA)
    have hbA := heap_alloc_new w3 (.cells #[.int .i64 p0, .int .i64 p1, .int .u64 p2, .int .i64 p3, .bool p4, .bool p5, .int .i64 p6, .slice p7 p8 p9] tA)
    have hyI3 := hyI.keeps ((Keeps.refl [] w3).alloc (.cells #[.int .i64 p0, .int .i64 p1, .int .u64 p2, .int .i64 p3, .bool p4, .bool p5, .int .i64 p6, .slice p7 p8 p9] tA))
    replace hk3M := Lib.hid hk3M
    replace hbA := Lib.hid hbA
    replace hyv := Lib.hid hyv
    replace hyI3 := Lib.hid hyI3
    have hk3h := Lib.hid hk3
    clear hyI hk3
    go_upto_region 11 with fail
    generalize (w3.alloc (.cells #[.int .i64 p0, .int .i64 p1, .int .u64 p2, .int .i64 p3, .bool p4, .bool p5, .int .i64 p6, .slice p7 p8 p9] tA)) = W3 at *
    obtain ⟨XA, hXA⟩ : ∃ X, w3.heap.size = X := ⟨_, rfl⟩
    rw [hXA] at hbA ⊢
    have hsA : w.heap.size + 1 + 1 < XA := by have := lt_of_blk hbZ.out; have := hk3h.out.size; omega
    replace hXA := Lib.hid hXA
    replace hbX := Lib.hid ((hk3M.out.block _ (lt_of_blk hbX.out) (by simp)).trans hbX.out)
    replace hbO := Lib.hid ((hk3M.out.block _ (lt_of_blk hbO.out) (by simp)).trans hbO.out)
    replace hbZ := Lib.hid ((hk3M.out.block _ (lt_of_blk hbZ.out) (by simp)).trans hbZ.out)
    clear z0 z1 z2 z3 z4 z5 z6 z7 z8 z9 z10 z11 zf zl
    clear r0 r1 r2 r3 r4 r5 r6 r7 r8 r9 r10 rf rl
    obtain ⟨z0, z1, z2, z3, z4, z5, z6, z7, z8, z9, z10, z11, zf, zl⟩ := cl12 hbX.out
    obtain ⟨r0, r1, r2, r3, r4, r5, r6, r7, r8, r9, r10, rf, rl⟩ := cl11 hbO.out
    obtain ⟨k0, k1, k2, k3, k4, k5, k6, k7, kf, kl⟩ := cl8 hbA.out
    have hkw3 := Lib.hid (hkw2.out.trans hk3M.out)
    have hZ3 : w.heap.size + 1 + 1 < W3.heap.size := lt_of_blk hbZ.out
    have hS := hsp.out W3 hkw3.out _ hyI3.out
    simp only [aV, AnV.v] at hS
    replace hS := Lib.hid hS
    go_wp2_with fail
    refine hS.out.mono ?_
    rintro e w5 ⟨xs, rfl, hR5, hk5, hF5⟩
    clear k0 k1 k2 k3 k4 k5 k6 k7 kf kl
    clear z0 z1 z2 z3 z4 z5 z6 z7 z8 z9 z10 z11 zf zl
    clear r0 r1 r2 r3 r4 r5 r6 r7 r8 r9 r10 rf rl
    obtain ⟨s0, s1, s2, s3, s4, s5, ⟨s6, s7, s8⟩, ⟨s9, s10, s11⟩, s12, ⟨s13, s14, s15⟩, s16, ⟨s17, s18, s19⟩⟩ := xs
    simp only [rfV, slv]
    have hk5M := hk5.alloc (.cells #[.int .i64 s0, .int .i64 s1, .int .i64 s2, .int .u64 s3, .int .i64 s4, .int .i64 s5, .slice s6 s7 s8, .slice s9 s10 s11, .int .i64 s12, .slice s13 s14 s15, .bool s16, .slice s17 s18 s19] tR)
    have hbV := heap_alloc_new w5 (.cells #[.int .i64 s0, .int .i64 s1, .int .i64 s2, .int .u64 s3, .int .i64 s4, .int .i64 s5, .slice s6 s7 s8, .slice s9 s10 s11, .int .i64 s12, .slice s13 s14 s15, .bool s16, .slice s17 s18 s19] tR)
    have hk25 := ((Keeps.refl [] w5).alloc (.cells #[.int .i64 s0, .int .i64 s1, .int .i64 s2, .int .u64 s3, .int .i64 s4, .int .i64 s5, .slice s6 s7 s8, .slice s9 s10 s11, .int .i64 s12, .slice s13 s14 s15, .bool s16, .slice s17 s18 s19] tR)).drew
    have hk5h := Lib.hid hk5
    replace hk5M := Lib.hid hk5M
    replace hbV := Lib.hid hbV
    replace hR5 := Lib.hid hR5
    replace hF5 := Lib.hid hF5
    replace hk25 := Lib.hid hk25
    clear hk5

    go_upto_region 12 with fail
    generalize (w5.alloc (.cells #[.int .i64 s0, .int .i64 s1, .int .i64 s2, .int .u64 s3, .int .i64 s4, .int .i64 s5, .slice s6 s7 s8, .slice s9 s10 s11, .int .i64 s12, .slice s13 s14 s15, .bool s16, .slice s17 s18 s19] tR)) = W5 at *
    obtain ⟨XV, hXV⟩ : ∃ X, w5.heap.size = X := ⟨_, rfl⟩
    rw [hXV] at hbV ⊢
    have hkd := Lib.hid hk5M.out.drew
    have hbVd : W5.drew.heap[XV]? = _ := hbV.out
    have hZd : W5.drew.heap[w.heap.size + 1 + 1]? = _ := (hk5M.out.block _ hZ3 (by simp)).trans hbZ.out
    have hbAd : W5.drew.heap[XA]? = _ := (hk5M.out.block _ (lt_of_blk hbA.out) (by simp)).trans hbA.out
    obtain ⟨k0, k1, k2, k3, k4, k5, k6, k7, kf, kl⟩ := cl8 hbAd
    replace hbAd := Lib.hid hbAd
    have hsV : w.heap.size + 1 + 1 < XV := by have := hk5h.out.size; omega
    have hZl := lt_of_blk hZd
    replace hXV := Lib.hid hXV
    replace hbVd := Lib.hid hbVd
    replace hZd := Lib.hid hZd
    have hprog := hpa.out W5.drew (hkw3.out.trans hkd.out) _ (hyI3.out.keeps hkd.out) hyv.out
    simp only [aV, AnV.v] at hprog
    replace hprog := Lib.hid hprog
    clear hbV hk5M
    obtain ⟨m0, m1, m2, m3, m4, m5, m6, m7, m8, m9, m10, m11, mf, ml⟩ := cl12 hbVd.out
    refine Free.wp_region_chain (fun i => i == 3 || i == 6) (fun i => true) (fun _ b => b < w.heap.size ∨ b = w.heap.size + 1 + 1) (by kernel_rfl) (by kernel_rfl) (by kernel_rfl) ?_
    generalize W5.drew = wd at *
    (repeat (first | (apply Free.cw_pure rfl rfl; (intro w'; go_simp <;> exact rfl); go_frame) | (apply Free.cw_steady rfl rfl rfl; (intro w' hS; have q0 := Free.sx_cell hS m0 (fun _ _ hT => by rcases hT with hT | hT <;> omega); have q1 := Free.sx_cell hS m1 (fun _ _ hT => by rcases hT with hT | hT <;> omega); have q2 := Free.sx_cell hS m2 (fun _ _ hT => by rcases hT with hT | hT <;> omega); have q3 := Free.sx_cell hS m3 (fun _ _ hT => by rcases hT with hT | hT <;> omega); have q4 := Free.sx_cell hS m4 (fun _ _ hT => by rcases hT with hT | hT <;> omega); have q5 := Free.sx_cell hS m5 (fun _ _ hT => by rcases hT with hT | hT <;> omega); have q6 := Free.sx_cell hS m6 (fun _ _ hT => by rcases hT with hT | hT <;> omega); have q7 := Free.sx_cell hS m7 (fun _ _ hT => by rcases hT with hT | hT <;> omega); have q8 := Free.sx_cell hS m8 (fun _ _ hT => by rcases hT with hT | hT <;> omega); have q9 := Free.sx_cell hS m9 (fun _ _ hT => by rcases hT with hT | hT <;> omega); have q10 := Free.sx_cell hS m10 (fun _ _ hT => by rcases hT with hT | hT <;> omega); have q11 := Free.sx_cell hS m11 (fun _ _ hT => by rcases hT with hT | hT <;> omega); have q12 := Free.sx_cell hS k0 (fun _ _ hT => by rcases hT with hT | hT <;> omega); have q13 := Free.sx_cell hS k1 (fun _ _ hT => by rcases hT with hT | hT <;> omega); have q14 := Free.sx_cell hS k2 (fun _ _ hT => by rcases hT with hT | hT <;> omega); have q15 := Free.sx_cell hS k3 (fun _ _ hT => by rcases hT with hT | hT <;> omega); have q16 := Free.sx_cell hS k4 (fun _ _ hT => by rcases hT with hT | hT <;> omega); have q17 := Free.sx_cell hS k5 (fun _ _ hT => by rcases hT with hT | hT <;> omega); have q18 := Free.sx_cell hS k6 (fun _ _ hT => by rcases hT with hT | hT <;> omega); have q19 := Free.sx_cell hS k7 (fun _ _ hT => by rcases hT with hT | hT <;> omega); go_simp <;> exact rfl); go_frame) | (refine Free.cw_skip rfl ?_; go_frame)))
    refine Free.cw_loud rfl rfl (fun K hK => ?_)
    go_wp2_with fail
    refine hprog.out.mono ?_
    rintro e w6 ⟨vo', vh', rfl, hT6, hM6⟩
    refine hK _ _ rfl (Free.KeepsP.of hM6.k (fun b hb => .inl (hown.out b hb))) ?_
    clear hK K hprog
    have hZ6 := (hM6.k.block _ hZl (fun hm => by have := hown.out _ hm; omega)).trans hZd.out

    obtain ⟨v0, v1, v2, v3, v4, v5, v6, v7, v8, v9, v10, v11, vf, vl⟩ := cl12 hZ6
    replace hZ6 := Lib.hid hZ6
    replace hT6 := Lib.hid hT6
    replace hM6 := Lib.hid hM6
    (repeat (apply Free.cw_pure rfl rfl; (intro w'; go_simp <;> exact rfl); go_frame))
    refine Free.cw_loud rfl rfl (fun K hK => ?_)
    go_wp2
    refine hK _ _ rfl (Free.KeepsP.of (sc12 (.int .i64 s0) (.int .i64 s1) (.int .i64 s2) (.int .u64 s3) (.int .i64 s4) (.int .i64 s5) (.slice s6 s7 s8) (.slice s9 s10 s11) (.int .i64 s12) (.slice s13 s14 s15) (.bool s16) (.slice s17 s18 s19) hZ6.out).2 (fun b hb => .inr (by simpa using hb))) ?_
    clear hK K
    (repeat (apply Free.cw_pure rfl rfl; (intro w'; go_simp <;> exact rfl); go_frame))
    refine Free.cw_nil ?_
    go_wp2
    obtain ⟨g1, g2⟩ := sc12 (.int .i64 s0) (.int .i64 s1) (.int .i64 s2) (.int .u64 s3) (.int .i64 s4) (.int .i64 s5) (.slice s6 s7 s8) (.slice s9 s10 s11) (.int .i64 s12) (.slice s13 s14 s15) (.bool s16) (.slice s17 s18 s19) hZ6.out
    obtain ⟨f1, f2⟩ := h.out.fin hkw3.out hk5h.out hR5.out hF5.out hk25.out hT6.out hM6.out g2 ⟨by omega, hZ3⟩ hZ6.out
    refine bodyPost_ret (results_rf rfl _ _ _ _ _ _ _ _ _ _ _ _ _ _ _ _ _ rfl g1) ?_ ?_
    · rfl
    · exact ⟨(⟨s0, s1, s2, s3, s4, s5, (s6, s7, s8), (s9, s10, s11), s12, (s13, s14, s15), s16, (s17, s18, s19)⟩ : RfV), vo', vh', vg, rfl, by rw [hstep.out]; exact f1, f2, fun b hb => (hF5.out b hb).imp id (fun h => Nat.le_trans hkw3.out.size h.1)⟩
  by_cases e1 : ok = 1
  · subst e1
    have hstep : Op3.step ⟨1, oi, on, oa⟩ t = (t.answer (Op3.aim ⟨1, oi, on, oa⟩ t.qs)).1 := by unfold Op3.step; rw [if_pos (by simp)]
    replace hstep := Lib.hid hstep
    go_wp2_with fail
    refine (haim.out _ hkw2.out).mono ?_
    rintro e w3 ⟨ya, rfl, hyv, hyI, hk3⟩
    obtain ⟨p0, p1, p2, p3, p4, p5, p6, p7, p8, p9⟩ := ya
    simp only [aV, AnV.v]
    have hk3M := hk3.alloc (.cells #[.int .i64 p0, .int .i64 p1, .int .u64 p2, .int .i64 p3, .bool p4, .bool p5, .int .i64 p6, .slice p7 p8 p9] tA)
    have hbA := heap_alloc_new w3 (.cells #[.int .i64 p0, .int .i64 p1, .int .u64 p2, .int .i64 p3, .bool p4, .bool p5, .int .i64 p6, .slice p7 p8 p9] tA)
    have hyI3 := hyI.keeps ((Keeps.refl [] w3).alloc (.cells #[.int .i64 p0, .int .i64 p1, .int .u64 p2, .int .i64 p3, .bool p4, .bool p5, .int .i64 p6, .slice p7 p8 p9] tA))
    replace hk3M := Lib.hid hk3M
    replace hbA := Lib.hid hbA
    replace hyv := Lib.hid hyv
    replace hyI3 := Lib.hid hyI3
    have hk3h := Lib.hid hk3
    clear hyI hk3
    go_upto_region 11 with fail
    generalize (w3.alloc (.cells #[.int .i64 p0, .int .i64 p1, .int .u64 p2, .int .i64 p3, .bool p4, .bool p5, .int .i64 p6, .slice p7 p8 p9] tA)) = W3 at *
    obtain ⟨XA, hXA⟩ : ∃ X, w3.heap.size = X := ⟨_, rfl⟩
    rw [hXA] at hbA ⊢
    have hsA : w.heap.size + 1 + 1 < XA := by have := lt_of_blk hbZ.out; have := hk3h.out.size; omega
    replace hXA := Lib.hid hXA
    replace hbX := Lib.hid ((hk3M.out.block _ (lt_of_blk hbX.out) (by simp)).trans hbX.out)
    replace hbO := Lib.hid ((hk3M.out.block _ (lt_of_blk hbO.out) (by simp)).trans hbO.out)
    replace hbZ := Lib.hid ((hk3M.out.block _ (lt_of_blk hbZ.out) (by simp)).trans hbZ.out)
    clear z0 z1 z2 z3 z4 z5 z6 z7 z8 z9 z10 z11 zf zl
    clear r0 r1 r2 r3 r4 r5 r6 r7 r8 r9 r10 rf rl
    obtain ⟨z0, z1, z2, z3, z4, z5, z6, z7, z8, z9, z10, z11, zf, zl⟩ := cl12 hbX.out
    obtain ⟨r0, r1, r2, r3, r4, r5, r6, r7, r8, r9, r10, rf, rl⟩ := cl11 hbO.out
    obtain ⟨k0, k1, k2, k3, k4, k5, k6, k7, kf, kl⟩ := cl8 hbA.out
    have hkw3 := Lib.hid (hkw2.out.trans hk3M.out)
    have hZ3 : w.heap.size + 1 + 1 < W3.heap.size := lt_of_blk hbZ.out
    have hS := hsp.out W3 hkw3.out _ hyI3.out
    simp only [aV, AnV.v] at hS
    replace hS := Lib.hid hS
    go_wp2_with fail
    refine hS.out.mono ?_
    rintro e w5 ⟨xs, rfl, hR5, hk5, hF5⟩
    clear k0 k1 k2 k3 k4 k5 k6 k7 kf kl
    clear z0 z1 z2 z3 z4 z5 z6 z7 z8 z9 z10 z11 zf zl
    clear r0 r1 r2 r3 r4 r5 r6 r7 r8 r9 r10 rf rl
    obtain ⟨s0, s1, s2, s3, s4, s5, ⟨s6, s7, s8⟩, ⟨s9, s10, s11⟩, s12, ⟨s13, s14, s15⟩, s16, ⟨s17, s18, s19⟩⟩ := xs
    simp only [rfV, slv]
    have hk5M := hk5.alloc (.cells #[.int .i64 s0, .int .i64 s1, .int .i64 s2, .int .u64 s3, .int .i64 s4, .int .i64 s5, .slice s6 s7 s8, .slice s9 s10 s11, .int .i64 s12, .slice s13 s14 s15, .bool s16, .slice s17 s18 s19] tR)
    have hbV := heap_alloc_new w5 (.cells #[.int .i64 s0, .int .i64 s1, .int .i64 s2, .int .u64 s3, .int .i64 s4, .int .i64 s5, .slice s6 s7 s8, .slice s9 s10 s11, .int .i64 s12, .slice s13 s14 s15, .bool s16, .slice s17 s18 s19] tR)
    have hk25 := ((Keeps.refl [] w5).alloc (.cells #[.int .i64 s0, .int .i64 s1, .int .i64 s2, .int .u64 s3, .int .i64 s4, .int .i64 s5, .slice s6 s7 s8, .slice s9 s10 s11, .int .i64 s12, .slice s13 s14 s15, .bool s16, .slice s17 s18 s19] tR)).drew
    have hk5h := Lib.hid hk5
    replace hk5M := Lib.hid hk5M
    replace hbV := Lib.hid hbV
    replace hR5 := Lib.hid hR5
    replace hF5 := Lib.hid hF5
    replace hk25 := Lib.hid hk25
    clear hk5

    go_upto_region 12 with fail
    generalize (w5.alloc (.cells #[.int .i64 s0, .int .i64 s1, .int .i64 s2, .int .u64 s3, .int .i64 s4, .int .i64 s5, .slice s6 s7 s8, .slice s9 s10 s11, .int .i64 s12, .slice s13 s14 s15, .bool s16, .slice s17 s18 s19] tR)) = W5 at *
    obtain ⟨XV, hXV⟩ : ∃ X, w5.heap.size = X := ⟨_, rfl⟩
    rw [hXV] at hbV ⊢
    have hkd := Lib.hid hk5M.out.drew
    have hbVd : W5.drew.heap[XV]? = _ := hbV.out
    have hZd : W5.drew.heap[w.heap.size + 1 + 1]? = _ := (hk5M.out.block _ hZ3 (by simp)).trans hbZ.out
    have hbAd : W5.drew.heap[XA]? = _ := (hk5M.out.block _ (lt_of_blk hbA.out) (by simp)).trans hbA.out
    obtain ⟨k0, k1, k2, k3, k4, k5, k6, k7, kf, kl⟩ := cl8 hbAd
    replace hbAd := Lib.hid hbAd
    have hsV : w.heap.size + 1 + 1 < XV := by have := hk5h.out.size; omega
    have hZl := lt_of_blk hZd
    replace hXV := Lib.hid hXV
    replace hbVd := Lib.hid hbVd
    replace hZd := Lib.hid hZd
    have hprog := hpa.out W5.drew (hkw3.out.trans hkd.out) _ (hyI3.out.keeps hkd.out) hyv.out
    simp only [aV, AnV.v] at hprog
    replace hprog := Lib.hid hprog
    clear hbV hk5M
    obtain ⟨m0, m1, m2, m3, m4, m5, m6, m7, m8, m9, m10, m11, mf, ml⟩ := cl12 hbVd.out
    refine Free.wp_region_chain (fun i => i == 3 || i == 6) (fun i => true) (fun _ b => b < w.heap.size ∨ b = w.heap.size + 1 + 1) (by kernel_rfl) (by kernel_rfl) (by kernel_rfl) ?_
    generalize W5.drew = wd at *
    (repeat (first | (apply Free.cw_pure rfl rfl; (intro w'; go_simp <;> exact rfl); go_frame) | (apply Free.cw_steady rfl rfl rfl; (intro w' hS; have q0 := Free.sx_cell hS m0 (fun _ _ hT => by rcases hT with hT | hT <;> omega); have q1 := Free.sx_cell hS m1 (fun _ _ hT => by rcases hT with hT | hT <;> omega); have q2 := Free.sx_cell hS m2 (fun _ _ hT => by rcases hT with hT | hT <;> omega); have q3 := Free.sx_cell hS m3 (fun _ _ hT => by rcases hT with hT | hT <;> omega); have q4 := Free.sx_cell hS m4 (fun _ _ hT => by rcases hT with hT | hT <;> omega); have q5 := Free.sx_cell hS m5 (fun _ _ hT => by rcases hT with hT | hT <;> omega); have q6 := Free.sx_cell hS m6 (fun _ _ hT => by rcases hT with hT | hT <;> omega); have q7 := Free.sx_cell hS m7 (fun _ _ hT => by rcases hT with hT | hT <;> omega); have q8 := Free.sx_cell hS m8 (fun _ _ hT => by rcases hT with hT | hT <;> omega); have q9 := Free.sx_cell hS m9 (fun _ _ hT => by rcases hT with hT | hT <;> omega); have q10 := Free.sx_cell hS m10 (fun _ _ hT => by rcases hT with hT | hT <;> omega); have q11 := Free.sx_cell hS m11 (fun _ _ hT => by rcases hT with hT | hT <;> omega); have q12 := Free.sx_cell hS k0 (fun _ _ hT => by rcases hT with hT | hT <;> omega); have q13 := Free.sx_cell hS k1 (fun _ _ hT => by rcases hT with hT | hT <;> omega); have q14 := Free.sx_cell hS k2 (fun _ _ hT => by rcases hT with hT | hT <;> omega); have q15 := Free.sx_cell hS k3 (fun _ _ hT => by rcases hT with hT | hT <;> omega); have q16 := Free.sx_cell hS k4 (fun _ _ hT => by rcases hT with hT | hT <;> omega); have q17 := Free.sx_cell hS k5 (fun _ _ hT => by rcases hT with hT | hT <;> omega); have q18 := Free.sx_cell hS k6 (fun _ _ hT => by rcases hT with hT | hT <;> omega); have q19 := Free.sx_cell hS k7 (fun _ _ hT => by rcases hT with hT | hT <;> omega); go_simp <;> exact rfl); go_frame) | (refine Free.cw_skip rfl ?_; go_frame)))
    refine Free.cw_loud rfl rfl (fun K hK => ?_)
    go_wp2_with fail
    refine hprog.out.mono ?_
    rintro e w6 ⟨vo', vh', rfl, hT6, hM6⟩
    refine hK _ _ rfl (Free.KeepsP.of hM6.k (fun b hb => .inl (hown.out b hb))) ?_
    clear hK K hprog
    have hZ6 := (hM6.k.block _ hZl (fun hm => by have := hown.out _ hm; omega)).trans hZd.out

    obtain ⟨v0, v1, v2, v3, v4, v5, v6, v7, v8, v9, v10, v11, vf, vl⟩ := cl12 hZ6
    replace hZ6 := Lib.hid hZ6
    replace hT6 := Lib.hid hT6
    replace hM6 := Lib.hid hM6
    (repeat (apply Free.cw_pure rfl rfl; (intro w'; go_simp <;> exact rfl); go_frame))
    refine Free.cw_loud rfl rfl (fun K hK => ?_)
    go_wp2
    refine hK _ _ rfl (Free.KeepsP.of (sc12 (.int .i64 s0) (.int .i64 s1) (.int .i64 s2) (.int .u64 s3) (.int .i64 s4) (.int .i64 s5) (.slice s6 s7 s8) (.slice s9 s10 s11) (.int .i64 s12) (.slice s13 s14 s15) (.bool s16) (.slice s17 s18 s19) hZ6.out).2 (fun b hb => .inr (by simpa using hb))) ?_
    clear hK K
    (repeat (apply Free.cw_pure rfl rfl; (intro w'; go_simp <;> exact rfl); go_frame))
    refine Free.cw_nil ?_
    go_wp2
    obtain ⟨g1, g2⟩ := sc12 (.int .i64 s0) (.int .i64 s1) (.int .i64 s2) (.int .u64 s3) (.int .i64 s4) (.int .i64 s5) (.slice s6 s7 s8) (.slice s9 s10 s11) (.int .i64 s12) (.slice s13 s14 s15) (.bool s16) (.slice s17 s18 s19) hZ6.out
    obtain ⟨f1, f2⟩ := h.out.fin hkw3.out hk5h.out hR5.out hF5.out hk25.out hT6.out hM6.out g2 ⟨by omega, hZ3⟩ hZ6.out
    refine bodyPost_ret (results_rf rfl _ _ _ _ _ _ _ _ _ _ _ _ _ _ _ _ _ rfl g1) ?_ ?_
    · rfl
    · exact ⟨(⟨s0, s1, s2, s3, s4, s5, (s6, s7, s8), (s9, s10, s11), s12, (s13, s14, s15), s16, (s17, s18, s19)⟩ : RfV), vo', vh', vg, rfl, by rw [hstep.out]; exact f1, f2, fun b hb => (hF5.out b hb).imp id (fun h => Nat.le_trans hkw3.out.size h.1)⟩
  by_cases e2 : ok = 2
  · subst e2
    have hstep : Op3.step ⟨2, oi, on, oa⟩ t = (t.answer (Op3.aim ⟨2, oi, on, oa⟩ t.qs)).1 := by unfold Op3.step; rw [if_pos (by simp)]
    replace hstep := Lib.hid hstep
    go_wp2_with fail
    refine (haim.out _ hkw2.out).mono ?_
    rintro e w3 ⟨ya, rfl, hyv, hyI, hk3⟩
    obtain ⟨p0, p1, p2, p3, p4, p5, p6, p7, p8, p9⟩ := ya
    simp only [aV, AnV.v]
    have hk3M := hk3.alloc (.cells #[.int .i64 p0, .int .i64 p1, .int .u64 p2, .int .i64 p3, .bool p4, .bool p5, .int .i64 p6, .slice p7 p8 p9] tA)
    have hbA := heap_alloc_new w3 (.cells #[.int .i64 p0, .int .i64 p1, .int .u64 p2, .int .i64 p3, .bool p4, .bool p5, .int .i64 p6, .slice p7 p8 p9] tA)
    have hyI3 := hyI.keeps ((Keeps.refl [] w3).alloc (.cells #[.int .i64 p0, .int .i64 p1, .int .u64 p2, .int .i64 p3, .bool p4, .bool p5, .int .i64 p6, .slice p7 p8 p9] tA))
    replace hk3M := Lib.hid hk3M
    replace hbA := Lib.hid hbA
    replace hyv := Lib.hid hyv
    replace hyI3 := Lib.hid hyI3
    have hk3h := Lib.hid hk3
    clear hyI hk3
    go_upto_region 11 with fail
    generalize (w3.alloc (.cells #[.int .i64 p0, .int .i64 p1, .int .u64 p2, .int .i64 p3, .bool p4, .bool p5, .int .i64 p6, .slice p7 p8 p9] tA)) = W3 at *
    obtain ⟨XA, hXA⟩ : ∃ X, w3.heap.size = X := ⟨_, rfl⟩
    rw [hXA] at hbA ⊢
    have hsA : w.heap.size + 1 + 1 < XA := by have := lt_of_blk hbZ.out; have := hk3h.out.size; omega
    replace hXA := Lib.hid hXA
    replace hbX := Lib.hid ((hk3M.out.block _ (lt_of_blk hbX.out) (by simp)).trans hbX.out)
    replace hbO := Lib.hid ((hk3M.out.block _ (lt_of_blk hbO.out) (by simp)).trans hbO.out)
    replace hbZ := Lib.hid ((hk3M.out.block _ (lt_of_blk hbZ.out) (by simp)).trans hbZ.out)
    clear z0 z1 z2 z3 z4 z5 z6 z7 z8 z9 z10 z11 zf zl
    clear r0 r1 r2 r3 r4 r5 r6 r7 r8 r9 r10 rf rl
    obtain ⟨z0, z1, z2, z3, z4, z5, z6, z7, z8, z9, z10, z11, zf, zl⟩ := cl12 hbX.out
    obtain ⟨r0, r1, r2, r3, r4, r5, r6, r7, r8, r9, r10, rf, rl⟩ := cl11 hbO.out
    obtain ⟨k0, k1, k2, k3, k4, k5, k6, k7, kf, kl⟩ := cl8 hbA.out
    have hkw3 := Lib.hid (hkw2.out.trans hk3M.out)
    have hZ3 : w.heap.size + 1 + 1 < W3.heap.size := lt_of_blk hbZ.out
    have hS := hsp.out W3 hkw3.out _ hyI3.out
    simp only [aV, AnV.v] at hS
    replace hS := Lib.hid hS
    go_wp2_with fail
    refine hS.out.mono ?_
    rintro e w5 ⟨xs, rfl, hR5, hk5, hF5⟩
    clear k0 k1 k2 k3 k4 k5 k6 k7 kf kl
    clear z0 z1 z2 z3 z4 z5 z6 z7 z8 z9 z10 z11 zf zl
    clear r0 r1 r2 r3 r4 r5 r6 r7 r8 r9 r10 rf rl
    obtain ⟨s0, s1, s2, s3, s4, s5, ⟨s6, s7, s8⟩, ⟨s9, s10, s11⟩, s12, ⟨s13, s14, s15⟩, s16, ⟨s17, s18, s19⟩⟩ := xs
    simp only [rfV, slv]
    have hk5M := hk5.alloc (.cells #[.int .i64 s0, .int .i64 s1, .int .i64 s2, .int .u64 s3, .int .i64 s4, .int .i64 s5, .slice s6 s7 s8, .slice s9 s10 s11, .int .i64 s12, .slice s13 s14 s15, .bool s16, .slice s17 s18 s19] tR)
    have hbV := heap_alloc_new w5 (.cells #[.int .i64 s0, .int .i64 s1, .int .i64 s2, .int .u64 s3, .int .i64 s4, .int .i64 s5, .slice s6 s7 s8, .slice s9 s10 s11, .int .i64 s12, .slice s13 s14 s15, .bool s16, .slice s17 s18 s19] tR)
    have hk25 := ((Keeps.refl [] w5).alloc (.cells #[.int .i64 s0, .int .i64 s1, .int .i64 s2, .int .u64 s3, .int .i64 s4, .int .i64 s5, .slice s6 s7 s8, .slice s9 s10 s11, .int .i64 s12, .slice s13 s14 s15, .bool s16, .slice s17 s18 s19] tR)).drew
    have hk5h := Lib.hid hk5
    replace hk5M := Lib.hid hk5M
    replace hbV := Lib.hid hbV
    replace hR5 := Lib.hid hR5
    replace hF5 := Lib.hid hF5
    replace hk25 := Lib.hid hk25
    clear hk5

    go_upto_region 12 with fail
    generalize (w5.alloc (.cells #[.int .i64 s0, .int .i64 s1, .int .i64 s2, .int .u64 s3, .int .i64 s4, .int .i64 s5, .slice s6 s7 s8, .slice s9 s10 s11, .int .i64 s12, .slice s13 s14 s15, .bool s16, .slice s17 s18 s19] tR)) = W5 at *
    obtain ⟨XV, hXV⟩ : ∃ X, w5.heap.size = X := ⟨_, rfl⟩
    rw [hXV] at hbV ⊢
    have hkd := Lib.hid hk5M.out.drew
    have hbVd : W5.drew.heap[XV]? = _ := hbV.out
    have hZd : W5.drew.heap[w.heap.size + 1 + 1]? = _ := (hk5M.out.block _ hZ3 (by simp)).trans hbZ.out
    have hbAd : W5.drew.heap[XA]? = _ := (hk5M.out.block _ (lt_of_blk hbA.out) (by simp)).trans hbA.out
    obtain ⟨k0, k1, k2, k3, k4, k5, k6, k7, kf, kl⟩ := cl8 hbAd
    replace hbAd := Lib.hid hbAd
    have hsV : w.heap.size + 1 + 1 < XV := by have := hk5h.out.size; omega
    have hZl := lt_of_blk hZd
    replace hXV := Lib.hid hXV
    replace hbVd := Lib.hid hbVd
    replace hZd := Lib.hid hZd
    have hprog := hpa.out W5.drew (hkw3.out.trans hkd.out) _ (hyI3.out.keeps hkd.out) hyv.out
    simp only [aV, AnV.v] at hprog
    replace hprog := Lib.hid hprog
    clear hbV hk5M
    obtain ⟨m0, m1, m2, m3, m4, m5, m6, m7, m8, m9, m10, m11, mf, ml⟩ := cl12 hbVd.out
    refine Free.wp_region_chain (fun i => i == 3 || i == 6) (fun i => true) (fun _ b => b < w.heap.size ∨ b = w.heap.size + 1 + 1) (by kernel_rfl) (by kernel_rfl) (by kernel_rfl) ?_
    generalize W5.drew = wd at *
    (repeat (first | (apply Free.cw_pure rfl rfl; (intro w'; go_simp <;> exact rfl); go_frame) | (apply Free.cw_steady rfl rfl rfl; (intro w' hS; have q0 := Free.sx_cell hS m0 (fun _ _ hT => by rcases hT with hT | hT <;> omega); have q1 := Free.sx_cell hS m1 (fun _ _ hT => by rcases hT with hT | hT <;> omega); have q2 := Free.sx_cell hS m2 (fun _ _ hT => by rcases hT with hT | hT <;> omega); have q3 := Free.sx_cell hS m3 (fun _ _ hT => by rcases hT with hT | hT <;> omega); have q4 := Free.sx_cell hS m4 (fun _ _ hT => by rcases hT with hT | hT <;> omega); have q5 := Free.sx_cell hS m5 (fun _ _ hT => by rcases hT with hT | hT <;> omega); have q6 := Free.sx_cell hS m6 (fun _ _ hT => by rcases hT with hT | hT <;> omega); have q7 := Free.sx_cell hS m7 (fun _ _ hT => by rcases hT with hT | hT <;> omega); have q8 := Free.sx_cell hS m8 (fun _ _ hT => by rcases hT with hT | hT <;> omega); have q9 := Free.sx_cell hS m9 (fun _ _ hT => by rcases hT with hT | hT <;> omega); have q10 := Free.sx_cell hS m10 (fun _ _ hT => by rcases hT with hT | hT <;> omega); have q11 := Free.sx_cell hS m11 (fun _ _ hT => by rcases hT with hT | hT <;> omega); have q12 := Free.sx_cell hS k0 (fun _ _ hT => by rcases hT with hT | hT <;> omega); have q13 := Free.sx_cell hS k1 (fun _ _ hT => by rcases hT with hT | hT <;> omega); have q14 := Free.sx_cell hS k2 (fun _ _ hT => by rcases hT with hT | hT <;> omega); have q15 := Free.sx_cell hS k3 (fun _ _ hT => by rcases hT with hT | hT <;> omega); have q16 := Free.sx_cell hS k4 (fun _ _ hT => by rcases hT with hT | hT <;> omega); have q17 := Free.sx_cell hS k5 (fun _ _ hT => by rcases hT with hT | hT <;> omega); have q18 := Free.sx_cell hS k6 (fun _ _ hT => by rcases hT with hT | hT <;> omega); have q19 := Free.sx_cell hS k7 (fun _ _ hT => by rcases hT with hT | hT <;> omega); go_simp <;> exact rfl); go_frame) | (refine Free.cw_skip rfl ?_; go_frame)))
    refine Free.cw_loud rfl rfl (fun K hK => ?_)
    go_wp2_with fail
    refine hprog.out.mono ?_
    rintro e w6 ⟨vo', vh', rfl, hT6, hM6⟩
    refine hK _ _ rfl (Free.KeepsP.of hM6.k (fun b hb => .inl (hown.out b hb))) ?_
    clear hK K hprog
    have hZ6 := (hM6.k.block _ hZl (fun hm => by have := hown.out _ hm; omega)).trans hZd.out

    obtain ⟨v0, v1, v2, v3, v4, v5, v6, v7, v8, v9, v10, v11, vf, vl⟩ := cl12 hZ6
    replace hZ6 := Lib.hid hZ6
    replace hT6 := Lib.hid hT6
    replace hM6 := Lib.hid hM6
    (repeat (apply Free.cw_pure rfl rfl; (intro w'; go_simp <;> exact rfl); go_frame))
    refine Free.cw_loud rfl rfl (fun K hK => ?_)
    go_wp2
    refine hK _ _ rfl (Free.KeepsP.of (sc12 (.int .i64 s0) (.int .i64 s1) (.int .i64 s2) (.int .u64 s3) (.int .i64 s4) (.int .i64 s5) (.slice s6 s7 s8) (.slice s9 s10 s11) (.int .i64 s12) (.slice s13 s14 s15) (.bool s16) (.slice s17 s18 s19) hZ6.out).2 (fun b hb => .inr (by simpa using hb))) ?_
    clear hK K
    (repeat (apply Free.cw_pure rfl rfl; (intro w'; go_simp <;> exact rfl); go_frame))
    refine Free.cw_nil ?_
    go_wp2
    obtain ⟨g1, g2⟩ := sc12 (.int .i64 s0) (.int .i64 s1) (.int .i64 s2) (.int .u64 s3) (.int .i64 s4) (.int .i64 s5) (.slice s6 s7 s8) (.slice s9 s10 s11) (.int .i64 s12) (.slice s13 s14 s15) (.bool s16) (.slice s17 s18 s19) hZ6.out
    obtain ⟨f1, f2⟩ := h.out.fin hkw3.out hk5h.out hR5.out hF5.out hk25.out hT6.out hM6.out g2 ⟨by omega, hZ3⟩ hZ6.out
    refine bodyPost_ret (results_rf rfl _ _ _ _ _ _ _ _ _ _ _ _ _ _ _ _ _ rfl g1) ?_ ?_
    · rfl
    · exact ⟨(⟨s0, s1, s2, s3, s4, s5, (s6, s7, s8), (s9, s10, s11), s12, (s13, s14, s15), s16, (s17, s18, s19)⟩ : RfV), vo', vh', vg, rfl, by rw [hstep.out]; exact f1, f2, fun b hb => (hF5.out b hb).imp id (fun h => Nat.le_trans hkw3.out.size h.1)⟩
  by_cases e3 : ok = 3
  · subst e3
    have hstep : Op3.step ⟨3, oi, on, oa⟩ t = (t.answer (Op3.aim ⟨3, oi, on, oa⟩ t.qs)).1 := by unfold Op3.step; rw [if_pos (by simp)]
    replace hstep := Lib.hid hstep
    go_wp2_with fail
    refine (haim.out _ hkw2.out).mono ?_
    rintro e w3 ⟨ya, rfl, hyv, hyI, hk3⟩
    obtain ⟨p0, p1, p2, p3, p4, p5, p6, p7, p8, p9⟩ := ya
    simp only [aV, AnV.v]
    have hk3M := hk3.alloc (.cells #[.int .i64 p0, .int .i64 p1, .int .u64 p2, .int .i64 p3, .bool p4, .bool p5, .int .i64 p6, .slice p7 p8 p9] tA)
    have hbA := heap_alloc_new w3 (.cells #[.int .i64 p0, .int .i64 p1, .int .u64 p2, .int .i64 p3, .bool p4, .bool p5, .int .i64 p6, .slice p7 p8 p9] tA)
    have hyI3 := hyI.keeps ((Keeps.refl [] w3).alloc (.cells #[.int .i64 p0, .int .i64 p1, .int .u64 p2, .int .i64 p3, .bool p4, .bool p5, .int .i64 p6, .slice p7 p8 p9] tA))
    replace hk3M := Lib.hid hk3M
    replace hbA := Lib.hid hbA
    replace hyv := Lib.hid hyv
    replace hyI3 := Lib.hid hyI3
    have hk3h := Lib.hid hk3
    clear hyI hk3
    go_upto_region 11 with fail
    generalize (w3.alloc (.cells #[.int .i64 p0, .int .i64 p1, .int .u64 p2, .int .i64 p3, .bool p4, .bool p5, .int .i64 p6, .slice p7 p8 p9] tA)) = W3 at *
    obtain ⟨XA, hXA⟩ : ∃ X, w3.heap.size = X := ⟨_, rfl⟩
    rw [hXA] at hbA ⊢
    have hsA : w.heap.size + 1 + 1 < XA := by have := lt_of_blk hbZ.out; have := hk3h.out.size; omega
    replace hXA := Lib.hid hXA
    replace hbX := Lib.hid ((hk3M.out.block _ (lt_of_blk hbX.out) (by simp)).trans hbX.out)
    replace hbO := Lib.hid ((hk3M.out.block _ (lt_of_blk hbO.out) (by simp)).trans hbO.out)
    replace hbZ := Lib.hid ((hk3M.out.block _ (lt_of_blk hbZ.out) (by simp)).trans hbZ.out)
    clear z0 z1 z2 z3 z4 z5 z6 z7 z8 z9 z10 z11 zf zl
    clear r0 r1 r2 r3 r4 r5 r6 r7 r8 r9 r10 rf rl
    obtain ⟨z0, z1, z2, z3, z4, z5, z6, z7, z8, z9, z10, z11, zf, zl⟩ := cl12 hbX.out
    obtain ⟨r0, r1, r2, r3, r4, r5, r6, r7, r8, r9, r10, rf, rl⟩ := cl11 hbO.out
    obtain ⟨k0, k1, k2, k3, k4, k5, k6, k7, kf, kl⟩ := cl8 hbA.out
    have hkw3 := Lib.hid (hkw2.out.trans hk3M.out)
    have hZ3 : w.heap.size + 1 + 1 < W3.heap.size := lt_of_blk hbZ.out
    have hS := hsp.out W3 hkw3.out _ hyI3.out
    simp only [aV, AnV.v] at hS
    replace hS := Lib.hid hS
    go_wp2_with fail
    refine hS.out.mono ?_
    rintro e w5 ⟨xs, rfl, hR5, hk5, hF5⟩
    clear k0 k1 k2 k3 k4 k5 k6 k7 kf kl
    clear z0 z1 z2 z3 z4 z5 z6 z7 z8 z9 z10 z11 zf zl
    clear r0 r1 r2 r3 r4 r5 r6 r7 r8 r9 r10 rf rl
    obtain ⟨s0, s1, s2, s3, s4, s5, ⟨s6, s7, s8⟩, ⟨s9, s10, s11⟩, s12, ⟨s13, s14, s15⟩, s16, ⟨s17, s18, s19⟩⟩ := xs
    simp only [rfV, slv]
    have hk5M := hk5.alloc (.cells #[.int .i64 s0, .int .i64 s1, .int .i64 s2, .int .u64 s3, .int .i64 s4, .int .i64 s5, .slice s6 s7 s8, .slice s9 s10 s11, .int .i64 s12, .slice s13 s14 s15, .bool s16, .slice s17 s18 s19] tR)
    have hbV := heap_alloc_new w5 (.cells #[.int .i64 s0, .int .i64 s1, .int .i64 s2, .int .u64 s3, .int .i64 s4, .int .i64 s5, .slice s6 s7 s8, .slice s9 s10 s11, .int .i64 s12, .slice s13 s14 s15, .bool s16, .slice s17 s18 s19] tR)
    have hk25 := ((Keeps.refl [] w5).alloc (.cells #[.int .i64 s0, .int .i64 s1, .int .i64 s2, .int .u64 s3, .int .i64 s4, .int .i64 s5, .slice s6 s7 s8, .slice s9 s10 s11, .int .i64 s12, .slice s13 s14 s15, .bool s16, .slice s17 s18 s19] tR)).drew
    have hk5h := Lib.hid hk5
    replace hk5M := Lib.hid hk5M
    replace hbV := Lib.hid hbV
    replace hR5 := Lib.hid hR5
    replace hF5 := Lib.hid hF5
    replace hk25 := Lib.hid hk25
    clear hk5

    go_upto_region 12 with fail
    generalize (w5.alloc (.cells #[.int .i64 s0, .int .i64 s1, .int .i64 s2, .int .u64 s3, .int .i64 s4, .int .i64 s5, .slice s6 s7 s8, .slice s9 s10 s11, .int .i64 s12, .slice s13 s14 s15, .bool s16, .slice s17 s18 s19] tR)) = W5 at *
    obtain ⟨XV, hXV⟩ : ∃ X, w5.heap.size = X := ⟨_, rfl⟩
    rw [hXV] at hbV ⊢
    have hkd := Lib.hid hk5M.out.drew
    have hbVd : W5.drew.heap[XV]? = _ := hbV.out
    have hZd : W5.drew.heap[w.heap.size + 1 + 1]? = _ := (hk5M.out.block _ hZ3 (by simp)).trans hbZ.out
    have hbAd : W5.drew.heap[XA]? = _ := (hk5M.out.block _ (lt_of_blk hbA.out) (by simp)).trans hbA.out
    obtain ⟨k0, k1, k2, k3, k4, k5, k6, k7, kf, kl⟩ := cl8 hbAd
    replace hbAd := Lib.hid hbAd
    have hsV : w.heap.size + 1 + 1 < XV := by have := hk5h.out.size; omega
    have hZl := lt_of_blk hZd
    replace hXV := Lib.hid hXV
    replace hbVd := Lib.hid hbVd
    replace hZd := Lib.hid hZd
    have hprog := hpa.out W5.drew (hkw3.out.trans hkd.out) _ (hyI3.out.keeps hkd.out) hyv.out
    simp only [aV, AnV.v] at hprog
    replace hprog := Lib.hid hprog
    clear hbV hk5M
    obtain ⟨m0, m1, m2, m3, m4, m5, m6, m7, m8, m9, m10, m11, mf, ml⟩ := cl12 hbVd.out
    refine Free.wp_region_chain (fun i => i == 3 || i == 6) (fun i => true) (fun _ b => b < w.heap.size ∨ b = w.heap.size + 1 + 1) (by kernel_rfl) (by kernel_rfl) (by kernel_rfl) ?_
    generalize W5.drew = wd at *
    (repeat (first | (apply Free.cw_pure rfl rfl; (intro w'; go_simp <;> exact rfl); go_frame) | (apply Free.cw_steady rfl rfl rfl; (intro w' hS; have q0 := Free.sx_cell hS m0 (fun _ _ hT => by rcases hT with hT | hT <;> omega); have q1 := Free.sx_cell hS m1 (fun _ _ hT => by rcases hT with hT | hT <;> omega); have q2 := Free.sx_cell hS m2 (fun _ _ hT => by rcases hT with hT | hT <;> omega); have q3 := Free.sx_cell hS m3 (fun _ _ hT => by rcases hT with hT | hT <;> omega); have q4 := Free.sx_cell hS m4 (fun _ _ hT => by rcases hT with hT | hT <;> omega); have q5 := Free.sx_cell hS m5 (fun _ _ hT => by rcases hT with hT | hT <;> omega); have q6 := Free.sx_cell hS m6 (fun _ _ hT => by rcases hT with hT | hT <;> omega); have q7 := Free.sx_cell hS m7 (fun _ _ hT => by rcases hT with hT | hT <;> omega); have q8 := Free.sx_cell hS m8 (fun _ _ hT => by rcases hT with hT | hT <;> omega); have q9 := Free.sx_cell hS m9 (fun _ _ hT => by rcases hT with hT | hT <;> omega); have q10 := Free.sx_cell hS m10 (fun _ _ hT => by rcases hT with hT | hT <;> omega); have q11 := Free.sx_cell hS m11 (fun _ _ hT => by rcases hT with hT | hT <;> omega); have q12 := Free.sx_cell hS k0 (fun _ _ hT => by rcases hT with hT | hT <;> omega); have q13 := Free.sx_cell hS k1 (fun _ _ hT => by rcases hT with hT | hT <;> omega); have q14 := Free.sx_cell hS k2 (fun _ _ hT => by rcases hT with hT | hT <;> omega); have q15 := Free.sx_cell hS k3 (fun _ _ hT => by rcases hT with hT | hT <;> omega); have q16 := Free.sx_cell hS k4 (fun _ _ hT => by rcases hT with hT | hT <;> omega); have q17 := Free.sx_cell hS k5 (fun _ _ hT => by rcases hT with hT | hT <;> omega); have q18 := Free.sx_cell hS k6 (fun _ _ hT => by rcases hT with hT | hT <;> omega); have q19 := Free.sx_cell hS k7 (fun _ _ hT => by rcases hT with hT | hT <;> omega); go_simp <;> exact rfl); go_frame) | (refine Free.cw_skip rfl ?_; go_frame)))
    refine Free.cw_loud rfl rfl (fun K hK => ?_)
    go_wp2_with fail
    refine hprog.out.mono ?_
    rintro e w6 ⟨vo', vh', rfl, hT6, hM6⟩
    refine hK _ _ rfl (Free.KeepsP.of hM6.k (fun b hb => .inl (hown.out b hb))) ?_
    clear hK K hprog
    have hZ6 := (hM6.k.block _ hZl (fun hm => by have := hown.out _ hm; omega)).trans hZd.out

    obtain ⟨v0, v1, v2, v3, v4, v5, v6, v7, v8, v9, v10, v11, vf, vl⟩ := cl12 hZ6
    replace hZ6 := Lib.hid hZ6
    replace hT6 := Lib.hid hT6
    replace hM6 := Lib.hid hM6
    (repeat (apply Free.cw_pure rfl rfl; (intro w'; go_simp <;> exact rfl); go_frame))
    refine Free.cw_loud rfl rfl (fun K hK => ?_)
    go_wp2
    refine hK _ _ rfl (Free.KeepsP.of (sc12 (.int .i64 s0) (.int .i64 s1) (.int .i64 s2) (.int .u64 s3) (.int .i64 s4) (.int .i64 s5) (.slice s6 s7 s8) (.slice s9 s10 s11) (.int .i64 s12) (.slice s13 s14 s15) (.bool s16) (.slice s17 s18 s19) hZ6.out).2 (fun b hb => .inr (by simpa using hb))) ?_
    clear hK K
    (repeat (apply Free.cw_pure rfl rfl; (intro w'; go_simp <;> exact rfl); go_frame))
    refine Free.cw_nil ?_
    go_wp2
    obtain ⟨g1, g2⟩ := sc12 (.int .i64 s0) (.int .i64 s1) (.int .i64 s2) (.int .u64 s3) (.int .i64 s4) (.int .i64 s5) (.slice s6 s7 s8) (.slice s9 s10 s11) (.int .i64 s12) (.slice s13 s14 s15) (.bool s16) (.slice s17 s18 s19) hZ6.out
    obtain ⟨f1, f2⟩ := h.out.fin hkw3.out hk5h.out hR5.out hF5.out hk25.out hT6.out hM6.out g2 ⟨by omega, hZ3⟩ hZ6.out
    refine bodyPost_ret (results_rf rfl _ _ _ _ _ _ _ _ _ _ _ _ _ _ _ _ _ rfl g1) ?_ ?_
    · rfl
    · exact ⟨(⟨s0, s1, s2, s3, s4, s5, (s6, s7, s8), (s9, s10, s11), s12, (s13, s14, s15), s16, (s17, s18, s19)⟩ : RfV), vo', vh', vg, rfl, by rw [hstep.out]; exact f1, f2, fun b hb => (hF5.out b hb).imp id (fun h => Nat.le_trans hkw3.out.size h.1)⟩
  by_cases e4 : ok = 4
  · subst e4
    have hstep : Op3.step ⟨4, oi, on, oa⟩ t = t.queries.1 := by unfold Op3.step; rw [if_neg (by simp), if_pos rfl]
    replace hstep := Lib.hid hstep
    have hkw3 := hkw2
    have hZ3 : w.heap.size + 1 + 1 < W2.heap.size := lt_of_blk hbZ.out
    have hS := hsq.out W2 hkw2.out
    replace hS := Lib.hid hS
    go_wp2_with fail
    refine hS.out.mono ?_
    rintro e w5 ⟨xs, vq, rfl, hR5, hvq, hk5, hF5⟩
    obtain ⟨qa, qc, rfl⟩ := hvq.form
    obtain ⟨QN, hQN⟩ : ∃ n, t.queries.2.length = n := ⟨_, rfl⟩
    rw [hQN] at hvq ⊢
    clear z0 z1 z2 z3 z4 z5 z6 z7 z8 z9 z10 z11 zf zl
    clear r0 r1 r2 r3 r4 r5 r6 r7 r8 r9 r10 rf rl
    clear j0 j1 j2 j3 j4 jf jl
    obtain ⟨s0, s1, s2, s3, s4, s5, ⟨s6, s7, s8⟩, ⟨s9, s10, s11⟩, s12, ⟨s13, s14, s15⟩, s16, ⟨s17, s18, s19⟩⟩ := xs
    simp only [rfV, slv]
    have hk5M := hk5.alloc (.cells #[.int .i64 s0, .int .i64 s1, .int .i64 s2, .int .u64 s3, .int .i64 s4, .int .i64 s5, .slice s6 s7 s8, .slice s9 s10 s11, .int .i64 s12, .slice s13 s14 s15, .bool s16, .slice s17 s18 s19] tR)
    have hbV := heap_alloc_new w5 (.cells #[.int .i64 s0, .int .i64 s1, .int .i64 s2, .int .u64 s3, .int .i64 s4, .int .i64 s5, .slice s6 s7 s8, .slice s9 s10 s11, .int .i64 s12, .slice s13 s14 s15, .bool s16, .slice s17 s18 s19] tR)
    have hk25 := ((Keeps.refl [] w5).alloc (.cells #[.int .i64 s0, .int .i64 s1, .int .i64 s2, .int .u64 s3, .int .i64 s4, .int .i64 s5, .slice s6 s7 s8, .slice s9 s10 s11, .int .i64 s12, .slice s13 s14 s15, .bool s16, .slice s17 s18 s19] tR)).drew
    have hk5h := Lib.hid hk5
    replace hk5M := Lib.hid hk5M
    replace hbV := Lib.hid hbV
    replace hR5 := Lib.hid hR5
    replace hF5 := Lib.hid hF5
    replace hk25 := Lib.hid hk25
    clear hk5

    go_upto_region 15 with fail
    generalize (w5.alloc (.cells #[.int .i64 s0, .int .i64 s1, .int .i64 s2, .int .u64 s3, .int .i64 s4, .int .i64 s5, .slice s6 s7 s8, .slice s9 s10 s11, .int .i64 s12, .slice s13 s14 s15, .bool s16, .slice s17 s18 s19] tR)) = W5 at *
    obtain ⟨XV, hXV⟩ : ∃ X, w5.heap.size = X := ⟨_, rfl⟩
    rw [hXV] at hbV ⊢
    have hkd := Lib.hid hk5M.out.drew
    have hbVd : W5.drew.heap[XV]? = _ := hbV.out
    have hZd : W5.drew.heap[w.heap.size + 1 + 1]? = _ := (hk5M.out.block _ hZ3 (by simp)).trans hbZ.out

    have hsV : w.heap.size + 1 + 1 < XV := by have := hk5h.out.size; omega
    have hZl := lt_of_blk hZd
    replace hXV := Lib.hid hXV
    replace hbVd := Lib.hid hbVd
    replace hZd := Lib.hid hZd
    have hprog := hpq.out W5.drew (hkw2.out.trans hkd.out)
    replace hvq := Lib.hid (hvq.keeps hk25.out)
    have hQl : ∀ b, (Value.slice qa QN qc).ownBlock = some b → ∃ (cs : Array Value), W5.drew.heap[b]? = some (Obj.cells cs tN (0, 0)) := hvq.out.tag
    replace hQN := Lib.hid hQN
    replace hQl := Lib.hid hQl
    replace hprog := Lib.hid hprog
    clear hbV hk5M
    obtain ⟨m0, m1, m2, m3, m4, m5, m6, m7, m8, m9, m10, m11, mf, ml⟩ := cl12 hbVd.out
    refine Free.wp_region_chain (fun i => i == 2 || i == 4 || i == 5) (fun i => true) (fun _ b => b < w.heap.size ∨ b = w.heap.size + 1 + 1) (by kernel_rfl) (by kernel_rfl) (by kernel_rfl) ?_
    generalize W5.drew = wd at *
    (repeat (first | (apply Free.cw_pure rfl rfl; (intro w'; go_simp <;> exact rfl); go_frame) | (apply Free.cw_steady rfl rfl rfl; (intro w' hS; have q0 := Free.sx_cell hS m0 (fun _ _ hT => by rcases hT with hT | hT <;> omega); have q1 := Free.sx_cell hS m1 (fun _ _ hT => by rcases hT with hT | hT <;> omega); have q2 := Free.sx_cell hS m2 (fun _ _ hT => by rcases hT with hT | hT <;> omega); have q3 := Free.sx_cell hS m3 (fun _ _ hT => by rcases hT with hT | hT <;> omega); have q4 := Free.sx_cell hS m4 (fun _ _ hT => by rcases hT with hT | hT <;> omega); have q5 := Free.sx_cell hS m5 (fun _ _ hT => by rcases hT with hT | hT <;> omega); have q6 := Free.sx_cell hS m6 (fun _ _ hT => by rcases hT with hT | hT <;> omega); have q7 := Free.sx_cell hS m7 (fun _ _ hT => by rcases hT with hT | hT <;> omega); have q8 := Free.sx_cell hS m8 (fun _ _ hT => by rcases hT with hT | hT <;> omega); have q9 := Free.sx_cell hS m9 (fun _ _ hT => by rcases hT with hT | hT <;> omega); have q10 := Free.sx_cell hS m10 (fun _ _ hT => by rcases hT with hT | hT <;> omega); have q11 := Free.sx_cell hS m11 (fun _ _ hT => by rcases hT with hT | hT <;> omega); go_simp <;> exact rfl); go_frame) | (refine Free.cw_skip rfl ?_; go_frame)))
    refine Free.cw_loud rfl rfl (fun K hK => ?_)
    go_wp2_with fail
    refine hprog.out.mono ?_
    rintro e w6 ⟨v6, rfl, hv6, hT6, hM6⟩
    refine hK _ _ rfl (Free.KeepsP.of hM6.k (fun b hb => .inl (hown.out b hb))) ?_
    clear hK K hprog
    have hZ6 := (hM6.k.block _ hZl (fun hm => by have := hown.out _ hm; omega)).trans hZd.out
    have hvq6 : shT.R w6 (.slice qa QN qc) t.queries.2 := (hvq.out.keepS hM6.k (fun b hb e => by
      obtain ⟨cs, hc⟩ := hQl.out b e
      rcases (hm.out.keeps (hkw2.out.trans hkd.out)).own_tag hb with ⟨_, _, ⟨es, cl, hmm⟩ | ⟨cs', e', hc', he'⟩⟩
      · rw [hc] at hmm; cases hmm
      · rw [hc] at hc'
        cases hc'
        rcases he' with he' | he' | he' | he' <;> exact absurd he' (by decide))).r
    have hsn := sameNeeds_c w6 v6 (.slice qa QN qc) _ _ hv6.r hvq6
    rw [decide_eq_true rfl] at hsn
    replace hsn := Lib.hid hsn
    clear hv6 hvq6
    (repeat (apply Free.cw_pure rfl rfl; (intro w'; go_simp <;> exact rfl); go_frame))
    refine Free.cw_loud rfl rfl (fun K hK => ?_)
    go_wp2_with fail
    refine hsn.out.mono ?_
    rintro e w7 ⟨rfl, hk7⟩
    refine hK _ _ rfl (Free.KeepsP.of hk7 (by simp)) ?_
    clear hK K hsn
    replace hZ6 := (hk7.block _ (lt_of_blk hZ6) (by simp)).trans hZ6
    replace hT6 := hT6.keeps hk7
    replace hM6 := hM6.trans (Mv.nil hk7)
    obtain ⟨v0, v1, v2, v3, v4, v5, v6, v7, v8, v9, v10, v11, vf, vl⟩ := cl12 hZ6
    replace hZ6 := Lib.hid hZ6
    replace hT6 := Lib.hid hT6
    replace hM6 := Lib.hid hM6
    (repeat (apply Free.cw_pure rfl rfl; (intro w'; go_simp <;> exact rfl); go_frame))
    refine Free.cw_loud rfl rfl (fun K hK => ?_)
    go_wp2
    refine hK _ _ rfl (Free.KeepsP.of (sc12 (.int .i64 s0) (.int .i64 s1) (.int .i64 s2) (.int .u64 s3) (.int .i64 s4) (.int .i64 s5) (.slice s6 s7 s8) (.slice s9 s10 s11) (.int .i64 s12) (.slice s13 s14 s15) (.bool s16) (.slice s17 s18 s19) hZ6.out).2 (fun b hb => .inr (by simpa using hb))) ?_
    clear hK K
    (repeat (apply Free.cw_pure rfl rfl; (intro w'; go_simp <;> exact rfl); go_frame))
    refine Free.cw_nil ?_
    go_wp2
    obtain ⟨g1, g2⟩ := sc12 (.int .i64 s0) (.int .i64 s1) (.int .i64 s2) (.int .u64 s3) (.int .i64 s4) (.int .i64 s5) (.slice s6 s7 s8) (.slice s9 s10 s11) (.int .i64 s12) (.slice s13 s14 s15) (.bool s16) (.slice s17 s18 s19) hZ6.out
    obtain ⟨f1, f2⟩ := h.out.fin hkw3.out hk5h.out hR5.out hF5.out hk25.out hT6.out hM6.out g2 ⟨by omega, hZ3⟩ hZ6.out
    refine bodyPost_ret (results_rf rfl _ _ _ _ _ _ _ _ _ _ _ _ _ _ _ _ _ rfl g1) ?_ ?_
    · rfl
    · exact ⟨(⟨s0, s1, s2, s3, s4, s5, (s6, s7, s8), (s9, s10, s11), s12, (s13, s14, s15), s16, (s17, s18, s19)⟩ : RfV), vo, vh, vg, rfl, by rw [hstep.out]; exact f1, f2, fun b hb => (hF5.out b hb).imp id (fun h => Nat.le_trans hkw3.out.size h.1)⟩
  by_cases e5 : ok = 5
  · subst e5
    have hstep : Op3.step ⟨5, oi, on, oa⟩ t = (t.agreeT mm).1 := by unfold Op3.step; rw [if_neg (by simp), if_neg (by simp), if_pos rfl, ← hmm.out]
    replace hstep := Lib.hid hstep
    have hkw3 := hkw2
    have hZ3 : w.heap.size + 1 + 1 < W2.heap.size := lt_of_blk hbZ.out
    have hS := hsa.out W2 hkw2.out mm
    replace hS := Lib.hid hS
    go_wp2_with fail
    refine hS.out.mono ?_
    rintro e w5 ⟨xs, rfl, hR5, hk5, hF5⟩
    clear z0 z1 z2 z3 z4 z5 z6 z7 z8 z9 z10 z11 zf zl
    clear r0 r1 r2 r3 r4 r5 r6 r7 r8 r9 r10 rf rl
    clear j0 j1 j2 j3 j4 jf jl
    obtain ⟨s0, s1, s2, s3, s4, s5, ⟨s6, s7, s8⟩, ⟨s9, s10, s11⟩, s12, ⟨s13, s14, s15⟩, s16, ⟨s17, s18, s19⟩⟩ := xs
    simp only [rfV, slv]
    have hk5M := hk5.alloc (.cells #[.int .i64 s0, .int .i64 s1, .int .i64 s2, .int .u64 s3, .int .i64 s4, .int .i64 s5, .slice s6 s7 s8, .slice s9 s10 s11, .int .i64 s12, .slice s13 s14 s15, .bool s16, .slice s17 s18 s19] tR)
    have hbV := heap_alloc_new w5 (.cells #[.int .i64 s0, .int .i64 s1, .int .i64 s2, .int .u64 s3, .int .i64 s4, .int .i64 s5, .slice s6 s7 s8, .slice s9 s10 s11, .int .i64 s12, .slice s13 s14 s15, .bool s16, .slice s17 s18 s19] tR)
    have hk25 := ((Keeps.refl [] w5).alloc (.cells #[.int .i64 s0, .int .i64 s1, .int .i64 s2, .int .u64 s3, .int .i64 s4, .int .i64 s5, .slice s6 s7 s8, .slice s9 s10 s11, .int .i64 s12, .slice s13 s14 s15, .bool s16, .slice s17 s18 s19] tR)).drew
    have hk5h := Lib.hid hk5
    replace hk5M := Lib.hid hk5M
    replace hbV := Lib.hid hbV
    replace hR5 := Lib.hid hR5
    replace hF5 := Lib.hid hF5
    replace hk25 := Lib.hid hk25
    clear hk5

    go_upto_region 18 with fail
    generalize (w5.alloc (.cells #[.int .i64 s0, .int .i64 s1, .int .i64 s2, .int .u64 s3, .int .i64 s4, .int .i64 s5, .slice s6 s7 s8, .slice s9 s10 s11, .int .i64 s12, .slice s13 s14 s15, .bool s16, .slice s17 s18 s19] tR)) = W5 at *
    obtain ⟨XV, hXV⟩ : ∃ X, w5.heap.size = X := ⟨_, rfl⟩
    rw [hXV] at hbV ⊢
    have hkd := Lib.hid hk5M.out.drew
    have hbVd : W5.drew.heap[XV]? = _ := hbV.out
    have hZd : W5.drew.heap[w.heap.size + 1 + 1]? = _ := (hk5M.out.block _ hZ3 (by simp)).trans hbZ.out

    have hsV : w.heap.size + 1 + 1 < XV := by have := hk5h.out.size; omega
    have hZl := lt_of_blk hZd
    replace hXV := Lib.hid hXV
    replace hbVd := Lib.hid hbVd
    replace hZd := Lib.hid hZd
    have hprog := hpg.out W5.drew (hkw2.out.trans hkd.out) mm
    replace hprog := Lib.hid hprog
    clear hbV hk5M
    obtain ⟨m0, m1, m2, m3, m4, m5, m6, m7, m8, m9, m10, m11, mf, ml⟩ := cl12 hbVd.out
    refine Free.wp_region_chain (fun i => i == 3 || i == 6) (fun i => true) (fun _ b => b < w.heap.size ∨ b = w.heap.size + 1 + 1) (by kernel_rfl) (by kernel_rfl) (by kernel_rfl) ?_
    generalize W5.drew = wd at *
    (repeat (first | (apply Free.cw_pure rfl rfl; (intro w'; go_simp <;> exact rfl); go_frame) | (apply Free.cw_steady rfl rfl rfl; (intro w' hS; have q0 := Free.sx_cell hS m0 (fun _ _ hT => by rcases hT with hT | hT <;> omega); have q1 := Free.sx_cell hS m1 (fun _ _ hT => by rcases hT with hT | hT <;> omega); have q2 := Free.sx_cell hS m2 (fun _ _ hT => by rcases hT with hT | hT <;> omega); have q3 := Free.sx_cell hS m3 (fun _ _ hT => by rcases hT with hT | hT <;> omega); have q4 := Free.sx_cell hS m4 (fun _ _ hT => by rcases hT with hT | hT <;> omega); have q5 := Free.sx_cell hS m5 (fun _ _ hT => by rcases hT with hT | hT <;> omega); have q6 := Free.sx_cell hS m6 (fun _ _ hT => by rcases hT with hT | hT <;> omega); have q7 := Free.sx_cell hS m7 (fun _ _ hT => by rcases hT with hT | hT <;> omega); have q8 := Free.sx_cell hS m8 (fun _ _ hT => by rcases hT with hT | hT <;> omega); have q9 := Free.sx_cell hS m9 (fun _ _ hT => by rcases hT with hT | hT <;> omega); have q10 := Free.sx_cell hS m10 (fun _ _ hT => by rcases hT with hT | hT <;> omega); have q11 := Free.sx_cell hS m11 (fun _ _ hT => by rcases hT with hT | hT <;> omega); go_simp <;> exact rfl); go_frame) | (refine Free.cw_skip rfl ?_; go_frame)))
    refine Free.cw_loud rfl rfl (fun K hK => ?_)
    go_wp2_with fail
    refine hprog.out.mono ?_
    rintro e w6 ⟨vg', rfl, hT6, hM6⟩
    refine hK _ _ rfl (Free.KeepsP.of hM6.k (fun b hb => .inl (hown.out b hb))) ?_
    clear hK K hprog
    have hZ6 := (hM6.k.block _ hZl (fun hm => by have := hown.out _ hm; omega)).trans hZd.out

    obtain ⟨v0, v1, v2, v3, v4, v5, v6, v7, v8, v9, v10, v11, vf, vl⟩ := cl12 hZ6
    replace hZ6 := Lib.hid hZ6
    replace hT6 := Lib.hid hT6
    replace hM6 := Lib.hid hM6
    (repeat (apply Free.cw_pure rfl rfl; (intro w'; go_simp <;> exact rfl); go_frame))
    refine Free.cw_loud rfl rfl (fun K hK => ?_)
    go_wp2
    refine hK _ _ rfl (Free.KeepsP.of (sc12 (.int .i64 s0) (.int .i64 s1) (.int .i64 s2) (.int .u64 s3) (.int .i64 s4) (.int .i64 s5) (.slice s6 s7 s8) (.slice s9 s10 s11) (.int .i64 s12) (.slice s13 s14 s15) (.bool s16) (.slice s17 s18 s19) hZ6.out).2 (fun b hb => .inr (by simpa using hb))) ?_
    clear hK K
    (repeat (apply Free.cw_pure rfl rfl; (intro w'; go_simp <;> exact rfl); go_frame))
    refine Free.cw_nil ?_
    go_wp2
    obtain ⟨g1, g2⟩ := sc12 (.int .i64 s0) (.int .i64 s1) (.int .i64 s2) (.int .u64 s3) (.int .i64 s4) (.int .i64 s5) (.slice s6 s7 s8) (.slice s9 s10 s11) (.int .i64 s12) (.slice s13 s14 s15) (.bool s16) (.slice s17 s18 s19) hZ6.out
    obtain ⟨f1, f2⟩ := h.out.fin hkw3.out hk5h.out hR5.out hF5.out hk25.out hT6.out hM6.out g2 ⟨by omega, hZ3⟩ hZ6.out
    refine bodyPost_ret (results_rf rfl _ _ _ _ _ _ _ _ _ _ _ _ _ _ _ _ _ rfl g1) ?_ ?_
    · rfl
    · exact ⟨(⟨s0, s1, s2, s3, s4, s5, (s6, s7, s8), (s9, s10, s11), s12, (s13, s14, s15), s16, (s17, s18, s19)⟩ : RfV), vo, vh, vg', rfl, by rw [hstep.out]; exact f1, f2, fun b hb => (hF5.out b hb).imp id (fun h => Nat.le_trans hkw3.out.size h.1)⟩
  by_cases e6 : ok = 6
  · subst e6
    have hstep : Op3.step ⟨6, oi, on, oa⟩ t = (t.refuseT mm).1 := by unfold Op3.step; rw [if_neg (by simp), if_neg (by simp), if_neg (by simp), if_pos rfl, ← hmm.out]
    replace hstep := Lib.hid hstep
    have hkw3 := hkw2
    have hZ3 : w.heap.size + 1 + 1 < W2.heap.size := lt_of_blk hbZ.out
    have hS := hsr.out W2 hkw2.out mm
    replace hS := Lib.hid hS
    go_wp2_with fail
    refine hS.out.mono ?_
    rintro e w5 ⟨xs, rfl, hR5, hk5, hF5⟩
    clear z0 z1 z2 z3 z4 z5 z6 z7 z8 z9 z10 z11 zf zl
    clear r0 r1 r2 r3 r4 r5 r6 r7 r8 r9 r10 rf rl
    clear j0 j1 j2 j3 j4 jf jl
    obtain ⟨s0, s1, s2, s3, s4, s5, ⟨s6, s7, s8⟩, ⟨s9, s10, s11⟩, s12, ⟨s13, s14, s15⟩, s16, ⟨s17, s18, s19⟩⟩ := xs
    simp only [rfV, slv]
    have hk5M := hk5.alloc (.cells #[.int .i64 s0, .int .i64 s1, .int .i64 s2, .int .u64 s3, .int .i64 s4, .int .i64 s5, .slice s6 s7 s8, .slice s9 s10 s11, .int .i64 s12, .slice s13 s14 s15, .bool s16, .slice s17 s18 s19] tR)
    have hbV := heap_alloc_new w5 (.cells #[.int .i64 s0, .int .i64 s1, .int .i64 s2, .int .u64 s3, .int .i64 s4, .int .i64 s5, .slice s6 s7 s8, .slice s9 s10 s11, .int .i64 s12, .slice s13 s14 s15, .bool s16, .slice s17 s18 s19] tR)
    have hk25 := ((Keeps.refl [] w5).alloc (.cells #[.int .i64 s0, .int .i64 s1, .int .i64 s2, .int .u64 s3, .int .i64 s4, .int .i64 s5, .slice s6 s7 s8, .slice s9 s10 s11, .int .i64 s12, .slice s13 s14 s15, .bool s16, .slice s17 s18 s19] tR)).drew
    have hk5h := Lib.hid hk5
    replace hk5M := Lib.hid hk5M
    replace hbV := Lib.hid hbV
    replace hR5 := Lib.hid hR5
    replace hF5 := Lib.hid hF5
    replace hk25 := Lib.hid hk25
    clear hk5

    go_upto_region 21 with fail
    generalize (w5.alloc (.cells #[.int .i64 s0, .int .i64 s1, .int .i64 s2, .int .u64 s3, .int .i64 s4, .int .i64 s5, .slice s6 s7 s8, .slice s9 s10 s11, .int .i64 s12, .slice s13 s14 s15, .bool s16, .slice s17 s18 s19] tR)) = W5 at *
    obtain ⟨XV, hXV⟩ : ∃ X, w5.heap.size = X := ⟨_, rfl⟩
    rw [hXV] at hbV ⊢
    have hkd := Lib.hid hk5M.out.drew
    have hbVd : W5.drew.heap[XV]? = _ := hbV.out
    have hZd : W5.drew.heap[w.heap.size + 1 + 1]? = _ := (hk5M.out.block _ hZ3 (by simp)).trans hbZ.out

    have hsV : w.heap.size + 1 + 1 < XV := by have := hk5h.out.size; omega
    have hZl := lt_of_blk hZd
    replace hXV := Lib.hid hXV
    replace hbVd := Lib.hid hbVd
    replace hZd := Lib.hid hZd
    have hprog := hpr.out W5.drew (hkw2.out.trans hkd.out) mm
    replace hprog := Lib.hid hprog
    clear hbV hk5M
    obtain ⟨m0, m1, m2, m3, m4, m5, m6, m7, m8, m9, m10, m11, mf, ml⟩ := cl12 hbVd.out
    refine Free.wp_region_chain (fun i => i == 3 || i == 6) (fun i => true) (fun _ b => b < w.heap.size ∨ b = w.heap.size + 1 + 1) (by kernel_rfl) (by kernel_rfl) (by kernel_rfl) ?_
    generalize W5.drew = wd at *
    (repeat (first | (apply Free.cw_pure rfl rfl; (intro w'; go_simp <;> exact rfl); go_frame) | (apply Free.cw_steady rfl rfl rfl; (intro w' hS; have q0 := Free.sx_cell hS m0 (fun _ _ hT => by rcases hT with hT | hT <;> omega); have q1 := Free.sx_cell hS m1 (fun _ _ hT => by rcases hT with hT | hT <;> omega); have q2 := Free.sx_cell hS m2 (fun _ _ hT => by rcases hT with hT | hT <;> omega); have q3 := Free.sx_cell hS m3 (fun _ _ hT => by rcases hT with hT | hT <;> omega); have q4 := Free.sx_cell hS m4 (fun _ _ hT => by rcases hT with hT | hT <;> omega); have q5 := Free.sx_cell hS m5 (fun _ _ hT => by rcases hT with hT | hT <;> omega); have q6 := Free.sx_cell hS m6 (fun _ _ hT => by rcases hT with hT | hT <;> omega); have q7 := Free.sx_cell hS m7 (fun _ _ hT => by rcases hT with hT | hT <;> omega); have q8 := Free.sx_cell hS m8 (fun _ _ hT => by rcases hT with hT | hT <;> omega); have q9 := Free.sx_cell hS m9 (fun _ _ hT => by rcases hT with hT | hT <;> omega); have q10 := Free.sx_cell hS m10 (fun _ _ hT => by rcases hT with hT | hT <;> omega); have q11 := Free.sx_cell hS m11 (fun _ _ hT => by rcases hT with hT | hT <;> omega); go_simp <;> exact rfl); go_frame) | (refine Free.cw_skip rfl ?_; go_frame)))
    refine Free.cw_loud rfl rfl (fun K hK => ?_)
    go_wp2_with fail
    refine hprog.out.mono ?_
    rintro e w6 ⟨rfl, hT6, hM6⟩
    refine hK _ _ rfl (Free.KeepsP.of hM6.k (fun b hb => .inl (hown.out b hb))) ?_
    clear hK K hprog
    have hZ6 := (hM6.k.block _ hZl (fun hm => by have := hown.out _ hm; omega)).trans hZd.out

    obtain ⟨v0, v1, v2, v3, v4, v5, v6, v7, v8, v9, v10, v11, vf, vl⟩ := cl12 hZ6
    replace hZ6 := Lib.hid hZ6
    replace hT6 := Lib.hid hT6
    replace hM6 := Lib.hid hM6
    (repeat (apply Free.cw_pure rfl rfl; (intro w'; go_simp <;> exact rfl); go_frame))
    refine Free.cw_loud rfl rfl (fun K hK => ?_)
    go_wp2
    refine hK _ _ rfl (Free.KeepsP.of (sc12 (.int .i64 s0) (.int .i64 s1) (.int .i64 s2) (.int .u64 s3) (.int .i64 s4) (.int .i64 s5) (.slice s6 s7 s8) (.slice s9 s10 s11) (.int .i64 s12) (.slice s13 s14 s15) (.bool s16) (.slice s17 s18 s19) hZ6.out).2 (fun b hb => .inr (by simpa using hb))) ?_
    clear hK K
    (repeat (apply Free.cw_pure rfl rfl; (intro w'; go_simp <;> exact rfl); go_frame))
    refine Free.cw_nil ?_
    go_wp2
    obtain ⟨g1, g2⟩ := sc12 (.int .i64 s0) (.int .i64 s1) (.int .i64 s2) (.int .u64 s3) (.int .i64 s4) (.int .i64 s5) (.slice s6 s7 s8) (.slice s9 s10 s11) (.int .i64 s12) (.slice s13 s14 s15) (.bool s16) (.slice s17 s18 s19) hZ6.out
    obtain ⟨f1, f2⟩ := h.out.fin hkw3.out hk5h.out hR5.out hF5.out hk25.out hT6.out hM6.out g2 ⟨by omega, hZ3⟩ hZ6.out
    refine bodyPost_ret (results_rf rfl _ _ _ _ _ _ _ _ _ _ _ _ _ _ _ _ _ rfl g1) ?_ ?_
    · rfl
    · exact ⟨(⟨s0, s1, s2, s3, s4, s5, (s6, s7, s8), (s9, s10, s11), s12, (s13, s14, s15), s16, (s17, s18, s19)⟩ : RfV), vo, vh, vg, rfl, by rw [hstep.out]; exact f1, f2, fun b hb => (hF5.out b hb).imp id (fun h => Nat.le_trans hkw3.out.size h.1)⟩
  have hstep : Op3.step ⟨ok, oi, on, oa⟩ t = t := by unfold Op3.step; rw [if_neg (by simp only; omega), if_neg (by simpa using e4), if_neg (by simpa using e5), if_neg (by simpa using e6)]
  replace hstep := Lib.hid hstep
  go_wp2
  obtain ⟨g1, g2⟩ := sc12 (.int .i64 x0) (.int .i64 x1) (.int .i64 x2) (.int .u64 x3) (.int .i64 x4) (.int .i64 x5) (.slice x6 x7 x8) (.slice x9 x10 x11) (.int .i64 x12) (.slice x13 x14 x15) (.bool x16) (.slice x17 x18 x19) hbZ.out
  have hkf := hkw2.out.fresh g2 (fun b hb => by simp only [List.mem_singleton] at hb; subst hb; exact .inr (by omega))
  refine bodyPost_ret (results_rf rfl _ _ _ _ _ _ _ _ _ _ _ _ _ _ _ _ _ rfl g1) ?_ ?_
  · rfl
  · exact ⟨⟨x0, x1, x2, x3, x4, x5, (x6, x7, x8), (x9, x10, x11), x12, (x13, x14, x15), x16, (x17, x18, x19)⟩, vo, vh, vg, rfl, by rw [hstep.out]; exact h.out.keeps hkf, Mv.nil hkf, fun b hb => .inl hb⟩
end Go.Proofs.YthfdngjbcgkkfaaGreat

namespace Go.Proofs.YthfdngjbcgkkfaaGreat
open Go Go.RowKit

theorem eqD0 (w : World) (x0 : Int) (x1 : Int) (y0 : Int) (y1 : Int) : (Op.equalIn 10000 23 (.agg #[.int .i64 x0, .int .i64 x1]) (.agg #[.int .i64 y0, .int .i64 y1])).run Tryz.prog w = .ok (x0 == y0 && x1 == y1) w := by
  have h1 : Tryz.prog.underlying 23 = some (.struct (Tryz.prog.fieldsOf 23)) := by kernel_rfl
  have h2 : Tryz.prog.stoodInHeld 23 = false := by kernel_rfl
  have h3 : (Tryz.prog.fieldsOf 23).toList.map (fun f => (f.name != "_", f.type, f.offset)) = [(true, 3, 0), (true, 3, 1)] := by kernel_rfl
  obtain ⟨f0, f1, hf⟩ : ∃ f0 f1, (Tryz.prog.fieldsOf 23).toList = [f0, f1] := by
    generalize (Tryz.prog.fieldsOf 23).toList = l at h3
    have hl := congrArg List.length h3
    simp only [List.length_map, List.length_cons, List.length_nil] at hl
    match l, hl with
    | [f0, f1], _ => exact ⟨f0, f1, rfl⟩
  rw [hf] at h3
  simp only [List.map_cons, List.map_nil, List.cons.injEq, Prod.mk.injEq, and_true, bne_iff_ne, ne_eq] at h3
  obtain ⟨⟨n0, t0, o0⟩, n1, t1, o1⟩ := h3
  rw [run_equalIn_agg w 9999 _ _ _ h1 h2, hf]
  have p0 : ∀ (x0 : Int) (x1 : Int) (w : World), (part 3 #[.int .i64 x0, .int .i64 x1] 0).run Tryz.prog w = .ok (.int .i64 x0) w := fun x0 x1 w => by kernel_rfl
  have p1 : ∀ (x0 : Int) (x1 : Int) (w : World), (part 3 #[.int .i64 x0, .int .i64 x1] 1).run Tryz.prog w = .ok (.int .i64 x1) w := fun x0 x1 w => by kernel_rfl
  have e_int : ∀ (x y : Int) (w : World), (Op.equalIn 9999 3 (.int .i64 x) (.int .i64 y)).run Tryz.prog w = .ok (x == y) w := fun x y w => run_equalIn_int w 9998 _ _ _ x y Tryz.underlying3
  simp only [Op.eqFields, n0, t0, o0, n1, t1, o1, ne_eq, not_false_eq_true, if_true, Sem.run_bind, p0, p1, e_int, Result.andThen]
  cases b0 : (x0 == y0)
  · simp [p0, p1, e_int, b0]
  · cases b1 : (x1 == y1)
    · simp [p0, p1, e_int, b0, b1]
    · simp [p0, p1, e_int, b0, b1]
theorem eqDD (w : World) (a b : Int) : (binOp .eql 23 (.agg #[.int .i64 a, .int .i64 b]) (.agg #[.int .i64 a, .int .i64 b])).run Tryz.prog w = .ok (.bool true) w := by
  rw [run_eql_struct, eqD0, Result.andThen_ok]
  simp
  try rfl
theorem eqNN (w : World) (a : Int) (b : Nat) (c : Int) : (binOp .eql tN (.agg #[.int .i64 a, .int .u64 b, .int .i64 c]) (.agg #[.int .i64 a, .int .u64 b, .int .i64 c])).run Tryz.prog w = .ok (.bool true) w := by
  have := eqN w (a, b, c) (a, b, c)
  rw [decide_eq_true rfl] at this
  exact this
theorem ClaimsV.lc {w : World} {t : Tr} {v : Value} (hi : t.Inv) (h : ClaimsV w t v) : LC w v t.clms := by
  unfold Tr.clms
  rcases h with ⟨h1, rfl⟩ | ⟨h1, P, Y, h2, h3, h4⟩
  · rw [h1, if_neg (by decide)]; exact LC.nil w
  · rw [if_pos h1, ← Tr.clm_eq hi h3 h4]; exact h2
end Go.Proofs.YthfdngjbcgkkfaaGreat

namespace Go.Proofs.YthfdngjbcgkkfaaGreat
open Go Go.RowKit

def fewB (L : List Op3) : Bool := L.all (fun o => decide (o.a.ins.length ≤ 5)) && decide (L.length ≤ 30)
set_option maxRecDepth 100000 in
set_option maxHeartbeats 4000000 in
theorem few_c (w : World) (v0 : Value) (L : List Op3) (h : LO w v0 L) :
    Calls Tryz.prog 5 #[v0] w fun e w' => e = .returned (.bool (fewB L)) ∧ Keeps [] w w' := by
  obtain ⟨a0, c0, rfl, hlc, hcm, _⟩ := Gen.SlR.form h
  obtain ⟨M, hM⟩ : ∃ n, L.length = n := ⟨_, rfl⟩
  rw [hM] at hlc h ⊢
  have hMx : M ≤ 9223372036854775807 := by unfold Go.maxLen at hcm; omega
  replace hM := Lib.hid hM
  replace h := Lib.hid h
  go_enter Tryz.func5, Tryz.ntmps5
  go_wp2
  go_loopw [3] (fun iv wr => ∃ k : Nat, iv = .int .i64 k ∧ k ≤ M ∧ Hid (∀ j (hj : j < L.length), j < k → L[j].a.ins.length ≤ 5) ∧ Hid (Keeps [] w wr)) (fun iv _ => M - (intOf iv).toNat)
  case atStart => exact ⟨0, rfl, by omega, Lib.hid (fun _ _ h => by omega), Lib.hid (Keeps.refl _ _)⟩
  case round =>
    obtain ⟨k, rfl, hk, hno, hkw⟩ := hrel
    by_cases hlt : k < M
    · have hk2 : k < L.length := by rw [hM.out]; exact hlt
      have hlt2 : (k : Int) < M := by omega
      obtain ⟨g, o, d, x, hv, hI, hF, e0, e1, e2, e3, e4, e5, e6, e7, e8, e9, e10⟩ := (h.out.keeps hkw.out).elem hk2
      rw [hM.out] at hv
      cases hv
      obtain ⟨a1, c1, hv1, _⟩ := hI.ins.form
      obtain ⟨N1, hN1⟩ : ∃ n, L[k].a.ins.length = n := ⟨_, rfl⟩
      rw [hv1, hN1] at e10
      have hgl := lt_of_cell e10
      replace hN1 := Lib.hid hN1
      clear hI hF e0 e1 e2 e3 e4 e5 e6 e7 e8 e9 hv1
      by_cases h5 : 5 < N1
      · have h52 : (5 : Int) < N1 := by omega
        have hfalse : fewB L = false := by
          unfold fewB
          rw [Bool.and_eq_false_iff]
          left
          rw [List.all_eq_false]
          exact ⟨L[k], List.getElem_mem hk2, by simp; have := hN1.out; omega⟩
        replace hfalse := Lib.hid hfalse
        go_wp2
        go_ret
        exact ⟨by rw [hfalse.out]; rfl, hkw.out⟩
      · have h52 : decide ((5 : Int) < N1) = false := by simp; omega
        have hno2 : Hid (∀ j (hj : j < L.length), j < k + 1 → L[j].a.ins.length ≤ 5) := Lib.hid (fun j hj hl => by
          by_cases e : j = k
          · subst e; have := hN1.out; omega
          · exact hno.out j hj (by omega))
        go_wp2
        go_roundw
        case rel => exact ⟨k + 1, rfl, by omega, hno2, hkw⟩
        case measure => simp [intOf]; omega
    · have hkM : k = M := by omega
      have hlt2 : decide ((k : Int) < M) = false := by simp; omega
      have hfb : fewB L = decide ((M : Int) ≤ 30) := by
        unfold fewB
        have h1 : (L.all fun o => decide (o.a.ins.length ≤ 5)) = true := by
          rw [List.all_eq_true]
          intro o ho
          obtain ⟨j, hj, rfl⟩ := List.mem_iff_getElem.1 ho
          exact decide_eq_true (hno.out j hj (by rw [hM.out] at hj; omega))
        rw [h1, Bool.true_and, hM.out]
        simp
        omega
      replace hkM := Lib.hid hkM
      replace hfb := Lib.hid hfb
      clear hno
      go_wp2
      go_ret
      exact ⟨by rw [hfb.out]; rfl, hkw.out⟩
end Go.Proofs.YthfdngjbcgkkfaaGreat

namespace Go.Proofs.YthfdngjbcgkkfaaGreat
open Go.RowKit
def aw0 : Tr := Tr.new 1 1 (2, 5, 0)
def aw1 : Tr := aw0.queries.1
def aa1 : Ans := ⟨1, 2, 5, 3, true, false, 2, [(2, 9, 4)]⟩
def aa2 : Ans := ⟨2, 1, 9, 7, true, false, 6, [(1, 5, 8)]⟩
def aw2 : Tr := (aw1.answer aa1).1
def aw3 : Tr := (aw2.answer aa2).1
def awW : List PCl := [⟨1, 3, [(2, 5, 8)], [(2, 9, 6)], []⟩, ⟨2, 7, [(1, 9, 4)], [(1, 5, 2)], []⟩]
theorem aw_q : aw0.queries.2 = [(1, 5, 2)] := by decide +kernel
theorem aw_r1 : (aw1.answer aa1).2 = 0 := by decide +kernel
theorem aw_r2 : (aw2.answer aa2).2 = 0 := by decide +kernel
theorem aw_s : aw3.state = 1 := by decide +kernel
theorem aw_l : aw1.hist.length ≤ 100000 ∧ aw1.qs.length + aa1.ins.length ≤ 1000 ∧ aw2.hist.length ≤ 100000 ∧ aw2.qs.length + aa2.ins.length ≤ 1000 ∧ aw3.qs.length ≤ 1000 := by decide +kernel
theorem aw_rec : aw3.rec'.map (·.2) = [aa1, aa2] := by decide +kernel
theorem aw_raw : rawOf aw3 (outsOf [aa1, aa2]) [aa1, aa2] = awW := by decide +kernel
theorem aw_sorted : SortedA aw3 [aa1, aa2] := ⟨by rw [aw_rec], by simp [qlt, Ans.q, aa1, aa2]⟩
theorem aw_ok1 : aa1.Ok := ⟨⟨by decide +kernel, by decide +kernel, by decide +kernel⟩, by decide +kernel, by decide +kernel, by decide +kernel, by decide +kernel⟩
theorem aw_ok2 : aa2.Ok := ⟨⟨by decide +kernel, by decide +kernel, by decide +kernel⟩, by decide +kernel, by decide +kernel, by decide +kernel, by decide +kernel⟩
theorem aw_claims {P : List PCl} {Y : List Ans} (hY : SortedA aw3 Y) (hP : ClaimsP aw3 Y P) : P = awW := by
  obtain rfl := hY.uniq aw_sorted
  unfold ClaimsP at hP
  rw [aw_raw] at hP
  obtain ⟨hl, h⟩ := hP
  have key : ∀ (p q : PCl), p.m = q.m ∧ p.ep = q.ep ∧ (∀ j, j < 3 → (p.at j).Perm (q.at j) ∧ (p.at j).Pairwise (fun x y => ¬ tlt y x)) → (∀ j, j < 3 → (q.at j).length ≤ 1) → p = q := by
    intro p q hpq hq
    obtain ⟨a, b, c, d, e⟩ := p
    obtain ⟨a', b', c', d', e'⟩ := q
    obtain ⟨h1, h2, h3⟩ := hpq
    have one : ∀ {x y : List T3}, x.Perm y → y.length ≤ 1 → x = y := by
      intro x y hp hy
      match y, hy with
      | [], _ => exact List.perm_nil.1 hp
      | [z], _ => exact List.perm_singleton.1 hp
    have e0 := one (h3 0 (by omega)).1 (hq 0 (by omega))
    have e1 := one (h3 1 (by omega)).1 (hq 1 (by omega))
    have e2 := one (h3 2 (by omega)).1 (hq 2 (by omega))
    simp only [PCl.at] at h1 h2 e0 e1 e2
    subst h1 h2 e0 e1 e2
    rfl
  refine List.ext_getElem hl (fun k h1 h2 => key _ _ (h k h1 h2) (fun j hj => ?_))
  have hk : k < 2 := h2
  match k, hk, j, hj with
  | 0, _, 0, _ => simp [awW, PCl.at]
  | 0, _, 1, _ => simp [awW, PCl.at]
  | 0, _, 2, _ => simp [awW, PCl.at]
  | 1, _, 0, _ => simp [awW, PCl.at]
  | 1, _, 1, _ => simp [awW, PCl.at]
  | 1, _, 2, _ => simp [awW, PCl.at]
theorem one_need (w : World) (b : Nat) (x : Int) (y : Nat) (yi : Int) (z : Int) (hy : (y : Int) = yi) (hb : w.heap.size = b) : shT.R (w.alloc (.cells #[.int .i64 x, .int .u64 yi, .int .i64 z] tN)) (.slice (some ⟨b, 0, none⟩) 1 1) [(x, y, z)] := by
  subst hb hy
  exact (Sh.O.one shT w (x, y, z) #[.int .i64 x, .int .u64 y, .int .i64 z] tN 0 rfl (by omega)).r
theorem want_lc (w : World) : LC (((((w.alloc (.cells #[.int .i64 2, .int .u64 5, .int .i64 8] tN)).alloc (.cells #[.int .i64 2, .int .u64 9, .int .i64 6] tN)).alloc (.cells #[.int .i64 1, .int .u64 9, .int .i64 4] tN)).alloc (.cells #[.int .i64 1, .int .u64 5, .int .i64 2] tN)).alloc
      (.cells #[.int .i64 1, .int .i64 3, .slice (some ⟨w.heap.size, 0, none⟩) 1 1, .slice (some ⟨w.heap.size + 1, 0, none⟩) 1 1, .slice none 0 0, .int .i64 2, .int .i64 7, .slice (some ⟨w.heap.size + 1 + 1, 0, none⟩) 1 1, .slice (some ⟨w.heap.size + 1 + 1 + 1, 0, none⟩) 1 1, .slice none 0 0] tC))
    (.slice (some ⟨w.heap.size + 1 + 1 + 1 + 1, 0, none⟩) 2 2) awW := by
  have r1 := one_need w _ 2 5 5 8 rfl rfl
  have r2 := one_need (w.alloc (.cells #[.int .i64 2, .int .u64 5, .int .i64 8] tN)) (w.heap.size + 1) 2 9 9 6 rfl (by simp)
  have r3 := one_need ((w.alloc (.cells #[.int .i64 2, .int .u64 5, .int .i64 8] tN)).alloc (.cells #[.int .i64 2, .int .u64 9, .int .i64 6] tN)) (w.heap.size + 1 + 1) 1 9 9 4 rfl (by simp)
  have r4 := one_need (((w.alloc (.cells #[.int .i64 2, .int .u64 5, .int .i64 8] tN)).alloc (.cells #[.int .i64 2, .int .u64 9, .int .i64 6] tN)).alloc (.cells #[.int .i64 1, .int .u64 9, .int .i64 4] tN)) (w.heap.size + 1 + 1 + 1) 1 5 5 2 rfl (by simp)
  have hsz : ((((w.alloc (.cells #[.int .i64 2, .int .u64 5, .int .i64 8] tN)).alloc (.cells #[.int .i64 2, .int .u64 9, .int .i64 6] tN)).alloc (.cells #[.int .i64 1, .int .u64 9, .int .i64 4] tN)).alloc (.cells #[.int .i64 1, .int .u64 5, .int .i64 2] tN)).heap.size = w.heap.size + 1 + 1 + 1 + 1 := by simp
  have k1 := fun (o : Obj) (w : World) => (Keeps.refl [] w).alloc o
  have q1 := (((r1.keeps (k1 (.cells #[.int .i64 2, .int .u64 9, .int .i64 6] tN) _)).keeps (k1 (.cells #[.int .i64 1, .int .u64 9, .int .i64 4] tN) _)).keeps (k1 (.cells #[.int .i64 1, .int .u64 5, .int .i64 2] tN) _))
  have q2 := ((r2.keeps (k1 (.cells #[.int .i64 1, .int .u64 9, .int .i64 4] tN) _)).keeps (k1 (.cells #[.int .i64 1, .int .u64 5, .int .i64 2] tN) _))
  have q3 := (r3.keeps (k1 (.cells #[.int .i64 1, .int .u64 5, .int .i64 2] tN) _))
  generalize ((((w.alloc (.cells #[.int .i64 2, .int .u64 5, .int .i64 8] tN)).alloc (.cells #[.int .i64 2, .int .u64 9, .int .i64 6] tN)).alloc (.cells #[.int .i64 1, .int .u64 9, .int .i64 4] tN)).alloc (.cells #[.int .i64 1, .int .u64 5, .int .i64 2] tN)) = W at *
  rw [← hsz]
  have hR := Sh.R.made shC W [⟨1, 3, (some ⟨w.heap.size, 0, none⟩, 1, 1), (some ⟨w.heap.size + 1, 0, none⟩, 1, 1), nilT⟩, ⟨2, 7, (some ⟨w.heap.size + 1 + 1, 0, none⟩, 1, 1), (some ⟨w.heap.size + 1 + 1 + 1, 0, none⟩, 1, 1), nilT⟩] #[.int .i64 1, .int .i64 3, .slice (some ⟨w.heap.size, 0, none⟩) 1 1, .slice (some ⟨w.heap.size + 1, 0, none⟩) 1 1, .slice none 0 0, .int .i64 2, .int .i64 7, .slice (some ⟨w.heap.size + 1 + 1, 0, none⟩) 1 1, .slice (some ⟨w.heap.size + 1 + 1 + 1, 0, none⟩) 1 1, .slice none 0 0] tC rfl (by simp [maxLen]) 2 rfl
  refine ⟨_, hR, rfl, fun k x p hx hp => ?_⟩
  match k with
  | 0 =>
    simp [awW] at hx hp
    subst hx hp
    exact ⟨rfl, rfl, q1.keeps (k1 _ _), q2.keeps (k1 _ _), Sh.R.nil _ _⟩
  | 1 =>
    simp [awW] at hx hp
    subst hx hp
    exact ⟨rfl, rfl, q3.keeps (k1 _ _), r4.keeps (k1 _ _), Sh.R.nil _ _⟩
  | k + 2 => simp [awW] at hp
end Go.Proofs.YthfdngjbcgkkfaaGreat

namespace Go.Proofs.YthfdngjbcgkkfaaGreat
open Go.RowKit

def nmS (i : Int) : ByteArray := if i = 0 then ⟨#[97, 115, 107, 105, 110, 103]⟩ else if i = 1 then ⟨#[99, 111, 110, 102, 105, 114, 109, 105, 110, 103]⟩ else if i = 2 then ⟨#[97, 103, 114, 101, 101, 100]⟩ else if i = 3 then ⟨#[108, 105, 118, 101]⟩ else if i = 4 then ⟨#[117, 110, 100, 101, 99, 105, 100, 101, 100]⟩ else ⟨#[]⟩
set_option maxRecDepth 100000 in
set_option maxHeartbeats 2000000 in
theorem stateName_c (w : World) (i : Int) (hi : W64 i) :
    Calls Tryz.prog 17 #[.int .i64 i] w fun e w' => e = .returned (.string (nmS i)) ∧ Keeps [] w w' := by
  obtain ⟨rs, hrs⟩ : ∃ s, nmS i = s := ⟨_, rfl⟩
  rw [hrs]
  replace hrs := Lib.hid hrs
  have hk := (Keeps.refl [] w).alloc (.cells #[.string ⟨#[97, 115, 107, 105, 110, 103]⟩, .string ⟨#[99, 111, 110, 102, 105, 114, 109, 105, 110, 103]⟩, .string ⟨#[97, 103, 114, 101, 101, 100]⟩, .string ⟨#[108, 105, 118, 101]⟩, .string ⟨#[117, 110, 100, 101, 99, 105, 100, 101, 100]⟩] 96)
  rw [w64_iff] at hi
  by_cases h0 : i < 0
  · have hr : nmS i = ⟨#[]⟩ := by unfold nmS; rw [if_neg (by omega), if_neg (by omega), if_neg (by omega), if_neg (by omega), if_neg (by omega)]
    rw [hrs.out] at hr
    have b0 : decide (i < 0) = true := by simpa using h0
    replace hr := Lib.hid hr
    go_enter Tryz.func17, Tryz.ntmps17
    go_wp2
    go_ret
    exact ⟨by rw [hr.out]; rfl, hk⟩
  · by_cases h5 : 5 ≤ i
    · have hr : nmS i = ⟨#[]⟩ := by unfold nmS; rw [if_neg (by omega), if_neg (by omega), if_neg (by omega), if_neg (by omega), if_neg (by omega)]
      rw [hrs.out] at hr
      replace hr := Lib.hid hr
      have b0 : decide (i < 0) = false := by simpa using h0
      have b1 : decide (5 ≤ i) = true := by simpa using h5
      go_enter Tryz.func17, Tryz.ntmps17
      go_wp2
      go_ret
      exact ⟨by rw [hr.out]; rfl, hk⟩
    · have hc : i = 0 ∨ i = 1 ∨ i = 2 ∨ i = 3 ∨ i = 4 := by omega
      rcases hc with rfl | rfl | rfl | rfl | rfl
      all_goals
        have hr := hrs.out
        replace hr := Lib.hid hr
        clear hi h0 h5 hrs
        go_enter Tryz.func17, Tryz.ntmps17
        go_wp2
        go_ret
        exact ⟨by rw [← hr.out]; rfl, hk⟩
end Go.Proofs.YthfdngjbcgkkfaaGreat

namespace Go.Proofs.YthfdngjbcgkkfaaGreat
open Go.RowKit
set_option maxRecDepth 100000 in
set_option maxHeartbeats 10000000 in
theorem awake_c (w : World) : Calls Tryz.prog 4 #[] w fun e w' => e = .returned (.bool true) ∧ Keeps [] w w' := by
  go_enter Tryz.func4, Tryz.ntmps4
  go_wp2_with fail
  refine (new_c w 1 1 (2, 5, 0) (by decide +kernel) (by decide +kernel) (by decide +kernel)).mono ?_
  rintro e w1 ⟨bt, bm, vo, rfl, hT, hk1⟩
  have hq := queries_c w1 _ bt bm vo _ _ _ 0 hT rfl (by simp [Tr.new]) (by simp [Tr.new])
  have hB1 := hT.bB.1
  replace hq := Lib.hid hq
  replace hT := Lib.hid hT
  replace hk1 := Lib.hid hk1
  go_wp2_with fail
  refine hq.out.mono ?_
  rintro e w2 ⟨v, rfl, hO, hT2, hmv2⟩
  rw [show (Tr.new 1 1 (2, 5, 0)).queries.2 = [(1, 5, 2)] from aw_q] at hO
  replace hT2 : TrM w2 w.heap.size bt bm vo (.slice none 0 0) (.slice none 0 0) aw1 := hT2
  have hk2 : Keeps [] w w2 := hk1.out.fresh hmv2.k (fun b hb => .inr (hT.out.own_tag hb).1)
  obtain ⟨g, c, rfl, _, _⟩ := hO.form1 (by decide)
  obtain ⟨g', o', c', e1, he⟩ := hO.r.elem (k := 0) (by decide)
  cases e1
  have f0 := he 0 _ rfl
  have f1 := he 1 _ rfl
  have f2 := he 2 _ rfl
  simp [shT] at f0 f1 f2
  have hne := fun w => neN w (1, 5, 2) (1, 5, 2)
  simp only [ne_eq, not_true_eq_false, decide_false, tV] at hne
  have hI := Sh.O.one shT w2 (2, 9, 4) #[.int .i64 2, .int .u64 9, .int .i64 4] tI 0 rfl (by omega)
  have hkI := (Keeps.refl [] w2).alloc (.cells #[.int .i64 2, .int .u64 9, .int .i64 4] tI)
  have hT2' := hT2.keeps hkI
  have hans := answer_c (w2.alloc (.cells #[.int .i64 2, .int .u64 9, .int .i64 4] tI)) w.heap.size bt bm vo _ _ aw1 ⟨1, 2, 5, 3, true, false, 2, some ⟨w2.heap.size, 0, none⟩, 1, 1⟩ aa1 hT2' ⟨rfl, rfl, rfl, rfl, rfl, rfl, rfl, hI.r⟩ aw_ok1 (fun b hb _ e => by
    have h1 := (hT2.own_tag hb).2.1
    simp [AnV.v, Value.ownBlock] at e
    omega) (by have := hk2.size; simp; omega) aw_l.1 aw_l.2.1
  simp only [aV, AnV.v] at hans
  have hkT := hk2.trans hkI
  replace hans := Lib.hid hans
  replace hT2' := Lib.hid hT2'
  replace hkT := Lib.hid hkT
  clear hO hT2 hmv2 hk2 he hI hkI hT hk1 hq
  go_wp2_with fail
  refine hans.out.mono ?_
  rintro e w3 ⟨vo3, vh3, rfl, hT3, hmv3⟩
  rw [aw_r1]
  replace hT3 : TrM w3 w.heap.size bt bm vo3 vh3 (.slice none 0 0) aw2 := hT3
  have hk3 : Keeps [] w w3 := hkT.out.fresh hmv3.k (fun b hb => .inr (hT2'.out.own_tag hb).1)
  have hI := Sh.O.one shT w3 (1, 5, 8) #[.int .i64 1, .int .u64 5, .int .i64 8] tI 0 rfl (by omega)
  have hkI := (Keeps.refl [] w3).alloc (.cells #[.int .i64 1, .int .u64 5, .int .i64 8] tI)
  have hT3' := hT3.keeps hkI
  have hans2 := answer_c (w3.alloc (.cells #[.int .i64 1, .int .u64 5, .int .i64 8] tI)) w.heap.size bt bm vo3 vh3 _ aw2 ⟨2, 1, 9, 7, true, false, 6, some ⟨w3.heap.size, 0, none⟩, 1, 1⟩ aa2 hT3' ⟨rfl, rfl, rfl, rfl, rfl, rfl, rfl, hI.r⟩ aw_ok2 (fun b hb _ e => by
    have h1 := (hT3.own_tag hb).2.1
    simp [AnV.v, Value.ownBlock] at e
    omega) (by have := hk3.size; simp; omega) aw_l.2.2.1 aw_l.2.2.2.1
  simp only [aV, AnV.v] at hans2
  have hkT3 := hk3.trans hkI
  replace hans2 := Lib.hid hans2
  replace hT3' := Lib.hid hT3'
  replace hkT3 := Lib.hid hkT3
  clear hT3 hmv3 hk3 hI hkI hT2' hkT hans f0 f1 f2 hne
  go_wp2_with fail
  refine hans2.out.mono ?_
  rintro e w4 ⟨vo4, vh4, rfl, hT4, hmv4⟩
  rw [aw_r2]
  replace hT4 : TrM w4 w.heap.size bt bm vo4 vh4 (.slice none 0 0) aw3 := hT4
  have hk4 : Keeps [] w w4 := hkT3.out.fresh hmv4.k (fun b hb => .inr (hT3'.out.own_tag hb).1)
  have hst := state_c w4 _ _ _ _ _ _ _ hT4
  rw [aw_s] at hst
  replace hst := Lib.hid hst
  replace hT4 := Lib.hid hT4
  replace hk4 := Lib.hid hk4
  clear hmv4 hT3' hkT3 hans2
  go_wp2_with fail
  refine hst.out.mono ?_
  rintro e w5 ⟨rfl, rfl⟩
  have hW := want_lc w4
  have hkW : Keeps [] w4 (((((w4.alloc (.cells #[.int .i64 2, .int .u64 5, .int .i64 8] tN)).alloc (.cells #[.int .i64 2, .int .u64 9, .int .i64 6] tN)).alloc (.cells #[.int .i64 1, .int .u64 9, .int .i64 4] tN)).alloc (.cells #[.int .i64 1, .int .u64 5, .int .i64 2] tN)).alloc
      (.cells #[.int .i64 1, .int .i64 3, .slice (some ⟨w4.heap.size, 0, none⟩) 1 1, .slice (some ⟨w4.heap.size + 1, 0, none⟩) 1 1, .slice none 0 0, .int .i64 2, .int .i64 7, .slice (some ⟨w4.heap.size + 1 + 1, 0, none⟩) 1 1, .slice (some ⟨w4.heap.size + 1 + 1 + 1, 0, none⟩) 1 1, .slice none 0 0] tC)) := ((((((Keeps.refl [] w4).alloc _).alloc _).alloc _).alloc _).alloc _)
  have hcl := claimsT_c _ _ _ _ _ _ _ _ (hT4.out.keeps hkW) aw_l.2.2.2.2
  have hkw := hk4.out.trans hkW
  replace hW := Lib.hid hW
  replace hcl := Lib.hid hcl
  replace hkw := Lib.hid hkw
  clear hkW hT4 hst hk4
  go_wp2_with fail
  refine hcl.out.mono ?_
  rintro e w6 ⟨v6, rfl, hv, hk6⟩
  have hsh : aw3.shown = true := by unfold Tr.shown; rw [aw_s]; rfl
  have hP6 : LC w6 v6 awW := by
    rcases hv with ⟨h1, _⟩ | ⟨_, P, Y, h2, h3, h4⟩
    · rw [hsh] at h1; cases h1
    · rw [aw_claims h3 h4] at h2; exact h2
  have hW6 := hW.out.keeps hk6
  have hsame := sameClaims_c w6 _ _ _ _ hP6 hW6
  rw [decide_eq_true rfl] at hsame
  have hkw6 := hkw.out.trans hk6
  replace hsame := Lib.hid hsame
  replace hkw6 := Lib.hid hkw6
  clear hv hk6 hP6 hW6 hW hkw hcl
  go_wp2_with fail
  refine hsame.out.mono ?_
  rintro e w7 ⟨rfl, hk7⟩
  have hnm := stateName_c w7 1 (by decide +kernel)
  have hkw7 := hkw6.out.trans hk7
  replace hnm := Lib.hid hnm
  replace hkw7 := Lib.hid hkw7
  clear hk7 hkw6 hsame
  go_wp2_with fail
  refine hnm.out.mono ?_
  rintro e w8 ⟨rfl, hk8⟩
  rw [show nmS 1 = ⟨#[99, 111, 110, 102, 105, 114, 109, 105, 110, 103]⟩ from rfl]
  have hkw8 := hkw7.out.trans hk8
  replace hkw8 := Lib.hid hkw8
  go_wp2
  go_ret
  exact ⟨rfl, hkw8.out⟩
end Go.Proofs.YthfdngjbcgkkfaaGreat
