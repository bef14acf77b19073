/- Texts that the laws lean on, in the order in which they build. The law's step. (Printed by mktrstep.py.) The law's same. (Printed by mktrsame.py.) The law's few: few operations with short insets. -/
import Derived.Test.YthfdngjbcgkkfaaK12
set_option linter.unusedVariables false
set_option linter.unusedSimpArgs false
namespace Go.Proofs.Ythfdngjbcgkkfaa
open Go Go.RowKit

theorem RefPost.t {w w' : World} {B bt bm : Nat} {vo vh vg : Value} {t : Tr} {m : Int} {e : Ending} (hi : t.Inv) (h : RefPost w B bt bm vo vh vg t m e w') :
    e = .returned (.int .i64 (t.refuseT m).2) ∧ TrM w' B bt bm vo vh vg (t.refuseT m).1 ∧ Mv (ownT bt bm vo vh vg) (ownT bt bm vo vh vg) w w' := by
  obtain ⟨r, t', rfl, hT, hM, hc⟩ := h
  rcases hc with ⟨h1, rfl, rfl⟩ | ⟨h1, P, Y, p, hY, hP, hget, h2⟩
  · unfold Tr.refuseT
    rw [if_pos h1]
    exact ⟨rfl, hT, hM⟩
  · have hg : t.clm[t.ag.length]? = some p := by rw [← Tr.clm_eq hi hY hP]; exact hget
    unfold Tr.refuseT
    rw [if_neg (by simp [h1]), hg]
    simp only
    rcases h2 with ⟨h3, rfl, rfl⟩ | ⟨h3, rfl, rfl⟩
    · rw [if_pos h3]; exact ⟨rfl, hT, hM⟩
    · rw [if_neg (by simp [h3])]; exact ⟨rfl, hT, hM⟩
/-- What a step leaves. -/
def StepPost (w : World) (B bt bm : Nat) (vo vh vg : Value) (x : RfV) (o : Op3) (t : Tr) (e : Ending) (w' : World) : Prop :=
  ∃ x' vo' vh' vg', e = .returned (.tuple #[rfV x', .bool true]) ∧ Both w' B bt bm vo' vh' vg' x' (o.step t) ∧ Mv (ownT bt bm vo vh vg) (ownT bt bm vo' vh' vg') w w' ∧ ∀ b ∈ blks x', b ∈ blks x ∨ w.heap.size ≤ b
set_option maxRecDepth 100000 in
set_option maxHeartbeats 20000000 in
theorem step_c (w : World) (B bt bm : Nat) (vo vh vg : Value) (x : RfV) (t : Tr) (n : Nat) (o : Op3) (y : AnV) (h : Both w B bt bm vo vh vg x t) (hb : t.Bnd n) (hn : n ≤ 100) (hy : InR w y o.a) (hF : o.Fit) (hlen : o.a.ins.length ≤ 5)
    (hsep : ∀ b, o.a.ins ≠ [] → y.v.ownBlock = some b → b < B) :
    Calls Try.prog 20 #[.pointer (some ⟨bt, 0, none⟩), rfV x, opV o y] w (StepPost w B bt bm vo vh vg x o t) := by
  have hm := h.m
  have hi := hm.inv
  have hqs : t.qs.length ≤ 501 := by have := hb.qs; omega
  have hhl : t.hist.length ≤ 100 := by have := hb.hl; omega
  have hal : t.ag.length ≤ 100 := by have := hb.ag; omega
  have hag2 : t.state = 1 → ∀ P Y, SortedA t Y → ClaimsP t Y P → t.ag.length < P.length := fun hs P Y hY hP => by rw [Tr.clm_eq hi hY hP]; exact hb.s1 hs
  obtain ⟨tn, ht1, ht2⟩ := hb.tl
  have hBw : B ≤ w.heap.size := Nat.le_trans hm.bB.1 (Nat.le_of_lt hm.lt.1)
  have hcl := fun (W : World) (hk : Keeps [] w W) => claimR_c W x t (h.r.keeps hk) hi (by omega) hb.s1
  have haim := fun (W : World) (hk : Keeps [] w W) => aim_c W x t o y (h.r.keeps hk) hi.rk (hy.keeps hk) hF (by omega)
  have hains : (o.aim t.qs).ins.length ≤ 5 := by rw [aim_ins]; exact hlen
  have haok : (o.aim t.qs).Ok := (aim_fit hF hi).ok (by omega)
  have hown : ∀ b ∈ ownT bt bm vo vh vg, b < w.heap.size := fun b hb => (hm.own_tag hb).2.1
  have hsp : ∀ (W : World) (_ : Keeps [] w W) (y' : AnV) (_ : InR W y' (o.aim t.qs)), Calls Try.prog 36 #[rfV x, aV y'] W (RPost W x (t.answer (o.aim t.qs))) := fun W hk y' hy' => by
    have := answerR_c W x t y' (o.aim t.qs) (h.r.keeps hk) hy' hi (by omega) (by omega)
    rw [Tr.answerR_eq hb.ho] at this
    exact this
  have hpa : ∀ (W : World) (_ : Keeps [] w W) (y' : AnV) (_ : InR W y' (o.aim t.qs)) (_ : y'.v = y.v), Calls Try.prog 31 #[.pointer (some ⟨bt, 0, none⟩), aV y'] W (AnsPost W B bt bm vo vh vg (t.answer (o.aim t.qs))) := fun W hk y' hy' hv =>
    answer_c W B bt bm vo vh vg t y' (o.aim t.qs) (hm.keeps hk) hy' haok (fun b hbm hne e => by
      have h1 := hsep b (by rw [← aim_ins o t.qs]; exact hne) (hv ▸ e)
      have h2 := (hm.own_tag hbm).1
      omega) (Nat.le_trans hBw hk.size) (by omega) (by omega)
  have hsq := fun (W : World) (hk : Keeps [] w W) => queriesR_c W x t tn (h.r.keeps hk) hi.rk ht1 ht2 (by omega)
  have hpq := fun (W : World) (hk : Keeps [] w W) => queries_c W B bt bm vo vh vg t tn (hm.keeps hk) ht1 ht2 (by omega)
  have hsa := fun (W : World) (hk : Keeps [] w W) (m : Int) => agreeR_c W x t m (h.r.keeps hk) hi (by omega) (by omega) hb.s1
  have hpg := fun (W : World) (hk : Keeps [] w W) (m : Int) => agree_c W B bt bm vo vh vg t m (hm.keeps hk) (by omega) (by omega) hb.s1
  have hsr := fun (W : World) (hk : Keeps [] w W) (m : Int) => refuseR_c W x t m (h.r.keeps hk) hi (by omega) hb.s1
  have hpr : ∀ (W : World) (_ : Keeps [] w W) (m : Int), Calls Try.prog 42 #[.pointer (some ⟨bt, 0, none⟩), .int .i64 m] W fun e w' => e = .returned (.int .i64 (t.refuseT m).2) ∧ TrM w' B bt bm vo vh vg (t.refuseT m).1 ∧ Mv (ownT bt bm vo vh vg) (ownT bt bm vo vh vg) W w' := fun W hk m =>
    (refuse_c W B bt bm vo vh vg t m (hm.keeps hk) (by omega) hag2).mono fun e w' hp => hp.t hi
  obtain ⟨x0, x1, x2, x3, x4, x5, ⟨x6, x7, x8⟩, ⟨x9, x10, x11⟩, x12, ⟨x13, x14, x15⟩, x16, ⟨x17, x18, x19⟩⟩ := x
  obtain ⟨y0, y1, y2, y3, y4, y5, y6, y7, y8, y9⟩ := y
  obtain ⟨ok, oi, on, oa⟩ := o
  obtain ⟨hbX, hbO, hbZ, hkW, hzW⟩ := blks3 w (.cells #[.int .i64 x0, .int .i64 x1, .int .i64 x2, .int .u64 x3, .int .i64 x4, .int .i64 x5, .slice x6 x7 x8, .slice x9 x10 x11, .int .i64 x12, .slice x13 x14 x15, .bool x16, .slice x17 x18 x19] tR) (.cells #[.int .u8 ok, .int .i64 oi, .bool on, .int .i64 y0, .int .i64 y1, .int .u64 y2, .int .i64 y3, .bool y4, .bool y5, .int .i64 y6, .slice y7 y8 y9] tOp) (.cells #[.int .i64 0, .int .i64 0, .int .i64 0, .int .u64 0, .int .i64 0, .int .i64 0, .slice none 0 0, .slice none 0 0, .int .i64 0, .slice none 0 0, .bool false, .slice none 0 0] tR)
  obtain ⟨W, hW⟩ : ∃ W, (((w.alloc (.cells #[.int .i64 x0, .int .i64 x1, .int .i64 x2, .int .u64 x3, .int .i64 x4, .int .i64 x5, .slice x6 x7 x8, .slice x9 x10 x11, .int .i64 x12, .slice x13 x14 x15, .bool x16, .slice x17 x18 x19] tR)).alloc (.cells #[.int .u8 ok, .int .i64 oi, .bool on, .int .i64 y0, .int .i64 y1, .int .u64 y2, .int .i64 y3, .bool y4, .bool y5, .int .i64 y6, .slice y7 y8 y9] tOp)).alloc (.cells #[.int .i64 0, .int .i64 0, .int .i64 0, .int .u64 0, .int .i64 0, .int .i64 0, .slice none 0 0, .slice none 0 0, .int .i64 0, .slice none 0 0, .bool false, .slice none 0 0] tR)) = W := ⟨_, rfl⟩
  rw [hW] at hbX hbO hbZ hkW hzW
  simp only [rfV, slv] at hcl haim hsp hsq hsa hsr ⊢
  simp only [opV, AnV.v] at haim ⊢
  obtain ⟨z0, z1, z2, z3, z4, z5, z6, z7, z8, z9, z10, z11, zf, zl⟩ := cl12 hbX
  obtain ⟨r0, r1, r2, r3, r4, r5, r6, r7, r8, r9, r10, rf, rl⟩ := cl11 hbO
  replace hbX := Lib.hid hbX
  replace hbO := Lib.hid hbO
  replace hbZ := Lib.hid hbZ
  replace hkW := Lib.hid hkW
  replace hzW := Lib.hid hzW
  replace hcl := Lib.hid hcl
  replace haim := Lib.hid haim
  replace hsp := Lib.hid hsp
  replace hpa := Lib.hid hpa
  replace hsq := Lib.hid hsq
  replace hpq := Lib.hid hpq
  replace hsa := Lib.hid hsa
  replace hpg := Lib.hid hpg
  replace hsr := Lib.hid hsr
  replace hpr := Lib.hid hpr
  replace h := Lib.hid h
  replace hb := Lib.hid hb
  replace hown := Lib.hid hown
  replace hsep := Lib.hid hsep
  replace hm := Lib.hid hm
  replace hW := Lib.hid hW
  replace haok := Lib.hid haok
  replace hy := Lib.hid hy
  replace hF := Lib.hid hF
  replace hi := Lib.hid hi
  clear hqs hhl hal hag2 ht1 ht2 hBw hains
  go_enter Try.func20, Try.ntmps20
  go_wp2_with fail
  rw [hW.out]
  refine (hcl.out _ hkW.out).mono ?_
  rintro e w1 ⟨cx, p, rfl, hcr, hk1, hcase⟩
  obtain ⟨c0, c1, ⟨c2, c3, c4⟩, ⟨c5, c6, c7⟩, ⟨c8, c9, c10⟩⟩ := cx
  simp only [clV, slv]
  have hk1M := hk1.alloc (.cells #[.int .i64 c0, .int .i64 c1, .slice c2 c3 c4, .slice c5 c6 c7, .slice c8 c9 c10] tC)
  have hbC := heap_alloc_new w1 (.cells #[.int .i64 c0, .int .i64 c1, .slice c2 c3 c4, .slice c5 c6 c7, .slice c8 c9 c10] tC)
  have hmc : t.state = 1 → c0 = (match t.clm[t.ag.length]? with | some p => p.m | none => oi) := fun hs => by
    rcases hcase with ⟨e, _⟩ | ⟨_, e⟩
    · exact absurd hs e
    · rw [e]; exact hcr.m
  replace hmc := Lib.hid hmc
  obtain ⟨sb, hsb⟩ : ∃ b, (t.state == 1) = b := ⟨_, rfl⟩
  rw [hsb]
  replace hsb := Lib.hid hsb
  clear hcr hcase hcl
  go_upto_region 3 with fail
  generalize (w1.alloc (.cells #[.int .i64 c0, .int .i64 c1, .slice c2 c3 c4, .slice c5 c6 c7, .slice c8 c9 c10] tC)) = W2 at *
  obtain ⟨XC, hXC⟩ : ∃ X, w1.heap.size = X := ⟨_, rfl⟩
  rw [hXC] at hbC ⊢
  replace hXC := Lib.hid hXC
  replace hk1M := Lib.hid hk1M
  replace hbC := Lib.hid hbC
  replace hbX := Lib.hid ((hk1M.out.block _ (lt_of_blk hbX.out) (by simp)).trans hbX.out)
  replace hbO := Lib.hid ((hk1M.out.block _ (lt_of_blk hbO.out) (by simp)).trans hbO.out)
  replace hbZ := Lib.hid ((hk1M.out.block _ (lt_of_blk hbZ.out) (by simp)).trans hbZ.out)
  clear z0 z1 z2 z3 z4 z5 z6 z7 z8 z9 z10 z11 zf zl
  clear r0 r1 r2 r3 r4 r5 r6 r7 r8 r9 r10 rf rl
  obtain ⟨z0, z1, z2, z3, z4, z5, z6, z7, z8, z9, z10, z11, zf, zl⟩ := cl12 hbX.out
  obtain ⟨r0, r1, r2, r3, r4, r5, r6, r7, r8, r9, r10, rf, rl⟩ := cl11 hbO.out
  obtain ⟨v0, v1, v2, v3, v4, v5, v6, v7, v8, v9, v10, v11, vf, vl⟩ := cl12 hbZ.out
  obtain ⟨j0, j1, j2, j3, j4, jf, jl⟩ := cl5 hbC.out
  have hkw2 := Lib.hid (hkW.out.trans hk1M.out)
  clear hk1 hk1M hW hkW
  obtain ⟨bb, hbb⟩ : ∃ b, (sb && on) = b := ⟨_, rfl⟩
  replace hbb := Lib.hid hbb
  go_cut [31] from 20 (fun c wx => c = .bool bb ∧ W2 = wx)
  case first =>
    cases sb <;> cases on <;> (have hb2 := hbb.out; simp only [Bool.and_true, Bool.and_false, Bool.and_self] at hb2; subst hb2; go_wp2; go_meet; case rel => exact ⟨rfl, rfl⟩)
  case rest =>
  obtain ⟨hc1, hc2⟩ := hcut
  subst hc1
  subst hc2
  obtain ⟨mm, hmm⟩ : ∃ m, Op3.mach ⟨ok, oi, on, oa⟩ t = m := ⟨_, rfl⟩
  have hmt : bb = true → c0 = mm := fun e => by
    have hb2 := hbb.out
    rw [e] at hb2
    have hs : t.state = 1 := by have := hsb.out; simp at hb2; rw [hb2.1] at this; simpa using this
    rw [hmc.out hs, ← hmm]
    unfold Op3.mach
    rw [if_pos ⟨by simp at hb2; exact hb2.2, hs⟩]
    cases t.clm[t.ag.length]? <;> rfl
  have hmf : bb = false → oi = mm := fun e => by
    have hb2 := hbb.out
    rw [e] at hb2
    rw [← hmm]
    unfold Op3.mach
    rw [if_neg]
    rintro ⟨h1, h2⟩
    have h3 := hsb.out
    rw [h2] at h3
    simp only at h1
    rw [h1, ← h3] at hb2
    simp at hb2
  replace hmt := Lib.hid hmt
  replace hmf := Lib.hid hmf
  replace hmm := Lib.hid hmm
  go_upto_if 31 with fail
  go_cut [8] from 20 (fun mv wx => mv = .int .i64 mm ∧ W2 = wx)
  case first =>
    cases bb with
    | true =>
      have hmt2 := hmt.out rfl
      subst hmt2
      go_wp2
      go_meet
      case rel => exact ⟨rfl, rfl⟩
    | false =>
      have hmt2 := hmf.out rfl
      subst hmt2
      go_wp2
      go_meet
      case rel => exact ⟨rfl, rfl⟩
  case rest =>
  obtain ⟨hc1, hc2⟩ := hcut
  subst hc1
  subst hc2
  clear hmt hmf hmc hsb hbb
  by_cases e0 : ok = 0
  · subst e0
    have hstep : Op3.step ⟨0, oi, on, oa⟩ t = (t.answer (Op3.aim ⟨0, oi, on, oa⟩ t.qs)).1 := by unfold Op3.step; rw [if_pos (by simp)]
    replace hstep := Lib.hid hstep
    go_wp2_with fail
    refine (haim.out _ hkw2.out).mono ?_
    rintro e w3 ⟨ya, rfl, hyv, hyI, hk3⟩
    obtain ⟨p0, p1, p2, p3, p4, p5, p6, p7, p8, p9⟩ := ya
    simp only [aV, AnV.v]
    have hk3M := hk3.alloc (.cells #[.int .i64 p0, .int .i64 p1, .int .u64 p2, .int .i64 p3, .bool p4, .bool p5, .int .i64 p6, .slice p7 p8 p9] tA)
    have hbA := heap_alloc_new w3 (.cells #[.int .i64 p0, .int .i64 p1, .int .u64 p2, .int .i64 p3, .bool p4, .bool p5, .int .i64 p6, .slice p7 p8 p9] tA)
    have hyI3 := hyI.keeps ((Keeps.refl [] w3).alloc (.cells #[.int .i64 p0, .int .i64 p1, .int .u64 p2, .int .i64 p3, .bool p4, .bool p5, .int .i64 p6, .slice p7 p8 p9] tA))
    replace hk3M := Lib.hid hk3M
    replace hbA := Lib.hid hbA
    replace hyv := Lib.hid hyv
    replace hyI3 := Lib.hid hyI3
    have hk3h := Lib.hid hk3
    clear hyI hk3
    go_upto_region 11 with fail
    generalize (w3.alloc (.cells #[.int .i64 p0, .int .i64 p1, .int .u64 p2, .int .i64 p3, .bool p4, .bool p5, .int .i64 p6, .slice p7 p8 p9] tA)) = W3 at *
    obtain ⟨XA, hXA⟩ : ∃ X, w3.heap.size = X := ⟨_, rfl⟩
    rw [hXA] at hbA ⊢
    have hsA : w.heap.size + 1 + 1 < XA := by have := lt_of_blk hbZ.out; have := hk3h.out.size; omega
    replace hXA := Lib.hid hXA
    replace hbX := Lib.hid ((hk3M.out.block _ (lt_of_blk hbX.out) (by simp)).trans hbX.out)
    replace hbO := Lib.hid ((hk3M.out.block _ (lt_of_blk hbO.out) (by simp)).trans hbO.out)
    replace hbZ := Lib.hid ((hk3M.out.block _ (lt_of_blk hbZ.out) (by simp)).trans hbZ.out)
    clear z0 z1 z2 z3 z4 z5 z6 z7 z8 z9 z10 z11 zf zl
    clear r0 r1 r2 r3 r4 r5 r6 r7 r8 r9 r10 rf rl
    obtain ⟨z0, z1, z2, z3, z4, z5, z6, z7, z8, z9, z10, z11, zf, zl⟩ := cl12 hbX.out
    obtain ⟨r0, r1, r2, r3, r4, r5, r6, r7, r8, r9, r10, rf, rl⟩ := cl11 hbO.out
    obtain ⟨k0, k1, k2, k3, k4, k5, k6, k7, kf, kl⟩ := cl8 hbA.out
    have hkw3 := Lib.hid (hkw2.out.trans hk3M.out)
    have hZ3 : w.heap.size + 1 + 1 < W3.heap.size := lt_of_blk hbZ.out
    have hS := hsp.out W3 hkw3.out _ hyI3.out
    simp only [aV, AnV.v] at hS
    replace hS := Lib.hid hS
    go_wp2_with fail
    refine hS.out.mono ?_
    rintro e w5 ⟨xs, rfl, hR5, hk5, hF5⟩
    clear k0 k1 k2 k3 k4 k5 k6 k7 kf kl
    clear z0 z1 z2 z3 z4 z5 z6 z7 z8 z9 z10 z11 zf zl
    clear r0 r1 r2 r3 r4 r5 r6 r7 r8 r9 r10 rf rl
    obtain ⟨s0, s1, s2, s3, s4, s5, ⟨s6, s7, s8⟩, ⟨s9, s10, s11⟩, s12, ⟨s13, s14, s15⟩, s16, ⟨s17, s18, s19⟩⟩ := xs
    simp only [rfV, slv]
    have hk5M := hk5.alloc (.cells #[.int .i64 s0, .int .i64 s1, .int .i64 s2, .int .u64 s3, .int .i64 s4, .int .i64 s5, .slice s6 s7 s8, .slice s9 s10 s11, .int .i64 s12, .slice s13 s14 s15, .bool s16, .slice s17 s18 s19] tR)
    have hbV := heap_alloc_new w5 (.cells #[.int .i64 s0, .int .i64 s1, .int .i64 s2, .int .u64 s3, .int .i64 s4, .int .i64 s5, .slice s6 s7 s8, .slice s9 s10 s11, .int .i64 s12, .slice s13 s14 s15, .bool s16, .slice s17 s18 s19] tR)
    have hk25 := ((Keeps.refl [] w5).alloc (.cells #[.int .i64 s0, .int .i64 s1, .int .i64 s2, .int .u64 s3, .int .i64 s4, .int .i64 s5, .slice s6 s7 s8, .slice s9 s10 s11, .int .i64 s12, .slice s13 s14 s15, .bool s16, .slice s17 s18 s19] tR)).drew
    have hk5h := Lib.hid hk5
    replace hk5M := Lib.hid hk5M
    replace hbV := Lib.hid hbV
    replace hR5 := Lib.hid hR5
    replace hF5 := Lib.hid hF5
    replace hk25 := Lib.hid hk25
    clear hk5

    go_upto_region 12 with fail
    generalize (w5.alloc (.cells #[.int .i64 s0, .int .i64 s1, .int .i64 s2, .int .u64 s3, .int .i64 s4, .int .i64 s5, .slice s6 s7 s8, .slice s9 s10 s11, .int .i64 s12, .slice s13 s14 s15, .bool s16, .slice s17 s18 s19] tR)) = W5 at *
    obtain ⟨XV, hXV⟩ : ∃ X, w5.heap.size = X := ⟨_, rfl⟩
    rw [hXV] at hbV ⊢
    have hkd := Lib.hid hk5M.out.drew
    have hbVd : W5.drew.heap[XV]? = _ := hbV.out
    have hZd : W5.drew.heap[w.heap.size + 1 + 1]? = _ := (hk5M.out.block _ hZ3 (by simp)).trans hbZ.out
    have hbAd : W5.drew.heap[XA]? = _ := (hk5M.out.block _ (lt_of_blk hbA.out) (by simp)).trans hbA.out
    obtain ⟨k0, k1, k2, k3, k4, k5, k6, k7, kf, kl⟩ := cl8 hbAd
    replace hbAd := Lib.hid hbAd
    have hsV : w.heap.size + 1 + 1 < XV := by have := hk5h.out.size; omega
    have hZl := lt_of_blk hZd
    replace hXV := Lib.hid hXV
    replace hbVd := Lib.hid hbVd
    replace hZd := Lib.hid hZd
    have hprog := hpa.out W5.drew (hkw3.out.trans hkd.out) _ (hyI3.out.keeps hkd.out) hyv.out
    simp only [aV, AnV.v] at hprog
    replace hprog := Lib.hid hprog
    clear hbV hk5M
    obtain ⟨m0, m1, m2, m3, m4, m5, m6, m7, m8, m9, m10, m11, mf, ml⟩ := cl12 hbVd.out
    refine Free.wp_region_chain (fun i => i == 3 || i == 6) (fun i => true) (fun _ b => b < w.heap.size ∨ b = w.heap.size + 1 + 1) (by kernel_rfl) (by kernel_rfl) (by kernel_rfl) ?_
    generalize W5.drew = wd at *
    (repeat (first | (apply Free.cw_pure rfl rfl; (intro w'; go_simp <;> exact rfl); go_frame) | (apply Free.cw_steady rfl rfl rfl; (intro w' hS; have q0 := Free.sx_cell hS m0 (fun _ _ hT => by rcases hT with hT | hT <;> omega); have q1 := Free.sx_cell hS m1 (fun _ _ hT => by rcases hT with hT | hT <;> omega); have q2 := Free.sx_cell hS m2 (fun _ _ hT => by rcases hT with hT | hT <;> omega); have q3 := Free.sx_cell hS m3 (fun _ _ hT => by rcases hT with hT | hT <;> omega); have q4 := Free.sx_cell hS m4 (fun _ _ hT => by rcases hT with hT | hT <;> omega); have q5 := Free.sx_cell hS m5 (fun _ _ hT => by rcases hT with hT | hT <;> omega); have q6 := Free.sx_cell hS m6 (fun _ _ hT => by rcases hT with hT | hT <;> omega); have q7 := Free.sx_cell hS m7 (fun _ _ hT => by rcases hT with hT | hT <;> omega); have q8 := Free.sx_cell hS m8 (fun _ _ hT => by rcases hT with hT | hT <;> omega); have q9 := Free.sx_cell hS m9 (fun _ _ hT => by rcases hT with hT | hT <;> omega); have q10 := Free.sx_cell hS m10 (fun _ _ hT => by rcases hT with hT | hT <;> omega); have q11 := Free.sx_cell hS m11 (fun _ _ hT => by rcases hT with hT | hT <;> omega); have q12 := Free.sx_cell hS k0 (fun _ _ hT => by rcases hT with hT | hT <;> omega); have q13 := Free.sx_cell hS k1 (fun _ _ hT => by rcases hT with hT | hT <;> omega); have q14 := Free.sx_cell hS k2 (fun _ _ hT => by rcases hT with hT | hT <;> omega); have q15 := Free.sx_cell hS k3 (fun _ _ hT => by rcases hT with hT | hT <;> omega); have q16 := Free.sx_cell hS k4 (fun _ _ hT => by rcases hT with hT | hT <;> omega); have q17 := Free.sx_cell hS k5 (fun _ _ hT => by rcases hT with hT | hT <;> omega); have q18 := Free.sx_cell hS k6 (fun _ _ hT => by rcases hT with hT | hT <;> omega); have q19 := Free.sx_cell hS k7 (fun _ _ hT => by rcases hT with hT | hT <;> omega); go_simp <;> exact rfl); go_frame) | (refine Free.cw_skip rfl ?_; go_frame)))
    refine Free.cw_loud rfl rfl (fun K hK => ?_)
    go_wp2_with fail
    refine hprog.out.mono ?_
    rintro e w6 ⟨vo', vh', rfl, hT6, hM6⟩
    refine hK _ _ rfl (Free.KeepsP.of hM6.k (fun b hb => .inl (hown.out b hb))) ?_
    clear hK K hprog
    have hZ6 := (hM6.k.block _ hZl (fun hm => by have := hown.out _ hm; omega)).trans hZd.out

    obtain ⟨v0, v1, v2, v3, v4, v5, v6, v7, v8, v9, v10, v11, vf, vl⟩ := cl12 hZ6
    replace hZ6 := Lib.hid hZ6
    replace hT6 := Lib.hid hT6
    replace hM6 := Lib.hid hM6
    (repeat (apply Free.cw_pure rfl rfl; (intro w'; go_simp <;> exact rfl); go_frame))
    refine Free.cw_loud rfl rfl (fun K hK => ?_)
    go_wp2
    refine hK _ _ rfl (Free.KeepsP.of (sc12 (.int .i64 s0) (.int .i64 s1) (.int .i64 s2) (.int .u64 s3) (.int .i64 s4) (.int .i64 s5) (.slice s6 s7 s8) (.slice s9 s10 s11) (.int .i64 s12) (.slice s13 s14 s15) (.bool s16) (.slice s17 s18 s19) hZ6.out).2 (fun b hb => .inr (by simpa using hb))) ?_
    clear hK K
    (repeat (apply Free.cw_pure rfl rfl; (intro w'; go_simp <;> exact rfl); go_frame))
    refine Free.cw_nil ?_
    go_wp2
    obtain ⟨g1, g2⟩ := sc12 (.int .i64 s0) (.int .i64 s1) (.int .i64 s2) (.int .u64 s3) (.int .i64 s4) (.int .i64 s5) (.slice s6 s7 s8) (.slice s9 s10 s11) (.int .i64 s12) (.slice s13 s14 s15) (.bool s16) (.slice s17 s18 s19) hZ6.out
    obtain ⟨f1, f2⟩ := h.out.fin hkw3.out hk5h.out hR5.out hF5.out hk25.out hT6.out hM6.out g2 ⟨by omega, hZ3⟩ hZ6.out
    refine bodyPost_ret (results_rf rfl _ _ _ _ _ _ _ _ _ _ _ _ _ _ _ _ _ rfl g1) ?_ ?_
    · rfl
    · exact ⟨(⟨s0, s1, s2, s3, s4, s5, (s6, s7, s8), (s9, s10, s11), s12, (s13, s14, s15), s16, (s17, s18, s19)⟩ : RfV), vo', vh', vg, rfl, by rw [hstep.out]; exact f1, f2, fun b hb => (hF5.out b hb).imp id (fun h => Nat.le_trans hkw3.out.size h.1)⟩
  by_cases e1 : ok = 1
  · subst e1
    have hstep : Op3.step ⟨1, oi, on, oa⟩ t = (t.answer (Op3.aim ⟨1, oi, on, oa⟩ t.qs)).1 := by unfold Op3.step; rw [if_pos (by simp)]
    replace hstep := Lib.hid hstep
    go_wp2_with fail
    refine (haim.out _ hkw2.out).mono ?_
    rintro e w3 ⟨ya, rfl, hyv, hyI, hk3⟩
    obtain ⟨p0, p1, p2, p3, p4, p5, p6, p7, p8, p9⟩ := ya
    simp only [aV, AnV.v]
    have hk3M := hk3.alloc (.cells #[.int .i64 p0, .int .i64 p1, .int .u64 p2, .int .i64 p3, .bool p4, .bool p5, .int .i64 p6, .slice p7 p8 p9] tA)
    have hbA := heap_alloc_new w3 (.cells #[.int .i64 p0, .int .i64 p1, .int .u64 p2, .int .i64 p3, .bool p4, .bool p5, .int .i64 p6, .slice p7 p8 p9] tA)
    have hyI3 := hyI.keeps ((Keeps.refl [] w3).alloc (.cells #[.int .i64 p0, .int .i64 p1, .int .u64 p2, .int .i64 p3, .bool p4, .bool p5, .int .i64 p6, .slice p7 p8 p9] tA))
    replace hk3M := Lib.hid hk3M
    replace hbA := Lib.hid hbA
    replace hyv := Lib.hid hyv
    replace hyI3 := Lib.hid hyI3
    have hk3h := Lib.hid hk3
    clear hyI hk3
    go_upto_region 11 with fail
    generalize (w3.alloc (.cells #[.int .i64 p0, .int .i64 p1, .int .u64 p2, .int .i64 p3, .bool p4, .bool p5, .int .i64 p6, .slice p7 p8 p9] tA)) = W3 at *
    obtain ⟨XA, hXA⟩ : ∃ X, w3.heap.size = X := ⟨_, rfl⟩
    rw [hXA] at hbA ⊢
    have hsA : w.heap.size + 1 + 1 < XA := by have := lt_of_blk hbZ.out; have := hk3h.out.size; omega
    replace hXA := Lib.hid hXA
    replace hbX := Lib.hid ((hk3M.out.block _ (lt_of_blk hbX.out) (by simp)).trans hbX.out)
    replace hbO := Lib.hid ((hk3M.out.block _ (lt_of_blk hbO.out) (by simp)).trans hbO.out)
    replace hbZ := Lib.hid ((hk3M.out.block _ (lt_of_blk hbZ.out) (by simp)).trans hbZ.out)
    clear z0 z1 z2 z3 z4 z5 z6 z7 z8 z9 z10 z11 zf zl
    clear r0 r1 r2 r3 r4 r5 r6 r7 r8 r9 r10 rf rl
    obtain ⟨z0, z1, z2, z3, z4, z5, z6, z7, z8, z9, z10, z11, zf, zl⟩ := cl12 hbX.out
    obtain ⟨r0, r1, r2, r3, r4, r5, r6, r7, r8, r9, r10, rf, rl⟩ := cl11 hbO.out
    obtain ⟨k0, k1, k2, k3, k4, k5, k6, k7, kf, kl⟩ := cl8 hbA.out
    have hkw3 := Lib.hid (hkw2.out.trans hk3M.out)
    have hZ3 : w.heap.size + 1 + 1 < W3.heap.size := lt_of_blk hbZ.out
    have hS := hsp.out W3 hkw3.out _ hyI3.out
    simp only [aV, AnV.v] at hS
    replace hS := Lib.hid hS
    go_wp2_with fail
    refine hS.out.mono ?_
    rintro e w5 ⟨xs, rfl, hR5, hk5, hF5⟩
    clear k0 k1 k2 k3 k4 k5 k6 k7 kf kl
    clear z0 z1 z2 z3 z4 z5 z6 z7 z8 z9 z10 z11 zf zl
    clear r0 r1 r2 r3 r4 r5 r6 r7 r8 r9 r10 rf rl
    obtain ⟨s0, s1, s2, s3, s4, s5, ⟨s6, s7, s8⟩, ⟨s9, s10, s11⟩, s12, ⟨s13, s14, s15⟩, s16, ⟨s17, s18, s19⟩⟩ := xs
    simp only [rfV, slv]
    have hk5M := hk5.alloc (.cells #[.int .i64 s0, .int .i64 s1, .int .i64 s2, .int .u64 s3, .int .i64 s4, .int .i64 s5, .slice s6 s7 s8, .slice s9 s10 s11, .int .i64 s12, .slice s13 s14 s15, .bool s16, .slice s17 s18 s19] tR)
    have hbV := heap_alloc_new w5 (.cells #[.int .i64 s0, .int .i64 s1, .int .i64 s2, .int .u64 s3, .int .i64 s4, .int .i64 s5, .slice s6 s7 s8, .slice s9 s10 s11, .int .i64 s12, .slice s13 s14 s15, .bool s16, .slice s17 s18 s19] tR)
    have hk25 := ((Keeps.refl [] w5).alloc (.cells #[.int .i64 s0, .int .i64 s1, .int .i64 s2, .int .u64 s3, .int .i64 s4, .int .i64 s5, .slice s6 s7 s8, .slice s9 s10 s11, .int .i64 s12, .slice s13 s14 s15, .bool s16, .slice s17 s18 s19] tR)).drew
    have hk5h := Lib.hid hk5
    replace hk5M := Lib.hid hk5M
    replace hbV := Lib.hid hbV
    replace hR5 := Lib.hid hR5
    replace hF5 := Lib.hid hF5
    replace hk25 := Lib.hid hk25
    clear hk5

    go_upto_region 12 with fail
    generalize (w5.alloc (.cells #[.int .i64 s0, .int .i64 s1, .int .i64 s2, .int .u64 s3, .int .i64 s4, .int .i64 s5, .slice s6 s7 s8, .slice s9 s10 s11, .int .i64 s12, .slice s13 s14 s15, .bool s16, .slice s17 s18 s19] tR)) = W5 at *
    obtain ⟨XV, hXV⟩ : ∃ X, w5.heap.size = X := ⟨_, rfl⟩
    rw [hXV] at hbV ⊢
    have hkd := Lib.hid hk5M.out.drew
    have hbVd : W5.drew.heap[XV]? = _ := hbV.out
    have hZd : W5.drew.heap[w.heap.size + 1 + 1]? = _ := (hk5M.out.block _ hZ3 (by simp)).trans hbZ.out
    have hbAd : W5.drew.heap[XA]? = _ := (hk5M.out.block _ (lt_of_blk hbA.out) (by simp)).trans hbA.out
    obtain ⟨k0, k1, k2, k3, k4, k5, k6, k7, kf, kl⟩ := cl8 hbAd
    replace hbAd := Lib.hid hbAd
    have hsV : w.heap.size + 1 + 1 < XV := by have := hk5h.out.size; omega
    have hZl := lt_of_blk hZd
    replace hXV := Lib.hid hXV
    replace hbVd := Lib.hid hbVd
    replace hZd := Lib.hid hZd
    have hprog := hpa.out W5.drew (hkw3.out.trans hkd.out) _ (hyI3.out.keeps hkd.out) hyv.out
    simp only [aV, AnV.v] at hprog
    replace hprog := Lib.hid hprog
    clear hbV hk5M
    obtain ⟨m0, m1, m2, m3, m4, m5, m6, m7, m8, m9, m10, m11, mf, ml⟩ := cl12 hbVd.out
    refine Free.wp_region_chain (fun i => i == 3 || i == 6) (fun i => true) (fun _ b => b < w.heap.size ∨ b = w.heap.size + 1 + 1) (by kernel_rfl) (by kernel_rfl) (by kernel_rfl) ?_
    generalize W5.drew = wd at *
    (repeat (first | (apply Free.cw_pure rfl rfl; (intro w'; go_simp <;> exact rfl); go_frame) | (apply Free.cw_steady rfl rfl rfl; (intro w' hS; have q0 := Free.sx_cell hS m0 (fun _ _ hT => by rcases hT with hT | hT <;> omega); have q1 := Free.sx_cell hS m1 (fun _ _ hT => by rcases hT with hT | hT <;> omega); have q2 := Free.sx_cell hS m2 (fun _ _ hT => by rcases hT with hT | hT <;> omega); have q3 := Free.sx_cell hS m3 (fun _ _ hT => by rcases hT with hT | hT <;> omega); have q4 := Free.sx_cell hS m4 (fun _ _ hT => by rcases hT with hT | hT <;> omega); have q5 := Free.sx_cell hS m5 (fun _ _ hT => by rcases hT with hT | hT <;> omega); have q6 := Free.sx_cell hS m6 (fun _ _ hT => by rcases hT with hT | hT <;> omega); have q7 := Free.sx_cell hS m7 (fun _ _ hT => by rcases hT with hT | hT <;> omega); have q8 := Free.sx_cell hS m8 (fun _ _ hT => by rcases hT with hT | hT <;> omega); have q9 := Free.sx_cell hS m9 (fun _ _ hT => by rcases hT with hT | hT <;> omega); have q10 := Free.sx_cell hS m10 (fun _ _ hT => by rcases hT with hT | hT <;> omega); have q11 := Free.sx_cell hS m11 (fun _ _ hT => by rcases hT with hT | hT <;> omega); have q12 := Free.sx_cell hS k0 (fun _ _ hT => by rcases hT with hT | hT <;> omega); have q13 := Free.sx_cell hS k1 (fun _ _ hT => by rcases hT with hT | hT <;> omega); have q14 := Free.sx_cell hS k2 (fun _ _ hT => by rcases hT with hT | hT <;> omega); have q15 := Free.sx_cell hS k3 (fun _ _ hT => by rcases hT with hT | hT <;> omega); have q16 := Free.sx_cell hS k4 (fun _ _ hT => by rcases hT with hT | hT <;> omega); have q17 := Free.sx_cell hS k5 (fun _ _ hT => by rcases hT with hT | hT <;> omega); have q18 := Free.sx_cell hS k6 (fun _ _ hT => by rcases hT with hT | hT <;> omega); have q19 := Free.sx_cell hS k7 (fun _ _ hT => by rcases hT with hT | hT <;> omega); go_simp <;> exact rfl); go_frame) | (refine Free.cw_skip rfl ?_; go_frame)))
    refine Free.cw_loud rfl rfl (fun K hK => ?_)
    go_wp2_with fail
    refine hprog.out.mono ?_
    rintro e w6 ⟨vo', vh', rfl, hT6, hM6⟩
    refine hK _ _ rfl (Free.KeepsP.of hM6.k (fun b hb => .inl (hown.out b hb))) ?_
    clear hK K hprog
    have hZ6 := (hM6.k.block _ hZl (fun hm => by have := hown.out _ hm; omega)).trans hZd.out

    obtain ⟨v0, v1, v2, v3, v4, v5, v6, v7, v8, v9, v10, v11, vf, vl⟩ := cl12 hZ6
    replace hZ6 := Lib.hid hZ6
    replace hT6 := Lib.hid hT6
    replace hM6 := Lib.hid hM6
    (repeat (apply Free.cw_pure rfl rfl; (intro w'; go_simp <;> exact rfl); go_frame))
    refine Free.cw_loud rfl rfl (fun K hK => ?_)
    go_wp2
    refine hK _ _ rfl (Free.KeepsP.of (sc12 (.int .i64 s0) (.int .i64 s1) (.int .i64 s2) (.int .u64 s3) (.int .i64 s4) (.int .i64 s5) (.slice s6 s7 s8) (.slice s9 s10 s11) (.int .i64 s12) (.slice s13 s14 s15) (.bool s16) (.slice s17 s18 s19) hZ6.out).2 (fun b hb => .inr (by simpa using hb))) ?_
    clear hK K
    (repeat (apply Free.cw_pure rfl rfl; (intro w'; go_simp <;> exact rfl); go_frame))
    refine Free.cw_nil ?_
    go_wp2
    obtain ⟨g1, g2⟩ := sc12 (.int .i64 s0) (.int .i64 s1) (.int .i64 s2) (.int .u64 s3) (.int .i64 s4) (.int .i64 s5) (.slice s6 s7 s8) (.slice s9 s10 s11) (.int .i64 s12) (.slice s13 s14 s15) (.bool s16) (.slice s17 s18 s19) hZ6.out
    obtain ⟨f1, f2⟩ := h.out.fin hkw3.out hk5h.out hR5.out hF5.out hk25.out hT6.out hM6.out g2 ⟨by omega, hZ3⟩ hZ6.out
    refine bodyPost_ret (results_rf rfl _ _ _ _ _ _ _ _ _ _ _ _ _ _ _ _ _ rfl g1) ?_ ?_
    · rfl
    · exact ⟨(⟨s0, s1, s2, s3, s4, s5, (s6, s7, s8), (s9, s10, s11), s12, (s13, s14, s15), s16, (s17, s18, s19)⟩ : RfV), vo', vh', vg, rfl, by rw [hstep.out]; exact f1, f2, fun b hb => (hF5.out b hb).imp id (fun h => Nat.le_trans hkw3.out.size h.1)⟩
  by_cases e2 : ok = 2
  · subst e2
    have hstep : Op3.step ⟨2, oi, on, oa⟩ t = (t.answer (Op3.aim ⟨2, oi, on, oa⟩ t.qs)).1 := by unfold Op3.step; rw [if_pos (by simp)]
    replace hstep := Lib.hid hstep
    go_wp2_with fail
    refine (haim.out _ hkw2.out).mono ?_
    rintro e w3 ⟨ya, rfl, hyv, hyI, hk3⟩
    obtain ⟨p0, p1, p2, p3, p4, p5, p6, p7, p8, p9⟩ := ya
    simp only [aV, AnV.v]
    have hk3M := hk3.alloc (.cells #[.int .i64 p0, .int .i64 p1, .int .u64 p2, .int .i64 p3, .bool p4, .bool p5, .int .i64 p6, .slice p7 p8 p9] tA)
    have hbA := heap_alloc_new w3 (.cells #[.int .i64 p0, .int .i64 p1, .int .u64 p2, .int .i64 p3, .bool p4, .bool p5, .int .i64 p6, .slice p7 p8 p9] tA)
    have hyI3 := hyI.keeps ((Keeps.refl [] w3).alloc (.cells #[.int .i64 p0, .int .i64 p1, .int .u64 p2, .int .i64 p3, .bool p4, .bool p5, .int .i64 p6, .slice p7 p8 p9] tA))
    replace hk3M := Lib.hid hk3M
    replace hbA := Lib.hid hbA
    replace hyv := Lib.hid hyv
    replace hyI3 := Lib.hid hyI3
    have hk3h := Lib.hid hk3
    clear hyI hk3
    go_upto_region 11 with fail
    generalize (w3.alloc (.cells #[.int .i64 p0, .int .i64 p1, .int .u64 p2, .int .i64 p3, .bool p4, .bool p5, .int .i64 p6, .slice p7 p8 p9] tA)) = W3 at *
    obtain ⟨XA, hXA⟩ : ∃ X, w3.heap.size = X := ⟨_, rfl⟩
    rw [hXA] at hbA ⊢
    have hsA : w.heap.size + 1 + 1 < XA := by have := lt_of_blk hbZ.out; have := hk3h.out.size; omega
    replace hXA := Lib.hid hXA
    replace hbX := Lib.hid ((hk3M.out.block _ (lt_of_blk hbX.out) (by simp)).trans hbX.out)
    replace hbO := Lib.hid ((hk3M.out.block _ (lt_of_blk hbO.out) (by simp)).trans hbO.out)
    replace hbZ := Lib.hid ((hk3M.out.block _ (lt_of_blk hbZ.out) (by simp)).trans hbZ.out)
    clear z0 z1 z2 z3 z4 z5 z6 z7 z8 z9 z10 z11 zf zl
    clear r0 r1 r2 r3 r4 r5 r6 r7 r8 r9 r10 rf rl
    obtain ⟨z0, z1, z2, z3, z4, z5, z6, z7, z8, z9, z10, z11, zf, zl⟩ := cl12 hbX.out
    obtain ⟨r0, r1, r2, r3, r4, r5, r6, r7, r8, r9, r10, rf, rl⟩ := cl11 hbO.out
    obtain ⟨k0, k1, k2, k3, k4, k5, k6, k7, kf, kl⟩ := cl8 hbA.out
    have hkw3 := Lib.hid (hkw2.out.trans hk3M.out)
    have hZ3 : w.heap.size + 1 + 1 < W3.heap.size := lt_of_blk hbZ.out
    have hS := hsp.out W3 hkw3.out _ hyI3.out
    simp only [aV, AnV.v] at hS
    replace hS := Lib.hid hS
    go_wp2_with fail
    refine hS.out.mono ?_
    rintro e w5 ⟨xs, rfl, hR5, hk5, hF5⟩
    clear k0 k1 k2 k3 k4 k5 k6 k7 kf kl
    clear z0 z1 z2 z3 z4 z5 z6 z7 z8 z9 z10 z11 zf zl
    clear r0 r1 r2 r3 r4 r5 r6 r7 r8 r9 r10 rf rl
    obtain ⟨s0, s1, s2, s3, s4, s5, ⟨s6, s7, s8⟩, ⟨s9, s10, s11⟩, s12, ⟨s13, s14, s15⟩, s16, ⟨s17, s18, s19⟩⟩ := xs
    simp only [rfV, slv]
    have hk5M := hk5.alloc (.cells #[.int .i64 s0, .int .i64 s1, .int .i64 s2, .int .u64 s3, .int .i64 s4, .int .i64 s5, .slice s6 s7 s8, .slice s9 s10 s11, .int .i64 s12, .slice s13 s14 s15, .bool s16, .slice s17 s18 s19] tR)
    have hbV := heap_alloc_new w5 (.cells #[.int .i64 s0, .int .i64 s1, .int .i64 s2, .int .u64 s3, .int .i64 s4, .int .i64 s5, .slice s6 s7 s8, .slice s9 s10 s11, .int .i64 s12, .slice s13 s14 s15, .bool s16, .slice s17 s18 s19] tR)
    have hk25 := ((Keeps.refl [] w5).alloc (.cells #[.int .i64 s0, .int .i64 s1, .int .i64 s2, .int .u64 s3, .int .i64 s4, .int .i64 s5, .slice s6 s7 s8, .slice s9 s10 s11, .int .i64 s12, .slice s13 s14 s15, .bool s16, .slice s17 s18 s19] tR)).drew
    have hk5h := Lib.hid hk5
    replace hk5M := Lib.hid hk5M
    replace hbV := Lib.hid hbV
    replace hR5 := Lib.hid hR5
    replace hF5 := Lib.hid hF5
    replace hk25 := Lib.hid hk25
    clear hk5

    go_upto_region 12 with fail
    generalize (w5.alloc (.cells #[.int .i64 s0, .int .i64 s1, .int .i64 s2, .int .u64 s3, .int .i64 s4, .int .i64 s5, .slice s6 s7 s8, .slice s9 s10 s11, .int .i64 s12, .slice s13 s14 s15, .bool s16, .slice s17 s18 s19] tR)) = W5 at *
    obtain ⟨XV, hXV⟩ : ∃ X, w5.heap.size = X := ⟨_, rfl⟩
    rw [hXV] at hbV ⊢
    have hkd := Lib.hid hk5M.out.drew
    have hbVd : W5.drew.heap[XV]? = _ := hbV.out
    have hZd : W5.drew.heap[w.heap.size + 1 + 1]? = _ := (hk5M.out.block _ hZ3 (by simp)).trans hbZ.out
    have hbAd : W5.drew.heap[XA]? = _ := (hk5M.out.block _ (lt_of_blk hbA.out) (by simp)).trans hbA.out
    obtain ⟨k0, k1, k2, k3, k4, k5, k6, k7, kf, kl⟩ := cl8 hbAd
    replace hbAd := Lib.hid hbAd
    have hsV : w.heap.size + 1 + 1 < XV := by have := hk5h.out.size; omega
    have hZl := lt_of_blk hZd
    replace hXV := Lib.hid hXV
    replace hbVd := Lib.hid hbVd
    replace hZd := Lib.hid hZd
    have hprog := hpa.out W5.drew (hkw3.out.trans hkd.out) _ (hyI3.out.keeps hkd.out) hyv.out
    simp only [aV, AnV.v] at hprog
    replace hprog := Lib.hid hprog
    clear hbV hk5M
    obtain ⟨m0, m1, m2, m3, m4, m5, m6, m7, m8, m9, m10, m11, mf, ml⟩ := cl12 hbVd.out
    refine Free.wp_region_chain (fun i => i == 3 || i == 6) (fun i => true) (fun _ b => b < w.heap.size ∨ b = w.heap.size + 1 + 1) (by kernel_rfl) (by kernel_rfl) (by kernel_rfl) ?_
    generalize W5.drew = wd at *
    (repeat (first | (apply Free.cw_pure rfl rfl; (intro w'; go_simp <;> exact rfl); go_frame) | (apply Free.cw_steady rfl rfl rfl; (intro w' hS; have q0 := Free.sx_cell hS m0 (fun _ _ hT => by rcases hT with hT | hT <;> omega); have q1 := Free.sx_cell hS m1 (fun _ _ hT => by rcases hT with hT | hT <;> omega); have q2 := Free.sx_cell hS m2 (fun _ _ hT => by rcases hT with hT | hT <;> omega); have q3 := Free.sx_cell hS m3 (fun _ _ hT => by rcases hT with hT | hT <;> omega); have q4 := Free.sx_cell hS m4 (fun _ _ hT => by rcases hT with hT | hT <;> omega); have q5 := Free.sx_cell hS m5 (fun _ _ hT => by rcases hT with hT | hT <;> omega); have q6 := Free.sx_cell hS m6 (fun _ _ hT => by rcases hT with hT | hT <;> omega); have q7 := Free.sx_cell hS m7 (fun _ _ hT => by rcases hT with hT | hT <;> omega); have q8 := Free.sx_cell hS m8 (fun _ _ hT => by rcases hT with hT | hT <;> omega); have q9 := Free.sx_cell hS m9 (fun _ _ hT => by rcases hT with hT | hT <;> omega); have q10 := Free.sx_cell hS m10 (fun _ _ hT => by rcases hT with hT | hT <;> omega); have q11 := Free.sx_cell hS m11 (fun _ _ hT => by rcases hT with hT | hT <;> omega); have q12 := Free.sx_cell hS k0 (fun _ _ hT => by rcases hT with hT | hT <;> omega); have q13 := Free.sx_cell hS k1 (fun _ _ hT => by rcases hT with hT | hT <;> omega); have q14 := Free.sx_cell hS k2 (fun _ _ hT => by rcases hT with hT | hT <;> omega); have q15 := Free.sx_cell hS k3 (fun _ _ hT => by rcases hT with hT | hT <;> omega); have q16 := Free.sx_cell hS k4 (fun _ _ hT => by rcases hT with hT | hT <;> omega); have q17 := Free.sx_cell hS k5 (fun _ _ hT => by rcases hT with hT | hT <;> omega); have q18 := Free.sx_cell hS k6 (fun _ _ hT => by rcases hT with hT | hT <;> omega); have q19 := Free.sx_cell hS k7 (fun _ _ hT => by rcases hT with hT | hT <;> omega); go_simp <;> exact rfl); go_frame) | (refine Free.cw_skip rfl ?_; go_frame)))
    refine Free.cw_loud rfl rfl (fun K hK => ?_)
    go_wp2_with fail
    refine hprog.out.mono ?_
    rintro e w6 ⟨vo', vh', rfl, hT6, hM6⟩
    refine hK _ _ rfl (Free.KeepsP.of hM6.k (fun b hb => .inl (hown.out b hb))) ?_
    clear hK K hprog
    have hZ6 := (hM6.k.block _ hZl (fun hm => by have := hown.out _ hm; omega)).trans hZd.out

    obtain ⟨v0, v1, v2, v3, v4, v5, v6, v7, v8, v9, v10, v11, vf, vl⟩ := cl12 hZ6
    replace hZ6 := Lib.hid hZ6
    replace hT6 := Lib.hid hT6
    replace hM6 := Lib.hid hM6
    (repeat (apply Free.cw_pure rfl rfl; (intro w'; go_simp <;> exact rfl); go_frame))
    refine Free.cw_loud rfl rfl (fun K hK => ?_)
    go_wp2
    refine hK _ _ rfl (Free.KeepsP.of (sc12 (.int .i64 s0) (.int .i64 s1) (.int .i64 s2) (.int .u64 s3) (.int .i64 s4) (.int .i64 s5) (.slice s6 s7 s8) (.slice s9 s10 s11) (.int .i64 s12) (.slice s13 s14 s15) (.bool s16) (.slice s17 s18 s19) hZ6.out).2 (fun b hb => .inr (by simpa using hb))) ?_
    clear hK K
    (repeat (apply Free.cw_pure rfl rfl; (intro w'; go_simp <;> exact rfl); go_frame))
    refine Free.cw_nil ?_
    go_wp2
    obtain ⟨g1, g2⟩ := sc12 (.int .i64 s0) (.int .i64 s1) (.int .i64 s2) (.int .u64 s3) (.int .i64 s4) (.int .i64 s5) (.slice s6 s7 s8) (.slice s9 s10 s11) (.int .i64 s12) (.slice s13 s14 s15) (.bool s16) (.slice s17 s18 s19) hZ6.out
    obtain ⟨f1, f2⟩ := h.out.fin hkw3.out hk5h.out hR5.out hF5.out hk25.out hT6.out hM6.out g2 ⟨by omega, hZ3⟩ hZ6.out
    refine bodyPost_ret (results_rf rfl _ _ _ _ _ _ _ _ _ _ _ _ _ _ _ _ _ rfl g1) ?_ ?_
    · rfl
    · exact ⟨(⟨s0, s1, s2, s3, s4, s5, (s6, s7, s8), (s9, s10, s11), s12, (s13, s14, s15), s16, (s17, s18, s19)⟩ : RfV), vo', vh', vg, rfl, by rw [hstep.out]; exact f1, f2, fun b hb => (hF5.out b hb).imp id (fun h => Nat.le_trans hkw3.out.size h.1)⟩
  by_cases e3 : ok = 3
  · subst e3
    have hstep : Op3.step ⟨3, oi, on, oa⟩ t = (t.answer (Op3.aim ⟨3, oi, on, oa⟩ t.qs)).1 := by unfold Op3.step; rw [if_pos (by simp)]
    replace hstep := Lib.hid hstep
    go_wp2_with fail
    refine (haim.out _ hkw2.out).mono ?_
    rintro e w3 ⟨ya, rfl, hyv, hyI, hk3⟩
    obtain ⟨p0, p1, p2, p3, p4, p5, p6, p7, p8, p9⟩ := ya
    simp only [aV, AnV.v]
    have hk3M := hk3.alloc (.cells #[.int .i64 p0, .int .i64 p1, .int .u64 p2, .int .i64 p3, .bool p4, .bool p5, .int .i64 p6, .slice p7 p8 p9] tA)
    have hbA := heap_alloc_new w3 (.cells #[.int .i64 p0, .int .i64 p1, .int .u64 p2, .int .i64 p3, .bool p4, .bool p5, .int .i64 p6, .slice p7 p8 p9] tA)
    have hyI3 := hyI.keeps ((Keeps.refl [] w3).alloc (.cells #[.int .i64 p0, .int .i64 p1, .int .u64 p2, .int .i64 p3, .bool p4, .bool p5, .int .i64 p6, .slice p7 p8 p9] tA))
    replace hk3M := Lib.hid hk3M
    replace hbA := Lib.hid hbA
    replace hyv := Lib.hid hyv
    replace hyI3 := Lib.hid hyI3
    have hk3h := Lib.hid hk3
    clear hyI hk3
    go_upto_region 11 with fail
    generalize (w3.alloc (.cells #[.int .i64 p0, .int .i64 p1, .int .u64 p2, .int .i64 p3, .bool p4, .bool p5, .int .i64 p6, .slice p7 p8 p9] tA)) = W3 at *
    obtain ⟨XA, hXA⟩ : ∃ X, w3.heap.size = X := ⟨_, rfl⟩
    rw [hXA] at hbA ⊢
    have hsA : w.heap.size + 1 + 1 < XA := by have := lt_of_blk hbZ.out; have := hk3h.out.size; omega
    replace hXA := Lib.hid hXA
    replace hbX := Lib.hid ((hk3M.out.block _ (lt_of_blk hbX.out) (by simp)).trans hbX.out)
    replace hbO := Lib.hid ((hk3M.out.block _ (lt_of_blk hbO.out) (by simp)).trans hbO.out)
    replace hbZ := Lib.hid ((hk3M.out.block _ (lt_of_blk hbZ.out) (by simp)).trans hbZ.out)
    clear z0 z1 z2 z3 z4 z5 z6 z7 z8 z9 z10 z11 zf zl
    clear r0 r1 r2 r3 r4 r5 r6 r7 r8 r9 r10 rf rl
    obtain ⟨z0, z1, z2, z3, z4, z5, z6, z7, z8, z9, z10, z11, zf, zl⟩ := cl12 hbX.out
    obtain ⟨r0, r1, r2, r3, r4, r5, r6, r7, r8, r9, r10, rf, rl⟩ := cl11 hbO.out
    obtain ⟨k0, k1, k2, k3, k4, k5, k6, k7, kf, kl⟩ := cl8 hbA.out
    have hkw3 := Lib.hid (hkw2.out.trans hk3M.out)
    have hZ3 : w.heap.size + 1 + 1 < W3.heap.size := lt_of_blk hbZ.out
    have hS := hsp.out W3 hkw3.out _ hyI3.out
    simp only [aV, AnV.v] at hS
    replace hS := Lib.hid hS
    go_wp2_with fail
    refine hS.out.mono ?_
    rintro e w5 ⟨xs, rfl, hR5, hk5, hF5⟩
    clear k0 k1 k2 k3 k4 k5 k6 k7 kf kl
    clear z0 z1 z2 z3 z4 z5 z6 z7 z8 z9 z10 z11 zf zl
    clear r0 r1 r2 r3 r4 r5 r6 r7 r8 r9 r10 rf rl
    obtain ⟨s0, s1, s2, s3, s4, s5, ⟨s6, s7, s8⟩, ⟨s9, s10, s11⟩, s12, ⟨s13, s14, s15⟩, s16, ⟨s17, s18, s19⟩⟩ := xs
    simp only [rfV, slv]
    have hk5M := hk5.alloc (.cells #[.int .i64 s0, .int .i64 s1, .int .i64 s2, .int .u64 s3, .int .i64 s4, .int .i64 s5, .slice s6 s7 s8, .slice s9 s10 s11, .int .i64 s12, .slice s13 s14 s15, .bool s16, .slice s17 s18 s19] tR)
    have hbV := heap_alloc_new w5 (.cells #[.int .i64 s0, .int .i64 s1, .int .i64 s2, .int .u64 s3, .int .i64 s4, .int .i64 s5, .slice s6 s7 s8, .slice s9 s10 s11, .int .i64 s12, .slice s13 s14 s15, .bool s16, .slice s17 s18 s19] tR)
    have hk25 := ((Keeps.refl [] w5).alloc (.cells #[.int .i64 s0, .int .i64 s1, .int .i64 s2, .int .u64 s3, .int .i64 s4, .int .i64 s5, .slice s6 s7 s8, .slice s9 s10 s11, .int .i64 s12, .slice s13 s14 s15, .bool s16, .slice s17 s18 s19] tR)).drew
    have hk5h := Lib.hid hk5
    replace hk5M := Lib.hid hk5M
    replace hbV := Lib.hid hbV
    replace hR5 := Lib.hid hR5
    replace hF5 := Lib.hid hF5
    replace hk25 := Lib.hid hk25
    clear hk5

    go_upto_region 12 with fail
    generalize (w5.alloc (.cells #[.int .i64 s0, .int .i64 s1, .int .i64 s2, .int .u64 s3, .int .i64 s4, .int .i64 s5, .slice s6 s7 s8, .slice s9 s10 s11, .int .i64 s12, .slice s13 s14 s15, .bool s16, .slice s17 s18 s19] tR)) = W5 at *
    obtain ⟨XV, hXV⟩ : ∃ X, w5.heap.size = X := ⟨_, rfl⟩
    rw [hXV] at hbV ⊢
    have hkd := Lib.hid hk5M.out.drew
    have hbVd : W5.drew.heap[XV]? = _ := hbV.out
    have hZd : W5.drew.heap[w.heap.size + 1 + 1]? = _ := (hk5M.out.block _ hZ3 (by simp)).trans hbZ.out
    have hbAd : W5.drew.heap[XA]? = _ := (hk5M.out.block _ (lt_of_blk hbA.out) (by simp)).trans hbA.out
    obtain ⟨k0, k1, k2, k3, k4, k5, k6, k7, kf, kl⟩ := cl8 hbAd
    replace hbAd := Lib.hid hbAd
    have hsV : w.heap.size + 1 + 1 < XV := by have := hk5h.out.size; omega
    have hZl := lt_of_blk hZd
    replace hXV := Lib.hid hXV
    replace hbVd := Lib.hid hbVd
    replace hZd := Lib.hid hZd
    have hprog := hpa.out W5.drew (hkw3.out.trans hkd.out) _ (hyI3.out.keeps hkd.out) hyv.out
    simp only [aV, AnV.v] at hprog
    replace hprog := Lib.hid hprog
    clear hbV hk5M
    obtain ⟨m0, m1, m2, m3, m4, m5, m6, m7, m8, m9, m10, m11, mf, ml⟩ := cl12 hbVd.out
    refine Free.wp_region_chain (fun i => i == 3 || i == 6) (fun i => true) (fun _ b => b < w.heap.size ∨ b = w.heap.size + 1 + 1) (by kernel_rfl) (by kernel_rfl) (by kernel_rfl) ?_
    generalize W5.drew = wd at *
    (repeat (first | (apply Free.cw_pure rfl rfl; (intro w'; go_simp <;> exact rfl); go_frame) | (apply Free.cw_steady rfl rfl rfl; (intro w' hS; have q0 := Free.sx_cell hS m0 (fun _ _ hT => by rcases hT with hT | hT <;> omega); have q1 := Free.sx_cell hS m1 (fun _ _ hT => by rcases hT with hT | hT <;> omega); have q2 := Free.sx_cell hS m2 (fun _ _ hT => by rcases hT with hT | hT <;> omega); have q3 := Free.sx_cell hS m3 (fun _ _ hT => by rcases hT with hT | hT <;> omega); have q4 := Free.sx_cell hS m4 (fun _ _ hT => by rcases hT with hT | hT <;> omega); have q5 := Free.sx_cell hS m5 (fun _ _ hT => by rcases hT with hT | hT <;> omega); have q6 := Free.sx_cell hS m6 (fun _ _ hT => by rcases hT with hT | hT <;> omega); have q7 := Free.sx_cell hS m7 (fun _ _ hT => by rcases hT with hT | hT <;> omega); have q8 := Free.sx_cell hS m8 (fun _ _ hT => by rcases hT with hT | hT <;> omega); have q9 := Free.sx_cell hS m9 (fun _ _ hT => by rcases hT with hT | hT <;> omega); have q10 := Free.sx_cell hS m10 (fun _ _ hT => by rcases hT with hT | hT <;> omega); have q11 := Free.sx_cell hS m11 (fun _ _ hT => by rcases hT with hT | hT <;> omega); have q12 := Free.sx_cell hS k0 (fun _ _ hT => by rcases hT with hT | hT <;> omega); have q13 := Free.sx_cell hS k1 (fun _ _ hT => by rcases hT with hT | hT <;> omega); have q14 := Free.sx_cell hS k2 (fun _ _ hT => by rcases hT with hT | hT <;> omega); have q15 := Free.sx_cell hS k3 (fun _ _ hT => by rcases hT with hT | hT <;> omega); have q16 := Free.sx_cell hS k4 (fun _ _ hT => by rcases hT with hT | hT <;> omega); have q17 := Free.sx_cell hS k5 (fun _ _ hT => by rcases hT with hT | hT <;> omega); have q18 := Free.sx_cell hS k6 (fun _ _ hT => by rcases hT with hT | hT <;> omega); have q19 := Free.sx_cell hS k7 (fun _ _ hT => by rcases hT with hT | hT <;> omega); go_simp <;> exact rfl); go_frame) | (refine Free.cw_skip rfl ?_; go_frame)))
    refine Free.cw_loud rfl rfl (fun K hK => ?_)
    go_wp2_with fail
    refine hprog.out.mono ?_
    rintro e w6 ⟨vo', vh', rfl, hT6, hM6⟩
    refine hK _ _ rfl (Free.KeepsP.of hM6.k (fun b hb => .inl (hown.out b hb))) ?_
    clear hK K hprog
    have hZ6 := (hM6.k.block _ hZl (fun hm => by have := hown.out _ hm; omega)).trans hZd.out

    obtain ⟨v0, v1, v2, v3, v4, v5, v6, v7, v8, v9, v10, v11, vf, vl⟩ := cl12 hZ6
    replace hZ6 := Lib.hid hZ6
    replace hT6 := Lib.hid hT6
    replace hM6 := Lib.hid hM6
    (repeat (apply Free.cw_pure rfl rfl; (intro w'; go_simp <;> exact rfl); go_frame))
    refine Free.cw_loud rfl rfl (fun K hK => ?_)
    go_wp2
    refine hK _ _ rfl (Free.KeepsP.of (sc12 (.int .i64 s0) (.int .i64 s1) (.int .i64 s2) (.int .u64 s3) (.int .i64 s4) (.int .i64 s5) (.slice s6 s7 s8) (.slice s9 s10 s11) (.int .i64 s12) (.slice s13 s14 s15) (.bool s16) (.slice s17 s18 s19) hZ6.out).2 (fun b hb => .inr (by simpa using hb))) ?_
    clear hK K
    (repeat (apply Free.cw_pure rfl rfl; (intro w'; go_simp <;> exact rfl); go_frame))
    refine Free.cw_nil ?_
    go_wp2
    obtain ⟨g1, g2⟩ := sc12 (.int .i64 s0) (.int .i64 s1) (.int .i64 s2) (.int .u64 s3) (.int .i64 s4) (.int .i64 s5) (.slice s6 s7 s8) (.slice s9 s10 s11) (.int .i64 s12) (.slice s13 s14 s15) (.bool s16) (.slice s17 s18 s19) hZ6.out
    obtain ⟨f1, f2⟩ := h.out.fin hkw3.out hk5h.out hR5.out hF5.out hk25.out hT6.out hM6.out g2 ⟨by omega, hZ3⟩ hZ6.out
    refine bodyPost_ret (results_rf rfl _ _ _ _ _ _ _ _ _ _ _ _ _ _ _ _ _ rfl g1) ?_ ?_
    · rfl
    · exact ⟨(⟨s0, s1, s2, s3, s4, s5, (s6, s7, s8), (s9, s10, s11), s12, (s13, s14, s15), s16, (s17, s18, s19)⟩ : RfV), vo', vh', vg, rfl, by rw [hstep.out]; exact f1, f2, fun b hb => (hF5.out b hb).imp id (fun h => Nat.le_trans hkw3.out.size h.1)⟩
  by_cases e4 : ok = 4
  · subst e4
    have hstep : Op3.step ⟨4, oi, on, oa⟩ t = t.queries.1 := by unfold Op3.step; rw [if_neg (by simp), if_pos rfl]
    replace hstep := Lib.hid hstep
    have hkw3 := hkw2
    have hZ3 : w.heap.size + 1 + 1 < W2.heap.size := lt_of_blk hbZ.out
    have hS := hsq.out W2 hkw2.out
    replace hS := Lib.hid hS
    go_wp2_with fail
    refine hS.out.mono ?_
    rintro e w5 ⟨xs, vq, rfl, hR5, hvq, hk5, hF5⟩
    obtain ⟨qa, qc, rfl⟩ := hvq.form
    obtain ⟨QN, hQN⟩ : ∃ n, t.queries.2.length = n := ⟨_, rfl⟩
    rw [hQN] at hvq ⊢
    clear z0 z1 z2 z3 z4 z5 z6 z7 z8 z9 z10 z11 zf zl
    clear r0 r1 r2 r3 r4 r5 r6 r7 r8 r9 r10 rf rl
    clear j0 j1 j2 j3 j4 jf jl
    obtain ⟨s0, s1, s2, s3, s4, s5, ⟨s6, s7, s8⟩, ⟨s9, s10, s11⟩, s12, ⟨s13, s14, s15⟩, s16, ⟨s17, s18, s19⟩⟩ := xs
    simp only [rfV, slv]
    have hk5M := hk5.alloc (.cells #[.int .i64 s0, .int .i64 s1, .int .i64 s2, .int .u64 s3, .int .i64 s4, .int .i64 s5, .slice s6 s7 s8, .slice s9 s10 s11, .int .i64 s12, .slice s13 s14 s15, .bool s16, .slice s17 s18 s19] tR)
    have hbV := heap_alloc_new w5 (.cells #[.int .i64 s0, .int .i64 s1, .int .i64 s2, .int .u64 s3, .int .i64 s4, .int .i64 s5, .slice s6 s7 s8, .slice s9 s10 s11, .int .i64 s12, .slice s13 s14 s15, .bool s16, .slice s17 s18 s19] tR)
    have hk25 := ((Keeps.refl [] w5).alloc (.cells #[.int .i64 s0, .int .i64 s1, .int .i64 s2, .int .u64 s3, .int .i64 s4, .int .i64 s5, .slice s6 s7 s8, .slice s9 s10 s11, .int .i64 s12, .slice s13 s14 s15, .bool s16, .slice s17 s18 s19] tR)).drew
    have hk5h := Lib.hid hk5
    replace hk5M := Lib.hid hk5M
    replace hbV := Lib.hid hbV
    replace hR5 := Lib.hid hR5
    replace hF5 := Lib.hid hF5
    replace hk25 := Lib.hid hk25
    clear hk5

    go_upto_region 15 with fail
    generalize (w5.alloc (.cells #[.int .i64 s0, .int .i64 s1, .int .i64 s2, .int .u64 s3, .int .i64 s4, .int .i64 s5, .slice s6 s7 s8, .slice s9 s10 s11, .int .i64 s12, .slice s13 s14 s15, .bool s16, .slice s17 s18 s19] tR)) = W5 at *
    obtain ⟨XV, hXV⟩ : ∃ X, w5.heap.size = X := ⟨_, rfl⟩
    rw [hXV] at hbV ⊢
    have hkd := Lib.hid hk5M.out.drew
    have hbVd : W5.drew.heap[XV]? = _ := hbV.out
    have hZd : W5.drew.heap[w.heap.size + 1 + 1]? = _ := (hk5M.out.block _ hZ3 (by simp)).trans hbZ.out

    have hsV : w.heap.size + 1 + 1 < XV := by have := hk5h.out.size; omega
    have hZl := lt_of_blk hZd
    replace hXV := Lib.hid hXV
    replace hbVd := Lib.hid hbVd
    replace hZd := Lib.hid hZd
    have hprog := hpq.out W5.drew (hkw2.out.trans hkd.out)
    replace hvq := Lib.hid (hvq.keeps hk25.out)
    have hQl : ∀ b, (Value.slice qa QN qc).ownBlock = some b → ∃ (cs : Array Value), W5.drew.heap[b]? = some (Obj.cells cs tN (0, 0)) := hvq.out.tag
    replace hQN := Lib.hid hQN
    replace hQl := Lib.hid hQl
    replace hprog := Lib.hid hprog
    clear hbV hk5M
    obtain ⟨m0, m1, m2, m3, m4, m5, m6, m7, m8, m9, m10, m11, mf, ml⟩ := cl12 hbVd.out
    refine Free.wp_region_chain (fun i => i == 2 || i == 4 || i == 5) (fun i => true) (fun _ b => b < w.heap.size ∨ b = w.heap.size + 1 + 1) (by kernel_rfl) (by kernel_rfl) (by kernel_rfl) ?_
    generalize W5.drew = wd at *
    (repeat (first | (apply Free.cw_pure rfl rfl; (intro w'; go_simp <;> exact rfl); go_frame) | (apply Free.cw_steady rfl rfl rfl; (intro w' hS; have q0 := Free.sx_cell hS m0 (fun _ _ hT => by rcases hT with hT | hT <;> omega); have q1 := Free.sx_cell hS m1 (fun _ _ hT => by rcases hT with hT | hT <;> omega); have q2 := Free.sx_cell hS m2 (fun _ _ hT => by rcases hT with hT | hT <;> omega); have q3 := Free.sx_cell hS m3 (fun _ _ hT => by rcases hT with hT | hT <;> omega); have q4 := Free.sx_cell hS m4 (fun _ _ hT => by rcases hT with hT | hT <;> omega); have q5 := Free.sx_cell hS m5 (fun _ _ hT => by rcases hT with hT | hT <;> omega); have q6 := Free.sx_cell hS m6 (fun _ _ hT => by rcases hT with hT | hT <;> omega); have q7 := Free.sx_cell hS m7 (fun _ _ hT => by rcases hT with hT | hT <;> omega); have q8 := Free.sx_cell hS m8 (fun _ _ hT => by rcases hT with hT | hT <;> omega); have q9 := Free.sx_cell hS m9 (fun _ _ hT => by rcases hT with hT | hT <;> omega); have q10 := Free.sx_cell hS m10 (fun _ _ hT => by rcases hT with hT | hT <;> omega); have q11 := Free.sx_cell hS m11 (fun _ _ hT => by rcases hT with hT | hT <;> omega); go_simp <;> exact rfl); go_frame) | (refine Free.cw_skip rfl ?_; go_frame)))
    refine Free.cw_loud rfl rfl (fun K hK => ?_)
    go_wp2_with fail
    refine hprog.out.mono ?_
    rintro e w6 ⟨v6, rfl, hv6, hT6, hM6⟩
    refine hK _ _ rfl (Free.KeepsP.of hM6.k (fun b hb => .inl (hown.out b hb))) ?_
    clear hK K hprog
    have hZ6 := (hM6.k.block _ hZl (fun hm => by have := hown.out _ hm; omega)).trans hZd.out
    have hvq6 : shT.R w6 (.slice qa QN qc) t.queries.2 := (hvq.out.keepS hM6.k (fun b hb e => by
      obtain ⟨cs, hc⟩ := hQl.out b e
      rcases (hm.out.keeps (hkw2.out.trans hkd.out)).own_tag hb with ⟨_, _, ⟨es, cl, hmm⟩ | ⟨cs', e', hc', he'⟩⟩
      · rw [hc] at hmm; cases hmm
      · rw [hc] at hc'
        cases hc'
        rcases he' with he' | he' | he' | he' <;> exact absurd he' (by decide))).r
    have hsn := sameNeeds_c w6 v6 (.slice qa QN qc) _ _ hv6.r hvq6
    rw [decide_eq_true rfl] at hsn
    replace hsn := Lib.hid hsn
    clear hv6 hvq6
    (repeat (apply Free.cw_pure rfl rfl; (intro w'; go_simp <;> exact rfl); go_frame))
    refine Free.cw_loud rfl rfl (fun K hK => ?_)
    go_wp2_with fail
    refine hsn.out.mono ?_
    rintro e w7 ⟨rfl, hk7⟩
    refine hK _ _ rfl (Free.KeepsP.of hk7 (by simp)) ?_
    clear hK K hsn
    replace hZ6 := (hk7.block _ (lt_of_blk hZ6) (by simp)).trans hZ6
    replace hT6 := hT6.keeps hk7
    replace hM6 := hM6.trans (Mv.nil hk7)
    obtain ⟨v0, v1, v2, v3, v4, v5, v6, v7, v8, v9, v10, v11, vf, vl⟩ := cl12 hZ6
    replace hZ6 := Lib.hid hZ6
    replace hT6 := Lib.hid hT6
    replace hM6 := Lib.hid hM6
    (repeat (apply Free.cw_pure rfl rfl; (intro w'; go_simp <;> exact rfl); go_frame))
    refine Free.cw_loud rfl rfl (fun K hK => ?_)
    go_wp2
    refine hK _ _ rfl (Free.KeepsP.of (sc12 (.int .i64 s0) (.int .i64 s1) (.int .i64 s2) (.int .u64 s3) (.int .i64 s4) (.int .i64 s5) (.slice s6 s7 s8) (.slice s9 s10 s11) (.int .i64 s12) (.slice s13 s14 s15) (.bool s16) (.slice s17 s18 s19) hZ6.out).2 (fun b hb => .inr (by simpa using hb))) ?_
    clear hK K
    (repeat (apply Free.cw_pure rfl rfl; (intro w'; go_simp <;> exact rfl); go_frame))
    refine Free.cw_nil ?_
    go_wp2
    obtain ⟨g1, g2⟩ := sc12 (.int .i64 s0) (.int .i64 s1) (.int .i64 s2) (.int .u64 s3) (.int .i64 s4) (.int .i64 s5) (.slice s6 s7 s8) (.slice s9 s10 s11) (.int .i64 s12) (.slice s13 s14 s15) (.bool s16) (.slice s17 s18 s19) hZ6.out
    obtain ⟨f1, f2⟩ := h.out.fin hkw3.out hk5h.out hR5.out hF5.out hk25.out hT6.out hM6.out g2 ⟨by omega, hZ3⟩ hZ6.out
    refine bodyPost_ret (results_rf rfl _ _ _ _ _ _ _ _ _ _ _ _ _ _ _ _ _ rfl g1) ?_ ?_
    · rfl
    · exact ⟨(⟨s0, s1, s2, s3, s4, s5, (s6, s7, s8), (s9, s10, s11), s12, (s13, s14, s15), s16, (s17, s18, s19)⟩ : RfV), vo, vh, vg, rfl, by rw [hstep.out]; exact f1, f2, fun b hb => (hF5.out b hb).imp id (fun h => Nat.le_trans hkw3.out.size h.1)⟩
  by_cases e5 : ok = 5
  · subst e5
    have hstep : Op3.step ⟨5, oi, on, oa⟩ t = (t.agreeT mm).1 := by unfold Op3.step; rw [if_neg (by simp), if_neg (by simp), if_pos rfl, ← hmm.out]
    replace hstep := Lib.hid hstep
    have hkw3 := hkw2
    have hZ3 : w.heap.size + 1 + 1 < W2.heap.size := lt_of_blk hbZ.out
    have hS := hsa.out W2 hkw2.out mm
    replace hS := Lib.hid hS
    go_wp2_with fail
    refine hS.out.mono ?_
    rintro e w5 ⟨xs, rfl, hR5, hk5, hF5⟩
    clear z0 z1 z2 z3 z4 z5 z6 z7 z8 z9 z10 z11 zf zl
    clear r0 r1 r2 r3 r4 r5 r6 r7 r8 r9 r10 rf rl
    clear j0 j1 j2 j3 j4 jf jl
    obtain ⟨s0, s1, s2, s3, s4, s5, ⟨s6, s7, s8⟩, ⟨s9, s10, s11⟩, s12, ⟨s13, s14, s15⟩, s16, ⟨s17, s18, s19⟩⟩ := xs
    simp only [rfV, slv]
    have hk5M := hk5.alloc (.cells #[.int .i64 s0, .int .i64 s1, .int .i64 s2, .int .u64 s3, .int .i64 s4, .int .i64 s5, .slice s6 s7 s8, .slice s9 s10 s11, .int .i64 s12, .slice s13 s14 s15, .bool s16, .slice s17 s18 s19] tR)
    have hbV := heap_alloc_new w5 (.cells #[.int .i64 s0, .int .i64 s1, .int .i64 s2, .int .u64 s3, .int .i64 s4, .int .i64 s5, .slice s6 s7 s8, .slice s9 s10 s11, .int .i64 s12, .slice s13 s14 s15, .bool s16, .slice s17 s18 s19] tR)
    have hk25 := ((Keeps.refl [] w5).alloc (.cells #[.int .i64 s0, .int .i64 s1, .int .i64 s2, .int .u64 s3, .int .i64 s4, .int .i64 s5, .slice s6 s7 s8, .slice s9 s10 s11, .int .i64 s12, .slice s13 s14 s15, .bool s16, .slice s17 s18 s19] tR)).drew
    have hk5h := Lib.hid hk5
    replace hk5M := Lib.hid hk5M
    replace hbV := Lib.hid hbV
    replace hR5 := Lib.hid hR5
    replace hF5 := Lib.hid hF5
    replace hk25 := Lib.hid hk25
    clear hk5

    go_upto_region 18 with fail
    generalize (w5.alloc (.cells #[.int .i64 s0, .int .i64 s1, .int .i64 s2, .int .u64 s3, .int .i64 s4, .int .i64 s5, .slice s6 s7 s8, .slice s9 s10 s11, .int .i64 s12, .slice s13 s14 s15, .bool s16, .slice s17 s18 s19] tR)) = W5 at *
    obtain ⟨XV, hXV⟩ : ∃ X, w5.heap.size = X := ⟨_, rfl⟩
    rw [hXV] at hbV ⊢
    have hkd := Lib.hid hk5M.out.drew
    have hbVd : W5.drew.heap[XV]? = _ := hbV.out
    have hZd : W5.drew.heap[w.heap.size + 1 + 1]? = _ := (hk5M.out.block _ hZ3 (by simp)).trans hbZ.out

    have hsV : w.heap.size + 1 + 1 < XV := by have := hk5h.out.size; omega
    have hZl := lt_of_blk hZd
    replace hXV := Lib.hid hXV
    replace hbVd := Lib.hid hbVd
    replace hZd := Lib.hid hZd
    have hprog := hpg.out W5.drew (hkw2.out.trans hkd.out) mm
    replace hprog := Lib.hid hprog
    clear hbV hk5M
    obtain ⟨m0, m1, m2, m3, m4, m5, m6, m7, m8, m9, m10, m11, mf, ml⟩ := cl12 hbVd.out
    refine Free.wp_region_chain (fun i => i == 3 || i == 6) (fun i => true) (fun _ b => b < w.heap.size ∨ b = w.heap.size + 1 + 1) (by kernel_rfl) (by kernel_rfl) (by kernel_rfl) ?_
    generalize W5.drew = wd at *
    (repeat (first | (apply Free.cw_pure rfl rfl; (intro w'; go_simp <;> exact rfl); go_frame) | (apply Free.cw_steady rfl rfl rfl; (intro w' hS; have q0 := Free.sx_cell hS m0 (fun _ _ hT => by rcases hT with hT | hT <;> omega); have q1 := Free.sx_cell hS m1 (fun _ _ hT => by rcases hT with hT | hT <;> omega); have q2 := Free.sx_cell hS m2 (fun _ _ hT => by rcases hT with hT | hT <;> omega); have q3 := Free.sx_cell hS m3 (fun _ _ hT => by rcases hT with hT | hT <;> omega); have q4 := Free.sx_cell hS m4 (fun _ _ hT => by rcases hT with hT | hT <;> omega); have q5 := Free.sx_cell hS m5 (fun _ _ hT => by rcases hT with hT | hT <;> omega); have q6 := Free.sx_cell hS m6 (fun _ _ hT => by rcases hT with hT | hT <;> omega); have q7 := Free.sx_cell hS m7 (fun _ _ hT => by rcases hT with hT | hT <;> omega); have q8 := Free.sx_cell hS m8 (fun _ _ hT => by rcases hT with hT | hT <;> omega); have q9 := Free.sx_cell hS m9 (fun _ _ hT => by rcases hT with hT | hT <;> omega); have q10 := Free.sx_cell hS m10 (fun _ _ hT => by rcases hT with hT | hT <;> omega); have q11 := Free.sx_cell hS m11 (fun _ _ hT => by rcases hT with hT | hT <;> omega); go_simp <;> exact rfl); go_frame) | (refine Free.cw_skip rfl ?_; go_frame)))
    refine Free.cw_loud rfl rfl (fun K hK => ?_)
    go_wp2_with fail
    refine hprog.out.mono ?_
    rintro e w6 ⟨vg', rfl, hT6, hM6⟩
    refine hK _ _ rfl (Free.KeepsP.of hM6.k (fun b hb => .inl (hown.out b hb))) ?_
    clear hK K hprog
    have hZ6 := (hM6.k.block _ hZl (fun hm => by have := hown.out _ hm; omega)).trans hZd.out

    obtain ⟨v0, v1, v2, v3, v4, v5, v6, v7, v8, v9, v10, v11, vf, vl⟩ := cl12 hZ6
    replace hZ6 := Lib.hid hZ6
    replace hT6 := Lib.hid hT6
    replace hM6 := Lib.hid hM6
    (repeat (apply Free.cw_pure rfl rfl; (intro w'; go_simp <;> exact rfl); go_frame))
    refine Free.cw_loud rfl rfl (fun K hK => ?_)
    go_wp2
    refine hK _ _ rfl (Free.KeepsP.of (sc12 (.int .i64 s0) (.int .i64 s1) (.int .i64 s2) (.int .u64 s3) (.int .i64 s4) (.int .i64 s5) (.slice s6 s7 s8) (.slice s9 s10 s11) (.int .i64 s12) (.slice s13 s14 s15) (.bool s16) (.slice s17 s18 s19) hZ6.out).2 (fun b hb => .inr (by simpa using hb))) ?_
    clear hK K
    (repeat (apply Free.cw_pure rfl rfl; (intro w'; go_simp <;> exact rfl); go_frame))
    refine Free.cw_nil ?_
    go_wp2
    obtain ⟨g1, g2⟩ := sc12 (.int .i64 s0) (.int .i64 s1) (.int .i64 s2) (.int .u64 s3) (.int .i64 s4) (.int .i64 s5) (.slice s6 s7 s8) (.slice s9 s10 s11) (.int .i64 s12) (.slice s13 s14 s15) (.bool s16) (.slice s17 s18 s19) hZ6.out
    obtain ⟨f1, f2⟩ := h.out.fin hkw3.out hk5h.out hR5.out hF5.out hk25.out hT6.out hM6.out g2 ⟨by omega, hZ3⟩ hZ6.out
    refine bodyPost_ret (results_rf rfl _ _ _ _ _ _ _ _ _ _ _ _ _ _ _ _ _ rfl g1) ?_ ?_
    · rfl
    · exact ⟨(⟨s0, s1, s2, s3, s4, s5, (s6, s7, s8), (s9, s10, s11), s12, (s13, s14, s15), s16, (s17, s18, s19)⟩ : RfV), vo, vh, vg', rfl, by rw [hstep.out]; exact f1, f2, fun b hb => (hF5.out b hb).imp id (fun h => Nat.le_trans hkw3.out.size h.1)⟩
  by_cases e6 : ok = 6
  · subst e6
    have hstep : Op3.step ⟨6, oi, on, oa⟩ t = (t.refuseT mm).1 := by unfold Op3.step; rw [if_neg (by simp), if_neg (by simp), if_neg (by simp), if_pos rfl, ← hmm.out]
    replace hstep := Lib.hid hstep
    have hkw3 := hkw2
    have hZ3 : w.heap.size + 1 + 1 < W2.heap.size := lt_of_blk hbZ.out
    have hS := hsr.out W2 hkw2.out mm
    replace hS := Lib.hid hS
    go_wp2_with fail
    refine hS.out.mono ?_
    rintro e w5 ⟨xs, rfl, hR5, hk5, hF5⟩
    clear z0 z1 z2 z3 z4 z5 z6 z7 z8 z9 z10 z11 zf zl
    clear r0 r1 r2 r3 r4 r5 r6 r7 r8 r9 r10 rf rl
    clear j0 j1 j2 j3 j4 jf jl
    obtain ⟨s0, s1, s2, s3, s4, s5, ⟨s6, s7, s8⟩, ⟨s9, s10, s11⟩, s12, ⟨s13, s14, s15⟩, s16, ⟨s17, s18, s19⟩⟩ := xs
    simp only [rfV, slv]
    have hk5M := hk5.alloc (.cells #[.int .i64 s0, .int .i64 s1, .int .i64 s2, .int .u64 s3, .int .i64 s4, .int .i64 s5, .slice s6 s7 s8, .slice s9 s10 s11, .int .i64 s12, .slice s13 s14 s15, .bool s16, .slice s17 s18 s19] tR)
    have hbV := heap_alloc_new w5 (.cells #[.int .i64 s0, .int .i64 s1, .int .i64 s2, .int .u64 s3, .int .i64 s4, .int .i64 s5, .slice s6 s7 s8, .slice s9 s10 s11, .int .i64 s12, .slice s13 s14 s15, .bool s16, .slice s17 s18 s19] tR)
    have hk25 := ((Keeps.refl [] w5).alloc (.cells #[.int .i64 s0, .int .i64 s1, .int .i64 s2, .int .u64 s3, .int .i64 s4, .int .i64 s5, .slice s6 s7 s8, .slice s9 s10 s11, .int .i64 s12, .slice s13 s14 s15, .bool s16, .slice s17 s18 s19] tR)).drew
    have hk5h := Lib.hid hk5
    replace hk5M := Lib.hid hk5M
    replace hbV := Lib.hid hbV
    replace hR5 := Lib.hid hR5
    replace hF5 := Lib.hid hF5
    replace hk25 := Lib.hid hk25
    clear hk5

    go_upto_region 21 with fail
    generalize (w5.alloc (.cells #[.int .i64 s0, .int .i64 s1, .int .i64 s2, .int .u64 s3, .int .i64 s4, .int .i64 s5, .slice s6 s7 s8, .slice s9 s10 s11, .int .i64 s12, .slice s13 s14 s15, .bool s16, .slice s17 s18 s19] tR)) = W5 at *
    obtain ⟨XV, hXV⟩ : ∃ X, w5.heap.size = X := ⟨_, rfl⟩
    rw [hXV] at hbV ⊢
    have hkd := Lib.hid hk5M.out.drew
    have hbVd : W5.drew.heap[XV]? = _ := hbV.out
    have hZd : W5.drew.heap[w.heap.size + 1 + 1]? = _ := (hk5M.out.block _ hZ3 (by simp)).trans hbZ.out

    have hsV : w.heap.size + 1 + 1 < XV := by have := hk5h.out.size; omega
    have hZl := lt_of_blk hZd
    replace hXV := Lib.hid hXV
    replace hbVd := Lib.hid hbVd
    replace hZd := Lib.hid hZd
    have hprog := hpr.out W5.drew (hkw2.out.trans hkd.out) mm
    replace hprog := Lib.hid hprog
    clear hbV hk5M
    obtain ⟨m0, m1, m2, m3, m4, m5, m6, m7, m8, m9, m10, m11, mf, ml⟩ := cl12 hbVd.out
    refine Free.wp_region_chain (fun i => i == 3 || i == 6) (fun i => true) (fun _ b => b < w.heap.size ∨ b = w.heap.size + 1 + 1) (by kernel_rfl) (by kernel_rfl) (by kernel_rfl) ?_
    generalize W5.drew = wd at *
    (repeat (first | (apply Free.cw_pure rfl rfl; (intro w'; go_simp <;> exact rfl); go_frame) | (apply Free.cw_steady rfl rfl rfl; (intro w' hS; have q0 := Free.sx_cell hS m0 (fun _ _ hT => by rcases hT with hT | hT <;> omega); have q1 := Free.sx_cell hS m1 (fun _ _ hT => by rcases hT with hT | hT <;> omega); have q2 := Free.sx_cell hS m2 (fun _ _ hT => by rcases hT with hT | hT <;> omega); have q3 := Free.sx_cell hS m3 (fun _ _ hT => by rcases hT with hT | hT <;> omega); have q4 := Free.sx_cell hS m4 (fun _ _ hT => by rcases hT with hT | hT <;> omega); have q5 := Free.sx_cell hS m5 (fun _ _ hT => by rcases hT with hT | hT <;> omega); have q6 := Free.sx_cell hS m6 (fun _ _ hT => by rcases hT with hT | hT <;> omega); have q7 := Free.sx_cell hS m7 (fun _ _ hT => by rcases hT with hT | hT <;> omega); have q8 := Free.sx_cell hS m8 (fun _ _ hT => by rcases hT with hT | hT <;> omega); have q9 := Free.sx_cell hS m9 (fun _ _ hT => by rcases hT with hT | hT <;> omega); have q10 := Free.sx_cell hS m10 (fun _ _ hT => by rcases hT with hT | hT <;> omega); have q11 := Free.sx_cell hS m11 (fun _ _ hT => by rcases hT with hT | hT <;> omega); go_simp <;> exact rfl); go_frame) | (refine Free.cw_skip rfl ?_; go_frame)))
    refine Free.cw_loud rfl rfl (fun K hK => ?_)
    go_wp2_with fail
    refine hprog.out.mono ?_
    rintro e w6 ⟨rfl, hT6, hM6⟩
    refine hK _ _ rfl (Free.KeepsP.of hM6.k (fun b hb => .inl (hown.out b hb))) ?_
    clear hK K hprog
    have hZ6 := (hM6.k.block _ hZl (fun hm => by have := hown.out _ hm; omega)).trans hZd.out

    obtain ⟨v0, v1, v2, v3, v4, v5, v6, v7, v8, v9, v10, v11, vf, vl⟩ := cl12 hZ6
    replace hZ6 := Lib.hid hZ6
    replace hT6 := Lib.hid hT6
    replace hM6 := Lib.hid hM6
    (repeat (apply Free.cw_pure rfl rfl; (intro w'; go_simp <;> exact rfl); go_frame))
    refine Free.cw_loud rfl rfl (fun K hK => ?_)
    go_wp2
    refine hK _ _ rfl (Free.KeepsP.of (sc12 (.int .i64 s0) (.int .i64 s1) (.int .i64 s2) (.int .u64 s3) (.int .i64 s4) (.int .i64 s5) (.slice s6 s7 s8) (.slice s9 s10 s11) (.int .i64 s12) (.slice s13 s14 s15) (.bool s16) (.slice s17 s18 s19) hZ6.out).2 (fun b hb => .inr (by simpa using hb))) ?_
    clear hK K
    (repeat (apply Free.cw_pure rfl rfl; (intro w'; go_simp <;> exact rfl); go_frame))
    refine Free.cw_nil ?_
    go_wp2
    obtain ⟨g1, g2⟩ := sc12 (.int .i64 s0) (.int .i64 s1) (.int .i64 s2) (.int .u64 s3) (.int .i64 s4) (.int .i64 s5) (.slice s6 s7 s8) (.slice s9 s10 s11) (.int .i64 s12) (.slice s13 s14 s15) (.bool s16) (.slice s17 s18 s19) hZ6.out
    obtain ⟨f1, f2⟩ := h.out.fin hkw3.out hk5h.out hR5.out hF5.out hk25.out hT6.out hM6.out g2 ⟨by omega, hZ3⟩ hZ6.out
    refine bodyPost_ret (results_rf rfl _ _ _ _ _ _ _ _ _ _ _ _ _ _ _ _ _ rfl g1) ?_ ?_
    · rfl
    · exact ⟨(⟨s0, s1, s2, s3, s4, s5, (s6, s7, s8), (s9, s10, s11), s12, (s13, s14, s15), s16, (s17, s18, s19)⟩ : RfV), vo, vh, vg, rfl, by rw [hstep.out]; exact f1, f2, fun b hb => (hF5.out b hb).imp id (fun h => Nat.le_trans hkw3.out.size h.1)⟩
  have hstep : Op3.step ⟨ok, oi, on, oa⟩ t = t := by unfold Op3.step; rw [if_neg (by simp only; omega), if_neg (by simpa using e4), if_neg (by simpa using e5), if_neg (by simpa using e6)]
  replace hstep := Lib.hid hstep
  go_wp2
  obtain ⟨g1, g2⟩ := sc12 (.int .i64 x0) (.int .i64 x1) (.int .i64 x2) (.int .u64 x3) (.int .i64 x4) (.int .i64 x5) (.slice x6 x7 x8) (.slice x9 x10 x11) (.int .i64 x12) (.slice x13 x14 x15) (.bool x16) (.slice x17 x18 x19) hbZ.out
  have hkf := hkw2.out.fresh g2 (fun b hb => by simp only [List.mem_singleton] at hb; subst hb; exact .inr (by omega))
  refine bodyPost_ret (results_rf rfl _ _ _ _ _ _ _ _ _ _ _ _ _ _ _ _ _ rfl g1) ?_ ?_
  · rfl
  · exact ⟨⟨x0, x1, x2, x3, x4, x5, (x6, x7, x8), (x9, x10, x11), x12, (x13, x14, x15), x16, (x17, x18, x19)⟩, vo, vh, vg, rfl, by rw [hstep.out]; exact h.out.keeps hkf, Mv.nil hkf, fun b hb => .inl hb⟩
end Go.Proofs.Ythfdngjbcgkkfaa

namespace Go.Proofs.Ythfdngjbcgkkfaa
open Go Go.RowKit

theorem eqD0 (w : World) (x0 : Int) (x1 : Int) (y0 : Int) (y1 : Int) : (Op.equalIn 10000 23 (.agg #[.int .i64 x0, .int .i64 x1]) (.agg #[.int .i64 y0, .int .i64 y1])).run Try.prog w = .ok (x0 == y0 && x1 == y1) w := by
  have h1 : Try.prog.underlying 23 = some (.struct (Try.prog.fieldsOf 23)) := by kernel_rfl
  have h2 : Try.prog.stoodInHeld 23 = false := by kernel_rfl
  have h3 : (Try.prog.fieldsOf 23).toList.map (fun f => (f.name != "_", f.type, f.offset)) = [(true, 3, 0), (true, 3, 1)] := by kernel_rfl
  obtain ⟨f0, f1, hf⟩ : ∃ f0 f1, (Try.prog.fieldsOf 23).toList = [f0, f1] := by
    generalize (Try.prog.fieldsOf 23).toList = l at h3
    have hl := congrArg List.length h3
    simp only [List.length_map, List.length_cons, List.length_nil] at hl
    match l, hl with
    | [f0, f1], _ => exact ⟨f0, f1, rfl⟩
  rw [hf] at h3
  simp only [List.map_cons, List.map_nil, List.cons.injEq, Prod.mk.injEq, and_true, bne_iff_ne, ne_eq] at h3
  obtain ⟨⟨n0, t0, o0⟩, n1, t1, o1⟩ := h3
  rw [run_equalIn_agg w 9999 _ _ _ h1 h2, hf]
  have p0 : ∀ (x0 : Int) (x1 : Int) (w : World), (part 3 #[.int .i64 x0, .int .i64 x1] 0).run Try.prog w = .ok (.int .i64 x0) w := fun x0 x1 w => by kernel_rfl
  have p1 : ∀ (x0 : Int) (x1 : Int) (w : World), (part 3 #[.int .i64 x0, .int .i64 x1] 1).run Try.prog w = .ok (.int .i64 x1) w := fun x0 x1 w => by kernel_rfl
  have e_int : ∀ (x y : Int) (w : World), (Op.equalIn 9999 3 (.int .i64 x) (.int .i64 y)).run Try.prog w = .ok (x == y) w := fun x y w => run_equalIn_int w 9998 _ _ _ x y Try.underlying3
  simp only [Op.eqFields, n0, t0, o0, n1, t1, o1, ne_eq, not_false_eq_true, if_true, Sem.run_bind, p0, p1, e_int, Result.andThen]
  cases b0 : (x0 == y0)
  · simp [p0, p1, e_int, b0]
  · cases b1 : (x1 == y1)
    · simp [p0, p1, e_int, b0, b1]
    · simp [p0, p1, e_int, b0, b1]
theorem eqDD (w : World) (a b : Int) : (binOp .eql 23 (.agg #[.int .i64 a, .int .i64 b]) (.agg #[.int .i64 a, .int .i64 b])).run Try.prog w = .ok (.bool true) w := by
  rw [run_eql_struct, eqD0, Result.andThen_ok]
  simp
  try rfl
theorem eqNN (w : World) (a : Int) (b : Nat) (c : Int) : (binOp .eql tN (.agg #[.int .i64 a, .int .u64 b, .int .i64 c]) (.agg #[.int .i64 a, .int .u64 b, .int .i64 c])).run Try.prog w = .ok (.bool true) w := by
  have := eqN w (a, b, c) (a, b, c)
  rw [decide_eq_true rfl] at this
  exact this
theorem ClaimsV.lc {w : World} {t : Tr} {v : Value} (hi : t.Inv) (h : ClaimsV w t v) : LC w v t.clms := by
  unfold Tr.clms
  rcases h with ⟨h1, rfl⟩ | ⟨h1, P, Y, h2, h3, h4⟩
  · rw [h1, if_neg (by decide)]; exact LC.nil w
  · rw [if_pos h1, ← Tr.clm_eq hi h3 h4]; exact h2
set_option maxRecDepth 100000 in
set_option maxHeartbeats 20000000 in
theorem same_c (w : World) (B bt bm : Nat) (vo vh vg : Value) (x : RfV) (t : Tr) (n : Nat) (h : Both w B bt bm vo vh vg x t) (hb : t.Bnd n) (hn : n ≤ 100) :
    Calls Try.prog 25 #[.pointer (some ⟨bt, 0, none⟩), rfV x] w fun e w' => e = .returned (.bool true) ∧ Keeps [] w w' := by
  have hm := h.m
  have hi := hm.inv
  have hr := h.r
  have hqs : t.qs.length ≤ 501 := by have := hb.qs; omega
  have hal : t.ag.length ≤ 100 := by have := hb.ag; omega
  have hag2 : t.state = 1 → ∀ P Y, SortedA t Y → ClaimsP t Y P → t.ag.length < P.length := fun hs P Y hY hP => by rw [Tr.clm_eq hi hY hP]; exact hb.s1 hs
  obtain ⟨j0, j1, j2, j3, j4, j5, j6, j7, -, -, hAg, -⟩ := hr
  obtain ⟨x0, x1, x2, x3, x4, x5, ⟨x6, x7, x8⟩, ⟨x9, x10, x11⟩, x12, ⟨x13, x14, x15⟩, x16, ⟨x17, x18, x19⟩⟩ := x
  obtain ⟨im, is, ⟨s0, s1, s2⟩, qs, told, hist, state, agl, rf⟩ := t
  simp only [slv] at j0 j1 j2 j3 j4 j5 j6 j7 hAg hqs hal hag2
  subst j0 j1 j2 j3 j4 j5 j6 j7
  obtain ⟨_, _, eg, hlg, _, _⟩ := hAg.form
  have hel := fun k hk => hAg.elem (k := k) hk
  obtain ⟨NG, hNG⟩ : ∃ n, agl.length = n := ⟨_, rfl⟩
  rw [hNG] at eg hal
  simp only [Value.slice.injEq] at eg
  obtain ⟨-, eg, -⟩ := eg
  subst x14
  have hc1 := fun (W : World) (hk : Keeps [] w W) => claim_c W B bt bm vo vh vg _ (hm.keeps hk) (by simp only; omega) hag2
  have hc2 := fun (W : World) (hk : Keeps [] w W) => claimR_c W _ _ (h.r.keeps hk) hi (by simp only; omega) hb.s1
  have hc3 := fun (W : World) (hk : Keeps [] w W) => agreed_c W B bt bm vo vh vg _ (hm.keeps hk) (by simp only; omega)
  have hc4 := fun (W : World) (hk : Keeps [] w W) => id_c W B bt bm vo vh vg _ (hm.keeps hk)
  have hc5 := fun (W : World) (hk : Keeps [] w W) => start_c W B bt bm vo vh vg _ (hm.keeps hk)
  have hc6 := fun (W : World) (hk : Keeps [] w W) => state_c W B bt bm vo vh vg _ (hm.keeps hk)
  have hc7 := fun (W : World) (hk : Keeps [] w W) => claimsT_c W B bt bm vo vh vg _ (hm.keeps hk) (by simp only; omega)
  have hc8 := fun (W : World) (hk : Keeps [] w W) => claimsR_c W _ _ (h.r.keeps hk) hi (by simp only; omega) hb.rf
  simp only [rfV, slv, tV, idV] at hc1 hc2 hc3 hc4 hc5 hc6 hc7 hc8 ⊢
  obtain ⟨W, hW⟩ : ∃ W, (w.alloc (.cells #[.int .i64 x0, .int .i64 x1, .int .i64 x2, .int .u64 x3, .int .i64 x4, .int .i64 x5, .slice x6 x7 x8, .slice x9 x10 x11, .int .i64 x12, .slice x13 NG x15, .bool x16, .slice x17 x18 x19] tR)) = W := ⟨_, rfl⟩
  have hbX := heap_alloc_new w (.cells #[.int .i64 x0, .int .i64 x1, .int .i64 x2, .int .u64 x3, .int .i64 x4, .int .i64 x5, .slice x6 x7 x8, .slice x9 x10 x11, .int .i64 x12, .slice x13 NG x15, .bool x16, .slice x17 x18 x19] tR)
  have hkw : Keeps [] w (w.alloc (.cells #[.int .i64 x0, .int .i64 x1, .int .i64 x2, .int .u64 x3, .int .i64 x4, .int .i64 x5, .slice x6 x7 x8, .slice x9 x10 x11, .int .i64 x12, .slice x13 NG x15, .bool x16, .slice x17 x18 x19] tR)) := (Keeps.refl _ _).alloc _
  rw [hW] at hbX hkw
  obtain ⟨XX, hXX⟩ : ∃ b, w.heap.size = b := ⟨_, rfl⟩
  rw [hXX] at hbX
  replace hbX := Lib.hid hbX
  replace hkw := Lib.hid hkw
  replace hW := Lib.hid hW
  replace hel := Lib.hid hel
  replace hNG := Lib.hid hNG
  replace hi := Lib.hid hi
  replace hc1 := Lib.hid hc1
  replace hc2 := Lib.hid hc2
  replace hc3 := Lib.hid hc3
  replace hc4 := Lib.hid hc4
  replace hc5 := Lib.hid hc5
  replace hc6 := Lib.hid hc6
  replace hc7 := Lib.hid hc7
  replace hc8 := Lib.hid hc8
  obtain ⟨z0, z1, z2, z3, z4, z5, z6, z7, z8, z9, z10, z11, zf, zl⟩ := cl12 hbX.out
  clear h hb hm hag2 hAg hlg hqs
  go_enter Try.func25, Try.ntmps25
  go_wp2_with fail
  rw [hW.out]
  try rw [hXX]
  replace hXX := Lib.hid hXX
  refine (hc1.out _ hkw.out).mono ?_
  rintro e w1 ⟨cx, p, rfl, hcr, hk1, hcase⟩
  obtain ⟨c0, c1, ⟨c2, c3, c4⟩, ⟨c5, c6, c7⟩, ⟨c8, c9, c10⟩⟩ := cx
  simp only [clV, slv]
  have hbC := heap_alloc_new w1 (.cells #[.int .i64 c0, .int .i64 c1, .slice c2 c3 c4, .slice c5 c6 c7, .slice c8 c9 c10] tC)
  have hkM := (Keeps.refl [] w1).alloc (.cells #[.int .i64 c0, .int .i64 c1, .slice c2 c3 c4, .slice c5 c6 c7, .slice c8 c9 c10] tC)
  have hkA := hk1.trans hkM
  replace hcr := Lib.hid (hcr.keeps hkM)
  replace hbC := Lib.hid hbC
  replace hcase := Lib.hid hcase
  replace hkA := Lib.hid hkA
  obtain ⟨sb, hsb⟩ : ∃ b, (x5 == 1) = b := ⟨_, rfl⟩
  rw [hsb]
  replace hsb := Lib.hid hsb
  clear hk1 hkM
  go_upto_region 2 with fail
  generalize (w1.alloc (.cells #[.int .i64 c0, .int .i64 c1, .slice c2 c3 c4, .slice c5 c6 c7, .slice c8 c9 c10] tC)) = W1 at *
  obtain ⟨XC, hXC⟩ : ∃ X, w1.heap.size = X := ⟨_, rfl⟩
  rw [hXC] at hbC ⊢
  replace hXC := Lib.hid hXC
  have hk2 := hkA.out
  replace hbX := Lib.hid ((hk2.block _ (lt_of_blk hbX.out) (by simp)).trans hbX.out)
  clear z0 z1 z2 z3 z4 z5 z6 z7 z8 z9 z10 z11 zf zl
  obtain ⟨z0, z1, z2, z3, z4, z5, z6, z7, z8, z9, z10, z11, zf, zl⟩ := cl12 hbX.out
  obtain ⟨j0, j1, j2, j3, j4, jf, jl⟩ := cl5 hbC.out
  replace hkw := Lib.hid (hkw.out.trans hk2)
  clear hk2 hkA
  go_wp2_with fail
  refine (hc2.out _ hkw.out).mono ?_
  rintro e w2 ⟨dx, q, rfl, hdr, hk1, hcase2⟩
  obtain ⟨d0, d1, ⟨d2, d3, d4⟩, ⟨d5, d6, d7⟩, ⟨d8, d9, d10⟩⟩ := dx
  simp only [clV, slv]
  have hbD := heap_alloc_new w2 (.cells #[.int .i64 d0, .int .i64 d1, .slice d2 d3 d4, .slice d5 d6 d7, .slice d8 d9 d10] tC)
  have hkM := (Keeps.refl [] w2).alloc (.cells #[.int .i64 d0, .int .i64 d1, .slice d2 d3 d4, .slice d5 d6 d7, .slice d8 d9 d10] tC)
  have hkA := hk1.trans hkM
  replace hdr := Lib.hid (hdr.keeps hkM)
  replace hbD := Lib.hid hbD
  replace hkA := Lib.hid hkA
  have hpq : p = q := by
    rcases hcase.out with ⟨h1, h2⟩ | ⟨h1, P, Y, h2, h3, h4⟩
    · rcases hcase2 with ⟨g1, g2⟩ | ⟨g1, g2⟩
      · rw [h2, g2]
      · exact absurd g1 h1
    · rcases hcase2 with ⟨g1, g2⟩ | ⟨g1, g2⟩
      · exact absurd h1 g1
      · rw [Tr.clm_eq hi.out h2 h3] at h4
        rw [h4] at g2
        exact Option.some.inj g2
  rw [hsb.out]
  replace hpq := Lib.hid hpq
  clear hk1 hkM hcase hcase2 hc1 hc2
  go_upto_region 3 with fail
  generalize (w2.alloc (.cells #[.int .i64 d0, .int .i64 d1, .slice d2 d3 d4, .slice d5 d6 d7, .slice d8 d9 d10] tC)) = W2 at *
  obtain ⟨XD, hXD⟩ : ∃ X, w2.heap.size = X := ⟨_, rfl⟩
  rw [hXD] at hbD ⊢
  replace hXD := Lib.hid hXD
  have hk2 := hkA.out
  replace hbX := Lib.hid ((hk2.block _ (lt_of_blk hbX.out) (by simp)).trans hbX.out)
  replace hbC := Lib.hid ((hk2.block _ (lt_of_blk hbC.out) (by simp)).trans hbC.out)
  clear z0 z1 z2 z3 z4 z5 z6 z7 z8 z9 z10 z11 zf zl
  clear j0 j1 j2 j3 j4 jf jl
  obtain ⟨z0, z1, z2, z3, z4, z5, z6, z7, z8, z9, z10, z11, zf, zl⟩ := cl12 hbX.out
  obtain ⟨j0, j1, j2, j3, j4, jf, jl⟩ := cl5 hbC.out
  obtain ⟨m0, m1, m2, m3, m4, mf, ml⟩ := cl5 hbD.out
  replace hkw := Lib.hid (hkw.out.trans hk2)
  replace hcr := Lib.hid (hcr.out.keeps hk2)
  clear hk2 hkA
  go_wp2_with fail
  refine (hc3.out _ hkw.out).mono ?_
  rintro e w3 ⟨va, rfl, hO, hk2⟩
  obtain ⟨aa, ac, rfl⟩ := hO.form
  rw [hNG.out]
  have hel2 := fun k hk => hO.r.elem (k := k) hk
  replace hbX := Lib.hid ((hk2.block _ (lt_of_blk hbX.out) (by simp)).trans hbX.out)
  replace hbC := Lib.hid ((hk2.block _ (lt_of_blk hbC.out) (by simp)).trans hbC.out)
  replace hbD := Lib.hid ((hk2.block _ (lt_of_blk hbD.out) (by simp)).trans hbD.out)
  clear z0 z1 z2 z3 z4 z5 z6 z7 z8 z9 z10 z11 zf zl
  clear j0 j1 j2 j3 j4 jf jl
  clear m0 m1 m2 m3 m4 mf ml
  obtain ⟨z0, z1, z2, z3, z4, z5, z6, z7, z8, z9, z10, z11, zf, zl⟩ := cl12 hbX.out
  obtain ⟨j0, j1, j2, j3, j4, jf, jl⟩ := cl5 hbC.out
  obtain ⟨m0, m1, m2, m3, m4, mf, ml⟩ := cl5 hbD.out
  replace hkw := Lib.hid (hkw.out.trans hk2)
  replace hcr := Lib.hid (hcr.out.keeps hk2)
  replace hdr := Lib.hid (hdr.out.keeps hk2)
  have hNGm : NG ≤ 9223372036854775807 := by omega
  replace hel2 := Lib.hid hel2
  clear hk2 hO hc3
  go_wp2
  obtain ⟨W3, hW3⟩ : ∃ y, y = w3 := ⟨_, rfl⟩
  rw [← hW3] at hkw hcr hdr hbX hbC hbD hel2 z0 z1 z2 z3 z4 z5 z6 z7 z8 z9 z10 z11 zf zl j0 j1 j2 j3 j4 jf jl m0 m1 m2 m3 m4 mf ml
  rw [← hW3]
  go_loopw [31] (fun iv wr => ∃ k : Nat, iv = .int .i64 k ∧ k ≤ NG ∧ Hid (Keeps [] W3 wr)) (fun iv _ => NG - (intOf iv).toNat)
  case atStart => exact ⟨0, rfl, by omega, Lib.hid (Keeps.refl _ _)⟩
  case round =>
    obtain ⟨k, rfl, hk, hkr⟩ := hrel
    have hk2 := hkr.out
    replace hbX := Lib.hid ((hk2.block _ (lt_of_blk hbX.out) (by simp)).trans hbX.out)
    replace hbC := Lib.hid ((hk2.block _ (lt_of_blk hbC.out) (by simp)).trans hbC.out)
    replace hbD := Lib.hid ((hk2.block _ (lt_of_blk hbD.out) (by simp)).trans hbD.out)
    clear z0 z1 z2 z3 z4 z5 z6 z7 z8 z9 z10 z11 zf zl
    clear j0 j1 j2 j3 j4 jf jl
    clear m0 m1 m2 m3 m4 mf ml
    obtain ⟨z0, z1, z2, z3, z4, z5, z6, z7, z8, z9, z10, z11, zf, zl⟩ := cl12 hbX.out
    obtain ⟨j0, j1, j2, j3, j4, jf, jl⟩ := cl5 hbC.out
    obtain ⟨m0, m1, m2, m3, m4, mf, ml⟩ := cl5 hbD.out
    replace hkw := Lib.hid (hkw.out.trans hk2)
    replace hcr := Lib.hid (hcr.out.keeps hk2)
    replace hdr := Lib.hid (hdr.out.keeps hk2)
    by_cases hlt : k < NG
    · have hlt2 : (k : Int) < NG := by omega
      have hkL : k < agl.length := by rw [hNG.out]; exact hlt
      obtain ⟨g, o, c', hv, he⟩ := hel.out k hkL
      obtain ⟨g2, o2, c2', hv2, he2⟩ := hel2.out k hkL
      rw [hNG.out] at hv hv2
      cases hv
      cases hv2
      obtain ⟨y, hy⟩ : ∃ y, agl[k] = y := ⟨_, rfl⟩
      rw [hy] at he he2
      have e0 := hkw.out.val (he 0 _ rfl)
      have e1 := hk2.val (he2 0 _ rfl)
      simp only [shZ, Nat.add_zero, Nat.mul_one] at e0 e1
      have hyy : (y != y) = false := by simp
      replace hy := Lib.hid hy
      clear he he2 hk2
      go_wp2
      (refine wp_region_quiet_lit (by kernel_rfl) (by kernel_rfl) ?_; (repeat (first | go_big_quiet_step (fail) | quiet_step (fail))); with_reducible refine wpQuiet_nil ?_; intro _ hw'; obtain ⟨nq, hw''⟩ := hw'; subst hw'')
      go_wp2
      go_roundw
      case rel => exact ⟨k + 1, rfl, by omega, Lib.hid (hkr.out.drewN _)⟩
      case measure => simp [intOf]; omega
    · have hlt2 : ¬ ((k : Int) < NG) := by omega
      clear hk2 hkr hel hel2
      go_upto_region 12 with fail
      generalize hwd0 : wr.drew = wd
      have hkd : Keeps [] wr wd := by rw [← hwd0]; exact (Keeps.refl [] wr).drew
      replace hbX := Lib.hid ((hkd.block _ (lt_of_blk hbX.out) (by simp)).trans hbX.out)
      replace hbC := Lib.hid ((hkd.block _ (lt_of_blk hbC.out) (by simp)).trans hbC.out)
      replace hbD := Lib.hid ((hkd.block _ (lt_of_blk hbD.out) (by simp)).trans hbD.out)
      clear z0 z1 z2 z3 z4 z5 z6 z7 z8 z9 z10 z11 zf zl
      clear j0 j1 j2 j3 j4 jf jl
      clear m0 m1 m2 m3 m4 mf ml
      obtain ⟨z0, z1, z2, z3, z4, z5, z6, z7, z8, z9, z10, z11, zf, zl⟩ := cl12 hbX.out
      obtain ⟨j0, j1, j2, j3, j4, jf, jl⟩ := cl5 hbC.out
      obtain ⟨m0, m1, m2, m3, m4, mf, ml⟩ := cl5 hbD.out
      have hkC := Lib.hid (hkw.out.trans hkd)
      have hcrd := Lib.hid (hcr.out.keeps hkd)
      have hdrd := Lib.hid (hdr.out.keeps hkd)
      replace hwd0 := Lib.hid hwd0
      clear hkw hcr hdr hkd
      have hqD := fun W => eqDD W x0 x1
      have hqN := fun W => eqNN W x2 x3 x4
      have hbb : (sb == sb) = true := by simp
      refine Free.wp_region_chain (fun i => i == 1 || i == 7 || i == 14 || i == 27 || i == 31 || i == 33 || i == 34) (fun i => true) (fun _ _ => False) (by kernel_rfl) (by kernel_rfl) (by kernel_rfl) ?_
      rw [hwd0.out]
      (repeat (first | (apply Free.cw_pureW rfl rfl; (intro w'; go_simp <;> exact rfl); go_frame) | (apply Free.cw_steadyW rfl rfl rfl; (intro w' hS; have q0 := Free.sx_cell hS z0 (fun _ _ hT => hT); have q1 := Free.sx_cell hS z1 (fun _ _ hT => hT); have q2 := Free.sx_cell hS z2 (fun _ _ hT => hT); have q3 := Free.sx_cell hS z3 (fun _ _ hT => hT); have q4 := Free.sx_cell hS z4 (fun _ _ hT => hT); have q5 := Free.sx_cell hS z5 (fun _ _ hT => hT); have q6 := Free.sx_cell hS z6 (fun _ _ hT => hT); have q7 := Free.sx_cell hS z7 (fun _ _ hT => hT); have q8 := Free.sx_cell hS z8 (fun _ _ hT => hT); have q9 := Free.sx_cell hS z9 (fun _ _ hT => hT); have q10 := Free.sx_cell hS z10 (fun _ _ hT => hT); have q11 := Free.sx_cell hS z11 (fun _ _ hT => hT); have q12 := Free.sx_cell hS j0 (fun _ _ hT => hT); have q13 := Free.sx_cell hS j1 (fun _ _ hT => hT); have q14 := Free.sx_cell hS j2 (fun _ _ hT => hT); have q15 := Free.sx_cell hS j3 (fun _ _ hT => hT); have q16 := Free.sx_cell hS j4 (fun _ _ hT => hT); have q17 := Free.sx_cell hS m0 (fun _ _ hT => hT); have q18 := Free.sx_cell hS m1 (fun _ _ hT => hT); have q19 := Free.sx_cell hS m2 (fun _ _ hT => hT); have q20 := Free.sx_cell hS m3 (fun _ _ hT => hT); have q21 := Free.sx_cell hS m4 (fun _ _ hT => hT); go_simp <;> exact rfl); go_frame) | (refine Free.cw_skip rfl ?_; go_frame)))
      refine Free.cw_loudW rfl rfl (fun K hK => ?_)
      go_wp2_with fail
      refine (hc4.out _ hkC.out).mono ?_
      rintro e w4 ⟨rfl, hk2⟩
      refine hK _ _ rfl (Free.KeepsP.of hk2 (by simp)) ?_
      clear hK K
      replace hkC := Lib.hid (hkC.out.trans hk2)
      replace hcrd := Lib.hid (hcrd.out.keeps hk2)
      replace hdrd := Lib.hid (hdrd.out.keeps hk2)
      clear hk2
      (repeat (first | (apply Free.cw_pureW rfl rfl; (intro w'; go_simp <;> exact rfl); go_frame) | (apply Free.cw_steadyW rfl rfl rfl; (intro w' hS; have q0 := Free.sx_cell hS z0 (fun _ _ hT => hT); have q1 := Free.sx_cell hS z1 (fun _ _ hT => hT); have q2 := Free.sx_cell hS z2 (fun _ _ hT => hT); have q3 := Free.sx_cell hS z3 (fun _ _ hT => hT); have q4 := Free.sx_cell hS z4 (fun _ _ hT => hT); have q5 := Free.sx_cell hS z5 (fun _ _ hT => hT); have q6 := Free.sx_cell hS z6 (fun _ _ hT => hT); have q7 := Free.sx_cell hS z7 (fun _ _ hT => hT); have q8 := Free.sx_cell hS z8 (fun _ _ hT => hT); have q9 := Free.sx_cell hS z9 (fun _ _ hT => hT); have q10 := Free.sx_cell hS z10 (fun _ _ hT => hT); have q11 := Free.sx_cell hS z11 (fun _ _ hT => hT); have q12 := Free.sx_cell hS j0 (fun _ _ hT => hT); have q13 := Free.sx_cell hS j1 (fun _ _ hT => hT); have q14 := Free.sx_cell hS j2 (fun _ _ hT => hT); have q15 := Free.sx_cell hS j3 (fun _ _ hT => hT); have q16 := Free.sx_cell hS j4 (fun _ _ hT => hT); have q17 := Free.sx_cell hS m0 (fun _ _ hT => hT); have q18 := Free.sx_cell hS m1 (fun _ _ hT => hT); have q19 := Free.sx_cell hS m2 (fun _ _ hT => hT); have q20 := Free.sx_cell hS m3 (fun _ _ hT => hT); have q21 := Free.sx_cell hS m4 (fun _ _ hT => hT); go_simp <;> exact rfl); go_frame) | (refine Free.cw_skip rfl ?_; go_frame)))
      refine Free.cw_loudW rfl rfl (fun K hK => ?_)
      go_wp2_with fail
      refine (hc5.out _ hkC.out).mono ?_
      rintro e w5 ⟨rfl, hk2⟩
      refine hK _ _ rfl (Free.KeepsP.of hk2 (by simp)) ?_
      clear hK K
      replace hkC := Lib.hid (hkC.out.trans hk2)
      replace hcrd := Lib.hid (hcrd.out.keeps hk2)
      replace hdrd := Lib.hid (hdrd.out.keeps hk2)
      clear hk2
      (repeat (first | (apply Free.cw_pureW rfl rfl; (intro w'; go_simp <;> exact rfl); go_frame) | (apply Free.cw_steadyW rfl rfl rfl; (intro w' hS; have q0 := Free.sx_cell hS z0 (fun _ _ hT => hT); have q1 := Free.sx_cell hS z1 (fun _ _ hT => hT); have q2 := Free.sx_cell hS z2 (fun _ _ hT => hT); have q3 := Free.sx_cell hS z3 (fun _ _ hT => hT); have q4 := Free.sx_cell hS z4 (fun _ _ hT => hT); have q5 := Free.sx_cell hS z5 (fun _ _ hT => hT); have q6 := Free.sx_cell hS z6 (fun _ _ hT => hT); have q7 := Free.sx_cell hS z7 (fun _ _ hT => hT); have q8 := Free.sx_cell hS z8 (fun _ _ hT => hT); have q9 := Free.sx_cell hS z9 (fun _ _ hT => hT); have q10 := Free.sx_cell hS z10 (fun _ _ hT => hT); have q11 := Free.sx_cell hS z11 (fun _ _ hT => hT); have q12 := Free.sx_cell hS j0 (fun _ _ hT => hT); have q13 := Free.sx_cell hS j1 (fun _ _ hT => hT); have q14 := Free.sx_cell hS j2 (fun _ _ hT => hT); have q15 := Free.sx_cell hS j3 (fun _ _ hT => hT); have q16 := Free.sx_cell hS j4 (fun _ _ hT => hT); have q17 := Free.sx_cell hS m0 (fun _ _ hT => hT); have q18 := Free.sx_cell hS m1 (fun _ _ hT => hT); have q19 := Free.sx_cell hS m2 (fun _ _ hT => hT); have q20 := Free.sx_cell hS m3 (fun _ _ hT => hT); have q21 := Free.sx_cell hS m4 (fun _ _ hT => hT); go_simp <;> exact rfl); go_frame) | (refine Free.cw_skip rfl ?_; go_frame)))
      refine Free.cw_loudW rfl rfl (fun K hK => ?_)
      go_wp2_with fail
      refine (hc6.out _ hkC.out).mono ?_
      rintro e w6 ⟨rfl, hw⟩
      subst hw
      refine hK _ _ rfl (Free.KeepsP.refl _ _) ?_
      clear hK K
      (repeat (first | (apply Free.cw_pureW rfl rfl; (intro w'; go_simp <;> exact rfl); go_frame) | (apply Free.cw_steadyW rfl rfl rfl; (intro w' hS; have q0 := Free.sx_cell hS z0 (fun _ _ hT => hT); have q1 := Free.sx_cell hS z1 (fun _ _ hT => hT); have q2 := Free.sx_cell hS z2 (fun _ _ hT => hT); have q3 := Free.sx_cell hS z3 (fun _ _ hT => hT); have q4 := Free.sx_cell hS z4 (fun _ _ hT => hT); have q5 := Free.sx_cell hS z5 (fun _ _ hT => hT); have q6 := Free.sx_cell hS z6 (fun _ _ hT => hT); have q7 := Free.sx_cell hS z7 (fun _ _ hT => hT); have q8 := Free.sx_cell hS z8 (fun _ _ hT => hT); have q9 := Free.sx_cell hS z9 (fun _ _ hT => hT); have q10 := Free.sx_cell hS z10 (fun _ _ hT => hT); have q11 := Free.sx_cell hS z11 (fun _ _ hT => hT); have q12 := Free.sx_cell hS j0 (fun _ _ hT => hT); have q13 := Free.sx_cell hS j1 (fun _ _ hT => hT); have q14 := Free.sx_cell hS j2 (fun _ _ hT => hT); have q15 := Free.sx_cell hS j3 (fun _ _ hT => hT); have q16 := Free.sx_cell hS j4 (fun _ _ hT => hT); have q17 := Free.sx_cell hS m0 (fun _ _ hT => hT); have q18 := Free.sx_cell hS m1 (fun _ _ hT => hT); have q19 := Free.sx_cell hS m2 (fun _ _ hT => hT); have q20 := Free.sx_cell hS m3 (fun _ _ hT => hT); have q21 := Free.sx_cell hS m4 (fun _ _ hT => hT); go_simp <;> exact rfl); go_frame) | (refine Free.cw_skip rfl ?_; go_frame)))
      have hsc := sameClaim_c w5 _ _ p q hcrd.out hdrd.out
      rw [decide_eq_true hpq.out] at hsc
      simp only [clV, slv] at hsc
      replace hsc := Lib.hid hsc
      refine Free.cw_loudW rfl rfl (fun K hK => ?_)
      go_wp2_with fail
      refine hsc.out.mono ?_
      rintro e w7 ⟨rfl, hk2⟩
      refine hK _ _ rfl (Free.KeepsP.of hk2 (by simp)) ?_
      clear hK K hsc
      replace hkC := Lib.hid (hkC.out.trans hk2)
      clear hk2 hcrd hdrd
      (repeat (first | (apply Free.cw_pureW rfl rfl; (intro w'; go_simp <;> exact rfl); go_frame) | (apply Free.cw_steadyW rfl rfl rfl; (intro w' hS; have q0 := Free.sx_cell hS z0 (fun _ _ hT => hT); have q1 := Free.sx_cell hS z1 (fun _ _ hT => hT); have q2 := Free.sx_cell hS z2 (fun _ _ hT => hT); have q3 := Free.sx_cell hS z3 (fun _ _ hT => hT); have q4 := Free.sx_cell hS z4 (fun _ _ hT => hT); have q5 := Free.sx_cell hS z5 (fun _ _ hT => hT); have q6 := Free.sx_cell hS z6 (fun _ _ hT => hT); have q7 := Free.sx_cell hS z7 (fun _ _ hT => hT); have q8 := Free.sx_cell hS z8 (fun _ _ hT => hT); have q9 := Free.sx_cell hS z9 (fun _ _ hT => hT); have q10 := Free.sx_cell hS z10 (fun _ _ hT => hT); have q11 := Free.sx_cell hS z11 (fun _ _ hT => hT); have q12 := Free.sx_cell hS j0 (fun _ _ hT => hT); have q13 := Free.sx_cell hS j1 (fun _ _ hT => hT); have q14 := Free.sx_cell hS j2 (fun _ _ hT => hT); have q15 := Free.sx_cell hS j3 (fun _ _ hT => hT); have q16 := Free.sx_cell hS j4 (fun _ _ hT => hT); have q17 := Free.sx_cell hS m0 (fun _ _ hT => hT); have q18 := Free.sx_cell hS m1 (fun _ _ hT => hT); have q19 := Free.sx_cell hS m2 (fun _ _ hT => hT); have q20 := Free.sx_cell hS m3 (fun _ _ hT => hT); have q21 := Free.sx_cell hS m4 (fun _ _ hT => hT); go_simp <;> exact rfl); go_frame) | (refine Free.cw_skip rfl ?_; go_frame)))
      refine Free.cw_loudW rfl rfl (fun K hK => ?_)
      go_wp2_with fail
      refine (hc7.out _ hkC.out).mono ?_
      rintro e w8 ⟨v8, rfl, hV8, hk2⟩
      refine hK _ _ rfl (Free.KeepsP.of hk2 (by simp)) ?_
      clear hK K
      replace hkC := Lib.hid (hkC.out.trans hk2)
      have hL8 := hV8.lc hi.out
      replace hL8 := Lib.hid hL8
      clear hk2 hV8
      (repeat (first | (apply Free.cw_pureW rfl rfl; (intro w'; go_simp <;> exact rfl); go_frame) | (apply Free.cw_steadyW rfl rfl rfl; (intro w' hS; have q0 := Free.sx_cell hS z0 (fun _ _ hT => hT); have q1 := Free.sx_cell hS z1 (fun _ _ hT => hT); have q2 := Free.sx_cell hS z2 (fun _ _ hT => hT); have q3 := Free.sx_cell hS z3 (fun _ _ hT => hT); have q4 := Free.sx_cell hS z4 (fun _ _ hT => hT); have q5 := Free.sx_cell hS z5 (fun _ _ hT => hT); have q6 := Free.sx_cell hS z6 (fun _ _ hT => hT); have q7 := Free.sx_cell hS z7 (fun _ _ hT => hT); have q8 := Free.sx_cell hS z8 (fun _ _ hT => hT); have q9 := Free.sx_cell hS z9 (fun _ _ hT => hT); have q10 := Free.sx_cell hS z10 (fun _ _ hT => hT); have q11 := Free.sx_cell hS z11 (fun _ _ hT => hT); have q12 := Free.sx_cell hS j0 (fun _ _ hT => hT); have q13 := Free.sx_cell hS j1 (fun _ _ hT => hT); have q14 := Free.sx_cell hS j2 (fun _ _ hT => hT); have q15 := Free.sx_cell hS j3 (fun _ _ hT => hT); have q16 := Free.sx_cell hS j4 (fun _ _ hT => hT); have q17 := Free.sx_cell hS m0 (fun _ _ hT => hT); have q18 := Free.sx_cell hS m1 (fun _ _ hT => hT); have q19 := Free.sx_cell hS m2 (fun _ _ hT => hT); have q20 := Free.sx_cell hS m3 (fun _ _ hT => hT); have q21 := Free.sx_cell hS m4 (fun _ _ hT => hT); go_simp <;> exact rfl); go_frame) | (refine Free.cw_skip rfl ?_; go_frame)))
      refine Free.cw_loudW rfl rfl (fun K hK => ?_)
      go_wp2_with fail
      refine (hc8.out _ hkC.out).mono ?_
      rintro e w9 ⟨v9, rfl, hL9, hk2⟩
      refine hK _ _ rfl (Free.KeepsP.of hk2 (by simp)) ?_
      clear hK K
      replace hkC := Lib.hid (hkC.out.trans hk2)
      have hsc := sameClaims_c w9 v8 v9 _ _ (hL8.out.keeps hk2) hL9
      rw [decide_eq_true rfl] at hsc
      replace hsc := Lib.hid hsc
      clear hk2 hL9
      (repeat (first | (apply Free.cw_pureW rfl rfl; (intro w'; go_simp <;> exact rfl); go_frame) | (apply Free.cw_steadyW rfl rfl rfl; (intro w' hS; have q0 := Free.sx_cell hS z0 (fun _ _ hT => hT); have q1 := Free.sx_cell hS z1 (fun _ _ hT => hT); have q2 := Free.sx_cell hS z2 (fun _ _ hT => hT); have q3 := Free.sx_cell hS z3 (fun _ _ hT => hT); have q4 := Free.sx_cell hS z4 (fun _ _ hT => hT); have q5 := Free.sx_cell hS z5 (fun _ _ hT => hT); have q6 := Free.sx_cell hS z6 (fun _ _ hT => hT); have q7 := Free.sx_cell hS z7 (fun _ _ hT => hT); have q8 := Free.sx_cell hS z8 (fun _ _ hT => hT); have q9 := Free.sx_cell hS z9 (fun _ _ hT => hT); have q10 := Free.sx_cell hS z10 (fun _ _ hT => hT); have q11 := Free.sx_cell hS z11 (fun _ _ hT => hT); have q12 := Free.sx_cell hS j0 (fun _ _ hT => hT); have q13 := Free.sx_cell hS j1 (fun _ _ hT => hT); have q14 := Free.sx_cell hS j2 (fun _ _ hT => hT); have q15 := Free.sx_cell hS j3 (fun _ _ hT => hT); have q16 := Free.sx_cell hS j4 (fun _ _ hT => hT); have q17 := Free.sx_cell hS m0 (fun _ _ hT => hT); have q18 := Free.sx_cell hS m1 (fun _ _ hT => hT); have q19 := Free.sx_cell hS m2 (fun _ _ hT => hT); have q20 := Free.sx_cell hS m3 (fun _ _ hT => hT); have q21 := Free.sx_cell hS m4 (fun _ _ hT => hT); go_simp <;> exact rfl); go_frame) | (refine Free.cw_skip rfl ?_; go_frame)))
      refine Free.cw_loudW rfl rfl (fun K hK => ?_)
      go_wp2_with fail
      refine hsc.out.mono ?_
      rintro e w10 ⟨rfl, hk2⟩
      refine hK _ _ rfl (Free.KeepsP.of hk2 (by simp)) ?_
      clear hK K hsc
      replace hkC := Lib.hid (hkC.out.trans hk2)
      clear hk2
      (repeat (first | (apply Free.cw_pureW rfl rfl; (intro w'; go_simp <;> exact rfl); go_frame) | (apply Free.cw_steadyW rfl rfl rfl; (intro w' hS; have q0 := Free.sx_cell hS z0 (fun _ _ hT => hT); have q1 := Free.sx_cell hS z1 (fun _ _ hT => hT); have q2 := Free.sx_cell hS z2 (fun _ _ hT => hT); have q3 := Free.sx_cell hS z3 (fun _ _ hT => hT); have q4 := Free.sx_cell hS z4 (fun _ _ hT => hT); have q5 := Free.sx_cell hS z5 (fun _ _ hT => hT); have q6 := Free.sx_cell hS z6 (fun _ _ hT => hT); have q7 := Free.sx_cell hS z7 (fun _ _ hT => hT); have q8 := Free.sx_cell hS z8 (fun _ _ hT => hT); have q9 := Free.sx_cell hS z9 (fun _ _ hT => hT); have q10 := Free.sx_cell hS z10 (fun _ _ hT => hT); have q11 := Free.sx_cell hS z11 (fun _ _ hT => hT); have q12 := Free.sx_cell hS j0 (fun _ _ hT => hT); have q13 := Free.sx_cell hS j1 (fun _ _ hT => hT); have q14 := Free.sx_cell hS j2 (fun _ _ hT => hT); have q15 := Free.sx_cell hS j3 (fun _ _ hT => hT); have q16 := Free.sx_cell hS j4 (fun _ _ hT => hT); have q17 := Free.sx_cell hS m0 (fun _ _ hT => hT); have q18 := Free.sx_cell hS m1 (fun _ _ hT => hT); have q19 := Free.sx_cell hS m2 (fun _ _ hT => hT); have q20 := Free.sx_cell hS m3 (fun _ _ hT => hT); have q21 := Free.sx_cell hS m4 (fun _ _ hT => hT); go_simp <;> exact rfl); go_frame) | (refine Free.cw_skip rfl ?_; go_frame)))
      refine Free.cw_nil ?_
      go_wp2
      go_ret
      exact ⟨rfl, hkC.out⟩
end Go.Proofs.Ythfdngjbcgkkfaa

namespace Go.Proofs.Ythfdngjbcgkkfaa
open Go Go.RowKit

def fewB (L : List Op3) : Bool := L.all (fun o => decide (o.a.ins.length ≤ 5)) && decide (L.length ≤ 30)
set_option maxRecDepth 100000 in
set_option maxHeartbeats 4000000 in
theorem few_c (w : World) (v0 : Value) (L : List Op3) (h : LO w v0 L) :
    Calls Try.prog 17 #[v0] w fun e w' => e = .returned (.bool (fewB L)) ∧ Keeps [] w w' := by
  obtain ⟨a0, c0, rfl, hlc, hcm, _⟩ := Gen.SlR.form h
  obtain ⟨M, hM⟩ : ∃ n, L.length = n := ⟨_, rfl⟩
  rw [hM] at hlc h ⊢
  have hMx : M ≤ 9223372036854775807 := by unfold Go.maxLen at hcm; omega
  replace hM := Lib.hid hM
  replace h := Lib.hid h
  go_enter Try.func17, Try.ntmps17
  go_wp2
  go_loopw [3] (fun iv wr => ∃ k : Nat, iv = .int .i64 k ∧ k ≤ M ∧ Hid (∀ j (hj : j < L.length), j < k → L[j].a.ins.length ≤ 5) ∧ Hid (Keeps [] w wr)) (fun iv _ => M - (intOf iv).toNat)
  case atStart => exact ⟨0, rfl, by omega, Lib.hid (fun _ _ h => by omega), Lib.hid (Keeps.refl _ _)⟩
  case round =>
    obtain ⟨k, rfl, hk, hno, hkw⟩ := hrel
    by_cases hlt : k < M
    · have hk2 : k < L.length := by rw [hM.out]; exact hlt
      have hlt2 : (k : Int) < M := by omega
      obtain ⟨g, o, d, x, hv, hI, hF, e0, e1, e2, e3, e4, e5, e6, e7, e8, e9, e10⟩ := (h.out.keeps hkw.out).elem hk2
      rw [hM.out] at hv
      cases hv
      obtain ⟨a1, c1, hv1, _⟩ := hI.ins.form
      obtain ⟨N1, hN1⟩ : ∃ n, L[k].a.ins.length = n := ⟨_, rfl⟩
      rw [hv1, hN1] at e10
      have hgl := lt_of_cell e10
      replace hN1 := Lib.hid hN1
      clear hI hF e0 e1 e2 e3 e4 e5 e6 e7 e8 e9 hv1
      by_cases h5 : 5 < N1
      · have h52 : (5 : Int) < N1 := by omega
        have hfalse : fewB L = false := by
          unfold fewB
          rw [Bool.and_eq_false_iff]
          left
          rw [List.all_eq_false]
          exact ⟨L[k], List.getElem_mem hk2, by simp; have := hN1.out; omega⟩
        replace hfalse := Lib.hid hfalse
        go_wp2
        go_ret
        exact ⟨by rw [hfalse.out]; rfl, hkw.out⟩
      · have h52 : decide ((5 : Int) < N1) = false := by simp; omega
        have hno2 : Hid (∀ j (hj : j < L.length), j < k + 1 → L[j].a.ins.length ≤ 5) := Lib.hid (fun j hj hl => by
          by_cases e : j = k
          · subst e; have := hN1.out; omega
          · exact hno.out j hj (by omega))
        go_wp2
        go_roundw
        case rel => exact ⟨k + 1, rfl, by omega, hno2, hkw⟩
        case measure => simp [intOf]; omega
    · have hkM : k = M := by omega
      have hlt2 : decide ((k : Int) < M) = false := by simp; omega
      have hfb : fewB L = decide ((M : Int) ≤ 30) := by
        unfold fewB
        have h1 : (L.all fun o => decide (o.a.ins.length ≤ 5)) = true := by
          rw [List.all_eq_true]
          intro o ho
          obtain ⟨j, hj, rfl⟩ := List.mem_iff_getElem.1 ho
          exact decide_eq_true (hno.out j hj (by rw [hM.out] at hj; omega))
        rw [h1, Bool.true_and, hM.out]
        simp
        omega
      replace hkM := Lib.hid hkM
      replace hfb := Lib.hid hfb
      clear hno
      go_wp2
      go_ret
      exact ⟨by rw [hfb.out]; rfl, hkw.out⟩
end Go.Proofs.Ythfdngjbcgkkfaa
