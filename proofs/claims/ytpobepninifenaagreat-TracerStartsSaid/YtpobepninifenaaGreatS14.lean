/- Texts that the laws lean on, in the order in which they build. The law's step: what is done to an active trace. (Printed by mkuod.py.) A trace that is answered out of a table: what a round leaves in memory. A law's loop over operations: what is carried from round to round. The law's step, whole. The law's same. (Printed by mkuose.py.) -/
import Derived.Test.YtpobepninifenaaGreatS13
set_option linter.unusedVariables false
set_option linter.unusedSimpArgs false
namespace Go.Proofs.YtpobepninifenaaGreat
open Go Go.RowKit

theorem TcM.setA {w w' : World} {B bp bm : Nat} {vc : Value} {A : List AT} {T : Tc} (h : TcM w B bp bm vc A T) {i : Nat} (hi : i < A.length) {a : AT} (ha : A[i] = a) {u : Tr} {vo' vh' vg' : Value} (hT : TrM w' B a.bt a.bm vo' vh' vg' u) (hM : Mv a.own (ownT a.bt a.bm vo' vh' vg') w w') (hid : u.idp = a.t.idp) :
    TcM w' B bp bm vc (A.set i ⟨u, a.bt, a.bm, vo', vh', vg'⟩) (T.setT i u) ∧ Mv (ownTc bp bm vc A) (ownTc bp bm vc (A.set i ⟨u, a.bt, a.bm, vo', vh', vg'⟩)) w w' := by
  subst ha
  exact h.set hi hT hM hid
theorem Op5.step_at {o : Op5} {T : Tc} {i : Nat} {t : Tr} (h1 : 1 ≤ o.k ∧ o.k ≤ 5) (h2 : 0 ≤ o.i) (hi : (o.i % T.act.length).toNat = i) (hg : T.act[i]? = some t) :
    o.step T = if o.k = 1 then T.setT i (t.answer (o.aim t)).1 else if o.k = 2 then T.setT i t.queries.1 else if o.k = 3 ∧ t.state = 1 then T.setT i (t.agreeT t.mach).1 else if o.k = 4 ∧ t.state = 1 then T.setT i (t.refuseT t.mach).1 else if o.k = 5 then T.finish t.idp else T := by
  unfold Op5.step
  rw [if_neg (by omega), if_neg (by omega), if_neg (by omega), hi, hg]
set_option maxRecDepth 100000 in
set_option maxHeartbeats 20000000 in
theorem stepK_c (P : List Nat) (w : World) (B0 bp bm : Nat) (vc : Value) (A : List AT) (x : RtV) (T : Tc) (n k0 : Nat) (h : TB P w B0 bp bm vc A x T) (ho : T.Ok n k0) (hn : n ≤ 90) (hk0 : k0 ≤ 9000) (hm : W64 T.m) (o : Op5) (s : Option Addr × Nat × Nat) (y : AnV)
    (hS : Sms w (slv s) o.S) (hy : InR w y o.a) (hF : o.Fit) (hlS : o.S.length ≤ 4) (hlI : o.a.ins.length ≤ 4) (hsS : o.S ≠ [] → ∀ b, (slv s).ownBlock = some b → b < B0) (hsI : ∀ b, o.a.ins ≠ [] → y.v.ownBlock = some b → b < B0) (hk : 1 ≤ o.k ∧ o.k ≤ 5) (hi0 : 0 ≤ o.i) (hpos : 0 < T.act.length) :
    Calls Tryz.prog 12 #[ptrV bp, rtV x, opV5 o s y] w (StepPost5 P w B0 bp bm vc A o T) := by
  obtain ⟨B, hB⟩ : ∃ B, w.heap.size = B := ⟨_, rfl⟩
  have hown := h.own
  have hZs := h.withZ (Z := B + 1 + 1) (by omega)
  have hal := ho.al
  obtain ⟨ok, oi, on, oS, oa, ⟨id0, id1⟩⟩ := o
  simp only at hk hi0 hlS hlI hS hy
  obtain ⟨i, hi⟩ : ∃ i, (oi % (T.act.length : Int)).toNat = i := ⟨_, rfl⟩
  have hNz : ¬ (T.act.length : Int) = 0 := by omega
  have hm1 : 0 ≤ oi % (T.act.length : Int) := Int.emod_nonneg _ hNz
  have hm2 : oi % (T.act.length : Int) < T.act.length := Int.emod_lt_of_pos _ (by omega)
  have hiT : i < T.act.length := by omega
  have hp5 : oi.tmod (T.act.length : Int) = (i : Int) := by rw [Int.tmod_eq_emod_of_nonneg hi0, ← hi, Int.toNat_of_nonneg hm1]
  obtain ⟨u, hu⟩ : ∃ u, T.act[i] = u := ⟨_, rfl⟩
  have hiA : i < A.length := by rw [h.m.len]; exact hiT
  obtain ⟨⟨t, bt, bmm, vo, vh, vg⟩, hAi⟩ : ∃ a, A[i] = a := ⟨_, rfl⟩
  have htu : t = u := by
    have h1 : (A.map (·.t))[i]'(by rw [List.length_map]; exact hiA) = T.act[i] := by simp only [h.m.ac]
    rw [List.getElem_map, hAi, hu] at h1
    exact h1
  subst htu
  have hTm : TrM w B0 bt bmm vo vh vg t := by have := h.m.tr _ (List.getElem_mem hiA); rw [hAi] at this; exact this
  have hinv := hTm.inv
  have hbnd := ho.bnd t (hu ▸ List.getElem_mem hiT)
  have hfind : T.find t.idp = some i := by have := ho.find hiT; rw [hu] at this; exact this
  have hidok : ipOk t.idp := by
    have h1 := ho.im t (hu ▸ List.getElem_mem hiT)
    have h2 := ho.is t (hu ▸ List.getElem_mem hiT)
    have h3 := ho.s1
    exact ⟨by show W64 t.im; rw [h1]; exact hm, by show W64 t.is; exact w64_iff.2 (by omega)⟩
  have hqs : t.qs.length ≤ 501 := by have := hbnd.qs; omega
  have hhl : t.hist.length ≤ 100 := by have := hbnd.hl; omega
  have hag : t.ag.length ≤ 100 := by have := hbnd.ag; omega
  have hget : T.act[i]? = some t := by rw [List.getElem?_eq_getElem hiT, hu]
  have hto : ∀ b ∈ ownT bt bmm vo vh vg, b ∈ ownTc bp bm vc A := fun b hb => mem_ownTc.2 (.inr (.inr (.inr ⟨_, List.getElem_mem hiA, by rw [hAi]; exact hb⟩)))
  have hiT0 := hiT
  have hat := fun (h1 : 1 ≤ ok ∧ ok ≤ 5) => Op5.step_at (o := ⟨ok, oi, on, oS, oa, (id0, id1)⟩) h1 hi0 hi hget
  obtain ⟨XA, hXA, hXb, hXl, hXr⟩ := hZs.ac
  have hiX : i < XA.length := by rw [hXl]; exact hiT
  obtain ⟨hRy, hbk⟩ := hXr i _ _ (List.getElem?_eq_getElem hiX) (List.getElem?_eq_getElem hiT)
  rw [hu] at hRy
  obtain ⟨g, gof, c', hv, he⟩ := hXA.elem hiX
  obtain ⟨x0, x1, ⟨x2, x3, x4⟩, ⟨x5, x6, x7⟩⟩ := x
  simp only [slv] at hv
  rw [hXl] at hv
  simp only [Value.slice.injEq] at hv
  obtain ⟨rfl, hx3, rfl⟩ := hv
  obtain ⟨N, hN⟩ : ∃ n, T.act.length = n := ⟨_, rfl⟩
  rw [hN] at hx3 hp5 hNz hpos hiT hal
  subst hx3
  obtain ⟨⟨q0, q1, q2, q3, q4, q5, ⟨q6, q7, q8⟩, ⟨q9, q10, q11⟩, q12, ⟨q13, q14, q15⟩, q16, ⟨q17, q18, q19⟩⟩, hY⟩ : ∃ q, XA[i] = q := ⟨_, rfl⟩
  rw [hY] at hRy hbk he
  have f0 := he 0 _ rfl
  have f1 := he 1 _ rfl
  have f2 := he 2 _ rfl
  have f3 := he 3 _ rfl
  have f4 := he 4 _ rfl
  have f5 := he 5 _ rfl
  have f6 := he 6 _ rfl
  have f7 := he 7 _ rfl
  have f8 := he 8 _ rfl
  have f9 := he 9 _ rfl
  have f10 := he 10 _ rfl
  have f11 := he 11 _ rfl
  simp only [shRf, RfV.cs, slv, Nat.add_zero] at f0 f1 f2 f3 f4 f5 f6 f7 f8 f9 f10 f11
  have hq0 : q0 = t.im := hRy.im
  have hq1 : q1 = t.is := hRy.is
  obtain ⟨s0, s1, s2⟩ := s
  obtain ⟨y0, y1, y2, y3, y4, y5, y6, y7, y8, y9⟩ := y
  obtain ⟨hbX, hbO, hbZ, hkW, hzW⟩ := blks3 w (.cells #[.int .i64 x0, .int .i64 x1, .slice (some ⟨g, gof, none⟩) x3 x4, .slice x5 x6 x7] tRc) (.cells #[.int .i64 ok, .int .i64 oi, .int .i64 on, .slice s0 s1 s2, .int .i64 y0, .int .i64 y1, .int .u64 y2, .int .i64 y3, .bool y4, .bool y5, .int .i64 y6, .slice y7 y8 y9, .int .i64 id0, .int .i64 id1] tO5) (.cells #[.int .i64 0, .int .i64 0, .slice none 0 0, .slice none 0 0] tRc)
  have hfc : ∀ (W : World), Keeps [] w W → Calls Tryz.prog 16 #[.pointer (some ⟨bp, 0, none⟩), .agg #[.int .i64 q0, .int .i64 q1]] W fun e w' => e = .returned (.tuple #[.pointer (some ⟨bt, 0, none⟩), .bool true]) ∧ Keeps [] W w' := fun W hk => by
    rw [hq0, hq1]
    refine (find_c W B0 bp bm vc A T n k0 (h.m.keeps hk) ho t.idp hidok).mono ?_
    rintro e w' ⟨⟨j, hj, h1, h2, rfl⟩ | ⟨h1, _⟩, hk'⟩
    · rw [hfind] at h1; cases h1
      rw [hAi]
      exact ⟨rfl, hk'⟩
    · rw [hfind] at h1; cases h1
  have hcl := fun (W : World) (hk : Keeps [] w W) => claimR_c W _ t (hRy.keeps hk) hinv (by omega) hbnd.s1
  have hok0 : (ok == 0) = false := by simp; omega
  have hok6 : (ok == 6) = false := by simp; omega
  have hok1 : decide (ok < 1) = false := by simp; omega
  have hok7 : decide (6 < ok) = false := by simp; omega
  have hoi0 : decide (oi < 0) = false := by simp; omega
  have hx30 : ((x3 : Int) == 0) = false := by simp; omega
  have hi3i : (i : Int) < x3 := by omega
  have hNm1 : ¬ (x3 : Int) = -1 := by omega
  simp only [rfV, slv] at hcl
  simp only [rtV, slv, opV5, AnV.v, ptrV]
  replace hfc := Lib.hid hfc
  replace hcl := Lib.hid hcl
  replace h := Lib.hid h
  replace hown := Lib.hid hown
  replace hZs := Lib.hid hZs
  replace hRy := Lib.hid hRy
  replace hbk := Lib.hid hbk
  replace hS := Lib.hid hS
  replace hy := Lib.hid hy
  replace hF := Lib.hid hF
  replace hTm := Lib.hid hTm
  replace hbnd := Lib.hid hbnd
  replace hinv := Lib.hid hinv
  replace hfind := Lib.hid hfind
  replace hidok := Lib.hid hidok
  replace hqs := Lib.hid hqs
  replace hhl := Lib.hid hhl
  replace hag := Lib.hid hag
  replace hu := Lib.hid hu
  replace hAi := Lib.hid hAi
  replace hN := Lib.hid hN
  replace hi := Lib.hid hi
  replace hY := Lib.hid hY
  replace ho := Lib.hid ho
  replace hlI := Lib.hid hlI
  replace hlS := Lib.hid hlS
  replace hsI := Lib.hid hsI
  replace hk0 := Lib.hid hk0
  replace hn := Lib.hid hn
  replace hk := Lib.hid hk
  replace hget := Lib.hid hget
  replace hto := Lib.hid hto
  replace hiT0 := Lib.hid hiT0
  replace hat := Lib.hid hat
  replace hal := Lib.hid hal
  replace hq0 := Lib.hid hq0
  replace hq1 := Lib.hid hq1
  clear he hXA hXb hXl hXr hm1 hm2 hsS
  go_enter Tryz.func12, Tryz.ntmps12
  go_upto_region 1 with fail
  generalize (((w.alloc (.cells #[.int .i64 x0, .int .i64 x1, .slice (some ⟨g, gof, none⟩) x3 x4, .slice x5 x6 x7] tRc)).alloc (.cells #[.int .i64 ok, .int .i64 oi, .int .i64 on, .slice s0 s1 s2, .int .i64 y0, .int .i64 y1, .int .u64 y2, .int .i64 y3, .bool y4, .bool y5, .int .i64 y6, .slice y7 y8 y9, .int .i64 id0, .int .i64 id1] tO5)).alloc (.cells #[.int .i64 0, .int .i64 0, .slice none 0 0, .slice none 0 0] tRc)) = W at *
  rw [hB] at hbX hbO hbZ hzW
  obtain ⟨z0, z1, z2, z3, zf, zl⟩ := cl4 hbX
  obtain ⟨r0, r1, r2, r3, r4, r5, r6, r7, r8, r9, r10, r11, r12, r13, rf, rl⟩ := cl14 hbO
  replace f0 := hkW.val f0
  replace f1 := hkW.val f1
  replace f2 := hkW.val f2
  replace f3 := hkW.val f3
  replace f4 := hkW.val f4
  replace f5 := hkW.val f5
  replace f6 := hkW.val f6
  replace f7 := hkW.val f7
  replace f8 := hkW.val f8
  replace f9 := hkW.val f9
  replace f10 := hkW.val f10
  replace f11 := hkW.val f11
  replace hB := Lib.hid hB
  replace hzW := Lib.hid hzW
  replace hbX := Lib.hid hbX
  replace hbO := Lib.hid hbO
  replace hbZ := Lib.hid hbZ
  replace hkW := Lib.hid hkW
  unfold StepPost5
  go_upto_region 11 with fail
  have hk1 := (Keeps.refl [] W).alloc (.cells #[.int .i64 q0, .int .i64 q1, .int .i64 q2, .int .u64 q3, .int .i64 q4, .int .i64 q5, .slice q6 q7 q8, .slice q9 q10 q11, .int .i64 q12, .slice q13 q14 q15, .bool q16, .slice q17 q18 q19] tR)
  have hbY := heap_alloc_new W (.cells #[.int .i64 q0, .int .i64 q1, .int .i64 q2, .int .u64 q3, .int .i64 q4, .int .i64 q5, .slice q6 q7 q8, .slice q9 q10 q11, .int .i64 q12, .slice q13 q14 q15, .bool q16, .slice q17 q18 q19] tR)
  generalize (W.alloc (.cells #[.int .i64 q0, .int .i64 q1, .int .i64 q2, .int .u64 q3, .int .i64 q4, .int .i64 q5, .slice q6 q7 q8, .slice q9 q10 q11, .int .i64 q12, .slice q13 q14 q15, .bool q16, .slice q17 q18 q19] tR)) = W1 at *
  obtain ⟨XY, hXY⟩ : ∃ X, W.heap.size = X := ⟨_, rfl⟩
  rw [hXY] at hbY ⊢
  have hXYz : B + 1 + 1 < XY := by have := hzW.out; omega
  replace hXY := Lib.hid hXY
  replace hk1 := Lib.hid hk1
  replace hbY := Lib.hid hbY
  clear f0 f1 f2 f3 f4 f5 f6 f7 f8 f9 f10 f11
  replace hbX := Lib.hid ((hk1.out.block _ (lt_of_blk hbX.out) (by simp)).trans hbX.out)
  replace hbO := Lib.hid ((hk1.out.block _ (lt_of_blk hbO.out) (by simp)).trans hbO.out)
  replace hbZ := Lib.hid ((hk1.out.block _ (lt_of_blk hbZ.out) (by simp)).trans hbZ.out)
  clear z0 z1 z2 z3 zf zl
  clear r0 r1 r2 r3 r4 r5 r6 r7 r8 r9 r10 r11 r12 r13 rf rl
  obtain ⟨z0, z1, z2, z3, zf, zl⟩ := cl4 hbX.out
  obtain ⟨r0, r1, r2, r3, r4, r5, r6, r7, r8, r9, r10, r11, r12, r13, rf, rl⟩ := cl14 hbO.out
  obtain ⟨e0, e1, e2, e3, e4, e5, e6, e7, e8, e9, e10, e11, ef, el⟩ := cl12 hbY.out
  have hkw1 := Lib.hid (hkW.out.trans hk1.out)
  clear hk1 hkW
  go_wp2_with fail
  refine (hfc.out W1 hkw1.out).mono ?_
  rintro e w2 ⟨rfl, hk2⟩
  replace hk2 := Lib.hid hk2
  replace hbX := Lib.hid ((hk2.out.block _ (lt_of_blk hbX.out) (by simp)).trans hbX.out)
  replace hbO := Lib.hid ((hk2.out.block _ (lt_of_blk hbO.out) (by simp)).trans hbO.out)
  replace hbZ := Lib.hid ((hk2.out.block _ (lt_of_blk hbZ.out) (by simp)).trans hbZ.out)
  replace hbY := Lib.hid ((hk2.out.block _ (lt_of_blk hbY.out) (by simp)).trans hbY.out)
  clear z0 z1 z2 z3 zf zl
  clear r0 r1 r2 r3 r4 r5 r6 r7 r8 r9 r10 r11 r12 r13 rf rl
  clear e0 e1 e2 e3 e4 e5 e6 e7 e8 e9 e10 e11 ef el
  obtain ⟨z0, z1, z2, z3, zf, zl⟩ := cl4 hbX.out
  obtain ⟨r0, r1, r2, r3, r4, r5, r6, r7, r8, r9, r10, r11, r12, r13, rf, rl⟩ := cl14 hbO.out
  obtain ⟨e0, e1, e2, e3, e4, e5, e6, e7, e8, e9, e10, e11, ef, el⟩ := cl12 hbY.out
  have hkw2 := Lib.hid (hkw1.out.trans hk2.out)
  clear hk2 hkw1 hfc
  go_wp2_with fail
  refine (hcl.out w2 hkw2.out).mono ?_
  rintro e w3 ⟨cx, p, rfl, hcr, hk3, hcase⟩
  obtain ⟨c0, c1, ⟨c2, c3, c4⟩, ⟨c5, c6, c7⟩, ⟨c8, c9, c10⟩⟩ := cx
  have hbY3 := Lib.hid ((hk3.block _ (lt_of_blk hbY.out) (by simp)).trans hbY.out)
  simp only [clV, slv]
  have hk3M := hk3.alloc (.cells #[.int .i64 c0, .int .i64 c1, .slice c2 c3 c4, .slice c5 c6 c7, .slice c8 c9 c10] tC)
  have hbC := heap_alloc_new w3 (.cells #[.int .i64 c0, .int .i64 c1, .slice c2 c3 c4, .slice c5 c6 c7, .slice c8 c9 c10] tC)
  have hmc : t.state = 1 → c0 = t.mach := fun hs => by
    rcases hcase with ⟨e, _⟩ | ⟨_, e⟩
    · exact absurd hs e
    · unfold Tr.mach
      rw [e]
      exact hcr.m
  replace hmc := Lib.hid hmc
  obtain ⟨sb, hsb⟩ : ∃ b, (t.state == 1) = b := ⟨_, rfl⟩
  rw [hsb]
  replace hsb := Lib.hid hsb
  clear hcr hcase hcl hk3
  replace hk3M := Lib.hid hk3M
  replace hbC := Lib.hid hbC
  go_upto_region 15 with fail
  generalize (w3.alloc (.cells #[.int .i64 c0, .int .i64 c1, .slice c2 c3 c4, .slice c5 c6 c7, .slice c8 c9 c10] tC)) = W2 at *
  obtain ⟨XC, hXC⟩ : ∃ X, w3.heap.size = X := ⟨_, rfl⟩
  rw [hXC] at hbC ⊢
  replace hXC := Lib.hid hXC
  replace hbX := Lib.hid ((hk3M.out.block _ (lt_of_blk hbX.out) (by simp)).trans hbX.out)
  replace hbO := Lib.hid ((hk3M.out.block _ (lt_of_blk hbO.out) (by simp)).trans hbO.out)
  replace hbZ := Lib.hid ((hk3M.out.block _ (lt_of_blk hbZ.out) (by simp)).trans hbZ.out)
  replace hbY := Lib.hid ((hk3M.out.block _ (lt_of_blk hbY.out) (by simp)).trans hbY.out)
  clear z0 z1 z2 z3 zf zl
  clear r0 r1 r2 r3 r4 r5 r6 r7 r8 r9 r10 r11 r12 r13 rf rl
  clear e0 e1 e2 e3 e4 e5 e6 e7 e8 e9 e10 e11 ef el
  obtain ⟨z0, z1, z2, z3, zf, zl⟩ := cl4 hbX.out
  obtain ⟨r0, r1, r2, r3, r4, r5, r6, r7, r8, r9, r10, r11, r12, r13, rf, rl⟩ := cl14 hbO.out
  obtain ⟨e0, e1, e2, e3, e4, e5, e6, e7, e8, e9, e10, e11, ef, el⟩ := cl12 hbY.out
  obtain ⟨j0, j1, j2, j3, j4, jf, jl⟩ := cl5 hbC.out
  have hkw3 := Lib.hid (hkw2.out.trans hk3M.out)
  have hbY0 := hbY3
  clear hk3M hkw2
  have hsC0 : B + 1 + 1 < XC := by have h1 := hXYz; have h2 := hXC.out; have h3 := lt_of_blk hbY0.out; omega
  replace hsC0 := Lib.hid hsC0
  rcases (show ok = 1 ∨ ok = 2 ∨ ok = 3 ∨ ok = 4 ∨ ok = 5 by have := hk.out; omega) with e' | e' | e' | e' | e'
  · subst e'
    have hstep : Op5.step ⟨1, oi, on, oS, oa, (id0, id1)⟩ T = T.setT i (t.answer (aimQ oa (opens t.qs) on)).1 := by rw [hat.out hk.out, if_pos rfl]; rfl
    have haf := aimQ_fit (n := on) hF.out.a hinv.out
    have hai := aimQ_ins oa (opens t.qs) on
    have haim := raim_c W2 ⟨q0, q1, q2, q3, q4, q5, (q6, q7, q8), (q9, q10, q11), q12, (q13, q14, q15), q16, (q17, q18, q19)⟩ t oa on (⟨y0, y1, y2, y3, y4, y5, y6, y7, y8, y9⟩ : AnV) (hRy.out.keeps hkw3.out) hinv.out.rk (hy.out.keep hkw3.out (by simp)) (by have := hqs.out; omega) (w64_iff.1 hF.out.n)
    unfold RAimPost at haim
    simp only [rfV, aV, slv, AnV.v] at haim
    obtain ⟨a', ha'⟩ : ∃ a, aimQ oa (opens t.qs) on = a := ⟨_, rfl⟩
    rw [ha'] at hstep haf hai haim
    have hal4 : a'.ins.length ≤ 4 := by rw [hai]; exact hlI.out
    have haok : a'.Ok := haf.ok (by omega)
    replace haim := Lib.hid haim
    replace hstep := Lib.hid hstep
    replace ha' := Lib.hid ha'
    replace hai := Lib.hid hai
    replace haok := Lib.hid haok
    replace hal4 := Lib.hid hal4
    clear haf
    go_wp2_with fail
    refine haim.out.mono ?_
    rintro e w4 ⟨ya, rfl, hyv, hyI, hk4⟩
    obtain ⟨a0, a1, a2, a3, a4, a5, a6, a7, a8, a9⟩ := ya
    simp only [aV, AnV.v] at hyv ⊢
    have hk4M := hk4.alloc (.cells #[.int .i64 a0, .int .i64 a1, .int .u64 a2, .int .i64 a3, .bool a4, .bool a5, .int .i64 a6, .slice a7 a8 a9] tA)
    have hbA := heap_alloc_new w4 (.cells #[.int .i64 a0, .int .i64 a1, .int .u64 a2, .int .i64 a3, .bool a4, .bool a5, .int .i64 a6, .slice a7 a8 a9] tA)
    have hyI4 := hyI.keep ((Keeps.refl [] w4).alloc (.cells #[.int .i64 a0, .int .i64 a1, .int .u64 a2, .int .i64 a3, .bool a4, .bool a5, .int .i64 a6, .slice a7 a8 a9] tA)) (by simp)
    replace hk4M := Lib.hid hk4M
    replace hbA := Lib.hid hbA
    replace hyv := Lib.hid hyv
    replace hyI4 := Lib.hid hyI4
    have hs4 := hk4.size
    clear hyI hk4 haim
    go_upto_region 17 with fail
    generalize (w4.alloc (.cells #[.int .i64 a0, .int .i64 a1, .int .u64 a2, .int .i64 a3, .bool a4, .bool a5, .int .i64 a6, .slice a7 a8 a9] tA)) = W4 at *
    obtain ⟨XA', hXA'⟩ : ∃ X, w4.heap.size = X := ⟨_, rfl⟩
    rw [hXA'] at hbA hs4 ⊢
    replace hXA' := Lib.hid hXA'
    have hsA : B + 1 + 1 < XA' := by have := lt_of_blk hbZ.out; omega
    clear hs4
    replace hbX := Lib.hid ((hk4M.out.block _ (lt_of_blk hbX.out) (by simp)).trans hbX.out)
    replace hbO := Lib.hid ((hk4M.out.block _ (lt_of_blk hbO.out) (by simp)).trans hbO.out)
    replace hbZ := Lib.hid ((hk4M.out.block _ (lt_of_blk hbZ.out) (by simp)).trans hbZ.out)
    replace hbY := Lib.hid ((hk4M.out.block _ (lt_of_blk hbY.out) (by simp)).trans hbY.out)
    clear z0 z1 z2 z3 zf zl
    clear r0 r1 r2 r3 r4 r5 r6 r7 r8 r9 r10 r11 r12 r13 rf rl
    clear e0 e1 e2 e3 e4 e5 e6 e7 e8 e9 e10 e11 ef el
    obtain ⟨z0, z1, z2, z3, zf, zl⟩ := cl4 hbX.out
    obtain ⟨r0, r1, r2, r3, r4, r5, r6, r7, r8, r9, r10, r11, r12, r13, rf, rl⟩ := cl14 hbO.out
    obtain ⟨e0, e1, e2, e3, e4, e5, e6, e7, e8, e9, e10, e11, ef, el⟩ := cl12 hbY.out
    obtain ⟨k0, k1, k2, k3, k4, k5, k6, k7, kf, kl⟩ := cl8 hbA.out
    have hkw4 := Lib.hid (hkw3.out.trans hk4M.out)
    clear hk4M
    have hS := answerR_c W4 ⟨q0, q1, q2, q3, q4, q5, (q6, q7, q8), (q9, q10, q11), q12, (q13, q14, q15), q16, (q17, q18, q19)⟩ t (⟨a0, a1, a2, a3, a4, a5, a6, a7, a8, a9⟩ : AnV) a' (hRy.out.keeps hkw4.out) hyI4.out hinv.out (by have := hqs.out; have := hal4.out; omega) (by have := hhl.out; omega)
    rw [Tr.answerR_eq hbnd.out.ho] at hS
    unfold RPost at hS
    simp only [rfV, aV, slv, AnV.v] at hS
    obtain ⟨U, hU⟩ : ∃ U, t.answer a' = U := ⟨_, rfl⟩
    have hid3 := Tr.answer_id t a'
    rw [hU] at hS hid3
    obtain ⟨U, E⟩ := U
    have hstep2 : Op5.step ⟨1, oi, on, oS, oa, (id0, id1)⟩ T = T.setT i U := by rw [hstep.out, hU]
    replace hstep := Lib.hid hstep2
    replace hU := Lib.hid hU
    replace hS := Lib.hid hS
    replace hid3 := Lib.hid hid3
    clear hstep2
    go_wp2_with fail
    refine hS.out.mono ?_
    rintro e w5 ⟨xs, rfl, hR5, hk5, hF5⟩
    clear hS
    obtain ⟨p0, p1, p2, p3, p4, p5, ⟨p6, p7, p8⟩, ⟨p9, p10, p11⟩, p12, ⟨p13, p14, p15⟩, p16, ⟨p17, p18, p19⟩⟩ := xs
    simp only [rfV, slv]
    have hk5M := hk5.alloc (.cells #[.int .i64 p0, .int .i64 p1, .int .i64 p2, .int .u64 p3, .int .i64 p4, .int .i64 p5, .slice p6 p7 p8, .slice p9 p10 p11, .int .i64 p12, .slice p13 p14 p15, .bool p16, .slice p17 p18 p19] tR)
    have hbV := heap_alloc_new w5 (.cells #[.int .i64 p0, .int .i64 p1, .int .i64 p2, .int .u64 p3, .int .i64 p4, .int .i64 p5, .slice p6 p7 p8, .slice p9 p10 p11, .int .i64 p12, .slice p13 p14 p15, .bool p16, .slice p17 p18 p19] tR)
    have hR5M := (hR5.keeps ((Keeps.refl [] w5).alloc (.cells #[.int .i64 p0, .int .i64 p1, .int .i64 p2, .int .u64 p3, .int .i64 p4, .int .i64 p5, .slice p6 p7 p8, .slice p9 p10 p11, .int .i64 p12, .slice p13 p14 p15, .bool p16, .slice p17 p18 p19] tR))).keeps ((Keeps.refl [] (w5.alloc (.cells #[.int .i64 p0, .int .i64 p1, .int .i64 p2, .int .u64 p3, .int .i64 p4, .int .i64 p5, .slice p6 p7 p8, .slice p9 p10 p11, .int .i64 p12, .slice p13 p14 p15, .bool p16, .slice p17 p18 p19] tR))).drew)
    have hzL : B + 1 + 1 < W4.heap.size := lt_of_blk hbZ.out
    have hbk5 : ∀ b ∈ blks (⟨p0, p1, p2, p3, p4, p5, (p6, p7, p8), (p9, p10, p11), p12, (p13, p14, p15), p16, (p17, p18, p19)⟩ : RfV), b < (w5.alloc (.cells #[.int .i64 p0, .int .i64 p1, .int .i64 p2, .int .u64 p3, .int .i64 p4, .int .i64 p5, .slice p6 p7 p8, .slice p9 p10 p11, .int .i64 p12, .slice p13 p14 p15, .bool p16, .slice p17 p18 p19] tR)).drew.heap.size ∧ b ∉ (B + 1 + 1) :: (P ++ ownTc bp bm vc A) := fun b hb => by
      have h3 : w5.heap.size ≤ (w5.alloc (.cells #[.int .i64 p0, .int .i64 p1, .int .i64 p2, .int .u64 p3, .int .i64 p4, .int .i64 p5, .slice p6 p7 p8, .slice p9 p10 p11, .int .i64 p12, .slice p13 p14 p15, .bool p16, .slice p17 p18 p19] tR)).heap.size := ((Keeps.refl [] w5).alloc (.cells #[.int .i64 p0, .int .i64 p1, .int .i64 p2, .int .u64 p3, .int .i64 p4, .int .i64 p5, .slice p6 p7 p8, .slice p9 p10 p11, .int .i64 p12, .slice p13 p14 p15, .bool p16, .slice p17 p18 p19] tR)).size
      have h4 : (w5.alloc (.cells #[.int .i64 p0, .int .i64 p1, .int .i64 p2, .int .u64 p3, .int .i64 p4, .int .i64 p5, .slice p6 p7 p8, .slice p9 p10 p11, .int .i64 p12, .slice p13 p14 p15, .bool p16, .slice p17 p18 p19] tR)).drew.heap.size = (w5.alloc (.cells #[.int .i64 p0, .int .i64 p1, .int .i64 p2, .int .u64 p3, .int .i64 p4, .int .i64 p5, .slice p6 p7 p8, .slice p9 p10 p11, .int .i64 p12, .slice p13 p14 p15, .bool p16, .slice p17 p18 p19] tR)).heap.size := rfl
      have h5 := hk5.size
      have h6 := hkw4.out.size
      rcases hF5 b hb with h1 | h1
      · obtain ⟨h2, h7⟩ := hbk.out b h1
        exact ⟨by omega, h7⟩
      · refine ⟨by omega, fun hm => ?_⟩
        simp only [List.mem_cons] at hm
        rcases hm with e | e
        · omega
        · have := hown.out b e; omega
    have hkd := hkw4.out.trans (hk5M.drew)
    have hs5 := hk5.size
    replace hbV := Lib.hid hbV
    replace hR5M := Lib.hid hR5M
    replace hbk5 := Lib.hid hbk5
    replace hk5M := Lib.hid hk5M
    replace hkd := Lib.hid hkd
    replace hzL := Lib.hid hzL
    clear hk5 hR5 hF5
    go_upto_region 18 with fail
    generalize (w5.alloc (.cells #[.int .i64 p0, .int .i64 p1, .int .i64 p2, .int .u64 p3, .int .i64 p4, .int .i64 p5, .slice p6 p7 p8, .slice p9 p10 p11, .int .i64 p12, .slice p13 p14 p15, .bool p16, .slice p17 p18 p19] tR)) = W5 at *
    obtain ⟨XV, hXV⟩ : ∃ X, w5.heap.size = X := ⟨_, rfl⟩
    rw [hXV] at hbV hs5 ⊢
    replace hXV := Lib.hid hXV
    replace hk5M := hk5M.out.drew
    replace hkd := hkd.out
    clear z0 z1 z2 z3 zf zl r0 r1 r2 r3 r4 r5 r6 r7 r8 r9 r10 r11 r12 r13 rf rl e0 e1 e2 e3 e4 e5 e6 e7 e8 e9 e10 e11 ef el k0 k1 k2 k3 k4 k5 k6 k7 kf kl
    have hbVd : W5.drew.heap[XV]? = _ := hbV.out
    have hZd : W5.drew.heap[B + 1 + 1]? = _ := (hk5M.block _ (lt_of_blk hbZ.out) (by simp)).trans hbZ.out
    have hbXd : W5.drew.heap[B]? = _ := (hk5M.block _ (lt_of_blk hbX.out) (by simp)).trans hbX.out
    obtain ⟨z0, z1, z2, z3, zf, zl⟩ := cl4 hbXd
    have hbAd : W5.drew.heap[XA']? = _ := (hk5M.block _ (lt_of_blk hbA.out) (by simp)).trans hbA.out
    obtain ⟨k0, k1, k2, k3, k4, k5, k6, k7, kf, kl⟩ := cl8 hbAd
    obtain ⟨m0, m1, m2, m3, m4, m5, m6, m7, m8, m9, m10, m11, mf, ml⟩ := cl12 hbVd
    have hsV : B + 1 + 1 < XV := by have := hzL.out; omega
    have hZl := lt_of_blk hZd
    have hwith := rwith_c ((B + 1 + 1) :: (P ++ ownTc bp bm vc A)) W5.drew _ T i (⟨p0, p1, p2, p3, p4, p5, (p6, p7, p8), (p9, p10, p11), p12, (p13, p14, p15), p16, (p17, p18, p19)⟩ : RfV) U (hZs.out.keeps hkd) (fun b hb => by
      simp only [List.mem_cons] at hb
      rcases hb with e | e
      · have := hzL.out; omega
      · have h1 := hown.out b e; have h2 := hkd.size; omega) hiT0.out (by rw [hN.out]; have := hal.out; have := hk0.out; omega) hR5M.out hbk5.out
    simp only [rtV, rfV, slv] at hwith
    replace hwith := Lib.hid hwith
    have hprog : ∀ w6, Keeps [] W5.drew w6 → Calls Tryz.prog 34 #[.pointer (some ⟨bt, 0, none⟩), .agg #[.int .i64 a0, .int .i64 a1, .int .u64 a2, .int .i64 a3, .bool a4, .bool a5, .int .i64 a6, .slice a7 a8 a9]] w6 fun e w' => ∃ vo' vh', e = .returned (.int .i64 E) ∧ TrM w' B0 bt bmm vo' vh' vg U ∧ Mv (ownT bt bmm vo vh vg) (ownT bt bmm vo' vh' vg) w6 w' := fun w6 hk6 => by
      have hkk := hkd.trans hk6
      have := answer_c w6 B0 bt bmm vo vh vg t (⟨a0, a1, a2, a3, a4, a5, a6, a7, a8, a9⟩ : AnV) a' (hTm.out.keeps hkk) (hyI4.out.keep (hk5M.trans hk6) (by simp)) haok.out (fun b hb hne e => by
        have h1 := hsI.out b (by rw [← hai.out]; exact hne) (by show (Value.slice y7 y8 y9).ownBlock = some b; rw [← hyv.out]; exact e)
        have h2 := h.out.m.ge (hto.out b hb)
        omega) (by have h1 := h.out.m.bB; have h2 := h.out.m.lt; have h3 := hkk.size; omega) (by have := hhl.out; omega) (by have := hqs.out; have := hal4.out; omega)
      unfold AnsPost at this
      rw [hU.out] at this
      simpa only [aV, AnV.v] using this
    replace hprog := Lib.hid hprog
    replace hkd := Lib.hid hkd
    replace hZd := Lib.hid hZd
    replace hk5M := Lib.hid hk5M
    clear hbVd hbXd hbAd hs5 hbk5 hR5M
    refine Free.wp_region_chain (fun i => i == 3 || i == 6 || i == 9) (fun i => true) (fun _ b => b < B ∨ b = B + 1 + 1) (by kernel_rfl) (by kernel_rfl) (by kernel_rfl) ?_
    generalize W5.drew = wd at *
    (repeat (first | (apply Free.cw_pure rfl rfl; (intro w'; go_simp <;> exact rfl); go_frame) | (apply Free.cw_steady rfl rfl rfl; (intro w' hS; have q0 := Free.sx_cell hS z0 (fun _ _ hT => by rcases hT with hT | hT <;> omega); have q1 := Free.sx_cell hS z1 (fun _ _ hT => by rcases hT with hT | hT <;> omega); have q2 := Free.sx_cell hS z2 (fun _ _ hT => by rcases hT with hT | hT <;> omega); have q3 := Free.sx_cell hS z3 (fun _ _ hT => by rcases hT with hT | hT <;> omega); have q4 := Free.sx_cell hS m0 (fun _ _ hT => by rcases hT with hT | hT <;> omega); have q5 := Free.sx_cell hS m1 (fun _ _ hT => by rcases hT with hT | hT <;> omega); have q6 := Free.sx_cell hS m2 (fun _ _ hT => by rcases hT with hT | hT <;> omega); have q7 := Free.sx_cell hS m3 (fun _ _ hT => by rcases hT with hT | hT <;> omega); have q8 := Free.sx_cell hS m4 (fun _ _ hT => by rcases hT with hT | hT <;> omega); have q9 := Free.sx_cell hS m5 (fun _ _ hT => by rcases hT with hT | hT <;> omega); have q10 := Free.sx_cell hS m6 (fun _ _ hT => by rcases hT with hT | hT <;> omega); have q11 := Free.sx_cell hS m7 (fun _ _ hT => by rcases hT with hT | hT <;> omega); have q12 := Free.sx_cell hS m8 (fun _ _ hT => by rcases hT with hT | hT <;> omega); have q13 := Free.sx_cell hS m9 (fun _ _ hT => by rcases hT with hT | hT <;> omega); have q14 := Free.sx_cell hS m10 (fun _ _ hT => by rcases hT with hT | hT <;> omega); have q15 := Free.sx_cell hS m11 (fun _ _ hT => by rcases hT with hT | hT <;> omega); have q16 := Free.sx_cell hS k0 (fun _ _ hT => by rcases hT with hT | hT <;> omega); have q17 := Free.sx_cell hS k1 (fun _ _ hT => by rcases hT with hT | hT <;> omega); have q18 := Free.sx_cell hS k2 (fun _ _ hT => by rcases hT with hT | hT <;> omega); have q19 := Free.sx_cell hS k3 (fun _ _ hT => by rcases hT with hT | hT <;> omega); have q20 := Free.sx_cell hS k4 (fun _ _ hT => by rcases hT with hT | hT <;> omega); have q21 := Free.sx_cell hS k5 (fun _ _ hT => by rcases hT with hT | hT <;> omega); have q22 := Free.sx_cell hS k6 (fun _ _ hT => by rcases hT with hT | hT <;> omega); have q23 := Free.sx_cell hS k7 (fun _ _ hT => by rcases hT with hT | hT <;> omega); go_simp <;> exact rfl); go_frame) | (refine Free.cw_skip rfl ?_; go_frame)))
    refine Free.cw_loud rfl rfl (fun K hK => ?_)
    go_wp2_with fail
    refine hwith.out.mono ?_
    rintro e w6 ⟨xw, rfl, hRw, hk6⟩
    refine hK _ _ rfl (Free.KeepsP.of hk6 (by simp)) ?_
    clear hK K hwith
    obtain ⟨u0, u1, ⟨u2, u3, u4⟩, ⟨u5, u6, u7⟩⟩ := xw
    simp only [rtV, slv]
    have hpr := hprog.out w6 hk6
    have hkd6 := Lib.hid (hkd.out.trans hk6)
    have hZ6 := Lib.hid ((hk6.block _ hZl (by simp)).trans hZd.out)
    replace hpr := Lib.hid hpr
    replace hRw := Lib.hid hRw
    clear hk6 hprog
    (repeat (first | (apply Free.cw_pure rfl rfl; (intro w'; go_simp <;> exact rfl); go_frame) | (apply Free.cw_steady rfl rfl rfl; (intro w' hS; have q0 := Free.sx_cell hS z0 (fun _ _ hT => by rcases hT with hT | hT <;> omega); have q1 := Free.sx_cell hS z1 (fun _ _ hT => by rcases hT with hT | hT <;> omega); have q2 := Free.sx_cell hS z2 (fun _ _ hT => by rcases hT with hT | hT <;> omega); have q3 := Free.sx_cell hS z3 (fun _ _ hT => by rcases hT with hT | hT <;> omega); have q4 := Free.sx_cell hS m0 (fun _ _ hT => by rcases hT with hT | hT <;> omega); have q5 := Free.sx_cell hS m1 (fun _ _ hT => by rcases hT with hT | hT <;> omega); have q6 := Free.sx_cell hS m2 (fun _ _ hT => by rcases hT with hT | hT <;> omega); have q7 := Free.sx_cell hS m3 (fun _ _ hT => by rcases hT with hT | hT <;> omega); have q8 := Free.sx_cell hS m4 (fun _ _ hT => by rcases hT with hT | hT <;> omega); have q9 := Free.sx_cell hS m5 (fun _ _ hT => by rcases hT with hT | hT <;> omega); have q10 := Free.sx_cell hS m6 (fun _ _ hT => by rcases hT with hT | hT <;> omega); have q11 := Free.sx_cell hS m7 (fun _ _ hT => by rcases hT with hT | hT <;> omega); have q12 := Free.sx_cell hS m8 (fun _ _ hT => by rcases hT with hT | hT <;> omega); have q13 := Free.sx_cell hS m9 (fun _ _ hT => by rcases hT with hT | hT <;> omega); have q14 := Free.sx_cell hS m10 (fun _ _ hT => by rcases hT with hT | hT <;> omega); have q15 := Free.sx_cell hS m11 (fun _ _ hT => by rcases hT with hT | hT <;> omega); have q16 := Free.sx_cell hS k0 (fun _ _ hT => by rcases hT with hT | hT <;> omega); have q17 := Free.sx_cell hS k1 (fun _ _ hT => by rcases hT with hT | hT <;> omega); have q18 := Free.sx_cell hS k2 (fun _ _ hT => by rcases hT with hT | hT <;> omega); have q19 := Free.sx_cell hS k3 (fun _ _ hT => by rcases hT with hT | hT <;> omega); have q20 := Free.sx_cell hS k4 (fun _ _ hT => by rcases hT with hT | hT <;> omega); have q21 := Free.sx_cell hS k5 (fun _ _ hT => by rcases hT with hT | hT <;> omega); have q22 := Free.sx_cell hS k6 (fun _ _ hT => by rcases hT with hT | hT <;> omega); have q23 := Free.sx_cell hS k7 (fun _ _ hT => by rcases hT with hT | hT <;> omega); go_simp <;> exact rfl); go_frame) | (refine Free.cw_skip rfl ?_; go_frame)))
    refine Free.cw_loud rfl rfl (fun K hK => ?_)
    go_wp2_with fail
    refine hpr.out.mono ?_
    rintro e w7 ⟨vo', vh', rfl, hT7, hM7⟩
    have htB : ∀ b ∈ ownT bt bmm vo vh vg, b < B := fun b hb => by have h1 := hown.out b (List.mem_append_right _ (hto.out b hb)); have h2 := hB.out; omega
    refine hK _ _ rfl (Free.KeepsP.of hM7.k (fun b hb => .inl (htB b hb))) ?_
    clear hK K hpr
    obtain ⟨hTn, hMn⟩ := (h.out.m.keeps hkd6.out).setA hiA hAi.out hT7 hM7 (by have h1 := hid3.out; exact congrArg (fun p => (p.1, p.2.1)) h1)
    have hZ7 := (hM7.k.block _ (lt_of_blk hZ6.out) (fun hm => by have := htB _ hm; omega)).trans hZ6.out
    obtain ⟨v0, v1, v2, v3, vf, vl⟩ := cl4 hZ7
    replace hZ7 := Lib.hid hZ7
    replace hTn := Lib.hid hTn
    replace hMn := Lib.hid hMn
    clear hT7 hM7 htB
    (repeat (apply Free.cw_pure rfl rfl; (intro w'; go_simp <;> exact rfl); go_frame))
    refine Free.cw_loud rfl rfl (fun K hK => ?_)
    go_wp2
    obtain ⟨g1, g2⟩ := sc4 (.int .i64 u0) (.int .i64 u1) (.slice u2 u3 u4) (.slice u5 u6 u7) hZ7.out
    refine hK _ _ rfl (Free.KeepsP.of g2 (fun b hb => .inr (by simpa using hb))) ?_
    clear hK K
    obtain ⟨f1, f2⟩ := h.out.fin hkd6.out hRw.out (Keeps.refl [] w6) hTn.out hMn.out g2 (by have := hB.out; omega) hZ7.out
    replace g1 := Lib.hid g1
    replace f1 := Lib.hid f1
    replace f2 := Lib.hid f2
    clear g2 hZl
    (repeat (apply Free.cw_pure rfl rfl; (intro w'; go_simp <;> exact rfl); go_frame))
    refine Free.cw_nil ?_
    go_wp2
    refine bodyPost_ret (results_rt2 rfl _ _ _ _ _ _ _ _ _ rfl g1.out) rfl ?_
    exact ⟨⟨u0, u1, (u2, u3, u4), (u5, u6, u7)⟩, vc, _, rfl, by rw [hstep.out]; exact f1.out, f2.out⟩
  · subst e'
    obtain ⟨tn, ht1, ht2⟩ := hbnd.out.tl
    have hstep : Op5.step ⟨2, oi, on, oS, oa, (id0, id1)⟩ T = T.setT i t.queries.1 := by rw [hat.out hk.out, if_neg (by simp), if_pos rfl]
    have hid3 := Tr.queries_id t
    have hS := queriesR_c W2 ⟨q0, q1, q2, q3, q4, q5, (q6, q7, q8), (q9, q10, q11), q12, (q13, q14, q15), q16, (q17, q18, q19)⟩ t tn (hRy.out.keeps hkw3.out) hinv.out.rk ht1 ht2 (by have := hqs.out; omega)
    have hpq := fun (W : World) (hk : Keeps [] w W) => queries_c W B0 bt bmm vo vh vg t tn (hTm.out.keeps hk) ht1 ht2 (by have := hqs.out; omega)
    unfold QsRPost at hS
    unfold QsPost at hpq
    simp only [rfV, slv] at hS
    obtain ⟨U, hU⟩ : ∃ U, t.queries = U := ⟨_, rfl⟩
    rw [hU] at hid3 hstep hS
    simp only [hU] at hpq
    obtain ⟨U, E⟩ := U
    simp only at hS hpq hid3 hstep
    replace hstep := Lib.hid hstep
    replace hU := Lib.hid hU
    replace hS := Lib.hid hS
    replace hpq := Lib.hid hpq
    replace hid3 := Lib.hid hid3
    clear ht1 ht2
    go_wp2_with fail
    refine hS.out.mono ?_
    rintro e w5 ⟨xs, vq, rfl, hR5, hvq, hk5, hF5⟩
    clear hS
    obtain ⟨qa, qc, rfl⟩ := hvq.form
    obtain ⟨QN, hQN⟩ : ∃ n, E.length = n := ⟨_, rfl⟩
    rw [hQN] at hvq ⊢
    obtain ⟨p0, p1, p2, p3, p4, p5, ⟨p6, p7, p8⟩, ⟨p9, p10, p11⟩, p12, ⟨p13, p14, p15⟩, p16, ⟨p17, p18, p19⟩⟩ := xs
    simp only [rfV, slv]
    have hk5M := hk5.alloc (.cells #[.int .i64 p0, .int .i64 p1, .int .i64 p2, .int .u64 p3, .int .i64 p4, .int .i64 p5, .slice p6 p7 p8, .slice p9 p10 p11, .int .i64 p12, .slice p13 p14 p15, .bool p16, .slice p17 p18 p19] tR)
    have hbV := heap_alloc_new w5 (.cells #[.int .i64 p0, .int .i64 p1, .int .i64 p2, .int .u64 p3, .int .i64 p4, .int .i64 p5, .slice p6 p7 p8, .slice p9 p10 p11, .int .i64 p12, .slice p13 p14 p15, .bool p16, .slice p17 p18 p19] tR)
    have hR5M := hR5.keeps ((Keeps.refl [] w5).alloc (.cells #[.int .i64 p0, .int .i64 p1, .int .i64 p2, .int .u64 p3, .int .i64 p4, .int .i64 p5, .slice p6 p7 p8, .slice p9 p10 p11, .int .i64 p12, .slice p13 p14 p15, .bool p16, .slice p17 p18 p19] tR))
    have hvq5 := hvq.keeps ((Keeps.refl [] w5).alloc (.cells #[.int .i64 p0, .int .i64 p1, .int .i64 p2, .int .u64 p3, .int .i64 p4, .int .i64 p5, .slice p6 p7 p8, .slice p9 p10 p11, .int .i64 p12, .slice p13 p14 p15, .bool p16, .slice p17 p18 p19] tR))
    have hzL : B + 1 + 1 < W2.heap.size := lt_of_blk hbZ.out
    have hbk5 : ∀ b ∈ blks (⟨p0, p1, p2, p3, p4, p5, (p6, p7, p8), (p9, p10, p11), p12, (p13, p14, p15), p16, (p17, p18, p19)⟩ : RfV), b < (w5.alloc (.cells #[.int .i64 p0, .int .i64 p1, .int .i64 p2, .int .u64 p3, .int .i64 p4, .int .i64 p5, .slice p6 p7 p8, .slice p9 p10 p11, .int .i64 p12, .slice p13 p14 p15, .bool p16, .slice p17 p18 p19] tR)).heap.size ∧ b ∉ (B + 1 + 1) :: (P ++ ownTc bp bm vc A) := fun b hb => by
      have h3 : w5.heap.size ≤ (w5.alloc (.cells #[.int .i64 p0, .int .i64 p1, .int .i64 p2, .int .u64 p3, .int .i64 p4, .int .i64 p5, .slice p6 p7 p8, .slice p9 p10 p11, .int .i64 p12, .slice p13 p14 p15, .bool p16, .slice p17 p18 p19] tR)).heap.size := ((Keeps.refl [] w5).alloc (.cells #[.int .i64 p0, .int .i64 p1, .int .i64 p2, .int .u64 p3, .int .i64 p4, .int .i64 p5, .slice p6 p7 p8, .slice p9 p10 p11, .int .i64 p12, .slice p13 p14 p15, .bool p16, .slice p17 p18 p19] tR)).size
      have h5 := hk5.size
      have h6 := hkw3.out.size
      rcases hF5 b hb with h1 | h1
      · obtain ⟨h2, h7⟩ := hbk.out b h1
        exact ⟨by omega, h7⟩
      · refine ⟨by omega, fun hm => ?_⟩
        simp only [List.mem_cons] at hm
        rcases hm with e | e
        · omega
        · have := hown.out b e; omega
    have hkd := hkw3.out.trans hk5M
    have hs5 := hk5.size
    replace hQN := Lib.hid hQN
    replace hbV := Lib.hid hbV
    replace hR5M := Lib.hid hR5M
    replace hvq5 := Lib.hid hvq5
    replace hbk5 := Lib.hid hbk5
    replace hk5M := Lib.hid hk5M
    replace hkd := Lib.hid hkd
    replace hzL := Lib.hid hzL
    clear hk5 hR5 hF5 hvq
    go_upto_region 21 with fail
    generalize (w5.alloc (.cells #[.int .i64 p0, .int .i64 p1, .int .i64 p2, .int .u64 p3, .int .i64 p4, .int .i64 p5, .slice p6 p7 p8, .slice p9 p10 p11, .int .i64 p12, .slice p13 p14 p15, .bool p16, .slice p17 p18 p19] tR)) = wd at *
    obtain ⟨XV, hXV⟩ : ∃ X, w5.heap.size = X := ⟨_, rfl⟩
    rw [hXV] at hbV hs5 ⊢
    replace hXV := Lib.hid hXV
    clear z0 z1 z2 z3 zf zl r0 r1 r2 r3 r4 r5 r6 r7 r8 r9 r10 r11 r12 r13 rf rl e0 e1 e2 e3 e4 e5 e6 e7 e8 e9 e10 e11 ef el j0 j1 j2 j3 j4 jf jl
    have hXd : wd.heap[B]? = _ := (hk5M.out.block _ (lt_of_blk hbX.out) (by simp)).trans hbX.out
    have hZd : wd.heap[B + 1 + 1]? = _ := (hk5M.out.block _ (lt_of_blk hbZ.out) (by simp)).trans hbZ.out
    obtain ⟨z0, z1, z2, z3, zf, zl⟩ := cl4 hXd
    obtain ⟨m0, m1, m2, m3, m4, m5, m6, m7, m8, m9, m10, m11, mf, ml⟩ := cl12 hbV.out
    have hsV : B + 1 + 1 < XV := by have := hzL.out; omega
    have hwith := rwith_c ((B + 1 + 1) :: (P ++ ownTc bp bm vc A)) wd _ T i (⟨p0, p1, p2, p3, p4, p5, (p6, p7, p8), (p9, p10, p11), p12, (p13, p14, p15), p16, (p17, p18, p19)⟩ : RfV) U (hZs.out.keeps hkd.out) (fun b hb => by
        simp only [List.mem_cons] at hb
        rcases hb with e | e
        · have := lt_of_blk hZd; omega
        · have h1 := hown.out b e; have h2 := hkd.out.size; omega) hiT0.out (by rw [hN.out]; have := hal.out; have := hk0.out; omega) hR5M.out hbk5.out
    simp only [rtV, rfV, slv] at hwith
    replace hwith := Lib.hid hwith
    replace hZd := Lib.hid hZd
    clear hXd hs5 hbk5 hR5M
    go_wp2_with fail
    refine hwith.out.mono ?_
    rintro e w6 ⟨xw, rfl, hRw, hk6⟩
    clear hwith
    obtain ⟨u0, u1, ⟨u2, u3, u4⟩, ⟨u5, u6, u7⟩⟩ := xw
    simp only [rtV, slv]
    have hpr := hpq.out w6 (hkd.out.trans hk6)
    have hkd6 := Lib.hid (hkd.out.trans hk6)
    have hZ6 := Lib.hid ((hk6.block _ (lt_of_blk hZd.out) (by simp)).trans hZd.out)
    have hvq6 := Lib.hid (hvq5.out.keeps hk6)
    replace hpr := Lib.hid hpr
    replace hRw := Lib.hid hRw
    clear hk6 hpq z0 z1 z2 z3 zf zl m0 m1 m2 m3 m4 m5 m6 m7 m8 m9 m10 m11 mf ml
    go_wp2_with fail
    refine hpr.out.mono ?_
    rintro e w7 ⟨v7, rfl, hv7, hT7, hM7⟩
    clear hpr
    have htB : ∀ b ∈ ownT bt bmm vo vh vg, b < B := fun b hb => by have h1 := hown.out b (List.mem_append_right _ (hto.out b hb)); have h2 := hB.out; omega
    have hvq7 : shT.R w7 (.slice qa QN qc) E := (hvq6.out.keepS hM7.k (fun b hb e => by
      obtain ⟨cs, hc⟩ := hvq6.out.tag b e
      exact ((h.out.m.keeps hkd6.out).tag (hto.out b hb)).not (by decide) cs _ hc)).r
    have hsn := sameNeeds_c w7 v7 (.slice qa QN qc) _ _ hv7.r hvq7
    rw [decide_eq_true rfl] at hsn
    replace hsn := Lib.hid hsn
    replace hT7 := Lib.hid hT7
    replace hM7 := Lib.hid hM7
    clear hv7 hvq7
    go_wp2_with fail
    refine hsn.out.mono ?_
    rintro e w8 ⟨rfl, hk8⟩
    clear hsn
    obtain ⟨hTn, hMn⟩ := (h.out.m.keeps hkd6.out).setA hiA hAi.out (hT7.out.keeps hk8) (hM7.out.trans (Mv.nil hk8)) (by have h1 := hid3.out; exact congrArg (fun p => (p.1, p.2.1)) h1)
    have hZ7 := (hM7.out.k.block _ (lt_of_blk hZ6.out) (fun hm => by have := htB _ hm; omega)).trans hZ6.out
    have hZ8 := (hk8.block _ (lt_of_blk hZ7) (by simp)).trans hZ7
    obtain ⟨v0, v1, v2, v3, vf, vl⟩ := cl4 hZ8
    replace hZ8 := Lib.hid hZ8
    replace hTn := Lib.hid hTn
    replace hMn := Lib.hid hMn
    clear hT7 hM7 htB hZ7 hk8
    go_wp2
    obtain ⟨g1, g2⟩ := sc4 (.int .i64 u0) (.int .i64 u1) (.slice u2 u3 u4) (.slice u5 u6 u7) hZ8.out
    obtain ⟨f1, f2⟩ := h.out.fin hkd6.out hRw.out (Keeps.refl [] w6) hTn.out hMn.out g2 (by have := hB.out; omega) hZ8.out
    refine bodyPost_ret (results_rt2 rfl _ _ _ _ _ _ _ _ _ rfl g1) rfl ?_
    exact ⟨⟨u0, u1, (u2, u3, u4), (u5, u6, u7)⟩, vc, _, rfl, by rw [hstep.out]; exact f1, f2⟩
  · subst e'
    cases sb with
    | true =>
      have hs1 : t.state = 1 := by have h1 := hsb.out; simpa using h1
      have hcm := hmc.out hs1
      have hstep : Op5.step ⟨3, oi, on, oS, oa, (id0, id1)⟩ T = T.setT i (t.agreeT t.mach).1 := by rw [hat.out hk.out, if_neg (by simp), if_neg (by simp), if_pos ⟨rfl, hs1⟩]
      rw [← hcm] at hstep
      have hS := agreeR_c W2 ⟨q0, q1, q2, q3, q4, q5, (q6, q7, q8), (q9, q10, q11), q12, (q13, q14, q15), q16, (q17, q18, q19)⟩ t c0 (hRy.out.keeps hkw3.out) hinv.out (by have := hqs.out; omega) (by have := hag.out; omega) hbnd.out.s1
      unfold RPost at hS
      simp only [rfV, slv] at hS
      obtain ⟨U, hU⟩ : ∃ U, t.agreeT c0 = U := ⟨_, rfl⟩
      have hid3 := Tr.agreeT_id t c0
      rw [hU] at hS hid3 hstep
      obtain ⟨U, E⟩ := U
      replace hstep := Lib.hid hstep
      replace hU := Lib.hid hU
      replace hS := Lib.hid hS
      replace hid3 := Lib.hid hid3
      replace hs1 := Lib.hid hs1
      replace hcm := Lib.hid hcm
      go_wp2_with fail
      refine hS.out.mono ?_
      rintro e w5 ⟨xs, rfl, hR5, hk5, hF5⟩
      clear hS
      have hsC : B + 1 + 1 < XC := hsC0.out
      obtain ⟨p0, p1, p2, p3, p4, p5, ⟨p6, p7, p8⟩, ⟨p9, p10, p11⟩, p12, ⟨p13, p14, p15⟩, p16, ⟨p17, p18, p19⟩⟩ := xs
      simp only [rfV, slv]
      have hk5M := hk5.alloc (.cells #[.int .i64 p0, .int .i64 p1, .int .i64 p2, .int .u64 p3, .int .i64 p4, .int .i64 p5, .slice p6 p7 p8, .slice p9 p10 p11, .int .i64 p12, .slice p13 p14 p15, .bool p16, .slice p17 p18 p19] tR)
      have hbV := heap_alloc_new w5 (.cells #[.int .i64 p0, .int .i64 p1, .int .i64 p2, .int .u64 p3, .int .i64 p4, .int .i64 p5, .slice p6 p7 p8, .slice p9 p10 p11, .int .i64 p12, .slice p13 p14 p15, .bool p16, .slice p17 p18 p19] tR)
      have hR5M := (hR5.keeps ((Keeps.refl [] w5).alloc (.cells #[.int .i64 p0, .int .i64 p1, .int .i64 p2, .int .u64 p3, .int .i64 p4, .int .i64 p5, .slice p6 p7 p8, .slice p9 p10 p11, .int .i64 p12, .slice p13 p14 p15, .bool p16, .slice p17 p18 p19] tR))).keeps ((Keeps.refl [] (w5.alloc (.cells #[.int .i64 p0, .int .i64 p1, .int .i64 p2, .int .u64 p3, .int .i64 p4, .int .i64 p5, .slice p6 p7 p8, .slice p9 p10 p11, .int .i64 p12, .slice p13 p14 p15, .bool p16, .slice p17 p18 p19] tR))).drew)
      have hzL : B + 1 + 1 < W2.heap.size := lt_of_blk hbZ.out
      have hbk5 : ∀ b ∈ blks (⟨p0, p1, p2, p3, p4, p5, (p6, p7, p8), (p9, p10, p11), p12, (p13, p14, p15), p16, (p17, p18, p19)⟩ : RfV), b < (w5.alloc (.cells #[.int .i64 p0, .int .i64 p1, .int .i64 p2, .int .u64 p3, .int .i64 p4, .int .i64 p5, .slice p6 p7 p8, .slice p9 p10 p11, .int .i64 p12, .slice p13 p14 p15, .bool p16, .slice p17 p18 p19] tR)).drew.heap.size ∧ b ∉ (B + 1 + 1) :: (P ++ ownTc bp bm vc A) := fun b hb => by
        have h3 : w5.heap.size ≤ (w5.alloc (.cells #[.int .i64 p0, .int .i64 p1, .int .i64 p2, .int .u64 p3, .int .i64 p4, .int .i64 p5, .slice p6 p7 p8, .slice p9 p10 p11, .int .i64 p12, .slice p13 p14 p15, .bool p16, .slice p17 p18 p19] tR)).heap.size := ((Keeps.refl [] w5).alloc (.cells #[.int .i64 p0, .int .i64 p1, .int .i64 p2, .int .u64 p3, .int .i64 p4, .int .i64 p5, .slice p6 p7 p8, .slice p9 p10 p11, .int .i64 p12, .slice p13 p14 p15, .bool p16, .slice p17 p18 p19] tR)).size
        have h4 : (w5.alloc (.cells #[.int .i64 p0, .int .i64 p1, .int .i64 p2, .int .u64 p3, .int .i64 p4, .int .i64 p5, .slice p6 p7 p8, .slice p9 p10 p11, .int .i64 p12, .slice p13 p14 p15, .bool p16, .slice p17 p18 p19] tR)).drew.heap.size = (w5.alloc (.cells #[.int .i64 p0, .int .i64 p1, .int .i64 p2, .int .u64 p3, .int .i64 p4, .int .i64 p5, .slice p6 p7 p8, .slice p9 p10 p11, .int .i64 p12, .slice p13 p14 p15, .bool p16, .slice p17 p18 p19] tR)).heap.size := rfl
        have h5 := hk5.size
        have h6 := hkw3.out.size
        rcases hF5 b hb with h1 | h1
        · obtain ⟨h2, h7⟩ := hbk.out b h1
          exact ⟨by omega, h7⟩
        · refine ⟨by omega, fun hm => ?_⟩
          simp only [List.mem_cons] at hm
          rcases hm with e | e
          · omega
          · have := hown.out b e; omega
      have hkd := hkw3.out.trans (hk5M.drew)
      have hs5 := hk5.size
      replace hbV := Lib.hid hbV
      replace hR5M := Lib.hid hR5M
      replace hbk5 := Lib.hid hbk5
      replace hk5M := Lib.hid hk5M
      replace hkd := Lib.hid hkd
      replace hzL := Lib.hid hzL
      clear hk5 hR5 hF5
      go_upto_region 24 with fail
      generalize (w5.alloc (.cells #[.int .i64 p0, .int .i64 p1, .int .i64 p2, .int .u64 p3, .int .i64 p4, .int .i64 p5, .slice p6 p7 p8, .slice p9 p10 p11, .int .i64 p12, .slice p13 p14 p15, .bool p16, .slice p17 p18 p19] tR)) = W5 at *
      obtain ⟨XV, hXV⟩ : ∃ X, w5.heap.size = X := ⟨_, rfl⟩
      rw [hXV] at hbV hs5 ⊢
      replace hXV := Lib.hid hXV
      replace hk5M := hk5M.out.drew
      replace hkd := hkd.out
      clear z0 z1 z2 z3 zf zl r0 r1 r2 r3 r4 r5 r6 r7 r8 r9 r10 r11 r12 r13 rf rl e0 e1 e2 e3 e4 e5 e6 e7 e8 e9 e10 e11 ef el j0 j1 j2 j3 j4 jf jl
      have hbVd : W5.drew.heap[XV]? = _ := hbV.out
      have hZd : W5.drew.heap[B + 1 + 1]? = _ := (hk5M.block _ (lt_of_blk hbZ.out) (by simp)).trans hbZ.out
      have hbXd : W5.drew.heap[B]? = _ := (hk5M.block _ (lt_of_blk hbX.out) (by simp)).trans hbX.out
      obtain ⟨z0, z1, z2, z3, zf, zl⟩ := cl4 hbXd
      have hbCd : W5.drew.heap[XC]? = _ := (hk5M.block _ (lt_of_blk hbC.out) (by simp)).trans hbC.out
      obtain ⟨j0, j1, j2, j3, j4, jf, jl⟩ := cl5 hbCd
      obtain ⟨m0, m1, m2, m3, m4, m5, m6, m7, m8, m9, m10, m11, mf, ml⟩ := cl12 hbVd
      have hsV : B + 1 + 1 < XV := by have := hzL.out; omega
      have hZl := lt_of_blk hZd
      have hwith := rwith_c ((B + 1 + 1) :: (P ++ ownTc bp bm vc A)) W5.drew _ T i (⟨p0, p1, p2, p3, p4, p5, (p6, p7, p8), (p9, p10, p11), p12, (p13, p14, p15), p16, (p17, p18, p19)⟩ : RfV) U (hZs.out.keeps hkd) (fun b hb => by
        simp only [List.mem_cons] at hb
        rcases hb with e | e
        · have := hzL.out; omega
        · have h1 := hown.out b e; have h2 := hkd.size; omega) hiT0.out (by rw [hN.out]; have := hal.out; have := hk0.out; omega) hR5M.out hbk5.out
      simp only [rtV, rfV, slv] at hwith
      replace hwith := Lib.hid hwith
      have hprog : ∀ w6, Keeps [] W5.drew w6 → Calls Tryz.prog 39 #[.pointer (some ⟨bt, 0, none⟩), .int .i64 c0] w6 fun e w' => ∃ vg', e = .returned (.int .i64 E) ∧ TrM w' B0 bt bmm vo vh vg' U ∧ Mv (ownT bt bmm vo vh vg) (ownT bt bmm vo vh vg') w6 w' := fun w6 hk6 => by
        have := agree_c w6 B0 bt bmm vo vh vg t c0 (hTm.out.keeps (hkd.trans hk6)) (by have := hqs.out; omega) (by have := hag.out; omega) hbnd.out.s1
        unfold AgrPost at this
        rwa [hU.out] at this
      replace hprog := Lib.hid hprog
      replace hkd := Lib.hid hkd
      replace hZd := Lib.hid hZd
      replace hk5M := Lib.hid hk5M
      clear hbVd hbXd hbCd hs5 hbk5 hR5M
      refine Free.wp_region_chain (fun i => i == 3 || i == 7 || i == 10) (fun i => true) (fun _ b => b < B ∨ b = B + 1 + 1) (by kernel_rfl) (by kernel_rfl) (by kernel_rfl) ?_
      generalize W5.drew = wd at *
      (repeat (first | (apply Free.cw_pure rfl rfl; (intro w'; go_simp <;> exact rfl); go_frame) | (apply Free.cw_steady rfl rfl rfl; (intro w' hS; have q0 := Free.sx_cell hS z0 (fun _ _ hT => by rcases hT with hT | hT <;> omega); have q1 := Free.sx_cell hS z1 (fun _ _ hT => by rcases hT with hT | hT <;> omega); have q2 := Free.sx_cell hS z2 (fun _ _ hT => by rcases hT with hT | hT <;> omega); have q3 := Free.sx_cell hS z3 (fun _ _ hT => by rcases hT with hT | hT <;> omega); have q4 := Free.sx_cell hS m0 (fun _ _ hT => by rcases hT with hT | hT <;> omega); have q5 := Free.sx_cell hS m1 (fun _ _ hT => by rcases hT with hT | hT <;> omega); have q6 := Free.sx_cell hS m2 (fun _ _ hT => by rcases hT with hT | hT <;> omega); have q7 := Free.sx_cell hS m3 (fun _ _ hT => by rcases hT with hT | hT <;> omega); have q8 := Free.sx_cell hS m4 (fun _ _ hT => by rcases hT with hT | hT <;> omega); have q9 := Free.sx_cell hS m5 (fun _ _ hT => by rcases hT with hT | hT <;> omega); have q10 := Free.sx_cell hS m6 (fun _ _ hT => by rcases hT with hT | hT <;> omega); have q11 := Free.sx_cell hS m7 (fun _ _ hT => by rcases hT with hT | hT <;> omega); have q12 := Free.sx_cell hS m8 (fun _ _ hT => by rcases hT with hT | hT <;> omega); have q13 := Free.sx_cell hS m9 (fun _ _ hT => by rcases hT with hT | hT <;> omega); have q14 := Free.sx_cell hS m10 (fun _ _ hT => by rcases hT with hT | hT <;> omega); have q15 := Free.sx_cell hS m11 (fun _ _ hT => by rcases hT with hT | hT <;> omega); have q16 := Free.sx_cell hS j0 (fun _ _ hT => by rcases hT with hT | hT <;> omega); go_simp <;> exact rfl); go_frame) | (refine Free.cw_skip rfl ?_; go_frame)))
      refine Free.cw_loud rfl rfl (fun K hK => ?_)
      go_wp2_with fail
      refine hwith.out.mono ?_
      rintro e w6 ⟨xw, rfl, hRw, hk6⟩
      refine hK _ _ rfl (Free.KeepsP.of hk6 (by simp)) ?_
      clear hK K hwith
      obtain ⟨u0, u1, ⟨u2, u3, u4⟩, ⟨u5, u6, u7⟩⟩ := xw
      simp only [rtV, slv]
      have hpr := hprog.out w6 hk6
      have hkd6 := Lib.hid (hkd.out.trans hk6)
      have hZ6 := Lib.hid ((hk6.block _ hZl (by simp)).trans hZd.out)
      replace hpr := Lib.hid hpr
      replace hRw := Lib.hid hRw
      clear hk6 hprog
      (repeat (first | (apply Free.cw_pure rfl rfl; (intro w'; go_simp <;> exact rfl); go_frame) | (apply Free.cw_steady rfl rfl rfl; (intro w' hS; have q0 := Free.sx_cell hS z0 (fun _ _ hT => by rcases hT with hT | hT <;> omega); have q1 := Free.sx_cell hS z1 (fun _ _ hT => by rcases hT with hT | hT <;> omega); have q2 := Free.sx_cell hS z2 (fun _ _ hT => by rcases hT with hT | hT <;> omega); have q3 := Free.sx_cell hS z3 (fun _ _ hT => by rcases hT with hT | hT <;> omega); have q4 := Free.sx_cell hS m0 (fun _ _ hT => by rcases hT with hT | hT <;> omega); have q5 := Free.sx_cell hS m1 (fun _ _ hT => by rcases hT with hT | hT <;> omega); have q6 := Free.sx_cell hS m2 (fun _ _ hT => by rcases hT with hT | hT <;> omega); have q7 := Free.sx_cell hS m3 (fun _ _ hT => by rcases hT with hT | hT <;> omega); have q8 := Free.sx_cell hS m4 (fun _ _ hT => by rcases hT with hT | hT <;> omega); have q9 := Free.sx_cell hS m5 (fun _ _ hT => by rcases hT with hT | hT <;> omega); have q10 := Free.sx_cell hS m6 (fun _ _ hT => by rcases hT with hT | hT <;> omega); have q11 := Free.sx_cell hS m7 (fun _ _ hT => by rcases hT with hT | hT <;> omega); have q12 := Free.sx_cell hS m8 (fun _ _ hT => by rcases hT with hT | hT <;> omega); have q13 := Free.sx_cell hS m9 (fun _ _ hT => by rcases hT with hT | hT <;> omega); have q14 := Free.sx_cell hS m10 (fun _ _ hT => by rcases hT with hT | hT <;> omega); have q15 := Free.sx_cell hS m11 (fun _ _ hT => by rcases hT with hT | hT <;> omega); have q16 := Free.sx_cell hS j0 (fun _ _ hT => by rcases hT with hT | hT <;> omega); go_simp <;> exact rfl); go_frame) | (refine Free.cw_skip rfl ?_; go_frame)))
      refine Free.cw_loud rfl rfl (fun K hK => ?_)
      go_wp2_with fail
      refine hpr.out.mono ?_
      rintro e w7 ⟨vg', rfl, hT7, hM7⟩
      have htB : ∀ b ∈ ownT bt bmm vo vh vg, b < B := fun b hb => by have h1 := hown.out b (List.mem_append_right _ (hto.out b hb)); have h2 := hB.out; omega
      refine hK _ _ rfl (Free.KeepsP.of hM7.k (fun b hb => .inl (htB b hb))) ?_
      clear hK K hpr
      obtain ⟨hTn, hMn⟩ := (h.out.m.keeps hkd6.out).setA hiA hAi.out hT7 hM7 (by have h1 := hid3.out; exact congrArg (fun p => (p.1, p.2.1)) h1)
      have hZ7 := (hM7.k.block _ (lt_of_blk hZ6.out) (fun hm => by have := htB _ hm; omega)).trans hZ6.out
      obtain ⟨v0, v1, v2, v3, vf, vl⟩ := cl4 hZ7
      replace hZ7 := Lib.hid hZ7
      replace hTn := Lib.hid hTn
      replace hMn := Lib.hid hMn
      clear hT7 hM7 htB
      (repeat (apply Free.cw_pure rfl rfl; (intro w'; go_simp <;> exact rfl); go_frame))
      refine Free.cw_loud rfl rfl (fun K hK => ?_)
      go_wp2
      obtain ⟨g1, g2⟩ := sc4 (.int .i64 u0) (.int .i64 u1) (.slice u2 u3 u4) (.slice u5 u6 u7) hZ7.out
      refine hK _ _ rfl (Free.KeepsP.of g2 (fun b hb => .inr (by simpa using hb))) ?_
      clear hK K
      obtain ⟨f1, f2⟩ := h.out.fin hkd6.out hRw.out (Keeps.refl [] w6) hTn.out hMn.out g2 (by have := hB.out; omega) hZ7.out
      replace g1 := Lib.hid g1
      replace f1 := Lib.hid f1
      replace f2 := Lib.hid f2
      clear g2 hZl
      (repeat (apply Free.cw_pure rfl rfl; (intro w'; go_simp <;> exact rfl); go_frame))
      refine Free.cw_nil ?_
      go_wp2
      refine bodyPost_ret (results_rt2 rfl _ _ _ _ _ _ _ _ _ rfl g1.out) rfl ?_
      exact ⟨⟨u0, u1, (u2, u3, u4), (u5, u6, u7)⟩, vc, _, rfl, by rw [hstep.out]; exact f1.out, f2.out⟩
    | false =>
      have hs1 : ¬ t.state = 1 := by have h1 := hsb.out; simpa using h1
      have hstep : Op5.step ⟨3, oi, on, oS, oa, (id0, id1)⟩ T = T := by rw [hat.out hk.out]; simp [hs1]
      replace hstep := Lib.hid hstep
      replace hs1 := Lib.hid hs1
      obtain ⟨v0, v1, v2, v3, vf, vl⟩ := cl4 hbZ.out
      go_wp2
      obtain ⟨g1, g2⟩ := sc4 (.int .i64 x0) (.int .i64 x1) (.slice (some ⟨g, gof, none⟩) x3 x4) (.slice x5 x6 x7) hbZ.out
      obtain ⟨f1, f2⟩ := h.out.fin hkw3.out (hZs.out.keeps hkw3.out) (Keeps.refl [] W2) (h.out.m.keeps hkw3.out) (Mv.nil (Keeps.refl [] W2)) g2 (by have := hB.out; omega) hbZ.out
      refine bodyPost_ret (results_rt2 rfl _ _ _ _ _ _ _ _ _ rfl g1) rfl ?_
      exact ⟨⟨x0, x1, (some ⟨g, gof, none⟩, x3, x4), (x5, x6, x7)⟩, vc, A, rfl, by rw [hstep.out]; exact f1, f2⟩
  · subst e'
    cases sb with
    | true =>
      have hs1 : t.state = 1 := by have h1 := hsb.out; simpa using h1
      have hcm := hmc.out hs1
      have hstep : Op5.step ⟨4, oi, on, oS, oa, (id0, id1)⟩ T = T.setT i (t.refuseT t.mach).1 := by rw [hat.out hk.out, if_neg (by simp), if_neg (by simp), if_neg (by simp), if_pos ⟨rfl, hs1⟩]
      rw [← hcm] at hstep
      have hS := refuseR_c W2 ⟨q0, q1, q2, q3, q4, q5, (q6, q7, q8), (q9, q10, q11), q12, (q13, q14, q15), q16, (q17, q18, q19)⟩ t c0 (hRy.out.keeps hkw3.out) hinv.out (by have := hqs.out; omega)  hbnd.out.s1
      unfold RPost at hS
      simp only [rfV, slv] at hS
      obtain ⟨U, hU⟩ : ∃ U, t.refuseT c0 = U := ⟨_, rfl⟩
      have hid3 := Tr.refuseT_id t c0
      rw [hU] at hS hid3 hstep
      obtain ⟨U, E⟩ := U
      replace hstep := Lib.hid hstep
      replace hU := Lib.hid hU
      replace hS := Lib.hid hS
      replace hid3 := Lib.hid hid3
      replace hs1 := Lib.hid hs1
      replace hcm := Lib.hid hcm
      go_wp2_with fail
      refine hS.out.mono ?_
      rintro e w5 ⟨xs, rfl, hR5, hk5, hF5⟩
      clear hS
      have hsC : B + 1 + 1 < XC := hsC0.out
      obtain ⟨p0, p1, p2, p3, p4, p5, ⟨p6, p7, p8⟩, ⟨p9, p10, p11⟩, p12, ⟨p13, p14, p15⟩, p16, ⟨p17, p18, p19⟩⟩ := xs
      simp only [rfV, slv]
      have hk5M := hk5.alloc (.cells #[.int .i64 p0, .int .i64 p1, .int .i64 p2, .int .u64 p3, .int .i64 p4, .int .i64 p5, .slice p6 p7 p8, .slice p9 p10 p11, .int .i64 p12, .slice p13 p14 p15, .bool p16, .slice p17 p18 p19] tR)
      have hbV := heap_alloc_new w5 (.cells #[.int .i64 p0, .int .i64 p1, .int .i64 p2, .int .u64 p3, .int .i64 p4, .int .i64 p5, .slice p6 p7 p8, .slice p9 p10 p11, .int .i64 p12, .slice p13 p14 p15, .bool p16, .slice p17 p18 p19] tR)
      have hR5M := (hR5.keeps ((Keeps.refl [] w5).alloc (.cells #[.int .i64 p0, .int .i64 p1, .int .i64 p2, .int .u64 p3, .int .i64 p4, .int .i64 p5, .slice p6 p7 p8, .slice p9 p10 p11, .int .i64 p12, .slice p13 p14 p15, .bool p16, .slice p17 p18 p19] tR))).keeps ((Keeps.refl [] (w5.alloc (.cells #[.int .i64 p0, .int .i64 p1, .int .i64 p2, .int .u64 p3, .int .i64 p4, .int .i64 p5, .slice p6 p7 p8, .slice p9 p10 p11, .int .i64 p12, .slice p13 p14 p15, .bool p16, .slice p17 p18 p19] tR))).drew)
      have hzL : B + 1 + 1 < W2.heap.size := lt_of_blk hbZ.out
      have hbk5 : ∀ b ∈ blks (⟨p0, p1, p2, p3, p4, p5, (p6, p7, p8), (p9, p10, p11), p12, (p13, p14, p15), p16, (p17, p18, p19)⟩ : RfV), b < (w5.alloc (.cells #[.int .i64 p0, .int .i64 p1, .int .i64 p2, .int .u64 p3, .int .i64 p4, .int .i64 p5, .slice p6 p7 p8, .slice p9 p10 p11, .int .i64 p12, .slice p13 p14 p15, .bool p16, .slice p17 p18 p19] tR)).drew.heap.size ∧ b ∉ (B + 1 + 1) :: (P ++ ownTc bp bm vc A) := fun b hb => by
        have h3 : w5.heap.size ≤ (w5.alloc (.cells #[.int .i64 p0, .int .i64 p1, .int .i64 p2, .int .u64 p3, .int .i64 p4, .int .i64 p5, .slice p6 p7 p8, .slice p9 p10 p11, .int .i64 p12, .slice p13 p14 p15, .bool p16, .slice p17 p18 p19] tR)).heap.size := ((Keeps.refl [] w5).alloc (.cells #[.int .i64 p0, .int .i64 p1, .int .i64 p2, .int .u64 p3, .int .i64 p4, .int .i64 p5, .slice p6 p7 p8, .slice p9 p10 p11, .int .i64 p12, .slice p13 p14 p15, .bool p16, .slice p17 p18 p19] tR)).size
        have h4 : (w5.alloc (.cells #[.int .i64 p0, .int .i64 p1, .int .i64 p2, .int .u64 p3, .int .i64 p4, .int .i64 p5, .slice p6 p7 p8, .slice p9 p10 p11, .int .i64 p12, .slice p13 p14 p15, .bool p16, .slice p17 p18 p19] tR)).drew.heap.size = (w5.alloc (.cells #[.int .i64 p0, .int .i64 p1, .int .i64 p2, .int .u64 p3, .int .i64 p4, .int .i64 p5, .slice p6 p7 p8, .slice p9 p10 p11, .int .i64 p12, .slice p13 p14 p15, .bool p16, .slice p17 p18 p19] tR)).heap.size := rfl
        have h5 := hk5.size
        have h6 := hkw3.out.size
        rcases hF5 b hb with h1 | h1
        · obtain ⟨h2, h7⟩ := hbk.out b h1
          exact ⟨by omega, h7⟩
        · refine ⟨by omega, fun hm => ?_⟩
          simp only [List.mem_cons] at hm
          rcases hm with e | e
          · omega
          · have := hown.out b e; omega
      have hkd := hkw3.out.trans (hk5M.drew)
      have hs5 := hk5.size
      replace hbV := Lib.hid hbV
      replace hR5M := Lib.hid hR5M
      replace hbk5 := Lib.hid hbk5
      replace hk5M := Lib.hid hk5M
      replace hkd := Lib.hid hkd
      replace hzL := Lib.hid hzL
      clear hk5 hR5 hF5
      go_upto_region 27 with fail
      generalize (w5.alloc (.cells #[.int .i64 p0, .int .i64 p1, .int .i64 p2, .int .u64 p3, .int .i64 p4, .int .i64 p5, .slice p6 p7 p8, .slice p9 p10 p11, .int .i64 p12, .slice p13 p14 p15, .bool p16, .slice p17 p18 p19] tR)) = W5 at *
      obtain ⟨XV, hXV⟩ : ∃ X, w5.heap.size = X := ⟨_, rfl⟩
      rw [hXV] at hbV hs5 ⊢
      replace hXV := Lib.hid hXV
      replace hk5M := hk5M.out.drew
      replace hkd := hkd.out
      clear z0 z1 z2 z3 zf zl r0 r1 r2 r3 r4 r5 r6 r7 r8 r9 r10 r11 r12 r13 rf rl e0 e1 e2 e3 e4 e5 e6 e7 e8 e9 e10 e11 ef el j0 j1 j2 j3 j4 jf jl
      have hbVd : W5.drew.heap[XV]? = _ := hbV.out
      have hZd : W5.drew.heap[B + 1 + 1]? = _ := (hk5M.block _ (lt_of_blk hbZ.out) (by simp)).trans hbZ.out
      have hbXd : W5.drew.heap[B]? = _ := (hk5M.block _ (lt_of_blk hbX.out) (by simp)).trans hbX.out
      obtain ⟨z0, z1, z2, z3, zf, zl⟩ := cl4 hbXd
      have hbCd : W5.drew.heap[XC]? = _ := (hk5M.block _ (lt_of_blk hbC.out) (by simp)).trans hbC.out
      obtain ⟨j0, j1, j2, j3, j4, jf, jl⟩ := cl5 hbCd
      obtain ⟨m0, m1, m2, m3, m4, m5, m6, m7, m8, m9, m10, m11, mf, ml⟩ := cl12 hbVd
      have hsV : B + 1 + 1 < XV := by have := hzL.out; omega
      have hZl := lt_of_blk hZd
      have hwith := rwith_c ((B + 1 + 1) :: (P ++ ownTc bp bm vc A)) W5.drew _ T i (⟨p0, p1, p2, p3, p4, p5, (p6, p7, p8), (p9, p10, p11), p12, (p13, p14, p15), p16, (p17, p18, p19)⟩ : RfV) U (hZs.out.keeps hkd) (fun b hb => by
        simp only [List.mem_cons] at hb
        rcases hb with e | e
        · have := hzL.out; omega
        · have h1 := hown.out b e; have h2 := hkd.size; omega) hiT0.out (by rw [hN.out]; have := hal.out; have := hk0.out; omega) hR5M.out hbk5.out
      simp only [rtV, rfV, slv] at hwith
      replace hwith := Lib.hid hwith
      have hprog : ∀ w6, Keeps [] W5.drew w6 → Calls Tryz.prog 41 #[.pointer (some ⟨bt, 0, none⟩), .int .i64 c0] w6 fun e w' => e = .returned (.int .i64 E) ∧ TrM w' B0 bt bmm vo vh vg U ∧ Mv (ownT bt bmm vo vh vg) (ownT bt bmm vo vh vg) w6 w' := fun w6 hk6 => by
        have := (refuse_c w6 B0 bt bmm vo vh vg t c0 (hTm.out.keeps (hkd.trans hk6)) (by have := hqs.out; omega) (fun hs P Y hY hP => by rw [Tr.clm_eq hinv.out hY hP]; exact hbnd.out.s1 hs)).mono fun e w' hp => hp.t hinv.out
        rwa [hU.out] at this
      replace hprog := Lib.hid hprog
      replace hkd := Lib.hid hkd
      replace hZd := Lib.hid hZd
      replace hk5M := Lib.hid hk5M
      clear hbVd hbXd hbCd hs5 hbk5 hR5M
      refine Free.wp_region_chain (fun i => i == 3 || i == 7 || i == 10) (fun i => true) (fun _ b => b < B ∨ b = B + 1 + 1) (by kernel_rfl) (by kernel_rfl) (by kernel_rfl) ?_
      generalize W5.drew = wd at *
      (repeat (first | (apply Free.cw_pure rfl rfl; (intro w'; go_simp <;> exact rfl); go_frame) | (apply Free.cw_steady rfl rfl rfl; (intro w' hS; have q0 := Free.sx_cell hS z0 (fun _ _ hT => by rcases hT with hT | hT <;> omega); have q1 := Free.sx_cell hS z1 (fun _ _ hT => by rcases hT with hT | hT <;> omega); have q2 := Free.sx_cell hS z2 (fun _ _ hT => by rcases hT with hT | hT <;> omega); have q3 := Free.sx_cell hS z3 (fun _ _ hT => by rcases hT with hT | hT <;> omega); have q4 := Free.sx_cell hS m0 (fun _ _ hT => by rcases hT with hT | hT <;> omega); have q5 := Free.sx_cell hS m1 (fun _ _ hT => by rcases hT with hT | hT <;> omega); have q6 := Free.sx_cell hS m2 (fun _ _ hT => by rcases hT with hT | hT <;> omega); have q7 := Free.sx_cell hS m3 (fun _ _ hT => by rcases hT with hT | hT <;> omega); have q8 := Free.sx_cell hS m4 (fun _ _ hT => by rcases hT with hT | hT <;> omega); have q9 := Free.sx_cell hS m5 (fun _ _ hT => by rcases hT with hT | hT <;> omega); have q10 := Free.sx_cell hS m6 (fun _ _ hT => by rcases hT with hT | hT <;> omega); have q11 := Free.sx_cell hS m7 (fun _ _ hT => by rcases hT with hT | hT <;> omega); have q12 := Free.sx_cell hS m8 (fun _ _ hT => by rcases hT with hT | hT <;> omega); have q13 := Free.sx_cell hS m9 (fun _ _ hT => by rcases hT with hT | hT <;> omega); have q14 := Free.sx_cell hS m10 (fun _ _ hT => by rcases hT with hT | hT <;> omega); have q15 := Free.sx_cell hS m11 (fun _ _ hT => by rcases hT with hT | hT <;> omega); have q16 := Free.sx_cell hS j0 (fun _ _ hT => by rcases hT with hT | hT <;> omega); go_simp <;> exact rfl); go_frame) | (refine Free.cw_skip rfl ?_; go_frame)))
      refine Free.cw_loud rfl rfl (fun K hK => ?_)
      go_wp2_with fail
      refine hwith.out.mono ?_
      rintro e w6 ⟨xw, rfl, hRw, hk6⟩
      refine hK _ _ rfl (Free.KeepsP.of hk6 (by simp)) ?_
      clear hK K hwith
      obtain ⟨u0, u1, ⟨u2, u3, u4⟩, ⟨u5, u6, u7⟩⟩ := xw
      simp only [rtV, slv]
      have hpr := hprog.out w6 hk6
      have hkd6 := Lib.hid (hkd.out.trans hk6)
      have hZ6 := Lib.hid ((hk6.block _ hZl (by simp)).trans hZd.out)
      replace hpr := Lib.hid hpr
      replace hRw := Lib.hid hRw
      clear hk6 hprog
      (repeat (first | (apply Free.cw_pure rfl rfl; (intro w'; go_simp <;> exact rfl); go_frame) | (apply Free.cw_steady rfl rfl rfl; (intro w' hS; have q0 := Free.sx_cell hS z0 (fun _ _ hT => by rcases hT with hT | hT <;> omega); have q1 := Free.sx_cell hS z1 (fun _ _ hT => by rcases hT with hT | hT <;> omega); have q2 := Free.sx_cell hS z2 (fun _ _ hT => by rcases hT with hT | hT <;> omega); have q3 := Free.sx_cell hS z3 (fun _ _ hT => by rcases hT with hT | hT <;> omega); have q4 := Free.sx_cell hS m0 (fun _ _ hT => by rcases hT with hT | hT <;> omega); have q5 := Free.sx_cell hS m1 (fun _ _ hT => by rcases hT with hT | hT <;> omega); have q6 := Free.sx_cell hS m2 (fun _ _ hT => by rcases hT with hT | hT <;> omega); have q7 := Free.sx_cell hS m3 (fun _ _ hT => by rcases hT with hT | hT <;> omega); have q8 := Free.sx_cell hS m4 (fun _ _ hT => by rcases hT with hT | hT <;> omega); have q9 := Free.sx_cell hS m5 (fun _ _ hT => by rcases hT with hT | hT <;> omega); have q10 := Free.sx_cell hS m6 (fun _ _ hT => by rcases hT with hT | hT <;> omega); have q11 := Free.sx_cell hS m7 (fun _ _ hT => by rcases hT with hT | hT <;> omega); have q12 := Free.sx_cell hS m8 (fun _ _ hT => by rcases hT with hT | hT <;> omega); have q13 := Free.sx_cell hS m9 (fun _ _ hT => by rcases hT with hT | hT <;> omega); have q14 := Free.sx_cell hS m10 (fun _ _ hT => by rcases hT with hT | hT <;> omega); have q15 := Free.sx_cell hS m11 (fun _ _ hT => by rcases hT with hT | hT <;> omega); have q16 := Free.sx_cell hS j0 (fun _ _ hT => by rcases hT with hT | hT <;> omega); go_simp <;> exact rfl); go_frame) | (refine Free.cw_skip rfl ?_; go_frame)))
      refine Free.cw_loud rfl rfl (fun K hK => ?_)
      go_wp2_with fail
      refine hpr.out.mono ?_
      rintro e w7 ⟨rfl, hT7, hM7⟩
      have htB : ∀ b ∈ ownT bt bmm vo vh vg, b < B := fun b hb => by have h1 := hown.out b (List.mem_append_right _ (hto.out b hb)); have h2 := hB.out; omega
      refine hK _ _ rfl (Free.KeepsP.of hM7.k (fun b hb => .inl (htB b hb))) ?_
      clear hK K hpr
      obtain ⟨hTn, hMn⟩ := (h.out.m.keeps hkd6.out).setA hiA hAi.out hT7 hM7 (by have h1 := hid3.out; exact congrArg (fun p => (p.1, p.2.1)) h1)
      have hZ7 := (hM7.k.block _ (lt_of_blk hZ6.out) (fun hm => by have := htB _ hm; omega)).trans hZ6.out
      obtain ⟨v0, v1, v2, v3, vf, vl⟩ := cl4 hZ7
      replace hZ7 := Lib.hid hZ7
      replace hTn := Lib.hid hTn
      replace hMn := Lib.hid hMn
      clear hT7 hM7 htB
      (repeat (apply Free.cw_pure rfl rfl; (intro w'; go_simp <;> exact rfl); go_frame))
      refine Free.cw_loud rfl rfl (fun K hK => ?_)
      go_wp2
      obtain ⟨g1, g2⟩ := sc4 (.int .i64 u0) (.int .i64 u1) (.slice u2 u3 u4) (.slice u5 u6 u7) hZ7.out
      refine hK _ _ rfl (Free.KeepsP.of g2 (fun b hb => .inr (by simpa using hb))) ?_
      clear hK K
      obtain ⟨f1, f2⟩ := h.out.fin hkd6.out hRw.out (Keeps.refl [] w6) hTn.out hMn.out g2 (by have := hB.out; omega) hZ7.out
      replace g1 := Lib.hid g1
      replace f1 := Lib.hid f1
      replace f2 := Lib.hid f2
      clear g2 hZl
      (repeat (apply Free.cw_pure rfl rfl; (intro w'; go_simp <;> exact rfl); go_frame))
      refine Free.cw_nil ?_
      go_wp2
      refine bodyPost_ret (results_rt2 rfl _ _ _ _ _ _ _ _ _ rfl g1.out) rfl ?_
      exact ⟨⟨u0, u1, (u2, u3, u4), (u5, u6, u7)⟩, vc, _, rfl, by rw [hstep.out]; exact f1.out, f2.out⟩
    | false =>
      have hs1 : ¬ t.state = 1 := by have h1 := hsb.out; simpa using h1
      have hstep : Op5.step ⟨4, oi, on, oS, oa, (id0, id1)⟩ T = T := by rw [hat.out hk.out]; simp [hs1]
      replace hstep := Lib.hid hstep
      replace hs1 := Lib.hid hs1
      obtain ⟨v0, v1, v2, v3, vf, vl⟩ := cl4 hbZ.out
      go_wp2
      obtain ⟨g1, g2⟩ := sc4 (.int .i64 x0) (.int .i64 x1) (.slice (some ⟨g, gof, none⟩) x3 x4) (.slice x5 x6 x7) hbZ.out
      obtain ⟨f1, f2⟩ := h.out.fin hkw3.out (hZs.out.keeps hkw3.out) (Keeps.refl [] W2) (h.out.m.keeps hkw3.out) (Mv.nil (Keeps.refl [] W2)) g2 (by have := hB.out; omega) hbZ.out
      refine bodyPost_ret (results_rt2 rfl _ _ _ _ _ _ _ _ _ rfl g1) rfl ?_
      exact ⟨⟨x0, x1, (some ⟨g, gof, none⟩, x3, x4), (x5, x6, x7)⟩, vc, A, rfl, by rw [hstep.out]; exact f1, f2⟩
  · subst e'
    have hidq : t.idp = (q0, q1) := by rw [hq0.out, hq1.out]
    have hstep : Op5.step ⟨5, oi, on, oS, oa, (id0, id1)⟩ T = T.finish (q0, q1) := by rw [hat.out hk.out, if_neg (by simp), if_neg (by simp), if_neg (by simp), if_neg (by simp), if_pos rfl, hidq]
    have hspec := rfinish_c ((B + 1 + 1) :: (P ++ ownTc bp bm vc A)) W2 _ T (q0, q1) (hZs.out.keeps hkw3.out) (fun b hb => by
      simp only [List.mem_cons] at hb
      rcases hb with e | e
      · have := lt_of_blk hbZ.out; omega
      · have h1 := hown.out b e; have h2 := hkw3.out.size; omega) (by have h1 := ho.out.al; have h2 := hk0.out; omega) (by have h1 := ho.out.cl; have h2 := hn.out; omega) (fun t ht => by
        obtain ⟨a, ha, rfl⟩ := List.mem_map.1 (h.out.m.ac ▸ ht)
        have hb := ho.out.bnd _ ht
        exact ⟨(h.out.m.tr a ha).inv, by have h1 := hb.qs; have h2 := hn.out; omega, hb.rf⟩)
    have hprog : ∀ (W : World), Keeps [] w W → Calls Tryz.prog 22 #[ptrV bp, ipV (q0, q1)] W fun e w' => ∃ vc' A', e = .returned (.int .i64 (errF (T.find (q0, q1)))) ∧ TcM w' B0 bp bm vc' A' (T.finish (q0, q1)) ∧ Mv (ownTc bp bm vc A) (ownTc bp bm vc' A') W w' := fun W hk =>
      (tfinish_c W B0 bp bm vc A T n k0 (h.out.m.keeps hk) ho.out (by have := hn.out; omega) (by have := hk0.out; omega) (q0, q1) (hidq ▸ hidok.out)).mono fun e w' ⟨vc', A', h1, h2, h3⟩ => ⟨vc', A', by rw [h1, errF_eq], h2, h3⟩
    unfold RFinPost at hspec
    obtain ⟨E, hE⟩ : ∃ E, errF (T.find (q0, q1)) = E := ⟨_, rfl⟩
    rw [hE] at hspec
    simp only [hE] at hprog
    simp only [rtV, ipV, slv] at hspec
    simp only [ipV, ptrV] at hprog
    replace hspec := Lib.hid hspec
    replace hprog := Lib.hid hprog
    replace hstep := Lib.hid hstep
    replace hE := Lib.hid hE
    go_wp2_with fail
    refine hspec.out.mono ?_
    rintro e w5 ⟨xs, rfl, hR5, hk5⟩
    clear hspec
    obtain ⟨u0, u1, ⟨u2, u3, u4⟩, ⟨u5, u6, u7⟩⟩ := xs
    simp only [rtV, slv]
    have hk5M := hk5.alloc (.cells #[.int .i64 u0, .int .i64 u1, .slice u2 u3 u4, .slice u5 u6 u7] tRc)
    have hbV := heap_alloc_new w5 (.cells #[.int .i64 u0, .int .i64 u1, .slice u2 u3 u4, .slice u5 u6 u7] tRc)
    have hk25 := ((Keeps.refl [] w5).alloc (.cells #[.int .i64 u0, .int .i64 u1, .slice u2 u3 u4, .slice u5 u6 u7] tRc)).drew
    have hs5 := hk5.size
    have hkw5 := hkw3.out.trans hk5
    replace hk5M := Lib.hid hk5M
    replace hbV := Lib.hid hbV
    replace hR5 := Lib.hid hR5
    replace hk25 := Lib.hid hk25
    replace hkw5 := Lib.hid hkw5
    clear hk5
    go_upto_region 30 with fail
    generalize (w5.alloc (.cells #[.int .i64 u0, .int .i64 u1, .slice u2 u3 u4, .slice u5 u6 u7] tRc)) = W5 at *
    obtain ⟨XV, hXV⟩ : ∃ X, w5.heap.size = X := ⟨_, rfl⟩
    rw [hXV] at hbV hs5 ⊢
    have hkd := hk5M.out.drew
    have hbVd : W5.drew.heap[XV]? = _ := hbV.out
    have hZd : W5.drew.heap[B + 1 + 1]? = _ := (hk5M.out.block _ (lt_of_blk hbZ.out) (by simp)).trans hbZ.out
    have hOd : W5.drew.heap[XY]? = _ := (hk5M.out.block _ (lt_of_blk hbY.out) (by simp)).trans hbY.out
    have hsV : B + 1 + 1 < XV := by have := lt_of_blk hbZ.out; omega
    replace hkd := hkw3.out.trans hkd
    clear hs5
    clear z0 z1 z2 z3 zf zl r0 r1 r2 r3 r4 r5 r6 r7 r8 r9 r10 r11 r12 r13 rf rl e0 e1 e2 e3 e4 e5 e6 e7 e8 e9 e10 e11 ef el j0 j1 j2 j3 j4 jf jl
    obtain ⟨m0, m1, m2, m3, mf, ml⟩ := cl4 hbVd
    obtain ⟨e0, e1, e2, e3, e4, e5, e6, e7, e8, e9, e10, e11, ef, el⟩ := cl12 hOd
    have hpr := hprog.out W5.drew hkd
    have hZl := lt_of_blk hZd
    have hm5 := h.out.m.keeps hkd
    replace hXV := Lib.hid hXV
    replace hZd := Lib.hid hZd
    replace hkd := Lib.hid hkd
    replace hpr := Lib.hid hpr
    replace hm5 := Lib.hid hm5

    clear hbVd hOd hk5M hprog
    refine Free.wp_region_chain (fun i => i == 4 || i == 7) (fun i => true) (fun _ b => b < B ∨ b = B + 1 + 1) (by kernel_rfl) (by kernel_rfl) (by kernel_rfl) ?_
    generalize W5.drew = wd at *
    (repeat (first | (apply Free.cw_pure rfl rfl; (intro w'; go_simp <;> exact rfl); go_frame) | (apply Free.cw_steady rfl rfl rfl; (intro w' hS; have q0 := Free.sx_cell hS m0 (fun _ _ hT => by rcases hT with hT | hT <;> omega); have q1 := Free.sx_cell hS m1 (fun _ _ hT => by rcases hT with hT | hT <;> omega); have q2 := Free.sx_cell hS m2 (fun _ _ hT => by rcases hT with hT | hT <;> omega); have q3 := Free.sx_cell hS m3 (fun _ _ hT => by rcases hT with hT | hT <;> omega); have q4 := Free.sx_cell hS e0 (fun _ _ hT => by rcases hT with hT | hT <;> omega); have q5 := Free.sx_cell hS e1 (fun _ _ hT => by rcases hT with hT | hT <;> omega); go_simp <;> exact rfl); go_frame) | (refine Free.cw_skip rfl ?_; go_frame)))
    refine Free.cw_loud rfl rfl (fun K hK => ?_)
    go_wp2_with fail
    refine hpr.out.mono ?_
    rintro e w6 ⟨vc', A', rfl, hT6, hM6⟩
    refine hK _ _ rfl (Free.KeepsP.of hM6.k (fun b hb => .inl (by have h1 := hown.out b (List.mem_append_right _ hb); have h2 := hB.out; omega))) ?_
    clear hK K hpr
    have hZ6 := (hM6.k.block _ hZl (fun hm => by have h1 := hown.out _ (List.mem_append_right _ hm); have h2 := hB.out; omega)).trans hZd.out

    obtain ⟨v0, v1, v2, v3, vf, vl⟩ := cl4 hZ6
    replace hZ6 := Lib.hid hZ6
    replace hT6 := Lib.hid hT6
    replace hM6 := Lib.hid hM6
    (repeat (apply Free.cw_pure rfl rfl; (intro w'; go_simp <;> exact rfl); go_frame))
    refine Free.cw_loud rfl rfl (fun K hK => ?_)
    go_wp2
    obtain ⟨g1, g2⟩ := sc4 (.int .i64 u0) (.int .i64 u1) (.slice u2 u3 u4) (.slice u5 u6 u7) hZ6
    refine hK _ _ rfl (Free.KeepsP.of g2 (fun b hb => .inr (by simpa using hb))) ?_
    clear hK K
    obtain ⟨f1, f2⟩ := h.out.fin hkw5.out hR5.out hk25.out hT6.out hM6.out g2 (by have := hB.out; omega) hZ6.out
    replace g1 := Lib.hid g1
    replace f1 := Lib.hid f1
    replace f2 := Lib.hid f2
    clear g2 hZl
    (repeat (apply Free.cw_pure rfl rfl; (intro w'; go_simp <;> exact rfl); go_frame))
    refine Free.cw_nil ?_
    go_wp2
    refine bodyPost_ret (results_rt2 rfl _ _ _ _ _ _ _ _ _ rfl g1.out) rfl ?_
    exact ⟨⟨u0, u1, (u2, u3, u4), (u5, u6, u7)⟩, vc', A', rfl, by rw [hstep.out]; exact f1.out, f2.out⟩
end Go.Proofs.YtpobepninifenaaGreat

namespace Go.Proofs.YtpobepninifenaaGreat
open Go.RowKit

theorem InR.lt {w : World} {x : AnV} {a : Ans} (h : InR w x a) (hne : a.ins ≠ []) : ∀ b, x.v.ownBlock = some b → b < w.heap.size := fun b hb => by
  have hl : 0 < a.ins.length := List.length_pos_iff.2 hne
  obtain ⟨g, o, c, e, he⟩ := h.ins.elem hl
  rw [e] at hb
  simp [Value.ownBlock] at hb
  subst hb
  exact lt_of_cell (he 0 _ rfl)
end Go.Proofs.YtpobepninifenaaGreat

namespace Go.Proofs.YtpobepninifenaaGreat
open Go Go.RowKit

/-- Other blocks that nothing of it lies in. -/
theorem TB.sub {P Q : List Nat} {w w' : World} {B bp bm : Nat} {vc : Value} {A : List AT} {x : RtV} {T : Tc} (h : TB P w B bp bm vc A x T) (hk : Keeps [] w w') (hQ : ∀ b ∈ Q, (b ∈ P ∨ w.heap.size ≤ b) ∧ b < w'.heap.size) : TB Q w' B bp bm vc A x T :=
  ⟨h.m.keeps hk, (h.r.sub (fun b hb hl => by
    rcases List.mem_append.1 hb with e | e
    · rcases (hQ b e).1 with g | g
      · exact List.mem_append_left _ g
      · omega
    · exact List.mem_append_right _ e)).keeps hk, fun b hb => (hQ b hb).2⟩
/-- A store into one of the other blocks. -/
theorem TB.store {P : List Nat} {w w' : World} {B bp bm : Nat} {vc : Value} {A : List AT} {x : RtV} {T : Tc} {q : Nat} {cs : Array Value} (h : TB P w B bp bm vc A x T) (hq : q ∈ P) (hqt : w.heap[q]? = some (.cells cs tRc (0, 0))) (hk : Keeps [q] w w') : TB P w' B bp bm vc A x T := by
  have hne : ∀ (cs' : Array Value) (e : TypeId) (f : Nat × Nat), e ≠ tRc → w.heap[q]? ≠ some (Obj.cells cs' e f) := fun cs' e f he g => by rw [hqt] at g; cases g; exact he rfl
  refine ⟨h.m.keepT hk hqt (by decide) (by decide), h.r.keepO hk (fun b hb => ?_), fun b hb => Nat.lt_of_lt_of_le (h.pl b hb) hk.size⟩
  simp only [List.mem_singleton] at hb
  subst hb
  exact ⟨List.mem_append_left _ hq, fun cs' f => ⟨hne _ _ _ (by decide), hne _ _ _ (by decide), hne _ _ _ (by decide)⟩⟩
/-- A block with the tag of the specification's value is none of the tracer's. -/
theorem TB.notOwn {P : List Nat} {w : World} {B bp bm : Nat} {vc : Value} {A : List AT} {x : RtV} {T : Tc} {q : Nat} {cs : Array Value} (h : TB P w B bp bm vc A x T) (hqt : w.heap[q]? = some (.cells cs tRc (0, 0))) : q ∉ ownTc bp bm vc A := fun hm =>
  (h.m.tag hm).not (by decide) cs _ hqt
theorem TB.inv {P : List Nat} {w : World} {B bp bm : Nat} {vc : Value} {A : List AT} {x : RtV} {T : Tc} (h : TB P w B bp bm vc A x T) : ∀ t ∈ T.act, t.Inv := fun t ht => by
  obtain ⟨a, ha, rfl⟩ := List.mem_map.1 (h.m.ac ▸ ht)
  exact (h.m.tr a ha).inv
/-- What the operations make of a tracer. -/
def runT5 (L : List Op5) (T : Tc) : Tc := L.foldl (fun T o => o.step T) T
theorem runT5_take (L : List Op5) (T : Tc) (k : Nat) (hk : k < L.length) : runT5 (L.take (k + 1)) T = L[k].step (runT5 (L.take k) T) := by
  rw [List.take_succ_eq_append_getElem hk]
  unfold runT5
  rw [List.foldl_append]
  rfl
theorem runT5_m (L : List Op5) (T : Tc) : (runT5 L T).m = T.m := by
  unfold runT5
  induction L generalizing T with
  | nil => rfl
  | cons o L ih => rw [List.foldl_cons, ih, Op5.step_m]
/-- A specification's empty value. -/
def rt0 (m : Int) : RtV := ⟨m, 0, (none, 0, 0), (none, 0, 0)⟩
theorem TB.new {P : List Nat} {w : World} {B bp bm : Nat} {m : Int} (h : TcM w B bp bm (.slice none 0 0) [] (Tc.new m)) (hP : ∀ b ∈ P, b < w.heap.size) : TB P w B bp bm (.slice none 0 0) [] (rt0 m) (Tc.new m) :=
  ⟨h, ⟨rfl, rfl, ⟨[], Sh.R.nil _ _, fun b hb => by simp [rt0, slv, Value.ownBlock] at hb, rfl, fun k y t hy => by simp at hy⟩, ⟨[], Sh.R.nil _ _, fun b hb => by simp [rt0, slv, Value.ownBlock] at hb, rfl, fun k y t hy => by simp at hy⟩⟩, hP⟩
theorem Sms.lt {w : World} {v : Value} {S : List Sm} (h : Sms w v S) (hne : S ≠ []) : ∀ b, v.ownBlock = some b → b < w.heap.size := fun b hb => by
  obtain ⟨X, h1, h2⟩ := h
  have hl : 0 < X.length := by
    rw [← h2] at hne
    exact List.length_pos_iff.2 (fun e => hne (by rw [e]; rfl))
  obtain ⟨g, o, c, e, he⟩ := h1.elem hl
  rw [e] at hb
  simp [Value.ownBlock] at hb
  subst hb
  exact lt_of_cell (he 0 _ rfl)
/-- Behind k operations: the value lies in block p, which nothing of it lies in. -/
structure Lp (P : List Nat) (p : Nat) (W0 w : World) (B bp bm : Nat) (vc : Value) (A : List AT) (x : RtV) (T : Tc) (n k : Nat) : Prop where
  tb : TB (p :: P) w B bp bm vc A x T
  bk : w.heap[p]? = some (.cells #[.int .i64 x.m, .int .i64 x.s, slv x.va, slv x.vc] tRc (0, 0))
  ok : T.Ok n k
  ks : Keeps [] W0 w
  b0 : W0.heap.size ≤ B ∧ B ≤ p
/-- The call of step, wherever it is made: all blocks made since w are none of the result's. -/
theorem Lp.call {P : List Nat} {p : Nat} {W0 w : World} {B bp bm : Nat} {vc : Value} {A : List AT} {x : RtV} {T : Tc} {n k : Nat} (h : Lp P p W0 w B bp bm vc A x T n k) {W : World} (hk : Keeps [] w W) : TB ((List.range W.heap.size).drop w.heap.size ++ p :: P) W B bp bm vc A x T :=
  h.tb.sub hk (fun b hb => by
    rcases List.mem_append.1 hb with e | e
    · obtain ⟨i, hi, rfl⟩ := List.mem_iff_getElem.1 e
      have h1 : i < W.heap.size - w.heap.size := by simpa using hi
      have h2 : ((List.range W.heap.size).drop w.heap.size)[i] = w.heap.size + i := by simp
      rw [h2]
      exact ⟨.inr (by omega), by omega⟩
    · exact ⟨.inl e, Nat.lt_of_lt_of_le (h.tb.pl b e) hk.size⟩)
theorem mem_new {a b q : Nat} (h1 : a ≤ q) (h2 : q < b) (P : List Nat) : q ∈ (List.range b).drop a ++ P :=
  List.mem_append_left _ (List.mem_iff_getElem.2 ⟨q - a, by simp; omega, by simp; omega⟩)
theorem Mv.store {O O' : List Nat} {w w1 w2 : World} {q : Nat} {cs : Array Value} (h : Mv O O' w w1) (hq : w.heap.size ≤ q) (hqt : w1.heap[q]? = some (.cells cs tRc (0, 0))) (hk : Keeps [q] w1 w2) : Mv O O' w w2 :=
  ⟨h.k.fresh hk (fun b hb => by simp only [List.mem_singleton] at hb; subst hb; exact .inr hq), h.i.trans (hk.ki (fun b hb cs' f e => by simp only [List.mem_singleton] at hb; subst hb; rw [hqt] at e; cases e)), h.s⟩
/-- Behind the call: the block of the result made after it. -/
theorem Lp.callA {P Q : List Nat} {p q : Nat} {wr W w5 wx : World} {B bp bm : Nat} {vc vc' : Value} {A A' : List AT} {x' : RtV} {T' : Tc} (hk : Keeps [] wr W) (hT : TB (Q ++ p :: P) w5 B bp bm vc' A' x' T') (hM : Mv (ownTc bp bm vc A) (ownTc bp bm vc' A') W w5)
    (hk2 : Keeps [] w5 wx) (hq : w5.heap.size ≤ q ∧ q < wx.heap.size) : TB (q :: p :: P) wx B bp bm vc' A' x' T' ∧ Mv (ownTc bp bm vc A) (ownTc bp bm vc' A') wr wx :=
  ⟨hT.sub hk2 (fun b hb => by
    rcases List.mem_cons.1 hb with rfl | hb
    · exact ⟨.inr hq.1, hq.2⟩
    · exact ⟨.inl (List.mem_append_right _ hb), Nat.lt_of_lt_of_le (hT.pl _ (List.mem_append_right _ hb)) hk2.size⟩), (Mv.nil hk).trans (hM.trans (Mv.nil hk2))⟩
/-- Behind the call: the block of the result made ahead of it, then stored into. -/
theorem Lp.callB {P : List Nat} {p q : Nat} {wr W w5 wx : World} {B bp bm : Nat} {vc vc' : Value} {A A' : List AT} {x' : RtV} {T' : Tc} {cs : Array Value} (hk : Keeps [] wr W) (hq1 : wr.heap.size ≤ q) (hq2 : q < W.heap.size)
    (hT : TB ((List.range W.heap.size).drop wr.heap.size ++ p :: P) w5 B bp bm vc' A' x' T') (hM : Mv (ownTc bp bm vc A) (ownTc bp bm vc' A') W w5) (hqt : w5.heap[q]? = some (.cells cs tRc (0, 0))) (hk2 : Keeps [q] w5 wx) :
    TB (q :: p :: P) wx B bp bm vc' A' x' T' ∧ Mv (ownTc bp bm vc A) (ownTc bp bm vc' A') wr wx :=
  ⟨((hT.sub (Q := q :: p :: P) (Keeps.refl [] _) (fun b hb => by
    rcases List.mem_cons.1 hb with rfl | hb
    · exact ⟨.inl (mem_new hq1 hq2 _), hT.pl _ (mem_new hq1 hq2 _)⟩
    · exact ⟨.inl (List.mem_append_right _ hb), hT.pl _ (List.mem_append_right _ hb)⟩)).store (by simp) hqt hk2), ((Mv.nil hk).trans hM).store hq1 hqt hk2⟩
/-- The round: a step of both, the result in block q, then its copy into p. -/
theorem Lp.next {P : List Nat} {p q : Nat} {W0 w w1 w2 : World} {B bp bm : Nat} {vc vc' : Value} {A A' : List AT} {x x' : RtV} {T : Tc} {n k : Nat} {o : Op5} (h : Lp P p W0 w B bp bm vc A x T n k) (hM : Mv (ownTc bp bm vc A) (ownTc bp bm vc' A') w w1)
    (hT : TB (q :: p :: P) w1 B bp bm vc' A' x' (o.step T)) (hS : o.S.length ≤ 4) (hI : o.a.ins.length ≤ 4) (hk : Keeps [p] w1 w2) (hb : w2.heap[p]? = some (.cells #[.int .i64 x'.m, .int .i64 x'.s, slv x'.va, slv x'.vc] tRc (0, 0))) :
    Lp P p W0 w2 B bp bm vc' A' x' (o.step T) (n + 1) (k + 4) := by
  have hp1 : w1.heap[p]? = _ := (hM.k.block _ (lt_of_blk h.bk) (h.tb.notOwn h.bk)).trans h.bk
  have hT2 := hT.store (by simp) hp1 hk
  refine ⟨hT2.sub (Keeps.refl [] _) (fun b hb' => ⟨.inl (List.mem_cons_of_mem _ hb'), hT2.pl _ (List.mem_cons_of_mem _ hb')⟩), hb, Op5.step_ok h.ok h.tb.inv hT.inv hS (by omega), ?_, h.b0⟩
  have k1 : Keeps [] W0 w1 := h.ks.fresh hM.k (fun b hb => .inr (by have := h.tb.m.ge hb; have := h.b0.1; omega))
  exact k1.fresh hk (fun b hb => by simp only [List.mem_singleton] at hb; subst hb; have := h.b0; exact .inr (by omega))
end Go.Proofs.YtpobepninifenaaGreat

namespace Go.Proofs.YtpobepninifenaaGreat
open Go Go.RowKit

theorem step5_c (P : List Nat) (w : World) (B0 bp bm : Nat) (vc : Value) (A : List AT) (x : RtV) (T : Tc) (n k0 : Nat) (h : TB P w B0 bp bm vc A x T) (ho : T.Ok n k0) (hn : n ≤ 90) (hk0 : k0 ≤ 9000) (hm : W64 T.m) (o : Op5) (s : Option Addr × Nat × Nat) (y : AnV)
    (hS : Sms w (slv s) o.S) (hy : InR w y o.a) (hF : o.Fit) (hlS : o.S.length ≤ 4) (hlI : o.a.ins.length ≤ 4) (hsS : o.S ≠ [] → ∀ b, (slv s).ownBlock = some b → b < B0) (hsI : ∀ b, o.a.ins ≠ [] → y.v.ownBlock = some b → b < B0) :
    Calls Tryz.prog 12 #[ptrV bp, rtV x, opV5 o s y] w (StepPost5 P w B0 bp bm vc A o T) := by
  by_cases h0 : o.k = 0
  · exact step0_c P w B0 bp bm vc A x T n k0 h ho hn hk0 hm o s y hS hy hF hlS hlI hsS hsI h0
  by_cases h6 : o.k = 6
  · exact step6_c P w B0 bp bm vc A x T n k0 h ho hn hk0 hm o s y hS hy hF hlS hlI hsS hsI h6
  by_cases hno : o.k < 1 ∨ 6 < o.k ∨ o.i < 0 ∨ T.act.length = 0
  · exact stepN_c P w B0 bp bm vc A x T n k0 h ho hn hk0 hm o s y hS hy hF hlS hlI hsS hsI ⟨h0, h6⟩ hno
  · exact stepK_c P w B0 bp bm vc A x T n k0 h ho hn hk0 hm o s y hS hy hF hlS hlI hsS hsI ⟨by omega, by omega⟩ (by omega) (by omega)
end Go.Proofs.YtpobepninifenaaGreat

namespace Go.Proofs.YtpobepninifenaaGreat
open Go Go.RowKit

theorem neII (w : World) (a b : Int) : (binOp .neq tId (.agg #[.int .i64 a, .int .i64 b]) (.agg #[.int .i64 a, .int .i64 b])).run Tryz.prog w = .ok (.bool false) w := by
  have := neId w (a, b) (a, b)
  rw [decide_eq_false (fun h => h rfl)] at this
  exact this
theorem neTT (w : World) (a : Int) (b : Nat) (c : Int) : (binOp .neq tN (.agg #[.int .i64 a, .int .u64 b, .int .i64 c]) (.agg #[.int .i64 a, .int .u64 b, .int .i64 c])).run Tryz.prog w = .ok (.bool false) w := by
  have := neN w (a, b, c) (a, b, c)
  rw [decide_eq_false (fun h => h rfl)] at this
  exact this
theorem clmsV_lc {w : World} {t : Tr} {v : Value} (hi : t.Inv) (h : ClaimsV w t v) : LC w v t.clms := by
  unfold Tr.clms
  rcases h with ⟨h1, rfl⟩ | ⟨h1, P, Y, h2, h3, h4⟩
  · rw [h1, if_neg (by decide)]; exact LC.nil w
  · rw [if_pos h1, ← Tr.clm_eq hi h3 h4]; exact h2
theorem TB.at {P : List Nat} {w : World} {B bp bm : Nat} {vc : Value} {A : List AT} {x : RtV} {T : Tc} (h : TB P w B bp bm vc A x T) {n k0 : Nat} (ho : T.Ok n k0) {k : Nat} (hk : k < T.act.length) :
    ∃ a ∈ A, a.t = T.act[k] ∧ TrM w B a.bt a.bm a.vo a.vh a.vg a.t ∧ T.find a.t.idp = some k ∧ (∃ hi : k < A.length, A[k] = a) := by
  have hiA : k < A.length := by rw [h.m.len]; exact hk
  have htu : A[k].t = T.act[k] := by
    have h1 : (A.map (·.t))[k]'(by rw [List.length_map]; exact hiA) = T.act[k] := by simp only [h.m.ac]
    rw [List.getElem_map] at h1
    exact h1
  exact ⟨A[k], List.getElem_mem hiA, htu, h.m.tr _ (List.getElem_mem hiA), by rw [htu]; exact ho.find hk, hiA, rfl⟩
theorem Tc.Ok.idok {T : Tc} {n k0 : Nat} (ho : T.Ok n k0) (hm : W64 T.m) (hk : k0 ≤ 100000) {t : Tr} (ht : t ∈ T.act) : ipOk t.idp := by
  have h1 := ho.im t ht
  have h2 := ho.is t ht
  have h3 := ho.s1
  exact ⟨by show W64 t.im; rw [h1]; exact hm, by show W64 t.is; exact w64_iff.2 (by omega)⟩
set_option maxRecDepth 100000 in
set_option maxHeartbeats 20000000 in
theorem same5_c (P : List Nat) (w : World) (B0 bp bm : Nat) (vc : Value) (A : List AT) (x : RtV) (T : Tc) (n k0 : Nat) (h : TB P w B0 bp bm vc A x T) (ho : T.Ok n k0) (hn : n ≤ 95) (hk0 : k0 ≤ 9500) (hm : W64 T.m) :
    Calls Tryz.prog 13 #[ptrV bp, rtV x] w fun e w' => e = .returned (.bool true) ∧ Keeps [] w w' := by
  have hxs := h.r.s
  obtain ⟨XA, hXA, hXb, hXl, hXr⟩ := h.r.ac
  obtain ⟨XC, hXC, _, hXCl, hXCr⟩ := h.r.cs
  have hal := ho.al
  have hcl := ho.cl
  have hcs := fun (W : World) (hk : Keeps [] w W) => started_c W B0 bp bm vc A T (h.m.keeps hk)
  have hca := fun (W : World) (hk : Keeps [] w W) => active_c W B0 bp bm vc A T n k0 (h.m.keeps hk) ho (by omega)
  have hci := fun (W : World) (hk : Keeps [] w W) => rids_c (P ++ ownTc bp bm vc A) W x T (h.r.keeps hk) (by omega)
  have hcc := fun (W : World) (hk : Keeps [] w W) => tcerts_c W B0 bp bm vc A T n k0 (h.m.keeps hk) ho (by omega)
  have hsC := fun (W : World) (hk : Keeps [] w W) (v1 : Value) (Y : List CtV) (h1 : shCt.R W v1 Y) (h2 : LCw W Y T.cs) => sameCerts_c W v1 _ Y XC T.cs h1 (hXC.keeps hk) h2 ⟨hXCl, fun k a b g1 g2 => ((hXCr k a b g1 g2).1.keeps hk).w⟩
  unfold CsPost at hcc
  obtain ⟨x0, x1, ⟨x2, x3, x4⟩, ⟨x5, x6, x7⟩⟩ := x
  simp only at hxs
  subst hxs
  obtain ⟨_, _, e, _⟩ := hXA.form
  simp only [slv, Value.slice.injEq] at e
  obtain ⟨-, e, -⟩ := e
  rw [hXl] at e
  obtain ⟨N, hN⟩ : ∃ n, T.act.length = n := ⟨_, rfl⟩
  rw [hN] at e hal
  subst x3
  have hNm : N ≤ 9223372036854775807 := by omega
  simp only [slv] at hXA hXC
  simp only [rtV, slv, ptrV] at hcs hca hci hcc hsC ⊢
  obtain ⟨W, hW⟩ : ∃ W, (w.alloc (.cells #[.int .i64 x0, .int .i64 T.s, .slice x2 N x4, .slice x5 x6 x7] tRc)) = W := ⟨_, rfl⟩
  have hbX := heap_alloc_new w (.cells #[.int .i64 x0, .int .i64 T.s, .slice x2 N x4, .slice x5 x6 x7] tRc)
  have hkw : Keeps [] w (w.alloc (.cells #[.int .i64 x0, .int .i64 T.s, .slice x2 N x4, .slice x5 x6 x7] tRc)) := (Keeps.refl _ _).alloc _
  rw [hW] at hbX hkw
  obtain ⟨XX, hXX⟩ : ∃ b, w.heap.size = b := ⟨_, rfl⟩
  rw [hXX] at hbX
  have hat := fun (k : Nat) (hk : k < T.act.length) => h.at ho hk
  have hfn := fun (W : World) (hk : Keeps [] w W) (id : Idp) (hid : ipOk id) => find_c W B0 bp bm vc A T n k0 (h.m.keeps hk) ho id hid
  replace hbX := Lib.hid hbX
  replace hkw := Lib.hid hkw
  replace hW := Lib.hid hW
  replace hN := Lib.hid hN
  replace hcs := Lib.hid hcs
  replace hca := Lib.hid hca
  replace hci := Lib.hid hci
  replace hcc := Lib.hid hcc
  replace hsC := Lib.hid hsC
  replace hXA := Lib.hid hXA
  replace hXl := Lib.hid hXl
  replace hXr := Lib.hid hXr
  replace hal := Lib.hid hal
  replace hk0 := Lib.hid hk0
  replace hn := Lib.hid hn
  replace ho := Lib.hid ho
  replace h := Lib.hid h
  replace hm := Lib.hid hm
  replace hat := Lib.hid hat
  replace hfn := Lib.hid hfn
  obtain ⟨z0, z1, z2, z3, zf, zl⟩ := cl4 hbX.out
  clear hcl hXb hXC hXCl hXCr
  go_enter Tryz.func13, Tryz.ntmps13
  go_upto_region 1 with fail
  rw [hW.out]
  try rw [hXX]
  replace hXX := Lib.hid hXX
  refine Free.wp_region_chain (fun i => i == 1 || i == 7 || i == 9 || i == 10 || i == 15 || i == 18) (fun i => true) (fun _ _ => False) (by kernel_rfl) (by kernel_rfl) (by kernel_rfl) ?_
  generalize hwd0 : W.drew = wd
  have hkd : Keeps [] W wd := by rw [← hwd0]; exact (Keeps.refl [] W).drew
  replace hkw := Lib.hid (hkw.out.trans hkd)
  replace hbX := Lib.hid ((hkd.block _ (lt_of_blk hbX.out) (by simp)).trans hbX.out)
  clear z0 z1 z2 z3 zf zl
  obtain ⟨z0, z1, z2, z3, zf, zl⟩ := cl4 hbX.out
  have hkz := Lib.hid (Keeps.refl [] wd)
  clear hkd hwd0
  (repeat (first | (apply Free.cw_pureW rfl rfl; (intro w'; go_simp <;> exact rfl); go_frame) | (apply Free.cw_steadyW rfl rfl rfl; (intro w' hS; have q0 := Free.sx_cell hS z0 (fun _ _ hT => hT); have q1 := Free.sx_cell hS z1 (fun _ _ hT => hT); have q2 := Free.sx_cell hS z2 (fun _ _ hT => hT); have q3 := Free.sx_cell hS z3 (fun _ _ hT => hT); go_simp <;> exact rfl); go_frame) | (refine Free.cw_skip rfl ?_; go_frame)))
  refine Free.cw_loudW rfl rfl (fun K hK => ?_)
  go_wp2_with fail
  refine (hcs.out _ hkw.out).mono ?_
  rintro e w1 ⟨rfl, hw⟩
  subst hw
  refine hK _ _ rfl (Free.KeepsP.refl _ _) ?_
  clear hK K

  (repeat (first | (apply Free.cw_pureW rfl rfl; (intro w'; go_simp <;> exact rfl); go_frame) | (apply Free.cw_steadyW rfl rfl rfl; (intro w' hS; have q0 := Free.sx_cell hS z0 (fun _ _ hT => hT); have q1 := Free.sx_cell hS z1 (fun _ _ hT => hT); have q2 := Free.sx_cell hS z2 (fun _ _ hT => hT); have q3 := Free.sx_cell hS z3 (fun _ _ hT => hT); go_simp <;> exact rfl); go_frame) | (refine Free.cw_skip rfl ?_; go_frame)))
  refine Free.cw_loudW rfl rfl (fun K hK => ?_)
  go_wp2_with fail
  refine (hca.out _ hkw.out).mono ?_
  rintro e w2 ⟨va, rfl, hva, hk2⟩
  refine hK _ _ rfl (Free.KeepsP.of hk2 (by simp)) ?_
  clear hK K
  replace hkw := Lib.hid (hkw.out.trans hk2)
  replace hkz := Lib.hid (hkz.out.trans hk2)
  clear hk2
  obtain ⟨aa, ac, rfl⟩ := hva.form
  rw [List.length_map, hN.out] at hva ⊢
  replace hva := Lib.hid hva
  (repeat (first | (apply Free.cw_pureW rfl rfl; (intro w'; go_simp <;> exact rfl); go_frame) | (apply Free.cw_steadyW rfl rfl rfl; (intro w' hS; have q0 := Free.sx_cell hS z0 (fun _ _ hT => hT); have q1 := Free.sx_cell hS z1 (fun _ _ hT => hT); have q2 := Free.sx_cell hS z2 (fun _ _ hT => hT); have q3 := Free.sx_cell hS z3 (fun _ _ hT => hT); go_simp <;> exact rfl); go_frame) | (refine Free.cw_skip rfl ?_; go_frame)))
  refine Free.cw_loudW rfl rfl (fun K hK => ?_)
  go_wp2_with fail
  refine (hci.out _ hkw.out).mono ?_
  rintro e w3 ⟨vb, rfl, hvb, hk2⟩
  refine hK _ _ rfl (Free.KeepsP.of hk2 (by simp)) ?_
  clear hK K
  replace hkw := Lib.hid (hkw.out.trans hk2)
  replace hkz := Lib.hid (hkz.out.trans hk2)
  obtain ⟨ba, bc, rfl⟩ := hvb.form
  rw [List.length_map, hN.out] at hvb ⊢
  have hsi := sameIDs_c w3 _ _ _ _ (hva.out.keeps hk2).r hvb.r
  rw [decide_eq_true rfl] at hsi
  replace hsi := Lib.hid hsi
  clear hk2 hva hvb
  (repeat (first | (apply Free.cw_pureW rfl rfl; (intro w'; go_simp <;> exact rfl); go_frame) | (apply Free.cw_steadyW rfl rfl rfl; (intro w' hS; have q0 := Free.sx_cell hS z0 (fun _ _ hT => hT); have q1 := Free.sx_cell hS z1 (fun _ _ hT => hT); have q2 := Free.sx_cell hS z2 (fun _ _ hT => hT); have q3 := Free.sx_cell hS z3 (fun _ _ hT => hT); go_simp <;> exact rfl); go_frame) | (refine Free.cw_skip rfl ?_; go_frame)))
  refine Free.cw_loudW rfl rfl (fun K hK => ?_)
  go_wp2_with fail
  refine hsi.out.mono ?_
  rintro e w4 ⟨rfl, hk2⟩
  refine hK _ _ rfl (Free.KeepsP.of hk2 (by simp)) ?_
  clear hK K
  replace hkw := Lib.hid (hkw.out.trans hk2)
  replace hkz := Lib.hid (hkz.out.trans hk2)
  clear hk2 hsi
  (repeat (first | (apply Free.cw_pureW rfl rfl; (intro w'; go_simp <;> exact rfl); go_frame) | (apply Free.cw_steadyW rfl rfl rfl; (intro w' hS; have q0 := Free.sx_cell hS z0 (fun _ _ hT => hT); have q1 := Free.sx_cell hS z1 (fun _ _ hT => hT); have q2 := Free.sx_cell hS z2 (fun _ _ hT => hT); have q3 := Free.sx_cell hS z3 (fun _ _ hT => hT); go_simp <;> exact rfl); go_frame) | (refine Free.cw_skip rfl ?_; go_frame)))
  refine Free.cw_loudW rfl rfl (fun K hK => ?_)
  go_wp2_with fail
  refine (hcc.out _ hkw.out).mono ?_
  rintro e w5 ⟨vd, XD, rfl, hvd, hLd, hk2⟩
  refine hK _ _ rfl (Free.KeepsP.of hk2 (by simp)) ?_
  clear hK K
  replace hkw := Lib.hid (hkw.out.trans hk2)
  replace hkz := Lib.hid (hkz.out.trans hk2)
  have hsc := hsC.out w5 hkw.out vd XD hvd.r hLd.cw
  replace hsc := Lib.hid hsc
  clear hk2 hvd hLd
  (repeat (first | (apply Free.cw_pureW rfl rfl; (intro w'; go_simp <;> exact rfl); go_frame) | (apply Free.cw_steadyW rfl rfl rfl; (intro w' hS; have q0 := Free.sx_cell hS z0 (fun _ _ hT => hT); have q1 := Free.sx_cell hS z1 (fun _ _ hT => hT); have q2 := Free.sx_cell hS z2 (fun _ _ hT => hT); have q3 := Free.sx_cell hS z3 (fun _ _ hT => hT); go_simp <;> exact rfl); go_frame) | (refine Free.cw_skip rfl ?_; go_frame)))
  refine Free.cw_loudW rfl rfl (fun K hK => ?_)
  go_wp2_with fail
  refine hsc.out.mono ?_
  rintro e w6 ⟨rfl, hk2⟩
  refine hK _ _ rfl (Free.KeepsP.of hk2 (by simp)) ?_
  clear hK K
  replace hkw := Lib.hid (hkw.out.trans hk2)
  replace hkz := Lib.hid (hkz.out.trans hk2)
  clear hk2 hsc
  (repeat (first | (apply Free.cw_pureW rfl rfl; (intro w'; go_simp <;> exact rfl); go_frame) | (apply Free.cw_steadyW rfl rfl rfl; (intro w' hS; have q0 := Free.sx_cell hS z0 (fun _ _ hT => hT); have q1 := Free.sx_cell hS z1 (fun _ _ hT => hT); have q2 := Free.sx_cell hS z2 (fun _ _ hT => hT); have q3 := Free.sx_cell hS z3 (fun _ _ hT => hT); go_simp <;> exact rfl); go_frame) | (refine Free.cw_skip rfl ?_; go_frame)))
  refine Free.cw_nil ?_
  clear hcs hca hci hcc hsC
  go_upto_region 4 with fail
  go_loopw [5] (fun iv wr => ∃ k : Nat, iv = .int .i64 k ∧ k ≤ N ∧ Hid (Keeps [] w wr) ∧ Hid (wr.heap[XX]? = some (.cells #[.int .i64 x0, .int .i64 T.s, .slice x2 N x4, .slice x5 x6 x7] tRc))) (fun iv _ => N - (intOf iv).toNat)
  case atStart => exact ⟨0, rfl, by omega, hkw, Lib.hid ((hkz.out.block _ (lt_of_blk hbX.out) (by simp)).trans hbX.out)⟩
  case round =>
    clear hkw hkz hbX
    obtain ⟨k, rfl, hk, hkw, hbX⟩ := hrel
    clear z0 z1 z2 z3 zf zl
    obtain ⟨z0, z1, z2, z3, zf, zl⟩ := cl4 hbX.out
    by_cases hlt : k < N
    · have hlt2 : (k : Int) < N := by omega
      have hkT : k < T.act.length := by rw [hN.out]; exact hlt
      have hkX : k < XA.length := by rw [hXl.out, hN.out]; exact hlt
      obtain ⟨⟨t, bt, bmm, vo, vh, vg⟩, ha, hat1, hTm, hfd, hiA, hAk⟩ := hat.out k hkT
      obtain ⟨hRy, _⟩ := hXr.out k _ _ (List.getElem?_eq_getElem hkX) (List.getElem?_eq_getElem hkT)
      simp only at hat1 hTm hfd
      have htm : t ∈ T.act := by rw [hat1]; exact List.getElem_mem hkT
      rw [← hat1] at hRy
      have hbnd := ho.out.bnd t htm
      have hinv := hTm.inv
      have hid := ho.out.idok hm.out (by have := hk0.out; omega) htm
      have hqs : t.qs.length ≤ 501 := by have h1 := hbnd.qs; have h2 := hn.out; omega
      obtain ⟨g, gof, c', hv, he⟩ := hXA.out.elem hkX
      rw [hXl.out, hN.out] at hv
      cases hv
      obtain ⟨⟨q0, q1, q2, q3, q4, q5, ⟨q6, q7, q8⟩, ⟨q9, q10, q11⟩, q12, ⟨q13, q14, q15⟩, q16, ⟨q17, q18, q19⟩⟩, hY⟩ : ∃ q, XA[k] = q := ⟨_, rfl⟩
      rw [hY] at hRy he
      obtain rfl : q0 = t.im := hRy.im
      obtain rfl : q1 = t.is := hRy.is
      obtain rfl : q2 = t.st.1 := hRy.s0
      obtain rfl : q3 = t.st.2.1 := hRy.s1
      obtain rfl : q4 = t.st.2.2 := hRy.s2
      obtain rfl : q5 = t.state := hRy.st
      have f0 := hkw.out.val (he 0 _ rfl)
      have f1 := hkw.out.val (he 1 _ rfl)
      have f2 := hkw.out.val (he 2 _ rfl)
      have f3 := hkw.out.val (he 3 _ rfl)
      have f4 := hkw.out.val (he 4 _ rfl)
      have f5 := hkw.out.val (he 5 _ rfl)
      have f6 := hkw.out.val (he 6 _ rfl)
      have f7 := hkw.out.val (he 7 _ rfl)
      have f8 := hkw.out.val (he 8 _ rfl)
      have f9 := hkw.out.val (he 9 _ rfl)
      have f10 := hkw.out.val (he 10 _ rfl)
      have f11 := hkw.out.val (he 11 _ rfl)
      simp only [shRf, RfV.cs, slv, Nat.add_zero] at f0 f1 f2 f3 f4 f5 f6 f7 f8 f9 f10 f11
      have hfc := hfn.out wr hkw.out t.idp hid
      have hc4 := fun (W : World) (hk : Keeps [] w W) => id_c W B0 bt bmm vo vh vg t (hTm.keeps hk)
      have hc5 := fun (W : World) (hk : Keeps [] w W) => start_c W B0 bt bmm vo vh vg t (hTm.keeps hk)
      have hc6 := fun (W : World) (hk : Keeps [] w W) => state_c W B0 bt bmm vo vh vg t (hTm.keeps hk)
      have hc7 := fun (W : World) (hk : Keeps [] w W) => claimsT_c W B0 bt bmm vo vh vg t (hTm.keeps hk) (by omega)
      have hc8 := fun (W : World) (hk : Keeps [] w W) => claimsR_c W _ t (hRy.keeps hk) hinv (by omega) hbnd.rf
      simp only [ipV, ptrV] at hfc
      simp only [rfV, slv, idV, tV] at hc4 hc5 hc8
      unfold ClaimsPost at hc7
      have hnI := fun W => neII W t.im t.is
      have hnT := fun W => neTT W t.st.1 t.st.2.1 t.st.2.2
      have hst0 : (t.state != t.state) = false := by simp
      replace hinv := Lib.hid hinv
      replace hc4 := Lib.hid hc4
      replace hc5 := Lib.hid hc5
      replace hc6 := Lib.hid hc6
      replace hc7 := Lib.hid hc7
      replace hc8 := Lib.hid hc8
      replace hfc := Lib.hid hfc
      replace hfd := Lib.hid hfd
      replace hAk := Lib.hid hAk
      replace hbnd := Lib.hid hbnd
      replace hRy := Lib.hid hRy
      replace hTm := Lib.hid hTm
      replace hY := Lib.hid hY
      clear he hat1 hid hqs ha htm
      have hi3i : (k : Int) < N := by omega
      go_wp2_with fail
      refine hfc.out.mono ?_
      rintro e w2 ⟨hcase, hk2⟩
      have hret : e = .returned (.tuple #[.pointer (some ⟨bt, 0, none⟩), .bool true]) := by
        rcases hcase with ⟨i, hi, h1, h2, h3⟩ | ⟨h1, _⟩
        · rw [hfd.out] at h1
          cases h1
          rw [h3, hAk.out]
        · rw [hfd.out] at h1; cases h1
      clear hcase
      subst hret
      replace hbX := Lib.hid ((hk2.block _ (lt_of_blk hbX.out) (by simp)).trans hbX.out)
      clear z0 z1 z2 z3 zf zl
      obtain ⟨z0, z1, z2, z3, zf, zl⟩ := cl4 hbX.out
      replace hkw := Lib.hid (hkw.out.trans hk2)
      replace f0 := hk2.val f0
      replace f1 := hk2.val f1
      replace f2 := hk2.val f2
      replace f3 := hk2.val f3
      replace f4 := hk2.val f4
      replace f5 := hk2.val f5
      replace f6 := hk2.val f6
      replace f7 := hk2.val f7
      replace f8 := hk2.val f8
      replace f9 := hk2.val f9
      replace f10 := hk2.val f10
      replace f11 := hk2.val f11
      clear hk2 hfc
      go_upto_region 7 with fail
      generalize hwd0 : w2.drew = wd
      have hkd : Keeps [] w2 wd := by rw [← hwd0]; exact (Keeps.refl [] w2).drew
      refine Free.wp_region_chain (fun i => i == 8 || i == 19 || i == 30 || i == 41 || i == 47 || i == 48) (fun i => true) (fun _ _ => False) (by kernel_rfl) (by kernel_rfl) (by kernel_rfl) ?_
      rw [hwd0]
      replace hbX := Lib.hid ((hkd.block _ (lt_of_blk hbX.out) (by simp)).trans hbX.out)
      clear z0 z1 z2 z3 zf zl
      obtain ⟨z0, z1, z2, z3, zf, zl⟩ := cl4 hbX.out
      replace hkw := Lib.hid (hkw.out.trans hkd)
      replace f0 := hkd.val f0
      replace f1 := hkd.val f1
      replace f2 := hkd.val f2
      replace f3 := hkd.val f3
      replace f4 := hkd.val f4
      replace f5 := hkd.val f5
      replace f6 := hkd.val f6
      replace f7 := hkd.val f7
      replace f8 := hkd.val f8
      replace f9 := hkd.val f9
      replace f10 := hkd.val f10
      replace f11 := hkd.val f11
      have hkz := Lib.hid (Keeps.refl [] wd)
      clear hkd hwd0
      (repeat (first | (apply Free.cw_pureW rfl rfl; (intro w'; go_simp <;> exact rfl); go_frame) | (apply Free.cw_steadyW rfl rfl rfl; (intro w' hS; have q0 := Free.sx_cell hS z0 (fun _ _ hT => hT); have q1 := Free.sx_cell hS z1 (fun _ _ hT => hT); have q2 := Free.sx_cell hS z2 (fun _ _ hT => hT); have q3 := Free.sx_cell hS z3 (fun _ _ hT => hT); have q4 := Free.sx_cell hS f0 (fun _ _ hT => hT); have q5 := Free.sx_cell hS f1 (fun _ _ hT => hT); have q6 := Free.sx_cell hS f2 (fun _ _ hT => hT); have q7 := Free.sx_cell hS f3 (fun _ _ hT => hT); have q8 := Free.sx_cell hS f4 (fun _ _ hT => hT); have q9 := Free.sx_cell hS f5 (fun _ _ hT => hT); have q10 := Free.sx_cell hS f6 (fun _ _ hT => hT); have q11 := Free.sx_cell hS f7 (fun _ _ hT => hT); have q12 := Free.sx_cell hS f8 (fun _ _ hT => hT); have q13 := Free.sx_cell hS f9 (fun _ _ hT => hT); have q14 := Free.sx_cell hS f10 (fun _ _ hT => hT); have q15 := Free.sx_cell hS f11 (fun _ _ hT => hT); go_simp <;> exact rfl); go_frame) | (refine Free.cw_skip rfl ?_; go_frame)))
      refine Free.cw_loudW rfl rfl (fun K hK => ?_)
      go_wp2_with fail
      refine (hc4.out _ hkw.out).mono ?_
      rintro e w4 ⟨rfl, hk2⟩
      refine hK _ _ rfl (Free.KeepsP.of hk2 (by simp)) ?_
      clear hK K
      replace hkw := Lib.hid (hkw.out.trans hk2)
      replace hkz := Lib.hid (hkz.out.trans hk2)
      clear hk2
      (repeat (first | (apply Free.cw_pureW rfl rfl; (intro w'; go_simp <;> exact rfl); go_frame) | (apply Free.cw_steadyW rfl rfl rfl; (intro w' hS; have q0 := Free.sx_cell hS z0 (fun _ _ hT => hT); have q1 := Free.sx_cell hS z1 (fun _ _ hT => hT); have q2 := Free.sx_cell hS z2 (fun _ _ hT => hT); have q3 := Free.sx_cell hS z3 (fun _ _ hT => hT); have q4 := Free.sx_cell hS f0 (fun _ _ hT => hT); have q5 := Free.sx_cell hS f1 (fun _ _ hT => hT); have q6 := Free.sx_cell hS f2 (fun _ _ hT => hT); have q7 := Free.sx_cell hS f3 (fun _ _ hT => hT); have q8 := Free.sx_cell hS f4 (fun _ _ hT => hT); have q9 := Free.sx_cell hS f5 (fun _ _ hT => hT); have q10 := Free.sx_cell hS f6 (fun _ _ hT => hT); have q11 := Free.sx_cell hS f7 (fun _ _ hT => hT); have q12 := Free.sx_cell hS f8 (fun _ _ hT => hT); have q13 := Free.sx_cell hS f9 (fun _ _ hT => hT); have q14 := Free.sx_cell hS f10 (fun _ _ hT => hT); have q15 := Free.sx_cell hS f11 (fun _ _ hT => hT); go_simp <;> exact rfl); go_frame) | (refine Free.cw_skip rfl ?_; go_frame)))
      refine Free.cw_loudW rfl rfl (fun K hK => ?_)
      go_wp2_with fail
      refine (hc5.out _ hkw.out).mono ?_
      rintro e w5 ⟨rfl, hk2⟩
      refine hK _ _ rfl (Free.KeepsP.of hk2 (by simp)) ?_
      clear hK K
      replace hkw := Lib.hid (hkw.out.trans hk2)
      replace hkz := Lib.hid (hkz.out.trans hk2)
      clear hk2
      (repeat (first | (apply Free.cw_pureW rfl rfl; (intro w'; go_simp <;> exact rfl); go_frame) | (apply Free.cw_steadyW rfl rfl rfl; (intro w' hS; have q0 := Free.sx_cell hS z0 (fun _ _ hT => hT); have q1 := Free.sx_cell hS z1 (fun _ _ hT => hT); have q2 := Free.sx_cell hS z2 (fun _ _ hT => hT); have q3 := Free.sx_cell hS z3 (fun _ _ hT => hT); have q4 := Free.sx_cell hS f0 (fun _ _ hT => hT); have q5 := Free.sx_cell hS f1 (fun _ _ hT => hT); have q6 := Free.sx_cell hS f2 (fun _ _ hT => hT); have q7 := Free.sx_cell hS f3 (fun _ _ hT => hT); have q8 := Free.sx_cell hS f4 (fun _ _ hT => hT); have q9 := Free.sx_cell hS f5 (fun _ _ hT => hT); have q10 := Free.sx_cell hS f6 (fun _ _ hT => hT); have q11 := Free.sx_cell hS f7 (fun _ _ hT => hT); have q12 := Free.sx_cell hS f8 (fun _ _ hT => hT); have q13 := Free.sx_cell hS f9 (fun _ _ hT => hT); have q14 := Free.sx_cell hS f10 (fun _ _ hT => hT); have q15 := Free.sx_cell hS f11 (fun _ _ hT => hT); go_simp <;> exact rfl); go_frame) | (refine Free.cw_skip rfl ?_; go_frame)))
      refine Free.cw_loudW rfl rfl (fun K hK => ?_)
      go_wp2_with fail
      refine (hc6.out _ hkw.out).mono ?_
      rintro e w6 ⟨rfl, hw⟩
      subst hw
      refine hK _ _ rfl (Free.KeepsP.refl _ _) ?_
      clear hK K

      (repeat (first | (apply Free.cw_pureW rfl rfl; (intro w'; go_simp <;> exact rfl); go_frame) | (apply Free.cw_steadyW rfl rfl rfl; (intro w' hS; have q0 := Free.sx_cell hS z0 (fun _ _ hT => hT); have q1 := Free.sx_cell hS z1 (fun _ _ hT => hT); have q2 := Free.sx_cell hS z2 (fun _ _ hT => hT); have q3 := Free.sx_cell hS z3 (fun _ _ hT => hT); have q4 := Free.sx_cell hS f0 (fun _ _ hT => hT); have q5 := Free.sx_cell hS f1 (fun _ _ hT => hT); have q6 := Free.sx_cell hS f2 (fun _ _ hT => hT); have q7 := Free.sx_cell hS f3 (fun _ _ hT => hT); have q8 := Free.sx_cell hS f4 (fun _ _ hT => hT); have q9 := Free.sx_cell hS f5 (fun _ _ hT => hT); have q10 := Free.sx_cell hS f6 (fun _ _ hT => hT); have q11 := Free.sx_cell hS f7 (fun _ _ hT => hT); have q12 := Free.sx_cell hS f8 (fun _ _ hT => hT); have q13 := Free.sx_cell hS f9 (fun _ _ hT => hT); have q14 := Free.sx_cell hS f10 (fun _ _ hT => hT); have q15 := Free.sx_cell hS f11 (fun _ _ hT => hT); go_simp <;> exact rfl); go_frame) | (refine Free.cw_skip rfl ?_; go_frame)))
      refine Free.cw_loudW rfl rfl (fun K hK => ?_)
      go_wp2_with fail
      refine (hc7.out _ hkw.out).mono ?_
      rintro e w8 ⟨v8, rfl, hV8, hk2⟩
      refine hK _ _ rfl (Free.KeepsP.of hk2 (by simp)) ?_
      clear hK K
      replace hkw := Lib.hid (hkw.out.trans hk2)
      replace hkz := Lib.hid (hkz.out.trans hk2)
      have hL8 := clmsV_lc hinv.out hV8
      replace hL8 := Lib.hid hL8
      clear hk2 hV8
      (repeat (first | (apply Free.cw_pureW rfl rfl; (intro w'; go_simp <;> exact rfl); go_frame) | (apply Free.cw_steadyW rfl rfl rfl; (intro w' hS; have q0 := Free.sx_cell hS z0 (fun _ _ hT => hT); have q1 := Free.sx_cell hS z1 (fun _ _ hT => hT); have q2 := Free.sx_cell hS z2 (fun _ _ hT => hT); have q3 := Free.sx_cell hS z3 (fun _ _ hT => hT); have q4 := Free.sx_cell hS f0 (fun _ _ hT => hT); have q5 := Free.sx_cell hS f1 (fun _ _ hT => hT); have q6 := Free.sx_cell hS f2 (fun _ _ hT => hT); have q7 := Free.sx_cell hS f3 (fun _ _ hT => hT); have q8 := Free.sx_cell hS f4 (fun _ _ hT => hT); have q9 := Free.sx_cell hS f5 (fun _ _ hT => hT); have q10 := Free.sx_cell hS f6 (fun _ _ hT => hT); have q11 := Free.sx_cell hS f7 (fun _ _ hT => hT); have q12 := Free.sx_cell hS f8 (fun _ _ hT => hT); have q13 := Free.sx_cell hS f9 (fun _ _ hT => hT); have q14 := Free.sx_cell hS f10 (fun _ _ hT => hT); have q15 := Free.sx_cell hS f11 (fun _ _ hT => hT); go_simp <;> exact rfl); go_frame) | (refine Free.cw_skip rfl ?_; go_frame)))
      refine Free.cw_loudW rfl rfl (fun K hK => ?_)
      go_wp2_with fail
      refine (hc8.out _ hkw.out).mono ?_
      rintro e w9 ⟨v9, rfl, hL9, hk2⟩
      refine hK _ _ rfl (Free.KeepsP.of hk2 (by simp)) ?_
      clear hK K
      replace hkw := Lib.hid (hkw.out.trans hk2)
      replace hkz := Lib.hid (hkz.out.trans hk2)
      have hsc := sameClaims_c w9 v8 v9 _ _ (hL8.out.keeps hk2) hL9
      rw [decide_eq_true rfl] at hsc
      replace hsc := Lib.hid hsc
      clear hk2 hL9 hL8
      (repeat (first | (apply Free.cw_pureW rfl rfl; (intro w'; go_simp <;> exact rfl); go_frame) | (apply Free.cw_steadyW rfl rfl rfl; (intro w' hS; have q0 := Free.sx_cell hS z0 (fun _ _ hT => hT); have q1 := Free.sx_cell hS z1 (fun _ _ hT => hT); have q2 := Free.sx_cell hS z2 (fun _ _ hT => hT); have q3 := Free.sx_cell hS z3 (fun _ _ hT => hT); have q4 := Free.sx_cell hS f0 (fun _ _ hT => hT); have q5 := Free.sx_cell hS f1 (fun _ _ hT => hT); have q6 := Free.sx_cell hS f2 (fun _ _ hT => hT); have q7 := Free.sx_cell hS f3 (fun _ _ hT => hT); have q8 := Free.sx_cell hS f4 (fun _ _ hT => hT); have q9 := Free.sx_cell hS f5 (fun _ _ hT => hT); have q10 := Free.sx_cell hS f6 (fun _ _ hT => hT); have q11 := Free.sx_cell hS f7 (fun _ _ hT => hT); have q12 := Free.sx_cell hS f8 (fun _ _ hT => hT); have q13 := Free.sx_cell hS f9 (fun _ _ hT => hT); have q14 := Free.sx_cell hS f10 (fun _ _ hT => hT); have q15 := Free.sx_cell hS f11 (fun _ _ hT => hT); go_simp <;> exact rfl); go_frame) | (refine Free.cw_skip rfl ?_; go_frame)))
      refine Free.cw_loudW rfl rfl (fun K hK => ?_)
      go_wp2_with fail
      refine hsc.out.mono ?_
      rintro e w10 ⟨rfl, hk2⟩
      refine hK _ _ rfl (Free.KeepsP.of hk2 (by simp)) ?_
      clear hK K
      replace hkw := Lib.hid (hkw.out.trans hk2)
      replace hkz := Lib.hid (hkz.out.trans hk2)
      clear hk2 hsc
      (repeat (first | (apply Free.cw_pureW rfl rfl; (intro w'; go_simp <;> exact rfl); go_frame) | (apply Free.cw_steadyW rfl rfl rfl; (intro w' hS; have q0 := Free.sx_cell hS z0 (fun _ _ hT => hT); have q1 := Free.sx_cell hS z1 (fun _ _ hT => hT); have q2 := Free.sx_cell hS z2 (fun _ _ hT => hT); have q3 := Free.sx_cell hS z3 (fun _ _ hT => hT); have q4 := Free.sx_cell hS f0 (fun _ _ hT => hT); have q5 := Free.sx_cell hS f1 (fun _ _ hT => hT); have q6 := Free.sx_cell hS f2 (fun _ _ hT => hT); have q7 := Free.sx_cell hS f3 (fun _ _ hT => hT); have q8 := Free.sx_cell hS f4 (fun _ _ hT => hT); have q9 := Free.sx_cell hS f5 (fun _ _ hT => hT); have q10 := Free.sx_cell hS f6 (fun _ _ hT => hT); have q11 := Free.sx_cell hS f7 (fun _ _ hT => hT); have q12 := Free.sx_cell hS f8 (fun _ _ hT => hT); have q13 := Free.sx_cell hS f9 (fun _ _ hT => hT); have q14 := Free.sx_cell hS f10 (fun _ _ hT => hT); have q15 := Free.sx_cell hS f11 (fun _ _ hT => hT); go_simp <;> exact rfl); go_frame) | (refine Free.cw_skip rfl ?_; go_frame)))
      refine Free.cw_nil ?_
      go_wp2
      go_roundw
      case rel => exact ⟨k + 1, rfl, by omega, hkw, Lib.hid ((hkz.out.block _ (lt_of_blk hbX.out) (by simp)).trans hbX.out)⟩
      case measure => simp [intOf]; omega
    · have hlt2 : ¬ ((k : Int) < N) := by omega
      go_wp2
      go_ret
      exact ⟨rfl, hkw.out⟩
end Go.Proofs.YtpobepninifenaaGreat
