/- Texts that the laws lean on, in the order in which they build. The law CertificateClosed, walked. -/
import Derived.Test.YtiplgpefapeapaaKC8
set_option linter.unusedVariables false
set_option linter.unusedSimpArgs false
namespace Go.Proofs.Ytiplgpefapeapaa
open Go.RowKit

def ChkP (c : Ct) (e : Ending) : Prop := ∃ n : Int, e = .returned (.int .i64 n) ∧ (n = 0 → chk c = 0)
theorem checkG_c (w : World) (x : CtV) (c : Ct) (h : CtW w x c) (hfit : c.Fit) (hf : c.F24 → c.size ≤ 100) :
    Calls Try.prog 8 #[ctV x] w fun e w' => ChkP c e ∧ Keeps [] w w' := by
  by_cases hF : c.F24
  · refine (check_c w x c h hfit (few_of (hf hF))).mono ?_
    rintro e w' ⟨rfl, hk⟩
    exact ⟨⟨_, rfl, fun h => h⟩, hk⟩
  · refine (checkNo_c w x c h hF).mono ?_
    rintro e w' ⟨rfl, hk⟩
    exact ⟨⟨_, rfl, fun h => by simp at h⟩, hk⟩
/-- The answer that the law looks for. -/
def lawB (a : Ans) (x : T3) (b : Ans) : Prop := b.m = x.1 ∧ b.ow = a.m ∧ b.n = x.2.1 ∧ b.kn = true ∧ b.rt = false
set_option maxRecDepth 100000 in
set_option maxHeartbeats 16000000 in
theorem closed_c (w : World) (x : CtV) (c : Ct) (h : CtW w x c) (hfit : c.Fit) :
    Calls Try.prog 4 #[ctV x] w fun e w' => e = .returned (.bool true) ∧ Keeps [] w w' := by
  have hfw := fun (W : World) (hk : Keeps [] w W) => fewC_c W x c (h.keeps hk)
  have hck := fun (W : World) (hk : Keeps [] w W) => checkG_c W x c (h.keeps hk) hfit
  have hc1 := fun (W : World) (hk : Keeps [] w W) (bx : Nat) (hb : W.heap[bx]? = some (.cells #[.int .i64 x.im, .int .i64 x.is, .int .i64 x.s0, .int .u64 x.s1, .int .i64 x.s2, slv x.va, slv x.vc] tCt (0, 0))) (m pe : Int) (n : Nat) (hc : clmB c.cl m true pe n = true) => (claimed_sc_c W bx x c (h.keeps hk) hb m pe n).mono (R' := fun e w' => e = .returned (.bool true) ∧ Keeps [] W w') (fun e w' => by rw [hc]; exact fun h => h)
  have hc2 := fun (W : World) (hk : Keeps [] w W) (bx : Nat) (hb : W.heap[bx]? = some (.cells #[.int .i64 x.im, .int .i64 x.is, .int .i64 x.s0, .int .u64 x.s1, .int .i64 x.s2, slv x.va, slv x.vc] tCt (0, 0))) (m pe : Int) (n : Nat) (hc : clmB c.cl m false pe n = true) => (claimed_st_c W bx x c (h.keeps hk) hb m pe n).mono (R' := fun e w' => e = .returned (.bool true) ∧ Keeps [] W w') (fun e w' => by rw [hc]; exact fun h => h)
  have han := h.an
  obtain ⟨x0, x1, x2, x3, x4, ⟨x5, x6, x7⟩, ⟨x8, x9, x10⟩⟩ := x
  simp only [ctV, slv] at hfw hck hc1 hc2 han
  obtain ⟨_, _, e1, hla, hca⟩ := han.form
  simp only [Value.slice.injEq] at e1
  obtain ⟨-, e1, -⟩ := e1
  rw [← e1] at hla
  have hx6m : x6 ≤ 9223372036854775807 := by unfold maxLen at hca; omega
  have hA := heap_alloc_new w (.cells #[.int .i64 x0, .int .i64 x1, .int .i64 x2, .int .u64 x3, .int .i64 x4, .slice x5 x6 x7, .slice x8 x9 x10] tCt)
  have hkA := (Keeps.refl [] w).alloc (.cells #[.int .i64 x0, .int .i64 x1, .int .i64 x2, .int .u64 x3, .int .i64 x4, .slice x5 x6 x7, .slice x8 x9 x10] tCt)
  obtain ⟨W, hW⟩ : ∃ W, w.alloc (.cells #[.int .i64 x0, .int .i64 x1, .int .i64 x2, .int .u64 x3, .int .i64 x4, .slice x5 x6 x7, .slice x8 x9 x10] tCt) = W := ⟨_, rfl⟩
  obtain ⟨B, hB⟩ : ∃ B, w.heap.size = B := ⟨_, rfl⟩
  rw [hW] at hA hkA
  rw [hB] at hA
  replace hfw := Lib.hid hfw
  replace hck := Lib.hid hck
  replace hc1 := Lib.hid hc1
  replace hc2 := Lib.hid hc2
  replace han := Lib.hid han
  replace hkA := Lib.hid hkA
  replace hW := Lib.hid hW
  replace hB := Lib.hid hB
  replace hA := Lib.hid hA
  replace e1 := Lib.hid e1
  clear h hfit
  simp only [ctV, slv]
  go_enter Try.func4, Try.ntmps4
  go_upto_region 1 with fail
  rw [hW.out, hB.out]
  obtain ⟨i0, i1, i2, i3, i4, i5, i6, if', il⟩ := cl7 hA.out
  go_wp2_with fail
  refine (hfw.out _ hkA.out).mono ?_
  rintro e w1 ⟨⟨b, rfl, hbf⟩, hk1⟩
  have hk01 := Lib.hid (hkA.out.trans hk1)
  have hA1 := Lib.hid ((hk1.block _ (lt_of_blk hA.out) (by simp)).trans hA.out)
  replace hbf := Lib.hid hbf
  clear i0 i1 i2 i3 i4 i5 i6 if' il hk1 hfw
  obtain ⟨i0, i1, i2, i3, i4, i5, i6, if', il⟩ := cl7 hA1.out
  cases b with
  | false =>
    go_wp2_with fail
    refine (awake_c w1).mono ?_
    rintro e w2 ⟨rfl, hk2⟩
    have hkz := Lib.hid (hk01.out.trans hk2)
    go_wp2
    go_ret
    exact ⟨rfl, hkz.out⟩
  | true =>
  go_wp2_with fail
  refine (hck.out _ hk01.out (fun hF => by simpa using (hbf.out hF).symm)).mono ?_
  rintro e w2 ⟨⟨n, rfl, hn⟩, hk1⟩
  have hk02 := Lib.hid (hk01.out.trans hk1)
  have hA2 := Lib.hid ((hk1.block _ (lt_of_blk hA1.out) (by simp)).trans hA1.out)
  replace hn := Lib.hid hn
  clear i0 i1 i2 i3 i4 i5 i6 if' il hk1 hck hbf
  obtain ⟨i0, i1, i2, i3, i4, i5, i6, if', il⟩ := cl7 hA2.out
  by_cases hz : n = 0
  case neg =>
    have hz2 : (n != 0) = true := by simpa using hz
    go_wp2_with fail
    refine (awake_c w2).mono ?_
    rintro e w3 ⟨rfl, hk2⟩
    have hkz := Lib.hid (hk02.out.trans hk2)
    go_wp2
    go_ret
    exact ⟨rfl, hkz.out⟩
  case pos =>
  subst hz
  have hG := good_of (hn.out rfl)
  replace hG := Lib.hid hG
  clear hn
  have han2 := Lib.hid (han.out.keeps hk02.out)
  go_wp2
  go_loopw [24] (fun i wr => ∃ k : Nat, i = .int .i64 k ∧ k ≤ x6 ∧ Hid (Keeps [] w2 wr)) (fun i _ => x6 - (intOf i).toNat)
  case atStart => exact ⟨0, rfl, by omega, Lib.hid (Keeps.refl _ _)⟩
  case round =>
    clear i0 i1 i2 i3 i4 i5 i6 if' il
    obtain ⟨k, rfl, hk, hkw⟩ := hrel
    by_cases hlt : k < x6
    · have hlt2 : (k : Int) < x6 := by omega
      have hkl : k < c.an.length := by rw [← e1.out]; exact hlt
      obtain ⟨g, o, c', y, hv, hy, he⟩ := (han2.out.keeps hkw.out).elem hkl
      rw [← e1.out] at hv
      cases hv
      obtain ⟨a, ha⟩ : ∃ a, c.an[k] = a := ⟨_, rfl⟩
      rw [ha] at hy
      have hmem : a ∈ c.an := by rw [← ha]; exact List.getElem_mem hkl
      obtain ⟨ai, aic, ev, hl1, hl2, _⟩ := hy.ins.form
      have hins := hy.ins
      obtain ⟨y0, y1, y2, y3, y4, y5, y6, y7, y8, y9⟩ := y
      have q0 := hy.m
      simp only [AnV.v] at ev hins
      simp only at q0
      simp only [Value.slice.injEq] at ev
      obtain ⟨-, ev, -⟩ := ev
      have hy8m : y8 ≤ 9223372036854775807 := by unfold maxLen at hl2; omega
      have g0 := he 0 _ rfl
      have g1 := he 1 _ rfl
      have g2 := he 2 _ rfl
      have g3 := he 3 _ rfl
      have g4 := he 4 _ rfl
      have g5 := he 5 _ rfl
      have g6 := he 6 _ rfl
      have g7 := he 7 _ rfl
      simp only [AnV.v, Nat.add_zero] at g0 g1 g2 g3 g4 g5 g6 g7
      have hbA := heap_alloc_new wr (.cells #[.int .i64 y0, .int .i64 y1, .int .u64 y2, .int .i64 y3, .bool y4, .bool y5, .int .i64 y6, .slice y7 y8 y9] tA)
      have hkn := (Keeps.refl [] wr).alloc (.cells #[.int .i64 y0, .int .i64 y1, .int .u64 y2, .int .i64 y3, .bool y4, .bool y5, .int .i64 y6, .slice y7 y8 y9] tA)
      have hkr := Lib.hid (hkw.out.trans hkn)
      have hinsn := Lib.hid (hins.keeps hkn)
      replace ev := Lib.hid ev
      replace hbA := Lib.hid hbA
      replace ha := Lib.hid ha
      replace q0 := Lib.hid q0
      replace hmem := Lib.hid hmem
      clear he hy hins hkn hl1 hl2 hkw
      go_upto_region 7 with fail
      generalize (wr.alloc (.cells #[.int .i64 y0, .int .i64 y1, .int .u64 y2, .int .i64 y3, .bool y4, .bool y5, .int .i64 y6, .slice y7 y8 y9] tA)) = WA at *
      obtain ⟨XA, hXA⟩ : ∃ X, wr.heap.size = X := ⟨_, rfl⟩
      rw [hXA] at hbA ⊢
      replace hXA := Lib.hid hXA
      clear g0 g1 g2 g3 g4 g5 g6 g7
      obtain ⟨g0, g1, g2, g3, g4, g5, g6, g7, gf, gl⟩ := cl8 hbA.out
      go_wp2
      generalize WA = W4 at *
      go_loopw [31] (fun i wr => ∃ q : Nat, i = .int .i64 q ∧ q ≤ y8 ∧ Hid (Keeps [] W4 wr)) (fun i _ => y8 - (intOf i).toNat)
      case atStart => exact ⟨0, rfl, by omega, Lib.hid (Keeps.refl _ _)⟩
      case round =>
        clear g0 g1 g2 g3 g4 g5 g6 g7 gf gl
        obtain ⟨q, rfl, hq, hkq⟩ := hrel
        by_cases hltq : q < y8
        · have hlt2q : (q : Int) < y8 := by omega
          have hql : q < a.ins.length := by rw [← ev.out]; exact hltq
          obtain ⟨gi, oi, ci, hvi, hei⟩ := (hinsn.out.keeps hkq.out).elem hql
          rw [← ev.out] at hvi
          cases hvi
          obtain ⟨⟨z0, z1, z2⟩, hz⟩ : ∃ z, a.ins[q] = z := ⟨_, rfl⟩
          rw [hz] at hei
          obtain ⟨hfb, hfc, hfd⟩ := good_closed hG.out hmem.out (x := (z0, z1, z2)) (by rw [← hz]; exact List.getElem_mem hql)
          have hcc1 : clmB c.cl y0 true z0 z1 = true := clmB_iff.2 (by rw [q0.out]; exact hfc)
          have hcc2 : clmB c.cl z0 false y0 z1 = true := clmB_iff.2 (by rw [q0.out]; exact hfd)
          have t0 := hei 0 _ rfl
          have t1 := hei 1 _ rfl
          have t2 := hei 2 _ rfl
          simp only [shT, Nat.add_zero] at t0 t1 t2
          have hkI0 := (Keeps.refl [] wr).alloc (.cells #[.int .i64 z0, .int .u64 z1, .int .i64 z2] tI)
          have hbI := heap_alloc_new wr (.cells #[.int .i64 z0, .int .u64 z1, .int .i64 z2] tI)
          have hkqI := Lib.hid (hkq.out.trans hkI0)
          have hk2I := Lib.hid (hkr.out.trans hkqI.out)
          have han3 := Lib.hid (han2.out.keeps hk2I.out)
          replace hfb := Lib.hid hfb
          replace hcc1 := Lib.hid hcc1
          replace hcc2 := Lib.hid hcc2
          replace hbI := Lib.hid hbI
          replace hz := Lib.hid hz
          clear hei hfc hfd hkI0
          go_upto_region 10 with fail
          generalize (wr.alloc (.cells #[.int .i64 z0, .int .u64 z1, .int .i64 z2] tI)) = WI at *
          obtain ⟨XI, hXI⟩ : ∃ X, wr.heap.size = X := ⟨_, rfl⟩
          rw [hXI] at hbI ⊢
          replace hXI := Lib.hid hXI
          clear t0 t1 t2
          have hA5 := (hk2I.out.block _ (lt_of_blk hA2.out) (by simp)).trans hA2.out
          obtain ⟨i0, i1, i2, i3, i4, i5, i6, if', il⟩ := cl7 hA5
          replace hA5 := Lib.hid hA5
          go_wp2
          generalize WI = W6 at *
          go_loopw [8, 38] (fun fv i wr => ∃ (j : Nat) (f : Bool), fv = .bool f ∧ i = .int .i64 j ∧ j ≤ x6 ∧ Hid (∀ p (hp : p < c.an.length), p < j → lawB a (z0, z1, z2) c.an[p] → f = true) ∧ Hid (Keeps [] W6 wr)) (fun _ i _ => x6 - (intOf i).toNat)
          case atStart => exact ⟨0, false, rfl, rfl, by omega, Lib.hid (fun _ _ h => by omega), Lib.hid (Keeps.refl _ _)⟩
          case round =>
            clear i0 i1 i2 i3 i4 i5 i6 if' il
            obtain ⟨j, f, rfl, rfl, hj, hno, hkj⟩ := hrel
            have hbA6 := ((hkqI.out.trans hkj.out).block _ (lt_of_blk hbA.out) (by simp)).trans hbA.out
            have hbI6 := (hkj.out.block _ (lt_of_blk hbI.out) (by simp)).trans hbI.out
            obtain ⟨g0, g1, g2, g3, g4, g5, g6, g7, gf, gl⟩ := cl8 hbA6
            obtain ⟨t0, t1, t2, tf, tl⟩ := cl3 hbI6
            by_cases hltj : j < x6
            · have hlt2j : (j : Int) < x6 := by omega
              have hjl : j < c.an.length := by rw [← e1.out]; exact hltj
              obtain ⟨gb, ob, cb, y', hvb, hyb, heb⟩ := (han3.out.keeps hkj.out).elem hjl
              rw [← e1.out] at hvb
              cases hvb
              obtain ⟨b, hb⟩ : ∃ b, c.an[j] = b := ⟨_, rfl⟩
              rw [hb] at hyb
              obtain ⟨u0, u1, u2, u3, u4, u5, u6, u7, u8, u9⟩ := y'
              have r0 := hyb.m
              have r1 := hyb.ow
              have r2 := hyb.n
              have r4 := hyb.kn
              have r5 := hyb.rt
              simp only at r0 r1 r2 r4 r5
              have d0 := heb 0 _ rfl
              have d1 := heb 1 _ rfl
              have d2 := heb 2 _ rfl
              have d3 := heb 3 _ rfl
              have d4 := heb 4 _ rfl
              have d5 := heb 5 _ rfl
              have d6 := heb 6 _ rfl
              have d7 := heb 7 _ rfl
              simp only [AnV.v, Nat.add_zero] at d0 d1 d2 d3 d4 d5 d6 d7
              have hgb := lt_of_cell d0
              have hkjn := Lib.hid (hkj.out.trans ((Keeps.refl [] wr).alloc (.cells #[.int .i64 u0, .int .i64 u1, .int .u64 u2, .int .i64 u3, .bool u4, .bool u5, .int .i64 u6, .slice u7 u8 u9] tA)))
              have hstep : ∀ f' : Bool, (f = true → f' = true) → (lawB a (z0, z1, z2) b → f' = true) → ∀ p (hp : p < c.an.length), p < j + 1 → lawB a (z0, z1, z2) c.an[p] → f' = true := fun f' h1 h2 p hp hpj hl => by
                by_cases e : p = j
                · subst e; exact h2 (by rw [← hb]; exact hl)
                · exact h1 (hno.out p hp (by omega) hl)
              have hlaw : lawB a (z0, z1, z2) b → u0 = z0 ∧ u1 = y0 ∧ u2 = z1 ∧ u4 = true ∧ u5 = false := fun hl => by
                obtain ⟨l1, l2, l3, l4, l5⟩ := hl
                exact ⟨by rw [r0, l1], by rw [r1, l2, q0.out], by rw [r2, l3], by rw [r4, l4], by rw [r5, l5]⟩
              replace hstep := Lib.hid hstep
              replace hlaw := Lib.hid hlaw
              replace hb := Lib.hid hb
              clear heb hyb r0 r1 r2 r4 r5 hno
              cases f with
              | true =>
                have hn2 := Lib.hid (hstep.out true (fun h => h) (fun _ => rfl))
                go_wp2
                go_roundw
                case rel => exact ⟨j + 1, true, rfl, rfl, by omega, hn2, hkjn⟩
                case measure => simp [intOf]; omega
              | false =>
              by_cases a1 : u0 = z0
              case neg =>
                have b1 : (u0 == z0) = false := by simpa using a1
                have hn2 := Lib.hid (hstep.out false (fun h => h) (fun h => absurd (hlaw.out h).1 a1))
                go_wp2
                go_roundw
                case rel => exact ⟨j + 1, false, rfl, rfl, by omega, hn2, hkjn⟩
                case measure => simp [intOf]; omega
              case pos =>
              have b1 : (u0 == z0) = true := by simpa using a1
              replace a1 := Lib.hid a1
              by_cases a2 : u1 = y0
              case neg =>
                have b2 : (u1 == y0) = false := by simpa using a2
                have hn2 := Lib.hid (hstep.out false (fun h => h) (fun h => absurd (hlaw.out h).2.1 a2))
                go_wp2
                go_roundw
                case rel => exact ⟨j + 1, false, rfl, rfl, by omega, hn2, hkjn⟩
                case measure => simp [intOf]; omega
              case pos =>
              have b2 : (u1 == y0) = true := by simpa using a2
              replace a2 := Lib.hid a2
              by_cases a3 : u2 = z1
              case neg =>
                have b3 : ((u2 : Int) == z1) = false := by simp; omega
                have hn2 := Lib.hid (hstep.out false (fun h => h) (fun h => absurd (hlaw.out h).2.2.1 a3))
                go_wp2
                go_roundw
                case rel => exact ⟨j + 1, false, rfl, rfl, by omega, hn2, hkjn⟩
                case measure => simp [intOf]; omega
              case pos =>
              have b3 : ((u2 : Int) == z1) = true := by simp [a3]
              replace a3 := Lib.hid a3
              cases u4 with
              | false =>
                have hn2 := Lib.hid (hstep.out false (fun h => h) (fun h => (hlaw.out h).2.2.2.1))
                go_wp2
                go_roundw
                case rel => exact ⟨j + 1, false, rfl, rfl, by omega, hn2, hkjn⟩
                case measure => simp [intOf]; omega
              | true =>
              cases u5 with
              | true =>
                have hn2 := Lib.hid (hstep.out false (fun h => h) (fun h => (hlaw.out h).2.2.2.2.symm))
                go_wp2
                go_roundw
                case rel => exact ⟨j + 1, false, rfl, rfl, by omega, hn2, hkjn⟩
                case measure => simp [intOf]; omega
              | false =>
                have hn2 := Lib.hid (hstep.out true (fun _ => rfl) (fun _ => rfl))
                go_wp2
                go_roundw
                case rel => exact ⟨j + 1, true, rfl, rfl, by omega, hn2, hkjn⟩
                case measure => simp [intOf]; omega
            · have hlt2j : ¬ ((j : Int) < x6) := by omega
              have hft : f = true := by
                obtain ⟨b, hb, hl⟩ := hfb.out
                obtain ⟨p, hp, rfl⟩ := List.mem_iff_getElem.1 hb
                exact hno.out p hp (by have := e1.out; omega) hl
              subst hft
              clear hno
              have hk6 := hk02.out.trans (hk2I.out.trans hkj.out)
              have hA6 := (hkj.out.block _ (lt_of_blk hA5.out) (by simp)).trans hA5.out
              go_wp2_with fail
              refine (hc1.out _ hk6 _ hA6 _ _ _ hcc1.out).mono ?_
              rintro e w7 ⟨rfl, hk7⟩
              have hA7 := (hk7.block _ (lt_of_blk hA6) (by simp)).trans hA6
              have hbA7 := (hk7.block _ (lt_of_blk hbA6) (by simp)).trans hbA6
              have hbI7 := (hk7.block _ (lt_of_blk hbI6) (by simp)).trans hbI6
              clear g0 g1 g2 g3 g4 g5 g6 g7 gf gl t0 t1 t2 tf tl
              obtain ⟨g0, g1, g2, g3, g4, g5, g6, g7, gf, gl⟩ := cl8 hbA7
              obtain ⟨t0, t1, t2, tf, tl⟩ := cl3 hbI7
              go_wp2_with fail
              refine (hc2.out _ (hk6.trans hk7) _ hA7 _ _ _ hcc2.out).mono ?_
              rintro e w8 ⟨rfl, hk8⟩
              have hkz := Lib.hid (hkqI.out.trans (hkj.out.trans (hk7.trans hk8)))
              go_wp2
              go_roundw
              case rel => exact ⟨q + 1, rfl, by omega, hkz⟩
              case measure => simp [intOf]; omega
        · have hlt2q : ¬ ((q : Int) < y8) := by omega
          have hkz := Lib.hid (hkr.out.trans hkq.out)
          go_wp2
          go_roundw
          case rel => exact ⟨k + 1, rfl, by omega, hkz⟩
          case measure => simp [intOf]; omega
    · have hlt2 : ¬ ((k : Int) < x6) := by omega
      have hk3 := hk02.out.trans hkw.out
      go_wp2_with fail
      refine (awake_c wr).mono ?_
      rintro e w9 ⟨rfl, hk9⟩
      have hkz := hk3.trans hk9
      go_wp2
      go_ret
      exact ⟨rfl, hkz⟩
end Go.Proofs.Ytiplgpefapeapaa
