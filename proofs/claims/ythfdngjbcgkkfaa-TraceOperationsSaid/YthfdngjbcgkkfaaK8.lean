/- Texts that the laws lean on, in the order in which they build. TraceOrder: the walk. -/
import Derived.Test.YthfdngjbcgkkfaaK7
set_option linter.unusedVariables false
set_option linter.unusedSimpArgs false
namespace Go.Proofs.Ythfdngjbcgkkfaa
open Go.RowKit

set_option maxRecDepth 100000 in
set_option maxHeartbeats 20000000 in
theorem order_w (w : World) (im is : Int) (st : T3) (vT : Value) (T : List Ans) (vp : Value) (l : List UInt8) (vq : Value) (m : List UInt8) (h1 : W64 im) (_ : W64 is) (hst : W64 st.1 ∧ st.2.1 < 18446744073709551616 ∧ W64 st.2.2) (hT : LT w vT T) (hp : shB.R w vp l) (hq : shB.R w vq m) :
    Calls Try.prog 3 #[idV im is, tV st, vT, vp, vq] w fun e w' => e = .returned (.bool true) ∧ Keeps [] w w' := by
  obtain ⟨aT, cT, rfl⟩ := hT.form
  obtain ⟨ap, cp, rfl, hlp, hcp, _⟩ := hp.form
  obtain ⟨aq, cq, rfl, hlq, hcq, _⟩ := hq.form
  obtain ⟨_, cT0, eT, hlT, hcT, _⟩ : ∃ a c, Value.slice aT T.length cT = .slice a T.length c ∧ T.length ≤ c ∧ c ≤ maxLen ∧ (a = none → c = 0) := by obtain ⟨cs, ⟨_, a, c, e, e1, e2, e3, _⟩, _⟩ := hT; exact ⟨a, c, e, e1, e2, e3⟩
  have hTm : T.length ≤ 9223372036854775807 := by unfold maxLen at hcT; omega
  have hlm : l.length ≤ 9223372036854775807 := by unfold maxLen at hcp; omega
  have hmm : m.length ≤ 9223372036854775807 := by unfold maxLen at hcq; omega
  clear eT
  obtain ⟨N, hN⟩ : ∃ n, T.length = n := ⟨_, rfl⟩
  obtain ⟨Lp, hLp⟩ : ∃ n, l.length = n := ⟨_, rfl⟩
  obtain ⟨Lq, hLq⟩ : ∃ n, m.length = n := ⟨_, rfl⟩
  rw [hN] at hT hTm ⊢
  rw [hLp] at hp hlm ⊢
  rw [hLq] at hq hmm ⊢
  obtain ⟨s0, s1, s2⟩ := st
  have hb5 := heap_alloc_new (w.alloc (.cells #[.int .i64 im, .int .i64 is] 23)) (.cells #[.int .i64 s0, .int .u64 s1, .int .i64 s2] tN)
  have hb4 := ((Keeps.refl [] (w.alloc (.cells #[.int .i64 im, .int .i64 is] 23))).alloc (.cells #[.int .i64 s0, .int .u64 s1, .int .i64 s2] tN)).block _ (by simp) (by simp) |>.trans (heap_alloc_new w (.cells #[.int .i64 im, .int .i64 is] 23))
  have hkA : Keeps [] w ((w.alloc (.cells #[.int .i64 im, .int .i64 is] 23)).alloc (.cells #[.int .i64 s0, .int .u64 s1, .int .i64 s2] tN)) := ((Keeps.refl _ _).alloc _).alloc _
  rw [show (w.alloc (.cells #[.int .i64 im, .int .i64 is] 23)).heap.size = w.heap.size + 1 by simp] at hb5
  replace hb4 := Lib.hid hb4
  replace hb5 := Lib.hid hb5
  replace hkA := Lib.hid hkA
  replace hT := Lib.hid hT
  replace hp := Lib.hid hp
  replace hq := Lib.hid hq
  replace hN := Lib.hid hN
  replace hLp := Lib.hid hLp
  replace hLq := Lib.hid hLq
  replace hst := Lib.hid hst
  clear hlT hcT hlp hcp hlq hcq
  go_enter Try.func3, Try.ntmps3
  go_wp2_with fail
  generalize ((w.alloc (.cells #[.int .i64 im, .int .i64 is] 23)).alloc (.cells #[.int .i64 s0, .int .u64 s1, .int .i64 s2] tN)) = WA at *
  refine (awake_c WA).mono ?_
  rintro e w1 ⟨rfl, hk1⟩
  replace hk1 := Lib.hid hk1
  have again : ∀ W : World, Keeps [] w1 W → Calls Try.prog 9 #[] W fun e w' => e = .returned (.bool true) ∧ Hid (Keeps [] w w') := fun W hW => (awake_c W).mono fun e w' ⟨h1, h2⟩ => ⟨h1, Lib.hid (((hkA.out.trans hk1.out).trans hW).trans h2)⟩
  replace again := Lib.hid again
  by_cases hNbig : 20 < N
  · have hNi : (20 : Int) < N := by omega
    go_wp2_with fail
    refine (again.out _ (Keeps.refl _ _)).mono ?_
    rintro e w2 ⟨rfl, hk2⟩
    go_wp2
    go_ret
    exact ⟨rfl, hk2.out⟩
  have hNi : ¬ ((20 : Int) < N) := by omega
  by_cases hLbig : 60 < Lp
  · have hLi : (60 : Int) < Lp := by omega
    go_wp2_with fail
    refine (again.out _ (Keeps.refl _ _)).mono ?_
    rintro e w2 ⟨rfl, hk2⟩
    go_wp2
    go_ret
    exact ⟨rfl, hk2.out⟩
  have hLi : ¬ ((60 : Int) < Lp) := by omega
  by_cases hMbig : 60 < Lq
  · have hMi : (60 : Int) < Lq := by omega
    go_wp2_with fail
    refine (again.out _ (Keeps.refl _ _)).mono ?_
    rintro e w2 ⟨rfl, hk2⟩
    go_wp2
    go_ret
    exact ⟨rfl, hk2.out⟩
  have hMi : ¬ ((60 : Int) < Lq) := by omega
  clear again
  go_wp2
  go_loopw [41] (fun i wr => ∃ k : Nat, i = .int .i64 k ∧ k ≤ N ∧ Hid (∀ j (hj : j < T.length), j < k → T[j].ins.length ≤ 5 ∧ ∀ i (hi : i < T.length), T[j].m = T[i].m → T[j].ep = T[i].ep) ∧ Hid (Keeps [] w1 wr)) (fun i _ => N - (intOf i).toNat)
  case atStart => exact ⟨0, rfl, by omega, Lib.hid (fun _ _ h => by omega), Lib.hid (Keeps.refl _ _)⟩
  case round =>
    obtain ⟨k, rfl, hk, hno, hkr⟩ := hrel
    have hkw := Lib.hid ((hkA.out.trans hk1.out).trans hkr.out)
    by_cases hlt : k < N
    · have hkT : k < T.length := by rw [hN.out]; exact hlt
      obtain ⟨g, o, c, x, hv, hxr, _, he⟩ := hT.out.elem hkT
      rw [hN.out] at hv
      cases hv
      have hxm := hxr.m
      have hxe := hxr.ep
      have hxi := hxr.ins
      have hins := hxr.ins.form
      obtain ⟨x0, x1, x2, x3, x4, x5, x6, x7, x8, x9⟩ := x
      obtain ⟨ia, ic, hvi, hil, hic, _⟩ := hins
      have hx8 : x8 = T[k].ins.length := by simp only [AnV.v] at hvi; cases hvi; rfl
      have hx8m : x8 ≤ 9223372036854775807 := by unfold maxLen at hic; omega
      have e0 := hkw.out.val (he 0 _ rfl)
      have e1 := hkw.out.val (he 1 _ rfl)
      have e2 := hkw.out.val (he 2 _ rfl)
      have e3 := hkw.out.val (he 3 _ rfl)
      have e4 := hkw.out.val (he 4 _ rfl)
      have e5 := hkw.out.val (he 5 _ rfl)
      have e6 := hkw.out.val (he 6 _ rfl)
      have e7 := hkw.out.val (he 7 _ rfl)
      simp only [AnV.v, Nat.add_zero] at e0 e1 e2 e3 e4 e5 e6 e7 hxm hxe hxi
      have hkB := hkr.out.alloc (.cells #[.int .i64 x0, .int .i64 x1, .int .u64 x2, .int .i64 x3, .bool x4, .bool x5, .int .i64 x6, .slice x7 x8 x9] tA)
      have hkBw := hkw.out.alloc (.cells #[.int .i64 x0, .int .i64 x1, .int .u64 x2, .int .i64 x3, .bool x4, .bool x5, .int .i64 x6, .slice x7 x8 x9] tA)
      have hbB := heap_alloc_new wr (.cells #[.int .i64 x0, .int .i64 x1, .int .u64 x2, .int .i64 x3, .bool x4, .bool x5, .int .i64 x6, .slice x7 x8 x9] tA)
      replace hkB := Lib.hid hkB
      replace hkBw := Lib.hid hkBw
      replace hbB := Lib.hid hbB
      replace hxm := Lib.hid hxm
      replace hxe := Lib.hid hxe
      replace hxi := Lib.hid hxi
      clear he hvi hil hic hxr
      by_cases h5 : 5 < x8
      · have h5i : (5 : Int) < x8 := by omega
        replace hx8 := Lib.hid hx8
        go_wp2
        go_ret
        exact ⟨rfl, hkBw.out⟩
      · have h5i : ¬ ((5 : Int) < x8) := by omega
        have hT5k : T[k].ins.length ≤ 5 := by omega
        replace hx8 := Lib.hid hx8
        replace hT5k := Lib.hid hT5k
        go_wp2
        generalize (wr.alloc (.cells #[.int .i64 x0, .int .i64 x1, .int .u64 x2, .int .i64 x3, .bool x4, .bool x5, .int .i64 x6, .slice x7 x8 x9] tA)) = WB at *
        obtain ⟨XB, hXB⟩ : ∃ X, wr.heap.size = X := ⟨_, rfl⟩
        rw [hXB] at hbB ⊢
        replace hXB := Lib.hid hXB
        clear e0 e1 e2 e3 e4 e5 e6 e7
        go_loopw [52] (fun i wl => ∃ q : Nat, i = .int .i64 q ∧ q ≤ N ∧ Hid (∀ i (hi : i < T.length), i < q → T[k].m = T[i].m → T[k].ep = T[i].ep) ∧ Hid (Keeps [] WB wl)) (fun i _ => N - (intOf i).toNat)
        case atStart => exact ⟨0, rfl, by omega, Lib.hid (fun _ _ h => by omega), Lib.hid (Keeps.refl _ _)⟩
        case round =>
          obtain ⟨q, rfl, hqN, hnoq, hkq⟩ := hrel
          have hkwq := hkBw.out.trans hkq.out
          have hbr := (hkq.out.block XB (lt_of_blk hbB.out) (by simp)).trans hbB.out
          obtain ⟨u0, u1, u2, u3, u4, u5, u6, u7, uf, ul⟩ := cells8 hbr
          replace hbr := Lib.hid hbr
          replace hkwq := Lib.hid hkwq
          by_cases hltq : q < N
          · have hqT : q < T.length := by rw [hN.out]; exact hltq
            obtain ⟨g', o', c', y, hv, hyr, _, he⟩ := hT.out.elem hqT
            rw [hN.out] at hv
            cases hv
            have hym := hyr.m
            have hye := hyr.ep
            have hyi := hyr.ins
            have hins := hyr.ins.form
            obtain ⟨y0, y1, y2, y3, y4, y5, y6, y7, y8, y9⟩ := y
            obtain ⟨ia, ic, hvi, hil, hic, _⟩ := hins
            have hy8 : y8 = T[q].ins.length := by simp only [AnV.v] at hvi; cases hvi; rfl
            have hy8m : y8 ≤ 9223372036854775807 := by unfold maxLen at hic; omega
            have d0 := hkwq.out.val (he 0 _ rfl)
            have d1 := hkwq.out.val (he 1 _ rfl)
            have d2 := hkwq.out.val (he 2 _ rfl)
            have d3 := hkwq.out.val (he 3 _ rfl)
            have d4 := hkwq.out.val (he 4 _ rfl)
            have d5 := hkwq.out.val (he 5 _ rfl)
            have d6 := hkwq.out.val (he 6 _ rfl)
            have d7 := hkwq.out.val (he 7 _ rfl)
            simp only [AnV.v, Nat.add_zero] at d0 d1 d2 d3 d4 d5 d6 d7 hym hye hyi
            have hkA := (Keeps.refl [] wr).alloc (.cells #[.int .i64 y0, .int .i64 y1, .int .u64 y2, .int .i64 y3, .bool y4, .bool y5, .int .i64 y6, .slice y7 y8 y9] tA)
            have hkC := hkwq.out.trans hkA
            have hkqC := hkq.out.trans hkA
            have hbC := heap_alloc_new wr (.cells #[.int .i64 y0, .int .i64 y1, .int .u64 y2, .int .i64 y3, .bool y4, .bool y5, .int .i64 y6, .slice y7 y8 y9] tA)
            have hbX := (hkA.block XB ul (by simp)).trans hbr.out
            replace hkA := Lib.hid hkA
            replace hkC := Lib.hid hkC
            replace hkqC := Lib.hid hkqC
            replace hbC := Lib.hid hbC
            replace hbX := Lib.hid hbX
            replace hym := Lib.hid hym
            replace hye := Lib.hid hye
            replace hyi := Lib.hid hyi
            replace hy8 := Lib.hid hy8
            clear he hvi hil hic hyr
            go_upto_region 11 with fail
            generalize (wr.alloc (.cells #[.int .i64 y0, .int .i64 y1, .int .u64 y2, .int .i64 y3, .bool y4, .bool y5, .int .i64 y6, .slice y7 y8 y9] tA)) = WC at *
            obtain ⟨XC, hXC⟩ : ∃ X, wr.heap.size = X := ⟨_, rfl⟩
            rw [hXC] at hbC ⊢
            replace hXC := Lib.hid hXC
            clear d0 d1 d2 d3 d4 d5 d6 d7 u0 u1 u2 u3 u4 u5 u6 u7 uf ul
            obtain ⟨u0, u1, u2, u3, u4, u5, u6, u7, uf, ul⟩ := cells8 hbX.out
            obtain ⟨z0, z1, z2, z3, z4, z5, z6, z7, zf, zl⟩ := cells8 hbC.out
            go_cut [52, 94] from 52 to 137 (fun c b wx => c = .int .i64 q ∧ (∃ bb, b = .bool bb ∧ (bb = false → x0 = y0 → x3 = y3)) ∧ wx = WC)
            case first =>
              by_cases a0 : x0 = y0
              · have b0 : (x0 == y0) = true := by simpa using a0
                by_cases a3 : x3 = y3
                · have b3 : (x3 != y3) = false := by simpa using a3
                  by_cases a4 : (q : Int) = k
                  · have b4 : ((q : Int) != k) = false := by simpa using a4
                    replace a0 := Lib.hid a0
                    go_wp2
                    go_meet
                    case rel => exact ⟨rfl, ⟨_, rfl, fun _ h => a3⟩, rfl⟩
                  · have b4 : ((q : Int) != k) = true := by simpa using a4
                    by_cases a1 : x1 = y1
                    · have b1 : (x1 == y1) = true := by simpa using a1
                      by_cases a2 : x2 = y2
                      · have b2 : ((x2 : Int) == (y2 : Int)) = true := by simp [a2]
                        replace a0 := Lib.hid a0
                        go_wp2
                        go_meet
                        case rel => exact ⟨rfl, ⟨_, rfl, fun _ h => a3⟩, rfl⟩
                      · have b2 : ((x2 : Int) == (y2 : Int)) = false := by simp; omega
                        replace a0 := Lib.hid a0
                        go_wp2
                        go_meet
                        case rel => exact ⟨rfl, ⟨_, rfl, fun _ h => a3⟩, rfl⟩
                    · have b1 : (x1 == y1) = false := by simpa using a1
                      replace a0 := Lib.hid a0
                      go_wp2
                      go_meet
                      case rel => exact ⟨rfl, ⟨_, rfl, fun _ h => a3⟩, rfl⟩
                · have b3 : (x3 != y3) = true := by simpa using a3
                  replace a0 := Lib.hid a0
                  replace a3 := Lib.hid a3
                  go_wp2
                  go_meet
                  case rel => exact ⟨rfl, ⟨_, rfl, fun h => by cases h⟩, rfl⟩
              · have b0 : (x0 == y0) = false := by simpa using a0
                by_cases a4 : (q : Int) = k
                · have b4 : ((q : Int) != k) = false := by simpa using a4
                  go_wp2
                  go_meet
                  case rel => exact ⟨rfl, ⟨_, rfl, fun _ h => absurd h a0⟩, rfl⟩
                · have b4 : ((q : Int) != k) = true := by simpa using a4
                  go_wp2
                  go_meet
                  case rel => exact ⟨rfl, ⟨_, rfl, fun _ h => absurd h a0⟩, rfl⟩
            case rest =>
              obtain ⟨rfl, ⟨bb, rfl, hbb⟩, rfl⟩ := hcut
              cases bb with
              | true =>
                go_wp2
                go_ret
                exact ⟨rfl, hkC.out⟩
              | false =>
                have hE := hbb rfl
                have hnoq2 : ∀ i (hi : i < T.length), i < q + 1 → T[k].m = T[i].m → T[k].ep = T[i].ep := fun i hi hiq hm => by
                  by_cases e : i = q
                  · subst e
                    rw [← hxe.out, ← hye.out]
                    exact hE (by rw [hxm.out, hym.out]; exact hm)
                  · exact hnoq.out i hi (by omega) hm
                replace hnoq2 := Lib.hid hnoq2
                clear hbb hE
                go_wp2
                go_loopw [98] (fun i wl => ∃ j : Nat, i = .int .i64 j ∧ j ≤ x8 ∧ Hid (Keeps [] wc wl)) (fun i _ => x8 - (intOf i).toNat)
                case atStart => exact ⟨0, rfl, by omega, Lib.hid (Keeps.refl _ _)⟩
                case round =>
                  obtain ⟨j, rfl, hj, hkj⟩ := hrel
                  have hkwj := hkC.out.trans hkj.out
                  have hbXj := (hkj.out.block XB ul (by simp)).trans hbX.out
                  have hbCj := (hkj.out.block XC zl (by simp)).trans hbC.out
                  clear u0 u1 u2 u3 u4 u5 u6 u7 uf z0 z1 z2 z3 z4 z5 z6 z7 zf
                  obtain ⟨u0, _, _, _, _, _, _, u7, uf, ulj⟩ := cells8 hbXj
                  obtain ⟨z0, _, _, _, _, _, _, z7, zf, zlj⟩ := cells8 hbCj
                  replace hbXj := Lib.hid hbXj
                  replace hbCj := Lib.hid hbCj
                  replace hkwj := Lib.hid hkwj
                  by_cases hltj : j < x8
                  · have hjl : j < T[k].ins.length := by rw [← hx8.out]; exact hltj
                    obtain ⟨g3, o3, c3, hv3, he3⟩ := hxi.out.elem hjl
                    rw [← hx8.out] at hv3
                    cases hv3
                    obtain ⟨⟨p0, p1, p2⟩, hp3⟩ : ∃ x, T[k].ins[j] = x := ⟨_, rfl⟩
                    rw [hp3] at he3
                    have f0 := hkwj.out.val (he3 0 _ rfl)
                    have f1 := hkwj.out.val (he3 1 _ rfl)
                    have f2 := hkwj.out.val (he3 2 _ rfl)
                    simp only [shT, Nat.add_zero] at f0 f1 f2
                    have hkP := (Keeps.refl [] wr).alloc (.cells #[.int .i64 p0, .int .u64 p1, .int .i64 p2] tI)
                    have hbP := heap_alloc_new wr (.cells #[.int .i64 p0, .int .u64 p1, .int .i64 p2] tI)
                    have hbXP := (hkP.block XB ulj (by simp)).trans hbXj.out
                    have hbCP := (hkP.block XC zlj (by simp)).trans hbCj.out
                    have hkjP := hkj.out.trans hkP
                    have hkwP := hkwj.out.trans hkP
                    replace hkP := Lib.hid hkP
                    replace hbP := Lib.hid hbP
                    replace hbXP := Lib.hid hbXP
                    replace hbCP := Lib.hid hbCP
                    replace hkjP := Lib.hid hkjP
                    replace hkwP := Lib.hid hkwP
                    replace hp3 := Lib.hid hp3
                    clear he3
                    go_wp2
                    generalize (wr.alloc (.cells #[.int .i64 p0, .int .u64 p1, .int .i64 p2] tI)) = WD at *
                    obtain ⟨XP, hXP⟩ : ∃ X, wr.heap.size = X := ⟨_, rfl⟩
                    rw [hXP] at hbP ⊢
                    replace hXP := Lib.hid hXP
                    clear f0 f1 f2 u0 u7 uf z0 z7 zf
                    go_loopw [105] (fun i wl => ∃ j : Nat, i = .int .i64 j ∧ j ≤ y8 ∧ Hid (Keeps [] WD wl)) (fun i _ => y8 - (intOf i).toNat)
                    case atStart => exact ⟨0, rfl, by omega, Lib.hid (Keeps.refl _ _)⟩
                    case round =>
                      obtain ⟨i, rfl, hi, hki⟩ := hrel
                      have hkwi := hkwP.out.trans hki.out
                      have hbXi := (hki.out.block XB (lt_of_blk hbXP.out) (by simp)).trans hbXP.out
                      have hbCi := (hki.out.block XC (lt_of_blk hbCP.out) (by simp)).trans hbCP.out
                      have hbPi := (hki.out.block XP (lt_of_blk hbP.out) (by simp)).trans hbP.out
                      have hlX := lt_of_blk hbXi
                      have hlC := lt_of_blk hbCi
                      have hlP := lt_of_blk hbPi
                      replace hkwi := Lib.hid hkwi
                      by_cases hlti : i < y8
                      · have hil : i < T[q].ins.length := by rw [← hy8.out]; exact hlti
                        obtain ⟨g4, o4, c4, hv4, he4⟩ := hyi.out.elem hil
                        rw [← hy8.out] at hv4
                        cases hv4
                        obtain ⟨⟨q0, q1, q2⟩, hq4⟩ : ∃ x, T[q].ins[i] = x := ⟨_, rfl⟩
                        rw [hq4] at he4
                        have f0 := hkwi.out.val (he4 0 _ rfl)
                        have f1 := hkwi.out.val (he4 1 _ rfl)
                        have f2 := hkwi.out.val (he4 2 _ rfl)
                        simp only [shT, Nat.add_zero] at f0 f1 f2
                        have hkQ := (Keeps.refl [] wr).alloc (.cells #[.int .i64 q0, .int .u64 q1, .int .i64 q2] tI)
                        have hbQ := heap_alloc_new wr (.cells #[.int .i64 q0, .int .u64 q1, .int .i64 q2] tI)
                        have hbXQ := (hkQ.block XB hlX (by simp)).trans hbXi
                        have hbCQ := (hkQ.block XC hlC (by simp)).trans hbCi
                        have hbPQ := (hkQ.block XP hlP (by simp)).trans hbPi
                        have hkiQ := hki.out.trans hkQ
                        have hkwQ := hkwi.out.trans hkQ
                        replace hkQ := Lib.hid hkQ
                        replace hbQ := Lib.hid hbQ
                        replace hbXQ := Lib.hid hbXQ
                        replace hbCQ := Lib.hid hbCQ
                        replace hbPQ := Lib.hid hbPQ
                        replace hkiQ := Lib.hid hkiQ
                        replace hkwQ := Lib.hid hkwQ
                        replace hq4 := Lib.hid hq4
                        replace hbXi := Lib.hid hbXi
                        replace hbCi := Lib.hid hbCi
                        replace hbPi := Lib.hid hbPi
                        clear he4
                        go_upto_region 19 with fail
                        generalize (wr.alloc (.cells #[.int .i64 q0, .int .u64 q1, .int .i64 q2] tI)) = WE at *
                        obtain ⟨XQ, hXQ⟩ : ∃ X, wr.heap.size = X := ⟨_, rfl⟩
                        rw [hXQ] at hbQ ⊢
                        replace hXQ := Lib.hid hXQ
                        clear f0 f1 f2
                        obtain ⟨u0, _, _, _, _, _, _, u7, uf, ulj⟩ := cells8 hbXQ.out
                        obtain ⟨z0, _, _, _, _, _, _, z7, zf, zlj⟩ := cells8 hbCQ.out
                        obtain ⟨p5, p6, p7⟩ := cells3t hbPQ.out
                        obtain ⟨q5, q6, q7⟩ := cells3t hbQ.out
                        go_cut [105, 134] from 105 to 135 (fun c b wx => c = .int .i64 i ∧ (∃ bb, b = .bool bb) ∧ wx = WE)
                        case first =>
                          by_cases a0 : x0 = y0
                          · have b0 : (x0 == y0) = true := by simpa using a0
                            by_cases a1 : p0 = q0
                            · have b1 : (p0 == q0) = true := by simpa using a1
                              by_cases a2 : p1 = q1
                              · have b2 : ((p1 : Int) == (q1 : Int)) = true := by simp [a2]
                                replace a0 := Lib.hid a0
                                replace a1 := Lib.hid a1
                                replace a2 := Lib.hid a2
                                go_wp2
                                go_meet
                                case rel => exact ⟨rfl, ⟨_, rfl⟩, rfl⟩
                              · have b2 : ((p1 : Int) == (q1 : Int)) = false := by simp; omega
                                replace a0 := Lib.hid a0
                                replace a1 := Lib.hid a1
                                replace a2 := Lib.hid a2
                                go_wp2
                                go_meet
                                case rel => exact ⟨rfl, ⟨_, rfl⟩, rfl⟩
                            · have b1 : (p0 == q0) = false := by simpa using a1
                              replace a0 := Lib.hid a0
                              replace a1 := Lib.hid a1
                              go_wp2
                              go_meet
                              case rel => exact ⟨rfl, ⟨_, rfl⟩, rfl⟩
                          · have b0 : (x0 == y0) = false := by simpa using a0
                            replace a0 := Lib.hid a0
                            go_wp2
                            go_meet
                            case rel => exact ⟨rfl, ⟨_, rfl⟩, rfl⟩
                        case rest =>
                          obtain ⟨rfl, ⟨bb, rfl⟩, rfl⟩ := hcut
                          cases bb with
                          | true =>
                            go_wp2
                            go_ret
                            exact ⟨rfl, hkwQ.out⟩
                          | false =>
                            go_wp2
                            go_roundw
                            case rel => exact ⟨i + 1, rfl, by omega, hkiQ⟩
                            case measure => simp [intOf]; omega
                      · have hkf := hkjP.out.trans hki.out
                        replace hkf := Lib.hid hkf
                        replace hbXi := Lib.hid hbXi
                        replace hbCi := Lib.hid hbCi
                        replace hbPi := Lib.hid hbPi
                        go_wp2
                        go_roundw
                        case rel => exact ⟨j + 1, rfl, by omega, hkf⟩
                        case measure => simp [intOf]; omega
                  · have hkf := hkqC.out.trans hkj.out
                    replace hkf := Lib.hid hkf
                    go_wp2
                    go_roundw
                    case rel => exact ⟨q + 1, rfl, by omega, hnoq2, hkf⟩
                    case measure => simp [intOf]; omega
          · have hno2 : ∀ j (hj : j < T.length), j < k + 1 → T[j].ins.length ≤ 5 ∧ ∀ i (hi : i < T.length), T[j].m = T[i].m → T[j].ep = T[i].ep := fun j hj hjk => by
              by_cases e : j = k
              · subst e
                exact ⟨hT5k.out, fun i hi => hnoq.out i hi (by rw [hN.out] at hi; omega)⟩
              · exact hno.out j hj (by omega)
            have hkf := hkB.out.trans hkq.out
            replace hno2 := Lib.hid hno2
            replace hkf := Lib.hid hkf
            go_wp2
            go_roundw
            case rel => exact ⟨k + 1, rfl, by omega, hno2, hkf⟩
            case measure => simp [intOf]; omega
    · have hT5 : ∀ a ∈ T, a.ins.length ≤ 5 := fun a ha => by
        obtain ⟨j, hj, rfl⟩ := List.mem_iff_getElem.1 ha
        exact (hno.out j hj (by rw [hN.out] at hj; omega)).1
      have hEp : ∀ x ∈ T, ∀ y ∈ T, x.m = y.m → x.ep = y.ep := fun x hx y hy => by
        obtain ⟨j, hj, rfl⟩ := List.mem_iff_getElem.1 hx
        obtain ⟨i, hi, rfl⟩ := List.mem_iff_getElem.1 hy
        exact (hno.out j hj (by rw [hN.out] at hj; omega)).2 i hi
      have hbi := ((hk1.out.trans hkr.out).block _ (lt_of_blk hb4.out) (by simp)).trans hb4.out
      have hbs := ((hk1.out.trans hkr.out).block _ (lt_of_blk hb5.out) (by simp)).trans hb5.out
      obtain ⟨i0, i1⟩ := cells2p hbi
      obtain ⟨j0, j1, j2⟩ := cells3t hbs
      have hfin := fun (W : World) (hW : Keeps [] w W) => finish_c W im is (s0, s1, s2) (.slice aT N cT) (.slice ap Lp cp) T l h1 hst.out.1 hst.out.2.1 (hT.out.keeps hW) (hp.out.keeps hW) hT5 (by rw [hN.out]; omega) (by rw [hLp.out]; omega)
      have hfin2 := fun (W : World) (hW : Keeps [] w W) => finish_c W im is (s0, s1, s2) (.slice aT N cT) (.slice aq Lq cq) T m h1 hst.out.1 hst.out.2.1 (hT.out.keeps hW) (hq.out.keeps hW) hT5 (by rw [hN.out]; omega) (by rw [hLq.out]; omega)
      simp only at hfin hfin2
      replace hfin := Lib.hid hfin
      replace hfin2 := Lib.hid hfin2
      replace hEp := Lib.hid hEp
      clear hno hk1 hkA hkr hT5 hb4 hb5 hbi hbs
      go_wp2
      refine Free.wp_region_chain (fun i => i == 4 || i == 9) (fun i => true) (fun _ _ => False) (by kernel_rfl) (by kernel_rfl) (by kernel_rfl) ?_
      (repeat (first | (apply Free.cw_pure rfl rfl; (intro w'; go_simp <;> exact rfl); go_frame) | (apply Free.cw_steady rfl rfl rfl; (intro w' hS; have q0 := Free.sx_cell hS i0 (fun _ _ hT => hT); have q1 := Free.sx_cell hS i1 (fun _ _ hT => hT); have q2 := Free.sx_cell hS j0 (fun _ _ hT => hT); have q3 := Free.sx_cell hS j1 (fun _ _ hT => hT); have q4 := Free.sx_cell hS j2 (fun _ _ hT => hT); go_simp <;> exact rfl); go_frame) | (refine Free.cw_skip rfl ?_; go_frame)))
      refine Free.cw_loud rfl rfl (fun K hK => ?_)
      go_wp2_with fail
      have hkd := hkw.out.trans ((Keeps.refl [] wr).drew)
      refine (hfin.out _ hkd).mono ?_
      rintro e w2 ⟨B, bt, bm, vo, vh, t, rfl, hM, hB, hE, hk2⟩
      refine hK _ _ rfl (Free.KeepsP.of hk2 (by simp)) ?_
      clear hK K hfin
      have hkw2 := hkd.trans hk2
      have hk2d := ((Keeps.refl [] wr).drew).trans hk2
      replace hM := Lib.hid hM
      replace hE := Lib.hid hE
      replace hkw2 := Lib.hid hkw2
      clear hkd hB
      (repeat (first | (apply Free.cw_pure rfl rfl; (intro w'; go_simp <;> exact rfl); go_frame) | (apply Free.cw_steady rfl rfl rfl; (intro w' hS; have q0 := Free.sx_cell hS i0 (fun _ _ hT => hT); have q1 := Free.sx_cell hS i1 (fun _ _ hT => hT); have q2 := Free.sx_cell hS j0 (fun _ _ hT => hT); have q3 := Free.sx_cell hS j1 (fun _ _ hT => hT); have q4 := Free.sx_cell hS j2 (fun _ _ hT => hT); go_simp <;> exact rfl); go_frame) | (refine Free.cw_skip rfl ?_; go_frame)))
      refine Free.cw_loud rfl rfl (fun K hK => ?_)
      go_wp2_with fail
      refine (hfin2.out _ hkw2.out).mono ?_
      rintro e w3 ⟨B2, bt2, bm2, vo2, vh2, u, rfl, hM2, hB2, hE2, hk3⟩
      refine hK _ _ rfl (Free.KeepsP.of hk3 (by simp)) ?_
      clear hK K hfin2
      have hkw3 := hkw2.out.trans hk3
      have hM3 := hM.out.keeps hk3
      replace hM3 := Lib.hid hM3
      replace hM2 := Lib.hid hM2
      replace hE2 := Lib.hid hE2
      replace hkw3 := Lib.hid hkw3
      clear hM hk2 hk3 hk2d hB2
      (repeat (apply Free.cw_pure rfl rfl; (intro w'; go_simp <;> exact rfl); go_frame))
      refine Free.cw_nil ?_
      have hql1 : t.qs.length ≤ 1000 := by have := hE.out.i.recLen; have := hE.out.i.len; have := hN.out; omega
      have hql2 : u.qs.length ≤ 1000 := by have := hE2.out.i.recLen; have := hE2.out.i.len; have := hN.out; omega
      have hsm : t.state = 1 ↔ u.state = 1 := (hE.out.good hEp.out).trans (hE2.out.good hEp.out).symm
      have hs1c := state_c _ _ _ _ _ _ _ _ hM3.out
      have hs2c := state_c _ _ _ _ _ _ _ _ hM2.out
      by_cases hs1 : t.state = 1
      · have hs2 := hsm.1 hs1
        rw [hs1] at hs1c
        rw [hs2] at hs2c
        have hc1 := claimsT_c _ _ _ _ _ _ _ _ hM3.out hql1
        replace hs1c := Lib.hid hs1c
        replace hs2c := Lib.hid hs2c
        replace hc1 := Lib.hid hc1
        replace hsm := Lib.hid hsm
        replace hs1 := Lib.hid hs1
        replace hs2 := Lib.hid hs2
        go_wp2_with fail
        refine hs1c.out.mono ?_
        rintro e w4 ⟨rfl, he4⟩
        obtain rfl := he4
        go_wp2_with fail
        refine hs2c.out.mono ?_
        rintro e w5 ⟨rfl, he5⟩
        obtain rfl := he5
        go_wp2_with fail
        refine hs1c.out.mono ?_
        rintro e w4 ⟨rfl, he4⟩
        obtain rfl := he4
        go_wp2_with fail
        refine hc1.out.mono ?_
        rintro e w6 ⟨v1, rfl, hv1, hk6⟩
        have hc2 := claimsT_c _ _ _ _ _ _ _ _ (hM2.out.keeps hk6) hql2
        replace hc2 := Lib.hid hc2
        replace hv1 := Lib.hid hv1
        replace hk6 := Lib.hid hk6
        go_wp2_with fail
        refine hc2.out.mono ?_
        rintro e w7 ⟨v2, rfl, hv2, hk7⟩
        obtain ⟨P, Y, hP, hY, hPc⟩ : ∃ P Y, LC w6 v1 P ∧ SortedA t Y ∧ ClaimsP t Y P := by
          rcases hv1.out with ⟨e, _⟩ | ⟨_, P, Y, a, b, c⟩
          · unfold Tr.shown at e; rw [hs1.out] at e; cases e
          · exact ⟨P, Y, a, b, c⟩
        obtain ⟨Q, Z, hQ, hZ, hQc⟩ : ∃ P Y, LC w7 v2 P ∧ SortedA u Y ∧ ClaimsP u Y P := by
          rcases hv2 with ⟨e, _⟩ | ⟨_, P, Y, a, b, c⟩
          · unfold Tr.shown at e; rw [hs2.out] at e; cases e
          · exact ⟨P, Y, a, b, c⟩
        obtain rfl := hE.out.claims hE2.out hs1.out hs2.out hY hZ hPc hQc
        have hsame := sameClaims_c w7 v1 v2 P P (hP.keeps hk7) hQ
        rw [decide_eq_true rfl] at hsame
        have hkf := (hkw3.out.trans hk6.out).trans hk7
        replace hsame := Lib.hid hsame
        replace hkf := Lib.hid hkf
        clear hv2 hP hQ hY hZ hPc hQc hk7
        go_wp2_with fail
        refine hsame.out.mono ?_
        rintro e w8 ⟨rfl, hk8⟩
        have hkg := Lib.hid (hkf.out.trans hk8)
        clear hk8
        go_wp2
        go_ret
        exact ⟨rfl, hkg.out⟩
      · have hs2 : ¬ u.state = 1 := fun e => hs1 (hsm.2 e)
        have b1 : (t.state == 1) = false := by simpa using hs1
        have b2 : (u.state == 1) = false := by simpa using hs2
        have b3 : (t.state != 1) = true := by simpa using hs1
        replace hs1c := Lib.hid hs1c
        replace hs2c := Lib.hid hs2c
        replace hsm := Lib.hid hsm
        replace hs1 := Lib.hid hs1
        replace hs2 := Lib.hid hs2
        go_wp2_with fail
        refine hs1c.out.mono ?_
        rintro e w4 ⟨rfl, he4⟩
        obtain rfl := he4
        go_wp2_with fail
        refine hs2c.out.mono ?_
        rintro e w5 ⟨rfl, he5⟩
        obtain rfl := he5
        go_wp2_with fail
        refine hs1c.out.mono ?_
        rintro e w4 ⟨rfl, he4⟩
        obtain rfl := he4
        go_wp2
        go_ret
        exact ⟨rfl, hkw3.out⟩
end Go.Proofs.Ythfdngjbcgkkfaa
