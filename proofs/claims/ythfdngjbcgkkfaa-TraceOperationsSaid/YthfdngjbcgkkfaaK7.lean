/- Texts that the laws lean on, in the order in which they build. TraceClosed: the walk. -/
import Derived.Test.YthfdngjbcgkkfaaK6
set_option linter.unusedVariables false
set_option linter.unusedSimpArgs false
namespace Go.Proofs.Ythfdngjbcgkkfaa
open Go.RowKit

theorem cells2p {w : World} {b : Nat} {x0 x1 : Value} {t : TypeId} {f : Nat × Nat} (h : w.heap[b]? = some (.cells #[x0, x1] t f)) : w.cell? ⟨b, 0, none⟩ = some x0 ∧ w.cell? ⟨b, 1, none⟩ = some x1 := by
  refine ⟨?_, ?_⟩ <;> simp [World.cell?, h]
theorem field_st (w : World) (x0 x1 : Int) (x2 : Option Addr) (x3 x4 : Nat) (x5 : Option Addr) (x6 x7 : Nat) (x8 : Option Addr) (x9 x10 : Nat) : (Instr.field tC (.agg #[.int .i64 x0, .int .i64 x1, .slice x2 x3 x4, .slice x5 x6 x7, .slice x8 x9 x10]) 2).run Try.prog w = .ok (.slice x2 x3 x4) w := by kernel_rfl
theorem field_sc (w : World) (x0 x1 : Int) (x2 : Option Addr) (x3 x4 : Nat) (x5 : Option Addr) (x6 x7 : Nat) (x8 : Option Addr) (x9 x10 : Nat) : (Instr.field tC (.agg #[.int .i64 x0, .int .i64 x1, .slice x2 x3 x4, .slice x5 x6 x7, .slice x8 x9 x10]) 3).run Try.prog w = .ok (.slice x5 x6 x7) w := by kernel_rfl
set_option maxRecDepth 100000 in
set_option maxHeartbeats 20000000 in
theorem closed_w (w : World) (im is : Int) (st : T3) (vT : Value) (T : List Ans) (vp : Value) (l : List UInt8) (h1 : W64 im) (_ : W64 is) (hst : W64 st.1 ∧ st.2.1 < 18446744073709551616 ∧ W64 st.2.2) (hT : LT w vT T) (hp : shB.R w vp l) :
    Calls Try.prog 4 #[idV im is, tV st, vT, vp] w fun e w' => e = .returned (.bool true) ∧ Keeps [] w w' := by
  obtain ⟨aT, cT, rfl⟩ := hT.form
  obtain ⟨ap, cp, rfl, hlp, hcp, _⟩ := hp.form
  obtain ⟨_, cT0, eT, hlT, hcT, _⟩ : ∃ a c, Value.slice aT T.length cT = .slice a T.length c ∧ T.length ≤ c ∧ c ≤ maxLen ∧ (a = none → c = 0) := by obtain ⟨cs, ⟨_, a, c, e, e1, e2, e3, _⟩, _⟩ := hT; exact ⟨a, c, e, e1, e2, e3⟩
  have hTm : T.length ≤ 9223372036854775807 := by unfold maxLen at hcT; omega
  have hlm : l.length ≤ 9223372036854775807 := by unfold maxLen at hcp; omega
  clear eT
  obtain ⟨N, hN⟩ : ∃ n, T.length = n := ⟨_, rfl⟩
  obtain ⟨Lp, hLp⟩ : ∃ n, l.length = n := ⟨_, rfl⟩
  rw [hN] at hT hTm ⊢
  rw [hLp] at hp hlm ⊢
  obtain ⟨s0, s1, s2⟩ := st
  have hb5 := heap_alloc_new (w.alloc (.cells #[.int .i64 im, .int .i64 is] 23)) (.cells #[.int .i64 s0, .int .u64 s1, .int .i64 s2] tN)
  have hb4 := ((Keeps.refl [] (w.alloc (.cells #[.int .i64 im, .int .i64 is] 23))).alloc (.cells #[.int .i64 s0, .int .u64 s1, .int .i64 s2] tN)).block _ (by simp) (by simp) |>.trans (heap_alloc_new w (.cells #[.int .i64 im, .int .i64 is] 23))
  have hkA : Keeps [] w ((w.alloc (.cells #[.int .i64 im, .int .i64 is] 23)).alloc (.cells #[.int .i64 s0, .int .u64 s1, .int .i64 s2] tN)) := ((Keeps.refl _ _).alloc _).alloc _
  rw [show (w.alloc (.cells #[.int .i64 im, .int .i64 is] 23)).heap.size = w.heap.size + 1 by simp] at hb5
  replace hb4 := Lib.hid hb4
  replace hb5 := Lib.hid hb5
  replace hkA := Lib.hid hkA
  replace hT := Lib.hid hT
  replace hp := Lib.hid hp
  replace hN := Lib.hid hN
  replace hLp := Lib.hid hLp
  replace hst := Lib.hid hst
  clear hlT hcT hlp hcp
  go_enter Try.func4, Try.ntmps4
  go_wp2_with fail
  generalize ((w.alloc (.cells #[.int .i64 im, .int .i64 is] 23)).alloc (.cells #[.int .i64 s0, .int .u64 s1, .int .i64 s2] tN)) = WA at *
  refine (awake_c WA).mono ?_
  rintro e w1 ⟨rfl, hk1⟩
  replace hk1 := Lib.hid hk1
  have again : ∀ W : World, Keeps [] w1 W → Calls Try.prog 9 #[] W fun e w' => e = .returned (.bool true) ∧ Hid (Keeps [] w w') := fun W hW => (awake_c W).mono fun e w' ⟨h1, h2⟩ => ⟨h1, Lib.hid (((hkA.out.trans hk1.out).trans hW).trans h2)⟩
  replace again := Lib.hid again
  by_cases hNbig : 20 < N
  · have hNi : (20 : Int) < N := by omega
    go_wp2_with fail
    refine (again.out _ (Keeps.refl _ _)).mono ?_
    rintro e w2 ⟨rfl, hk2⟩
    go_wp2
    go_ret
    exact ⟨rfl, hk2.out⟩
  have hNi : ¬ ((20 : Int) < N) := by omega
  by_cases hLbig : 60 < Lp
  · have hLi : (60 : Int) < Lp := by omega
    go_wp2_with fail
    refine (again.out _ (Keeps.refl _ _)).mono ?_
    rintro e w2 ⟨rfl, hk2⟩
    go_wp2
    go_ret
    exact ⟨rfl, hk2.out⟩
  have hLi : ¬ ((60 : Int) < Lp) := by omega
  clear again
  go_wp2
  go_loopw [37] (fun i wr => ∃ k : Nat, i = .int .i64 k ∧ k ≤ N ∧ Hid (∀ j (hj : j < T.length), j < k → T[j].ins.length ≤ 5) ∧ Hid (Keeps [] w1 wr)) (fun i _ => N - (intOf i).toNat)
  case atStart => exact ⟨0, rfl, by omega, Lib.hid (fun _ _ h => by omega), Lib.hid (Keeps.refl _ _)⟩
  case round =>
    obtain ⟨k, rfl, hk, hno, hkr⟩ := hrel
    have hkw := Lib.hid ((hkA.out.trans hk1.out).trans hkr.out)
    by_cases hlt : k < N
    · have hkT : k < T.length := by rw [hN.out]; exact hlt
      obtain ⟨g, o, c, x, hv, hxr, _, he⟩ := hT.out.elem hkT
      rw [hN.out] at hv
      cases hv
      have hins := hxr.ins.form
      obtain ⟨x0, x1, x2, x3, x4, x5, x6, x7, x8, x9⟩ := x
      obtain ⟨ia, ic, hvi, hil, hic, _⟩ := hins
      have hx8 : x8 = T[k].ins.length := by simp only [AnV.v] at hvi; cases hvi; rfl
      have hx8m : x8 ≤ 9223372036854775807 := by unfold maxLen at hic; omega
      have e0 := hkw.out.val (he 0 _ rfl)
      have e1 := hkw.out.val (he 1 _ rfl)
      have e2 := hkw.out.val (he 2 _ rfl)
      have e3 := hkw.out.val (he 3 _ rfl)
      have e4 := hkw.out.val (he 4 _ rfl)
      have e5 := hkw.out.val (he 5 _ rfl)
      have e6 := hkw.out.val (he 6 _ rfl)
      have e7 := hkw.out.val (he 7 _ rfl)
      simp only [AnV.v, Nat.add_zero] at e0 e1 e2 e3 e4 e5 e6 e7
      have hkB := hkr.out.alloc (.cells #[.int .i64 x0, .int .i64 x1, .int .u64 x2, .int .i64 x3, .bool x4, .bool x5, .int .i64 x6, .slice x7 x8 x9] tA)
      have hkBw := hkw.out.alloc (.cells #[.int .i64 x0, .int .i64 x1, .int .u64 x2, .int .i64 x3, .bool x4, .bool x5, .int .i64 x6, .slice x7 x8 x9] tA)
      replace hkB := Lib.hid hkB
      replace hkBw := Lib.hid hkBw
      clear he hvi hil hic hxr
      by_cases h5 : 5 < x8
      · have h5i : (5 : Int) < x8 := by omega
        replace hx8 := Lib.hid hx8
        go_wp2
        go_ret
        exact ⟨rfl, hkBw.out⟩
      · have h5i : ¬ ((5 : Int) < x8) := by omega
        have hno2 : ∀ j (hj : j < T.length), j < k + 1 → T[j].ins.length ≤ 5 := fun j hj hjk => by
          by_cases e : j = k
          · subst e; omega
          · exact hno.out j hj (by omega)
        replace hno2 := Lib.hid hno2
        replace hx8 := Lib.hid hx8
        go_wp2
        go_roundw
        case rel => exact ⟨k + 1, rfl, by omega, hno2, hkB⟩
        case measure => simp [intOf]; omega
    · have hT5 : ∀ a ∈ T, a.ins.length ≤ 5 := fun a ha => by
        obtain ⟨j, hj, rfl⟩ := List.mem_iff_getElem.1 ha
        exact hno.out j hj (by rw [hN.out] at hj; omega)
      have hbi := ((hk1.out.trans hkr.out).block _ (lt_of_blk hb4.out) (by simp)).trans hb4.out
      have hbs := ((hk1.out.trans hkr.out).block _ (lt_of_blk hb5.out) (by simp)).trans hb5.out
      obtain ⟨i0, i1⟩ := cells2p hbi
      obtain ⟨j0, j1, j2⟩ := cells3t hbs
      have hl4 := lt_of_blk hbi
      have hl5 := lt_of_blk hbs
      have hfin := finish_c wr im is (s0, s1, s2) (.slice aT N cT) (.slice ap Lp cp) T l h1 hst.out.1 hst.out.2.1 (hT.out.keeps hkw.out) (hp.out.keeps hkw.out) hT5 (by rw [hN.out]; omega) (by rw [hLp.out]; omega)
      simp only at hfin
      replace hfin := Lib.hid hfin
      replace hbi := Lib.hid hbi
      replace hbs := Lib.hid hbs
      replace hb4 := hbi
      replace hb5 := hbs
      clear hno hk1 hkA hkr hT5
      go_wp2_with fail
      refine hfin.out.mono ?_
      rintro e w2 ⟨B, bt, bm, vo, vh, t, rfl, hM, hB, hE, hk2⟩
      have hql : t.qs.length ≤ 1000 := by have := hE.i.recLen; have := hE.i.len; have := hN.out; omega
      have hcT := claimsT_c w2 B bt bm vo vh _ t hM hql
      replace hcT := Lib.hid hcT
      replace hM := Lib.hid hM
      replace hE := Lib.hid hE
      replace hk2 := Lib.hid hk2
      clear hfin
      go_wp2_with fail
      refine hcT.out.mono ?_
      rintro e w3 ⟨v, rfl, hcv, hk3⟩
      clear hcT
      by_cases hs1 : t.state = 1
      case neg =>
        have hsh : t.shown = false := by
          unfold Tr.shown
          rw [hE.out.i.rf]
          rcases hE.out.i.st with ⟨e, _⟩ | ⟨e, _⟩ | ⟨e | e, _⟩
          · exact absurd e hE.out.n0
          · exact absurd e hs1
          · rw [e]; rfl
          · rw [e]; rfl
        obtain rfl : v = .slice none 0 0 := by
          rcases hcv with ⟨_, e⟩ | ⟨e, _⟩
          · exact e
          · rw [hsh] at e; cases e
        have hkb := hk3.alloc (.cells #[.slice none 0 0] 39)
        have hst2 := state_c _ _ _ _ _ _ _ _ ((hM.out.keeps hkb))
        have hsb : (t.state != 1) = true := by simpa using hs1
        have hkf := (hkw.out.trans hk2.out).trans hkb
        replace hst2 := Lib.hid hst2
        replace hkf := Lib.hid hkf
        clear hcv hkb hk3 hs1 hsh
        go_wp2_with fail
        refine hst2.out.mono ?_
        rintro e w4 ⟨rfl, rfl⟩
        go_wp2
        go_ret
        exact ⟨rfl, hkf.out⟩
      case pos =>
        obtain ⟨P, Y, hLC, hYs, hPc⟩ : ∃ P Y, LC w3 v P ∧ SortedA t Y ∧ ClaimsP t Y P := by
          rcases hcv with ⟨e, _⟩ | ⟨_, P, Y, a, b, c⟩
          · unfold Tr.shown at e; rw [hs1] at e; cases e
          · exact ⟨P, Y, a, b, c⟩
        have hcl := closedP (st := (s0, s1, s2)) hE.out hs1 hYs hPc
        obtain ⟨ca, cc, rfl, hPl, hPm⟩ := hLC.form
        obtain ⟨NP, hNP⟩ : ∃ n, P.length = n := ⟨_, rfl⟩
        have hNPm : NP ≤ 9223372036854775807 := by unfold maxLen at hPm; omega
        have hNPp : (0 : Int) < NP := by have := hcl.pos; omega
        rw [hNP] at hLC ⊢
        have hkb := hk3.alloc (.cells #[.slice ca NP cc] 39)
        have hbL := heap_alloc_new w3 (.cells #[.slice ca NP cc] 39)
        have hLC4 := hLC.keeps ((Keeps.refl [] w3).alloc (.cells #[.slice ca NP cc] 39))
        have hst2 := state_c _ _ _ _ _ _ _ _ ((hM.out.keeps hkb))
        rw [hs1] at hst2
        have hk4 := hk2.out.trans hkb
        have hkf := hkw.out.trans hk4
        obtain ⟨XL, hXL⟩ : ∃ X, w3.heap.size = X := ⟨_, rfl⟩
        rw [hXL] at hbL
        replace hst2 := Lib.hid hst2
        replace hkf := Lib.hid hkf
        replace hk4 := Lib.hid hk4
        replace hbL := Lib.hid hbL
        replace hLC4 := Lib.hid hLC4
        replace hcl := Lib.hid hcl
        replace hNP := Lib.hid hNP
        clear hcv hkb hk3 hs1 hLC hYs hPc hPl hPm
        go_wp2_with fail
        replace hXL := Lib.hid hXL
        refine hst2.out.mono ?_
        generalize (w3.alloc (.cells #[.slice ca NP cc] 39)) = w4 at *
        rintro e w5 ⟨rfl, he5⟩
        obtain rfl := he5
        have hcL4 : w4.cell? ⟨XL, 0, none⟩ = some (.slice ca NP cc) := by simp [World.cell?, hbL.out]
        have hltL := lt_of_blk hbL.out
        go_wp2
        go_loopw [64] (fun i wr => ∃ k : Nat, i = .int .i64 k ∧ k ≤ NP ∧ Hid (Keeps [] w4 wr)) (fun i _ => NP - (intOf i).toNat)
        case atStart => exact ⟨0, rfl, by omega, Lib.hid (Keeps.refl _ _)⟩
        case round =>
          obtain ⟨k, rfl, hk, hkr⟩ := hrel
          have hcLr := hkr.out.val hcL4
          have hltr := lt_of_cell hcLr
          by_cases hlt : k < NP
          · have hkP : k < P.length := by rw [hNP.out]; exact hlt
            obtain ⟨g, o, c', x, hv, hxr, e0, e1, e2, e3, e4⟩ := hLC4.out.elem hkP
            rw [hNP.out] at hv
            cases hv
            have r1 := hxr.st
            have r2 := hxr.sc
            have r3 := hxr.ch
            have hxm := hxr.m
            obtain ⟨x0, x1, ⟨x2, x3, x4⟩, ⟨x5, x6, x7⟩, ⟨x8, x9, x10⟩⟩ := x
            simp only [slv] at e0 e1 e2 e3 e4 r1 r2 r3 hxm
            replace e0 := hkr.out.val e0
            replace e1 := hkr.out.val e1
            replace e2 := hkr.out.val e2
            replace e3 := hkr.out.val e3
            replace e4 := hkr.out.val e4
            have hprev : ∀ j (hj : j + 1 = k), ∃ y : Int, w4.cell? ⟨g, o + j * 5, none⟩ = some (.int .i64 y) ∧ y < x0 := fun j hj => by
              subst hj
              obtain ⟨g', o', c'', x', hv', hx', d0, _⟩ := hLC4.out.elem (k := j) (by omega)
              simp at hv'
              obtain ⟨⟨rfl, rfl⟩, _⟩ := hv'
              exact ⟨x'.m, d0, by rw [hx'.m, hxm]; exact hcl.out.asc j _ _⟩
            have hmem : P[k] ∈ P := List.getElem_mem _
            obtain ⟨PK, hPKe⟩ : ∃ c, P[k] = c := ⟨_, rfl⟩
            rw [hPKe] at r1 r2 r3 hxm hmem
            have hN1 : PK.st.length = x3 := by obtain ⟨_, _, e, _⟩ := r1.form; cases e; rfl
            have hN2 : PK.sc.length = x6 := by obtain ⟨_, _, e, _⟩ := r2.form; cases e; rfl
            have hN3 : PK.ch.length = x9 := by obtain ⟨_, _, e, _⟩ := r3.form; cases e; rfl
            have hB1 : x3 ≤ 9223372036854775807 := by obtain ⟨_, _, e, h1, h2, _⟩ := r1.form; cases e; unfold maxLen at h2; omega
            have hB2 : x6 ≤ 9223372036854775807 := by obtain ⟨_, _, e, h1, h2, _⟩ := r2.form; cases e; unfold maxLen at h2; omega
            have hB3 : x9 ≤ 9223372036854775807 := by obtain ⟨_, _, e, h1, h2, _⟩ := r3.form; cases e; unfold maxLen at h2; omega
            have hbC := heap_alloc_new wr (.cells #[.int .i64 x0, .int .i64 x1, .slice x2 x3 x4, .slice x5 x6 x7, .slice x8 x9 x10] tC)
            have hkC0 := (Keeps.refl [] wr).alloc (.cells #[.int .i64 x0, .int .i64 x1, .slice x2 x3 x4, .slice x5 x6 x7, .slice x8 x9 x10] tC)
            have hkC := hkr.out.trans hkC0
            have hcLA := hkC0.val hcLr
            have hLC := hLC4
            have hR1 := Lib.hid r1
            have hR2 := Lib.hid r2
            have hR3 := Lib.hid r3
            have hPm := Lib.hid hxm
            have hPK := Lib.hid hmem
            replace hkC := Lib.hid hkC
            replace hbC := Lib.hid hbC
            replace hN1 := Lib.hid hN1
            replace hN2 := Lib.hid hN2
            replace hN3 := Lib.hid hN3
            replace hprev := Lib.hid hprev
            replace hPKe := Lib.hid hPKe
            replace hkC0 := Lib.hid hkC0
            clear r1 r2 r3 hxm hmem hxr
            go_upto_region 19 with fail
            generalize (wr.alloc (.cells #[.int .i64 x0, .int .i64 x1, .slice x2 x3 x4, .slice x5 x6 x7, .slice x8 x9 x10] tC)) = WA at *
            obtain ⟨XC, hXC⟩ : ∃ X, wr.heap.size = X := ⟨_, rfl⟩
            rw [hXC] at hbC ⊢
            replace hXC := Lib.hid hXC
            go_cut [64, 81] from 64 to 152 (fun c b wx => c = .int .i64 k ∧ b = .bool false ∧ wx = WA.drew)
            case first =>
              obtain ⟨y0, y1, y2, y3, y4, yl⟩ := cells5 hbC.out
              cases k with
              | zero =>
                refine Free.wp_region_chain (fun i => false) (fun i => true) (fun _ _ => False) (by kernel_rfl) (by kernel_rfl) (by kernel_rfl) ?_
                (repeat (first | (apply Free.cw_pureW rfl rfl; (intro w'; go_simp <;> exact rfl); go_frame) | (apply Free.cw_steadyW rfl rfl rfl; (intro w' hS; have q0 := Free.sx_cell hS y0 (fun _ _ hT => hT); go_simp <;> exact rfl); go_frame) | (refine Free.cw_skip rfl ?_; go_frame)))
                refine Free.cw_nil ?_
                go_wp2
                go_meet
                case rel => exact ⟨rfl, rfl, rfl⟩
              | succ k =>
                obtain ⟨y9, d0, hy9⟩ := hprev.out k rfl
                replace d0 := (hkr.out.trans hkC0.out).val d0
                have hge : decide (x0 ≤ y9) = false := by simp; omega
                have hge2 : ¬ (x0 ≤ y9) := by omega
                have hwk : IntKind.i64.wrap (k : Int) = (k : Int) := IntWalk.i64_in _ (by omega)
                have hk0 : (0 : Int) < (k : Int) + 1 := by omega
                have hkk : (k : Int) < NP := by omega
                refine Free.wp_region_chain (fun i => false) (fun i => true) (fun _ _ => False) (by kernel_rfl) (by kernel_rfl) (by kernel_rfl) ?_
                (repeat (first | (apply Free.cw_pureW rfl rfl; (intro w'; go_simp <;> exact rfl); go_frame) | (apply Free.cw_steadyW rfl rfl rfl; (intro w' hS; have q0 := Free.sx_cell hS y0 (fun _ _ hT => hT); have q1 := Free.sx_cell hS hcLA (fun _ _ hT => hT); have q2 := Free.sx_cell hS d0 (fun _ _ hT => hT); go_simp <;> exact rfl); go_frame) | (refine Free.cw_skip rfl ?_; go_frame)))
                refine Free.cw_nil ?_
                go_wp2
                go_meet
                case rel => exact ⟨rfl, rfl, rfl⟩
            case rest =>
              obtain ⟨rfl, rfl, rfl⟩ := hcut
              have hkd : Keeps [] WA WA.drew := (Keeps.refl [] WA).drew
              have hbD := (hkd.block XC (lt_of_blk hbC.out) (by simp)).trans hbC.out
              have hcLC := hkd.val hcLA
              have hkD := hkC.out.trans hkd
              obtain ⟨y0, y1, y2, y3, y4, yl⟩ := cells5 hbD
              generalize WA.drew = WC at *
              replace hbC := Lib.hid hbD
              replace hkC := Lib.hid hkD
              replace hcLC := Lib.hid hcLC
              clear hkd hbD hkD hcLA
              go_wp2
              go_loopw [85] (fun i wr => ∃ j : Nat, i = .int .i64 j ∧ j ≤ x6 ∧ Hid (Keeps [] WC wr)) (fun i _ => x6 - (intOf i).toNat)
              case atStart => exact ⟨0, rfl, by omega, Lib.hid (Keeps.refl _ _)⟩
              case round =>
                obtain ⟨j, rfl, hj, hkl⟩ := hrel
                have hklw := hkC.out.trans hkl.out
                have hbl := (hkl.out.block XC (lt_of_blk hbC.out) (by simp)).trans hbC.out
                obtain ⟨y0, y1, y2, y3, y4, yl⟩ := cells5 hbl
                have hfl : ∀ o, wr.frozen? ⟨XC, o, none⟩ = false := fun o => by simp [World.frozen?, hbl]
                replace hklw := Lib.hid hklw
                replace hbl := Lib.hid hbl
                by_cases hltj : j < x6
                · have hjl : j < PK.sc.length := by rw [hN2.out]; exact hltj
                  obtain ⟨gs, os, cs', hvs, hes⟩ := (hR2.out.keeps hklw.out).elem hjl
                  rw [hN2.out] at hvs
                  cases hvs
                  have hgood := hcl.out.sc PK hPK.out _ (List.getElem_mem hjl)
                  obtain ⟨⟨u0, u1, u2⟩, hu⟩ : ∃ x, PK.sc[j] = x := ⟨_, rfl⟩
                  rw [hu] at hes hgood
                  have e0 := hes 0 _ rfl
                  have e1 := hes 1 _ rfl
                  have e2 := hes 2 _ rfl
                  simp only [shT, Nat.add_zero] at e0 e1 e2
                  simp only at hgood
                  rw [← hPm.out] at hgood
                  have hbu := heap_alloc_new wr (.cells #[.int .i64 u0, .int .u64 u1, .int .i64 u2] tN)
                  have hku := (Keeps.refl [] wr).alloc (.cells #[.int .i64 u0, .int .u64 u1, .int .i64 u2] tN)
                  have y0' := hku.val y0
                  have hcL' := hku.val (hkl.out.val hcLC.out)
                  have hklC := hkl.out.trans hku
                  have hLCu := hLC.out.keeps (hklw.out.trans hku)
                  replace hgood := Lib.hid hgood
                  replace hbu := Lib.hid hbu
                  replace hku := Lib.hid hku
                  replace hklC := Lib.hid hklC
                  replace hLCu := Lib.hid hLCu
                  replace hu := Lib.hid hu
                  replace hcL' := Lib.hid hcL'
                  clear hes
                  go_wp2
                  generalize (wr.alloc (.cells #[.int .i64 u0, .int .u64 u1, .int .i64 u2] tN)) = WU at *
                  obtain ⟨XU, hXU⟩ : ∃ X, wr.heap.size = X := ⟨_, rfl⟩
                  rw [hXU] at hbu ⊢
                  replace hXU := Lib.hid hXU
                  obtain ⟨z0, z1, z2⟩ := cells3t hbu.out
                  refine Free.wp_region_chain (fun i => i == 3 || i == 9) (fun i => true) (fun _ _ => False) (by kernel_rfl) (by kernel_rfl) (by kernel_rfl) ?_
                  (repeat (first | (apply Free.cw_pure rfl rfl; (intro w'; go_simp <;> exact rfl); go_frame) | (apply Free.cw_steady rfl rfl rfl; (intro w' hS; have q0 := Free.sx_cell hS z0 (fun _ _ hT => hT); have q1 := Free.sx_cell hS z1 (fun _ _ hT => hT); have q2 := Free.sx_cell hS y0' (fun _ _ hT => hT); go_simp <;> exact rfl); go_frame) | (refine Free.cw_skip rfl ?_; go_frame)))
                  refine Free.cw_loud rfl rfl (fun K hK => ?_)
                  go_wp2_with fail
                  refine (find_c _ XL _ P u0 (hLCu.out.keeps ((Keeps.refl [] WU).drew)) (((Keeps.refl [] WU).drew).val hcL'.out)).mono ?_
                  rintro e w5 ⟨xf, rfl, hcr, hk5⟩
                  refine hK _ _ rfl (Free.KeepsP.of hk5 (by simp)) ?_
                  clear hK K
                  obtain ⟨f0, f1, ⟨f2, f3, f4⟩, ⟨f5, f6, f7⟩, ⟨f8, f9, f10⟩⟩ := xf
                  simp only [clV, slv]
                  have hfld := fun w => field_st w f0 f1 f2 f3 f4 f5 f6 f7 f8 f9 f10
                  have hrS := hcr.st
                  have hk5w := ((Keeps.refl [] WU).drew).trans hk5
                  simp only [slv] at hrS
                  replace hrS := Lib.hid hrS
                  replace hk5w := Lib.hid hk5w
                  clear hcr hk5
                  (repeat (first | (apply Free.cw_pure rfl rfl; (intro w'; go_simp <;> exact rfl); go_frame) | (apply Free.cw_steady rfl rfl rfl; (intro w' hS; have q0 := Free.sx_cell hS z0 (fun _ _ hT => hT); have q1 := Free.sx_cell hS z1 (fun _ _ hT => hT); have q2 := Free.sx_cell hS y0' (fun _ _ hT => hT); go_simp <;> exact rfl); go_frame) | (refine Free.cw_skip rfl ?_; go_frame)))
                  refine Free.cw_loud rfl rfl (fun K hK => ?_)
                  go_wp2_with fail
                  have hhc := has_c w5 _ _ x0 u1 hrS.out
                  rw [hgood.out] at hhc
                  refine hhc.mono ?_
                  rintro e w6 ⟨rfl, hk6⟩
                  refine hK _ _ rfl (Free.KeepsP.of hk6 (by simp)) ?_
                  clear hK K hhc
                  have hkf := Lib.hid (hklC.out.trans (hk5w.out.trans hk6))
                  clear hk6
                  (repeat (apply Free.cw_pure rfl rfl; (intro w'; go_simp <;> exact rfl); go_frame))
                  refine Free.cw_nil ?_
                  go_wp2
                  go_roundw
                  case rel => exact ⟨j + 1, rfl, by omega, hkf⟩
                  case measure => simp [intOf]; omega
                · go_wp2
                  go_loopw [104] (fun i wr => ∃ j : Nat, i = .int .i64 j ∧ j ≤ x3 ∧ Hid (Keeps [] WC wr)) (fun i _ => x3 - (intOf i).toNat)
                  case atStart => exact ⟨0, rfl, by omega, hkl⟩
                  case round =>
                    obtain ⟨j, rfl, hj, hkl⟩ := hrel
                    have hklw := hkC.out.trans hkl.out
                    have hbl := (hkl.out.block XC (lt_of_blk hbC.out) (by simp)).trans hbC.out
                    obtain ⟨y0, y1, y2, y3, y4, yl⟩ := cells5 hbl
                    have hfl : ∀ o, wr.frozen? ⟨XC, o, none⟩ = false := fun o => by simp [World.frozen?, hbl]
                    replace hklw := Lib.hid hklw
                    replace hbl := Lib.hid hbl
                    by_cases hltj : j < x3
                    · have hjl : j < PK.st.length := by rw [hN1.out]; exact hltj
                      obtain ⟨gs, os, cs', hvs, hes⟩ := (hR1.out.keeps hklw.out).elem hjl
                      rw [hN1.out] at hvs
                      cases hvs
                      have hgood := hcl.out.st PK hPK.out _ (List.getElem_mem hjl)
                      obtain ⟨⟨u0, u1, u2⟩, hu⟩ : ∃ x, PK.st[j] = x := ⟨_, rfl⟩
                      rw [hu] at hes hgood
                      have e0 := hes 0 _ rfl
                      have e1 := hes 1 _ rfl
                      have e2 := hes 2 _ rfl
                      simp only [shT, Nat.add_zero] at e0 e1 e2
                      simp only at hgood
                      rw [← hPm.out] at hgood
                      have hbu := heap_alloc_new wr (.cells #[.int .i64 u0, .int .u64 u1, .int .i64 u2] tN)
                      have hku := (Keeps.refl [] wr).alloc (.cells #[.int .i64 u0, .int .u64 u1, .int .i64 u2] tN)
                      have y0' := hku.val y0
                      have hcL' := hku.val (hkl.out.val hcLC.out)
                      have hklC := hkl.out.trans hku
                      have hLCu := hLC.out.keeps (hklw.out.trans hku)
                      replace hgood := Lib.hid hgood
                      replace hbu := Lib.hid hbu
                      replace hku := Lib.hid hku
                      replace hklC := Lib.hid hklC
                      replace hLCu := Lib.hid hLCu
                      replace hu := Lib.hid hu
                      replace hcL' := Lib.hid hcL'
                      clear hes
                      go_wp2
                      generalize (wr.alloc (.cells #[.int .i64 u0, .int .u64 u1, .int .i64 u2] tN)) = WU at *
                      obtain ⟨XU, hXU⟩ : ∃ X, wr.heap.size = X := ⟨_, rfl⟩
                      rw [hXU] at hbu ⊢
                      replace hXU := Lib.hid hXU
                      obtain ⟨z0, z1, z2⟩ := cells3t hbu.out
                      refine Free.wp_region_chain (fun i => i == 3 || i == 9) (fun i => true) (fun _ _ => False) (by kernel_rfl) (by kernel_rfl) (by kernel_rfl) ?_
                      (repeat (first | (apply Free.cw_pure rfl rfl; (intro w'; go_simp <;> exact rfl); go_frame) | (apply Free.cw_steady rfl rfl rfl; (intro w' hS; have q0 := Free.sx_cell hS z0 (fun _ _ hT => hT); have q1 := Free.sx_cell hS z1 (fun _ _ hT => hT); have q2 := Free.sx_cell hS y0' (fun _ _ hT => hT); go_simp <;> exact rfl); go_frame) | (refine Free.cw_skip rfl ?_; go_frame)))
                      refine Free.cw_loud rfl rfl (fun K hK => ?_)
                      go_wp2_with fail
                      refine (find_c _ XL _ P u0 (hLCu.out.keeps ((Keeps.refl [] WU).drew)) (((Keeps.refl [] WU).drew).val hcL'.out)).mono ?_
                      rintro e w5 ⟨xf, rfl, hcr, hk5⟩
                      refine hK _ _ rfl (Free.KeepsP.of hk5 (by simp)) ?_
                      clear hK K
                      obtain ⟨f0, f1, ⟨f2, f3, f4⟩, ⟨f5, f6, f7⟩, ⟨f8, f9, f10⟩⟩ := xf
                      simp only [clV, slv]
                      have hfld := fun w => field_sc w f0 f1 f2 f3 f4 f5 f6 f7 f8 f9 f10
                      have hrS := hcr.sc
                      have hk5w := ((Keeps.refl [] WU).drew).trans hk5
                      simp only [slv] at hrS
                      replace hrS := Lib.hid hrS
                      replace hk5w := Lib.hid hk5w
                      clear hcr hk5
                      (repeat (first | (apply Free.cw_pure rfl rfl; (intro w'; go_simp <;> exact rfl); go_frame) | (apply Free.cw_steady rfl rfl rfl; (intro w' hS; have q0 := Free.sx_cell hS z0 (fun _ _ hT => hT); have q1 := Free.sx_cell hS z1 (fun _ _ hT => hT); have q2 := Free.sx_cell hS y0' (fun _ _ hT => hT); go_simp <;> exact rfl); go_frame) | (refine Free.cw_skip rfl ?_; go_frame)))
                      refine Free.cw_loud rfl rfl (fun K hK => ?_)
                      go_wp2_with fail
                      have hhc := has_c w5 _ _ x0 u1 hrS.out
                      rw [hgood.out] at hhc
                      refine hhc.mono ?_
                      rintro e w6 ⟨rfl, hk6⟩
                      refine hK _ _ rfl (Free.KeepsP.of hk6 (by simp)) ?_
                      clear hK K hhc
                      have hkf := Lib.hid (hklC.out.trans (hk5w.out.trans hk6))
                      clear hk6
                      (repeat (apply Free.cw_pure rfl rfl; (intro w'; go_simp <;> exact rfl); go_frame))
                      refine Free.cw_nil ?_
                      go_wp2
                      go_roundw
                      case rel => exact ⟨j + 1, rfl, by omega, hkf⟩
                      case measure => simp [intOf]; omega
                    · go_wp2
                      go_loopw [123] (fun i wr => ∃ j : Nat, i = .int .i64 j ∧ j ≤ x9 ∧ Hid (Keeps [] WC wr)) (fun i _ => x9 - (intOf i).toNat)
                      case atStart => exact ⟨0, rfl, by omega, hkl⟩
                      case round =>
                        obtain ⟨j, rfl, hj, hkl⟩ := hrel
                        have hklw := hkC.out.trans hkl.out
                        have hbl := (hkl.out.block XC (lt_of_blk hbC.out) (by simp)).trans hbC.out
                        obtain ⟨y0, y1, y2, y3, y4, yl⟩ := cells5 hbl
                        have hfl : ∀ o, wr.frozen? ⟨XC, o, none⟩ = false := fun o => by simp [World.frozen?, hbl]
                        replace hklw := Lib.hid hklw
                        replace hbl := Lib.hid hbl
                        by_cases hltj : j < x9
                        · have hjl : j < PK.ch.length := by rw [hN3.out]; exact hltj
                          obtain ⟨gs, os, cs', hvs, hes⟩ := (hR3.out.keeps hklw.out).elem hjl
                          rw [hN3.out] at hvs
                          cases hvs
                          have hgood := hcl.out.ch PK hPK.out _ (List.getElem_mem hjl)
                          obtain ⟨⟨u0, u1, u2⟩, hu⟩ : ∃ x, PK.ch[j] = x := ⟨_, rfl⟩
                          rw [hu] at hes hgood
                          have e0 := hes 0 _ rfl
                          have e1 := hes 1 _ rfl
                          have e2 := hes 2 _ rfl
                          simp only [shT, Nat.add_zero] at e0 e1 e2
                          simp only at hgood
                          obtain ⟨q1, q2, q3, q4⟩ := hgood
                          rw [q2] at e0
                          rw [q3] at e1
                          rw [q4] at e2
                          rw [hPm.out.trans q1] at y0
                          have hbi := ((hk4.out.trans hklw.out).block _ (lt_of_blk hb4.out) (by simp)).trans hb4.out
                          have hbs := ((hk4.out.trans hklw.out).block _ (lt_of_blk hb5.out) (by simp)).trans hb5.out
                          obtain ⟨i0, i1⟩ := cells2p hbi
                          obtain ⟨j0, j1, j2⟩ := cells3t hbs
                          have hkf := hkl.out.alloc (.cells #[.int .i64 s0, .int .u64 s1, .int .i64 0] tN)
                          have hl4 := lt_of_blk hbi
                          have hl5 := lt_of_blk hbs
                          replace hkf := Lib.hid hkf
                          replace hbi := Lib.hid hbi
                          replace hbs := Lib.hid hbs
                          replace hu := Lib.hid hu
                          clear hes q1 q2 q3 q4
                          go_wp2
                          go_roundw
                          case rel => exact ⟨j + 1, rfl, by omega, hkf⟩
                          case measure => simp [intOf]; omega
                        · have hkf := hkC.out.trans hkl.out
                          replace hkf := Lib.hid hkf
                          go_wp2
                          go_roundw
                          case rel => exact ⟨k + 1, rfl, by omega, hkf⟩
                          case measure => simp [intOf]; omega
          · have hkf2 := hkf.out.trans hkr.out
            replace hkf2 := Lib.hid hkf2
            go_wp2
            go_ret
            refine ⟨?_, hkf2.out⟩
            show Ending.returned (Value.bool (decide (0 < NP))) = _
            rw [decide_eq_true (show 0 < NP by omega)]
end Go.Proofs.Ythfdngjbcgkkfaa
