/- Texts that the laws lean on, in the order in which they build. The specification's WellFormed, at lists of whatever length. (Printed by mkcum.py.) The specification's Check. (Printed by mkcuj.py.) The law's few, exactly: the number of elements of all lists, where the sum may wrap. The law CertificateChecks, walked. How long the list of claims among a law's arguments may be: a slice takes at most 2^47 bytes. -/
import Derived.Test.YtiplgpefapeapaaKC12
import Derived.SizedLaws
set_option linter.unusedVariables false
set_option linter.unusedSimpArgs false
namespace Go.Proofs.Ytiplgpefapeapaa
open Go.RowKit

def ansOkL (a : Ans) : Bool := ansOk a && decide (a.ins.length ≤ 1024)
def clShort (p : PCl) : Bool := decide (p.st.length ≤ 1024) && decide (p.sc.length ≤ 1024) && decide (p.ch.length ≤ 1024)
/-- What the specification's WellFormed says. -/
def wfS (c : Ct) : Bool := mach c.im && decide (1 ≤ c.is) && mach c.st.1 && decide (c.an.length ≤ 1024) && incA c.an && (incC c.cl && c.cl.all clShort) && c.an.all ansOkL
set_option maxRecDepth 100000 in
set_option maxHeartbeats 8000000 in
theorem answerX_c (w : World) (x : AnV) (y : Ans) (h : InR w x y) :
    Calls Try.prog 49 #[aV x] w fun e w' => e = .returned (.bool (ansOkL y)) ∧ Keeps [] w w' := by
  obtain ⟨_, _, ev, hl1, hl2, _⟩ := h.ins.form
  have hins := h.ins
  obtain ⟨x0, x1, x2, x3, x4, x5, x6, x7, x8, x9⟩ := x
  have q0 := h.m
  have q1 := h.ow
  have q3 := h.ep
  have q6 := h.lu
  simp only [AnV.v] at ev hins
  simp only at q0 q1 q3 q6
  simp only [Value.slice.injEq] at ev
  obtain ⟨-, ev, -⟩ := ev
  have hx8m : x8 ≤ 9223372036854775807 := by unfold maxLen at hl2; omega
  have hok : ansOkL y = (mach x0 && mach x1 && decide (0 ≤ x3) && decide (0 ≤ x6) && y.ins.all insOk && decide (x8 ≤ 1024)) := by unfold ansOkL; rw [ansOk_def, q0, q1, q3, q6, ev]
  obtain ⟨r, hr⟩ : ∃ r, ansOkL y = r := ⟨_, rfl⟩
  rw [hr]
  rw [hok] at hr
  obtain ⟨n1, hn1⟩ : ∃ b, mach x0 = b := ⟨_, rfl⟩
  obtain ⟨n2, hn2⟩ : ∃ b, mach x1 = b := ⟨_, rfl⟩
  have hd1 := fun W => machR_c x0 W
  have hd2 := fun W => machR_c x1 W
  rw [hn1] at hd1 hr
  rw [hn2] at hd2 hr
  have hbA := heap_alloc_new w (.cells #[.int .i64 x0, .int .i64 x1, .int .u64 x2, .int .i64 x3, .bool x4, .bool x5, .int .i64 x6, .slice x7 x8 x9] tA)
  have hkA := (Keeps.refl [] w).alloc (.cells #[.int .i64 x0, .int .i64 x1, .int .u64 x2, .int .i64 x3, .bool x4, .bool x5, .int .i64 x6, .slice x7 x8 x9] tA)
  have hinsn := Lib.hid (hins.keeps hkA)
  replace hr := Lib.hid hr
  replace hd1 := Lib.hid hd1
  replace hd2 := Lib.hid hd2
  replace ev := Lib.hid ev
  replace hbA := Lib.hid hbA
  replace hkA := Lib.hid hkA
  clear h hins q0 q1 q3 q6 hok hn1 hn2 hl1 hl2
  simp only [aV, AnV.v]
  go_enter Try.func49, Try.ntmps49
  go_upto_region 1 with fail
  generalize (w.alloc (.cells #[.int .i64 x0, .int .i64 x1, .int .u64 x2, .int .i64 x3, .bool x4, .bool x5, .int .i64 x6, .slice x7 x8 x9] tA)) = WA at *
  obtain ⟨XA, hXA⟩ : ∃ X, w.heap.size = X := ⟨_, rfl⟩
  rw [hXA] at hbA ⊢
  replace hXA := Lib.hid hXA
  go_wp2
  go_loopw [3] (fun i wr => ∃ q : Nat, i = .int .i64 q ∧ q ≤ x8 ∧ Hid (∀ j (hj : j < y.ins.length), j < q → insOk y.ins[j] = true) ∧ Hid (Keeps [] WA wr)) (fun i _ => x8 - (intOf i).toNat)
  case atStart => exact ⟨0, rfl, by omega, Lib.hid (fun _ _ h => by omega), Lib.hid (Keeps.refl _ _)⟩
  case round =>
    obtain ⟨q, rfl, hq, hnq, hkq⟩ := hrel
    have hbr := (hkq.out.block _ (lt_of_blk hbA.out) (by simp)).trans hbA.out
    obtain ⟨g0, g1, g2, g3, g4, g5, g6, g7, gf, gl⟩ := cl8 hbr
    have hfin := Lib.hid (hkA.out.trans hkq.out)
    by_cases hltq : q < x8
    · have hlt2q : (q : Int) < x8 := by omega
      have hql : q < y.ins.length := by rw [← ev.out]; exact hltq
      obtain ⟨gi, oi, ci, hvi, hei⟩ := (hinsn.out.keeps hkq.out).elem hql
      rw [← ev.out] at hvi
      cases hvi
      obtain ⟨⟨z0, z1, z2⟩, hz⟩ : ∃ z, y.ins[q] = z := ⟨_, rfl⟩
      rw [hz] at hei
      have t0 := hei 0 _ rfl
      have t1 := hei 1 _ rfl
      have t2 := hei 2 _ rfl
      simp only [shT, Nat.add_zero] at t0 t1 t2
      obtain ⟨n3, hn3⟩ : ∃ b, mach z0 = b := ⟨_, rfl⟩
      have hd3 := fun W => machR_c z0 W
      rw [hn3] at hd3
      have hok : insOk y.ins[q] = (n3 && decide (0 ≤ z2)) := by rw [hz, ← hn3]; rfl
      replace hd3 := Lib.hid hd3
      replace hok := Lib.hid hok
      replace hz := Lib.hid hz
      clear hei hn3
      go_wp2_with fail
      refine (hd3.out _).mono ?_
      rintro e w' ⟨rfl, hw⟩
      obtain rfl := hw
      cases n3 with
      | false =>
        have hd : false = r := by rw [← hr.out, all_no hql (by rw [hok.out]; rfl)]; simp
        replace hd := Lib.hid hd
        go_wp2
        go_ret
        exact ⟨by rw [← hd.out]; rfl, hfin.out⟩
      | true =>
      by_cases h2 : z2 < 0
      · have hd : false = r := by rw [← hr.out, all_no hql (by rw [hok.out]; simpa using h2)]; simp
        replace hd := Lib.hid hd
        go_wp2
        go_ret
        exact ⟨by rw [← hd.out]; rfl, hfin.out⟩
      have h2d : decide (z2 < 0) = false := by simpa using h2
      have hnq2 : ∀ j (hj : j < y.ins.length), j < q + 1 → insOk y.ins[j] = true := fun j hj hjq => by
        by_cases e : j = q
        · subst e; rw [hok.out]; simpa using h2
        · exact hnq.out j hj (by omega)
      replace hnq2 := Lib.hid hnq2
      go_wp2
      go_roundw
      case rel => exact ⟨q + 1, rfl, by omega, hnq2, hkq⟩
      case measure => simp [intOf]; omega
    · have hlt2q : ¬ ((q : Int) < x8) := by omega
      have hall : y.ins.all insOk = true := all_take (fun j hj => hnq.out j hj (by have := ev.out; omega))
      rw [hall, Bool.and_true] at hr
      clear hnq hall
      go_wp2_with fail
      refine (hd1.out _).mono ?_
      rintro e w' ⟨rfl, hw⟩
      obtain rfl := hw
      cases n1 with
      | false =>
        have hd : false = r := by rw [← hr.out]; simp
        replace hd := Lib.hid hd
        go_wp2
        go_ret
        exact ⟨by rw [← hd.out]; rfl, hfin.out⟩
      | true =>
      go_wp2_with fail
      refine (hd2.out _).mono ?_
      rintro e w' ⟨rfl, hw⟩
      obtain rfl := hw
      cases n2 with
      | false =>
        have hd : false = r := by rw [← hr.out]; simp
        replace hd := Lib.hid hd
        go_wp2
        go_ret
        exact ⟨by rw [← hd.out]; rfl, hfin.out⟩
      | true =>
      by_cases h3 : 0 ≤ x3
      case neg =>
        have h3d : decide (0 ≤ x3) = false := by simpa using h3
        have hd : false = r := by rw [← hr.out, h3d]; simp
        replace hd := Lib.hid hd
        go_wp2
        go_ret
        exact ⟨by rw [← hd.out]; rfl, hfin.out⟩
      case pos =>
      have h3d : decide (0 ≤ x3) = true := by simpa using h3
      by_cases h6 : 0 ≤ x6
      case neg =>
        have h6d : decide (0 ≤ x6) = false := by simpa using h6
        have hd : false = r := by rw [← hr.out, h6d]; simp
        replace hd := Lib.hid hd
        go_wp2
        go_ret
        exact ⟨by rw [← hd.out]; rfl, hfin.out⟩
      case pos =>
      have h6d : decide (0 ≤ x6) = true := by simpa using h6
      by_cases h8 : x8 ≤ 1024
      case neg =>
        have hd : false = r := by rw [← hr.out, decide_eq_false h8]; simp
        have hl9 : decide ((x8 : Int) ≤ 1024) = false := by simp; omega
        replace hd := Lib.hid hd
        go_wp2
        go_ret
        exact ⟨by rw [← hd.out]; rfl, hfin.out⟩
      case pos =>
      have hd : true = r := by rw [← hr.out, h3d, h6d, decide_eq_true h8]; simp
      have hl9 : decide ((x8 : Int) ≤ 1024) = true := by simp; omega
      replace hd := Lib.hid hd
      go_wp2
      go_ret
      exact ⟨by rw [← hd.out]; rfl, hfin.out⟩
set_option maxRecDepth 100000 in
set_option maxHeartbeats 16000000 in
theorem wfX_c (w : World) (x : CtV) (c : Ct) (h : CtW w x c) :
    Calls Try.prog 20 #[ctV x] w fun e w' => e = .returned (.bool (wfS c)) ∧ Keeps [] w w' := by
  have him := h.im
  have his := h.is
  have hs0 := h.s0
  have han := h.an
  have hcl := h.cl
  obtain ⟨x0, x1, x2, x3, x4, ⟨x5, x6, x7⟩, ⟨x8, x9, x10⟩⟩ := x
  simp only [slv] at han hcl
  simp only at him his hs0
  obtain ⟨_, _, e1, hla, hca⟩ := han.form
  obtain ⟨_, _, e2, hlc, hcc⟩ := hcl.form
  simp only [Value.slice.injEq] at e1 e2
  obtain ⟨-, e1, -⟩ := e1
  obtain ⟨-, e2, -⟩ := e2
  have hx6 : x6 ≤ 9223372036854775807 := by unfold maxLen at hca; omega
  have hx9 : x9 ≤ 9223372036854775807 := by unfold maxLen at hcc; omega
  have hA := heap_alloc_new w (.cells #[.int .i64 x0, .int .i64 x1, .int .i64 x2, .int .u64 x3, .int .i64 x4, .slice x5 x6 x7, .slice x8 x9 x10] tCt)
  have hkA := (Keeps.refl [] w).alloc (.cells #[.int .i64 x0, .int .i64 x1, .int .i64 x2, .int .u64 x3, .int .i64 x4, .slice x5 x6 x7, .slice x8 x9 x10] tCt)
  obtain ⟨W, hW⟩ : ∃ W, w.alloc (.cells #[.int .i64 x0, .int .i64 x1, .int .i64 x2, .int .u64 x3, .int .i64 x4, .slice x5 x6 x7, .slice x8 x9 x10] tCt) = W := ⟨_, rfl⟩
  obtain ⟨B, hB⟩ : ∃ B, w.heap.size = B := ⟨_, rfl⟩
  rw [hW] at hA hkA
  rw [hB] at hA
  obtain ⟨r, hr⟩ : ∃ r, wfS c = r := ⟨_, rfl⟩
  rw [hr]
  unfold wfS at hr
  rw [← him, ← his, ← hs0] at hr
  obtain ⟨m1, hm1⟩ : ∃ b, mach x0 = b := ⟨_, rfl⟩
  obtain ⟨m2, hm2⟩ : ∃ b, mach x2 = b := ⟨_, rfl⟩
  have hc1 := fun W => machR_c x0 W
  have hc2 := fun W => machR_c x2 W
  rw [hm1] at hc1 hr
  rw [hm2] at hc2 hr
  replace hc1 := Lib.hid hc1
  replace hc2 := Lib.hid hc2
  replace hr := Lib.hid hr
  replace han := Lib.hid han
  replace hcl := Lib.hid hcl
  replace hkA := Lib.hid hkA
  replace hW := Lib.hid hW
  replace hB := Lib.hid hB
  replace e1 := Lib.hid e1
  replace e2 := Lib.hid e2
  replace hA := Lib.hid hA
  clear h hm1 hm2 him his hs0 hla hlc hca hcc
  simp only [ctV, slv]
  go_enter Try.func20, Try.ntmps20
  go_upto_region 1 with fail
  rw [hW.out, hB.out]
  obtain ⟨i0, i1, i2, i3, i4, i5, i6, if', il⟩ := cl7 hA.out
  go_wp2_with fail
  refine (hc1.out _).mono ?_
  rintro e w' ⟨rfl, hw⟩
  obtain rfl := hw
  clear hc1
  cases m1 with
  | false =>
    have hd : false = r := by rw [← hr.out]; simp
    replace hd := Lib.hid hd
    go_wp2
    go_ret
    exact ⟨by rw [← hd.out]; rfl, hkA.out⟩
  | true =>
  by_cases h1 : x1 < 1
  · have hd : false = r := by
      rw [← hr.out]
      have : decide (1 ≤ x1) = false := by simpa using h1
      rw [this]; simp
    replace hd := Lib.hid hd
    go_wp2
    go_ret
    exact ⟨by rw [← hd.out]; rfl, hkA.out⟩
  have h1d : decide (x1 < 1) = false := by simpa using h1
  have h1e : decide (1 ≤ x1) = true := by simpa using h1
  rw [h1e] at hr
  go_wp2_with fail
  refine (hc2.out _).mono ?_
  rintro e w' ⟨rfl, hw⟩
  obtain rfl := hw
  clear hc2
  cases m2 with
  | false =>
    have hd : false = r := by rw [← hr.out]; simp
    replace hd := Lib.hid hd
    go_wp2
    go_ret
    exact ⟨by rw [← hd.out]; rfl, hkA.out⟩
  | true =>
  by_cases h6 : 1024 < x6
  · have hl6 : decide ((1024 : Int) < x6) = true := by simp; omega
    have hd : false = r := by
      rw [← hr.out]
      have : decide (c.an.length ≤ 1024) = false := by have := e1.out; simp; omega
      rw [this]; simp
    replace hd := Lib.hid hd
    go_wp2
    go_ret
    exact ⟨by rw [← hd.out]; rfl, hkA.out⟩
  have hl6 : decide ((1024 : Int) < x6) = false := by simp; omega
  have h1f : decide (c.an.length ≤ 1024) = true := by have := e1.out; simp; omega
  rw [h1f] at hr
  simp only [Bool.and_self, Bool.true_and] at hr
  clear h1 h1d h1e h1f
  go_wp2
  go_loopw [3] (fun i wr => ∃ k : Nat, i = .int .i64 k ∧ k ≤ x6 ∧ Hid (∀ j (hj : j < c.an.length), j < k → ansOkL c.an[j] = true) ∧ Hid (∀ j (hj : j + 1 < c.an.length), j + 1 < k → qlt (c.an[j]'(by omega)).q c.an[j + 1].q) ∧ Hid (Keeps [] W wr)) (fun i _ => x6 - (intOf i).toNat)
  case atStart => exact ⟨0, rfl, by omega, Lib.hid (fun _ _ h => by omega), Lib.hid (fun _ _ h => by omega), Lib.hid (Keeps.refl _ _)⟩
  case round =>
    clear i0 i1 i2 i3 i4 i5 i6 if' il
    obtain ⟨k, rfl, hk, hno, hin, hkw⟩ := hrel
    have hAr := (hkw.out.block _ (lt_of_blk hA.out) (by simp)).trans hA.out
    obtain ⟨i0, i1, i2, i3, i4, i5, i6, if', il⟩ := cl7 hAr
    have hkF := Lib.hid (hkA.out.trans hkw.out)
    by_cases hlt : k < x6
    · have hlt2 : (k : Int) < x6 := by omega
      have hkl : k < c.an.length := by rw [← e1.out]; exact hlt
      obtain ⟨g, o, c', y, hv, hy, he⟩ := (han.out.keeps hkF.out).elem hkl
      rw [← e1.out] at hv
      cases hv
      have hans := fun (W : World) (hk : Keeps [] wr W) => answerX_c W y _ (InR.keep hy hk (by simp))
      obtain ⟨y0, y1, y2, y3, y4, y5, y6, y7, y8, y9⟩ := y
      have hyq : AnV.q ⟨y0, y1, y2, y3, y4, y5, y6, y7, y8, y9⟩ = c.an[k].q := by
        have hm := hy.m
        have hw := hy.ow
        have hn := hy.n
        unfold AnV.q Ans.q
        rw [hm, hw, hn]
      have g0 := he 0 _ rfl
      have g1 := he 1 _ rfl
      have g2 := he 2 _ rfl
      have g3 := he 3 _ rfl
      have g4 := he 4 _ rfl
      have g5 := he 5 _ rfl
      have g6 := he 6 _ rfl
      have g7 := he 7 _ rfl
      simp only [AnV.v, Nat.add_zero] at g0 g1 g2 g3 g4 g5 g6 g7
      simp only [aV, AnV.v] at hans
      obtain ⟨b, hb⟩ : ∃ b, ansOkL c.an[k] = b := ⟨_, rfl⟩
      rw [hb] at hans
      replace hans := Lib.hid hans
      replace hb := Lib.hid hb
      replace hyq := Lib.hid hyq
      clear he hy
      cases b with
      | false =>
        have hd : false = r := by rw [← hr.out, all_no hkl hb.out]; simp
        replace hd := Lib.hid hd
        go_wp2
        refine Free.wp_region_chain (fun i => i == 5 || i == 22) (fun i => true) (fun _ _ => False) (by kernel_rfl) (by kernel_rfl) (by kernel_rfl) ?_
        (repeat (first | (apply Free.cw_pureW rfl rfl; (intro w'; go_simp <;> exact rfl); go_frame) | (apply Free.cw_steadyW rfl rfl rfl; (intro w' hS; have q0 := Free.sx_cell hS i5 (fun _ _ hT => hT); have q1 := Free.sx_cell hS g0 (fun _ _ hT => hT); have q2 := Free.sx_cell hS g1 (fun _ _ hT => hT); have q3 := Free.sx_cell hS g2 (fun _ _ hT => hT); have q4 := Free.sx_cell hS g3 (fun _ _ hT => hT); have q5 := Free.sx_cell hS g4 (fun _ _ hT => hT); have q6 := Free.sx_cell hS g5 (fun _ _ hT => hT); have q7 := Free.sx_cell hS g6 (fun _ _ hT => hT); have q8 := Free.sx_cell hS g7 (fun _ _ hT => hT); go_simp <;> exact rfl); go_frame) | (refine Free.cw_skip rfl ?_; go_frame)))
        refine Free.cw_loudW rfl rfl (fun K hK => ?_)
        go_wp2_with fail
        refine (hans.out _ (Keeps.refl [] wr).drew).mono ?_
        rintro e w5 ⟨rfl, hk5⟩
        refine hK _ _ rfl (Free.KeepsP.of hk5 (by simp)) ?_
        clear hK K hans
        (repeat (first | (apply Free.cw_pureW rfl rfl; (intro w'; go_simp <;> exact rfl); go_frame) | (apply Free.cw_steadyW rfl rfl rfl; (intro w' hS; have q0 := Free.sx_cell hS i5 (fun _ _ hT => hT); have q1 := Free.sx_cell hS g0 (fun _ _ hT => hT); have q2 := Free.sx_cell hS g1 (fun _ _ hT => hT); have q3 := Free.sx_cell hS g2 (fun _ _ hT => hT); have q4 := Free.sx_cell hS g3 (fun _ _ hT => hT); have q5 := Free.sx_cell hS g4 (fun _ _ hT => hT); have q6 := Free.sx_cell hS g5 (fun _ _ hT => hT); have q7 := Free.sx_cell hS g6 (fun _ _ hT => hT); have q8 := Free.sx_cell hS g7 (fun _ _ hT => hT); go_simp <;> exact rfl); go_frame) | (refine Free.cw_skip rfl ?_; go_frame)))
        refine Free.cw_nil ?_
        have hkz := Lib.hid (hkF.out.trans (((Keeps.refl [] wr).drew).trans hk5))
        go_wp2
        go_ret
        exact ⟨by rw [← hd.out]; rfl, hkz.out⟩
      | true =>
      have hno2 : Hid (∀ j (hj : j < c.an.length), j < k + 1 → ansOkL c.an[j] = true) := Lib.hid (fun j hj hjk => by
        by_cases e : j = k
        · subst e; exact hb.out
        · exact hno.out j hj (by omega))
      by_cases hk0 : k = 0
      · have hkz0 : decide ((0 : Int) < (k : Int)) = false := by simp; omega
        have hkz1 : decide (0 < k) = false := by simp; omega
        have hin2 : Hid (∀ j (hj : j + 1 < c.an.length), j + 1 < k + 1 → qlt (c.an[j]'(by omega)).q c.an[j + 1].q) := Lib.hid (fun j hj hjk => by omega)
        replace hk0 := Lib.hid hk0
        go_wp2
        refine Free.wp_region_chain (fun i => i == 5 || i == 22) (fun i => true) (fun _ _ => False) (by kernel_rfl) (by kernel_rfl) (by kernel_rfl) ?_
        (repeat (first | (apply Free.cw_pureW rfl rfl; (intro w'; go_simp <;> exact rfl); go_frame) | (apply Free.cw_steadyW rfl rfl rfl; (intro w' hS; have q0 := Free.sx_cell hS i5 (fun _ _ hT => hT); have q1 := Free.sx_cell hS g0 (fun _ _ hT => hT); have q2 := Free.sx_cell hS g1 (fun _ _ hT => hT); have q3 := Free.sx_cell hS g2 (fun _ _ hT => hT); have q4 := Free.sx_cell hS g3 (fun _ _ hT => hT); have q5 := Free.sx_cell hS g4 (fun _ _ hT => hT); have q6 := Free.sx_cell hS g5 (fun _ _ hT => hT); have q7 := Free.sx_cell hS g6 (fun _ _ hT => hT); have q8 := Free.sx_cell hS g7 (fun _ _ hT => hT); go_simp <;> exact rfl); go_frame) | (refine Free.cw_skip rfl ?_; go_frame)))
        refine Free.cw_loudW rfl rfl (fun K hK => ?_)
        go_wp2_with fail
        refine (hans.out _ (Keeps.refl [] wr).drew).mono ?_
        rintro e w5 ⟨rfl, hk5⟩
        refine hK _ _ rfl (Free.KeepsP.of hk5 (by simp)) ?_
        clear hK K hans
        (repeat (first | (apply Free.cw_pureW rfl rfl; (intro w'; go_simp <;> exact rfl); go_frame) | (apply Free.cw_steadyW rfl rfl rfl; (intro w' hS; have q0 := Free.sx_cell hS i5 (fun _ _ hT => hT); have q1 := Free.sx_cell hS g0 (fun _ _ hT => hT); have q2 := Free.sx_cell hS g1 (fun _ _ hT => hT); have q3 := Free.sx_cell hS g2 (fun _ _ hT => hT); have q4 := Free.sx_cell hS g3 (fun _ _ hT => hT); have q5 := Free.sx_cell hS g4 (fun _ _ hT => hT); have q6 := Free.sx_cell hS g5 (fun _ _ hT => hT); have q7 := Free.sx_cell hS g6 (fun _ _ hT => hT); have q8 := Free.sx_cell hS g7 (fun _ _ hT => hT); go_simp <;> exact rfl); go_frame) | (refine Free.cw_skip rfl ?_; go_frame)))
        refine Free.cw_nil ?_
        have hkz := Lib.hid (hkw.out.trans (((Keeps.refl [] wr).drew).trans hk5))
        clear hk5
        go_wp2
        go_roundw
        case rel => exact ⟨k + 1, rfl, by omega, hno2, hin2, hkz⟩
        case measure => simp [intOf]; omega
      · have hkz0 : decide ((0 : Int) < (k : Int)) = true := by simp; omega
        have hkz1 : decide (0 < k) = true := by simp; omega
        obtain ⟨m, hm⟩ : ∃ m, k = m + 1 := ⟨k - 1, by omega⟩
        have hml : m < c.an.length := by omega
        have hmM : (m : Int) < x6 := by omega
        have hwm : IntKind.i64.wrap ((k : Int) - 1) = m := by rw [IntWalk.i64_in _ (by omega)]; omega
        obtain ⟨g2, o2, c2, z, hv2, hz, he2⟩ := (han.out.keeps hkF.out).elem hml
        rw [← e1.out] at hv2
        cases hv2
        obtain ⟨z0, z1, z2, z3, z4, z5, z6, z7, z8, z9⟩ := z
        have hzq : AnV.q ⟨z0, z1, z2, z3, z4, z5, z6, z7, z8, z9⟩ = c.an[m].q := by
          have hm := hz.m
          have hw := hz.ow
          have hn := hz.n
          unfold AnV.q Ans.q
          rw [hm, hw, hn]
        have f0 := he2 0 _ rfl
        have f1 := he2 1 _ rfl
        have f2 := he2 2 _ rfl
        have f3 := he2 3 _ rfl
        have f4 := he2 4 _ rfl
        have f5 := he2 5 _ rfl
        have f6 := he2 6 _ rfl
        have f7 := he2 7 _ rfl
        simp only [AnV.v, Nat.add_zero] at f0 f1 f2 f3 f4 f5 f6 f7
        have hbc := fun w => beforeR_c w ⟨z0, z1, z2, z3, z4, z5, z6, z7, z8, z9⟩ ⟨y0, y1, y2, y3, y4, y5, y6, y7, y8, y9⟩
        rw [hzq, hyq.out] at hbc
        simp only [aV, AnV.v] at hbc
        obtain ⟨d, hdd⟩ : ∃ d, decide (qlt c.an[m].q c.an[k].q) = d := ⟨_, rfl⟩
        rw [hdd] at hbc
        replace hbc := Lib.hid hbc
        replace hdd := Lib.hid hdd
        replace hm := Lib.hid hm
        replace hk0 := Lib.hid hk0
        replace hzq := Lib.hid hzq
        clear he2 hz
        go_wp2
        refine Free.wp_region_chain (fun i => i == 5 || i == 22) (fun i => true) (fun _ _ => False) (by kernel_rfl) (by kernel_rfl) (by kernel_rfl) ?_
        (repeat (first | (apply Free.cw_pureW rfl rfl; (intro w'; go_simp <;> exact rfl); go_frame) | (apply Free.cw_steadyW rfl rfl rfl; (intro w' hS; have q0 := Free.sx_cell hS i5 (fun _ _ hT => hT); have q1 := Free.sx_cell hS g0 (fun _ _ hT => hT); have q2 := Free.sx_cell hS g1 (fun _ _ hT => hT); have q3 := Free.sx_cell hS g2 (fun _ _ hT => hT); have q4 := Free.sx_cell hS g3 (fun _ _ hT => hT); have q5 := Free.sx_cell hS g4 (fun _ _ hT => hT); have q6 := Free.sx_cell hS g5 (fun _ _ hT => hT); have q7 := Free.sx_cell hS g6 (fun _ _ hT => hT); have q8 := Free.sx_cell hS g7 (fun _ _ hT => hT); have q9 := Free.sx_cell hS f0 (fun _ _ hT => hT); have q10 := Free.sx_cell hS f1 (fun _ _ hT => hT); have q11 := Free.sx_cell hS f2 (fun _ _ hT => hT); have q12 := Free.sx_cell hS f3 (fun _ _ hT => hT); have q13 := Free.sx_cell hS f4 (fun _ _ hT => hT); have q14 := Free.sx_cell hS f5 (fun _ _ hT => hT); have q15 := Free.sx_cell hS f6 (fun _ _ hT => hT); have q16 := Free.sx_cell hS f7 (fun _ _ hT => hT); go_simp <;> exact rfl); go_frame) | (refine Free.cw_skip rfl ?_; go_frame)))
        refine Free.cw_loudW rfl rfl (fun K hK => ?_)
        go_wp2_with fail
        refine (hans.out _ (Keeps.refl [] wr).drew).mono ?_
        rintro e w5 ⟨rfl, hk5⟩
        refine hK _ _ rfl (Free.KeepsP.of hk5 (by simp)) ?_
        clear hK K hans
        (repeat (first | (apply Free.cw_pureW rfl rfl; (intro w'; go_simp <;> exact rfl); go_frame) | (apply Free.cw_steadyW rfl rfl rfl; (intro w' hS; have q0 := Free.sx_cell hS i5 (fun _ _ hT => hT); have q1 := Free.sx_cell hS g0 (fun _ _ hT => hT); have q2 := Free.sx_cell hS g1 (fun _ _ hT => hT); have q3 := Free.sx_cell hS g2 (fun _ _ hT => hT); have q4 := Free.sx_cell hS g3 (fun _ _ hT => hT); have q5 := Free.sx_cell hS g4 (fun _ _ hT => hT); have q6 := Free.sx_cell hS g5 (fun _ _ hT => hT); have q7 := Free.sx_cell hS g6 (fun _ _ hT => hT); have q8 := Free.sx_cell hS g7 (fun _ _ hT => hT); have q9 := Free.sx_cell hS f0 (fun _ _ hT => hT); have q10 := Free.sx_cell hS f1 (fun _ _ hT => hT); have q11 := Free.sx_cell hS f2 (fun _ _ hT => hT); have q12 := Free.sx_cell hS f3 (fun _ _ hT => hT); have q13 := Free.sx_cell hS f4 (fun _ _ hT => hT); have q14 := Free.sx_cell hS f5 (fun _ _ hT => hT); have q15 := Free.sx_cell hS f6 (fun _ _ hT => hT); have q16 := Free.sx_cell hS f7 (fun _ _ hT => hT); go_simp <;> exact rfl); go_frame) | (refine Free.cw_skip rfl ?_; go_frame)))
        refine Free.cw_loudW rfl rfl (fun K hK => ?_)
        go_wp2_with fail
        refine (hbc.out _).mono ?_
        rintro e w6 ⟨rfl, hk6⟩
        refine hK _ _ rfl (Free.KeepsP.of hk6 (by simp)) ?_
        clear hK K hbc
        (repeat (apply Free.cw_pureW rfl rfl; (intro w'; go_simp <;> exact rfl); go_frame))
        refine Free.cw_nil ?_
        have hkz := Lib.hid (hkw.out.trans ((((Keeps.refl [] wr).drew).trans hk5).trans hk6))
        have hkz2 := Lib.hid (hkA.out.trans hkz.out)
        clear hk5 hk6
        cases d with
        | false =>
          have hd : false = r := by
            rw [← hr.out]
            have : incA c.an = false := Bool.eq_false_iff.2 (fun hi => of_decide_eq_false hdd.out (by
              have := incA_iff.1 hi m (by have := hm.out; omega)
              have e := hm.out
              subst e
              exact this))
            rw [this]; simp
          replace hd := Lib.hid hd
          go_wp2
          go_ret
          exact ⟨by rw [← hd.out]; rfl, hkz2.out⟩
        | true =>
          have hin2 : Hid (∀ j (hj : j + 1 < c.an.length), j + 1 < k + 1 → qlt (c.an[j]'(by omega)).q c.an[j + 1].q) := Lib.hid (fun j hj hjk => by
            by_cases e : j + 1 = k
            · have hjm : j = m := by have := hm.out; omega
              subst hjm
              have := of_decide_eq_true hdd.out
              simp only [e]
              exact this
            · exact hin.out j hj (by omega))
          go_wp2
          go_roundw
          case rel => exact ⟨k + 1, rfl, by omega, hno2, hin2, hkz⟩
          case measure => simp [intOf]; omega
    · have hlt2 : ¬ ((k : Int) < x6) := by omega
      have h1 : incA c.an = true := incA_iff.2 (fun j hj => hin.out j hj (by have := e1.out; omega))
      have h2 : c.an.all ansOkL = true := all_take (fun j hj => hno.out j hj (by have := e1.out; omega))
      rw [h1, h2, Bool.true_and, Bool.and_true] at hr
      clear hno hin h1 h2
      go_wp2
      generalize wr = W2 at *
      go_loopw [4] (fun i wr => ∃ k : Nat, i = .int .i64 k ∧ k ≤ x9 ∧ Hid (∀ j (hj : j + 1 < c.cl.length), j + 1 < k → (c.cl[j]'(by omega)).m < c.cl[j + 1].m) ∧ Hid (∀ j (hj : j < c.cl.length), j < k → clShort c.cl[j] = true) ∧ Hid (Keeps [] W2 wr)) (fun i _ => x9 - (intOf i).toNat)
      case atStart => exact ⟨0, rfl, by omega, Lib.hid (fun _ _ h => by omega), Lib.hid (fun _ _ h => by omega), Lib.hid (Keeps.refl _ _)⟩
      case round =>
        clear i0 i1 i2 i3 i4 i5 i6 if' il
        obtain ⟨k, rfl, hk, hin, hsh, hkq⟩ := hrel
        have hAq := (hkq.out.block _ (lt_of_blk hAr) (by simp)).trans hAr
        obtain ⟨i0, i1, i2, i3, i4, i5, i6, if', il⟩ := cl7 hAq
        have hkG := Lib.hid (hkF.out.trans hkq.out)
        by_cases hlt : k < x9
        · have hlt2 : (k : Int) < x9 := by omega
          have hkl : k < c.cl.length := by rw [← e2.out]; exact hlt
          obtain ⟨g, o, c', x, hv, hx, g0, g1, g2, g3, g4⟩ := (hcl.out.keeps hkG.out).elem hkl
          rw [← e2.out] at hv
          cases hv
          obtain ⟨_, _, ev1, _⟩ := hx.st.form
          obtain ⟨_, _, ev2, _⟩ := hx.sc.form
          obtain ⟨_, _, ev3, _⟩ := hx.ch.form
          have hm0 := hx.m
          obtain ⟨y0, y1, ⟨y2, y3, y4⟩, ⟨y5, y6, y7⟩, ⟨y8, y9, y10⟩⟩ := x
          simp only [slv, Value.slice.injEq] at ev1 ev2 ev3
          simp only [slv] at g0 g1 g2 g3 g4
          simp only at hm0
          obtain ⟨-, ev1, -⟩ := ev1
          obtain ⟨-, ev2, -⟩ := ev2
          obtain ⟨-, ev3, -⟩ := ev3
          have hbC := heap_alloc_new wr (.cells #[.int .i64 y0, .int .i64 y1, .slice y2 y3 y4, .slice y5 y6 y7, .slice y8 y9 y10] tC)
          have hkn := (Keeps.refl [] wr).alloc (.cells #[.int .i64 y0, .int .i64 y1, .slice y2 y3 y4, .slice y5 y6 y7, .slice y8 y9 y10] tC)
          have hA9 := (hkn.block _ (lt_of_blk hAq) (by simp)).trans hAq
          have hkq9 := Lib.hid (hkq.out.trans hkn)
          have hkF9 := Lib.hid (hkG.out.trans hkn)
          replace hm0 := Lib.hid hm0
          replace hbC := Lib.hid hbC
          replace ev1 := Lib.hid ev1
          replace ev2 := Lib.hid ev2
          replace ev3 := Lib.hid ev3
          clear hx hkn
          go_upto_region 12 with fail
          generalize (wr.alloc (.cells #[.int .i64 y0, .int .i64 y1, .slice y2 y3 y4, .slice y5 y6 y7, .slice y8 y9 y10] tC)) = WC at *
          obtain ⟨XC, hXC⟩ : ∃ X, wr.heap.size = X := ⟨_, rfl⟩
          rw [hXC] at hbC ⊢
          replace hXC := Lib.hid hXC
          clear g0 g1 g2 g3 g4 i0 i1 i2 i3 i4 i5 i6 if' il
          obtain ⟨i0, i1, i2, i3, i4, i5, i6, if', il⟩ := cl7 hA9
          obtain ⟨g0, g1, g2, g3, g4, gf, gl⟩ := cl5 hbC.out
          by_cases hk0 : k = 0
          · have hkz0 : decide ((0 : Int) < (k : Int)) = false := by simp; omega
            have hkz1 : decide (0 < k) = false := by simp; omega
            have hin2 : Hid (∀ j (hj : j + 1 < c.cl.length), j + 1 < k + 1 → (c.cl[j]'(by omega)).m < c.cl[j + 1].m) := Lib.hid (fun j hj hjk => by omega)
            replace hk0 := Lib.hid hk0
            by_cases hqst : 1024 < y3
            · have hdst : decide ((1024 : Int) < y3) = true := by simp; omega
              have hd : false = r := by rw [← hr.out, all_no (p := clShort) hkl (by unfold clShort; have := ev1.out; have := ev2.out; have := ev3.out; simp only [Bool.and_eq_false_iff, decide_eq_false_iff_not]; omega)]; simp
              have hke := Lib.hid hkF9.out
              replace hd := Lib.hid hd
              (refine wp_region_quiet_lit (by kernel_rfl) (by kernel_rfl) ?_; (repeat (first | go_big_quiet_step (fail) | quiet_step (fail))); with_reducible refine wpQuiet_nil ?_; intro _ hw'; obtain ⟨nq, hw''⟩ := hw'; subst hw'')
              go_wp2
              go_ret
              exact ⟨by rw [← hd.out]; rfl, hke.out.drewN _⟩
            have hdst : decide ((1024 : Int) < y3) = false := by simp; omega
            by_cases hqsc : 1024 < y6
            · have hdsc : decide ((1024 : Int) < y6) = true := by simp; omega
              have hd : false = r := by rw [← hr.out, all_no (p := clShort) hkl (by unfold clShort; have := ev1.out; have := ev2.out; have := ev3.out; simp only [Bool.and_eq_false_iff, decide_eq_false_iff_not]; omega)]; simp
              have hke := Lib.hid hkF9.out
              replace hd := Lib.hid hd
              (refine wp_region_quiet_lit (by kernel_rfl) (by kernel_rfl) ?_; (repeat (first | go_big_quiet_step (fail) | quiet_step (fail))); with_reducible refine wpQuiet_nil ?_; intro _ hw'; obtain ⟨nq, hw''⟩ := hw'; subst hw'')
              go_wp2
              go_ret
              exact ⟨by rw [← hd.out]; rfl, hke.out.drewN _⟩
            have hdsc : decide ((1024 : Int) < y6) = false := by simp; omega
            by_cases hqch : 1024 < y9
            · have hdch : decide ((1024 : Int) < y9) = true := by simp; omega
              have hd : false = r := by rw [← hr.out, all_no (p := clShort) hkl (by unfold clShort; have := ev1.out; have := ev2.out; have := ev3.out; simp only [Bool.and_eq_false_iff, decide_eq_false_iff_not]; omega)]; simp
              have hke := Lib.hid hkF9.out
              replace hd := Lib.hid hd
              (refine wp_region_quiet_lit (by kernel_rfl) (by kernel_rfl) ?_; (repeat (first | go_big_quiet_step (fail) | quiet_step (fail))); with_reducible refine wpQuiet_nil ?_; intro _ hw'; obtain ⟨nq, hw''⟩ := hw'; subst hw'')
              go_wp2
              go_ret
              exact ⟨by rw [← hd.out]; rfl, hke.out.drewN _⟩
            have hdch : decide ((1024 : Int) < y9) = false := by simp; omega
            have hsh2 : Hid (∀ j (hj : j < c.cl.length), j < k + 1 → clShort c.cl[j] = true) := Lib.hid (fun j hj hjk => by
              by_cases e : j = k
              · subst e; unfold clShort; have := ev1.out; have := ev2.out; have := ev3.out; simp only [Bool.and_eq_true, decide_eq_true_eq]; omega
              · exact hsh.out j hj (by omega))
            (refine wp_region_quiet_lit (by kernel_rfl) (by kernel_rfl) ?_; (repeat (first | go_big_quiet_step (fail) | quiet_step (fail))); with_reducible refine wpQuiet_nil ?_; intro _ hw'; obtain ⟨nq, hw''⟩ := hw'; subst hw'')
            go_wp2
            go_roundw
            case rel => exact ⟨k + 1, rfl, by omega, hin2, hsh2, Lib.hid (hkq9.out.drewN _)⟩
            case measure => simp [intOf]; omega
          · have hkz0 : decide ((0 : Int) < (k : Int)) = true := by simp; omega
            have hkz1 : decide (0 < k) = true := by simp; omega
            obtain ⟨m, hm⟩ : ∃ m, k = m + 1 := ⟨k - 1, by omega⟩
            have hml : m < c.cl.length := by omega
            have hmM : (m : Int) < x9 := by omega
            have hwm : IntKind.i64.wrap ((k : Int) - 1) = m := by rw [IntWalk.i64_in _ (by omega)]; omega
            obtain ⟨g', o', c'', z, hv2, hz, f0, _, _, _, _⟩ := (hcl.out.keeps hkF9.out).elem hml
            rw [← e2.out] at hv2
            cases hv2
            have hz0 := hz.m
            replace hz0 := Lib.hid hz0
            replace hm := Lib.hid hm
            replace hk0 := Lib.hid hk0
            by_cases hq : y0 ≤ z.m
            · have hqd : decide (y0 ≤ z.m) = true := by simpa using hq
              have hd : false = r := by
                rw [← hr.out]
                refine (Bool.eq_false_iff.2 (fun hi => ?_)).symm
                rw [Bool.and_eq_true] at hi
                have := incC_iff.1 hi.1 m (by have := hm.out; omega)
                have e := hm.out
                subst e
                have h1 := hm0.out
                have h2 := hz0.out
                omega
              replace hd := Lib.hid hd
              have hke := Lib.hid hkF9.out
              (refine wp_region_quiet_lit (by kernel_rfl) (by kernel_rfl) ?_; (repeat (first | go_big_quiet_step (fail) | quiet_step (fail))); with_reducible refine wpQuiet_nil ?_; intro _ hw'; obtain ⟨nq, hw''⟩ := hw'; subst hw'')
              go_wp2
              go_ret
              exact ⟨by rw [← hd.out]; rfl, hke.out.drewN _⟩
            · have hqd : decide (y0 ≤ z.m) = false := by simpa using hq
              have hin2 : Hid (∀ j (hj : j + 1 < c.cl.length), j + 1 < k + 1 → (c.cl[j]'(by omega)).m < c.cl[j + 1].m) := Lib.hid (fun j hj hjk => by
                by_cases e : j + 1 = k
                · have hjm : j = m := by have := hm.out; omega
                  subst hjm
                  have h1 := hm0.out
                  have h2 := hz0.out
                  simp only [e]
                  omega
                · exact hin.out j hj (by omega))
              by_cases hqst : 1024 < y3
              · have hdst : decide ((1024 : Int) < y3) = true := by simp; omega
                have hd : false = r := by rw [← hr.out, all_no (p := clShort) hkl (by unfold clShort; have := ev1.out; have := ev2.out; have := ev3.out; simp only [Bool.and_eq_false_iff, decide_eq_false_iff_not]; omega)]; simp
                have hke := Lib.hid hkF9.out
                replace hd := Lib.hid hd
                (refine wp_region_quiet_lit (by kernel_rfl) (by kernel_rfl) ?_; (repeat (first | go_big_quiet_step (fail) | quiet_step (fail))); with_reducible refine wpQuiet_nil ?_; intro _ hw'; obtain ⟨nq, hw''⟩ := hw'; subst hw'')
                go_wp2
                go_ret
                exact ⟨by rw [← hd.out]; rfl, hke.out.drewN _⟩
              have hdst : decide ((1024 : Int) < y3) = false := by simp; omega
              by_cases hqsc : 1024 < y6
              · have hdsc : decide ((1024 : Int) < y6) = true := by simp; omega
                have hd : false = r := by rw [← hr.out, all_no (p := clShort) hkl (by unfold clShort; have := ev1.out; have := ev2.out; have := ev3.out; simp only [Bool.and_eq_false_iff, decide_eq_false_iff_not]; omega)]; simp
                have hke := Lib.hid hkF9.out
                replace hd := Lib.hid hd
                (refine wp_region_quiet_lit (by kernel_rfl) (by kernel_rfl) ?_; (repeat (first | go_big_quiet_step (fail) | quiet_step (fail))); with_reducible refine wpQuiet_nil ?_; intro _ hw'; obtain ⟨nq, hw''⟩ := hw'; subst hw'')
                go_wp2
                go_ret
                exact ⟨by rw [← hd.out]; rfl, hke.out.drewN _⟩
              have hdsc : decide ((1024 : Int) < y6) = false := by simp; omega
              by_cases hqch : 1024 < y9
              · have hdch : decide ((1024 : Int) < y9) = true := by simp; omega
                have hd : false = r := by rw [← hr.out, all_no (p := clShort) hkl (by unfold clShort; have := ev1.out; have := ev2.out; have := ev3.out; simp only [Bool.and_eq_false_iff, decide_eq_false_iff_not]; omega)]; simp
                have hke := Lib.hid hkF9.out
                replace hd := Lib.hid hd
                (refine wp_region_quiet_lit (by kernel_rfl) (by kernel_rfl) ?_; (repeat (first | go_big_quiet_step (fail) | quiet_step (fail))); with_reducible refine wpQuiet_nil ?_; intro _ hw'; obtain ⟨nq, hw''⟩ := hw'; subst hw'')
                go_wp2
                go_ret
                exact ⟨by rw [← hd.out]; rfl, hke.out.drewN _⟩
              have hdch : decide ((1024 : Int) < y9) = false := by simp; omega
              have hsh2 : Hid (∀ j (hj : j < c.cl.length), j < k + 1 → clShort c.cl[j] = true) := Lib.hid (fun j hj hjk => by
                by_cases e : j = k
                · subst e; unfold clShort; have := ev1.out; have := ev2.out; have := ev3.out; simp only [Bool.and_eq_true, decide_eq_true_eq]; omega
                · exact hsh.out j hj (by omega))
              (refine wp_region_quiet_lit (by kernel_rfl) (by kernel_rfl) ?_; (repeat (first | go_big_quiet_step (fail) | quiet_step (fail))); with_reducible refine wpQuiet_nil ?_; intro _ hw'; obtain ⟨nq, hw''⟩ := hw'; subst hw'')
              go_wp2
              go_roundw
              case rel => exact ⟨k + 1, rfl, by omega, hin2, hsh2, Lib.hid (hkq9.out.drewN _)⟩
              case measure => simp [intOf]; omega
        · have hlt2 : ¬ ((k : Int) < x9) := by omega
          have hd : true = r := by rw [← hr.out, incC_iff.2 (fun j hj => hin.out j hj (by have := e2.out; omega)), all_take (p := clShort) (fun j hj => hsh.out j hj (by have := e2.out; omega))]; rfl
          replace hd := Lib.hid hd
          go_wp2
          go_ret
          exact ⟨by rw [← hd.out]; rfl, hkG.out⟩
end Go.Proofs.Ytiplgpefapeapaa

namespace Go.Proofs.Ytiplgpefapeapaa
open Go.RowKit

theorem wfS_few {c : Ct} (h : c.Few) : wfS c = wf c := by
  unfold wfS wf
  have h1 : decide (c.an.length ≤ 1024) = true := by have := h.an; simp; omega
  have h2 : c.cl.all clShort = true := by
    rw [List.all_eq_true]
    intro p hp
    obtain ⟨a1, a2, a3⟩ := h.ns p hp
    unfold clShort
    simp only [Bool.and_eq_true, decide_eq_true_eq]
    omega
  have h3 : c.an.all ansOkL = c.an.all ansOk := by
    have : ∀ Y : List Ans, (∀ a ∈ Y, a.ins.length ≤ 1000) → Y.all ansOkL = Y.all ansOk := by
      intro Y
      induction Y with
      | nil => intro _; rfl
      | cons a Y ih =>
        intro hy
        rw [List.all_cons, List.all_cons, ih (fun b hb => hy b (by simp [hb]))]
        have h4 : decide (a.ins.length ≤ 1024) = true := by have := hy a (by simp); simp; omega
        unfold ansOkL
        rw [h4, Bool.and_true]
    exact this c.an h.ins
  rw [h1, h2, h3]
  simp
/-- Known, not rooted, every client has answered. -/
def accA (Y : List Ans) (a : Ans) : Bool := a.kn && !a.rt && a.ins.all (fun x => hasA Y (x.1, a.m, x.2.1))
theorem accB_def (Y : List Ans) : accB Y = Y.all (accA Y) := rfl
theorem chkR_1 {c : Ct} (h : wf c = false) : chkR c = 1 := by unfold chkR; rw [if_neg (by rw [h]; simp)]
theorem chkR_15 {c : Ct} (h0 : wf c = true) (h : hasA c.an (kq c) = false ∨ consB c.an = false ∨ accB c.an = false ∨ (mR c.an).map (clmR c.an) ≠ c.cl) : chkR c = 15 := by
  unfold chkR
  rw [if_pos h0, if_neg (fun ⟨h1, h2, h3, h4⟩ => by rcases h with h | h | h | h <;> simp_all)]
theorem chkR_0 {c : Ct} (h0 : wf c = true) (h1 : hasA c.an (kq c) = true) (h2 : consB c.an = true) (h3 : accB c.an = true) (h4 : (mR c.an).map (clmR c.an) = c.cl) : chkR c = 0 := by
  unfold chkR
  rw [if_pos h0, if_pos ⟨h1, h2, h3, h4⟩]
set_option maxRecDepth 100000 in
set_option maxHeartbeats 4000000 in
theorem checkSNo_c (w : World) (x : CtV) (c : Ct) (h : CtW w x c) (hf : wfS c = false) :
    Calls Try.prog 9 #[ctV x] w fun e w' => e = .returned (.int .i64 1) ∧ Keeps [] w w' := by
  have hwf := fun (W : World) (hk : Keeps [] w W) => wfX_c W x c (h.keeps hk)
  rw [hf] at hwf
  obtain ⟨x0, x1, x2, x3, x4, ⟨x5, x6, x7⟩, ⟨x8, x9, x10⟩⟩ := x
  simp only [ctV, slv] at hwf
  have hkA := (Keeps.refl [] w).alloc (.cells #[.int .i64 x0, .int .i64 x1, .int .i64 x2, .int .u64 x3, .int .i64 x4, .slice x5 x6 x7, .slice x8 x9 x10] tCt)
  have hA := heap_alloc_new w (.cells #[.int .i64 x0, .int .i64 x1, .int .i64 x2, .int .u64 x3, .int .i64 x4, .slice x5 x6 x7, .slice x8 x9 x10] tCt)
  replace hwf := Lib.hid hwf
  replace hkA := Lib.hid hkA
  replace hA := Lib.hid hA
  clear h
  simp only [ctV, slv]
  go_enter Try.func9, Try.ntmps9
  go_upto_region 1 with fail
  generalize (w.alloc (.cells #[.int .i64 x0, .int .i64 x1, .int .i64 x2, .int .u64 x3, .int .i64 x4, .slice x5 x6 x7, .slice x8 x9 x10] tCt)) = W at *
  obtain ⟨B, hB⟩ : ∃ B, w.heap.size = B := ⟨_, rfl⟩
  rw [hB] at hA ⊢
  obtain ⟨i0, i1, i2, i3, i4, i5, i6, if', il⟩ := cl7 hA.out
  go_wp2_with fail
  refine (hwf.out _ hkA.out).mono ?_
  rintro e w1 ⟨rfl, hk1⟩
  have hkz := Lib.hid (hkA.out.trans hk1)
  go_wp2
  go_ret
  exact ⟨rfl, hkz.out⟩
set_option maxRecDepth 100000 in
set_option maxHeartbeats 16000000 in
theorem checkS_c (w : World) (x : CtV) (c : Ct) (h : CtW w x c) (hf : c.Few) :
    Calls Try.prog 9 #[ctV x] w fun e w' => e = .returned (.int .i64 (chkR c)) ∧ Keeps [] w w' := by
  have hwf := fun (W : World) (hk : Keeps [] w W) => wfX_c W x c (h.keeps hk)
  have hfi := fun (W : World) (hk : Keeps [] w W) => findR_c W x c.an (h.an.keeps hk)
  have hco := fun (W : World) (hk : Keeps [] w W) => consR_c W x c.an (h.an.keeps hk) hf.an hf.ins
  have hma := fun (W : World) (hk : Keeps [] w W) => machinesR_c W x c.an (h.an.keeps hk) hf.an
  have hcm := fun (W : World) (hk : Keeps [] w W) => claimS_c W x c.an (h.an.keeps hk) hf.an hf.ins
  have him := h.im
  have hs0 := h.s0
  have hs1 := h.s1
  have han := h.an
  have hcl := h.cl
  obtain ⟨x0, x1, x2, x3, x4, ⟨x5, x6, x7⟩, ⟨x8, x9, x10⟩⟩ := x
  simp only [ctV, slv] at hwf hfi hco hma hcm han hcl
  simp only at him hs0 hs1
  obtain ⟨_, _, e1, hla, hca⟩ := han.form
  obtain ⟨_, _, e2, hlc, hcc⟩ := hcl.form
  simp only [Value.slice.injEq] at e1 e2
  obtain ⟨-, e1, -⟩ := e1
  obtain ⟨-, e2, -⟩ := e2
  have hx6 : x6 ≤ 1000 := by have := hf.an; omega
  have hx9 : x9 ≤ 1000 := by have := hf.cl; omega
  have hkA := (Keeps.refl [] w).alloc (.cells #[.int .i64 x0, .int .i64 x1, .int .i64 x2, .int .u64 x3, .int .i64 x4, .slice x5 x6 x7, .slice x8 x9 x10] tCt)
  have hA := heap_alloc_new w (.cells #[.int .i64 x0, .int .i64 x1, .int .i64 x2, .int .u64 x3, .int .i64 x4, .slice x5 x6 x7, .slice x8 x9 x10] tCt)
  have hkq : kq c = (x0, x2, x3) := by unfold kq; rw [him, hs0, hs1]
  obtain ⟨r, hr⟩ : ∃ r, chkR c = r := ⟨_, rfl⟩
  have h1 := chkR_1 (c := c)
  have h15 := chkR_15 (c := c)
  have h0 := chkR_0 (c := c)
  rw [hkq] at h15 h0
  rw [hr] at h1 h15 h0 ⊢
  rw [wfS_few hf] at hwf
  obtain ⟨b0, hb0⟩ : ∃ b, wf c = b := ⟨_, rfl⟩
  obtain ⟨b1, hb1⟩ : ∃ b, hasA c.an (x0, x2, x3) = b := ⟨_, rfl⟩
  obtain ⟨b2, hb2⟩ : ∃ b, consB c.an = b := ⟨_, rfl⟩
  have hfi0 := fun (W : World) (hk : Keeps [] w W) => hfi W hk x0 x2 x3
  unfold FindAP at hfi0
  rw [hb1] at hfi0 h15 h0
  rw [hb0] at hwf h1 h15 h0
  rw [hb2] at hco h15 h0
  replace hwf := Lib.hid hwf
  replace hfi := Lib.hid hfi
  replace hfi0 := Lib.hid hfi0
  replace hco := Lib.hid hco
  replace hma := Lib.hid hma
  replace hcm := Lib.hid hcm
  replace han := Lib.hid han
  replace hcl := Lib.hid hcl
  replace e1 := Lib.hid e1
  replace e2 := Lib.hid e2
  replace hkA := Lib.hid hkA
  replace hA := Lib.hid hA
  replace h1 := Lib.hid h1
  replace h15 := Lib.hid h15
  replace h0 := Lib.hid h0
  clear h hf him hs0 hs1 hkq hr hb0 hb1 hb2 hla hlc hca hcc
  simp only [ctV, slv]
  go_enter Try.func9, Try.ntmps9
  go_upto_region 1 with fail
  generalize (w.alloc (.cells #[.int .i64 x0, .int .i64 x1, .int .i64 x2, .int .u64 x3, .int .i64 x4, .slice x5 x6 x7, .slice x8 x9 x10] tCt)) = W at *
  obtain ⟨B, hB⟩ : ∃ B, w.heap.size = B := ⟨_, rfl⟩
  rw [hB] at hA ⊢
  replace hB := Lib.hid hB
  obtain ⟨i0, i1, i2, i3, i4, i5, i6, if', il⟩ := cl7 hA.out
  go_wp2_with fail
  refine (hwf.out _ hkA.out).mono ?_
  rintro e w1 ⟨rfl, hk1⟩
  replace hkA := Lib.hid (hkA.out.trans hk1)
  replace hA := Lib.hid ((hk1.block _ (lt_of_blk hA.out) (by simp)).trans hA.out)
  clear i0 i1 i2 i3 i4 i5 i6 if' il hk1 hwf
  cases b0 with
  | false =>
    have hd := Lib.hid (h1.out rfl)
    go_wp2
    go_ret
    exact ⟨by rw [hd.out]; rfl, hkA.out⟩
  | true =>
  replace h15 := Lib.hid (h15.out rfl)
  replace h0 := Lib.hid (h0.out rfl)
  obtain ⟨i0, i1, i2, i3, i4, i5, i6, if', il⟩ := cl7 hA.out
  go_wp2_with fail
  refine (hfi0.out _ hkA.out).mono ?_
  rintro e w2 ⟨⟨z0, z1, z2, z3, z4, z5, z6, z7, z8, z9⟩, rfl, -, hk1⟩
  simp only [aV, AnV.v]
  have hkN := (Keeps.refl [] w2).alloc (.cells #[.int .i64 z0, .int .i64 z1, .int .u64 z2, .int .i64 z3, .bool z4, .bool z5, .int .i64 z6, .slice z7 z8 z9] tA)
  replace hkA := Lib.hid ((hkA.out.trans hk1).trans hkN)
  replace hA := Lib.hid (((hk1.trans hkN).block _ (lt_of_blk hA.out) (by simp)).trans hA.out)
  clear i0 i1 i2 i3 i4 i5 i6 if' il hk1 hkN hfi0
  go_upto_region 4 with fail
  generalize (w2.alloc (.cells #[.int .i64 z0, .int .i64 z1, .int .u64 z2, .int .i64 z3, .bool z4, .bool z5, .int .i64 z6, .slice z7 z8 z9] tA)) = W2 at *
  obtain ⟨i0, i1, i2, i3, i4, i5, i6, if', il⟩ := cl7 hA.out
  cases b1 with
  | false =>
    have hd := Lib.hid (h15.out (.inl rfl))
    go_wp2
    go_ret
    exact ⟨by rw [hd.out]; rfl, hkA.out⟩
  | true =>
  replace h0 := Lib.hid (h0.out rfl)
  go_wp2_with fail
  refine (hco.out _ hkA.out).mono ?_
  rintro e w3 ⟨rfl, hk1⟩
  replace hkA := Lib.hid (hkA.out.trans hk1)
  replace hA := Lib.hid ((hk1.block _ (lt_of_blk hA.out) (by simp)).trans hA.out)
  clear i0 i1 i2 i3 i4 i5 i6 if' il hk1 hco
  cases b2 with
  | false =>
    have hd := Lib.hid (h15.out (.inr (.inl rfl)))
    go_wp2
    go_ret
    exact ⟨by rw [hd.out]; rfl, hkA.out⟩
  | true =>
  replace h0 := Lib.hid (h0.out rfl)
  go_wp2
  go_loopw [5] (fun i wr => ∃ k : Nat, i = .int .i64 k ∧ k ≤ x6 ∧ Hid (∀ j (hj : j < c.an.length), j < k → accA c.an c.an[j] = true) ∧ Hid (Keeps [] w3 wr)) (fun i _ => x6 - (intOf i).toNat)
  case atStart => exact ⟨0, rfl, by omega, Lib.hid (fun _ _ h => by omega), Lib.hid (Keeps.refl _ _)⟩
  case round =>
    obtain ⟨k, rfl, hk, hno, hkw⟩ := hrel
    have hAr := (hkw.out.block _ (lt_of_blk hA.out) (by simp)).trans hA.out
    obtain ⟨i0, i1, i2, i3, i4, i5, i6, if', il⟩ := cl7 hAr
    have hkF := Lib.hid (hkA.out.trans hkw.out)
    by_cases hlt : k < x6
    · have hlt2 : (k : Int) < x6 := by omega
      have hkl : k < c.an.length := by rw [← e1.out]; exact hlt
      obtain ⟨g, o, c', y, hv, hy, he⟩ := han.out.elem hkl
      rw [← e1.out] at hv
      cases hv
      have hbad : accA c.an c.an[k] = false → r = 15 := fun h => h15.out (.inr (.inr (.inl (by rw [accB_def]; exact all_no hkl h))))
      have hstep : accA c.an c.an[k] = true → ∀ j (hj : j < c.an.length), j < k + 1 → accA c.an c.an[j] = true := fun hn j hj hjk => by
        by_cases e : j = k
        · subst e; exact hn
        · exact hno.out j hj (by omega)
      obtain ⟨a, ha⟩ : ∃ a, c.an[k] = a := ⟨_, rfl⟩
      rw [ha] at hy hbad hstep
      obtain ⟨_, _, ev, hl1, hl2, _⟩ := hy.ins.form
      have hins := hy.ins
      have m0 := hy.m
      have m4 := hy.kn
      have m5 := hy.rt
      obtain ⟨y0, y1, y2, y3, y4, y5, y6, y7, y8, y9⟩ := y
      simp only [AnV.v] at ev hins
      simp only at m0 m4 m5
      simp only [Value.slice.injEq] at ev
      obtain ⟨-, ev, -⟩ := ev
      have hy8 : y8 ≤ 9223372036854775807 := by unfold maxLen at hl2; omega
      have e0 := hkF.out.val (he 0 _ rfl)
      have e1' := hkF.out.val (he 1 _ rfl)
      have e2' := hkF.out.val (he 2 _ rfl)
      have e3 := hkF.out.val (he 3 _ rfl)
      have e4 := hkF.out.val (he 4 _ rfl)
      have e5 := hkF.out.val (he 5 _ rfl)
      have e6 := hkF.out.val (he 6 _ rfl)
      have e7 := hkF.out.val (he 7 _ rfl)
      simp only [AnV.v, Nat.add_zero] at e0 e1' e2' e3 e4 e5 e6 e7
      have hbN := heap_alloc_new wr (.cells #[.int .i64 y0, .int .i64 y1, .int .u64 y2, .int .i64 y3, .bool y4, .bool y5, .int .i64 y6, .slice y7 y8 y9] tA)
      have hka := (Keeps.refl [] wr).alloc (.cells #[.int .i64 y0, .int .i64 y1, .int .u64 y2, .int .i64 y3, .bool y4, .bool y5, .int .i64 y6, .slice y7 y8 y9] tA)
      have hAn := (hka.block _ (lt_of_blk hAr) (by simp)).trans hAr
      have hkn := Lib.hid (hkw.out.trans hka)
      have hkG := Lib.hid (hkF.out.trans hka)
      replace ha := Lib.hid ha
      replace ev := Lib.hid ev
      replace m0 := Lib.hid m0
      replace m4 := Lib.hid m4
      replace m5 := Lib.hid m5
      replace hins := Lib.hid hins
      replace hbad := Lib.hid hbad
      replace hstep := Lib.hid hstep
      replace hbN := Lib.hid hbN
      replace hAn := Lib.hid hAn
      clear he hy hka hl1 hl2
      go_upto_region 10 with fail
      generalize (wr.alloc (.cells #[.int .i64 y0, .int .i64 y1, .int .u64 y2, .int .i64 y3, .bool y4, .bool y5, .int .i64 y6, .slice y7 y8 y9] tA)) = WN at *
      obtain ⟨XN, hXN⟩ : ∃ X, wr.heap.size = X := ⟨_, rfl⟩
      rw [hXN] at hbN ⊢
      replace hXN := Lib.hid hXN
      clear i0 i1 i2 i3 i4 i5 i6 if' il e0 e1' e2' e3 e4 e5 e6 e7
      obtain ⟨i0, i1, i2, i3, i4, i5, i6, if', il⟩ := cl7 hAn.out
      obtain ⟨e0, e1', e2', e3, e4, e5, e6, e7, ef, el⟩ := cl8 hbN.out
      cases y4 with
      | false =>
        have hd := Lib.hid (hbad.out (by unfold accA; rw [← m4.out]; rfl))
        go_wp2
        go_ret
        exact ⟨by rw [hd.out]; rfl, hkG.out⟩
      | true =>
      cases y5 with
      | true =>
        have hd := Lib.hid (hbad.out (by unfold accA; rw [← m4.out, ← m5.out]; rfl))
        go_wp2
        go_ret
        exact ⟨by rw [hd.out]; rfl, hkG.out⟩
      | false =>
      have hacc : accA c.an a = a.ins.all (fun x => hasA c.an (x.1, y0, x.2.1)) := by unfold accA; rw [← m4.out, ← m5.out, m0.out]; rfl
      rw [hacc] at hbad hstep
      clear hacc i0 i1 i2 i3 i4 i5 i6 if' il e0 e1' e2' e3 e4 e5 e6 e7 ef el
      obtain ⟨i0, i1, i2, i3, i4, i5, i6, if', il⟩ := cl7 hAn.out
      obtain ⟨e0, e1', e2', e3, e4, e5, e6, e7, ef, el⟩ := cl8 hbN.out
      go_wp2
      go_loopw [7] (fun i wz => ∃ q : Nat, i = .int .i64 q ∧ q ≤ y8 ∧ Hid (∀ l (hl : l < a.ins.length), l < q → hasA c.an (a.ins[l].1, y0, a.ins[l].2.1) = true) ∧ Hid (Keeps [] WN wz)) (fun i _ => y8 - (intOf i).toNat)
      case atStart => exact ⟨0, rfl, by omega, Lib.hid (fun _ _ h => by omega), Lib.hid (Keeps.refl _ _)⟩
      case round =>
        clear i0 i1 i2 i3 i4 i5 i6 if' il e0 e1' e2' e3 e4 e5 e6 e7 ef el
        obtain ⟨q, rfl, hq, hst, hkz⟩ := hrel
        have hAz := (hkz.out.block _ (lt_of_blk hAn.out) (by simp)).trans hAn.out
        have hNz := (hkz.out.block _ (lt_of_blk hbN.out) (by simp)).trans hbN.out
        obtain ⟨i0, i1, i2, i3, i4, i5, i6, if', il⟩ := cl7 hAz
        obtain ⟨e0, e1', e2', e3, e4, e5, e6, e7, ef, el⟩ := cl8 hNz
        have hkK := Lib.hid (hkG.out.trans hkz.out)
        by_cases hltq : q < y8
        · have hltq2 : (q : Int) < y8 := by omega
          have hql : q < a.ins.length := by rw [← ev.out]; exact hltq
          obtain ⟨gi, oi, ci, hvi, hei⟩ := hins.out.elem hql
          rw [← ev.out] at hvi
          cases hvi
          have hstep2 : hasA c.an (a.ins[q].1, y0, a.ins[q].2.1) = true → ∀ l (hl : l < a.ins.length), l < q + 1 → hasA c.an (a.ins[l].1, y0, a.ins[l].2.1) = true := fun hn l hl hlj => by
            by_cases e : l = q
            · subst e; exact hn
            · exact hst.out l hl (by omega)
          have hbad2 : hasA c.an (a.ins[q].1, y0, a.ins[q].2.1) = false → r = 15 := fun h => hbad.out (all_no hql h)
          obtain ⟨⟨n0, n1, n2⟩, hz⟩ : ∃ z, a.ins[q] = z := ⟨_, rfl⟩
          rw [hz] at hei hbad2 hstep2
          simp only at hbad2 hstep2
          have t0 := hkK.out.val (hei 0 _ rfl)
          have t1 := hkK.out.val (hei 1 _ rfl)
          simp only [shT, Nat.add_zero] at t0 t1
          have hcall := fun (W : World) (hk : Keeps [] w W) => hfi.out W hk n0 y0 n1
          unfold FindAP at hcall
          obtain ⟨bb, hbb⟩ : ∃ b, hasA c.an (n0, y0, n1) = b := ⟨_, rfl⟩
          rw [hbb] at hcall hbad2 hstep2
          replace hbb := Lib.hid hbb
          replace hcall := Lib.hid hcall
          replace hz := Lib.hid hz
          replace hbad2 := Lib.hid hbad2
          replace hstep2 := Lib.hid hstep2
          clear hei
          go_upto_region 15 with fail
          go_cut [9] from 55 to 82 (fun b wx => b = .bool bb ∧ Hid (Keeps [] wr wx))
          case first =>
            refine Free.wp_region_float 15 19 (fun i => i == 15 || i == 19 || i == 20) (fun i => true) (fun j b => j = 20 ∧ wr.heap.size ≤ b) (fun i => i == 15 || i == 16 || i == 20) (fun i => true) (fun j b => j = 20 ∧ wr.heap.size ≤ b) (by kernel_rfl) (by kernel_rfl) (by kernel_rfl) (by kernel_rfl) (by kernel_rfl) (by kernel_rfl) ?_ ?_
            · skip
              (repeat (first | (apply Free.cw_pure rfl rfl; (intro w'; go_simp <;> exact rfl); go_frame) | (apply Free.cw_steady rfl rfl rfl; (intro w' hS; have q0 := Free.sx_cell hS i0 (fun _ _ hT => Nat.not_le_of_lt (lt_of_cell i0) hT.2); have q1 := Free.sx_cell hS i1 (fun _ _ hT => Nat.not_le_of_lt (lt_of_cell i1) hT.2); have q2 := Free.sx_cell hS i2 (fun _ _ hT => Nat.not_le_of_lt (lt_of_cell i2) hT.2); have q3 := Free.sx_cell hS i3 (fun _ _ hT => Nat.not_le_of_lt (lt_of_cell i3) hT.2); have q4 := Free.sx_cell hS i4 (fun _ _ hT => Nat.not_le_of_lt (lt_of_cell i4) hT.2); have q5 := Free.sx_cell hS i5 (fun _ _ hT => Nat.not_le_of_lt (lt_of_cell i5) hT.2); have q6 := Free.sx_cell hS i6 (fun _ _ hT => Nat.not_le_of_lt (lt_of_cell i6) hT.2); have q7 := Free.sx_cell hS e0 (fun _ _ hT => Nat.not_le_of_lt (lt_of_cell e0) hT.2); have q8 := Free.sx_cell hS e7 (fun _ _ hT => Nat.not_le_of_lt (lt_of_cell e7) hT.2); have q9 := Free.sx_cell hS t0 (fun _ _ hT => Nat.not_le_of_lt (lt_of_cell t0) hT.2); have q10 := Free.sx_cell hS t1 (fun _ _ hT => Nat.not_le_of_lt (lt_of_cell t1) hT.2); go_simp <;> exact rfl); go_frame) | (refine Free.cw_skip rfl ?_; go_frame)))
              refine Free.cw_loud rfl rfl (fun K hK => ?_)
              go_wp2_with fail
              refine (hcall.out _ (hkK.out.drew)).mono ?_
              rintro e w2 ⟨⟨z0, z1, z2, z3, z4, z5, z6, z7, z8, z9⟩, rfl, -, hk2⟩
              refine hK _ _ rfl (Free.KeepsP.of hk2 (by simp)) ?_
              clear hK K
              simp only [aV, AnV.v]
              (repeat (apply Free.cw_pure rfl rfl; (intro w'; go_simp <;> exact rfl); go_frame))
              refine Free.cw_loud rfl rfl (fun K hK => ?_)
              go_wp2
              refine hK _ _ rfl (Free.KeepsP.alloc _ _ _) ?_
              clear hK K
              (repeat (apply Free.cw_pure rfl rfl; (intro w'; go_simp <;> exact rfl); go_frame))
              refine Free.cw_loud rfl rfl (fun K hK => ?_)
              go_wp2
              refine hK _ _ rfl (keepsP_remade (S := fun b => True ∧ wr.heap.size ≤ b) w2 _ _ ⟨trivial, by have := hk2.size; simpa using this⟩) ?_
              clear hK K
              (repeat (apply Free.cw_pure rfl rfl; (intro w'; go_simp <;> exact rfl); go_frame))
              refine Free.cw_nil ?_
              have hkq := Lib.hid ((((Keeps.refl [] wr).drew).trans hk2).alloc (.cells #[.int .i64 z0, .int .i64 z1, .int .u64 z2, .int .i64 z3, .bool z4, .bool z5, .int .i64 z6, .slice z7 z8 z9] tA))
              clear hk2
              go_wp2
              go_meet
              case rel => exact ⟨rfl, hkq⟩
            · skip
              (repeat (first | (apply Free.cw_pure rfl rfl; (intro w'; go_simp <;> exact rfl); go_frame) | (apply Free.cw_steady rfl rfl rfl; (intro w' hS; have q0 := Free.sx_cell hS i0 (fun _ _ hT => Nat.not_le_of_lt (lt_of_cell i0) hT.2); have q1 := Free.sx_cell hS i1 (fun _ _ hT => Nat.not_le_of_lt (lt_of_cell i1) hT.2); have q2 := Free.sx_cell hS i2 (fun _ _ hT => Nat.not_le_of_lt (lt_of_cell i2) hT.2); have q3 := Free.sx_cell hS i3 (fun _ _ hT => Nat.not_le_of_lt (lt_of_cell i3) hT.2); have q4 := Free.sx_cell hS i4 (fun _ _ hT => Nat.not_le_of_lt (lt_of_cell i4) hT.2); have q5 := Free.sx_cell hS i5 (fun _ _ hT => Nat.not_le_of_lt (lt_of_cell i5) hT.2); have q6 := Free.sx_cell hS i6 (fun _ _ hT => Nat.not_le_of_lt (lt_of_cell i6) hT.2); have q7 := Free.sx_cell hS e0 (fun _ _ hT => Nat.not_le_of_lt (lt_of_cell e0) hT.2); have q8 := Free.sx_cell hS e7 (fun _ _ hT => Nat.not_le_of_lt (lt_of_cell e7) hT.2); have q9 := Free.sx_cell hS t0 (fun _ _ hT => Nat.not_le_of_lt (lt_of_cell t0) hT.2); have q10 := Free.sx_cell hS t1 (fun _ _ hT => Nat.not_le_of_lt (lt_of_cell t1) hT.2); go_simp <;> exact rfl); go_frame) | (refine Free.cw_skip rfl ?_; go_frame)))
              refine Free.cw_loud rfl rfl (fun K hK => ?_)
              go_wp2
              refine hK _ _ rfl (Free.KeepsP.alloc _ _ _) ?_
              clear hK K
              (repeat (first | (apply Free.cw_pure rfl rfl; (intro w'; go_simp <;> exact rfl); go_frame) | (apply Free.cw_steady rfl rfl rfl; (intro w' hS; have q0 := Free.sx_cell hS i0 (fun _ _ hT => Nat.not_le_of_lt (lt_of_cell i0) hT.2); have q1 := Free.sx_cell hS i1 (fun _ _ hT => Nat.not_le_of_lt (lt_of_cell i1) hT.2); have q2 := Free.sx_cell hS i2 (fun _ _ hT => Nat.not_le_of_lt (lt_of_cell i2) hT.2); have q3 := Free.sx_cell hS i3 (fun _ _ hT => Nat.not_le_of_lt (lt_of_cell i3) hT.2); have q4 := Free.sx_cell hS i4 (fun _ _ hT => Nat.not_le_of_lt (lt_of_cell i4) hT.2); have q5 := Free.sx_cell hS i5 (fun _ _ hT => Nat.not_le_of_lt (lt_of_cell i5) hT.2); have q6 := Free.sx_cell hS i6 (fun _ _ hT => Nat.not_le_of_lt (lt_of_cell i6) hT.2); have q7 := Free.sx_cell hS e0 (fun _ _ hT => Nat.not_le_of_lt (lt_of_cell e0) hT.2); have q8 := Free.sx_cell hS e7 (fun _ _ hT => Nat.not_le_of_lt (lt_of_cell e7) hT.2); have q9 := Free.sx_cell hS t0 (fun _ _ hT => Nat.not_le_of_lt (lt_of_cell t0) hT.2); have q10 := Free.sx_cell hS t1 (fun _ _ hT => Nat.not_le_of_lt (lt_of_cell t1) hT.2); go_simp <;> exact rfl); go_frame) | (refine Free.cw_skip rfl ?_; go_frame)))
              refine Free.cw_loud rfl rfl (fun K hK => ?_)
              go_wp2_with fail
              refine (hcall.out _ ((hkK.out.drew).alloc _)).mono ?_
              rintro e w2 ⟨⟨z0, z1, z2, z3, z4, z5, z6, z7, z8, z9⟩, rfl, -, hk2⟩
              refine hK _ _ rfl (Free.KeepsP.of hk2 (by simp)) ?_
              clear hK K
              simp only [aV, AnV.v]
              (repeat (apply Free.cw_pure rfl rfl; (intro w'; go_simp <;> exact rfl); go_frame))
              refine Free.cw_loud rfl rfl (fun K hK => ?_)
              have hnb := (hk2.block wr.heap.size (by simp) (by simp)).trans (heap_alloc_new wr.drew _)
              obtain ⟨d0, d1, d2, d3, d4, d5, d6, d7, df, dl⟩ := cl8 hnb
              obtain ⟨-, s2⟩ := sc8 (.int .i64 z0) (.int .i64 z1) (.int .u64 z2) (.int .i64 z3) (.bool z4) (.bool z5) (.int .i64 z6) (.slice z7 z8 z9) hnb
              have hkq0 := (((Keeps.refl [] wr).drew).alloc (.cells #[.int .i64 0, .int .i64 0, .int .u64 0, .int .i64 0, .bool false, .bool false, .int .i64 0, .slice none 0 0] tA)).trans hk2
              have hkq := Lib.hid (hkq0.fresh s2 (fun b hb => by simp only [List.mem_singleton] at hb; subst hb; exact .inr (Nat.le_refl _)))
              replace s2 := Lib.hid s2
              clear hk2 hkq0 hnb
              go_wp2
              apply hK
              · rfl
              · exact Free.KeepsP.of s2.out (fun b hb => by simp only [List.mem_singleton] at hb; subst hb; exact ⟨trivial, Nat.le_refl _⟩)
              clear hK K
              (repeat (apply Free.cw_pure rfl rfl; (intro w'; go_simp <;> exact rfl); go_frame))
              refine Free.cw_nil ?_
              go_wp2
              go_meet
              case rel => exact ⟨rfl, hkq⟩
          case rest =>
            obtain ⟨rfl, hkc⟩ := hcut
            have hkc2 := Lib.hid (hkz.out.trans hkc.out)
            cases bb with
            | false =>
              have hd := Lib.hid (hbad2.out rfl)
              have hkz2 := Lib.hid (hkK.out.trans hkc.out)
              go_wp2
              go_ret
              exact ⟨by rw [hd.out]; rfl, hkz2.out⟩
            | true =>
              have h2 := Lib.hid (hstep2.out rfl)
              go_wp2
              go_roundw
              case rel => exact ⟨q + 1, rfl, by omega, h2, hkc2⟩
              case measure => simp [intOf]; omega
        · have hltq2 : ¬ ((q : Int) < y8) := by omega
          have hno2 := hstep.out (all_take (p := fun x : T3 => hasA c.an (x.1, y0, x.2.1)) (fun l hl => hst.out l hl (by have := ev.out; omega)))
          have hkL := Lib.hid (hkn.out.trans hkz.out)
          replace hno2 := Lib.hid hno2
          go_wp2
          go_roundw
          case rel => exact ⟨k + 1, rfl, by omega, hno2, hkL⟩
          case measure => simp [intOf]; omega
    · have hlt2 : ¬ ((k : Int) < x6) := by omega
      replace h0 := Lib.hid (h0.out (by rw [accB_def]; exact all_take (fun j hj => hno.out j hj (by have := e1.out; omega))))
      go_wp2_with fail
      refine (hma.out _ hkF.out).mono ?_
      rintro e w5 ⟨v, rfl, hR, hml, hk1⟩
      have hk5 := Lib.hid (hkF.out.trans hk1)
      have hA5 := Lib.hid ((hk1.block _ (lt_of_blk hAr) (by simp)).trans hAr)
      clear i0 i1 i2 i3 i4 i5 i6 if' il hk1 hAr
      obtain ⟨i0, i1, i2, i3, i4, i5, i6, if', il⟩ := cl7 hA5.out
      obtain ⟨oa, oc, hov, hoc1, hoc2, _⟩ := hR.form
      subst hov
      obtain ⟨L, hL⟩ : ∃ L, mR c.an = L := ⟨_, rfl⟩
      rw [hL] at hR hoc1 h0 h15 hml ⊢
      obtain ⟨M, hM⟩ : ∃ N, L.length = N := ⟨_, rfl⟩
      rw [hM] at hR hoc1 hml ⊢
      have hM1 : M ≤ 1000 := by have := e1.out; omega
      replace hR := Lib.hid hR
      replace hM := Lib.hid hM
      replace hL := Lib.hid hL
      by_cases hn9 : M = x9
      case neg =>
        have hnd : ((M : Int) != (x9 : Int)) = true := by simp; omega
        have hd := Lib.hid (h15.out (.inr (.inr (.inr (fun e => hn9 (by have := congrArg List.length e; rw [List.length_map, hM.out, ← e2.out] at this; exact this))))))
        go_wp2
        go_ret
        exact ⟨by rw [hd.out]; rfl, hk5.out⟩
      case pos =>
      have hnd : ((M : Int) != (x9 : Int)) = false := by simp; omega
      replace hn9 := Lib.hid hn9
      go_wp2
      go_loopw [11] (fun i wr => ∃ k : Nat, i = .int .i64 k ∧ k ≤ M ∧ Hid (∀ j (hj : j < L.length) (hj2 : j < c.cl.length), j < k → clmR c.an L[j] = c.cl[j]) ∧ Hid (Keeps [] w5 wr)) (fun i _ => M - (intOf i).toNat)
      case atStart => exact ⟨0, rfl, by omega, Lib.hid (fun _ _ _ h => by omega), Lib.hid (Keeps.refl _ _)⟩
      case round =>
        clear i0 i1 i2 i3 i4 i5 i6 if' il
        obtain ⟨k, rfl, hk, hno, hkw⟩ := hrel
        have hAr := (hkw.out.block _ (lt_of_blk hA5.out) (by simp)).trans hA5.out
        obtain ⟨i0, i1, i2, i3, i4, i5, i6, if', il⟩ := cl7 hAr
        have hkF := Lib.hid (hk5.out.trans hkw.out)
        by_cases hlt : k < M
        · have hlt2 : (k : Int) < M := by omega
          have hlt9 : (k : Int) < x9 := by have := hn9.out; omega
          have hkl : k < L.length := by rw [hM.out]; exact hlt
          have hkc : k < c.cl.length := by rw [← e2.out, ← hn9.out]; exact hlt
          obtain ⟨gm, om, cm, hvm, hem⟩ := (hR.out.keeps hkw.out).elem hkl
          rw [hM.out] at hvm
          cases hvm
          have t0 := hem 0 _ rfl
          simp only [shZ, Nat.add_zero, Nat.mul_one] at t0
          obtain ⟨gc, oc', cc, y, hvc, hy, g0, g1, g2, g3, g4⟩ := (hcl.out.keeps hkF.out).elem hkc
          rw [← e2.out] at hvc
          cases hvc
          have hbad : clmR c.an L[k] ≠ c.cl[k] → r = 15 := fun h => h15.out (.inr (.inr (.inr (fun e => h (by
            have := List.getElem_of_eq e (by rw [List.length_map]; exact hkl)
            rw [List.getElem_map] at this
            exact this)))))
          have hstep : clmR c.an L[k] = c.cl[k] → ∀ j (hj : j < L.length) (hj2 : j < c.cl.length), j < k + 1 → clmR c.an L[j] = c.cl[j] := fun hn j hj hj2 hjk => by
            by_cases e : j = k
            · subst e; exact hn
            · exact hno.out j hj hj2 (by omega)
          have hcall := hcm.out wr.drew hkF.out.drew L[k]
          obtain ⟨p, hp⟩ : ∃ p, clmR c.an L[k] = p := ⟨_, rfl⟩
          obtain ⟨pc, hpc⟩ : ∃ p, c.cl[k] = p := ⟨_, rfl⟩
          rw [hp] at hcall hbad hstep
          rw [hpc] at hy hbad hstep
          have hsm := fun (W : World) (hk : Keeps [] wr W) (x : ClV) (hx : CR W x p) => sameClaimR_c W x y p pc hx (hy.keeps hk)
          obtain ⟨bb, hbb⟩ : ∃ b, decide (p = pc) = b := ⟨_, rfl⟩
          rw [hbb] at hsm
          have hgo : bb = true → p = pc := fun h => by rw [h] at hbb; simpa using hbb
          have hng : bb = false → p ≠ pc := fun h => by rw [h] at hbb; simpa using hbb
          obtain ⟨y0, y1, ⟨y2, y3, y4⟩, ⟨y5, y6, y7⟩, ⟨y8, y9, y10⟩⟩ := y
          simp only [clV, slv] at hsm g0 g1 g2 g3 g4
          obtain ⟨mm, hmm⟩ : ∃ z, L[k] = z := ⟨_, rfl⟩
          rw [hmm] at t0 hcall
          replace hmm := Lib.hid hmm
          replace hbb := Lib.hid hbb
          replace hp := Lib.hid hp
          replace hpc := Lib.hid hpc
          replace hcall := Lib.hid hcall
          replace hsm := Lib.hid hsm
          replace hbad := Lib.hid hbad
          replace hstep := Lib.hid hstep
          replace hgo := Lib.hid hgo
          replace hng := Lib.hid hng
          clear hem hy
          go_upto_region 24 with fail
          refine Free.wp_region_chain (fun i => i == 5 || i == 11) (fun i => true) (fun _ _ => False) (by kernel_rfl) (by kernel_rfl) (by kernel_rfl) ?_
          (repeat (first | (apply Free.cw_pure rfl rfl; (intro w'; go_simp <;> exact rfl); go_frame) | (apply Free.cw_steady rfl rfl rfl; (intro w' hS; have q0 := Free.sx_cell hS i0 (fun _ _ hT => hT); have q1 := Free.sx_cell hS i1 (fun _ _ hT => hT); have q2 := Free.sx_cell hS i2 (fun _ _ hT => hT); have q3 := Free.sx_cell hS i3 (fun _ _ hT => hT); have q4 := Free.sx_cell hS i4 (fun _ _ hT => hT); have q5 := Free.sx_cell hS i5 (fun _ _ hT => hT); have q6 := Free.sx_cell hS i6 (fun _ _ hT => hT); have q7 := Free.sx_cell hS t0 (fun _ _ hT => hT); have q8 := Free.sx_cell hS g0 (fun _ _ hT => hT); have q9 := Free.sx_cell hS g1 (fun _ _ hT => hT); have q10 := Free.sx_cell hS g2 (fun _ _ hT => hT); have q11 := Free.sx_cell hS g3 (fun _ _ hT => hT); have q12 := Free.sx_cell hS g4 (fun _ _ hT => hT); go_simp <;> exact rfl); go_frame) | (refine Free.cw_skip rfl ?_; go_frame)))
          refine Free.cw_loud rfl rfl (fun K hK => ?_)
          go_wp2_with fail
          refine hcall.out.mono ?_
          rintro e w6 ⟨⟨d0, d1, ⟨d2, d3, d4⟩, ⟨d5, d6, d7⟩, ⟨d8, d9, d10⟩⟩, rfl, hx6c, hk6⟩
          refine hK _ _ rfl (Free.KeepsP.of hk6 (by simp)) ?_
          clear hK K hcall
          have hk6d := ((Keeps.refl [] wr).drew).trans hk6
          have hsm2 := hsm.out w6 hk6d _ hx6c
          simp only [slv] at hsm2 ⊢
          replace hsm2 := Lib.hid hsm2
          replace hk6d := Lib.hid hk6d
          clear hk6 hx6c hsm
          (repeat (first | (apply Free.cw_pure rfl rfl; (intro w'; go_simp <;> exact rfl); go_frame) | (apply Free.cw_steady rfl rfl rfl; (intro w' hS; have q0 := Free.sx_cell hS i0 (fun _ _ hT => hT); have q1 := Free.sx_cell hS i1 (fun _ _ hT => hT); have q2 := Free.sx_cell hS i2 (fun _ _ hT => hT); have q3 := Free.sx_cell hS i3 (fun _ _ hT => hT); have q4 := Free.sx_cell hS i4 (fun _ _ hT => hT); have q5 := Free.sx_cell hS i5 (fun _ _ hT => hT); have q6 := Free.sx_cell hS i6 (fun _ _ hT => hT); have q7 := Free.sx_cell hS t0 (fun _ _ hT => hT); have q8 := Free.sx_cell hS g0 (fun _ _ hT => hT); have q9 := Free.sx_cell hS g1 (fun _ _ hT => hT); have q10 := Free.sx_cell hS g2 (fun _ _ hT => hT); have q11 := Free.sx_cell hS g3 (fun _ _ hT => hT); have q12 := Free.sx_cell hS g4 (fun _ _ hT => hT); go_simp <;> exact rfl); go_frame) | (refine Free.cw_skip rfl ?_; go_frame)))
          refine Free.cw_loud rfl rfl (fun K hK => ?_)
          go_wp2_with fail
          refine hsm2.out.mono ?_
          rintro e w7 ⟨rfl, hk7⟩
          refine hK _ _ rfl (Free.KeepsP.of hk7 (by simp)) ?_
          clear hK K hsm2
          have hkz := Lib.hid (hkw.out.trans (hk6d.out.trans hk7))
          have hkz2 := Lib.hid (hkF.out.trans (hk6d.out.trans hk7))
          clear hk6d hk7
          (repeat (apply Free.cw_pure rfl rfl; (intro w'; go_simp <;> exact rfl); go_frame))
          refine Free.cw_nil ?_
          cases bb with
          | false =>
            have hd := Lib.hid (hbad.out (hng.out rfl))
            go_wp2
            go_ret
            exact ⟨by rw [hd.out]; rfl, hkz2.out⟩
          | true =>
            have h2 := Lib.hid (hstep.out (hgo.out rfl))
            go_wp2
            go_roundw
            case rel => exact ⟨k + 1, rfl, by omega, h2, hkz⟩
            case measure => simp [intOf]; omega
        · have hlt2 : ¬ ((k : Int) < M) := by omega
          have hd := h0.out (List.ext_getElem (by rw [List.length_map, hM.out, hn9.out, e2.out]) (fun j h1 h2 => by
            rw [List.getElem_map]
            rw [List.length_map] at h1
            exact hno.out j h1 h2 (by have := hM.out; omega)))
          replace hd := Lib.hid hd
          go_wp2
          go_ret
          exact ⟨by rw [hd.out]; rfl, hkF.out⟩
end Go.Proofs.Ytiplgpefapeapaa

namespace Go.Proofs.Ytiplgpefapeapaa
open Go.RowKit

def few0 (c : Ct) : Int := wrap64 ((c.an.length : Int) + c.cl.length)
def few1 (Y : List Ans) (z : Int) : Int := Y.foldl (fun z a => wrap64 (z + (a.ins.length : Nat))) z
def few2 (P : List PCl) (z : Int) : Int := P.foldl (fun z p => wrap64 (z + wrap64 (wrap64 ((p.st.length : Nat) + (p.sc.length : Nat)) + (p.ch.length : Nat)))) z
def fewV (c : Ct) : Bool := decide (few2 c.cl (few1 c.an (few0 c)) ≤ 100)
theorem few1_succ (Y : List Ans) (z : Int) (k : Nat) (h : k < Y.length) : few1 (Y.take (k + 1)) z = wrap64 (few1 (Y.take k) z + (Y[k].ins.length : Nat)) := by
  unfold few1
  rw [List.take_succ_eq_append_getElem h, List.foldl_append, List.foldl_cons, List.foldl_nil]
theorem few2_succ (P : List PCl) (z : Int) (k : Nat) (h : k < P.length) : few2 (P.take (k + 1)) z = wrap64 (few2 (P.take k) z + wrap64 (wrap64 ((P[k].st.length : Nat) + (P[k].sc.length : Nat)) + (P[k].ch.length : Nat))) := by
  unfold few2
  rw [List.take_succ_eq_append_getElem h, List.foldl_append, List.foldl_cons, List.foldl_nil]
theorem few1_zero (Y : List Ans) (z : Int) : few1 (Y.take 0) z = z := by unfold few1; rw [List.take_zero, List.foldl_nil]
theorem few2_zero (P : List PCl) (z : Int) : few2 (P.take 0) z = z := by unfold few2; rw [List.take_zero, List.foldl_nil]
/-- Every list is so short that the sum of all does not wrap. -/
structure Ct.Fin (c : Ct) : Prop where
  an : c.an.length ≤ 1024
  cl : c.cl.length ≤ 2000000000000
  ins : ∀ a ∈ c.an, a.ins.length ≤ 1024
  ns : ∀ p ∈ c.cl, p.st.length ≤ 1024 ∧ p.sc.length ≤ 1024 ∧ p.ch.length ≤ 1024
theorem few1_eq : ∀ (Y : List Ans) (z : Int), 0 ≤ z → z + (Y.length * 1024 : Nat) ≤ 9000000000000000000 → (∀ a ∈ Y, a.ins.length ≤ 1024) → few1 Y z = z + ((Y.map (fun a => a.ins.length)).sum : Nat) ∧ (Y.map (fun a => a.ins.length)).sum ≤ Y.length * 1024
  | [], z, _, _, _ => by simp [few1]
  | a :: Y, z, h0, h1, h => by
    have ha := h a (by simp)
    simp only [List.length_cons] at h1
    have e : few1 (a :: Y) z = few1 Y (wrap64 (z + (a.ins.length : Nat))) := rfl
    rw [e, IntWalk.wrap64_in _ (by omega)]
    obtain ⟨i1, i2⟩ := few1_eq Y (z + (a.ins.length : Nat)) (by omega) (by omega) (fun b hb => h b (by simp [hb]))
    rw [i1]
    simp only [List.map_cons, List.sum_cons, List.length_cons]
    omega
theorem few2_eq : ∀ (P : List PCl) (z : Int), 0 ≤ z → z + (P.length * 3072 : Nat) ≤ 9000000000000000000 → (∀ p ∈ P, p.st.length ≤ 1024 ∧ p.sc.length ≤ 1024 ∧ p.ch.length ≤ 1024) → few2 P z = z + ((P.map PCl.size).sum : Nat) ∧ (P.map PCl.size).sum ≤ P.length * 3072
  | [], z, _, _, _ => by simp [few2]
  | p :: P, z, h0, h1, h => by
    obtain ⟨h2, h3, h4⟩ := h p (by simp)
    simp only [List.length_cons] at h1
    have e : few2 (p :: P) z = few2 P (wrap64 (z + wrap64 (wrap64 ((p.st.length : Nat) + (p.sc.length : Nat)) + (p.ch.length : Nat)))) := rfl
    have hs : PCl.size p = p.st.length + p.sc.length + p.ch.length := rfl
    rw [e, IntWalk.wrap64_in ((p.st.length : Int) + (p.sc.length : Nat)) (by omega), IntWalk.wrap64_in ((p.st.length : Int) + (p.sc.length : Nat) + (p.ch.length : Nat)) (by omega), IntWalk.wrap64_in _ (by omega)]
    obtain ⟨i1, i2⟩ := few2_eq P (z + ((p.st.length : Int) + (p.sc.length : Nat) + (p.ch.length : Nat))) (by omega) (by omega) (fun b hb => h b (by simp [hb]))
    rw [i1]
    simp only [List.map_cons, List.sum_cons, List.length_cons]
    omega
theorem fewV_eq {c : Ct} (h : c.Fin) : fewV c = decide (c.size ≤ 100) := by
  have h1 := h.an
  have h2 := h.cl
  have h0 : few0 c = ((c.an.length + c.cl.length : Nat) : Int) := by unfold few0; rw [IntWalk.wrap64_in _ (by omega)]; omega
  obtain ⟨i1, i2⟩ := few1_eq c.an (few0 c) (by rw [h0]; omega) (by rw [h0]; omega) h.ins
  obtain ⟨j1, j2⟩ := few2_eq c.cl (few1 c.an (few0 c)) (by rw [i1, h0]; omega) (by rw [i1, h0]; omega) h.ns
  unfold fewV
  rw [j1, i1, h0, decide_eq_decide]
  unfold Ct.size
  omega
theorem few_ofV {c : Ct} (h : c.Fin) (hf : fewV c = true) : c.Few := few_of (by rw [fewV_eq h] at hf; simpa using hf)
set_option maxRecDepth 100000 in
set_option maxHeartbeats 4000000 in
theorem fewX_c (w : World) (x : CtV) (c : Ct) (h : CtW w x c) :
    Calls Try.prog 6 #[ctV x] w fun e w' => e = .returned (.bool (fewV c)) ∧ Keeps [] w w' := by
  obtain ⟨x0, x1, x2, x3, x4, ⟨x5, x6, x7⟩, ⟨x8, x9, x10⟩⟩ := x
  have han := h.an
  have hcl := h.cl
  simp only [slv] at han hcl
  obtain ⟨_, _, e1, hla, hca⟩ := han.form
  obtain ⟨_, _, e2, hlc, hcc⟩ := hcl.form
  simp only [Value.slice.injEq] at e1 e2
  obtain ⟨-, e1, -⟩ := e1
  obtain ⟨-, e2, -⟩ := e2
  rw [← e1] at hla
  rw [← e2] at hlc
  have hA := heap_alloc_new w (.cells #[.int .i64 x0, .int .i64 x1, .int .i64 x2, .int .u64 x3, .int .i64 x4, .slice x5 x6 x7, .slice x8 x9 x10] tCt)
  have hkA := (Keeps.refl [] w).alloc (.cells #[.int .i64 x0, .int .i64 x1, .int .i64 x2, .int .u64 x3, .int .i64 x4, .slice x5 x6 x7, .slice x8 x9 x10] tCt)
  have han1 := han.keeps hkA
  have hcl1 := hcl.keeps hkA
  obtain ⟨W, hW⟩ : ∃ W, w.alloc (.cells #[.int .i64 x0, .int .i64 x1, .int .i64 x2, .int .u64 x3, .int .i64 x4, .slice x5 x6 x7, .slice x8 x9 x10] tCt) = W := ⟨_, rfl⟩
  obtain ⟨B, hB⟩ : ∃ B, w.heap.size = B := ⟨_, rfl⟩
  have hx6m : x6 ≤ 9223372036854775807 := by unfold maxLen at hca; omega
  have hx9m : x9 ≤ 9223372036854775807 := by unfold maxLen at hcc; omega
  obtain ⟨z0, hz0⟩ : ∃ z, wrap64 ((x6 : Int) + x9) = z := ⟨_, rfl⟩
  have hz0f : z0 = few0 c := by
    unfold few0
    rw [← hz0, e1, e2]
  rw [hW] at han1 hcl1 hA hkA
  rw [hB] at hA
  replace han1 := Lib.hid han1
  replace hcl1 := Lib.hid hcl1
  replace hkA := Lib.hid hkA
  replace hW := Lib.hid hW
  replace hB := Lib.hid hB
  replace e1 := Lib.hid e1
  replace e2 := Lib.hid e2
  replace hA := Lib.hid hA
  replace hz0 := Lib.hid hz0
  replace hz0f := Lib.hid hz0f
  clear h han hcl
  simp only [ctV, slv]
  go_enter Try.func6, Try.ntmps6
  go_upto_region 1 with fail
  rw [hW.out, hB.out]
  obtain ⟨i0, i1, i2, i3, i4, i5, i6, if', il⟩ := cl7 hA.out
  go_wp2
  simp only [hz0.out]
  go_loopw [3, 18] (fun n i wr => ∃ (k : Nat) (z : Int), n = .int .i64 z ∧ i = .int .i64 k ∧ k ≤ x6 ∧ Hid (z = few1 (c.an.take k) (few0 c)) ∧ Hid (Keeps [] W wr)) (fun _ i _ => x6 - (intOf i).toNat)
  case atStart => exact ⟨0, z0, rfl, rfl, by omega, Lib.hid (by rw [few1_zero]; exact hz0f.out), Lib.hid (Keeps.refl _ _)⟩
  case round =>
    clear i0 i1 i2 i3 i4 i5 i6 if' il
    obtain ⟨k, z, rfl, rfl, hk, hno, hkw⟩ := hrel
    by_cases hlt : k < x6
    · have hlt2 : (k : Int) < x6 := by omega
      have hkl : k < c.an.length := by rw [← e1.out]; exact hlt
      obtain ⟨g, o, c', x, hv, hx, he⟩ := (han1.out.keeps hkw.out).elem hkl
      rw [← e1.out] at hv
      cases hv
      obtain ⟨_, _, ev, _⟩ := hx.ins.form
      obtain ⟨y0, y1, y2, y3, y4, y5, y6, y7, y8, y9⟩ := x
      simp only [AnV.v, Value.slice.injEq] at ev
      obtain ⟨-, ev, -⟩ := ev
      have g0 := he 0 _ rfl
      have g1 := he 1 _ rfl
      have g2 := he 2 _ rfl
      have g3 := he 3 _ rfl
      have g4 := he 4 _ rfl
      have g5 := he 5 _ rfl
      have g6 := he 6 _ rfl
      have g7 := he 7 _ rfl
      simp only [AnV.v, Nat.add_zero] at g0 g1 g2 g3 g4 g5 g6 g7
      replace ev := Lib.hid ev
      have hkn := Lib.hid (hkw.out.trans ((Keeps.refl [] wr).alloc (.cells #[.int .i64 y0, .int .i64 y1, .int .u64 y2, .int .i64 y3, .bool y4, .bool y5, .int .i64 y6, .slice y7 y8 y9] tA)))
      have hno2 : Hid (wrap64 (z + y8) = few1 (c.an.take (k + 1)) (few0 c)) := Lib.hid (by
        rw [few1_succ _ _ _ hkl, hno.out, ev.out])
      clear he hx
      go_wp2
      go_roundw
      case rel => exact ⟨k + 1, _, rfl, rfl, by omega, hno2, hkn⟩
      case measure => simp [intOf]; omega
    · have hlt2 : ¬ ((k : Int) < x6) := by omega
      have hAr := (hkw.out.block _ (lt_of_blk hA.out) (by simp)).trans hA.out
      obtain ⟨i0, i1, i2, i3, i4, i5, i6, if', il⟩ := cl7 hAr
      have hno3 : Hid (z = few1 c.an (few0 c)) := Lib.hid (by
        have := hno.out
        have hkx : k = c.an.length := by have := e1.out; omega
        rw [hkx, List.take_length] at this
        exact this)
      clear hno
      go_wp2
      generalize wr = W2 at *
      go_loopw [3, 31] (fun n i wr => ∃ (k : Nat) (z : Int), n = .int .i64 z ∧ i = .int .i64 k ∧ k ≤ x9 ∧ Hid (z = few2 (c.cl.take k) (few1 c.an (few0 c))) ∧ Hid (Keeps [] W wr)) (fun _ i _ => x9 - (intOf i).toNat)
      case atStart => exact ⟨0, z, rfl, rfl, by omega, Lib.hid (by rw [few2_zero]; exact hno3.out), hkw⟩
      case round =>
        clear i0 i1 i2 i3 i4 i5 i6 if' il
        obtain ⟨k, z, rfl, rfl, hk, hnoc, hkw⟩ := hrel
        by_cases hlt : k < x9
        · have hlt2 : (k : Int) < x9 := by omega
          have hkl : k < c.cl.length := by rw [← e2.out]; exact hlt
          obtain ⟨g, o, c', x, hv, hx, g0, g1, g2, g3, g4⟩ := (hcl1.out.keeps hkw.out).elem hkl
          rw [← e2.out] at hv
          cases hv
          obtain ⟨_, _, ev1, _⟩ := hx.st.form
          obtain ⟨_, _, ev2, _⟩ := hx.sc.form
          obtain ⟨_, _, ev3, _⟩ := hx.ch.form
          obtain ⟨y0, y1, ⟨y2, y3, y4⟩, ⟨y5, y6, y7⟩, ⟨y8, y9, y10⟩⟩ := x
          simp only [slv, Value.slice.injEq] at ev1 ev2 ev3
          simp only [slv] at g0 g1 g2 g3 g4
          obtain ⟨-, ev1, -⟩ := ev1
          obtain ⟨-, ev2, -⟩ := ev2
          obtain ⟨-, ev3, -⟩ := ev3
          replace ev1 := Lib.hid ev1
          replace ev2 := Lib.hid ev2
          replace ev3 := Lib.hid ev3
          have hkn := Lib.hid (hkw.out.trans ((Keeps.refl [] wr).alloc (.cells #[.int .i64 y0, .int .i64 y1, .slice y2 y3 y4, .slice y5 y6 y7, .slice y8 y9 y10] tC)))
          have hno2 : Hid (wrap64 (z + wrap64 (wrap64 (y3 + y6) + y9)) = few2 (c.cl.take (k + 1)) (few1 c.an (few0 c))) := Lib.hid (by
            rw [few2_succ _ _ _ hkl, hnoc.out, ev1.out, ev2.out, ev3.out])
          clear hx
          go_wp2
          go_roundw
          case rel => exact ⟨k + 1, _, rfl, rfl, by omega, hno2, hkn⟩
          case measure => simp [intOf]; omega
        · have hlt2 : ¬ ((k : Int) < x9) := by omega
          have hend : Hid (decide (z ≤ 100) = fewV c) := Lib.hid (by
            have hn := hnoc.out
            have hkx : k = c.cl.length := by have := e2.out; omega
            rw [hkx, List.take_length] at hn
            unfold fewV
            rw [hn])
          go_wp2
          go_ret
          exact ⟨by rw [hend.out]; rfl, hkA.out.trans hkw.out⟩
end Go.Proofs.Ytiplgpefapeapaa

namespace Go.Proofs.Ytiplgpefapeapaa
open Go.RowKit

/-- Both checks say the same wherever the law asks. -/
theorem two_checks (w : World) (x : CtV) (c : Ct) (h : CtW w x c) (hfit : c.Fit) (hcl : c.cl.length ≤ 2000000000000) (hf : fewV c = true) :
    ∃ n : Int, (Calls Try.prog 8 #[ctV x] w fun e w' => e = .returned (.int .i64 n) ∧ Keeps [] w w') ∧
      ∀ w2 : World, Keeps [] w w2 → Calls Try.prog 9 #[ctV x] w2 fun e w' => e = .returned (.int .i64 n) ∧ Keeps [] w2 w' := by
  by_cases hF : c.Fin
  · have hfw := few_ofV hF hf
    refine ⟨chk c, check_c w x c h hfit hfw, fun w2 hk => ?_⟩
    rw [← chkR_eq]
    exact checkS_c w2 x c (h.keeps hk) hfw
  · refine ⟨1, checkNo_c w x c h (fun g => hF ⟨g.an, hcl, g.ins, g.ns⟩), fun w2 hk => checkSNo_c w2 x c (h.keeps hk) (Bool.eq_false_iff.2 (fun hw => hF ?_))⟩
    unfold wfS at hw
    simp only [Bool.and_eq_true, decide_eq_true_eq, List.all_eq_true] at hw
    obtain ⟨⟨⟨⟨_, h1⟩, _⟩, _, h2⟩, h3⟩ := hw
    refine ⟨h1, hcl, fun a ha => ?_, fun p hp => ?_⟩
    · have := h3 a ha
      unfold ansOkL at this
      simp only [Bool.and_eq_true, decide_eq_true_eq] at this
      exact this.2
    · have := h2 p hp
      unfold clShort at this
      simp only [Bool.and_eq_true, decide_eq_true_eq] at this
      exact ⟨this.1.1, this.1.2, this.2⟩
set_option maxRecDepth 100000 in
set_option maxHeartbeats 16000000 in
theorem checks_c (w : World) (x : CtV) (c : Ct) (h : CtW w x c) (hfit : c.Fit) (hcl : c.cl.length ≤ 2000000000000) :
    Calls Try.prog 3 #[ctV x] w fun e w' => e = .returned (.bool true) ∧ Keeps [] w w' := by
  have hfw := fun (W : World) (hk : Keeps [] w W) => fewX_c W x c (h.keeps hk)
  have hch := fun (W : World) (hk : Keeps [] w W) => two_checks W x c (h.keeps hk) hfit hcl
  obtain ⟨x0, x1, x2, x3, x4, ⟨x5, x6, x7⟩, ⟨x8, x9, x10⟩⟩ := x
  simp only [ctV, slv] at hfw hch
  have hA := heap_alloc_new w (.cells #[.int .i64 x0, .int .i64 x1, .int .i64 x2, .int .u64 x3, .int .i64 x4, .slice x5 x6 x7, .slice x8 x9 x10] tCt)
  have hkA := (Keeps.refl [] w).alloc (.cells #[.int .i64 x0, .int .i64 x1, .int .i64 x2, .int .u64 x3, .int .i64 x4, .slice x5 x6 x7, .slice x8 x9 x10] tCt)
  obtain ⟨b, hb⟩ : ∃ b, fewV c = b := ⟨_, rfl⟩
  rw [hb] at hfw hch
  replace hfw := Lib.hid hfw
  replace hch := Lib.hid hch
  replace hb := Lib.hid hb
  replace hA := Lib.hid hA
  replace hkA := Lib.hid hkA
  clear h hfit hcl
  simp only [ctV, slv]
  go_enter Try.func3, Try.ntmps3
  go_upto_region 1 with fail
  generalize (w.alloc (.cells #[.int .i64 x0, .int .i64 x1, .int .i64 x2, .int .u64 x3, .int .i64 x4, .slice x5 x6 x7, .slice x8 x9 x10] tCt)) = W at *
  obtain ⟨B, hB⟩ : ∃ B, w.heap.size = B := ⟨_, rfl⟩
  rw [hB] at hA ⊢
  replace hB := Lib.hid hB
  obtain ⟨i0, i1, i2, i3, i4, i5, i6, if', il⟩ := cl7 hA.out
  cases b with
  | false =>
    refine Free.wp_region_chain (fun i => i == 1 || i == 4 || i == 8 || i == 11 || i == 13 || i == 17) (fun i => true) (fun _ _ => False) (by kernel_rfl) (by kernel_rfl) (by kernel_rfl) ?_
    (repeat (first | (apply Free.cw_pureW rfl rfl; (intro w'; go_simp <;> exact rfl); go_frame) | (apply Free.cw_steadyW rfl rfl rfl; (intro w' hS; have q0 := Free.sx_cell hS i0 (fun _ _ hT => hT); have q1 := Free.sx_cell hS i1 (fun _ _ hT => hT); have q2 := Free.sx_cell hS i2 (fun _ _ hT => hT); have q3 := Free.sx_cell hS i3 (fun _ _ hT => hT); have q4 := Free.sx_cell hS i4 (fun _ _ hT => hT); have q5 := Free.sx_cell hS i5 (fun _ _ hT => hT); have q6 := Free.sx_cell hS i6 (fun _ _ hT => hT); go_simp <;> exact rfl); go_frame) | (refine Free.cw_skip rfl ?_; go_frame)))
    refine Free.cw_loudW rfl rfl (fun K hK => ?_)
    go_wp2_with fail
    refine (hfw.out _ hkA.out.drew).mono ?_
    rintro e w1 ⟨rfl, hk1⟩
    refine hK _ _ rfl (Free.KeepsP.of hk1 (by simp)) ?_
    clear hK K
    (repeat (first | (apply Free.cw_pureW rfl rfl; (intro w'; go_simp <;> exact rfl); go_frame) | (apply Free.cw_steadyW rfl rfl rfl; (intro w' hS; have q0 := Free.sx_cell hS i0 (fun _ _ hT => hT); have q1 := Free.sx_cell hS i1 (fun _ _ hT => hT); have q2 := Free.sx_cell hS i2 (fun _ _ hT => hT); have q3 := Free.sx_cell hS i3 (fun _ _ hT => hT); have q4 := Free.sx_cell hS i4 (fun _ _ hT => hT); have q5 := Free.sx_cell hS i5 (fun _ _ hT => hT); have q6 := Free.sx_cell hS i6 (fun _ _ hT => hT); go_simp <;> exact rfl); go_frame) | (refine Free.cw_skip rfl ?_; go_frame)))
    refine Free.cw_loudW rfl rfl (fun K hK => ?_)
    go_wp2_with fail
    refine (awake_c w1).mono ?_
    rintro e w2 ⟨rfl, hk2⟩
    refine hK _ _ rfl (Free.KeepsP.of hk2 (by simp)) ?_
    clear hK K
    have hkz := Lib.hid ((hkA.out.drew.trans hk1).trans hk2)
    clear hk1 hk2
    (repeat (first | (apply Free.cw_pureW rfl rfl; (intro w'; go_simp <;> exact rfl); go_frame) | (apply Free.cw_steadyW rfl rfl rfl; (intro w' hS; have q0 := Free.sx_cell hS i0 (fun _ _ hT => hT); have q1 := Free.sx_cell hS i1 (fun _ _ hT => hT); have q2 := Free.sx_cell hS i2 (fun _ _ hT => hT); have q3 := Free.sx_cell hS i3 (fun _ _ hT => hT); have q4 := Free.sx_cell hS i4 (fun _ _ hT => hT); have q5 := Free.sx_cell hS i5 (fun _ _ hT => hT); have q6 := Free.sx_cell hS i6 (fun _ _ hT => hT); go_simp <;> exact rfl); go_frame) | (refine Free.cw_skip rfl ?_; go_frame)))
    refine Free.cw_nil ?_
    go_wp2
    go_ret
    exact ⟨rfl, hkz.out⟩
  | true =>
    refine Free.wp_region_chain (fun i => i == 1 || i == 4 || i == 8 || i == 11 || i == 13 || i == 17) (fun i => true) (fun _ _ => False) (by kernel_rfl) (by kernel_rfl) (by kernel_rfl) ?_
    (repeat (first | (apply Free.cw_pureW rfl rfl; (intro w'; go_simp <;> exact rfl); go_frame) | (apply Free.cw_steadyW rfl rfl rfl; (intro w' hS; have q0 := Free.sx_cell hS i0 (fun _ _ hT => hT); have q1 := Free.sx_cell hS i1 (fun _ _ hT => hT); have q2 := Free.sx_cell hS i2 (fun _ _ hT => hT); have q3 := Free.sx_cell hS i3 (fun _ _ hT => hT); have q4 := Free.sx_cell hS i4 (fun _ _ hT => hT); have q5 := Free.sx_cell hS i5 (fun _ _ hT => hT); have q6 := Free.sx_cell hS i6 (fun _ _ hT => hT); go_simp <;> exact rfl); go_frame) | (refine Free.cw_skip rfl ?_; go_frame)))
    refine Free.cw_loudW rfl rfl (fun K hK => ?_)
    go_wp2_with fail
    refine (hfw.out _ hkA.out.drew).mono ?_
    rintro e w1 ⟨rfl, hk1⟩
    refine hK _ _ rfl (Free.KeepsP.of hk1 (by simp)) ?_
    clear hK K
    have hk01 := Lib.hid (hkA.out.drew.trans hk1)
    clear hk1
    (repeat (first | (apply Free.cw_pureW rfl rfl; (intro w'; go_simp <;> exact rfl); go_frame) | (apply Free.cw_steadyW rfl rfl rfl; (intro w' hS; have q0 := Free.sx_cell hS i0 (fun _ _ hT => hT); have q1 := Free.sx_cell hS i1 (fun _ _ hT => hT); have q2 := Free.sx_cell hS i2 (fun _ _ hT => hT); have q3 := Free.sx_cell hS i3 (fun _ _ hT => hT); have q4 := Free.sx_cell hS i4 (fun _ _ hT => hT); have q5 := Free.sx_cell hS i5 (fun _ _ hT => hT); have q6 := Free.sx_cell hS i6 (fun _ _ hT => hT); go_simp <;> exact rfl); go_frame) | (refine Free.cw_skip rfl ?_; go_frame)))
    refine Free.cw_loudW rfl rfl (fun K hK => ?_)
    go_wp2_with fail
    refine (hfw.out _ hk01.out).mono ?_
    rintro e w2 ⟨rfl, hk2⟩
    refine hK _ _ rfl (Free.KeepsP.of hk2 (by simp)) ?_
    clear hK K hfw
    have hk02 := hk01.out.trans hk2
    obtain ⟨n, hc1, hc2⟩ := hch.out w2 hk02 (by first | rfl | trivial)
    replace hk02 := Lib.hid hk02
    replace hc1 := Lib.hid hc1
    replace hc2 := Lib.hid hc2
    clear hk2 hch
    (repeat (first | (apply Free.cw_pureW rfl rfl; (intro w'; go_simp <;> exact rfl); go_frame) | (apply Free.cw_steadyW rfl rfl rfl; (intro w' hS; have q0 := Free.sx_cell hS i0 (fun _ _ hT => hT); have q1 := Free.sx_cell hS i1 (fun _ _ hT => hT); have q2 := Free.sx_cell hS i2 (fun _ _ hT => hT); have q3 := Free.sx_cell hS i3 (fun _ _ hT => hT); have q4 := Free.sx_cell hS i4 (fun _ _ hT => hT); have q5 := Free.sx_cell hS i5 (fun _ _ hT => hT); have q6 := Free.sx_cell hS i6 (fun _ _ hT => hT); go_simp <;> exact rfl); go_frame) | (refine Free.cw_skip rfl ?_; go_frame)))
    refine Free.cw_loudW rfl rfl (fun K hK => ?_)
    go_wp2_with fail
    refine hc1.out.mono ?_
    rintro e w3 ⟨rfl, hk3⟩
    refine hK _ _ rfl (Free.KeepsP.of hk3 (by simp)) ?_
    clear hK K hc1
    replace hk3 := Lib.hid hk3
    (repeat (first | (apply Free.cw_pureW rfl rfl; (intro w'; go_simp <;> exact rfl); go_frame) | (apply Free.cw_steadyW rfl rfl rfl; (intro w' hS; have q0 := Free.sx_cell hS i0 (fun _ _ hT => hT); have q1 := Free.sx_cell hS i1 (fun _ _ hT => hT); have q2 := Free.sx_cell hS i2 (fun _ _ hT => hT); have q3 := Free.sx_cell hS i3 (fun _ _ hT => hT); have q4 := Free.sx_cell hS i4 (fun _ _ hT => hT); have q5 := Free.sx_cell hS i5 (fun _ _ hT => hT); have q6 := Free.sx_cell hS i6 (fun _ _ hT => hT); go_simp <;> exact rfl); go_frame) | (refine Free.cw_skip rfl ?_; go_frame)))
    refine Free.cw_loudW rfl rfl (fun K hK => ?_)
    go_wp2_with fail
    refine (hc2.out w3 hk3.out).mono ?_
    rintro e w4 ⟨rfl, hk4⟩
    refine hK _ _ rfl (Free.KeepsP.of hk4 (by simp)) ?_
    clear hK K hc2
    have hk04 := Lib.hid ((hk02.out.trans hk3.out).trans hk4)
    have hnn : (n == n) = true := by simp
    clear hk4
    (repeat (first | (apply Free.cw_pureW rfl rfl; (intro w'; go_simp <;> exact rfl); go_frame) | (apply Free.cw_steadyW rfl rfl rfl; (intro w' hS; have q0 := Free.sx_cell hS i0 (fun _ _ hT => hT); have q1 := Free.sx_cell hS i1 (fun _ _ hT => hT); have q2 := Free.sx_cell hS i2 (fun _ _ hT => hT); have q3 := Free.sx_cell hS i3 (fun _ _ hT => hT); have q4 := Free.sx_cell hS i4 (fun _ _ hT => hT); have q5 := Free.sx_cell hS i5 (fun _ _ hT => hT); have q6 := Free.sx_cell hS i6 (fun _ _ hT => hT); go_simp <;> exact rfl); go_frame) | (refine Free.cw_skip rfl ?_; go_frame)))
    refine Free.cw_loudW rfl rfl (fun K hK => ?_)
    go_wp2_with fail
    refine (awake_c w4).mono ?_
    rintro e w5 ⟨rfl, hk5⟩
    refine hK _ _ rfl (Free.KeepsP.of hk5 (by simp)) ?_
    clear hK K
    have hkz := Lib.hid (hk04.out.trans hk5)
    clear hk5
    (repeat (first | (apply Free.cw_pureW rfl rfl; (intro w'; go_simp <;> exact rfl); go_frame) | (apply Free.cw_steadyW rfl rfl rfl; (intro w' hS; have q0 := Free.sx_cell hS i0 (fun _ _ hT => hT); have q1 := Free.sx_cell hS i1 (fun _ _ hT => hT); have q2 := Free.sx_cell hS i2 (fun _ _ hT => hT); have q3 := Free.sx_cell hS i3 (fun _ _ hT => hT); have q4 := Free.sx_cell hS i4 (fun _ _ hT => hT); have q5 := Free.sx_cell hS i5 (fun _ _ hT => hT); have q6 := Free.sx_cell hS i6 (fun _ _ hT => hT); go_simp <;> exact rfl); go_frame) | (refine Free.cw_skip rfl ?_; go_frame)))
    refine Free.cw_nil ?_
    go_wp2
    go_ret
    exact ⟨rfl, hkz.out⟩
end Go.Proofs.Ytiplgpefapeapaa

namespace Go.Proofs.Ytiplgpefapeapaa
open Go.ChangeShapes Go.WideShapes Go.ChangeAt Go.RowKit

set_option maxRecDepth 100000 in
set_option maxHeartbeats 1000000 in
theorem cert_weight {H : Type} {enc : TypeId × Value → H} {W : World} {x : CtV} {d : DataW H} {ps : List MemPlace} (h : DataW.Trod enc Try.prog W 0 (fun _ => true) true tCt (ctV x) d ps) {ts : List TypeId} {ds : List (DataW H)}
    (hz : (DataW.weightsEach Try.prog (tCt :: ts) (d :: ds)).all (· ≤ reachBytes) = true) : x.vc.2.1 * 88 ≤ 140737488355328 := by
  obtain ⟨fuel, hf⟩ := h
  obtain ⟨xs, n, -, hx, hl, hlen, hall⟩ := DataW.trod_struct Try.underlying30 hf
  obtain ⟨rfl, -⟩ := Prod.mk.inj hx
  have h3 := hall 3 _ rfl
  replace h3 : DataW.trod enc Try.prog W 0 (fun _ => true) true n 28 (((ctV x).cells.toList.drop 6).take (Try.prog.cellsOf 28)) = xs[3]? := h3
  rw [show Try.prog.cellsOf 28 = 1 by kernel_rfl, show ((ctV x).cells.toList.drop 6).take 1 = [slv x.vc] from rfl] at h3
  have h4 : 3 < xs.length := by rw [hlen]; exact (by decide)
  rw [List.getElem?_eq_getElem h4] at h3
  rcases Go.Deep.open_slice Try.underlying28 h3 with ⟨e1, _⟩ | ⟨a, len, cap, m, k, D, Pl, e1, _, hle, _, hm, e2, _⟩
  · simp only [List.cons.injEq, Value.slice.injEq, and_true] at e1
    obtain ⟨_, e1, _⟩ := e1
    rw [e1]; omega
  · simp only [List.cons.injEq, Value.slice.injEq, and_true] at e1
    obtain ⟨_, e1, _⟩ := e1
    have hmem : ((List.range len).map D).length + ((List.range (m - len)).map fun j => D (len + j)).length * 1 ≤ m + len := by simp; omega
    have hin : ∀ w ∈ DataW.weights Try.prog 28 (DataW.slice ((List.range len).map D) ((List.range (m - len)).map fun j => D (len + j))), w ≤ reachBytes := fun w hw => by
      have g1 := DataW.weights_mem_each (P := Try.prog) (ts := [23, tN, 27, 28]) (ds := xs.map (·.1)) (j := 3) (t := 28) (d := xs[3].1) rfl (by rw [List.getElem?_map, List.getElem?_eq_getElem h4]; rfl) w (by rw [e2]; exact hw)
      have g2 : w ∈ DataW.weights Try.prog tCt (.agg (xs.map (·.1))) := by
        unfold DataW.weights
        rw [Try.underlying30]
        exact g1
      have g3 := DataW.weights_mem_each (P := Try.prog) (ts := tCt :: ts) (ds := DataW.agg (xs.map (·.1)) :: ds) (j := 0) rfl rfl w g2
      simpa using List.all_eq_true.1 hz w g3
    have h5 := hin ((((List.range len).map D).length + ((List.range (m - len)).map fun j => D (len + j)).length) * Try.prog.bytesOf tC) (by
      unfold DataW.weights
      rw [Try.underlying28]
      exact List.mem_cons_self)
    rw [show Try.prog.bytesOf tC = 88 by kernel_rfl] at h5
    simp only [List.length_map, List.length_range] at h5
    have h6 := reachBytes_lt
    rw [e1]
    have h7 : len * 88 ≤ (len + (m - len)) * 88 := Nat.mul_le_mul_right _ (by omega)
    omega
end Go.Proofs.Ytiplgpefapeapaa
