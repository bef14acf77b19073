/- Texts that the laws lean on, in the order in which they build. The specification's Of. The specification's out. The specification's Consistent. The specification's WellFormed. The law CertificateTraces, walked, where the insets of the list are not too long for a sum. (Printed by mktcw.py.) -/
import Derived.Test.YtiplgpefapeapaaGreatT9
import Derived.Deep.CutRange
set_option linter.unusedVariables false
set_option linter.unusedSimpArgs false
namespace Go.Proofs.YtiplgpefapeapaaGreat
open Go.RowKit

def OfPost (w : World) (Y : List Ans) (m : Int) (e : Ending) (w' : World) : Prop := ∃ v, e = .returned v ∧ shT.R w' v (ofL Y m) ∧ Keeps [] w w'
theorem ofL_succ (Y : List Ans) (m : Int) (k : Nat) (h : k < Y.length) : ofL (Y.take (k + 1)) m = ofA m (ofL (Y.take k) m) Y[k] := foldl_succ _ _ _ _ h
theorem put_succ (l : List T3) (L0 : List T3) (q : Nat) (h : q < l.length) : (l.take (q + 1)).foldl (fun l x => putN x l) L0 = putN l[q] ((l.take q).foldl (fun l x => putN x l) L0) := foldl_succ _ _ _ _ h
set_option maxRecDepth 100000 in
set_option maxHeartbeats 20000000 in
theorem ofR_c (w : World) (x : CtV) (Y : List Ans) (h : RdA w (slv x.va) Y) (hl : Y.length ≤ 1000) (hin : ∀ a ∈ Y, a.ins.length ≤ 1000) (m : Int) :
    Calls Tryz.prog 96 #[ctV x, .int .i64 m] w fun e w' => OfPost w Y m e w' := by
  obtain ⟨x0, x1, x2, x3, x4, ⟨x5, x6, x7⟩, ⟨x8, x9, x10⟩⟩ := x
  simp only [slv] at h
  obtain ⟨_, _, e1, hla, hca⟩ := h.form
  simp only [Value.slice.injEq] at e1
  obtain ⟨-, e1, -⟩ := e1
  have hx6m : x6 ≤ 1000 := by omega
  have hb0 := ((Keeps.refl [] (w.alloc (.cells #[.int .i64 x0, .int .i64 x1, .int .i64 x2, .int .u64 x3, .int .i64 x4, .slice x5 x6 x7, .slice x8 x9 x10] tCt))).alloc (.cells #[] tI)).block _ (by simp) (by simp) |>.trans (heap_alloc_new w (.cells #[.int .i64 x0, .int .i64 x1, .int .i64 x2, .int .u64 x3, .int .i64 x4, .slice x5 x6 x7, .slice x8 x9 x10] tCt))
  have hkA : Keeps [] w ((w.alloc (.cells #[.int .i64 x0, .int .i64 x1, .int .i64 x2, .int .u64 x3, .int .i64 x4, .slice x5 x6 x7, .slice x8 x9 x10] tCt)).alloc (.cells #[] tI)) := ((Keeps.refl _ _).alloc _).alloc _
  have hfr := (Sh.O.fresh shT (w.alloc (.cells #[.int .i64 x0, .int .i64 x1, .int .i64 x2, .int .u64 x3, .int .i64 x4, .slice x5 x6 x7, .slice x8 x9 x10] tCt)) w.heap.size tI (by simp)).r
  rw [show (w.alloc (.cells #[.int .i64 x0, .int .i64 x1, .int .i64 x2, .int .u64 x3, .int .i64 x4, .slice x5 x6 x7, .slice x8 x9 x10] tCt)).heap.size = w.heap.size + 1 by simp] at hfr
  replace h := Lib.hid h
  replace e1 := Lib.hid e1
  replace hb0 := Lib.hid hb0
  replace hkA := Lib.hid hkA
  replace hfr := Lib.hid hfr
  replace hin := Lib.hid hin
  simp only [ctV, slv]
  go_enter Tryz.func96, Tryz.ntmps96
  go_wp2
  generalize ((w.alloc (.cells #[.int .i64 x0, .int .i64 x1, .int .i64 x2, .int .u64 x3, .int .i64 x4, .slice x5 x6 x7, .slice x8 x9 x10] tCt)).alloc (.cells #[] tI)) = W at *
  obtain ⟨B, hB⟩ : ∃ B, w.heap.size = B := ⟨_, rfl⟩
  rw [hB] at hb0 hfr ⊢
  replace hB := Lib.hid hB
  go_loopw [5, 6] (fun ov i wr => ∃ (k : Nat) (L : List T3), i = .int .i64 k ∧ k ≤ x6 ∧ Hid (shT.R wr ov L) ∧ Hid (L = ofL (Y.take k) m) ∧ Hid (L.length ≤ 1000 * k) ∧ Hid (Keeps [] W wr)) (fun _ i _ => x6 - (intOf i).toNat)
  case atStart => exact ⟨0, [], rfl, by omega, hfr, Lib.hid rfl, Lib.hid (by simp), Lib.hid (Keeps.refl _ _)⟩
  case round =>
    obtain ⟨k, L, rfl, hk, hR, hL, hLl, hkw⟩ := hrel
    have hAr := (hkw.out.block _ (lt_of_blk hb0.out) (by simp)).trans hb0.out
    obtain ⟨i0, i1, i2, i3, i4, i5, i6, if', il⟩ := cl7 hAr
    have hkF := Lib.hid (hkA.out.trans hkw.out)
    obtain ⟨oa, oc, hov, hoc1, hoc2, _⟩ := hR.out.form
    subst hov
    have hoc3 : oc ≤ 9223372036854775807 := by unfold maxLen at hoc2; omega
    by_cases hlt : k < x6
    · have hlt2 : (k : Int) < x6 := by omega
      have hkl : k < Y.length := by rw [← e1.out]; exact hlt
      have hsucc := ofL_succ Y m k hkl
      obtain ⟨g, o, c', y, hv, hy, he⟩ := h.out.elem hkl
      rw [← e1.out] at hv
      cases hv
      obtain ⟨a, ha⟩ : ∃ a, Y[k] = a := ⟨_, rfl⟩
      have hia := hin.out _ (List.getElem_mem hkl)
      rw [ha] at hy hsucc hia
      obtain ⟨_, _, ev, hl1, hl2, _⟩ := hy.ins.form
      have hins := hy.ins
      have hm0 := hy.m
      obtain ⟨y0, y1, y2, y3, y4, y5, y6, y7, y8, y9⟩ := y
      simp only [AnV.v] at ev hins
      simp only at hm0
      simp only [Value.slice.injEq] at ev
      obtain ⟨-, ev, -⟩ := ev
      have hy8 : y8 ≤ 1000 := by omega
      have g0 := hkF.out.val (he 0 _ rfl)
      have g7 := hkF.out.val (he 7 _ rfl)
      simp only [AnV.v, Nat.add_zero] at g0 g7
      obtain ⟨N0, hN0⟩ : ∃ N, L.length = N := ⟨_, rfl⟩
      rw [hN0] at hR hLl ⊢
      replace ev := Lib.hid ev
      replace ha := Lib.hid ha
      replace hm0 := Lib.hid hm0
      replace hins := Lib.hid hins
      replace hN0 := Lib.hid hN0
      replace hsucc := Lib.hid hsucc
      by_cases hm : y0 = m
      case neg =>
        have b1 : (y0 != m) = true := by simpa using hm
        have hLs : Hid (L = ofL (Y.take (k + 1)) m) := Lib.hid (by rw [hsucc.out]; unfold ofA; rw [if_neg (by rw [← hm0.out]; exact hm)]; exact hL.out)
        have hLl2 : Hid (L.length ≤ 1000 * (k + 1)) := Lib.hid (by have := hLl.out; have := hN0.out; omega)
        replace hm := Lib.hid hm
        clear he hy
        go_wp2
        go_roundw
        case rel => exact ⟨k + 1, L, rfl, by omega, hR, hLs, hLl2, hkw⟩
        case measure => simp [intOf]; omega
      case pos =>
      have b1 : (y0 != m) = false := by simpa using hm
      have hLs : ofL (Y.take (k + 1)) m = a.ins.foldl (fun l x => putN x l) L := by rw [hsucc.out]; unfold ofA; rw [if_pos (by rw [← hm0.out]; exact hm), ← hL.out]
      replace hLs := Lib.hid hLs
      replace hm := Lib.hid hm
      have he7 := Lib.hid (he 7 _ rfl)
      clear he hy hl1 hl2 hia
      go_wp2
      generalize wr = W4 at *
      go_loopw [5, 7] (fun ov i wr => ∃ (q : Nat) (L2 : List T3), i = .int .i64 q ∧ q ≤ y8 ∧ Hid (shT.R wr ov L2) ∧ Hid (L2 = (a.ins.take q).foldl (fun l x => putN x l) L) ∧ Hid (L2.length ≤ 1000 * k + q) ∧ Hid (Keeps [] W4 wr)) (fun _ i _ => y8 - (intOf i).toNat)
      case atStart => exact ⟨0, L, rfl, by omega, hR, Lib.hid rfl, Lib.hid (by have := hLl.out; have := hN0.out; omega), Lib.hid (Keeps.refl _ _)⟩
      case round =>
        clear i0 i1 i2 i3 i4 i5 i6 if' il g0 g7
        obtain ⟨q, L2, rfl, hq, hR2, hL2, hL2l, hkq⟩ := hrel
        have hAq := (hkq.out.block _ (lt_of_blk hAr) (by simp)).trans hAr
        obtain ⟨i0, i1, i2, i3, i4, i5, i6, if', il⟩ := cl7 hAq
        have hkG := Lib.hid (hkF.out.trans hkq.out)
        have g7 := hkG.out.val he7.out
        simp only [AnV.v, Nat.add_zero] at g7
        obtain ⟨pa, pc, hpv, hpc1, hpc2, _⟩ := hR2.out.form
        subst hpv
        have hpc3 : pc ≤ 9223372036854775807 := by unfold maxLen at hpc2; omega
        obtain ⟨M, hM⟩ : ∃ N, L2.length = N := ⟨_, rfl⟩
        rw [hM] at hR2 hL2l ⊢
        replace hM := Lib.hid hM
        by_cases hltq : q < y8
        · have hlt2q : (q : Int) < y8 := by omega
          have hql : q < a.ins.length := by rw [← ev.out]; exact hltq
          have hps := put_succ a.ins L q hql
          obtain ⟨gi, oi, ci, hvi, hei⟩ := hins.out.elem hql
          rw [← ev.out] at hvi
          cases hvi
          obtain ⟨⟨n0, n1, n2⟩, hz⟩ : ∃ z, a.ins[q] = z := ⟨_, rfl⟩
          rw [hz] at hei hps
          rw [← hL2.out] at hps
          have t0 := hkG.out.val (hei 0 _ rfl)
          have t1 := hkG.out.val (hei 1 _ rfl)
          have t2 := hkG.out.val (hei 2 _ rfl)
          simp only [shT, Nat.add_zero] at t0 t1 t2
          have hbI := heap_alloc_new wr (.cells #[.int .i64 n0, .int .u64 n1, .int .i64 n2] tI)
          have hkI := (Keeps.refl [] wr).alloc (.cells #[.int .i64 n0, .int .u64 n1, .int .i64 n2] tI)
          have hRI := Lib.hid (hR2.out.keeps hkI)
          have hkqI := Lib.hid (hkq.out.trans hkI)
          replace hbI := Lib.hid hbI
          replace hps := Lib.hid hps
          replace hz := Lib.hid hz
          clear hei hkI
          go_upto_region 10 with fail
          generalize (wr.alloc (.cells #[.int .i64 n0, .int .u64 n1, .int .i64 n2] tI)) = WI at *
          obtain ⟨XI, hXI⟩ : ∃ X, wr.heap.size = X := ⟨_, rfl⟩
          rw [hXI] at hbI ⊢
          replace hXI := Lib.hid hXI
          clear t0 t1 t2 i0 i1 i2 i3 i4 i5 i6 if' il g7
          (go_upto_region 10 with fail; iterate 8 go_step)
          go_cut [9] from 47 to 119 (fun i wx => ∃ kk : Nat, i = .int .i64 kk ∧ kk ≤ M ∧ Hid (∀ j (hj : j < L2.length), j < kk → tlt L2[j] (n0, n1, n2)) ∧ Hid (∀ hj : kk < L2.length, ¬ tlt L2[kk] (n0, n1, n2)) ∧ Hid (Keeps [] WI wx))
          case first =>
            go_wp2
            go_loopw [9] (fun i wr => ∃ kk : Nat, i = .int .i64 kk ∧ kk ≤ M ∧ Hid (∀ j (hj : j < L2.length), j < kk → tlt L2[j] (n0, n1, n2)) ∧ Hid (Keeps [] WI wr)) (fun i _ => M - (intOf i).toNat)
            case atStart => exact ⟨0, rfl, by omega, Lib.hid (fun _ _ h => by omega), Lib.hid (Keeps.refl _ _)⟩
            case round =>
              obtain ⟨kk, rfl, hkk, hno, hkr⟩ := hrel
              obtain ⟨z0, z1, z2⟩ := cells3t ((hkr.out.block XI (lt_of_blk hbI.out) (by simp)).trans hbI.out)
              by_cases hltk : kk < M
              · have hkl2 : kk < L2.length := by rw [hM.out]; exact hltk
                obtain ⟨gp, op, cp, hvp, hep⟩ := (hRI.out.keeps hkr.out).elem hkl2
                rw [hM.out] at hvp
                cases hvp
                obtain ⟨⟨p0, p1, p2⟩, hp⟩ : ∃ x, L2[kk] = x := ⟨_, rfl⟩
                rw [hp] at hep
                have f0 := hep 0 _ rfl
                have f1 := hep 1 _ rfl
                simp only [shT, Nat.add_zero] at f0 f1
                have hyes : tlt (p0, p1, p2) (n0, n1, n2) → ∀ j (hj : j < L2.length), j < kk + 1 → tlt L2[j] (n0, n1, n2) := fun hn j hj hjk => by
                  by_cases e : j = kk
                  · subst e; rw [hp]; exact hn
                  · exact hno.out j hj (by omega)
                have hnot : ¬ tlt (p0, p1, p2) (n0, n1, n2) → ∀ hj : kk < L2.length, ¬ tlt L2[kk] (n0, n1, n2) := fun hn hj => by rw [hp]; exact hn
                replace hyes := Lib.hid hyes
                replace hnot := Lib.hid hnot
                replace hp := Lib.hid hp
                clear hep
                by_cases a0 : p0 < n0
                · have b0 : decide (p0 < n0) = true := by simpa using a0
                  have hy := Lib.hid (hyes.out (.inl a0))
                  replace a0 := Lib.hid a0
                  go_wp2
                  (refine wp_region_quiet_lit (by kernel_rfl) (by kernel_rfl) ?_; (repeat (first | go_big_quiet_step (fail) | quiet_step (fail))); with_reducible refine wpQuiet_nil ?_; intro _ hw'; obtain ⟨nq, hw''⟩ := hw'; subst hw'')
                  go_wp2
                  go_roundw
                  case rel => exact ⟨kk + 1, rfl, by omega, hy, Lib.hid (hkr.out.drewN _)⟩
                  case measure => simp [intOf]; omega
                · have b0 : decide (p0 < n0) = false := by simpa using a0
                  by_cases a1 : p0 = n0
                  · have b1 : (p0 == n0) = true := by simpa using a1
                    by_cases a2 : p1 < n1
                    · have b2 : decide ((p1 : Int) < (n1 : Int)) = true := by simp; omega
                      have hy := Lib.hid (hyes.out (.inr ⟨a1, a2⟩))
                      replace a0 := Lib.hid a0
                      replace a1 := Lib.hid a1
                      replace a2 := Lib.hid a2
                      go_wp2
                      (refine wp_region_quiet_lit (by kernel_rfl) (by kernel_rfl) ?_; (repeat (first | go_big_quiet_step (fail) | quiet_step (fail))); with_reducible refine wpQuiet_nil ?_; intro _ hw'; obtain ⟨nq, hw''⟩ := hw'; subst hw'')
                      go_wp2
                      go_roundw
                      case rel => exact ⟨kk + 1, rfl, by omega, hy, Lib.hid (hkr.out.drewN _)⟩
                      case measure => simp [intOf]; omega
                    · have b2 : decide ((p1 : Int) < (n1 : Int)) = false := by simp; omega
                      have hy := Lib.hid (hnot.out (by unfold tlt; simp only; omega))
                      replace a0 := Lib.hid a0
                      replace a1 := Lib.hid a1
                      replace a2 := Lib.hid a2
                      go_wp2
                      (refine wp_region_quiet_lit (by kernel_rfl) (by kernel_rfl) ?_; (repeat (first | go_big_quiet_step (fail) | quiet_step (fail))); with_reducible refine wpQuiet_nil ?_; intro _ hw'; obtain ⟨nq, hw''⟩ := hw'; subst hw'')
                      go_wp2
                      go_meet
                      case rel => exact ⟨kk, rfl, by omega, hno, hy, Lib.hid (hkr.out.drewN _)⟩
                  · have b1 : (p0 == n0) = false := by simpa using a1
                    have hy := Lib.hid (hnot.out (by unfold tlt; simp only; omega))
                    replace a0 := Lib.hid a0
                    replace a1 := Lib.hid a1
                    go_wp2
                    (refine wp_region_quiet_lit (by kernel_rfl) (by kernel_rfl) ?_; (repeat (first | go_big_quiet_step (fail) | quiet_step (fail))); with_reducible refine wpQuiet_nil ?_; intro _ hw'; obtain ⟨nq, hw''⟩ := hw'; subst hw'')
                    go_wp2
                    go_meet
                    case rel => exact ⟨kk, rfl, by omega, hno, hy, Lib.hid (hkr.out.drewN _)⟩
              · have hy : Hid (∀ hj : kk < L2.length, ¬ tlt L2[kk] (n0, n1, n2)) := Lib.hid (fun hj => absurd hj (by rw [hM.out]; exact hltk))
                have hlt2 : decide ((kk : Int) < (M : Int)) = false := by simp; omega
                go_wp2
                (refine wp_region_quiet_lit (by kernel_rfl) (by kernel_rfl) ?_; (repeat (first | go_big_quiet_step (fail) | quiet_step (fail))); with_reducible refine wpQuiet_nil ?_; intro _ hw'; obtain ⟨nq, hw''⟩ := hw'; subst hw'')
                go_wp2
                go_meet
                case rel => exact ⟨kk, rfl, by omega, hno, hy, Lib.hid (hkr.out.drewN _)⟩
          case rest =>
            obtain ⟨kk, rfl, hkk, hno, hst, hkr⟩ := hcut
            have hat := putN_at (n0, n1, n2) L2 kk (by rw [hM.out]; exact hkk) hno.out hst.out
            obtain ⟨z0, z1, z2⟩ := cells3t ((hkr.out.block XI (lt_of_blk hbI.out) (by simp)).trans hbI.out)
            have hRc := Lib.hid (hRI.out.keeps hkr.out)
            have hkc := Lib.hid (hkqI.out.trans hkr.out)
            replace hat := Lib.hid hat
            go_upto_region 13 with fail
            go_cut [106] from 47 to 119 (fun b wx => b = .bool (decide (¬ ∃ hi : kk < L2.length, L2[kk].1 = n0 ∧ L2[kk].2.1 = n1)) ∧ Hid (Keeps [] wc wx))
            case first =>
              by_cases hltk : kk < M
              · have hkl2 : kk < L2.length := by rw [hM.out]; exact hltk
                have bk : ((kk : Int) == (M : Int)) = false := by simp; omega
                obtain ⟨gp, op, cp, hvp, hep⟩ := hRc.out.elem hkl2
                rw [hM.out] at hvp
                cases hvp
                obtain ⟨⟨p0, p1, p2⟩, hp⟩ : ∃ x, L2[kk] = x := ⟨_, rfl⟩
                rw [hp] at hep
                have f0 := hep 0 _ rfl
                have f1 := hep 1 _ rfl
                simp only [shT, Nat.add_zero] at f0 f1
                have hdec : ∀ q : Bool, (q = true ↔ ¬ (p0 = n0 ∧ p1 = n1)) → decide (¬ ∃ hi : kk < L2.length, L2[kk].1 = n0 ∧ L2[kk].2.1 = n1) = q := fun q hq => by
                  rw [Bool.eq_iff_iff, decide_eq_true_iff, hq]
                  exact not_congr ⟨fun ⟨_, h1, h2⟩ => by rw [hp] at h1 h2; exact ⟨h1, h2⟩, fun ⟨h1, h2⟩ => ⟨hkl2, by rw [hp]; exact h1, by rw [hp]; exact h2⟩⟩
                replace hdec := Lib.hid hdec
                replace hp := Lib.hid hp
                clear hep
                by_cases a1 : p0 = n0
                · have b1 : (p0 != n0) = false := by simpa using a1
                  by_cases a2 : p1 = n1
                  · have b2 : ((p1 : Int) != (n1 : Int)) = false := by simp [a2]
                    have hd := Lib.hid (hdec.out false (by simp [a1, a2]))
                    replace a1 := Lib.hid a1
                    replace a2 := Lib.hid a2
                    go_wp2
                    (refine wp_region_quiet_lit (by kernel_rfl) (by kernel_rfl) ?_; (repeat (first | go_big_quiet_step (fail) | quiet_step (fail))); with_reducible refine wpQuiet_nil ?_; intro _ hw'; obtain ⟨nq, hw''⟩ := hw'; subst hw'')
                    go_wp2
                    go_meet
                    case rel => exact ⟨by rw [hd.out], Lib.hid ((Keeps.refl _ _).drewN _)⟩
                  · have b2 : ((p1 : Int) != (n1 : Int)) = true := by simp; omega
                    have hd := Lib.hid (hdec.out true (by simp [a1, a2]))
                    replace a1 := Lib.hid a1
                    replace a2 := Lib.hid a2
                    go_wp2
                    (refine wp_region_quiet_lit (by kernel_rfl) (by kernel_rfl) ?_; (repeat (first | go_big_quiet_step (fail) | quiet_step (fail))); with_reducible refine wpQuiet_nil ?_; intro _ hw'; obtain ⟨nq, hw''⟩ := hw'; subst hw'')
                    go_wp2
                    go_meet
                    case rel => exact ⟨by rw [hd.out], Lib.hid ((Keeps.refl _ _).drewN _)⟩
                · have b1 : (p0 != n0) = true := by simpa using a1
                  have hd := Lib.hid (hdec.out true (by simp [a1]))
                  replace a1 := Lib.hid a1
                  go_wp2
                  (refine wp_region_quiet_lit (by kernel_rfl) (by kernel_rfl) ?_; (repeat (first | go_big_quiet_step (fail) | quiet_step (fail))); with_reducible refine wpQuiet_nil ?_; intro _ hw'; obtain ⟨nq, hw''⟩ := hw'; subst hw'')
                  go_wp2
                  go_meet
                  case rel => exact ⟨by rw [hd.out], Lib.hid ((Keeps.refl _ _).drewN _)⟩
              · have hd : decide (¬ ∃ hi : kk < L2.length, L2[kk].1 = n0 ∧ L2[kk].2.1 = n1) = true := decide_eq_true (fun ⟨h1, _⟩ => by rw [hM.out] at h1; exact hltk h1)
                have bk : ((kk : Int) == (M : Int)) = true := by simp; omega
                replace hd := Lib.hid hd
                go_wp2
                (refine wp_region_quiet_lit (by kernel_rfl) (by kernel_rfl) ?_; (repeat (first | go_big_quiet_step (fail) | quiet_step (fail))); with_reducible refine wpQuiet_nil ?_; intro _ hw'; obtain ⟨nq, hw''⟩ := hw'; subst hw'')
                go_wp2
                go_meet
                case rel => exact ⟨by rw [hd.out], Lib.hid ((Keeps.refl _ _).drewN _)⟩
            case rest =>
              obtain ⟨rfl, hk4⟩ := hcut
              by_cases hfd : ∃ hi : kk < L2.length, L2[kk].1 = n0 ∧ L2[kk].2.1 = n1
              · have hres : Hid (L2 = (a.ins.take (q + 1)).foldl (fun l x => putN x l) L) := Lib.hid (by rw [hps.out, hat.out, if_pos hfd])
                rw [decide_eq_false (fun h => h hfd)]
                have hR4 := Lib.hid (hRc.out.keeps hk4.out)
                have hk5 := Lib.hid (hkc.out.trans hk4.out)
                have hl5 : Hid (L2.length ≤ 1000 * k + (q + 1)) := Lib.hid (by have := hL2l.out; have := hM.out; omega)
                replace hfd := Lib.hid hfd
                rw [← hM.out] at hR4 ⊢
                go_wp2
                go_roundw
                case rel => exact ⟨q + 1, L2, rfl, by omega, hR4, hres, hl5, hk5⟩
                case measure => simp [intOf]; omega
              · have hres : Hid (L2.take kk ++ (n0, n1, n2) :: L2.drop kk = (a.ins.take (q + 1)).foldl (fun l x => putN x l) L) := Lib.hid (by rw [hps.out, hat.out, if_neg hfd])
                rw [decide_eq_true hfd]
                have hR4 := hRc.out.keeps hk4.out
                have hk5 := Lib.hid (hkc.out.trans hk4.out)
                have hbI4 := (hk4.out.block XI (lt_of_blk ((hkr.out.block XI (lt_of_blk hbI.out) (by simp)).trans hbI.out)) (by simp)).trans ((hkr.out.block XI (lt_of_blk hbI.out) (by simp)).trans hbI.out)
                have hXl := lt_of_blk hbI4
                have hT1 := hR4.init' kk (by rw [hM.out]; exact hkk)
                have hT2 := hR4.tail' kk (by rw [hM.out]; exact hkk)
                rw [hM.out] at hT2
                replace hT2 : shT.R wc (.slice (if pc = kk then pa else pa.map (·.add (kk * 3))) (M - kk) (pc - kk)) (L2.drop kk) := hT2
                have hlt1 : (L2.take kk).length = kk := by rw [List.length_take, hM.out]; omega
                have hlt2 : (L2.drop kk).length = M - kk := by rw [List.length_drop, hM.out]
                have hMb : M ≤ 10000000 := by have := hL2l.out; omega
                have f1 : (0 : Int) ≤ (kk : Int) := by omega
                have f2 : (kk : Int) ≤ (pc : Int) := by have := hM.out; omega
                have f3 : (kk : Int) ≤ (M : Int) := by omega
                have hfrE := Sh.O.fresh shT wc wc.heap.size tI (Nat.le_refl _)
                have hkE := (Keeps.refl [] wc).alloc (.cells #[] tI)
                have hsE : wc.heap.size ≤ (wc.alloc (.cells #[] tI)).heap.size := by simp
                replace hT1 := Lib.hid hT1
                replace hT2 := Lib.hid hT2
                replace hlt1 := Lib.hid hlt1
                replace hlt2 := Lib.hid hlt2
                replace hfrE := Lib.hid hfrE
                replace hkE := Lib.hid hkE
                replace hfd := Lib.hid hfd
                replace hbI4 := Lib.hid hbI4
                clear hR4 hk4 z0 z1 z2
                go_upto_region 15 with (first
                  | (at_builtin; (refine Sh.wpl_app shT wc.heap.size infoI rfl Tryz.underlying44 (.slice (some ⟨wc.heap.size, 0, none⟩) 0 0) (.slice pa kk pc) [] (L2.take kk) rfl _ _ rfl rfl rfl hfrE.out (hT1.out.keeps hkE.out) (by simp only [List.length_nil, hlt1.out]; omega) hsE ?_; intro v1 w1 hO1 hG1; rw [List.nil_append] at hO1; have hk1 := Lib.hid (hG1.keeps (a := wc) hkE.out (fun b hb => by simp [Value.ownBlock] at hb; omega)); obtain ⟨la, lc, rfl⟩ := hO1.form; rw [hlt1.out] at hO1 ⊢; replace hO1 := Lib.hid hO1; clear hG1))
                  | fail)
                obtain ⟨z0, z1, z2⟩ := cells3t ((hk1.out.block XI hXl (by simp)).trans hbI4.out)
                refine Free.wp_region_chain (fun i => i == 2 || i == 3 || i == 7) (fun i => true) (fun _ b => wc.heap.size ≤ b) (by kernel_rfl) (by kernel_rfl) (by kernel_rfl) ?_
                (repeat (first | (apply Free.cw_pure rfl rfl; (intro w'; go_simp <;> exact rfl); go_frame) | (apply Free.cw_steady rfl rfl rfl; (intro w' hS; have q0 := Free.sx_cell hS z0 (fun _ _ hT => absurd hT (by omega)); have q1 := Free.sx_cell hS z1 (fun _ _ hT => absurd hT (by omega)); have q2 := Free.sx_cell hS z2 (fun _ _ hT => absurd hT (by omega)); go_simp <;> exact rfl); go_frame) | (refine Free.cw_skip rfl ?_; go_frame)))
                refine Free.cw_loud rfl rfl (fun K hK => ?_)
                go_wp2
                refine hK _ _ rfl (Free.KeepsP.alloc _ _ _) ?_
                clear hK K
                have hmade := ((Sh.O.one shT w1 (n0, n1, n2) #[.int .i64 n0, .int .u64 n1, .int .i64 n2] tI 0 rfl (Nat.zero_le _)).r).keeps (Keeps.refl [] _).drew
                have hA9 : Keeps [] w1 (w1.alloc (.cells #[.int .i64 n0, .int .u64 n1, .int .i64 n2] tI)).drew := ((Keeps.refl _ _).alloc _).drew
                obtain ⟨bm, ebm⟩ : ∃ x, w1.heap.size = x := ⟨_, rfl⟩
                rw [ebm] at hmade ⊢
                generalize (w1.alloc (.cells #[.int .i64 n0, .int .u64 n1, .int .i64 n2] tI)).drew = w2 at *
                have hO2 := hO1.out.keeps hA9
                have hk2 := hk1.out.trans hA9
                replace hmade := Lib.hid hmade
                replace hO2 := Lib.hid hO2
                replace hk2 := Lib.hid hk2
                replace ebm := Lib.hid ebm
                clear hA9 hk1 hO1
                (repeat (first | (apply Free.cw_pure rfl rfl; (intro w'; go_simp <;> exact rfl); go_frame) | (apply Free.cw_steady rfl rfl rfl; (intro w' hS; have q0 := Free.sx_cell hS z0 (fun _ _ hT => absurd hT (by omega)); have q1 := Free.sx_cell hS z1 (fun _ _ hT => absurd hT (by omega)); have q2 := Free.sx_cell hS z2 (fun _ _ hT => absurd hT (by omega)); go_simp <;> exact rfl); go_frame) | (refine Free.cw_skip rfl ?_; go_frame)))
                refine Free.cw_loud rfl rfl (fun K hK => ?_)
                refine Sh.owp_app shT wc.heap.size infoI rfl Tryz.underlying44 (.slice la kk lc) (.slice (some ⟨bm, 0, none⟩) 1 1) (L2.take kk) [(n0, n1, n2)] (.tmp 112) (.tmp 114) rfl rfl rfl hO2.out hmade.out (by rw [hlt1.out]; simp; omega) hk2.out.size ?_
                intro v5 w5 hO5 hG5
                refine hK _ _ rfl (Free.KeepsP.of hG5.keepsO (fun b hb => hO2.out.ge b (by simpa using hb))) ?_
                clear hK K
                have hk5w := Lib.hid (hk2.out.fresh hG5.keepsO (fun b hb => .inr (hO2.out.ge b (by simpa using hb))))
                have hlen5 : (L2.take kk ++ [(n0, n1, n2)]).length = kk + 1 := by rw [List.length_append, hlt1.out]; rfl
                replace hO5 := Lib.hid hO5
                obtain ⟨a5, c5, rfl⟩ := hO5.out.form
                rw [hlen5] at hO5 ⊢
                replace hlen5 := Lib.hid hlen5
                clear hG5 hmade hO2 hk2
                (repeat (first | (apply Free.cw_pure rfl rfl; (intro w'; go_simp <;> exact rfl); go_frame) | (apply Free.cw_steady rfl rfl rfl; (intro w' hS; have q0 := Free.sx_cell hS z0 (fun _ _ hT => absurd hT (by omega)); have q1 := Free.sx_cell hS z1 (fun _ _ hT => absurd hT (by omega)); have q2 := Free.sx_cell hS z2 (fun _ _ hT => absurd hT (by omega)); go_simp <;> exact rfl); go_frame) | (refine Free.cw_skip rfl ?_; go_frame)))
                refine Free.cw_loud rfl rfl (fun K hK => ?_)
                refine Sh.owp_app shT wc.heap.size infoI rfl Tryz.underlying44 (.slice a5 (kk + 1) c5) (.slice (if pc = kk then pa else pa.map (·.add (kk * 3))) (M - kk) (pc - kk)) (L2.take kk ++ [(n0, n1, n2)]) (L2.drop kk) (.tmp 115) (.tmp 118) rfl rfl rfl hO5.out (hT2.out.keeps hk5w.out) (by rw [hlen5.out, hlt2.out]; omega) hk5w.out.size ?_
                intro v6 w6 hO6 hG6
                refine hK _ _ rfl (Free.KeepsP.of hG6.keepsO (fun b hb => hO5.out.ge b (by simpa using hb))) ?_
                clear hK K
                have hk6w := Lib.hid (hk5w.out.fresh hG6.keepsO (fun b hb => .inr (hO5.out.ge b (by simpa using hb))))
                rw [List.append_assoc, List.singleton_append, hres.out] at hO6
                have hR6 := Lib.hid hO6.r
                have hl6 : Hid (((a.ins.take (q + 1)).foldl (fun l x => putN x l) L).length ≤ 1000 * k + (q + 1)) := Lib.hid (by rw [← hres.out]; simp only [List.length_append, List.length_cons, hlt1.out, hlt2.out]; have := hL2l.out; omega)
                have hk7 := Lib.hid (hk5.out.trans hk6w.out)
                clear hG6 hO6
                (repeat (first | (apply Free.cw_pure rfl rfl; (intro w'; go_simp <;> exact rfl); go_frame) | (apply Free.cw_steady rfl rfl rfl; (intro w' hS; have q0 := Free.sx_cell hS z0 (fun _ _ hT => absurd hT (by omega)); have q1 := Free.sx_cell hS z1 (fun _ _ hT => absurd hT (by omega)); have q2 := Free.sx_cell hS z2 (fun _ _ hT => absurd hT (by omega)); go_simp <;> exact rfl); go_frame) | (refine Free.cw_skip rfl ?_; go_frame)))
                refine Free.cw_nil ?_
                go_wp2
                go_roundw
                case rel => exact ⟨q + 1, _, rfl, by omega, hR6, Lib.hid rfl, hl6, hk7⟩
                case measure => simp [intOf]; omega

        · have hlt2q : ¬ ((q : Int) < y8) := by omega
          have hqy : q = a.ins.length := by have := ev.out; omega
          have hLe : Hid (L2 = ofL (Y.take (k + 1)) m) := Lib.hid (by rw [hLs.out, hL2.out, hqy, List.take_length])
          have hLl2 : Hid (L2.length ≤ 1000 * (k + 1)) := Lib.hid (by have := hL2l.out; have := hM.out; omega)
          have hkz := Lib.hid (hkw.out.trans hkq.out)
          replace hqy := Lib.hid hqy
          go_wp2
          go_roundw
          case rel => exact ⟨k + 1, L2, rfl, by omega, hR2, hLe, hLl2, hkz⟩
          case measure => simp [intOf]; omega
    · have hlt2 : ¬ ((k : Int) < x6) := by omega
      have hkY : k = Y.length := by have := e1.out; omega
      have hLe : Hid (L = ofL Y m) := Lib.hid (by rw [hL.out, hkY, List.take_length])
      replace hkY := Lib.hid hkY
      go_wp2
      go_ret
      exact ⟨_, rfl, by rw [← hLe.out]; exact hR.out, hkF.out⟩
end Go.Proofs.YtiplgpefapeapaaGreat

namespace Go.Proofs.YtiplgpefapeapaaGreat
open Go.RowKit

theorem outR_at {Y : List Ans} {m cl : Int} {n k : Nat} (hk : k < (ofL Y m).length) (hno : ∀ j (hj : j < (ofL Y m).length), j < k → ¬ ((ofL Y m)[j].1 = cl ∧ (ofL Y m)[j].2.1 = n)) (hq : (ofL Y m)[k].1 = cl ∧ (ofL Y m)[k].2.1 = n) : outR Y (m, cl, n) = some (ofL Y m)[k].2.2 := by
  unfold outR
  have : (ofL Y m).find? (fun x => decide (x.1 = cl ∧ x.2.1 = n)) = some (ofL Y m)[k] := List.find?_eq_some_iff_getElem.2 ⟨by simpa using hq, k, hk, rfl, fun j hj => by rw [Bool.not_eq_true', decide_eq_false_iff_not]; exact hno j (by omega) hj⟩
  simp only [this, Option.map_some]
theorem outR_no {Y : List Ans} {m cl : Int} {n : Nat} (hno : ∀ j (hj : j < (ofL Y m).length), ¬ ((ofL Y m)[j].1 = cl ∧ (ofL Y m)[j].2.1 = n)) : outR Y (m, cl, n) = none := by
  unfold outR
  have : (ofL Y m).find? (fun x => decide (x.1 = cl ∧ x.2.1 = n)) = none := List.find?_eq_none.2 (fun c hc => by
    obtain ⟨j, hj, rfl⟩ := List.mem_iff_getElem.1 hc
    rw [decide_eq_true_iff]
    exact hno j hj)
  simp only [this, Option.map_none]
set_option maxRecDepth 100000 in
set_option maxHeartbeats 8000000 in
theorem outS_c (w : World) (x : CtV) (Y : List Ans) (h : RdA w (slv x.va) Y) (hl : Y.length ≤ 1000) (hin : ∀ a ∈ Y, a.ins.length ≤ 1000) (m cl : Int) (n : Nat) :
    Calls Tryz.prog 69 #[ctV x, .int .i64 m, .int .i64 cl, .int .u64 n] w fun e w' => OutPost w (outR Y (m, cl, n)) e w' := by
  have hof := fun (W : World) (hk : Keeps [] w W) => ofR_c W x Y (h.keeps hk) hl hin m
  obtain ⟨x0, x1, x2, x3, x4, ⟨x5, x6, x7⟩, ⟨x8, x9, x10⟩⟩ := x
  simp only [ctV, slv] at hof
  have hkA := (Keeps.refl [] w).alloc (.cells #[.int .i64 x0, .int .i64 x1, .int .i64 x2, .int .u64 x3, .int .i64 x4, .slice x5 x6 x7, .slice x8 x9 x10] tCt)
  have hA := heap_alloc_new w (.cells #[.int .i64 x0, .int .i64 x1, .int .i64 x2, .int .u64 x3, .int .i64 x4, .slice x5 x6 x7, .slice x8 x9 x10] tCt)
  obtain ⟨r, hr⟩ : ∃ r, outR Y (m, cl, n) = r := ⟨_, rfl⟩
  rw [hr]
  replace hof := Lib.hid hof
  replace hkA := Lib.hid hkA
  replace hA := Lib.hid hA
  replace hr := Lib.hid hr
  clear h hin hl
  simp only [ctV, slv]
  go_enter Tryz.func69, Tryz.ntmps69
  go_upto_region 1 with fail
  generalize (w.alloc (.cells #[.int .i64 x0, .int .i64 x1, .int .i64 x2, .int .u64 x3, .int .i64 x4, .slice x5 x6 x7, .slice x8 x9 x10] tCt)) = W at *
  obtain ⟨B, hB⟩ : ∃ B, w.heap.size = B := ⟨_, rfl⟩
  rw [hB] at hA ⊢
  obtain ⟨i0, i1, i2, i3, i4, i5, i6, if', il⟩ := cl7 hA.out
  go_wp2_with fail
  refine (hof.out _ hkA.out).mono ?_
  rintro e w1 ⟨v, rfl, hR, hk1⟩
  have hk01 := Lib.hid (hkA.out.trans hk1)
  clear i0 i1 i2 i3 i4 i5 i6 if' il hk1 hof
  obtain ⟨a, c, hv, hc1, hc2, _⟩ := hR.form
  subst hv
  have hc3 : c ≤ 9223372036854775807 := by unfold maxLen at hc2; omega
  obtain ⟨L, hL⟩ : ∃ L, ofL Y m = L := ⟨_, rfl⟩
  have hat := fun k => outR_at (Y := Y) (m := m) (cl := cl) (n := n) (k := k)
  have hno' := outR_no (Y := Y) (m := m) (cl := cl) (n := n)
  rw [hL] at hat hno' hR hc1 ⊢
  rw [hr.out] at hat hno'
  obtain ⟨N, hN⟩ : ∃ N, L.length = N := ⟨_, rfl⟩
  rw [hN] at hR hc1 ⊢
  replace hR := Lib.hid hR
  replace hN := Lib.hid hN
  replace hat := Lib.hid hat
  replace hno' := Lib.hid hno'
  replace hL := Lib.hid hL
  go_wp2
  go_loopw [11] (fun i wr => ∃ k : Nat, i = .int .i64 k ∧ k ≤ N ∧ Hid (∀ j (hj : j < L.length), j < k → ¬ (L[j].1 = cl ∧ L[j].2.1 = n)) ∧ Hid (Keeps [] w1 wr)) (fun i _ => N - (intOf i).toNat)
  case atStart => exact ⟨0, rfl, by omega, Lib.hid (fun _ _ h => by omega), Lib.hid (Keeps.refl _ _)⟩
  case round =>
    obtain ⟨k, rfl, hk, hno, hkw⟩ := hrel
    have hkF := Lib.hid (hk01.out.trans hkw.out)
    by_cases hlt : k < N
    · have hlt2 : (k : Int) < N := by omega
      have hkl : k < L.length := by rw [hN.out]; exact hlt
      obtain ⟨g, o, c', hv, he⟩ := (hR.out.keeps hkw.out).elem hkl
      rw [hN.out] at hv
      cases hv
      obtain ⟨⟨z0, z1, z2⟩, hz⟩ : ∃ z, L[k] = z := ⟨_, rfl⟩
      rw [hz] at he
      have t0 := he 0 _ rfl
      have t1 := he 1 _ rfl
      have t2 := he 2 _ rfl
      simp only [shT, Nat.add_zero] at t0 t1 t2
      have hno2 : ¬ (z0 = cl ∧ z1 = n) → ∀ j (hj : j < L.length), j < k + 1 → ¬ (L[j].1 = cl ∧ L[j].2.1 = n) := fun hn j hj hjk => by
        by_cases e : j = k
        · subst e; rw [hz]; exact hn
        · exact hno.out j hj (by omega)
      replace hno2 := Lib.hid hno2
      replace hz := Lib.hid hz
      clear he
      by_cases a0 : z0 = cl
      · have b0 : (z0 == cl) = true := by simpa using a0
        by_cases a1 : z1 = n
        · have b1 : ((z1 : Int) == (n : Int)) = true := by simp [a1]
          have hd : r = some z2 := by
            have := hat.out k hkl hno.out (by rw [hz.out]; exact ⟨a0, a1⟩)
            rw [this, hz.out]
          replace a0 := Lib.hid a0
          replace a1 := Lib.hid a1
          replace hd := Lib.hid hd
          go_wp2
          go_ret2
          exact ⟨by rw [hd.out]; rfl, hkF.out⟩
        · have b1 : ((z1 : Int) == (n : Int)) = false := by simp; omega
          have h2 := Lib.hid (hno2.out (fun h => a1 h.2))
          replace a0 := Lib.hid a0
          replace a1 := Lib.hid a1
          go_wp2
          go_roundw
          case rel => exact ⟨k + 1, rfl, by omega, h2, hkw⟩
          case measure => simp [intOf]; omega
      · have b0 : (z0 == cl) = false := by simpa using a0
        have h2 := Lib.hid (hno2.out (fun h => a0 h.1))
        replace a0 := Lib.hid a0
        go_wp2
        go_roundw
        case rel => exact ⟨k + 1, rfl, by omega, h2, hkw⟩
        case measure => simp [intOf]; omega
    · have hlt2 : ¬ ((k : Int) < N) := by omega
      have hd : r = none := hno'.out (fun j hj => hno.out j hj (by have := hN.out; omega))
      replace hd := Lib.hid hd
      go_wp2
      go_ret2
      exact ⟨by rw [hd.out]; rfl, hkF.out⟩
end Go.Proofs.YtiplgpefapeapaaGreat

namespace Go.Proofs.YtiplgpefapeapaaGreat
open Go.RowKit

theorem cons_badE {Y : List Ans} {k i : Nat} (hk : k < Y.length) (hi : i < Y.length) (hm : Y[k].m = Y[i].m) (he : Y[k].ep ≠ Y[i].ep) : consB Y = false := by
  refine Bool.eq_false_iff.2 (fun h => he ?_)
  unfold consB at h
  rw [Bool.and_eq_true] at h
  exact epB_iff.1 h.1 _ (List.getElem_mem hk) _ (List.getElem_mem hi) hm
theorem cons_badS {Y : List Ans} {i q : Nat} (hi : i < Y.length) (hq : q < Y[i].ins.length) (he : (outR Y (Y[i].m, Y[i].ins[q].1, Y[i].ins[q].2.1)).getD 0 ≠ Y[i].ins[q].2.2) : consB Y = false := by
  refine Bool.eq_false_iff.2 (fun h => he ?_)
  unfold consB stB at h
  simp only [Bool.and_eq_true, List.all_eq_true, decide_eq_true_eq] at h
  exact h.2 _ (List.getElem_mem hi) _ (List.getElem_mem hq)
theorem cons_good {Y : List Ans} (h : ∀ i (hi : i < Y.length), (∀ k (hk : k < Y.length), k < i → Y[k].m = Y[i].m → Y[k].ep = Y[i].ep) ∧ ∀ q (hq : q < Y[i].ins.length), (outR Y (Y[i].m, Y[i].ins[q].1, Y[i].ins[q].2.1)).getD 0 = Y[i].ins[q].2.2) : consB Y = true := by
  unfold consB
  rw [Bool.and_eq_true]
  constructor
  · refine epB_iff.2 (fun a ha b hb hm => ?_)
    obtain ⟨i, hi, rfl⟩ := List.getElem_of_mem ha
    obtain ⟨j, hj, rfl⟩ := List.getElem_of_mem hb
    rcases Nat.lt_trichotomy i j with e | e | e
    · exact (h j hj).1 i hi e hm
    · subst e; rfl
    · exact ((h i hi).1 j hj e hm.symm).symm
  · unfold stB
    simp only [List.all_eq_true, decide_eq_true_eq]
    intro a ha x hx
    obtain ⟨i, hi, rfl⟩ := List.getElem_of_mem ha
    obtain ⟨q, hq, rfl⟩ := List.getElem_of_mem hx
    exact (h i hi).2 q hq
set_option maxRecDepth 100000 in
set_option maxHeartbeats 16000000 in
theorem consR_c (w : World) (x : CtV) (Y : List Ans) (h : RdA w (slv x.va) Y) (hl : Y.length ≤ 1000) (hin : ∀ a ∈ Y, a.ins.length ≤ 1000) :
    Calls Tryz.prog 20 #[ctV x] w fun e w' => e = .returned (.bool (consB Y)) ∧ Keeps [] w w' := by
  have hof := fun (W : World) (hk : Keeps [] w W) => outS_c W x Y (h.keeps hk) hl hin
  obtain ⟨x0, x1, x2, x3, x4, ⟨x5, x6, x7⟩, ⟨x8, x9, x10⟩⟩ := x
  simp only [ctV, slv] at hof
  simp only [slv] at h
  obtain ⟨_, _, e1, hla, hca⟩ := h.form
  simp only [Value.slice.injEq] at e1
  obtain ⟨-, e1, -⟩ := e1
  have hx6m : x6 ≤ 1000 := by omega
  have hkA := (Keeps.refl [] w).alloc (.cells #[.int .i64 x0, .int .i64 x1, .int .i64 x2, .int .u64 x3, .int .i64 x4, .slice x5 x6 x7, .slice x8 x9 x10] tCt)
  have hA := heap_alloc_new w (.cells #[.int .i64 x0, .int .i64 x1, .int .i64 x2, .int .u64 x3, .int .i64 x4, .slice x5 x6 x7, .slice x8 x9 x10] tCt)
  obtain ⟨r, hr⟩ : ∃ r, consB Y = r := ⟨_, rfl⟩
  have hbE := fun k i hk hi => cons_badE (Y := Y) (k := k) (i := i) hk hi
  have hbS := fun i q hi hq => cons_badS (Y := Y) (i := i) (q := q) hi hq
  have hgd := cons_good (Y := Y)
  rw [hr] at hbE hbS hgd ⊢
  have hY := Lib.hid h
  replace hof := Lib.hid hof
  replace hr := Lib.hid hr
  replace hbE := Lib.hid hbE
  replace hbS := Lib.hid hbS
  replace hgd := Lib.hid hgd
  replace e1 := Lib.hid e1
  replace hA := Lib.hid hA
  replace hkA := Lib.hid hkA
  replace hin := Lib.hid hin
  clear h
  simp only [ctV, slv]
  go_enter Tryz.func20, Tryz.ntmps20
  go_upto_region 1 with fail
  generalize (w.alloc (.cells #[.int .i64 x0, .int .i64 x1, .int .i64 x2, .int .u64 x3, .int .i64 x4, .slice x5 x6 x7, .slice x8 x9 x10] tCt)) = W at *
  obtain ⟨B, hB⟩ : ∃ B, w.heap.size = B := ⟨_, rfl⟩
  rw [hB] at hA ⊢
  replace hB := Lib.hid hB
  go_wp2
  go_loopw [3] (fun i wr => ∃ k : Nat, i = .int .i64 k ∧ k ≤ x6 ∧ Hid (∀ i (hi : i < Y.length), i < k → (∀ k (hk : k < Y.length), k < i → Y[k].m = Y[i].m → Y[k].ep = Y[i].ep) ∧ ∀ q (hq : q < Y[i].ins.length), (outR Y (Y[i].m, Y[i].ins[q].1, Y[i].ins[q].2.1)).getD 0 = Y[i].ins[q].2.2) ∧ Hid (Keeps [] W wr)) (fun i _ => x6 - (intOf i).toNat)
  case atStart => exact ⟨0, rfl, by omega, Lib.hid (fun _ _ h => by omega), Lib.hid (Keeps.refl _ _)⟩
  case round =>
    obtain ⟨k, rfl, hk, hno, hkw⟩ := hrel
    have hAr := (hkw.out.block _ (lt_of_blk hA.out) (by simp)).trans hA.out
    obtain ⟨i0, i1, i2, i3, i4, i5, i6, if', il⟩ := cl7 hAr
    have hkF := Lib.hid (hkA.out.trans hkw.out)
    by_cases hlt : k < x6
    · have hlt2 : (k : Int) < x6 := by omega
      have hkl : k < Y.length := by rw [← e1.out]; exact hlt
      obtain ⟨g, o, c', y, hv, hy, he⟩ := hY.out.elem hkl
      rw [← e1.out] at hv
      cases hv
      obtain ⟨a, ha⟩ : ∃ a, Y[k] = a := ⟨_, rfl⟩
      have hia := hin.out _ (List.getElem_mem hkl)
      have hbE2 := fun j hj => hbE.out j k hj hkl
      have hbS2 := fun q => hbS.out k q hkl
      rw [ha] at hy hia hbE2 hbS2
      obtain ⟨_, _, ev, hl1, hl2, _⟩ := hy.ins.form
      have hins := hy.ins
      have m0 := hy.m
      have m3 := hy.ep
      obtain ⟨y0, y1, y2, y3, y4, y5, y6, y7, y8, y9⟩ := y
      simp only [AnV.v] at ev hins
      simp only at m0 m3
      simp only [Value.slice.injEq] at ev
      obtain ⟨-, ev, -⟩ := ev
      have hy8 : y8 ≤ 1000 := by omega
      have e0 := hkF.out.val (he 0 _ rfl)
      have e1' := hkF.out.val (he 1 _ rfl)
      have e2 := hkF.out.val (he 2 _ rfl)
      have e3 := hkF.out.val (he 3 _ rfl)
      have e4 := hkF.out.val (he 4 _ rfl)
      have e5 := hkF.out.val (he 5 _ rfl)
      have e6 := hkF.out.val (he 6 _ rfl)
      have e7 := hkF.out.val (he 7 _ rfl)
      simp only [AnV.v, Nat.add_zero] at e0 e1' e2 e3 e4 e5 e6 e7
      have hbN := heap_alloc_new wr (.cells #[.int .i64 y0, .int .i64 y1, .int .u64 y2, .int .i64 y3, .bool y4, .bool y5, .int .i64 y6, .slice y7 y8 y9] tA)
      have hka := (Keeps.refl [] wr).alloc (.cells #[.int .i64 y0, .int .i64 y1, .int .u64 y2, .int .i64 y3, .bool y4, .bool y5, .int .i64 y6, .slice y7 y8 y9] tA)
      have hAn := (hka.block _ (lt_of_blk hAr) (by simp)).trans hAr
      have hkn := Lib.hid (hkw.out.trans hka)
      have hkG := Lib.hid (hkF.out.trans hka)
      replace ha := Lib.hid ha
      replace ev := Lib.hid ev
      replace m0 := Lib.hid m0
      replace m3 := Lib.hid m3
      replace hins := Lib.hid hins
      replace hbE2 := Lib.hid hbE2
      replace hbS2 := Lib.hid hbS2
      replace hbN := Lib.hid hbN
      replace hAn := Lib.hid hAn
      clear he hy hka hl1 hl2 hia
      go_upto_region 5 with fail
      generalize (wr.alloc (.cells #[.int .i64 y0, .int .i64 y1, .int .u64 y2, .int .i64 y3, .bool y4, .bool y5, .int .i64 y6, .slice y7 y8 y9] tA)) = WN at *
      obtain ⟨XN, hXN⟩ : ∃ X, wr.heap.size = X := ⟨_, rfl⟩
      rw [hXN] at hbN ⊢
      replace hXN := Lib.hid hXN
      clear i0 i1 i2 i3 i4 i5 i6 if' il e0 e1' e2 e3 e4 e5 e6 e7
      go_wp2
      go_loopw [5] (fun i wx => ∃ j : Nat, i = .int .i64 j ∧ j ≤ k ∧ Hid (∀ l (hl : l < Y.length), l < j → Y[l].m = a.m → Y[l].ep = a.ep) ∧ Hid (Keeps [] WN wx)) (fun i _ => k - (intOf i).toNat)
      case atStart => exact ⟨0, rfl, by omega, Lib.hid (fun _ _ h => by omega), Lib.hid (Keeps.refl _ _)⟩
      case round =>
        obtain ⟨j, rfl, hj, hep, hkx⟩ := hrel
        have hAx := (hkx.out.block _ (lt_of_blk hAn.out) (by simp)).trans hAn.out
        have hNx := (hkx.out.block _ (lt_of_blk hbN.out) (by simp)).trans hbN.out
        obtain ⟨i0, i1, i2, i3, i4, i5, i6, if', il⟩ := cl7 hAx
        obtain ⟨e0, e1', e2, e3, e4, e5, e6, e7, ef, el⟩ := cl8 hNx
        by_cases hltj : j < k
        · have hltj2 : (j : Int) < k := by omega
          have hjl : j < Y.length := by omega
          have hjx : (j : Int) < x6 := by omega
          obtain ⟨g', o', c'', z, hv2, hz, hez⟩ := hY.out.elem hjl
          rw [← e1.out] at hv2
          cases hv2
          have n0 := hz.m
          have n3 := hz.ep
          obtain ⟨z0, z1, z2, z3, z4, z5, z6, z7, z8, z9⟩ := z
          simp only at n0 n3
          have f0 := (hkG.out.trans hkx.out).val (hez 0 _ rfl)
          have f3 := (hkG.out.trans hkx.out).val (hez 3 _ rfl)
          simp only [Nat.add_zero] at f0 f3
          have hstep : (Y[j].m = a.m → Y[j].ep = a.ep) → ∀ l (hl : l < Y.length), l < j + 1 → Y[l].m = a.m → Y[l].ep = a.ep := fun hn l hl hlj => by
            by_cases e : l = j
            · subst e; exact hn
            · exact hep.out l hl (by omega)
          have hbad := hbE2.out j hjl
          rw [← n0, ← n3, ← m0.out, ← m3.out] at hstep hbad
          replace hstep := Lib.hid hstep
          replace hbad := Lib.hid hbad
          clear hez hz n0 n3
          by_cases a0 : z0 = y0
          · have b0 : (z0 == y0) = true := by simpa using a0
            by_cases a1 : z3 = y3
            · have b1 : (z3 != y3) = false := by simpa using a1
              have h2 := Lib.hid (hstep.out (fun _ => a1))
              replace a0 := Lib.hid a0
              replace a1 := Lib.hid a1
              rw [m0.out, m3.out] at h2
              go_wp2
              (refine wp_region_quiet_lit (by kernel_rfl) (by kernel_rfl) ?_; (repeat (first | go_big_quiet_step (fail) | quiet_step (fail))); with_reducible refine wpQuiet_nil ?_; intro _ hw'; obtain ⟨nq, hw''⟩ := hw'; subst hw'')
              go_wp2
              go_roundw
              case rel => exact ⟨j + 1, rfl, by omega, h2, Lib.hid (hkx.out.drewN _)⟩
              case measure => simp [intOf]; omega
            · have b1 : (z3 != y3) = true := by simpa using a1
              have hd := Lib.hid (hbad.out a0 a1)
              have hke := Lib.hid (hkG.out.trans hkx.out)
              replace a0 := Lib.hid a0
              replace a1 := Lib.hid a1
              go_wp2
              (refine wp_region_quiet_lit (by kernel_rfl) (by kernel_rfl) ?_; (repeat (first | go_big_quiet_step (fail) | quiet_step (fail))); with_reducible refine wpQuiet_nil ?_; intro _ hw'; obtain ⟨nq, hw''⟩ := hw'; subst hw'')
              go_wp2
              go_ret
              exact ⟨by rw [hd.out]; rfl, hke.out.drewN _⟩
          · have b0 : (z0 == y0) = false := by simpa using a0
            have h2 := Lib.hid (hstep.out (fun h => absurd h a0))
            replace a0 := Lib.hid a0
            rw [m0.out, m3.out] at h2
            go_wp2
            (refine wp_region_quiet_lit (by kernel_rfl) (by kernel_rfl) ?_; (repeat (first | go_big_quiet_step (fail) | quiet_step (fail))); with_reducible refine wpQuiet_nil ?_; intro _ hw'; obtain ⟨nq, hw''⟩ := hw'; subst hw'')
            go_wp2
            go_roundw
            case rel => exact ⟨j + 1, rfl, by omega, h2, Lib.hid (hkx.out.drewN _)⟩
            case measure => simp [intOf]; omega
        · have hltj2 : ¬ ((j : Int) < k) := by omega
          have hepk : Hid (∀ l (hl : l < Y.length), l < k → Y[l].m = a.m → Y[l].ep = a.ep) := Lib.hid (fun l hl hlk => hep.out l hl (by omega))
          have hkH := Lib.hid (hkn.out.trans hkx.out)
          have hkJ := Lib.hid (hkG.out.trans hkx.out)
          clear i0 i1 i2 i3 i4 i5 i6 if' il e0 e1' e2 e3 e4 e5 e6 e7 ef el
          replace hAx := Lib.hid hAx
          replace hNx := Lib.hid hNx
          go_wp2
          generalize wr = W3 at *
          go_loopw [6] (fun i wz => ∃ q : Nat, i = .int .i64 q ∧ q ≤ y8 ∧ Hid (∀ l (hl : l < a.ins.length), l < q → (outR Y (a.m, a.ins[l].1, a.ins[l].2.1)).getD 0 = a.ins[l].2.2) ∧ Hid (Keeps [] W3 wz)) (fun i _ => y8 - (intOf i).toNat)
          case atStart => exact ⟨0, rfl, by omega, Lib.hid (fun _ _ h => by omega), Lib.hid (Keeps.refl _ _)⟩
          case round =>
            obtain ⟨q, rfl, hq, hst, hkz⟩ := hrel
            have hAz := (hkz.out.block _ (lt_of_blk hAx.out) (by simp)).trans hAx.out
            have hNz := (hkz.out.block _ (lt_of_blk hNx.out) (by simp)).trans hNx.out
            obtain ⟨i0, i1, i2, i3, i4, i5, i6, if', il⟩ := cl7 hAz
            obtain ⟨e0, e1', e2, e3, e4, e5, e6, e7, ef, el⟩ := cl8 hNz
            have hkK := Lib.hid (hkJ.out.trans hkz.out)
            by_cases hltq : q < y8
            · have hltq2 : (q : Int) < y8 := by omega
              have hql : q < a.ins.length := by rw [← ev.out]; exact hltq
              obtain ⟨gi, oi, ci, hvi, hei⟩ := hins.out.elem hql
              rw [← ev.out] at hvi
              cases hvi
              have hbad := hbS2.out q hql
              have hstep : (outR Y (a.m, a.ins[q].1, a.ins[q].2.1)).getD 0 = a.ins[q].2.2 → ∀ l (hl : l < a.ins.length), l < q + 1 → (outR Y (a.m, a.ins[l].1, a.ins[l].2.1)).getD 0 = a.ins[l].2.2 := fun hn l hl hlj => by
                by_cases e : l = q
                · subst e; exact hn
                · exact hst.out l hl (by omega)
              obtain ⟨⟨n0, n1, n2⟩, hz⟩ : ∃ z, a.ins[q] = z := ⟨_, rfl⟩
              rw [hz] at hei hbad hstep
              simp only at hbad hstep
              have t0 := hkK.out.val (hei 0 _ rfl)
              have t1 := hkK.out.val (hei 1 _ rfl)
              have t2 := hkK.out.val (hei 2 _ rfl)
              have s2 := hei 2 _ rfl
              simp only [shT, Nat.add_zero] at t0 t1 t2 s2
              rw [← m0.out] at hbad hstep
              obtain ⟨rr, hrr⟩ : ∃ rr, outR Y (y0, n0, n1) = rr := ⟨_, rfl⟩
              have hcall := hof.out wr.drew (hkK.out.drew) y0 n0 n1
              rw [hrr] at hbad hstep hcall
              replace hrr := Lib.hid hrr
              replace hcall := Lib.hid hcall
              replace hz := Lib.hid hz
              replace hbad := Lib.hid hbad
              replace hstep := Lib.hid hstep
              replace s2 := Lib.hid s2
              clear hei
              go_upto_region 13 with fail
              refine Free.wp_region_chain (fun i => i == 15) (fun i => true) (fun _ _ => False) (by kernel_rfl) (by kernel_rfl) (by kernel_rfl) ?_
              (repeat (first | (apply Free.cw_pure rfl rfl; (intro w'; go_simp <;> exact rfl); go_frame) | (apply Free.cw_steady rfl rfl rfl; (intro w' hS; have q0 := Free.sx_cell hS i0 (fun _ _ hT => hT); have q1 := Free.sx_cell hS i1 (fun _ _ hT => hT); have q2 := Free.sx_cell hS i2 (fun _ _ hT => hT); have q3 := Free.sx_cell hS i3 (fun _ _ hT => hT); have q4 := Free.sx_cell hS i4 (fun _ _ hT => hT); have q5 := Free.sx_cell hS i5 (fun _ _ hT => hT); have q6 := Free.sx_cell hS i6 (fun _ _ hT => hT); have q7 := Free.sx_cell hS e0 (fun _ _ hT => hT); have q8 := Free.sx_cell hS e7 (fun _ _ hT => hT); have q9 := Free.sx_cell hS t0 (fun _ _ hT => hT); have q10 := Free.sx_cell hS t1 (fun _ _ hT => hT); go_simp <;> exact rfl); go_frame) | (refine Free.cw_skip rfl ?_; go_frame)))
              refine Free.cw_loud rfl rfl (fun K hK => ?_)
              go_wp2_with fail
              refine hcall.out.mono ?_
              rintro e w1 ⟨rfl, hk1⟩
              refine hK _ _ rfl (Free.KeepsP.of hk1 (by simp)) ?_
              clear hK K hcall
              have hk1d := ((Keeps.refl [] wr).drew).trans hk1
              have hk2 := Lib.hid (hkz.out.trans hk1d)
              have hA1 := (hk1d.block _ (lt_of_blk hAz) (by simp)).trans hAz
              have hN1 := (hk1d.block _ (lt_of_blk hNz) (by simp)).trans hNz
              have t2' := (hkK.out.trans hk1d).val s2.out
              have hk3 := Lib.hid (hkK.out.trans hk1d)
              clear hk1 hk1d
              (repeat (apply Free.cw_pure rfl rfl; (intro w'; go_simp <;> exact rfl); go_frame))
              refine Free.cw_nil ?_
              clear i0 i1 i2 i3 i4 i5 i6 if' il e0 e1' e2 e3 e4 e5 e6 e7 ef el t0 t1 t2
              obtain ⟨i0, i1, i2, i3, i4, i5, i6, if', il⟩ := cl7 hA1
              obtain ⟨e0, e1', e2, e3, e4, e5, e6, e7, ef, el⟩ := cl8 hN1
              obtain ⟨v0, hv0⟩ : ∃ v, rr.getD 0 = v := ⟨_, rfl⟩
              rw [hv0] at hbad hstep ⊢
              replace hv0 := Lib.hid hv0
              by_cases a0 : v0 = n2
              · have b0 : (v0 != n2) = false := by simpa using a0
                have h2 := hstep.out a0
                replace h2 := Lib.hid h2
                rw [m0.out] at h2
                replace a0 := Lib.hid a0
                go_wp2
                go_roundw
                case rel => exact ⟨q + 1, rfl, by omega, h2, hk2⟩
                case measure => simp [intOf]; omega
              · have b0 : (v0 != n2) = true := by simpa using a0
                have hd := Lib.hid (hbad.out a0)
                replace a0 := Lib.hid a0
                go_wp2
                go_ret
                exact ⟨by rw [hd.out]; rfl, hk3.out⟩
            · have hltq2 : ¬ ((q : Int) < y8) := by omega
              have hno2 : Hid (∀ i (hi : i < Y.length), i < k + 1 → (∀ k (hk : k < Y.length), k < i → Y[k].m = Y[i].m → Y[k].ep = Y[i].ep) ∧ ∀ q (hq : q < Y[i].ins.length), (outR Y (Y[i].m, Y[i].ins[q].1, Y[i].ins[q].2.1)).getD 0 = Y[i].ins[q].2.2) := Lib.hid (fun i hi hik => by
                by_cases e : i = k
                · subst e
                  rw [ha.out]
                  exact ⟨fun l hl hlk => hepk.out l hl hlk, fun l hl => hst.out l hl (by have := ev.out; omega)⟩
                · exact hno.out i hi (by omega))
              have hkL := Lib.hid (hkH.out.trans hkz.out)
              go_wp2
              go_roundw
              case rel => exact ⟨k + 1, rfl, by omega, hno2, hkL⟩
              case measure => simp [intOf]; omega
    · have hlt2 : ¬ ((k : Int) < x6) := by omega
      have hd := hgd.out (fun i hi => hno.out i hi (by have := e1.out; omega))
      replace hd := Lib.hid hd
      go_wp2
      go_ret
      exact ⟨by rw [hd.out]; rfl, hkF.out⟩
end Go.Proofs.YtiplgpefapeapaaGreat

namespace Go.Proofs.YtiplgpefapeapaaGreat
open Go.RowKit

set_option maxRecDepth 100000 in
set_option maxHeartbeats 16000000 in
theorem wfR_c (w : World) (x : CtV) (c : Ct) (h : CtW w x c) (hf : c.Few) :
    Calls Tryz.prog 19 #[ctV x] w fun e w' => e = .returned (.bool (wf c)) ∧ Keeps [] w w' := by
  have him := h.im
  have his := h.is
  have hs0 := h.s0
  have han := h.an
  have hcl := h.cl
  obtain ⟨x0, x1, x2, x3, x4, ⟨x5, x6, x7⟩, ⟨x8, x9, x10⟩⟩ := x
  simp only [slv] at han hcl
  simp only at him his hs0
  obtain ⟨_, _, e1, hla, hca⟩ := han.form
  obtain ⟨_, _, e2, hlc, hcc⟩ := hcl.form
  simp only [Value.slice.injEq] at e1 e2
  obtain ⟨-, e1, -⟩ := e1
  obtain ⟨-, e2, -⟩ := e2
  have hx6 : x6 ≤ 1000 := by have := hf.an; omega
  have hx9 : x9 ≤ 1000 := by have := hf.cl; omega
  have hA := heap_alloc_new w (.cells #[.int .i64 x0, .int .i64 x1, .int .i64 x2, .int .u64 x3, .int .i64 x4, .slice x5 x6 x7, .slice x8 x9 x10] tCt)
  have hkA := (Keeps.refl [] w).alloc (.cells #[.int .i64 x0, .int .i64 x1, .int .i64 x2, .int .u64 x3, .int .i64 x4, .slice x5 x6 x7, .slice x8 x9 x10] tCt)
  obtain ⟨W, hW⟩ : ∃ W, w.alloc (.cells #[.int .i64 x0, .int .i64 x1, .int .i64 x2, .int .u64 x3, .int .i64 x4, .slice x5 x6 x7, .slice x8 x9 x10] tCt) = W := ⟨_, rfl⟩
  obtain ⟨B, hB⟩ : ∃ B, w.heap.size = B := ⟨_, rfl⟩
  rw [hW] at hA hkA
  rw [hB] at hA
  obtain ⟨r, hr⟩ : ∃ r, wf c = r := ⟨_, rfl⟩
  rw [hr]
  unfold wf at hr
  rw [← him, ← his, ← hs0] at hr
  obtain ⟨m1, hm1⟩ : ∃ b, mach x0 = b := ⟨_, rfl⟩
  obtain ⟨m2, hm2⟩ : ∃ b, mach x2 = b := ⟨_, rfl⟩
  have hc1 := fun W => machR_c x0 W
  have hc2 := fun W => machR_c x2 W
  rw [hm1] at hc1 hr
  rw [hm2] at hc2 hr
  replace hc1 := Lib.hid hc1
  replace hc2 := Lib.hid hc2
  replace hr := Lib.hid hr
  replace han := Lib.hid han
  replace hcl := Lib.hid hcl
  replace hkA := Lib.hid hkA
  replace hW := Lib.hid hW
  replace hB := Lib.hid hB
  replace e1 := Lib.hid e1
  replace e2 := Lib.hid e2
  replace hf := Lib.hid hf
  replace hA := Lib.hid hA
  clear h hm1 hm2 him his hs0 hla hlc hca hcc
  simp only [ctV, slv]
  go_enter Tryz.func19, Tryz.ntmps19
  go_upto_region 1 with fail
  rw [hW.out, hB.out]
  obtain ⟨i0, i1, i2, i3, i4, i5, i6, if', il⟩ := cl7 hA.out
  go_wp2_with fail
  refine (hc1.out _).mono ?_
  rintro e w' ⟨rfl, hw⟩
  obtain rfl := hw
  clear hc1
  cases m1 with
  | false =>
    have hd : false = r := by rw [← hr.out]; simp
    replace hd := Lib.hid hd
    go_wp2
    go_ret
    exact ⟨by rw [← hd.out]; rfl, hkA.out⟩
  | true =>
  by_cases h1 : x1 < 1
  · have hd : false = r := by
      rw [← hr.out]
      have : decide (1 ≤ x1) = false := by simpa using h1
      rw [this]; simp
    replace hd := Lib.hid hd
    go_wp2
    go_ret
    exact ⟨by rw [← hd.out]; rfl, hkA.out⟩
  have h1d : decide (x1 < 1) = false := by simpa using h1
  have h1e : decide (1 ≤ x1) = true := by simpa using h1
  rw [h1e] at hr
  go_wp2_with fail
  refine (hc2.out _).mono ?_
  rintro e w' ⟨rfl, hw⟩
  obtain rfl := hw
  clear hc2
  cases m2 with
  | false =>
    have hd : false = r := by rw [← hr.out]; simp
    replace hd := Lib.hid hd
    go_wp2
    go_ret
    exact ⟨by rw [← hd.out]; rfl, hkA.out⟩
  | true =>
  have hl6 : decide ((1024 : Int) < x6) = false := by simp; omega
  simp only [Bool.and_self, Bool.true_and] at hr
  clear h1 h1d h1e
  go_wp2
  go_loopw [3] (fun i wr => ∃ k : Nat, i = .int .i64 k ∧ k ≤ x6 ∧ Hid (∀ j (hj : j < c.an.length), j < k → ansOk c.an[j] = true) ∧ Hid (∀ j (hj : j + 1 < c.an.length), j + 1 < k → qlt (c.an[j]'(by omega)).q c.an[j + 1].q) ∧ Hid (Keeps [] W wr)) (fun i _ => x6 - (intOf i).toNat)
  case atStart => exact ⟨0, rfl, by omega, Lib.hid (fun _ _ h => by omega), Lib.hid (fun _ _ h => by omega), Lib.hid (Keeps.refl _ _)⟩
  case round =>
    clear i0 i1 i2 i3 i4 i5 i6 if' il
    obtain ⟨k, rfl, hk, hno, hin, hkw⟩ := hrel
    have hAr := (hkw.out.block _ (lt_of_blk hA.out) (by simp)).trans hA.out
    obtain ⟨i0, i1, i2, i3, i4, i5, i6, if', il⟩ := cl7 hAr
    have hkF := Lib.hid (hkA.out.trans hkw.out)
    by_cases hlt : k < x6
    · have hlt2 : (k : Int) < x6 := by omega
      have hkl : k < c.an.length := by rw [← e1.out]; exact hlt
      obtain ⟨g, o, c', y, hv, hy, he⟩ := (han.out.keeps hkF.out).elem hkl
      rw [← e1.out] at hv
      cases hv
      have hans := fun (W : World) (hk : Keeps [] wr W) => answerR_c W y _ (InR.keep hy hk (by simp)) (by have := hf.out.ins _ (List.getElem_mem hkl); omega)
      obtain ⟨y0, y1, y2, y3, y4, y5, y6, y7, y8, y9⟩ := y
      have hyq : AnV.q ⟨y0, y1, y2, y3, y4, y5, y6, y7, y8, y9⟩ = c.an[k].q := by
        have hm := hy.m
        have hw := hy.ow
        have hn := hy.n
        unfold AnV.q Ans.q
        rw [hm, hw, hn]
      have g0 := he 0 _ rfl
      have g1 := he 1 _ rfl
      have g2 := he 2 _ rfl
      have g3 := he 3 _ rfl
      have g4 := he 4 _ rfl
      have g5 := he 5 _ rfl
      have g6 := he 6 _ rfl
      have g7 := he 7 _ rfl
      simp only [AnV.v, Nat.add_zero] at g0 g1 g2 g3 g4 g5 g6 g7
      simp only [aV, AnV.v] at hans
      obtain ⟨b, hb⟩ : ∃ b, ansOk c.an[k] = b := ⟨_, rfl⟩
      rw [hb] at hans
      replace hans := Lib.hid hans
      replace hb := Lib.hid hb
      replace hyq := Lib.hid hyq
      clear he hy
      cases b with
      | false =>
        have hd : false = r := by rw [← hr.out, all_no hkl hb.out]; simp
        replace hd := Lib.hid hd
        go_wp2
        refine Free.wp_region_chain (fun i => i == 5 || i == 22) (fun i => true) (fun _ _ => False) (by kernel_rfl) (by kernel_rfl) (by kernel_rfl) ?_
        (repeat (first | (apply Free.cw_pureW rfl rfl; (intro w'; go_simp <;> exact rfl); go_frame) | (apply Free.cw_steadyW rfl rfl rfl; (intro w' hS; have q0 := Free.sx_cell hS i5 (fun _ _ hT => hT); have q1 := Free.sx_cell hS g0 (fun _ _ hT => hT); have q2 := Free.sx_cell hS g1 (fun _ _ hT => hT); have q3 := Free.sx_cell hS g2 (fun _ _ hT => hT); have q4 := Free.sx_cell hS g3 (fun _ _ hT => hT); have q5 := Free.sx_cell hS g4 (fun _ _ hT => hT); have q6 := Free.sx_cell hS g5 (fun _ _ hT => hT); have q7 := Free.sx_cell hS g6 (fun _ _ hT => hT); have q8 := Free.sx_cell hS g7 (fun _ _ hT => hT); go_simp <;> exact rfl); go_frame) | (refine Free.cw_skip rfl ?_; go_frame)))
        refine Free.cw_loudW rfl rfl (fun K hK => ?_)
        go_wp2_with fail
        refine (hans.out _ (Keeps.refl [] wr).drew).mono ?_
        rintro e w5 ⟨rfl, hk5⟩
        refine hK _ _ rfl (Free.KeepsP.of hk5 (by simp)) ?_
        clear hK K hans
        (repeat (first | (apply Free.cw_pureW rfl rfl; (intro w'; go_simp <;> exact rfl); go_frame) | (apply Free.cw_steadyW rfl rfl rfl; (intro w' hS; have q0 := Free.sx_cell hS i5 (fun _ _ hT => hT); have q1 := Free.sx_cell hS g0 (fun _ _ hT => hT); have q2 := Free.sx_cell hS g1 (fun _ _ hT => hT); have q3 := Free.sx_cell hS g2 (fun _ _ hT => hT); have q4 := Free.sx_cell hS g3 (fun _ _ hT => hT); have q5 := Free.sx_cell hS g4 (fun _ _ hT => hT); have q6 := Free.sx_cell hS g5 (fun _ _ hT => hT); have q7 := Free.sx_cell hS g6 (fun _ _ hT => hT); have q8 := Free.sx_cell hS g7 (fun _ _ hT => hT); go_simp <;> exact rfl); go_frame) | (refine Free.cw_skip rfl ?_; go_frame)))
        refine Free.cw_nil ?_
        have hkz := Lib.hid (hkF.out.trans (((Keeps.refl [] wr).drew).trans hk5))
        go_wp2
        go_ret
        exact ⟨by rw [← hd.out]; rfl, hkz.out⟩
      | true =>
      have hno2 : Hid (∀ j (hj : j < c.an.length), j < k + 1 → ansOk c.an[j] = true) := Lib.hid (fun j hj hjk => by
        by_cases e : j = k
        · subst e; exact hb.out
        · exact hno.out j hj (by omega))
      by_cases hk0 : k = 0
      · have hkz0 : decide ((0 : Int) < (k : Int)) = false := by simp; omega
        have hkz1 : decide (0 < k) = false := by simp; omega
        have hin2 : Hid (∀ j (hj : j + 1 < c.an.length), j + 1 < k + 1 → qlt (c.an[j]'(by omega)).q c.an[j + 1].q) := Lib.hid (fun j hj hjk => by omega)
        replace hk0 := Lib.hid hk0
        go_wp2
        refine Free.wp_region_chain (fun i => i == 5 || i == 22) (fun i => true) (fun _ _ => False) (by kernel_rfl) (by kernel_rfl) (by kernel_rfl) ?_
        (repeat (first | (apply Free.cw_pureW rfl rfl; (intro w'; go_simp <;> exact rfl); go_frame) | (apply Free.cw_steadyW rfl rfl rfl; (intro w' hS; have q0 := Free.sx_cell hS i5 (fun _ _ hT => hT); have q1 := Free.sx_cell hS g0 (fun _ _ hT => hT); have q2 := Free.sx_cell hS g1 (fun _ _ hT => hT); have q3 := Free.sx_cell hS g2 (fun _ _ hT => hT); have q4 := Free.sx_cell hS g3 (fun _ _ hT => hT); have q5 := Free.sx_cell hS g4 (fun _ _ hT => hT); have q6 := Free.sx_cell hS g5 (fun _ _ hT => hT); have q7 := Free.sx_cell hS g6 (fun _ _ hT => hT); have q8 := Free.sx_cell hS g7 (fun _ _ hT => hT); go_simp <;> exact rfl); go_frame) | (refine Free.cw_skip rfl ?_; go_frame)))
        refine Free.cw_loudW rfl rfl (fun K hK => ?_)
        go_wp2_with fail
        refine (hans.out _ (Keeps.refl [] wr).drew).mono ?_
        rintro e w5 ⟨rfl, hk5⟩
        refine hK _ _ rfl (Free.KeepsP.of hk5 (by simp)) ?_
        clear hK K hans
        (repeat (first | (apply Free.cw_pureW rfl rfl; (intro w'; go_simp <;> exact rfl); go_frame) | (apply Free.cw_steadyW rfl rfl rfl; (intro w' hS; have q0 := Free.sx_cell hS i5 (fun _ _ hT => hT); have q1 := Free.sx_cell hS g0 (fun _ _ hT => hT); have q2 := Free.sx_cell hS g1 (fun _ _ hT => hT); have q3 := Free.sx_cell hS g2 (fun _ _ hT => hT); have q4 := Free.sx_cell hS g3 (fun _ _ hT => hT); have q5 := Free.sx_cell hS g4 (fun _ _ hT => hT); have q6 := Free.sx_cell hS g5 (fun _ _ hT => hT); have q7 := Free.sx_cell hS g6 (fun _ _ hT => hT); have q8 := Free.sx_cell hS g7 (fun _ _ hT => hT); go_simp <;> exact rfl); go_frame) | (refine Free.cw_skip rfl ?_; go_frame)))
        refine Free.cw_nil ?_
        have hkz := Lib.hid (hkw.out.trans (((Keeps.refl [] wr).drew).trans hk5))
        clear hk5
        go_wp2
        go_roundw
        case rel => exact ⟨k + 1, rfl, by omega, hno2, hin2, hkz⟩
        case measure => simp [intOf]; omega
      · have hkz0 : decide ((0 : Int) < (k : Int)) = true := by simp; omega
        have hkz1 : decide (0 < k) = true := by simp; omega
        obtain ⟨m, hm⟩ : ∃ m, k = m + 1 := ⟨k - 1, by omega⟩
        have hml : m < c.an.length := by omega
        have hmM : (m : Int) < x6 := by omega
        have hwm : IntKind.i64.wrap ((k : Int) - 1) = m := by rw [IntWalk.i64_in _ (by omega)]; omega
        obtain ⟨g2, o2, c2, z, hv2, hz, he2⟩ := (han.out.keeps hkF.out).elem hml
        rw [← e1.out] at hv2
        cases hv2
        obtain ⟨z0, z1, z2, z3, z4, z5, z6, z7, z8, z9⟩ := z
        have hzq : AnV.q ⟨z0, z1, z2, z3, z4, z5, z6, z7, z8, z9⟩ = c.an[m].q := by
          have hm := hz.m
          have hw := hz.ow
          have hn := hz.n
          unfold AnV.q Ans.q
          rw [hm, hw, hn]
        have f0 := he2 0 _ rfl
        have f1 := he2 1 _ rfl
        have f2 := he2 2 _ rfl
        have f3 := he2 3 _ rfl
        have f4 := he2 4 _ rfl
        have f5 := he2 5 _ rfl
        have f6 := he2 6 _ rfl
        have f7 := he2 7 _ rfl
        simp only [AnV.v, Nat.add_zero] at f0 f1 f2 f3 f4 f5 f6 f7
        have hbc := fun w => beforeR_c w ⟨z0, z1, z2, z3, z4, z5, z6, z7, z8, z9⟩ ⟨y0, y1, y2, y3, y4, y5, y6, y7, y8, y9⟩
        rw [hzq, hyq.out] at hbc
        simp only [aV, AnV.v] at hbc
        obtain ⟨d, hdd⟩ : ∃ d, decide (qlt c.an[m].q c.an[k].q) = d := ⟨_, rfl⟩
        rw [hdd] at hbc
        replace hbc := Lib.hid hbc
        replace hdd := Lib.hid hdd
        replace hm := Lib.hid hm
        replace hk0 := Lib.hid hk0
        replace hzq := Lib.hid hzq
        clear he2 hz
        go_wp2
        refine Free.wp_region_chain (fun i => i == 5 || i == 22) (fun i => true) (fun _ _ => False) (by kernel_rfl) (by kernel_rfl) (by kernel_rfl) ?_
        (repeat (first | (apply Free.cw_pureW rfl rfl; (intro w'; go_simp <;> exact rfl); go_frame) | (apply Free.cw_steadyW rfl rfl rfl; (intro w' hS; have q0 := Free.sx_cell hS i5 (fun _ _ hT => hT); have q1 := Free.sx_cell hS g0 (fun _ _ hT => hT); have q2 := Free.sx_cell hS g1 (fun _ _ hT => hT); have q3 := Free.sx_cell hS g2 (fun _ _ hT => hT); have q4 := Free.sx_cell hS g3 (fun _ _ hT => hT); have q5 := Free.sx_cell hS g4 (fun _ _ hT => hT); have q6 := Free.sx_cell hS g5 (fun _ _ hT => hT); have q7 := Free.sx_cell hS g6 (fun _ _ hT => hT); have q8 := Free.sx_cell hS g7 (fun _ _ hT => hT); have q9 := Free.sx_cell hS f0 (fun _ _ hT => hT); have q10 := Free.sx_cell hS f1 (fun _ _ hT => hT); have q11 := Free.sx_cell hS f2 (fun _ _ hT => hT); have q12 := Free.sx_cell hS f3 (fun _ _ hT => hT); have q13 := Free.sx_cell hS f4 (fun _ _ hT => hT); have q14 := Free.sx_cell hS f5 (fun _ _ hT => hT); have q15 := Free.sx_cell hS f6 (fun _ _ hT => hT); have q16 := Free.sx_cell hS f7 (fun _ _ hT => hT); go_simp <;> exact rfl); go_frame) | (refine Free.cw_skip rfl ?_; go_frame)))
        refine Free.cw_loudW rfl rfl (fun K hK => ?_)
        go_wp2_with fail
        refine (hans.out _ (Keeps.refl [] wr).drew).mono ?_
        rintro e w5 ⟨rfl, hk5⟩
        refine hK _ _ rfl (Free.KeepsP.of hk5 (by simp)) ?_
        clear hK K hans
        (repeat (first | (apply Free.cw_pureW rfl rfl; (intro w'; go_simp <;> exact rfl); go_frame) | (apply Free.cw_steadyW rfl rfl rfl; (intro w' hS; have q0 := Free.sx_cell hS i5 (fun _ _ hT => hT); have q1 := Free.sx_cell hS g0 (fun _ _ hT => hT); have q2 := Free.sx_cell hS g1 (fun _ _ hT => hT); have q3 := Free.sx_cell hS g2 (fun _ _ hT => hT); have q4 := Free.sx_cell hS g3 (fun _ _ hT => hT); have q5 := Free.sx_cell hS g4 (fun _ _ hT => hT); have q6 := Free.sx_cell hS g5 (fun _ _ hT => hT); have q7 := Free.sx_cell hS g6 (fun _ _ hT => hT); have q8 := Free.sx_cell hS g7 (fun _ _ hT => hT); have q9 := Free.sx_cell hS f0 (fun _ _ hT => hT); have q10 := Free.sx_cell hS f1 (fun _ _ hT => hT); have q11 := Free.sx_cell hS f2 (fun _ _ hT => hT); have q12 := Free.sx_cell hS f3 (fun _ _ hT => hT); have q13 := Free.sx_cell hS f4 (fun _ _ hT => hT); have q14 := Free.sx_cell hS f5 (fun _ _ hT => hT); have q15 := Free.sx_cell hS f6 (fun _ _ hT => hT); have q16 := Free.sx_cell hS f7 (fun _ _ hT => hT); go_simp <;> exact rfl); go_frame) | (refine Free.cw_skip rfl ?_; go_frame)))
        refine Free.cw_loudW rfl rfl (fun K hK => ?_)
        go_wp2_with fail
        refine (hbc.out _).mono ?_
        rintro e w6 ⟨rfl, hk6⟩
        refine hK _ _ rfl (Free.KeepsP.of hk6 (by simp)) ?_
        clear hK K hbc
        (repeat (apply Free.cw_pureW rfl rfl; (intro w'; go_simp <;> exact rfl); go_frame))
        refine Free.cw_nil ?_
        have hkz := Lib.hid (hkw.out.trans ((((Keeps.refl [] wr).drew).trans hk5).trans hk6))
        have hkz2 := Lib.hid (hkA.out.trans hkz.out)
        clear hk5 hk6
        cases d with
        | false =>
          have hd : false = r := by
            rw [← hr.out]
            have : incA c.an = false := Bool.eq_false_iff.2 (fun hi => of_decide_eq_false hdd.out (by
              have := incA_iff.1 hi m (by have := hm.out; omega)
              have e := hm.out
              subst e
              exact this))
            rw [this]; simp
          replace hd := Lib.hid hd
          go_wp2
          go_ret
          exact ⟨by rw [← hd.out]; rfl, hkz2.out⟩
        | true =>
          have hin2 : Hid (∀ j (hj : j + 1 < c.an.length), j + 1 < k + 1 → qlt (c.an[j]'(by omega)).q c.an[j + 1].q) := Lib.hid (fun j hj hjk => by
            by_cases e : j + 1 = k
            · have hjm : j = m := by have := hm.out; omega
              subst hjm
              have := of_decide_eq_true hdd.out
              simp only [e]
              exact this
            · exact hin.out j hj (by omega))
          go_wp2
          go_roundw
          case rel => exact ⟨k + 1, rfl, by omega, hno2, hin2, hkz⟩
          case measure => simp [intOf]; omega
    · have hlt2 : ¬ ((k : Int) < x6) := by omega
      have h1 : incA c.an = true := incA_iff.2 (fun j hj => hin.out j hj (by have := e1.out; omega))
      have h2 : c.an.all ansOk = true := all_take (fun j hj => hno.out j hj (by have := e1.out; omega))
      rw [h1, h2, Bool.true_and, Bool.and_true] at hr
      clear hno hin h1 h2
      go_wp2
      generalize wr = W2 at *
      go_loopw [4] (fun i wr => ∃ k : Nat, i = .int .i64 k ∧ k ≤ x9 ∧ Hid (∀ j (hj : j + 1 < c.cl.length), j + 1 < k → (c.cl[j]'(by omega)).m < c.cl[j + 1].m) ∧ Hid (Keeps [] W2 wr)) (fun i _ => x9 - (intOf i).toNat)
      case atStart => exact ⟨0, rfl, by omega, Lib.hid (fun _ _ h => by omega), Lib.hid (Keeps.refl _ _)⟩
      case round =>
        clear i0 i1 i2 i3 i4 i5 i6 if' il
        obtain ⟨k, rfl, hk, hin, hkq⟩ := hrel
        have hAq := (hkq.out.block _ (lt_of_blk hAr) (by simp)).trans hAr
        obtain ⟨i0, i1, i2, i3, i4, i5, i6, if', il⟩ := cl7 hAq
        have hkG := Lib.hid (hkF.out.trans hkq.out)
        by_cases hlt : k < x9
        · have hlt2 : (k : Int) < x9 := by omega
          have hkl : k < c.cl.length := by rw [← e2.out]; exact hlt
          obtain ⟨g, o, c', x, hv, hx, g0, g1, g2, g3, g4⟩ := (hcl.out.keeps hkG.out).elem hkl
          rw [← e2.out] at hv
          cases hv
          obtain ⟨hi1, hi2, hi3⟩ := hf.out.ns _ (List.getElem_mem hkl)
          obtain ⟨_, _, ev1, _⟩ := hx.st.form
          obtain ⟨_, _, ev2, _⟩ := hx.sc.form
          obtain ⟨_, _, ev3, _⟩ := hx.ch.form
          have hm0 := hx.m
          obtain ⟨y0, y1, ⟨y2, y3, y4⟩, ⟨y5, y6, y7⟩, ⟨y8, y9, y10⟩⟩ := x
          simp only [slv, Value.slice.injEq] at ev1 ev2 ev3
          simp only [slv] at g0 g1 g2 g3 g4
          simp only at hm0
          obtain ⟨-, ev1, -⟩ := ev1
          obtain ⟨-, ev2, -⟩ := ev2
          obtain ⟨-, ev3, -⟩ := ev3
          have hn1 : decide ((1024 : Int) < y3) = false := by simp; omega
          have hn2 : decide ((1024 : Int) < y6) = false := by simp; omega
          have hn3 : decide ((1024 : Int) < y9) = false := by simp; omega
          have hbC := heap_alloc_new wr (.cells #[.int .i64 y0, .int .i64 y1, .slice y2 y3 y4, .slice y5 y6 y7, .slice y8 y9 y10] tC)
          have hkn := (Keeps.refl [] wr).alloc (.cells #[.int .i64 y0, .int .i64 y1, .slice y2 y3 y4, .slice y5 y6 y7, .slice y8 y9 y10] tC)
          have hA9 := (hkn.block _ (lt_of_blk hAq) (by simp)).trans hAq
          have hkq9 := Lib.hid (hkq.out.trans hkn)
          have hkF9 := Lib.hid (hkG.out.trans hkn)
          replace hm0 := Lib.hid hm0
          replace hbC := Lib.hid hbC
          clear hx ev1 ev2 ev3 hi1 hi2 hi3 hkn
          go_upto_region 12 with fail
          generalize (wr.alloc (.cells #[.int .i64 y0, .int .i64 y1, .slice y2 y3 y4, .slice y5 y6 y7, .slice y8 y9 y10] tC)) = WC at *
          obtain ⟨XC, hXC⟩ : ∃ X, wr.heap.size = X := ⟨_, rfl⟩
          rw [hXC] at hbC ⊢
          replace hXC := Lib.hid hXC
          clear g0 g1 g2 g3 g4 i0 i1 i2 i3 i4 i5 i6 if' il
          obtain ⟨i0, i1, i2, i3, i4, i5, i6, if', il⟩ := cl7 hA9
          obtain ⟨g0, g1, g2, g3, g4, gf, gl⟩ := cl5 hbC.out
          by_cases hk0 : k = 0
          · have hkz0 : decide ((0 : Int) < (k : Int)) = false := by simp; omega
            have hkz1 : decide (0 < k) = false := by simp; omega
            have hin2 : Hid (∀ j (hj : j + 1 < c.cl.length), j + 1 < k + 1 → (c.cl[j]'(by omega)).m < c.cl[j + 1].m) := Lib.hid (fun j hj hjk => by omega)
            replace hk0 := Lib.hid hk0
            (refine wp_region_quiet_lit (by kernel_rfl) (by kernel_rfl) ?_; (repeat (first | go_big_quiet_step (fail) | quiet_step (fail))); with_reducible refine wpQuiet_nil ?_; intro _ hw'; obtain ⟨nq, hw''⟩ := hw'; subst hw'')
            go_wp2
            go_roundw
            case rel => exact ⟨k + 1, rfl, by omega, hin2, Lib.hid (hkq9.out.drewN _)⟩
            case measure => simp [intOf]; omega
          · have hkz0 : decide ((0 : Int) < (k : Int)) = true := by simp; omega
            have hkz1 : decide (0 < k) = true := by simp; omega
            obtain ⟨m, hm⟩ : ∃ m, k = m + 1 := ⟨k - 1, by omega⟩
            have hml : m < c.cl.length := by omega
            have hmM : (m : Int) < x9 := by omega
            have hwm : IntKind.i64.wrap ((k : Int) - 1) = m := by rw [IntWalk.i64_in _ (by omega)]; omega
            obtain ⟨g', o', c'', z, hv2, hz, f0, _, _, _, _⟩ := (hcl.out.keeps hkF9.out).elem hml
            rw [← e2.out] at hv2
            cases hv2
            have hz0 := hz.m
            replace hz0 := Lib.hid hz0
            replace hm := Lib.hid hm
            replace hk0 := Lib.hid hk0
            by_cases hq : y0 ≤ z.m
            · have hqd : decide (y0 ≤ z.m) = true := by simpa using hq
              have hd : false = r := by
                rw [← hr.out]
                refine (Bool.eq_false_iff.2 (fun hi => ?_)).symm
                have := incC_iff.1 hi m (by have := hm.out; omega)
                have e := hm.out
                subst e
                have h1 := hm0.out
                have h2 := hz0.out
                omega
              replace hd := Lib.hid hd
              have hke := Lib.hid hkF9.out
              (refine wp_region_quiet_lit (by kernel_rfl) (by kernel_rfl) ?_; (repeat (first | go_big_quiet_step (fail) | quiet_step (fail))); with_reducible refine wpQuiet_nil ?_; intro _ hw'; obtain ⟨nq, hw''⟩ := hw'; subst hw'')
              go_wp2
              go_ret
              exact ⟨by rw [← hd.out]; rfl, hke.out.drewN _⟩
            · have hqd : decide (y0 ≤ z.m) = false := by simpa using hq
              have hin2 : Hid (∀ j (hj : j + 1 < c.cl.length), j + 1 < k + 1 → (c.cl[j]'(by omega)).m < c.cl[j + 1].m) := Lib.hid (fun j hj hjk => by
                by_cases e : j + 1 = k
                · have hjm : j = m := by have := hm.out; omega
                  subst hjm
                  have h1 := hm0.out
                  have h2 := hz0.out
                  simp only [e]
                  omega
                · exact hin.out j hj (by omega))
              (refine wp_region_quiet_lit (by kernel_rfl) (by kernel_rfl) ?_; (repeat (first | go_big_quiet_step (fail) | quiet_step (fail))); with_reducible refine wpQuiet_nil ?_; intro _ hw'; obtain ⟨nq, hw''⟩ := hw'; subst hw'')
              go_wp2
              go_roundw
              case rel => exact ⟨k + 1, rfl, by omega, hin2, Lib.hid (hkq9.out.drewN _)⟩
              case measure => simp [intOf]; omega
        · have hlt2 : ¬ ((k : Int) < x9) := by omega
          have hd : true = r := by rw [← hr.out]; exact (incC_iff.2 (fun j hj => hin.out j hj (by have := e2.out; omega))).symm
          replace hd := Lib.hid hd
          go_wp2
          go_ret
          exact ⟨by rw [← hd.out]; rfl, hkG.out⟩
end Go.Proofs.YtiplgpefapeapaaGreat

namespace Go.Proofs.YtiplgpefapeapaaGreat
open Go Go.RowKit

set_option maxRecDepth 100000 in
set_option maxHeartbeats 20000000 in
theorem traces_c (w : World) (im is : Int) (st : T3) (vl : Value) (L : List Ans) (h1 : W64 im) (h1b : W64 is) (hst : T3.Fit st) (hR : RdA w vl L) (hfit : ∀ a ∈ L, a.Fit) (hbd : ∀ a ∈ L, a.ins.length ≤ 10000000000000) :
    Calls Tryz.prog 5 #[idV im is, tV st, vl] w fun e w' => e = .returned (.bool true) ∧ Keeps [] w w' := by
  obtain ⟨aL, cL, rfl, hlc, hcm⟩ := hR.form
  obtain ⟨M, hM⟩ : ∃ n, L.length = n := ⟨_, rfl⟩
  rw [hM] at hlc ⊢
  have hMm : M ≤ 9223372036854775807 := by unfold Go.maxLen at hcm; omega
  obtain ⟨s0, s1, s2⟩ := st
  obtain ⟨hb3, hb4, hkA, hzA⟩ := blks2 w (.cells #[.int .i64 im, .int .i64 is] 25) (.cells #[.int .i64 s0, .int .u64 s1, .int .i64 s2] tN)
  have haw := fun W => awake_c W
  have hfx := fun W (hk : Keeps [] w W) => fewX_c W ⟨0, 0, 0, 0, 0, (aL, M, cL), (none, 0, 0)⟩ (ctL L) ⟨rfl, rfl, rfl, rfl, rfl, by have := hR.keeps hk; rw [hM] at this; exact this, LC.nil _⟩
  obtain ⟨fb, hfb⟩ : ∃ b, fewV (ctL L) = b := ⟨_, rfl⟩
  simp only [hfb, ctV, slv] at hfx
  replace hb3 := Lib.hid hb3
  replace hb4 := Lib.hid hb4
  replace hkA := Lib.hid hkA
  replace haw := Lib.hid haw
  replace hfx := Lib.hid hfx
  replace hfb := Lib.hid hfb
  replace hR := Lib.hid hR
  replace hfit := Lib.hid hfit
  replace hbd := Lib.hid hbd
  replace hM := Lib.hid hM
  replace hst := Lib.hid hst
  replace h1 := Lib.hid h1
  replace h1b := Lib.hid h1b
  clear hzA
  simp only [tV, idV]
  by_cases hbig : 40 < M
  · have hb2 : (40 : Int) < M := by omega
    go_enter Tryz.func5, Tryz.ntmps5
    go_wp2_with fail
    refine (haw.out _).mono ?_
    rintro e w1 ⟨rfl, hk1⟩
    have hk := Lib.hid (hkA.out.trans hk1)
    clear hk1
    go_wp2
    go_ret
    exact ⟨rfl, hk.out⟩
  have hb2 : decide ((40 : Int) < M) = false := by simp; omega
  go_enter Tryz.func5, Tryz.ntmps5
  go_upto_region 1 with fail
  generalize ((w.alloc (.cells #[.int .i64 im, .int .i64 is] 25)).alloc (.cells #[.int .i64 s0, .int .u64 s1, .int .i64 s2] tN)) = WA at *
  go_wp2_with fail
  refine (hfx.out _ hkA.out).mono ?_
  rintro e w1 ⟨rfl, hk1⟩
  have hk := Lib.hid (hkA.out.trans hk1)
  cases fb with
  | false =>
    go_wp2_with fail
    refine (haw.out _).mono ?_
    rintro e w2 ⟨rfl, hk2⟩
    have hk' := Lib.hid (hk.out.trans hk2)
    clear hk2
    go_wp2
    go_ret
    exact ⟨rfl, hk'.out⟩
  | true =>
    have hL40 : L.length ≤ 40 := by rw [hM.out]; omega
    have hS : insS L ≤ 100 := few_L hL40 hbd.out hfb.out
    have hSr : Hid (insS L.reverse ≤ 100) := Lib.hid (by rw [insS_rev]; exact hS)
    have hLr : Hid (L.reverse.length ≤ 40) := Lib.hid (by rw [List.length_reverse]; exact hL40)
    have hins : Hid (∀ a ∈ L, a.ins.length ≤ 100000) := Lib.hid (fun a ha => by have := ins_le_S ha; omega)
    replace hb3 := Lib.hid ((hk1.block _ (lt_of_blk hb3.out) (by simp)).trans hb3.out)
    replace hb4 := Lib.hid ((hk1.block _ (lt_of_blk hb4.out) (by simp)).trans hb4.out)
    replace hL40 := Lib.hid hL40
    clear hk1 hfx hbd hS hkA
    obtain ⟨i0, i1, if', il⟩ := cl2 hb3.out
    obtain ⟨n0, n1, n2, nf, nl⟩ := cl3 hb4.out
    go_wp2_with fail
    refine (new_c w1 im is (s0, s1, s2) h1.out hst.out.1 hst.out.2.1).mono ?_
    rintro e w3 ⟨bt, bm, vo, rfl, hT, hk3⟩
    obtain ⟨B, hBe⟩ : ∃ B, w1.heap.size = B := ⟨_, rfl⟩
    have hBw : w.heap.size ≤ B := by rw [← hBe]; exact hk.out.size
    rw [hBe] at hT
    have hR0 : TcR w B bt bm L.reverse im is (s0, s1, s2) w3 := ⟨vo, _, _, hT, hk.out.trans hk3, TcI.new _ im is (s0, s1, s2), rfl, rfl, rfl⟩
    replace hR0 := Lib.hid hR0
    replace hBw := Lib.hid hBw
    clear hT hk3 hk hb3 hb4 i0 i1 if' il n0 n1 n2 nf nl hBe
    go_upto_region 6 with fail
    iterate 7 go_step
    go_cut [8, 10, 11, 13] from 33 to 84 (fun _ _ _ _ wx => Hid (TcR w B bt bm L.reverse im is (s0, s1, s2) wx))
    case first =>
      go_wp2
      go_loopw [33] (fun iv wr => ∃ k : Nat, iv = .int .i64 k ∧ k ≤ 200 ∧ Hid (TcR w B bt bm L.reverse im is (s0, s1, s2) wr)) (fun iv _ => 200 - (intOf iv).toNat)
      case atStart => exact ⟨0, rfl, by omega, hR0⟩
      case round =>
        clear hR0
        obtain ⟨k, rfl, hk, hRr⟩ := hrel
        by_cases hlt : k < 200
        case neg =>
          have hlt2 : decide ((k : Int) < 200) = false := by simp; omega
          go_wp2
          go_meet
          case rel => exact hRr
        case pos =>
        have hlt2 : (k : Int) < 200 := by omega
        obtain ⟨vo', vh, t, hT, hkr, hI, hid⟩ := hRr.out
        obtain ⟨tn, htold, htn⟩ := hI.tl
        have hq := hI.qlen hSr.out
        have hqs := queries_c wr B bt bm vo' vh _ t tn hT htold htn (by omega)
        replace hqs := Lib.hid hqs
        replace hT := Lib.hid hT
        replace hkr := Lib.hid hkr
        replace hI := Lib.hid hI
        replace hid := Lib.hid hid
        replace htold := Lib.hid htold
        clear hRr hq htn
        go_wp2_with fail
        refine hqs.out.mono ?_
        rintro e w2 ⟨vq, rfl, hOq, hT2, hmv⟩
        have hk2 : Keeps [] w w2 := hkr.out.fresh hmv.k (fun b hb => .inr (Nat.le_trans hBw.out (hT.out.own_tag hb).1))
        have hI2 := hI.out.ask
        have hrq := ask_qlen hI.out hSr.out
        have hok := fun e he => ask_ok (e := e) hT.out.inv he
        have hid2 : t.queries.1.im = im ∧ t.queries.1.is = is ∧ t.queries.1.st = (s0, s1, s2) := by
          obtain ⟨g1, g2, g3⟩ := t.queries_id
          exact ⟨g1.trans hid.out.1, g2.trans hid.out.2.1, g3.trans hid.out.2.2⟩
        obtain ⟨t2, ht2⟩ : ∃ x, t.queries.1 = x := ⟨_, rfl⟩
        obtain ⟨r, hr⟩ : ∃ x, t.queries.2 = x := ⟨_, rfl⟩
        rw [ht2] at hT2 hI2 hid2
        rw [hr] at hOq hrq hok
        have hOw : shT.O w2 w.heap.size tN vq r := hOq.lowD hkr.out.size
        obtain ⟨aq, cq, rfl⟩ := hOq.form
        obtain ⟨Nq, hNq⟩ : ∃ k, r.length = k := ⟨_, rfl⟩
        rw [hNq] at hOw hrq ⊢
        have hR2 : Hid (TcR w B bt bm L.reverse im is (s0, s1, s2) w2) := Lib.hid ⟨vo', vh, t2, hT2, hk2, hI2, hid2⟩
        replace hOw := Lib.hid hOw
        replace hok := Lib.hid hok
        replace hNq := Lib.hid hNq
        clear hqs hT hkr hI hid hT2 hmv hk2 hI2 hid2 ht2 hr hOq htold
        by_cases hz : Nq = 0
        · have hzb : ((Nq : Int) == 0) = true := by simp [hz]
          replace hz := Lib.hid hz
          go_wp2
          go_meet
          case rel => exact hR2
        have hzb : ((Nq : Int) == 0) = false := by simp; omega
        replace hz := Lib.hid hz
        go_wp2
        go_loopw [42] (fun jv wr => ∃ j : Nat, jv = .int .i64 j ∧ j ≤ Nq ∧ Hid (TcR w B bt bm L.reverse im is (s0, s1, s2) wr) ∧ Hid (shT.O wr w.heap.size tN (.slice aq Nq cq) r)) (fun jv _ => Nq - (intOf jv).toNat)
        case atStart => exact ⟨0, rfl, by omega, hR2, hOw⟩
        case round =>
          clear hR2 hOw
          obtain ⟨j, rfl, hj, hRj, hOj⟩ := hrel
          by_cases hltj : j < Nq
          case neg =>
            have hltj2 : decide ((j : Int) < Nq) = false := by simp; omega
            go_wp2
            go_roundw
            case rel => exact ⟨k + 1, rfl, by omega, hRj⟩
            case measure => simp [intOf]; omega
          case pos =>
          have hltj2 : (j : Int) < Nq := by omega
          have hjr : j < r.length := by rw [hNq.out]; exact hltj
          obtain ⟨vo2, vh2, t3, hT3, hk3, hI3, hid3⟩ := hRj.out
          obtain ⟨g, oo, c', hv, he⟩ := hOj.out.r.elem hjr
          rw [hNq.out] at hv
          cases hv
          have hokj := hok.out _ (List.getElem_mem hjr)
          obtain ⟨⟨q0, q1, q2⟩, hqe⟩ : ∃ x, r[j] = x := ⟨_, rfl⟩
          rw [hqe] at he hokj
          have e0 := he 0 _ rfl
          have e1 := he 1 _ rfl
          have e2 := he 2 _ rfl
          simp only [shT, Nat.add_zero, Nat.zero_add] at e0 e1 e2
          have hkA := (Keeps.refl [] wr).alloc (.cells #[.int .i64 q0, .int .u64 q1, .int .i64 q2] tN)
          have hbX := heap_alloc_new wr (.cells #[.int .i64 q0, .int .u64 q1, .int .i64 q2] tN)
          have hkD := (Keeps.refl [] (wr.alloc (.cells #[.int .i64 q0, .int .u64 q1, .int .i64 q2] tN))).alloc (.cells #[.int .i64 q0, .int .i64 q2, .int .u64 q1, .int .i64 0, .bool false, .bool false, .int .i64 0, .slice none 0 0] tA)
          have hbY := heap_alloc_new (wr.alloc (.cells #[.int .i64 q0, .int .u64 q1, .int .i64 q2] tN)) (.cells #[.int .i64 q0, .int .i64 q2, .int .u64 q1, .int .i64 0, .bool false, .bool false, .int .i64 0, .slice none 0 0] tA)
          have hbX2 := (hkD.block _ (lt_of_blk hbX) (by simp)).trans hbX
          have hkAD := hkA.trans hkD
          have hTa := hT3.keeps hkAD
          have hka := hk3.trans hkAD
          have hOa := hOj.out.keeps hkAD
          have hsz : (wr.alloc (.cells #[.int .i64 q0, .int .u64 q1, .int .i64 q2] tN)).heap.size = wr.heap.size + 1 := by simp
          have hYn : ∀ b ∈ ownT bt bm vo2 vh2 (.slice none 0 0), b < wr.heap.size := fun b hb => by have := (hT3.own_tag hb).2.1; omega
          have hOn : ∀ b, (Value.slice (some ⟨g, oo, none⟩) Nq cq).ownBlock = some b → b < wr.heap.size := fun b hb => hOj.out.lt b hb
          have hww : w.heap.size ≤ wr.heap.size := hk3.size
          rw [hsz] at hbY
          replace hbX2 := Lib.hid hbX2
          replace hbY := Lib.hid hbY
          replace hTa := Lib.hid hTa
          replace hka := Lib.hid hka
          replace hOa := Lib.hid hOa
          replace hI3 := Lib.hid hI3
          replace hid3 := Lib.hid hid3
          replace hYn := Lib.hid hYn
          replace hOn := Lib.hid hOn
          replace hww := Lib.hid hww
          replace hokj := Lib.hid hokj
          replace hqe := Lib.hid hqe
          clear he hkA hkD hkAD hbX hT3 hk3 hOj hRj hsz
          go_upto_region 14 with fail
          generalize ((wr.alloc (.cells #[.int .i64 q0, .int .u64 q1, .int .i64 q2] tN)).alloc (.cells #[.int .i64 q0, .int .i64 q2, .int .u64 q1, .int .i64 0, .bool false, .bool false, .int .i64 0, .slice none 0 0] tA)) = W7 at *
          obtain ⟨X, hXe⟩ : ∃ b, wr.heap.size = b := ⟨_, rfl⟩
          rw [hXe] at hbX2 hbY hYn hOn hww ⊢
          clear hXe e0 e1 e2
          go_wp2
          go_loopw [55] (fun iv wl => ∃ (i : Nat) (y0 y1 : Int) (y2 : Nat) (y3 : Int) (y4 y5 : Bool) (y6 : Int) (y7 : Option Addr) (y8 y9 : Nat), iv = .int .i64 i ∧ i ≤ M ∧ Hid (wl.heap[X + 1]? = some (.cells #[.int .i64 y0, .int .i64 y1, .int .u64 y2, .int .i64 y3, .bool y4, .bool y5, .int .i64 y6, .slice y7 y8 y9] tA (0, 0))) ∧ Hid (wl.heap[X]? = some (.cells #[.int .i64 q0, .int .u64 q1, .int .i64 q2] tN (0, 0))) ∧ Hid (InR w ⟨y0, y1, y2, y3, y4, y5, y6, y7, y8, y9⟩ (curA L (q0, q2, q1) i)) ∧ Hid (TrM wl B bt bm vo2 vh2 (.slice none 0 0) t3) ∧ Hid (Keeps [] w wl) ∧ Hid (shT.O wl w.heap.size tN (.slice (some ⟨g, oo, none⟩) Nq cq) r)) (fun iv _ => M - (intOf iv).toNat)
          case atStart => exact ⟨0, q0, q2, q1, 0, false, false, 0, none, 0, 0, rfl, by omega, hbY, hbX2, Lib.hid (by rw [curA_zero]; exact ⟨rfl, rfl, rfl, rfl, rfl, rfl, rfl, Sh.R.nil _ _⟩), hTa, hka, hOa⟩
          case round =>
            clear hbX2 hbY hTa hka hOa
            obtain ⟨i, y0, y1, y2, y3, y4, y5, y6, y7, y8, y9, rfl, hi, hbY, hbX, hIn, hTl, hkl, hOl⟩ := hrel
            obtain ⟨c0, c1, c2, cf, cl⟩ := cl3 hbX.out
            obtain ⟨v0, v1, v2, v3, v4, v5, v6, v7, vf, vl⟩ := cl8 hbY.out
            by_cases hlti : i < M
            case neg =>
              have hlti2 : decide ((i : Int) < M) = false := by simp; omega
              have hiL : i = L.length := by rw [hM.out]; omega
              have hIa : InR w ⟨y0, y1, y2, y3, y4, y5, y6, y7, y8, y9⟩ (ansOf L.reverse (q0, q2, q1)) := by rw [← curA_all, ← hiL]; exact hIn.out
              have hca := tc_ans w wr B bt bm vo2 vh2 _ L.reverse im is (s0, s1, s2) t3 r ⟨y0, y1, y2, y3, y4, y5, y6, y7, y8, y9⟩ (q0, q2, q1) hBw.out hTl.out hkl.out hI3.out hid3.out hOl.out (hIa.keep hkl.out (by simp)) (ansOf_ok hfit.out hins.out hokj.out) (fun hne b hb => hIa.lt hne b hb) hLr.out hSr.out
              simp only [aV, AnV.v] at hca
              replace hca := Lib.hid hca
              replace hiL := Lib.hid hiL
              clear hIa hIn hTl hkl hOl
              go_wp2_with fail
              refine hca.out.mono ?_
              rintro e w9 ⟨⟨ie, rfl⟩, hR9, hO9⟩
              replace hR9 := Lib.hid hR9
              replace hO9 := Lib.hid hO9
              clear hca
              go_wp2
              go_roundw
              case rel => exact ⟨j + 1, rfl, by omega, hR9, hO9⟩
              case measure => simp [intOf]; omega
            case pos =>
            have hlti2 : (i : Int) < M := by omega
            have hiL : i < L.length := by rw [hM.out]; exact hlti
            obtain ⟨g2, o2, c2', x, hv2, hxr, he2⟩ := hR.out.elem hiL
            rw [hM.out] at hv2
            cases hv2
            obtain ⟨x0, x1, x2, x3, x4, x5, x6, x7, x8, x9⟩ := x
            have e0 := hkl.out.val (he2 0 _ rfl)
            have e1 := hkl.out.val (he2 1 _ rfl)
            have e2 := hkl.out.val (he2 2 _ rfl)
            have e3 := hkl.out.val (he2 3 _ rfl)
            have e4 := hkl.out.val (he2 4 _ rfl)
            have e5 := hkl.out.val (he2 5 _ rfl)
            have e6 := hkl.out.val (he2 6 _ rfl)
            have e7 := hkl.out.val (he2 7 _ rfl)
            simp only [AnV.v, Nat.add_zero] at e0 e1 e2 e3 e4 e5 e6 e7
            have m0 : x0 = L[i].m := hxr.m
            have m1 : x1 = L[i].ow := hxr.ow
            have m2 : x2 = L[i].n := hxr.n
            have hsucc := curA_succ L (q0, q2, q1) i hiL
            have hq9 : L[i].q = (x0, x1, x2) := by unfold Ans.q; rw [m0, m1, m2]
            rw [hq9] at hsucc
            have hkB := (Keeps.refl [] wr).alloc (.cells #[.int .i64 x0, .int .i64 x1, .int .u64 x2, .int .i64 x3, .bool x4, .bool x5, .int .i64 x6, .slice x7 x8 x9] tA)
            have hno : ¬ (x0 = q0 ∧ x1 = q2 ∧ x2 = q1) → InR w ⟨y0, y1, y2, y3, y4, y5, y6, y7, y8, y9⟩ (curA L (q0, q2, q1) (i + 1)) := fun hn => by
              rw [hsucc, if_neg (fun e => hn (by simpa using e))]; exact hIn.out
            have hbYB := Lib.hid ((hkB.block _ vl (by simp)).trans hbY.out)
            have hbXB := Lib.hid ((hkB.block _ cl (by simp)).trans hbX.out)
            have hTB := Lib.hid (hTl.out.keeps hkB)
            have hkBB := Lib.hid (hkl.out.trans hkB)
            have hOB := Lib.hid (hOl.out.keeps hkB)
            have hfrB : ∀ o, (wr.alloc (.cells #[.int .i64 x0, .int .i64 x1, .int .u64 x2, .int .i64 x3, .bool x4, .bool x5, .int .i64 x6, .slice x7 x8 x9] tA)).frozen? ⟨X + 1, o, none⟩ = false := fun o => by simp [World.frozen?, hbYB.out]
            replace hno := Lib.hid hno
            replace hxr := Lib.hid hxr
            replace m0 := Lib.hid m0
            replace m1 := Lib.hid m1
            replace m2 := Lib.hid m2
            replace hq9 := Lib.hid hq9
            replace hsucc := Lib.hid hsucc
            replace hkB := Lib.hid hkB
            clear he2
            by_cases a0 : x0 = q0
            case neg =>
              have b0 : (x0 == q0) = false := by simpa using a0
              have h2 := Lib.hid (hno.out (fun h => a0 h.1))
              replace a0 := Lib.hid a0
              go_wp2
              go_roundw
              case rel => exact ⟨i + 1, y0, y1, y2, y3, y4, y5, y6, y7, y8, y9, rfl, by omega, hbYB, hbXB, h2, hTB, hkBB, hOB⟩
              case measure => simp [intOf]; omega
            have b0 : (x0 == q0) = true := by simpa using a0
            by_cases a1 : x1 = q2
            case neg =>
              have b1 : (x1 == q2) = false := by simpa using a1
              have h2 := Lib.hid (hno.out (fun h => a1 h.2.1))
              replace a0 := Lib.hid a0
              replace a1 := Lib.hid a1
              go_wp2
              go_roundw
              case rel => exact ⟨i + 1, y0, y1, y2, y3, y4, y5, y6, y7, y8, y9, rfl, by omega, hbYB, hbXB, h2, hTB, hkBB, hOB⟩
              case measure => simp [intOf]; omega
            have b1 : (x1 == q2) = true := by simpa using a1
            by_cases a2 : x2 = q1
            case neg =>
              have b2 : ((x2 : Int) == (q1 : Int)) = false := by simp; omega
              have h2 := Lib.hid (hno.out (fun h => a2 h.2.2))
              replace a0 := Lib.hid a0
              replace a1 := Lib.hid a1
              replace a2 := Lib.hid a2
              go_wp2
              go_roundw
              case rel => exact ⟨i + 1, y0, y1, y2, y3, y4, y5, y6, y7, y8, y9, rfl, by omega, hbYB, hbXB, h2, hTB, hkBB, hOB⟩
              case measure => simp [intOf]; omega
            have b2 : ((x2 : Int) == (q1 : Int)) = true := by simp [a2]
            have hIx : InR w ⟨x0, x1, x2, x3, x4, x5, x6, x7, x8, x9⟩ (curA L (q0, q2, q1) (i + 1)) := by
              rw [hsucc.out, if_pos (by rw [a0, a1, a2])]; exact hxr.out
            obtain ⟨t1, t2', t3'⟩ := st8 (x0 := .int .i64 x0) (x1 := .int .i64 x1) (x2 := .int .u64 x2) (x3 := .int .i64 x3) (x4 := .bool x4) (x5 := .bool x5) (x6 := .int .i64 x6) (x7 := .slice x7 x8 x9) hbY.out
            have hYmem : ∀ b, b ∈ [X + 1] → b = X + 1 := fun b hb => by simpa using hb
            have hT9 := (hTl.out.keep t2' (fun b hb hm => by have := hYn.out b hb; have := hYmem b hm; omega) t3').keeps ((Keeps.refl [] _).alloc (.cells #[.int .i64 x0, .int .i64 x1, .int .u64 x2, .int .i64 x3, .bool x4, .bool x5, .int .i64 x6, .slice x7 x8 x9] tA))
            have hO9 := (hOl.out.keepS t2' (fun b hb e => by have h5 := hOn.out b e; have := hYmem b hb; omega)).keeps ((Keeps.refl [] _).alloc (.cells #[.int .i64 x0, .int .i64 x1, .int .u64 x2, .int .i64 x3, .bool x4, .bool x5, .int .i64 x6, .slice x7 x8 x9] tA))
            have hk9 := (hkl.out.fresh t2' (fun b hb => .inr (by have := hYmem b hb; have := hww.out; omega))).trans ((Keeps.refl [] _).alloc (.cells #[.int .i64 x0, .int .i64 x1, .int .u64 x2, .int .i64 x3, .bool x4, .bool x5, .int .i64 x6, .slice x7 x8 x9] tA))
            have hX9 := (((t2'.block X cl (by simp)).trans hbX.out))
            have hX10 := (((Keeps.refl [] _).alloc (.cells #[.int .i64 x0, .int .i64 x1, .int .u64 x2, .int .i64 x3, .bool x4, .bool x5, .int .i64 x6, .slice x7 x8 x9] tA)).block X (lt_of_blk hX9) (by simp)).trans hX9
            have hY10 := (((Keeps.refl [] _).alloc (.cells #[.int .i64 x0, .int .i64 x1, .int .u64 x2, .int .i64 x3, .bool x4, .bool x5, .int .i64 x6, .slice x7 x8 x9] tA)).block (X + 1) (lt_of_blk t1) (by simp)).trans t1
            replace hIx := Lib.hid hIx
            replace hT9 := Lib.hid hT9
            replace hO9 := Lib.hid hO9
            replace hk9 := Lib.hid hk9
            replace hX10 := Lib.hid hX10
            replace hY10 := Lib.hid hY10
            replace a0 := Lib.hid a0
            replace a1 := Lib.hid a1
            replace a2 := Lib.hid a2
            clear t1 t2' t3' hX9 hYmem hTB hkBB hOB hbXB
            go_wp2
            go_roundw
            case rel => exact ⟨i + 1, x0, x1, x2, x3, x4, x5, x6, x7, x8, x9, rfl, by omega, hY10, hX10, hIx, hT9, hk9, hO9⟩
            case measure => simp [intOf]; omega
    case rest =>
      have hG0 : Hid (TcG w B bt bm L.reverse im is (s0, s1, s2) 0 wc) := Lib.hid (TcR.g hcut.out)
      clear hcut hR0
      go_wp2
      go_loopw [85] (fun iv wr => ∃ k : Nat, iv = .int .i64 k ∧ k ≤ 20 ∧ Hid (TcG w B bt bm L.reverse im is (s0, s1, s2) k wr)) (fun iv _ => 20 - (intOf iv).toNat)
      case atStart => exact ⟨0, rfl, by omega, hG0⟩
      case round =>
        clear hG0
        obtain ⟨k, rfl, hk, hGr⟩ := hrel
        obtain ⟨vo', vh, vg, t, hT, hkr, hF, hid, hag⟩ := hGr.out
        have hq := hF.qlen hSr.out
        by_cases hlt : k < 20
        case pos =>
          have hlt2 : (k : Int) < 20 := by omega
          have hcl := claim_c wr B bt bm vo' vh vg t hT (by omega) (fun hs P Y hY hP => by rw [Tr.clm_eq hT.inv hY hP]; exact hF.ag hs)
          obtain ⟨sb, hsb⟩ : ∃ b, (t.state == 1) = b := ⟨_, rfl⟩
          unfold ClaimPost at hcl
          rw [hsb] at hcl
          replace hcl := Lib.hid hcl
          replace hT := Lib.hid hT
          replace hkr := Lib.hid hkr
          replace hF := Lib.hid hF
          replace hid := Lib.hid hid
          replace hag := Lib.hid hag
          replace hsb := Lib.hid hsb
          clear hGr hq
          go_wp2_with fail
          refine hcl.out.mono ?_
          rintro e w5 ⟨⟨z0, z1, ⟨z2, z3, z4⟩, ⟨z5, z6, z7⟩, ⟨z8, z9, z10⟩⟩, p, rfl, -, hk5, -⟩
          simp only [clV, slv]
          have hkC := (Keeps.refl [] w5).alloc (.cells #[.int .i64 z0, .int .i64 z1, .slice z2 z3 z4, .slice z5 z6 z7, .slice z8 z9 z10] tC)
          have hbC := heap_alloc_new w5 (.cells #[.int .i64 z0, .int .i64 z1, .slice z2 z3 z4, .slice z5 z6 z7, .slice z8 z9 z10] tC)
          have hT6 := Lib.hid ((hT.out.keeps hk5).keeps hkC)
          have hk6 := Lib.hid ((hkr.out.trans hk5).trans hkC)
          replace hbC := Lib.hid hbC
          clear hcl hT hkr hk5 hkC
          go_upto_region 26 with fail
          generalize (w5.alloc (.cells #[.int .i64 z0, .int .i64 z1, .slice z2 z3 z4, .slice z5 z6 z7, .slice z8 z9 z10] tC)) = W6 at *
          obtain ⟨XC, hXC⟩ : ∃ b, w5.heap.size = b := ⟨_, rfl⟩
          rw [hXC] at hbC ⊢
          clear hXC
          obtain ⟨c0, c1, c2, c3, c4, cf, cl⟩ := cl5 hbC.out
          cases sb with
          | false =>
            have hG6 : Hid (TcG w B bt bm L.reverse im is (s0, s1, s2) (k + 1) W6) := Lib.hid ⟨vo', vh, vg, t, hT6.out, hk6.out, hF.out, hid.out, by have := hag.out; omega⟩
            clear hT6 hk6 hF hid hag
            go_wp2
            go_roundw
            case rel => exact ⟨k + 1, rfl, by omega, hG6⟩
            case measure => simp [intOf]; omega
          | true =>
            have hca := tc_agree w W6 B bt bm vo' vh vg L.reverse im is (s0, s1, s2) t k z0 hBw.out hT6.out hk6.out hF.out hid.out hag.out (by omega) hSr.out
            replace hca := Lib.hid hca
            clear hT6 hk6 hF hid hag
            go_wp2_with fail
            refine hca.out.mono ?_
            rintro e w7 ⟨⟨ie, rfl⟩, hG7⟩
            replace hG7 := Lib.hid hG7
            clear hca
            go_wp2
            go_roundw
            case rel => exact ⟨k + 1, rfl, by omega, hG7⟩
            case measure => simp [intOf]; omega
        case neg =>
        have hlt2 : decide ((k : Int) < 20) = false := by simp; omega
        have hce := cert_c wr B bt bm vo' vh vg t hT (by omega)
        have hinv := hT.inv
        have hfew := hF.few hinv (by have := hLr.out; omega) hSr.out
        have hchk := hF.chk hinv
        have hf0 : t.ct.Fit0 := ⟨by show W64 t.im; rw [hid.1]; exact h1.out, by show W64 t.is; rw [hid.2.1]; exact h1b.out, by show T3.Fit t.st; rw [hid.2.2]; exact hst.out, fun a ha => by
          have := srtOf_mem hinv ha
          exact ⟨this.q, this.ep, this.lu, this.ins⟩⟩
        replace hce := Lib.hid hce
        replace hkr := Lib.hid hkr
        replace hfew := Lib.hid hfew
        replace hchk := Lib.hid hchk
        replace hf0 := Lib.hid hf0
        clear hGr hq hT hF hid hag hinv
        go_wp2_with fail
        refine hce.out.mono ?_
        rintro e w5 ⟨hk5, hce5⟩
        have hk6 := Lib.hid (hkr.out.trans hk5)
        clear hce hk5 hkr
        rcases hce5 with ⟨-, rfl⟩ | ⟨hs2, ⟨x0, x1, x2, x3, x4, ⟨x5, x6, x7⟩, ⟨x8, x9, x10⟩⟩, rfl, hCt⟩
        · simp only [ctV, slv]
          have hk7 := Lib.hid (hk6.out.trans ((Keeps.refl [] w5).alloc (.cells #[.int .i64 0, .int .i64 0, .int .i64 0, .int .u64 0, .int .i64 0, .slice none 0 0, .slice none 0 0] tCt)))
          go_wp2_with fail
          refine (haw.out _).mono ?_
          rintro e w8 ⟨rfl, hk8⟩
          have hk9 := Lib.hid (hk7.out.trans hk8)
          clear hk8
          go_wp2
          go_ret
          exact ⟨rfl, hk9.out⟩
        have hkX := (Keeps.refl [] w5).alloc (.cells #[.int .i64 x0, .int .i64 x1, .int .i64 x2, .int .u64 x3, .int .i64 x4, .slice x5 x6 x7, .slice x8 x9 x10] tCt)
        have hbX := heap_alloc_new w5 (.cells #[.int .i64 x0, .int .i64 x1, .int .i64 x2, .int .u64 x3, .int .i64 x4, .slice x5 x6 x7, .slice x8 x9 x10] tCt)
        have hW := (CtR.w hCt).keeps hkX
        have hk7 := Lib.hid (hk6.out.trans hkX)
        have hwf := fun W (hk : Keeps [] _ W) => wfR_c W _ _ (hW.keeps hk) hfew.out
        have hcs := fun W (hk : Keeps [] _ W) => consR_c W _ _ (hW.keeps hk).an hfew.out.an hfew.out.ins
        have hck := fun W (hk : Keeps [] _ W) => check0_c W _ _ (hW.keeps hk) hf0.out hfew.out
        simp only [ctV, slv] at hwf hcs hck ⊢
        obtain ⟨wb, hwb⟩ : ∃ b, wf t.ct = b := ⟨_, rfl⟩
        obtain ⟨cb, hcb⟩ : ∃ b, consB t.ct.an = b := ⟨_, rfl⟩
        simp only [hwb] at hwf
        simp only [hcb] at hcs
        replace hwf := Lib.hid hwf
        replace hcs := Lib.hid hcs
        replace hck := Lib.hid hck
        replace hbX := Lib.hid hbX
        replace hs2 := Lib.hid hs2
        replace hwb := Lib.hid hwb
        replace hcb := Lib.hid hcb
        clear hCt hkX hW hk6
        go_upto_region 30 with fail
        generalize (w5.alloc (.cells #[.int .i64 x0, .int .i64 x1, .int .i64 x2, .int .u64 x3, .int .i64 x4, .slice x5 x6 x7, .slice x8 x9 x10] tCt)) = W6 at *
        obtain ⟨XC, hXC⟩ : ∃ b, w5.heap.size = b := ⟨_, rfl⟩
        rw [hXC] at hbX ⊢
        clear hXC
        obtain ⟨c0, c1, c2, c3, c4, c5, c6, cf, cl⟩ := cl7 hbX.out
        go_wp2_with fail
        refine (hwf.out W6 (Keeps.refl _ _)).mono ?_
        rintro e w8 ⟨rfl, hk8⟩
        have hbX8 := (hk8.block _ cl (by simp)).trans hbX.out
        clear c0 c1 c2 c3 c4 c5 c6 cf cl hwf
        cases wb with
        | false =>
          have hk9 := Lib.hid (hk7.out.trans hk8)
          clear hk8 hbX8
          go_wp2_with fail
          refine (haw.out _).mono ?_
          rintro e w9 ⟨rfl, hk9'⟩
          have hkz := Lib.hid (hk9.out.trans hk9')
          clear hk9'
          go_wp2
          go_ret
          exact ⟨rfl, hkz.out⟩
        | true =>
        obtain ⟨c0, c1, c2, c3, c4, c5, c6, cf, cl⟩ := cl7 hbX8
        have hcs8 := hcs.out w8 hk8
        replace hcs8 := Lib.hid hcs8
        replace hk8 := Lib.hid hk8
        replace hbX8 := Lib.hid hbX8
        go_wp2_with fail
        refine hcs8.out.mono ?_
        rintro e w9 ⟨rfl, hk9⟩
        have hbX9 := (hk9.block _ cl (by simp)).trans hbX8.out
        clear c0 c1 c2 c3 c4 c5 c6 cf cl hcs8 hcs
        cases cb with
        | false =>
          have hk10 := Lib.hid ((hk7.out.trans hk8.out).trans hk9)
          clear hk9 hbX9
          go_wp2_with fail
          refine (haw.out _).mono ?_
          rintro e w10 ⟨rfl, hk10'⟩
          have hkz := Lib.hid (hk10.out.trans hk10')
          clear hk10'
          go_wp2
          go_ret
          exact ⟨rfl, hkz.out⟩
        | true =>
        obtain ⟨c0, c1, c2, c3, c4, c5, c6, cf, cl⟩ := cl7 hbX9
        have hc0 : chk t.ct = 0 := hchk.out hs2.out hwb.out hcb.out
        have hck9 := hck.out w9 (hk8.out.trans hk9)
        rw [hc0] at hck9
        have hk10 := Lib.hid ((hk7.out.trans hk8.out).trans hk9)
        replace hck9 := Lib.hid hck9
        clear hc0 hk9 hbX9
        go_wp2_with fail
        refine hck9.out.mono ?_
        rintro e w10 ⟨rfl, hk10'⟩
        have hk11 := Lib.hid (hk10.out.trans hk10')
        clear hk10' c0 c1 c2 c3 c4 c5 c6 cf cl hck9 hck
        go_wp2_with fail
        refine (haw.out _).mono ?_
        rintro e w11 ⟨rfl, hk11'⟩
        have hkz := Lib.hid (hk11.out.trans hk11')
        clear hk11'
        go_wp2
        go_ret
        exact ⟨rfl, hkz.out⟩
end Go.Proofs.YtiplgpefapeapaaGreat
