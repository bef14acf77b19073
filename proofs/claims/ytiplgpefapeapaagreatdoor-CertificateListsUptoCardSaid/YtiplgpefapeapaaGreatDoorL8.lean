/- Texts that the laws lean on, in the order in which they build. The specification's Of. The specification's Machines. A region that draws its order, parted in two by which of two operations comes first; each part is a chain. Of whatever program. The specification's Claim. The specification's Scions. DERIVED: THE SHELF's CONTRACTS AT THIS DUMP, IN PLAIN WORDS (tools/lay-plain.mjs out of 'YtiplgpefapeapaaGreatDoorStrSrcE.lean', which tools/lay-shelf.mjs wrote): THE SAME DECLARATIONS UNDER THE SAME NAMES: 'import', 'namespace', 'open', 'def', 'theorem' AND NOTHING ELSE: no command of the shelf's: FOR A HAND-IN. Each laying: the table of numbers ('.._ren') and one theorem, a field a fact of the dump's own or the kernel's comparison; each contract: ONE APPLICATION. The program's Machines: slices.Sort, slices.Compact over an own slice of numbers. Plain: the two lists of machines, the two lists of scions. Ranging over a map inside a fence: of whatever program. (Printed by mkmapsin.py out of XMapS.) maps.Keys over scions: its keys, each once; slices.Collect. (Printed by mklsg.py out of XScKs.) -/
import Derived.Test.YtiplgpefapeapaaGreatDoorL7
import Derived.Test.YtiplgpefapeapaaGreatDoorProg
import Derived.Shelf.Slices.CompactI
import Derived.Ground.Names2Prog
import Derived.Lib.OwnBridge
import Derived.Sort.MapsRangeIn
import Derived.RangeFuncNested
import Derived.RangeFuncBound
import Derived.RangeFuncCalls
import Derived.RangeFuncLeaves
import Derived.RangeFuncFrom
import Derived.RangeFuncBox
import Derived.Maps.AppendAt
import Derived.Shelf.Abstract
import Derived.WalkKit
import Derived.OwnWalkIn
import Derived.TacticsInMore
import Derived.LoopNIn
import Derived.LoopIn
set_option linter.unusedVariables false
set_option linter.unusedSimpArgs false
namespace Go.Proofs.YtiplgpefapeapaaGreatDoor
open Go.RowKit

def OfPost (w : World) (Y : List Ans) (m : Int) (e : Ending) (w' : World) : Prop := ∃ v, e = .returned v ∧ shT.R w' v (ofL Y m) ∧ Keeps [] w w'
theorem ofL_succ (Y : List Ans) (m : Int) (k : Nat) (h : k < Y.length) : ofL (Y.take (k + 1)) m = ofA m (ofL (Y.take k) m) Y[k] := foldl_succ _ _ _ _ h
theorem put_succ (l : List T3) (L0 : List T3) (q : Nat) (h : q < l.length) : (l.take (q + 1)).foldl (fun l x => putN x l) L0 = putN l[q] ((l.take q).foldl (fun l x => putN x l) L0) := foldl_succ _ _ _ _ h
set_option maxRecDepth 100000 in
set_option maxHeartbeats 20000000 in
theorem ofR_c (w : World) (x : CtV) (Y : List Ans) (h : RdA w (slv x.va) Y) (hl : Y.length ≤ 1000) (hin : ∀ a ∈ Y, a.ins.length ≤ 1000) (m : Int) :
    Calls Tryz.prog 24 #[ctV x, .int .i64 m] w fun e w' => OfPost w Y m e w' := by
  obtain ⟨x0, x1, x2, x3, x4, ⟨x5, x6, x7⟩, ⟨x8, x9, x10⟩⟩ := x
  simp only [slv] at h
  obtain ⟨_, _, e1, hla, hca⟩ := h.form
  simp only [Value.slice.injEq] at e1
  obtain ⟨-, e1, -⟩ := e1
  have hx6m : x6 ≤ 1000 := by omega
  have hb0 := ((Keeps.refl [] (w.alloc (.cells #[.int .i64 x0, .int .i64 x1, .int .i64 x2, .int .u64 x3, .int .i64 x4, .slice x5 x6 x7, .slice x8 x9 x10] tCt))).alloc (.cells #[] tI)).block _ (by simp) (by simp) |>.trans (heap_alloc_new w (.cells #[.int .i64 x0, .int .i64 x1, .int .i64 x2, .int .u64 x3, .int .i64 x4, .slice x5 x6 x7, .slice x8 x9 x10] tCt))
  have hkA : Keeps [] w ((w.alloc (.cells #[.int .i64 x0, .int .i64 x1, .int .i64 x2, .int .u64 x3, .int .i64 x4, .slice x5 x6 x7, .slice x8 x9 x10] tCt)).alloc (.cells #[] tI)) := ((Keeps.refl _ _).alloc _).alloc _
  have hfr := (Sh.O.fresh shT (w.alloc (.cells #[.int .i64 x0, .int .i64 x1, .int .i64 x2, .int .u64 x3, .int .i64 x4, .slice x5 x6 x7, .slice x8 x9 x10] tCt)) w.heap.size tI (by simp)).r
  rw [show (w.alloc (.cells #[.int .i64 x0, .int .i64 x1, .int .i64 x2, .int .u64 x3, .int .i64 x4, .slice x5 x6 x7, .slice x8 x9 x10] tCt)).heap.size = w.heap.size + 1 by simp] at hfr
  replace h := Lib.hid h
  replace e1 := Lib.hid e1
  replace hb0 := Lib.hid hb0
  replace hkA := Lib.hid hkA
  replace hfr := Lib.hid hfr
  replace hin := Lib.hid hin
  simp only [ctV, slv]
  go_enter Tryz.func24, Tryz.ntmps24
  go_wp2
  generalize ((w.alloc (.cells #[.int .i64 x0, .int .i64 x1, .int .i64 x2, .int .u64 x3, .int .i64 x4, .slice x5 x6 x7, .slice x8 x9 x10] tCt)).alloc (.cells #[] tI)) = W at *
  obtain ⟨B, hB⟩ : ∃ B, w.heap.size = B := ⟨_, rfl⟩
  rw [hB] at hb0 hfr ⊢
  replace hB := Lib.hid hB
  go_loopw [5, 6] (fun ov i wr => ∃ (k : Nat) (L : List T3), i = .int .i64 k ∧ k ≤ x6 ∧ Hid (shT.R wr ov L) ∧ Hid (L = ofL (Y.take k) m) ∧ Hid (L.length ≤ 1000 * k) ∧ Hid (Keeps [] W wr)) (fun _ i _ => x6 - (intOf i).toNat)
  case atStart => exact ⟨0, [], rfl, by omega, hfr, Lib.hid rfl, Lib.hid (by simp), Lib.hid (Keeps.refl _ _)⟩
  case round =>
    obtain ⟨k, L, rfl, hk, hR, hL, hLl, hkw⟩ := hrel
    have hAr := (hkw.out.block _ (lt_of_blk hb0.out) (by simp)).trans hb0.out
    obtain ⟨i0, i1, i2, i3, i4, i5, i6, if', il⟩ := cl7 hAr
    have hkF := Lib.hid (hkA.out.trans hkw.out)
    obtain ⟨oa, oc, hov, hoc1, hoc2, _⟩ := hR.out.form
    subst hov
    have hoc3 : oc ≤ 9223372036854775807 := by unfold maxLen at hoc2; omega
    by_cases hlt : k < x6
    · have hlt2 : (k : Int) < x6 := by omega
      have hkl : k < Y.length := by rw [← e1.out]; exact hlt
      have hsucc := ofL_succ Y m k hkl
      obtain ⟨g, o, c', y, hv, hy, he⟩ := h.out.elem hkl
      rw [← e1.out] at hv
      cases hv
      obtain ⟨a, ha⟩ : ∃ a, Y[k] = a := ⟨_, rfl⟩
      have hia := hin.out _ (List.getElem_mem hkl)
      rw [ha] at hy hsucc hia
      obtain ⟨_, _, ev, hl1, hl2, _⟩ := hy.ins.form
      have hins := hy.ins
      have hm0 := hy.m
      obtain ⟨y0, y1, y2, y3, y4, y5, y6, y7, y8, y9⟩ := y
      simp only [AnV.v] at ev hins
      simp only at hm0
      simp only [Value.slice.injEq] at ev
      obtain ⟨-, ev, -⟩ := ev
      have hy8 : y8 ≤ 1000 := by omega
      have g0 := hkF.out.val (he 0 _ rfl)
      have g7 := hkF.out.val (he 7 _ rfl)
      simp only [AnV.v, Nat.add_zero] at g0 g7
      obtain ⟨N0, hN0⟩ : ∃ N, L.length = N := ⟨_, rfl⟩
      rw [hN0] at hR hLl ⊢
      replace ev := Lib.hid ev
      replace ha := Lib.hid ha
      replace hm0 := Lib.hid hm0
      replace hins := Lib.hid hins
      replace hN0 := Lib.hid hN0
      replace hsucc := Lib.hid hsucc
      by_cases hm : y0 = m
      case neg =>
        have b1 : (y0 != m) = true := by simpa using hm
        have hLs : Hid (L = ofL (Y.take (k + 1)) m) := Lib.hid (by rw [hsucc.out]; unfold ofA; rw [if_neg (by rw [← hm0.out]; exact hm)]; exact hL.out)
        have hLl2 : Hid (L.length ≤ 1000 * (k + 1)) := Lib.hid (by have := hLl.out; have := hN0.out; omega)
        replace hm := Lib.hid hm
        clear he hy
        go_wp2
        go_roundw
        case rel => exact ⟨k + 1, L, rfl, by omega, hR, hLs, hLl2, hkw⟩
        case measure => simp [intOf]; omega
      case pos =>
      have b1 : (y0 != m) = false := by simpa using hm
      have hLs : ofL (Y.take (k + 1)) m = a.ins.foldl (fun l x => putN x l) L := by rw [hsucc.out]; unfold ofA; rw [if_pos (by rw [← hm0.out]; exact hm), ← hL.out]
      replace hLs := Lib.hid hLs
      replace hm := Lib.hid hm
      have he7 := Lib.hid (he 7 _ rfl)
      clear he hy hl1 hl2 hia
      go_wp2
      generalize wr = W4 at *
      go_loopw [5, 7] (fun ov i wr => ∃ (q : Nat) (L2 : List T3), i = .int .i64 q ∧ q ≤ y8 ∧ Hid (shT.R wr ov L2) ∧ Hid (L2 = (a.ins.take q).foldl (fun l x => putN x l) L) ∧ Hid (L2.length ≤ 1000 * k + q) ∧ Hid (Keeps [] W4 wr)) (fun _ i _ => y8 - (intOf i).toNat)
      case atStart => exact ⟨0, L, rfl, by omega, hR, Lib.hid rfl, Lib.hid (by have := hLl.out; have := hN0.out; omega), Lib.hid (Keeps.refl _ _)⟩
      case round =>
        clear i0 i1 i2 i3 i4 i5 i6 if' il g0 g7
        obtain ⟨q, L2, rfl, hq, hR2, hL2, hL2l, hkq⟩ := hrel
        have hAq := (hkq.out.block _ (lt_of_blk hAr) (by simp)).trans hAr
        obtain ⟨i0, i1, i2, i3, i4, i5, i6, if', il⟩ := cl7 hAq
        have hkG := Lib.hid (hkF.out.trans hkq.out)
        have g7 := hkG.out.val he7.out
        simp only [AnV.v, Nat.add_zero] at g7
        obtain ⟨pa, pc, hpv, hpc1, hpc2, _⟩ := hR2.out.form
        subst hpv
        have hpc3 : pc ≤ 9223372036854775807 := by unfold maxLen at hpc2; omega
        obtain ⟨M, hM⟩ : ∃ N, L2.length = N := ⟨_, rfl⟩
        rw [hM] at hR2 hL2l ⊢
        replace hM := Lib.hid hM
        by_cases hltq : q < y8
        · have hlt2q : (q : Int) < y8 := by omega
          have hql : q < a.ins.length := by rw [← ev.out]; exact hltq
          have hps := put_succ a.ins L q hql
          obtain ⟨gi, oi, ci, hvi, hei⟩ := hins.out.elem hql
          rw [← ev.out] at hvi
          cases hvi
          obtain ⟨⟨n0, n1, n2⟩, hz⟩ : ∃ z, a.ins[q] = z := ⟨_, rfl⟩
          rw [hz] at hei hps
          rw [← hL2.out] at hps
          have t0 := hkG.out.val (hei 0 _ rfl)
          have t1 := hkG.out.val (hei 1 _ rfl)
          have t2 := hkG.out.val (hei 2 _ rfl)
          simp only [shT, Nat.add_zero] at t0 t1 t2
          have hbI := heap_alloc_new wr (.cells #[.int .i64 n0, .int .u64 n1, .int .i64 n2] tI)
          have hkI := (Keeps.refl [] wr).alloc (.cells #[.int .i64 n0, .int .u64 n1, .int .i64 n2] tI)
          have hRI := Lib.hid (hR2.out.keeps hkI)
          have hkqI := Lib.hid (hkq.out.trans hkI)
          replace hbI := Lib.hid hbI
          replace hps := Lib.hid hps
          replace hz := Lib.hid hz
          clear hei hkI
          go_upto_region 10 with fail
          generalize (wr.alloc (.cells #[.int .i64 n0, .int .u64 n1, .int .i64 n2] tI)) = WI at *
          obtain ⟨XI, hXI⟩ : ∃ X, wr.heap.size = X := ⟨_, rfl⟩
          rw [hXI] at hbI ⊢
          replace hXI := Lib.hid hXI
          clear t0 t1 t2 i0 i1 i2 i3 i4 i5 i6 if' il g7
          (go_upto_region 10 with fail; iterate 8 go_step)
          go_cut [9] from 47 to 119 (fun i wx => ∃ kk : Nat, i = .int .i64 kk ∧ kk ≤ M ∧ Hid (∀ j (hj : j < L2.length), j < kk → tlt L2[j] (n0, n1, n2)) ∧ Hid (∀ hj : kk < L2.length, ¬ tlt L2[kk] (n0, n1, n2)) ∧ Hid (Keeps [] WI wx))
          case first =>
            go_wp2
            go_loopw [9] (fun i wr => ∃ kk : Nat, i = .int .i64 kk ∧ kk ≤ M ∧ Hid (∀ j (hj : j < L2.length), j < kk → tlt L2[j] (n0, n1, n2)) ∧ Hid (Keeps [] WI wr)) (fun i _ => M - (intOf i).toNat)
            case atStart => exact ⟨0, rfl, by omega, Lib.hid (fun _ _ h => by omega), Lib.hid (Keeps.refl _ _)⟩
            case round =>
              obtain ⟨kk, rfl, hkk, hno, hkr⟩ := hrel
              obtain ⟨z0, z1, z2⟩ := cells3t ((hkr.out.block XI (lt_of_blk hbI.out) (by simp)).trans hbI.out)
              by_cases hltk : kk < M
              · have hkl2 : kk < L2.length := by rw [hM.out]; exact hltk
                obtain ⟨gp, op, cp, hvp, hep⟩ := (hRI.out.keeps hkr.out).elem hkl2
                rw [hM.out] at hvp
                cases hvp
                obtain ⟨⟨p0, p1, p2⟩, hp⟩ : ∃ x, L2[kk] = x := ⟨_, rfl⟩
                rw [hp] at hep
                have f0 := hep 0 _ rfl
                have f1 := hep 1 _ rfl
                simp only [shT, Nat.add_zero] at f0 f1
                have hyes : tlt (p0, p1, p2) (n0, n1, n2) → ∀ j (hj : j < L2.length), j < kk + 1 → tlt L2[j] (n0, n1, n2) := fun hn j hj hjk => by
                  by_cases e : j = kk
                  · subst e; rw [hp]; exact hn
                  · exact hno.out j hj (by omega)
                have hnot : ¬ tlt (p0, p1, p2) (n0, n1, n2) → ∀ hj : kk < L2.length, ¬ tlt L2[kk] (n0, n1, n2) := fun hn hj => by rw [hp]; exact hn
                replace hyes := Lib.hid hyes
                replace hnot := Lib.hid hnot
                replace hp := Lib.hid hp
                clear hep
                by_cases a0 : p0 < n0
                · have b0 : decide (p0 < n0) = true := by simpa using a0
                  have hy := Lib.hid (hyes.out (.inl a0))
                  replace a0 := Lib.hid a0
                  go_wp2
                  (refine wp_region_quiet_lit (by kernel_rfl) (by kernel_rfl) ?_; (repeat (first | go_big_quiet_step (fail) | quiet_step (fail))); with_reducible refine wpQuiet_nil ?_; intro _ hw'; obtain ⟨nq, hw''⟩ := hw'; subst hw'')
                  go_wp2
                  go_roundw
                  case rel => exact ⟨kk + 1, rfl, by omega, hy, Lib.hid (hkr.out.drewN _)⟩
                  case measure => simp [intOf]; omega
                · have b0 : decide (p0 < n0) = false := by simpa using a0
                  by_cases a1 : p0 = n0
                  · have b1 : (p0 == n0) = true := by simpa using a1
                    by_cases a2 : p1 < n1
                    · have b2 : decide ((p1 : Int) < (n1 : Int)) = true := by simp; omega
                      have hy := Lib.hid (hyes.out (.inr ⟨a1, a2⟩))
                      replace a0 := Lib.hid a0
                      replace a1 := Lib.hid a1
                      replace a2 := Lib.hid a2
                      go_wp2
                      (refine wp_region_quiet_lit (by kernel_rfl) (by kernel_rfl) ?_; (repeat (first | go_big_quiet_step (fail) | quiet_step (fail))); with_reducible refine wpQuiet_nil ?_; intro _ hw'; obtain ⟨nq, hw''⟩ := hw'; subst hw'')
                      go_wp2
                      go_roundw
                      case rel => exact ⟨kk + 1, rfl, by omega, hy, Lib.hid (hkr.out.drewN _)⟩
                      case measure => simp [intOf]; omega
                    · have b2 : decide ((p1 : Int) < (n1 : Int)) = false := by simp; omega
                      have hy := Lib.hid (hnot.out (by unfold tlt; simp only; omega))
                      replace a0 := Lib.hid a0
                      replace a1 := Lib.hid a1
                      replace a2 := Lib.hid a2
                      go_wp2
                      (refine wp_region_quiet_lit (by kernel_rfl) (by kernel_rfl) ?_; (repeat (first | go_big_quiet_step (fail) | quiet_step (fail))); with_reducible refine wpQuiet_nil ?_; intro _ hw'; obtain ⟨nq, hw''⟩ := hw'; subst hw'')
                      go_wp2
                      go_meet
                      case rel => exact ⟨kk, rfl, by omega, hno, hy, Lib.hid (hkr.out.drewN _)⟩
                  · have b1 : (p0 == n0) = false := by simpa using a1
                    have hy := Lib.hid (hnot.out (by unfold tlt; simp only; omega))
                    replace a0 := Lib.hid a0
                    replace a1 := Lib.hid a1
                    go_wp2
                    (refine wp_region_quiet_lit (by kernel_rfl) (by kernel_rfl) ?_; (repeat (first | go_big_quiet_step (fail) | quiet_step (fail))); with_reducible refine wpQuiet_nil ?_; intro _ hw'; obtain ⟨nq, hw''⟩ := hw'; subst hw'')
                    go_wp2
                    go_meet
                    case rel => exact ⟨kk, rfl, by omega, hno, hy, Lib.hid (hkr.out.drewN _)⟩
              · have hy : Hid (∀ hj : kk < L2.length, ¬ tlt L2[kk] (n0, n1, n2)) := Lib.hid (fun hj => absurd hj (by rw [hM.out]; exact hltk))
                have hlt2 : decide ((kk : Int) < (M : Int)) = false := by simp; omega
                go_wp2
                (refine wp_region_quiet_lit (by kernel_rfl) (by kernel_rfl) ?_; (repeat (first | go_big_quiet_step (fail) | quiet_step (fail))); with_reducible refine wpQuiet_nil ?_; intro _ hw'; obtain ⟨nq, hw''⟩ := hw'; subst hw'')
                go_wp2
                go_meet
                case rel => exact ⟨kk, rfl, by omega, hno, hy, Lib.hid (hkr.out.drewN _)⟩
          case rest =>
            obtain ⟨kk, rfl, hkk, hno, hst, hkr⟩ := hcut
            have hat := putN_at (n0, n1, n2) L2 kk (by rw [hM.out]; exact hkk) hno.out hst.out
            obtain ⟨z0, z1, z2⟩ := cells3t ((hkr.out.block XI (lt_of_blk hbI.out) (by simp)).trans hbI.out)
            have hRc := Lib.hid (hRI.out.keeps hkr.out)
            have hkc := Lib.hid (hkqI.out.trans hkr.out)
            replace hat := Lib.hid hat
            go_upto_region 13 with fail
            go_cut [106] from 47 to 119 (fun b wx => b = .bool (decide (¬ ∃ hi : kk < L2.length, L2[kk].1 = n0 ∧ L2[kk].2.1 = n1)) ∧ Hid (Keeps [] wc wx))
            case first =>
              by_cases hltk : kk < M
              · have hkl2 : kk < L2.length := by rw [hM.out]; exact hltk
                have bk : ((kk : Int) == (M : Int)) = false := by simp; omega
                obtain ⟨gp, op, cp, hvp, hep⟩ := hRc.out.elem hkl2
                rw [hM.out] at hvp
                cases hvp
                obtain ⟨⟨p0, p1, p2⟩, hp⟩ : ∃ x, L2[kk] = x := ⟨_, rfl⟩
                rw [hp] at hep
                have f0 := hep 0 _ rfl
                have f1 := hep 1 _ rfl
                simp only [shT, Nat.add_zero] at f0 f1
                have hdec : ∀ q : Bool, (q = true ↔ ¬ (p0 = n0 ∧ p1 = n1)) → decide (¬ ∃ hi : kk < L2.length, L2[kk].1 = n0 ∧ L2[kk].2.1 = n1) = q := fun q hq => by
                  rw [Bool.eq_iff_iff, decide_eq_true_iff, hq]
                  exact not_congr ⟨fun ⟨_, h1, h2⟩ => by rw [hp] at h1 h2; exact ⟨h1, h2⟩, fun ⟨h1, h2⟩ => ⟨hkl2, by rw [hp]; exact h1, by rw [hp]; exact h2⟩⟩
                replace hdec := Lib.hid hdec
                replace hp := Lib.hid hp
                clear hep
                by_cases a1 : p0 = n0
                · have b1 : (p0 != n0) = false := by simpa using a1
                  by_cases a2 : p1 = n1
                  · have b2 : ((p1 : Int) != (n1 : Int)) = false := by simp [a2]
                    have hd := Lib.hid (hdec.out false (by simp [a1, a2]))
                    replace a1 := Lib.hid a1
                    replace a2 := Lib.hid a2
                    go_wp2
                    (refine wp_region_quiet_lit (by kernel_rfl) (by kernel_rfl) ?_; (repeat (first | go_big_quiet_step (fail) | quiet_step (fail))); with_reducible refine wpQuiet_nil ?_; intro _ hw'; obtain ⟨nq, hw''⟩ := hw'; subst hw'')
                    go_wp2
                    go_meet
                    case rel => exact ⟨by rw [hd.out], Lib.hid ((Keeps.refl _ _).drewN _)⟩
                  · have b2 : ((p1 : Int) != (n1 : Int)) = true := by simp; omega
                    have hd := Lib.hid (hdec.out true (by simp [a1, a2]))
                    replace a1 := Lib.hid a1
                    replace a2 := Lib.hid a2
                    go_wp2
                    (refine wp_region_quiet_lit (by kernel_rfl) (by kernel_rfl) ?_; (repeat (first | go_big_quiet_step (fail) | quiet_step (fail))); with_reducible refine wpQuiet_nil ?_; intro _ hw'; obtain ⟨nq, hw''⟩ := hw'; subst hw'')
                    go_wp2
                    go_meet
                    case rel => exact ⟨by rw [hd.out], Lib.hid ((Keeps.refl _ _).drewN _)⟩
                · have b1 : (p0 != n0) = true := by simpa using a1
                  have hd := Lib.hid (hdec.out true (by simp [a1]))
                  replace a1 := Lib.hid a1
                  go_wp2
                  (refine wp_region_quiet_lit (by kernel_rfl) (by kernel_rfl) ?_; (repeat (first | go_big_quiet_step (fail) | quiet_step (fail))); with_reducible refine wpQuiet_nil ?_; intro _ hw'; obtain ⟨nq, hw''⟩ := hw'; subst hw'')
                  go_wp2
                  go_meet
                  case rel => exact ⟨by rw [hd.out], Lib.hid ((Keeps.refl _ _).drewN _)⟩
              · have hd : decide (¬ ∃ hi : kk < L2.length, L2[kk].1 = n0 ∧ L2[kk].2.1 = n1) = true := decide_eq_true (fun ⟨h1, _⟩ => by rw [hM.out] at h1; exact hltk h1)
                have bk : ((kk : Int) == (M : Int)) = true := by simp; omega
                replace hd := Lib.hid hd
                go_wp2
                (refine wp_region_quiet_lit (by kernel_rfl) (by kernel_rfl) ?_; (repeat (first | go_big_quiet_step (fail) | quiet_step (fail))); with_reducible refine wpQuiet_nil ?_; intro _ hw'; obtain ⟨nq, hw''⟩ := hw'; subst hw'')
                go_wp2
                go_meet
                case rel => exact ⟨by rw [hd.out], Lib.hid ((Keeps.refl _ _).drewN _)⟩
            case rest =>
              obtain ⟨rfl, hk4⟩ := hcut
              by_cases hfd : ∃ hi : kk < L2.length, L2[kk].1 = n0 ∧ L2[kk].2.1 = n1
              · have hres : Hid (L2 = (a.ins.take (q + 1)).foldl (fun l x => putN x l) L) := Lib.hid (by rw [hps.out, hat.out, if_pos hfd])
                rw [decide_eq_false (fun h => h hfd)]
                have hR4 := Lib.hid (hRc.out.keeps hk4.out)
                have hk5 := Lib.hid (hkc.out.trans hk4.out)
                have hl5 : Hid (L2.length ≤ 1000 * k + (q + 1)) := Lib.hid (by have := hL2l.out; have := hM.out; omega)
                replace hfd := Lib.hid hfd
                rw [← hM.out] at hR4 ⊢
                go_wp2
                go_roundw
                case rel => exact ⟨q + 1, L2, rfl, by omega, hR4, hres, hl5, hk5⟩
                case measure => simp [intOf]; omega
              · have hres : Hid (L2.take kk ++ (n0, n1, n2) :: L2.drop kk = (a.ins.take (q + 1)).foldl (fun l x => putN x l) L) := Lib.hid (by rw [hps.out, hat.out, if_neg hfd])
                rw [decide_eq_true hfd]
                have hR4 := hRc.out.keeps hk4.out
                have hk5 := Lib.hid (hkc.out.trans hk4.out)
                have hbI4 := (hk4.out.block XI (lt_of_blk ((hkr.out.block XI (lt_of_blk hbI.out) (by simp)).trans hbI.out)) (by simp)).trans ((hkr.out.block XI (lt_of_blk hbI.out) (by simp)).trans hbI.out)
                have hXl := lt_of_blk hbI4
                have hT1 := hR4.init' kk (by rw [hM.out]; exact hkk)
                have hT2 := hR4.tail' kk (by rw [hM.out]; exact hkk)
                rw [hM.out] at hT2
                replace hT2 : shT.R wc (.slice (if pc = kk then pa else pa.map (·.add (kk * 3))) (M - kk) (pc - kk)) (L2.drop kk) := hT2
                have hlt1 : (L2.take kk).length = kk := by rw [List.length_take, hM.out]; omega
                have hlt2 : (L2.drop kk).length = M - kk := by rw [List.length_drop, hM.out]
                have hMb : M ≤ 10000000 := by have := hL2l.out; omega
                have f1 : (0 : Int) ≤ (kk : Int) := by omega
                have f2 : (kk : Int) ≤ (pc : Int) := by have := hM.out; omega
                have f3 : (kk : Int) ≤ (M : Int) := by omega
                have hfrE := Sh.O.fresh shT wc wc.heap.size tI (Nat.le_refl _)
                have hkE := (Keeps.refl [] wc).alloc (.cells #[] tI)
                have hsE : wc.heap.size ≤ (wc.alloc (.cells #[] tI)).heap.size := by simp
                replace hT1 := Lib.hid hT1
                replace hT2 := Lib.hid hT2
                replace hlt1 := Lib.hid hlt1
                replace hlt2 := Lib.hid hlt2
                replace hfrE := Lib.hid hfrE
                replace hkE := Lib.hid hkE
                replace hfd := Lib.hid hfd
                replace hbI4 := Lib.hid hbI4
                clear hR4 hk4 z0 z1 z2
                go_upto_region 15 with (first
                  | (at_builtin; (refine Sh.wpl_app shT wc.heap.size infoI rfl Tryz.underlying34 (.slice (some ⟨wc.heap.size, 0, none⟩) 0 0) (.slice pa kk pc) [] (L2.take kk) rfl _ _ rfl rfl rfl hfrE.out (hT1.out.keeps hkE.out) (by simp only [List.length_nil, hlt1.out]; omega) hsE ?_; intro v1 w1 hO1 hG1; rw [List.nil_append] at hO1; have hk1 := Lib.hid (hG1.keeps (a := wc) hkE.out (fun b hb => by simp [Value.ownBlock] at hb; omega)); obtain ⟨la, lc, rfl⟩ := hO1.form; rw [hlt1.out] at hO1 ⊢; replace hO1 := Lib.hid hO1; clear hG1))
                  | fail)
                obtain ⟨z0, z1, z2⟩ := cells3t ((hk1.out.block XI hXl (by simp)).trans hbI4.out)
                refine Free.wp_region_chain (fun i => i == 2 || i == 3 || i == 7) (fun i => true) (fun _ b => wc.heap.size ≤ b) (by kernel_rfl) (by kernel_rfl) (by kernel_rfl) ?_
                (repeat (first | (apply Free.cw_pure rfl rfl; (intro w'; go_simp <;> exact rfl); go_frame) | (apply Free.cw_steady rfl rfl rfl; (intro w' hS; have q0 := Free.sx_cell hS z0 (fun _ _ hT => absurd hT (by omega)); have q1 := Free.sx_cell hS z1 (fun _ _ hT => absurd hT (by omega)); have q2 := Free.sx_cell hS z2 (fun _ _ hT => absurd hT (by omega)); go_simp <;> exact rfl); go_frame) | (refine Free.cw_skip rfl ?_; go_frame)))
                refine Free.cw_loud rfl rfl (fun K hK => ?_)
                go_wp2
                refine hK _ _ rfl (Free.KeepsP.alloc _ _ _) ?_
                clear hK K
                have hmade := ((Sh.O.one shT w1 (n0, n1, n2) #[.int .i64 n0, .int .u64 n1, .int .i64 n2] tI 0 rfl (Nat.zero_le _)).r).keeps (Keeps.refl [] _).drew
                have hA9 : Keeps [] w1 (w1.alloc (.cells #[.int .i64 n0, .int .u64 n1, .int .i64 n2] tI)).drew := ((Keeps.refl _ _).alloc _).drew
                obtain ⟨bm, ebm⟩ : ∃ x, w1.heap.size = x := ⟨_, rfl⟩
                rw [ebm] at hmade ⊢
                generalize (w1.alloc (.cells #[.int .i64 n0, .int .u64 n1, .int .i64 n2] tI)).drew = w2 at *
                have hO2 := hO1.out.keeps hA9
                have hk2 := hk1.out.trans hA9
                replace hmade := Lib.hid hmade
                replace hO2 := Lib.hid hO2
                replace hk2 := Lib.hid hk2
                replace ebm := Lib.hid ebm
                clear hA9 hk1 hO1
                (repeat (first | (apply Free.cw_pure rfl rfl; (intro w'; go_simp <;> exact rfl); go_frame) | (apply Free.cw_steady rfl rfl rfl; (intro w' hS; have q0 := Free.sx_cell hS z0 (fun _ _ hT => absurd hT (by omega)); have q1 := Free.sx_cell hS z1 (fun _ _ hT => absurd hT (by omega)); have q2 := Free.sx_cell hS z2 (fun _ _ hT => absurd hT (by omega)); go_simp <;> exact rfl); go_frame) | (refine Free.cw_skip rfl ?_; go_frame)))
                refine Free.cw_loud rfl rfl (fun K hK => ?_)
                refine Sh.owp_app shT wc.heap.size infoI rfl Tryz.underlying34 (.slice la kk lc) (.slice (some ⟨bm, 0, none⟩) 1 1) (L2.take kk) [(n0, n1, n2)] (.tmp 112) (.tmp 114) rfl rfl rfl hO2.out hmade.out (by rw [hlt1.out]; simp; omega) hk2.out.size ?_
                intro v5 w5 hO5 hG5
                refine hK _ _ rfl (Free.KeepsP.of hG5.keepsO (fun b hb => hO2.out.ge b (by simpa using hb))) ?_
                clear hK K
                have hk5w := Lib.hid (hk2.out.fresh hG5.keepsO (fun b hb => .inr (hO2.out.ge b (by simpa using hb))))
                have hlen5 : (L2.take kk ++ [(n0, n1, n2)]).length = kk + 1 := by rw [List.length_append, hlt1.out]; rfl
                replace hO5 := Lib.hid hO5
                obtain ⟨a5, c5, rfl⟩ := hO5.out.form
                rw [hlen5] at hO5 ⊢
                replace hlen5 := Lib.hid hlen5
                clear hG5 hmade hO2 hk2
                (repeat (first | (apply Free.cw_pure rfl rfl; (intro w'; go_simp <;> exact rfl); go_frame) | (apply Free.cw_steady rfl rfl rfl; (intro w' hS; have q0 := Free.sx_cell hS z0 (fun _ _ hT => absurd hT (by omega)); have q1 := Free.sx_cell hS z1 (fun _ _ hT => absurd hT (by omega)); have q2 := Free.sx_cell hS z2 (fun _ _ hT => absurd hT (by omega)); go_simp <;> exact rfl); go_frame) | (refine Free.cw_skip rfl ?_; go_frame)))
                refine Free.cw_loud rfl rfl (fun K hK => ?_)
                refine Sh.owp_app shT wc.heap.size infoI rfl Tryz.underlying34 (.slice a5 (kk + 1) c5) (.slice (if pc = kk then pa else pa.map (·.add (kk * 3))) (M - kk) (pc - kk)) (L2.take kk ++ [(n0, n1, n2)]) (L2.drop kk) (.tmp 115) (.tmp 118) rfl rfl rfl hO5.out (hT2.out.keeps hk5w.out) (by rw [hlen5.out, hlt2.out]; omega) hk5w.out.size ?_
                intro v6 w6 hO6 hG6
                refine hK _ _ rfl (Free.KeepsP.of hG6.keepsO (fun b hb => hO5.out.ge b (by simpa using hb))) ?_
                clear hK K
                have hk6w := Lib.hid (hk5w.out.fresh hG6.keepsO (fun b hb => .inr (hO5.out.ge b (by simpa using hb))))
                rw [List.append_assoc, List.singleton_append, hres.out] at hO6
                have hR6 := Lib.hid hO6.r
                have hl6 : Hid (((a.ins.take (q + 1)).foldl (fun l x => putN x l) L).length ≤ 1000 * k + (q + 1)) := Lib.hid (by rw [← hres.out]; simp only [List.length_append, List.length_cons, hlt1.out, hlt2.out]; have := hL2l.out; omega)
                have hk7 := Lib.hid (hk5.out.trans hk6w.out)
                clear hG6 hO6
                (repeat (first | (apply Free.cw_pure rfl rfl; (intro w'; go_simp <;> exact rfl); go_frame) | (apply Free.cw_steady rfl rfl rfl; (intro w' hS; have q0 := Free.sx_cell hS z0 (fun _ _ hT => absurd hT (by omega)); have q1 := Free.sx_cell hS z1 (fun _ _ hT => absurd hT (by omega)); have q2 := Free.sx_cell hS z2 (fun _ _ hT => absurd hT (by omega)); go_simp <;> exact rfl); go_frame) | (refine Free.cw_skip rfl ?_; go_frame)))
                refine Free.cw_nil ?_
                go_wp2
                go_roundw
                case rel => exact ⟨q + 1, _, rfl, by omega, hR6, Lib.hid rfl, hl6, hk7⟩
                case measure => simp [intOf]; omega

        · have hlt2q : ¬ ((q : Int) < y8) := by omega
          have hqy : q = a.ins.length := by have := ev.out; omega
          have hLe : Hid (L2 = ofL (Y.take (k + 1)) m) := Lib.hid (by rw [hLs.out, hL2.out, hqy, List.take_length])
          have hLl2 : Hid (L2.length ≤ 1000 * (k + 1)) := Lib.hid (by have := hL2l.out; have := hM.out; omega)
          have hkz := Lib.hid (hkw.out.trans hkq.out)
          replace hqy := Lib.hid hqy
          go_wp2
          go_roundw
          case rel => exact ⟨k + 1, L2, rfl, by omega, hR2, hLe, hLl2, hkz⟩
          case measure => simp [intOf]; omega
    · have hlt2 : ¬ ((k : Int) < x6) := by omega
      have hkY : k = Y.length := by have := e1.out; omega
      have hLe : Hid (L = ofL Y m) := Lib.hid (by rw [hL.out, hkY, List.take_length])
      replace hkY := Lib.hid hkY
      go_wp2
      go_ret
      exact ⟨_, rfl, by rw [← hLe.out]; exact hR.out, hkF.out⟩
end Go.Proofs.YtiplgpefapeapaaGreatDoor

namespace Go.Proofs.YtiplgpefapeapaaGreatDoor
open Go.RowKit

theorem putZ_at (n : Int) : ∀ (l : List Int) (i : Nat), i ≤ l.length → (∀ j (hj : j < l.length), j < i → l[j] < n) → (∀ (hi : i < l.length), ¬ l[i] < n) → putZ n l = if ∃ hi : i < l.length, l[i] = n then l else l.take i ++ n :: l.drop i
  | [], i, hi, _, _ => by
    have : i = 0 := by simpa using hi
    subst this
    simp [putZ]
  | x :: r, 0, _, _, h2 => by
    have := h2 (by simp)
    simp only [List.getElem_cons_zero] at this
    unfold putZ
    rw [if_neg this]
    by_cases e : x = n
    · simp [e]
    · rw [if_neg e, if_neg (fun ⟨_, h⟩ => e (by simpa using h))]
      simp
  | x :: r, i + 1, hi, h1, h2 => by
    have h0 := h1 0 (by simp) (by omega)
    simp only [List.getElem_cons_zero] at h0
    unfold putZ
    rw [if_pos h0, putZ_at n r i (by simpa using hi) (fun j hj hji => by have := h1 (j + 1) (by simpa using hj) (by omega); simpa using this) (fun hi2 => by have := h2 (by simpa using hi2); simpa using this)]
    by_cases e : ∃ hi : i < r.length, r[i] = n
    · rw [if_pos e, if_pos (by obtain ⟨h3, h4⟩ := e; exact ⟨by simpa using h3, by simpa using h4⟩)]
    · rw [if_neg e, if_neg (fun ⟨h3, h4⟩ => e ⟨by simpa using h3, by simpa using h4⟩)]
      simp
theorem mR_succ (Y : List Ans) (k : Nat) (h : k < Y.length) : mR (Y.take (k + 1)) = putZ Y[k].m (mR (Y.take k)) := foldl_succ _ _ _ _ h
def MachPost (w : World) (Y : List Ans) (e : Ending) (w' : World) : Prop := ∃ v, e = .returned v ∧ shZ.R w' v (mR Y) ∧ (mR Y).length ≤ Y.length ∧ Keeps [] w w'
set_option maxRecDepth 100000 in
set_option maxHeartbeats 16000000 in
theorem machinesR_c (w : World) (x : CtV) (Y : List Ans) (h : RdA w (slv x.va) Y) (hl : Y.length ≤ 1000) :
    Calls Tryz.prog 11 #[ctV x] w fun e w' => MachPost w Y e w' := by
  obtain ⟨x0, x1, x2, x3, x4, ⟨x5, x6, x7⟩, ⟨x8, x9, x10⟩⟩ := x
  simp only [slv] at h
  obtain ⟨_, _, e1, hla, hca⟩ := h.form
  simp only [Value.slice.injEq] at e1
  obtain ⟨-, e1, -⟩ := e1
  have hx6m : x6 ≤ 1000 := by omega
  have hb0 := ((Keeps.refl [] (w.alloc (.cells #[.int .i64 x0, .int .i64 x1, .int .i64 x2, .int .u64 x3, .int .i64 x4, .slice x5 x6 x7, .slice x8 x9 x10] tCt))).alloc (.cells #[] 3)).block _ (by simp) (by simp) |>.trans (heap_alloc_new w (.cells #[.int .i64 x0, .int .i64 x1, .int .i64 x2, .int .u64 x3, .int .i64 x4, .slice x5 x6 x7, .slice x8 x9 x10] tCt))
  have hkA : Keeps [] w ((w.alloc (.cells #[.int .i64 x0, .int .i64 x1, .int .i64 x2, .int .u64 x3, .int .i64 x4, .slice x5 x6 x7, .slice x8 x9 x10] tCt)).alloc (.cells #[] 3)) := ((Keeps.refl _ _).alloc _).alloc _
  have hfr := (Sh.O.fresh shZ (w.alloc (.cells #[.int .i64 x0, .int .i64 x1, .int .i64 x2, .int .u64 x3, .int .i64 x4, .slice x5 x6 x7, .slice x8 x9 x10] tCt)) w.heap.size 3 (by simp)).r
  rw [show (w.alloc (.cells #[.int .i64 x0, .int .i64 x1, .int .i64 x2, .int .u64 x3, .int .i64 x4, .slice x5 x6 x7, .slice x8 x9 x10] tCt)).heap.size = w.heap.size + 1 by simp] at hfr
  replace h := Lib.hid h
  replace e1 := Lib.hid e1
  replace hb0 := Lib.hid hb0
  replace hkA := Lib.hid hkA
  replace hfr := Lib.hid hfr
  simp only [ctV, slv]
  go_enter Tryz.func11, Tryz.ntmps11
  go_wp2
  generalize ((w.alloc (.cells #[.int .i64 x0, .int .i64 x1, .int .i64 x2, .int .u64 x3, .int .i64 x4, .slice x5 x6 x7, .slice x8 x9 x10] tCt)).alloc (.cells #[] 3)) = W at *
  obtain ⟨B, hB⟩ : ∃ B, w.heap.size = B := ⟨_, rfl⟩
  rw [hB] at hb0 hfr ⊢
  replace hB := Lib.hid hB
  go_loopw [3, 4] (fun ov i wr => ∃ (k : Nat) (L : List Int), i = .int .i64 k ∧ k ≤ x6 ∧ Hid (shZ.R wr ov L) ∧ Hid (L = mR (Y.take k)) ∧ Hid (L.length ≤ k) ∧ Hid (Keeps [] W wr)) (fun _ i _ => x6 - (intOf i).toNat)
  case atStart => exact ⟨0, [], rfl, by omega, hfr, Lib.hid rfl, Lib.hid (by simp), Lib.hid (Keeps.refl _ _)⟩
  case round =>
    obtain ⟨k, L, rfl, hk, hR, hL, hLl, hkw⟩ := hrel
    have hAr := (hkw.out.block _ (lt_of_blk hb0.out) (by simp)).trans hb0.out
    obtain ⟨i0, i1, i2, i3, i4, i5, i6, if', il⟩ := cl7 hAr
    have hkF := Lib.hid (hkA.out.trans hkw.out)
    obtain ⟨oa, oc, hov, hoc1, hoc2, _⟩ := hR.out.form
    subst hov
    have hoc3 : oc ≤ 9223372036854775807 := by unfold maxLen at hoc2; omega
    by_cases hlt : k < x6
    · have hlt2 : (k : Int) < x6 := by omega
      have hkl : k < Y.length := by rw [← e1.out]; exact hlt
      have hsucc := mR_succ Y k hkl
      rw [← hL.out] at hsucc
      obtain ⟨g, o, c', y, hv, hy, he⟩ := h.out.elem hkl
      rw [← e1.out] at hv
      cases hv
      obtain ⟨a, ha⟩ : ∃ a, Y[k] = a := ⟨_, rfl⟩
      rw [ha] at hy hsucc
      have hm0 := hy.m
      obtain ⟨y0, y1, y2, y3, y4, y5, y6, y7, y8, y9⟩ := y
      simp only at hm0
      have g0 := hkF.out.val (he 0 _ rfl)
      simp only [AnV.v, Nat.add_zero] at g0
      rw [← hm0] at hsucc
      obtain ⟨M, hM⟩ : ∃ N, L.length = N := ⟨_, rfl⟩
      rw [hM] at hR hLl ⊢
      replace hM := Lib.hid hM
      replace ha := Lib.hid ha
      replace hm0 := Lib.hid hm0
      replace hsucc := Lib.hid hsucc
      clear he hy
      (go_upto_region 6 with fail; iterate 8 go_step)
      go_cut [6] from 9 to 60 (fun i wx => ∃ kk : Nat, i = .int .i64 kk ∧ kk ≤ M ∧ Hid (∀ j (hj : j < L.length), j < kk → L[j] < y0) ∧ Hid (∀ hj : kk < L.length, ¬ L[kk] < y0) ∧ Hid (Keeps [] wr wx))
      case first =>
        go_wp2
        generalize wr = WI at *
        go_loopw [6] (fun i wr => ∃ kk : Nat, i = .int .i64 kk ∧ kk ≤ M ∧ Hid (∀ j (hj : j < L.length), j < kk → L[j] < y0) ∧ Hid (Keeps [] WI wr)) (fun i _ => M - (intOf i).toNat)
        case atStart => exact ⟨0, rfl, by omega, Lib.hid (fun _ _ h => by omega), Lib.hid (Keeps.refl _ _)⟩
        case round =>
          obtain ⟨kk, rfl, hkk, hno, hkr⟩ := hrel
          by_cases hltk : kk < M
          · have hltk2 : (kk : Int) < M := by omega
            have hltk3 : decide ((kk : Int) < (M : Int)) = true := by simp; omega
            have hkl2 : kk < L.length := by rw [hM.out]; exact hltk
            obtain ⟨gp, op, cp, hvp, hep⟩ := (hR.out.keeps hkr.out).elem hkl2
            rw [hM.out] at hvp
            cases hvp
            obtain ⟨p0, hp⟩ : ∃ x, L[kk] = x := ⟨_, rfl⟩
            rw [hp] at hep
            have f0 := hep 0 _ rfl
            simp only [shZ, Nat.add_zero, Nat.mul_one] at f0
            have hyes : p0 < y0 → ∀ j (hj : j < L.length), j < kk + 1 → L[j] < y0 := fun hn j hj hjk => by
              by_cases e : j = kk
              · subst e; rw [hp]; exact hn
              · exact hno.out j hj (by omega)
            have hnot : ¬ p0 < y0 → ∀ hj : kk < L.length, ¬ L[kk] < y0 := fun hn hj => by rw [hp]; exact hn
            replace hyes := Lib.hid hyes
            replace hnot := Lib.hid hnot
            replace hp := Lib.hid hp
            clear hep
            by_cases a0 : p0 < y0
            · have b0 : decide (p0 < y0) = true := by simpa using a0
              have hy := Lib.hid (hyes.out a0)
              replace a0 := Lib.hid a0
              go_wp2
              go_roundw
              case rel => exact ⟨kk + 1, rfl, by omega, hy, hkr⟩
              case measure => simp [intOf]; omega
            · have b0 : decide (p0 < y0) = false := by simpa using a0
              have hy := Lib.hid (hnot.out a0)
              replace a0 := Lib.hid a0
              go_wp2
              go_meet
              case rel => exact ⟨kk, rfl, by omega, hno, hy, hkr⟩
          · have hy : Hid (∀ hj : kk < L.length, ¬ L[kk] < y0) := Lib.hid (fun hj => absurd hj (by rw [hM.out]; exact hltk))
            have hlt2 : decide ((kk : Int) < (M : Int)) = false := by simp; omega
            go_wp2
            go_meet
            case rel => exact ⟨kk, rfl, by omega, hno, hy, hkr⟩
      case rest =>
        obtain ⟨kk, rfl, hkk, hno, hst, hkr⟩ := hcut
        have hat := putZ_at y0 L kk (by rw [hM.out]; exact hkk) hno.out hst.out
        have hRc := Lib.hid (hR.out.keeps hkr.out)
        have hkc := Lib.hid (hkw.out.trans hkr.out)
        replace hat := Lib.hid hat
        clear i0 i1 i2 i3 i4 i5 i6 if' il g0
        go_upto_region 9 with fail
        go_cut [47] from 9 to 60 (fun b wx => b = .bool (decide (¬ ∃ hi : kk < L.length, L[kk] = y0)) ∧ wx = wc)
        case first =>
          by_cases hltk : kk < M
          · have hltk2 : (kk : Int) < M := by omega
            have hkl2 : kk < L.length := by rw [hM.out]; exact hltk
            have bk : ((kk : Int) == (M : Int)) = false := by simp; omega
            obtain ⟨gp, op, cp, hvp, hep⟩ := hRc.out.elem hkl2
            rw [hM.out] at hvp
            cases hvp
            obtain ⟨p0, hp⟩ : ∃ x, L[kk] = x := ⟨_, rfl⟩
            rw [hp] at hep
            have f0 := hep 0 _ rfl
            simp only [shZ, Nat.add_zero, Nat.mul_one] at f0
            have hdec : ∀ q : Bool, (q = true ↔ ¬ p0 = y0) → decide (¬ ∃ hi : kk < L.length, L[kk] = y0) = q := fun q hq => by
              rw [Bool.eq_iff_iff, decide_eq_true_iff, hq]
              exact not_congr ⟨fun ⟨_, h1⟩ => by rw [hp] at h1; exact h1, fun h1 => ⟨hkl2, by rw [hp]; exact h1⟩⟩
            replace hdec := Lib.hid hdec
            replace hp := Lib.hid hp
            clear hep
            by_cases a1 : p0 = y0
            · have b1 : (p0 != y0) = false := by simpa using a1
              have hd := Lib.hid (hdec.out false (by simp [a1]))
              replace a1 := Lib.hid a1
              go_wp2
              go_meet
              case rel => exact ⟨by rw [hd.out], rfl⟩
            · have b1 : (p0 != y0) = true := by simpa using a1
              have hd := Lib.hid (hdec.out true (by simp [a1]))
              replace a1 := Lib.hid a1
              go_wp2
              go_meet
              case rel => exact ⟨by rw [hd.out], rfl⟩
          · have hd : decide (¬ ∃ hi : kk < L.length, L[kk] = y0) = true := decide_eq_true (fun ⟨h1, _⟩ => by rw [hM.out] at h1; exact hltk h1)
            have bk : ((kk : Int) == (M : Int)) = true := by simp; omega
            replace hd := Lib.hid hd
            go_wp2
            go_meet
            case rel => exact ⟨by rw [hd.out], rfl⟩
        case rest =>
          obtain ⟨rfl, hwe⟩ := hcut
          subst hwe
          rename_i wz
          by_cases hfd : ∃ hi : kk < L.length, L[kk] = y0
          · have hres : Hid (L = mR (Y.take (k + 1))) := Lib.hid (by rw [hsucc.out, hat.out, if_pos hfd])
            rw [decide_eq_false (fun h => h hfd)]
            have hl5 : Hid (L.length ≤ k + 1) := Lib.hid (by have := hLl.out; have := hM.out; omega)
            replace hfd := Lib.hid hfd
            rw [← hM.out] at hRc ⊢
            go_wp2
            go_roundw
            case rel => exact ⟨k + 1, L, rfl, by omega, hRc, hres, hl5, hkc⟩
            case measure => simp [intOf]; omega
          · have hres : Hid (L.take kk ++ y0 :: L.drop kk = mR (Y.take (k + 1))) := Lib.hid (by rw [hsucc.out, hat.out, if_neg hfd])
            rw [decide_eq_true hfd]
            have hT1 := hRc.out.init' kk (by rw [hM.out]; exact hkk)
            have hT2 := hRc.out.tail' kk (by rw [hM.out]; exact hkk)
            rw [hM.out] at hT2
            replace hT2 : shZ.R wc (.slice (if oc = kk then oa else oa.map (·.add (kk * 1))) (M - kk) (oc - kk)) (L.drop kk) := hT2
            rw [Nat.mul_one] at hT2
            have hlt1 : (L.take kk).length = kk := by rw [List.length_take, hM.out]; omega
            have hlt2 : (L.drop kk).length = M - kk := by rw [List.length_drop, hM.out]
            have hMb : M ≤ 1000 := by have := hLl.out; omega
            have f1 : (0 : Int) ≤ (kk : Int) := by omega
            have f2 : (kk : Int) ≤ (oc : Int) := by have := hM.out; omega
            have f3 : (kk : Int) ≤ (M : Int) := by omega
            have hfrE := Sh.O.fresh shZ wc wc.heap.size 3 (Nat.le_refl _)
            have hkE := (Keeps.refl [] wc).alloc (.cells #[] 3)
            have hsE : wc.heap.size ≤ (wc.alloc (.cells #[] 3)).heap.size := by simp
            replace hT1 := Lib.hid hT1
            replace hT2 := Lib.hid hT2
            replace hlt1 := Lib.hid hlt1
            replace hlt2 := Lib.hid hlt2
            replace hfrE := Lib.hid hfrE
            replace hkE := Lib.hid hkE
            replace hfd := Lib.hid hfd
            go_upto_region 11 with (first
              | (at_builtin; (refine Sh.wpl_app shZ wc.heap.size infoZ rfl Tryz.underlying37 (.slice (some ⟨wc.heap.size, 0, none⟩) 0 0) (.slice oa kk oc) [] (L.take kk) rfl _ _ rfl rfl rfl hfrE.out (hT1.out.keeps hkE.out) (by simp only [List.length_nil, hlt1.out]; omega) hsE ?_; intro v1 w1 hO1 hG1; rw [List.nil_append] at hO1; have hk1 := Lib.hid (hG1.keeps (a := wc) hkE.out (fun b hb => by simp [Value.ownBlock] at hb; omega)); obtain ⟨la, lc, rfl⟩ := hO1.form; rw [hlt1.out] at hO1 ⊢; replace hO1 := Lib.hid hO1; clear hG1))
              | fail)
            refine Free.wp_region_chain (fun i => i == 2 || i == 3 || i == 7) (fun i => true) (fun _ b => wc.heap.size ≤ b) (by kernel_rfl) (by kernel_rfl) (by kernel_rfl) ?_
            (repeat (apply Free.cw_pure rfl rfl; (intro w'; go_simp <;> exact rfl); go_frame))
            refine Free.cw_loud rfl rfl (fun K hK => ?_)
            go_wp2
            refine hK _ _ rfl (Free.KeepsP.alloc _ _ _) ?_
            clear hK K
            have hmade := ((Sh.O.one shZ w1 y0 #[.int .i64 y0] 3 0 rfl (Nat.zero_le _)).r).keeps (Keeps.refl [] _).drew
            have hA9 : Keeps [] w1 (w1.alloc (.cells #[.int .i64 y0] 3)).drew := ((Keeps.refl _ _).alloc _).drew
            obtain ⟨bm, ebm⟩ : ∃ x, w1.heap.size = x := ⟨_, rfl⟩
            rw [ebm] at hmade ⊢
            generalize (w1.alloc (.cells #[.int .i64 y0] 3)).drew = w2 at *
            have hO2 := hO1.out.keeps hA9
            have hk2 := hk1.out.trans hA9
            replace hmade := Lib.hid hmade
            replace hO2 := Lib.hid hO2
            replace hk2 := Lib.hid hk2
            replace ebm := Lib.hid ebm
            clear hA9 hk1 hO1
            (repeat (apply Free.cw_pure rfl rfl; (intro w'; go_simp <;> exact rfl); go_frame))
            refine Free.cw_loud rfl rfl (fun K hK => ?_)
            refine Sh.owp_app shZ wc.heap.size infoZ rfl Tryz.underlying37 (.slice la kk lc) (.slice (some ⟨bm, 0, none⟩) 1 1) (L.take kk) [y0] (.tmp 53) (.tmp 55) rfl rfl rfl hO2.out hmade.out (by rw [hlt1.out]; simp; omega) hk2.out.size ?_
            intro v5 w5 hO5 hG5
            refine hK _ _ rfl (Free.KeepsP.of hG5.keepsO (fun b hb => hO2.out.ge b (by simpa using hb))) ?_
            clear hK K
            have hk5w := Lib.hid (hk2.out.fresh hG5.keepsO (fun b hb => .inr (hO2.out.ge b (by simpa using hb))))
            have hlen5 : (L.take kk ++ [y0]).length = kk + 1 := by rw [List.length_append, hlt1.out]; rfl
            replace hO5 := Lib.hid hO5
            obtain ⟨a5, c5, rfl⟩ := hO5.out.form
            rw [hlen5] at hO5 ⊢
            replace hlen5 := Lib.hid hlen5
            clear hG5 hmade hO2 hk2
            (repeat (apply Free.cw_pure rfl rfl; (intro w'; go_simp <;> exact rfl); go_frame))
            refine Free.cw_loud rfl rfl (fun K hK => ?_)
            refine Sh.owp_app shZ wc.heap.size infoZ rfl Tryz.underlying37 (.slice a5 (kk + 1) c5) (.slice (if oc = kk then oa else oa.map (·.add kk)) (M - kk) (oc - kk)) (L.take kk ++ [y0]) (L.drop kk) (.tmp 56) (.tmp 59) rfl rfl rfl hO5.out (hT2.out.keeps hk5w.out) (by rw [hlen5.out, hlt2.out]; omega) hk5w.out.size ?_
            intro v6 w6 hO6 hG6
            refine hK _ _ rfl (Free.KeepsP.of hG6.keepsO (fun b hb => hO5.out.ge b (by simpa using hb))) ?_
            clear hK K
            have hk6w := Lib.hid (hk5w.out.fresh hG6.keepsO (fun b hb => .inr (hO5.out.ge b (by simpa using hb))))
            rw [List.append_assoc, List.singleton_append, hres.out] at hO6
            have hR6 := Lib.hid hO6.r
            have hl6 : Hid ((mR (Y.take (k + 1))).length ≤ k + 1) := Lib.hid (by rw [← hres.out]; simp only [List.length_append, List.length_cons, hlt1.out, hlt2.out]; have := hLl.out; omega)
            have hk7 := Lib.hid (hkc.out.trans hk6w.out)
            clear hG6 hO6
            (repeat (apply Free.cw_pure rfl rfl; (intro w'; go_simp <;> exact rfl); go_frame))
            refine Free.cw_nil ?_
            go_wp2
            go_roundw
            case rel => exact ⟨k + 1, _, rfl, by omega, hR6, Lib.hid rfl, hl6, hk7⟩
            case measure => simp [intOf]; omega
    · have hlt2 : ¬ ((k : Int) < x6) := by omega
      have hkY : k = Y.length := by have := e1.out; omega
      have hLe : Hid (L = mR Y) := Lib.hid (by rw [hL.out, hkY, List.take_length])
      have hLm : Hid (L.length ≤ Y.length) := Lib.hid (by have := hLl.out; omega)
      replace hkY := Lib.hid hkY
      go_wp2
      go_ret
      exact ⟨_, rfl, by rw [← hLe.out]; exact hR.out, by rw [← hLe.out]; exact hLm.out, hkF.out⟩
end Go.Proofs.YtiplgpefapeapaaGreatDoor

namespace Go.Proofs.YtiplgpefapeapaaGreatDoor
namespace Free
open Go Go.RowKit

/-- What stays of an operation if only its edges, and the numbers of operations, are changed. -/
structure Like (o o' : Oper) : Prop where
  op : o'.op = o.op
  dst : o'.dst = o.dst
  type : o'.type = o.type
theorem Like.refl (o : Oper) : Like o o := ⟨rfl, rfl, rfl⟩
theorem Like.wp {P : Program} {o o' : Oper} (h : Like o o') {a : Act} {w : World} {K : Act → World → Prop} {Q : Exit → Act → World → Prop} (hw : o'.wp P a w K Q) : o.wp P a w K Q := by
  obtain ⟨d, op, t, p, af, g⟩ := o
  obtain ⟨d', op', t', p', af', g'⟩ := o'
  obtain ⟨h1, h2, h3⟩ := h
  simp only at h1 h2 h3
  subst h1 h2 h3
  exact hw
variable {P : Program} {Q : Exit → Act → World → Prop}
/-- The operations of a region under other numbers. -/
structure Ren (ops ops' : Array Oper) (p : Nat → Nat) : Prop where
  size : ops'.size = ops.size
  lt : ∀ i, p i < ops.size ↔ i < ops.size
  inj : ∀ i j, p i = p j → i = j
  sur : ∀ j, ∃ i, p i = j
  like : ∀ i o, ops[i]? = some o → ∃ o', ops'[p i]? = some o' ∧ Like o o' ∧ ∀ tmps, Region.wanted o' (yielded ops' tmps) = Region.wanted o (yielded ops tmps)
def RelL (n : Nat) (p : Nat → Nat) (L L' : Array Bool) : Prop := L.size = n ∧ L'.size = n ∧ ∀ i, L'.getD (p i) false = L.getD i false
theorem RelL.set {n : Nat} {p : Nat → Nat} {L L' : Array Bool} (h : RelL n p L L') (hp : ∀ i, p i < n ↔ i < n) (hi : ∀ i j, p i = p j → i = j) (i : Nat) : RelL n p (L.setIfInBounds i true) (L'.setIfInBounds (p i) true) := by
  obtain ⟨h1, h2, h3⟩ := h
  refine ⟨by simp [h1], by simp [h2], fun j => ?_⟩
  have h4 := h3 j
  have h5 := hp i
  simp only [Array.getD_eq_getD_getElem?, Array.getElem?_setIfInBounds, h1, h2] at h4 ⊢
  by_cases e : i = j
  · subst e
    simp only [if_true]
    by_cases hn : i < n
    · rw [if_pos hn, if_pos (h5.2 hn)]
    · rw [if_neg hn, if_neg (fun hh => hn (h5.1 hh))]
  · rw [if_neg e, if_neg (fun hh => e (hi _ _ hh))]
    exact h4
/-- Which operations are ready. -/
def Go1 (ops : Array Oper) (L : Array Bool) (o : Oper) : Prop := ∀ e ∈ o.after, Region.binds .any e = true → L.getD e.on false = true
def renI (c f i : Nat) : Nat := if i = f then c else if c ≤ i ∧ i < f then i + 1 else i
def addA (o : Oper) (on : Nat) : Oper := { o with after := o.after.push ⟨on, .data⟩ }
def renO (c f : Nat) (o : Oper) : Oper := { o with after := o.after.map (fun e => { e with on := renI c f e.on }), guard := o.guard.map fun g => (renI c f g.1, g.2) }
def ops1L (l : List Oper) (c f : Nat) : List Oper := l.mapIdx fun i o => if i = f then addA o c else o
/-- `f` ahead of `c`. -/
def order2 (l : List Oper) (c f : Nat) : List Oper := l.take c ++ ((l.drop f).take 1 ++ ((l.drop c).take (f - c) ++ l.drop (f + 1)))
def ops2L (l : List Oper) (c f : Nat) : List Oper := (order2 l c f).mapIdx fun k o => renO c f (if k = c + 1 then addA o f else o)
theorem Like.trans {a b c : Oper} (h : Like a b) (k : Like b c) : Like a c := ⟨k.op.trans h.op, k.dst.trans h.dst, k.type.trans h.type⟩
theorem go_addA {ops : Array Oper} {L : Array Bool} {o : Oper} {on : Nat} : Go1 ops L (addA o on) ↔ Go1 ops L o ∧ L.getD on false = true := by
  unfold Go1 addA
  simp only [Array.mem_push]
  constructor
  · exact fun h => ⟨fun e he => h e (.inl he), h ⟨on, .data⟩ (.inr rfl) rfl⟩
  · rintro ⟨h1, h2⟩ e (he | rfl) hb
    · exact h1 e he hb
    · exact h2
section
variable {l : List Oper} {c f : Nat}
theorem ops1_get (i : Nat) : (ops1L l c f)[i]? = (l[i]?).map fun o => if i = f then addA o c else o := by
  simp [ops1L, List.getElem?_mapIdx]
theorem e1 (L L' : Array Bool) (hL : RelL l.toArray.size (fun i => i) L L') (i : Nat) (o o' : Oper) (ho : l.toArray[i]? = some o) (ho' : (ops1L l c f).toArray[i]? = some o') :
    Go1 (ops1L l c f).toArray L' o' ↔ Go1 l.toArray L o ∧ (i = f → L.getD c false = true) := by
  simp only [List.getElem?_toArray] at ho ho'
  rw [ops1_get, ho] at ho'
  simp only [Option.map_some, Option.some.injEq] at ho'
  subst ho'
  have hs : ∀ x, Go1 (ops1L l c f).toArray L' x ↔ Go1 l.toArray L x := fun x => by
    unfold Go1
    exact ⟨fun h e he hb => (hL.2.2 e.on) ▸ h e he hb, fun h e he hb => (hL.2.2 e.on).symm ▸ h e he hb⟩
  rw [hs]
  by_cases e : i = f
  · rw [if_pos e, go_addA]; exact ⟨fun h => ⟨h.1, fun _ => h.2⟩, fun h => ⟨h.1, h.2 e⟩⟩
  · rw [if_neg e]; exact ⟨fun h => ⟨h, fun h2 => absurd h2 e⟩, fun h => h.1⟩
theorem order2_get (hc : c < f) (hf : f < l.length) (i : Nat) : (order2 l c f)[renI c f i]? = l[i]? := by
  have hl1 : (l.take c).length = c := by simp; omega
  have hl2 : ((l.drop f).take 1).length = 1 := by simp; omega
  have hl3 : ((l.drop c).take (f - c)).length = f - c := by simp; omega
  unfold order2 renI
  by_cases h1 : i = f
  · subst h1
    rw [if_pos rfl, List.getElem?_append_right (by omega), hl1, Nat.sub_self, List.getElem?_append_left (by omega), List.getElem?_take_of_lt (by omega), List.getElem?_drop]; rfl
  · rw [if_neg h1]
    by_cases h2 : c ≤ i ∧ i < f
    · rw [if_pos h2, List.getElem?_append_right (by omega), hl1, List.getElem?_append_right (by omega), hl2, List.getElem?_append_left (by omega), List.getElem?_take_of_lt (by omega), List.getElem?_drop]
      congr 1; omega
    · rw [if_neg h2]
      rcases Nat.lt_or_ge i c with h3 | h3
      · rw [List.getElem?_append_left (by omega), List.getElem?_take_of_lt h3]
      · rw [List.getElem?_append_right (by omega), hl1, List.getElem?_append_right (by omega), hl2, List.getElem?_append_right (by omega), hl3, List.getElem?_drop]
        congr 1; omega
theorem ops2_get (hc : c < f) (hf : f < l.length) (i : Nat) : (ops2L l c f)[renI c f i]? = (l[i]?).map fun o => renO c f (if i = c then addA o f else o) := by
  unfold ops2L
  rw [List.getElem?_mapIdx, order2_get hc hf]
  have : renI c f i = c + 1 ↔ i = c := by
    unfold renI
    split
    · omega
    · split <;> omega
  simp only [this]
theorem e2 (hc : c < f) (hf : f < l.length) (L L' : Array Bool) (hL : RelL l.toArray.size (renI c f) L L') (i : Nat) (o o' : Oper) (ho : l.toArray[i]? = some o) (ho' : (ops2L l c f).toArray[renI c f i]? = some o') :
    Go1 (ops2L l c f).toArray L' o' ↔ Go1 l.toArray L o ∧ (i = c → L.getD f false = true) := by
  simp only [List.getElem?_toArray] at ho ho'
  rw [ops2_get hc hf, ho] at ho'
  simp only [Option.map_some, Option.some.injEq] at ho'
  subst ho'
  have hs : ∀ x, Go1 (ops2L l c f).toArray L' (renO c f x) ↔ Go1 l.toArray L x := fun x => by
    unfold Go1 renO
    simp only [Array.mem_map, forall_exists_index, and_imp, forall_apply_eq_imp_iff₂]
    exact ⟨fun h e he hb => (hL.2.2 e.on) ▸ h e he hb, fun h e he hb => (hL.2.2 e.on).symm ▸ h e he hb⟩
  rw [hs]
  by_cases e : i = c
  · rw [if_pos e, go_addA]; exact ⟨fun h => ⟨h.1, fun _ => h.2⟩, fun h => ⟨h.1, h.2 e⟩⟩
  · rw [if_neg e]; exact ⟨fun h => ⟨h, fun h2 => absurd h2 e⟩, fun h => h.1⟩
end
theorem Like.symm {o o' : Oper} (h : Like o o') : Like o' o := ⟨h.op.symm, h.dst.symm, h.type.symm⟩
end Free
end Go.Proofs.YtiplgpefapeapaaGreatDoor

namespace Go.Proofs.YtiplgpefapeapaaGreatDoor
open Go.RowKit

theorem putF_len : ∀ (xs l : List T3), (xs.foldl (fun l x => putN x l) l).length ≤ l.length + xs.length
  | [], l => by simp
  | x :: r, l => by
    rw [List.foldl_cons]
    have h3 := putF_len r (putN x l)
    have h4 := putN_len x l
    simp only [List.length_cons]
    omega
theorem ofL_len (Y : List Ans) (m : Int) (h : ∀ a ∈ Y, a.ins.length ≤ 1000) : (ofL Y m).length ≤ 1000 * Y.length := by
  suffices hs : ∀ (Y : List Ans) (l : List T3), (∀ a ∈ Y, a.ins.length ≤ 1000) → (Y.foldl (ofA m) l).length ≤ l.length + 1000 * Y.length by
    have := hs Y [] h
    unfold ofL
    simpa using this
  intro Y
  induction Y with
  | nil => intro l _; simp
  | cons a Y ih =>
    intro l h
    rw [List.foldl_cons]
    have h1 := ih (ofA m l a) (fun b hb => h b (by simp [hb]))
    have h2 : (ofA m l a).length ≤ l.length + a.ins.length := by
      unfold ofA
      split
      · exact putF_len a.ins l
      · omega
    have h3 := h a (by simp)
    simp only [List.length_cons]
    omega
end Go.Proofs.YtiplgpefapeapaaGreatDoor

namespace Go.Proofs.YtiplgpefapeapaaGreatDoor
open Go.RowKit

/-- The specification's list. -/
def scL (Y : List Ans) : List T3 := (mR Y).flatMap (ofL Y)
def scLk (Y : List Ans) (k : Nat) : List T3 := ((mR Y).take k).flatMap (ofL Y)
theorem scLk_succ (Y : List Ans) (k : Nat) (h : k < (mR Y).length) : scLk Y (k + 1) = scLk Y k ++ ofL Y (mR Y)[k] := by
  unfold scLk
  rw [List.take_succ_eq_append_getElem h, List.flatMap_append]
  simp
def ScPost (w : World) (Y : List Ans) (e : Ending) (w' : World) : Prop := ∃ v, e = .returned v ∧ shT.R w' v (scL Y) ∧ (scL Y).length ≤ 1000000 * (mR Y).length ∧ Keeps [] w w'
set_option maxRecDepth 100000 in
set_option maxHeartbeats 16000000 in
theorem scionsR_c (w : World) (x : CtV) (Y : List Ans) (h : RdA w (slv x.va) Y) (hl : Y.length ≤ 1000) (hin : ∀ a ∈ Y, a.ins.length ≤ 1000) :
    Calls Tryz.prog 8 #[ctV x] w fun e w' => ScPost w Y e w' := by
  have hcM := fun W (hk : Keeps [] w W) => machinesR_c W x Y (h.keeps hk) hl
  have hcO := fun W m (hk : Keeps [] w W) => ofR_c W x Y (h.keeps hk) hl hin m
  have hlen := fun m => ofL_len Y m hin
  obtain ⟨x0, x1, x2, x3, x4, ⟨x5, x6, x7⟩, ⟨x8, x9, x10⟩⟩ := x
  have hb0 := ((Keeps.refl [] (w.alloc (.cells #[.int .i64 x0, .int .i64 x1, .int .i64 x2, .int .u64 x3, .int .i64 x4, .slice x5 x6 x7, .slice x8 x9 x10] tCt))).alloc (.cells #[] tI)).block _ (by simp) (by simp) |>.trans (heap_alloc_new w (.cells #[.int .i64 x0, .int .i64 x1, .int .i64 x2, .int .u64 x3, .int .i64 x4, .slice x5 x6 x7, .slice x8 x9 x10] tCt))
  have hkA : Keeps [] w ((w.alloc (.cells #[.int .i64 x0, .int .i64 x1, .int .i64 x2, .int .u64 x3, .int .i64 x4, .slice x5 x6 x7, .slice x8 x9 x10] tCt)).alloc (.cells #[] tI)) := ((Keeps.refl _ _).alloc _).alloc _
  have hfr := (Sh.O.fresh shT (w.alloc (.cells #[.int .i64 x0, .int .i64 x1, .int .i64 x2, .int .u64 x3, .int .i64 x4, .slice x5 x6 x7, .slice x8 x9 x10] tCt)) (w.heap.size + 1) tI (by simp))
  rw [show (w.alloc (.cells #[.int .i64 x0, .int .i64 x1, .int .i64 x2, .int .u64 x3, .int .i64 x4, .slice x5 x6 x7, .slice x8 x9 x10] tCt)).heap.size = w.heap.size + 1 by simp] at hfr
  have hE0 := heap_alloc_new (w.alloc (.cells #[.int .i64 x0, .int .i64 x1, .int .i64 x2, .int .u64 x3, .int .i64 x4, .slice x5 x6 x7, .slice x8 x9 x10] tCt)) (.cells #[] tI)
  rw [show (w.alloc (.cells #[.int .i64 x0, .int .i64 x1, .int .i64 x2, .int .u64 x3, .int .i64 x4, .slice x5 x6 x7, .slice x8 x9 x10] tCt)).heap.size = w.heap.size + 1 by simp] at hE0
  replace hE0 := Lib.hid hE0
  replace hcM := Lib.hid hcM
  replace hcO := Lib.hid hcO
  replace hlen := Lib.hid hlen
  replace hb0 := Lib.hid hb0
  replace hkA := Lib.hid hkA
  replace hfr := Lib.hid hfr
  clear h hin
  simp only [ctV, slv] at hcM hcO ⊢
  go_enter Tryz.func8, Tryz.ntmps8
  go_upto_region 2 with fail
  generalize ((w.alloc (.cells #[.int .i64 x0, .int .i64 x1, .int .i64 x2, .int .u64 x3, .int .i64 x4, .slice x5 x6 x7, .slice x8 x9 x10] tCt)).alloc (.cells #[] tI)) = W at *
  obtain ⟨B, hB⟩ : ∃ B, w.heap.size = B := ⟨_, rfl⟩
  rw [hB] at hb0 hfr hE0 ⊢
  replace hB := Lib.hid hB
  have hcm := Lib.hid (hcM.out W hkA.out)
  obtain ⟨i0, i1, i2, i3, i4, i5, i6, if', il⟩ := cl7 hb0.out
  go_wp2_with fail
  refine hcm.out.mono ?_
  rintro e w1 ⟨vm, rfl, hMr, hMl, hkM⟩
  have hb1 := Lib.hid ((hkM.block _ (lt_of_blk hb0.out) (by simp)).trans hb0.out)
  have hfr1 := Lib.hid (hfr.out.keeps hkM)
  have hE1 := Lib.hid ((hkM.block _ (lt_of_blk hE0.out) (by simp)).trans hE0.out)
  have hk1 := Lib.hid (hkA.out.trans hkM)
  obtain ⟨ma, mc, rfl, hm1, hm2, _⟩ := hMr.form
  obtain ⟨N, hN⟩ : ∃ N, (mR Y).length = N := ⟨_, rfl⟩
  rw [hN] at hMr hm1 hMl ⊢
  have hN3 : N ≤ 9223372036854775807 := by omega
  replace hMr := Lib.hid hMr
  replace hN := Lib.hid hN
  clear hcm hcM i0 i1 i2 i3 i4 i5 i6 if' il hkM hfr hb0 hE0
  go_wp2
  go_loopw [3, 5] (fun ov i wr => ∃ (k : Nat), i = .int .i64 k ∧ k ≤ N ∧ Hid (shT.O wr (B + 1) tI ov (scLk Y k)) ∧ Hid (∀ b, ov.ownBlock = some b → b = B + 1 ∨ w1.heap.size ≤ b) ∧ Hid ((scLk Y k).length ≤ 1000000 * k) ∧ Hid (Keeps [B + 1] w1 wr)) (fun _ i _ => N - (intOf i).toNat)
  case atStart => exact ⟨0, rfl, by omega, hfr1, Lib.hid (fun b hb => by simp [Value.ownBlock] at hb; omega), Lib.hid (by simp [scLk]), Lib.hid (Keeps.refl _ _)⟩
  case round =>
    obtain ⟨k, rfl, hk, hO, how, hLl, hkw⟩ := hrel
    have hAr := (hkw.out.block _ (lt_of_blk hb1.out) (by simp)).trans hb1.out
    have hMk := Lib.hid (hMr.out.keepN hkw.out (fun b hb o => by simp only [List.mem_singleton] at hb; subst hb; simp [World.cell?, hE1.out]))
    have hkf := Lib.hid (hk1.out.fresh hkw.out (fun b hb => .inr (by simp only [List.mem_singleton] at hb; subst hb; have := hB.out; omega)))
    obtain ⟨i0, i1, i2, i3, i4, i5, i6, if', il⟩ := cl7 hAr
    obtain ⟨oa, oc, rfl⟩ := hO.out.form
    obtain ⟨M, hM⟩ : ∃ M, (scLk Y k).length = M := ⟨_, rfl⟩
    rw [hM] at hO hLl how ⊢
    have hnB : Hid ((Value.slice oa M oc).ownBlock ≠ some B) := Lib.hid (fun e => by have := hO.out.ge _ e; omega)
    replace hM := Lib.hid hM
    by_cases hlt : k < N
    · have hlt2 : (k : Int) < N := by omega
      have hlt3 : decide ((k : Int) < (N : Int)) = true := by simp; omega
      have hkl : k < (mR Y).length := by rw [hN.out]; exact hlt
      have hsucc := scLk_succ Y k hkl
      obtain ⟨g, o, c', hv, he⟩ := hMk.out.elem hkl
      rw [hN.out] at hv
      cases hv
      obtain ⟨m0, hm0⟩ : ∃ m, (mR Y)[k] = m := ⟨_, rfl⟩
      rw [hm0] at he hsucc
      have e0 := he 0 _ rfl
      simp only [shZ, Nat.add_zero, Nat.mul_one] at e0
      have hng : Hid ((Value.slice (some ⟨g, o, none⟩) N mc : Value) = (Value.slice (some ⟨g, o, none⟩) N mc : Value) ∧ (Value.slice oa M oc).ownBlock ≠ some g) := Lib.hid ⟨rfl, fun e => by
        have hold := hMr.out.elem hkl
        obtain ⟨g', o', c', hv', he'⟩ := hold
        rw [hN.out] at hv'
        cases hv'
        have hc1 := he' 0 _ rfl
        rcases how.out g e with h | h
        · subst h
          simp [World.cell?, hE1.out] at hc1
        · have := lt_of_cell hc1
          omega⟩
      have hcall := Lib.hid (hcO.out wr.drew m0 hkf.out.drew)
      have hlo := hlen.out m0
      have hlm := Lib.hid (hlen.out m0)
      replace hm0 := Lib.hid hm0
      replace hsucc := Lib.hid hsucc
      clear he
      go_upto_region 6 with fail
      refine Free.wp_region_chain (fun i => i == 6 || i == 7) (fun i => true) (fun _ b => (Value.slice oa M oc).ownBlock = some b) (by kernel_rfl) (by kernel_rfl) (by kernel_rfl) ?_
      (repeat (first | (apply Free.cw_pure rfl rfl; (intro w'; go_simp <;> exact rfl); go_frame) | (apply Free.cw_steady rfl rfl rfl; (intro w' hS; have q0 := Free.sx_cell hS i0 (fun _ _ hT => hnB.out hT); have q1 := Free.sx_cell hS i1 (fun _ _ hT => hnB.out hT); have q2 := Free.sx_cell hS i2 (fun _ _ hT => hnB.out hT); have q3 := Free.sx_cell hS i3 (fun _ _ hT => hnB.out hT); have q4 := Free.sx_cell hS i4 (fun _ _ hT => hnB.out hT); have q5 := Free.sx_cell hS i5 (fun _ _ hT => hnB.out hT); have q6 := Free.sx_cell hS i6 (fun _ _ hT => hnB.out hT); have q7 := Free.sx_cell hS e0 (fun _ _ hT => hng.out.2 hT); go_simp <;> exact rfl); go_frame) | (refine Free.cw_skip rfl ?_; go_frame)))
      refine Free.cw_loud rfl rfl (fun K hK => ?_)
      go_wp2_with fail
      refine hcall.out.mono ?_
      rintro e w2 ⟨v2, rfl, hR2, hk2⟩
      refine hK _ _ rfl (Free.KeepsP.of hk2 (by simp)) ?_
      clear hK K hcall
      have hk2d := ((Keeps.refl [] wr).drew).trans hk2
      have hO2 := Lib.hid (hO.out.keeps hk2d)
      have hsz := hk2d.size
      have hsz2 := Lib.hid hk2d.size
      have hkw2 := Lib.hid (hkw.out.trans hk2d.of_nil)
      clear hk2 hk2d
      (repeat (first | (apply Free.cw_pure rfl rfl; (intro w'; go_simp <;> exact rfl); go_frame) | (apply Free.cw_steady rfl rfl rfl; (intro w' hS; have q0 := Free.sx_cell hS i0 (fun _ _ hT => hnB.out hT); have q1 := Free.sx_cell hS i1 (fun _ _ hT => hnB.out hT); have q2 := Free.sx_cell hS i2 (fun _ _ hT => hnB.out hT); have q3 := Free.sx_cell hS i3 (fun _ _ hT => hnB.out hT); have q4 := Free.sx_cell hS i4 (fun _ _ hT => hnB.out hT); have q5 := Free.sx_cell hS i5 (fun _ _ hT => hnB.out hT); have q6 := Free.sx_cell hS i6 (fun _ _ hT => hnB.out hT); have q7 := Free.sx_cell hS e0 (fun _ _ hT => hng.out.2 hT); go_simp <;> exact rfl); go_frame) | (refine Free.cw_skip rfl ?_; go_frame)))
      refine Free.cw_loud rfl rfl (fun K hK => ?_)
      refine Sh.owp_app shT (B + 1) infoI rfl Tryz.underlying34 (.slice oa M oc) v2 (scLk Y k) (ofL Y m0) (.tmp 15) (.tmp 21) rfl rfl rfl hO2.out hR2 (by rw [hM.out]; have h1 := hLl.out; omega) (by have := hB.out; have := hk1.out.size; have := lt_of_blk hb1.out; have := hkw.out.size; have := lt_of_blk hE1.out; omega) ?_
      intro v5 w5 hO5 hG5
      refine hK _ _ rfl (Free.KeepsP.of hG5.keepsO (fun b hb => by simpa using hb)) ?_
      clear hK K
      have hk5 := Lib.hid (hkw2.out.fresh hG5.keepsO (fun b hb => by
        rcases how.out b (by simpa using hb) with h | h
        · exact .inl (by simp [h])
        · exact .inr h))
      have how5 : Hid (∀ b, v5.ownBlock = some b → b = B + 1 ∨ w1.heap.size ≤ b) := Lib.hid (fun b hb => by
        rcases hG5.own with h | ⟨j, h1, h2⟩
        · exact how.out b (by rw [← h]; exact hb)
        · rw [hb] at h1
          cases h1
          have := hkw2.out.size
          exact .inr (by omega))
      rw [← hsucc.out] at hO5
      have hL5 : Hid ((scLk Y (k + 1)).length ≤ 1000000 * (k + 1)) := Lib.hid (by rw [hsucc.out, List.length_append, hM.out]; have := hLl.out; omega)
      replace hO5 := Lib.hid hO5
      clear hG5 hR2 hO2 hkw2 hsz
      (repeat (apply Free.cw_pure rfl rfl; (intro w'; go_simp <;> exact rfl); go_frame))
      refine Free.cw_nil ?_
      clear i0 i1 i2 i3 i4 i5 i6 if' il e0
      go_wp2
      go_roundw
      case rel => exact ⟨k + 1, rfl, by omega, hO5, how5, hL5, hk5⟩
      case measure => simp [intOf]; omega
    · have hlt2 : decide ((k : Int) < (N : Int)) = false := by simp; omega
      have hkN : k = (mR Y).length := by rw [hN.out]; omega
      have e : scLk Y k = scL Y := by unfold scLk scL; rw [hkN, List.take_length]
      rw [e] at hO hM
      replace hkN := Lib.hid hkN
      replace e := Lib.hid e
      clear i0 i1 i2 i3 i4 i5 i6 if' il
      go_wp2
      go_ret
      exact ⟨_, rfl, hO.out.r, by rw [hM.out]; have := hLl.out; have := hkN.out; omega, hkf.out⟩
end Go.Proofs.YtiplgpefapeapaaGreatDoor

namespace Go.Proofs
open Go.Shelf
def Tryz.laysCompact_ren : Go.Shelf.Ren := ⟨fun | 20 => 26 | n => n, fun | 22 => 37 | 3 => 3 | 4 => 4 | 0 => 0 | n => n, fun | n => n⟩
theorem Tryz.laysCompact : Go.Proofs.Lays2.n20 Tryz.prog Tryz.laysCompact_ren := {
  mixed := by kernel_rfl
  f20 := Tryz.func26.trans (congrArg some (by kernel_rfl))
  t0 := Tryz.underlying0
  a0 := Tryz.isAgg0
  z0 := Tryz.sizeOf0
  v0 := Tryz.zeroValue0
  t3 := Tryz.underlying3
  a3 := Tryz.isAgg3
  z3 := Tryz.sizeOf3
  v3 := Tryz.zeroValue3
  t4 := Tryz.underlying4
  a4 := Tryz.isAgg4
  z4 := Tryz.sizeOf4
  v4 := Tryz.zeroValue4
  t22 := Tryz.underlying37
  a22 := Tryz.isAgg37
  z22 := Tryz.sizeOf37
  v22 := Tryz.zeroValue37
  i3 := by kernel_rfl }
end Go.Proofs

namespace Go.Proofs.YtiplgpefapeapaaGreatDoor
open Go.RowKit Go.Maps Go.Sort Go.Shelf Go.Proofs Go

def leZ (x y : Int) : Bool := decide (x ≤ y)
theorem sortOwn (w : World) (B : Nat) (e : TypeId) (v : Value) (L : List Int) (h : shZ.O w B e v L) (hl : L.length ≤ 1000000000) :
    Calls Tryz.prog 25 #[v] w fun x w' => x = .returned (.tuple #[]) ∧ shZ.O w' B e v (L.mergeSort leZ) ∧ Keeps v.ownBlock.toList w w' := by
  unfold Sh.O at h ⊢
  rw [csZ] at h
  by_cases hv : v = .slice none 0 0
  · subst hv
    have h0 : L = [] := List.eq_nil_of_length_eq_zero (by
      rcases h.2 with ⟨_, h0⟩ | ⟨g, cap, cur, e0, _⟩
      · exact h0
      · cases e0)
    subst h0
    refine (AnyM.slices_Sort_int_none Tryz.sortA none 0 w).mono ?_
    rintro e w' ⟨rfl, rfl⟩
    exact ⟨rfl, by rw [List.mergeSort_nil]; exact World.ownsRow_nil _ _ _ _, Keeps.refl _ _⟩
  · obtain ⟨g, cap, rfl, hb, hlt, hn, hm, hll, hH⟩ := Lib.holds_of_ownsRow h hv
    refine (AnyM.slices_Sort_int Tryz.sortA g 0 cap L w hH hlt (by omega)).mono ?_
    rintro e w' ⟨rfl, n, os, rfl⟩
    rcases h.2 with ⟨e0, _⟩ | ⟨g', cap', cur, e0, hb', hg, hn', hm', hs', ht'⟩
    · cases e0
    · injection e0 with e1 _ e3
      injection e1 with e1
      injection e1 with e1
      subst e1; subst e3
      refine ⟨rfl, ?_, ?_⟩
      · rw [csZ, List.length_mergeSort]
        exact ownsRow_sorted_i (by simp) hb hg hn hm hs'
      · exact (Keeps.refl _ w).grown (grownBy_sorted_i _) (fun k e => .inr (by cases e; simp [Value.ownBlock]))
theorem compactOwn (w : World) (B : Nat) (e : TypeId) (v : Value) (L : List Int) (h : shZ.O w B e v L) (hl : L.length ≤ 1000000000) :
    Calls Tryz.prog 26 #[v] w fun x w' => ∃ v', x = .returned v' ∧ shZ.O w' B e v' (Lib.compact L) ∧ Keeps v.ownBlock.toList w w' := by
  unfold Sh.O at h ⊢
  rw [csZ] at h
  by_cases hv : v = .slice none 0 0
  · subst hv
    have h0 : L = [] := List.eq_nil_of_length_eq_zero (by
      rcases h.2 with ⟨_, h0⟩ | ⟨g, cap, cur, e0, _⟩
      · exact h0
      · cases e0)
    subst h0
    refine (Any.slices_Compact_int_empty Tryz.laysCompact none 0 w).mono ?_
    rintro e w' ⟨rfl, rfl⟩
    exact ⟨_, rfl, World.ownsRow_nil _ _ _ _, Keeps.refl _ _⟩
  · obtain ⟨g, cap, rfl, hb, hlt, hn, hm, hll, hH⟩ := Lib.holds_of_ownsRow h hv
    refine (Any.slices_Compact_int Tryz.laysCompact g 0 cap L w hH (by omega) hn).mono ?_
    rintro e w' ⟨rfl, q, rfl⟩
    have hcl : (Lib.compact L).length ≤ L.length := by
      unfold Lib.compact Lib.compactUpTo
      rw [List.length_map]
      exact Nat.le_trans (List.length_filter_le _ _) (by simp)
    refine ⟨_, rfl, ?_, ?_⟩
    · have := Lib.ownsRow_putRow (q := q) (ys := Lib.compact L ++ List.replicate (L.length - (Lib.compact L).length) 0) h (by simp; omega) hcl
      rw [List.take_left'  rfl] at this
      rw [csZ]
      exact this
    · have hg := grownBy_sorted_i (w := w) (g := g) (n := q) (os := #[]) (Lib.compact L ++ List.replicate (L.length - (Lib.compact L).length) 0).toArray
      rw [grow_empty] at hg
      exact (Keeps.refl _ w).grown hg (fun k e => .inr (by cases e; simp [Value.ownBlock]))


/-- What the program's Machines answers. -/
def macL (Y : List Ans) : List Int := Lib.compact ((Y.map (·.m)).mergeSort leZ)
def MacPost (w : World) (Y : List Ans) (e : Ending) (w' : World) : Prop := ∃ v, e = .returned v ∧ shZ.R w' v (macL Y) ∧ Keeps [] w w'
set_option maxRecDepth 100000 in
set_option maxHeartbeats 16000000 in
theorem machinesP_c (w : World) (x : CtV) (Y : List Ans) (h : RdA w (slv x.va) Y) (hl : Y.length ≤ 1000) :
    Calls Tryz.prog 10 #[ctV x] w fun e w' => MacPost w Y e w' := by
  obtain ⟨x0, x1, x2, x3, x4, ⟨x5, x6, x7⟩, ⟨x8, x9, x10⟩⟩ := x
  simp only [slv] at h
  obtain ⟨_, _, e1, hla, hca⟩ := h.form
  simp only [Value.slice.injEq] at e1
  obtain ⟨-, e1, -⟩ := e1
  have hx6m : x6 ≤ 1000 := by omega
  have hA := heap_alloc_new w (.cells #[.int .i64 x0, .int .i64 x1, .int .i64 x2, .int .u64 x3, .int .i64 x4, .slice x5 x6 x7, .slice x8 x9 x10] tCt)
  have hkA := (Keeps.refl [] w).alloc (.cells #[.int .i64 x0, .int .i64 x1, .int .i64 x2, .int .u64 x3, .int .i64 x4, .slice x5 x6 x7, .slice x8 x9 x10] tCt)
  replace h := Lib.hid h
  replace e1 := Lib.hid e1
  replace hA := Lib.hid hA
  replace hkA := Lib.hid hkA
  simp only [ctV, slv]
  go_enter Tryz.func10, Tryz.ntmps10
  go_upto_region 1 with fail
  have hW := Lib.hid (show (w.alloc (.cells #[.int .i64 x0, .int .i64 x1, .int .i64 x2, .int .u64 x3, .int .i64 x4, .slice x5 x6 x7, .slice x8 x9 x10] tCt)).heap.size = w.heap.size + 1 by simp)
  generalize (w.alloc (.cells #[.int .i64 x0, .int .i64 x1, .int .i64 x2, .int .u64 x3, .int .i64 x4, .slice x5 x6 x7, .slice x8 x9 x10] tCt)) = W at *
  obtain ⟨B, hB⟩ : ∃ B, w.heap.size = B := ⟨_, rfl⟩
  rw [hB] at hA hW ⊢
  replace hB := Lib.hid hB
  obtain ⟨i0, i1, i2, i3, i4, i5, i6, if', il⟩ := cl7 hA.out
  go_wp2
  go_loopw [3, 9] (fun ov i wr => ∃ (k : Nat), i = .int .i64 k ∧ k ≤ x6 ∧ Hid (shZ.O wr (B + 1) 3 ov ((Y.take k).map (·.m))) ∧ Hid (Keeps [] w wr) ∧ Hid (B + 1 ≤ wr.heap.size)) (fun _ i _ => x6 - (intOf i).toNat)
  case atStart => exact ⟨0, rfl, by omega, Lib.hid (Sh.O.nil _ _ _ _), hkA, Lib.hid (Nat.le_of_eq hW.out.symm)⟩
  case round =>
    clear i0 i1 i2 i3 i4 i5 i6 if' il
    obtain ⟨k, rfl, hk, hO, hkw, hge⟩ := hrel
    obtain ⟨oa, oc, rfl⟩ := hO.out.form
    have hLk : ((Y.take k).map (·.m)).length = k := by rw [List.length_map, List.length_take]; have := e1.out; omega
    rw [hLk] at hO ⊢
    replace hLk := Lib.hid hLk
    by_cases hlt : k < x6
    · have hlt2 : (k : Int) < x6 := by omega
      have hkl : k < Y.length := by rw [← e1.out]; exact hlt
      obtain ⟨g, o, c', y, hv, hy, he⟩ := (h.out.keeps hkw.out).elem hkl
      rw [← e1.out] at hv
      cases hv
      have hst : (Y.take (k + 1)).map (·.m) = (Y.take k).map (·.m) ++ [Y[k].m] := by rw [List.take_succ_eq_append_getElem hkl, List.map_append]; rfl
      obtain ⟨a, ha⟩ : ∃ a, Y[k] = a := ⟨_, rfl⟩
      rw [ha] at hy hst
      have q0 := hy.m
      obtain ⟨y0, y1, y2, y3, y4, y5, y6, y7, y8, y9⟩ := y
      simp only at q0
      rw [← q0] at hst
      have g0 := he 0 _ rfl
      have g1 := he 1 _ rfl
      have g2 := he 2 _ rfl
      have g3 := he 3 _ rfl
      have g4 := he 4 _ rfl
      have g5 := he 5 _ rfl
      have g6 := he 6 _ rfl
      have g7 := he 7 _ rfl
      simp only [AnV.v, Nat.add_zero] at g0 g1 g2 g3 g4 g5 g6 g7
      have hkn := Lib.hid ((Keeps.refl [] wr).alloc (.cells #[.int .i64 y0, .int .i64 y1, .int .u64 y2, .int .i64 y3, .bool y4, .bool y5, .int .i64 y6, .slice y7 y8 y9] tA))
      have hbA := Lib.hid (heap_alloc_new wr (.cells #[.int .i64 y0, .int .i64 y1, .int .u64 y2, .int .i64 y3, .bool y4, .bool y5, .int .i64 y6, .slice y7 y8 y9] tA))
      replace hst := Lib.hid hst
      replace ha := Lib.hid ha
      replace q0 := Lib.hid q0
      clear he hy
      go_upto_region 5 with fail
      clear g0 g1 g2 g3 g4 g5 g6 g7
      generalize (wr.alloc (.cells #[.int .i64 y0, .int .i64 y1, .int .u64 y2, .int .i64 y3, .bool y4, .bool y5, .int .i64 y6, .slice y7 y8 y9] tA)) = WA at *
      obtain ⟨X, hX⟩ : ∃ X, wr.heap.size = X := ⟨_, rfl⟩
      rw [hX] at hbA ⊢
      replace hX := Lib.hid hX
      obtain ⟨g0, g1, g2, g3, g4, g5, g6, g7, gf, gl⟩ := cl8 hbA.out
      have hkr1 := hkn.out.alloc (.cells #[.int .i64 y0] 3)
      have hk1 := Lib.hid (hkw.out.trans hkr1)
      have hO1 := Lib.hid (hO.out.keeps hkr1)
      have hmade := Lib.hid (Sh.R.made shZ WA [y0] #[.int .i64 y0] 3 rfl (by simp [maxLen]) 1 rfl)
      have hsz : B + 1 ≤ (WA.alloc (.cells #[.int .i64 y0] 3)).heap.size := by have h1 := hge.out; have h2 := hkr1.size; omega
      clear hkr1
      go_wp2_with (first
        | (at_builtin; (refine Sh.wpl_app shZ (B + 1) infoZ rfl Tryz.underlying37 (.slice oa k oc) (.slice (some ⟨WA.heap.size, 0, none⟩) 1 1) ((Y.take k).map (·.m)) [y0] rfl _ _ rfl rfl rfl ?hA ?hB ?hC ?hD ?_); (case hA => exact hO1.out); (case hB => exact hmade.out); (case hC => rw [hLk.out]; simp only [List.length_singleton]; omega); (case hD => exact hsz); intro v5 w5 hO5 hG5; have hk5 := hk1.out.fresh hG5.keepsO (fun b hb => .inr (by have h2 := hO1.out.ge b (by simpa using hb); have h5 := hB.out; omega)); have hge5 := Lib.hid (Nat.le_trans hsz hG5.keepsO.size); rw [← hst.out] at hO5; replace hO5 := Lib.hid hO5; replace hk5 := Lib.hid hk5; clear hG5)
        | fail)
      go_roundw
      case rel => exact ⟨k + 1, rfl, by omega, hO5, hk5, hge5⟩
      case measure => simp [intOf]; omega
    · have hlt2 : ¬ ((k : Int) < x6) := by omega
      have hkN : k = Y.length := by have := e1.out; omega
      have e : (Y.take k).map (·.m) = Y.map (·.m) := by rw [hkN, List.take_length]
      rw [e] at hO
      have hS := Lib.hid (sortOwn wr (B + 1) 3 (.slice oa k oc) (Y.map (·.m)) hO.out (by simp; omega))
      replace hkN := Lib.hid hkN
      replace e := Lib.hid e
      go_wp2_with fail
      refine hS.out.mono ?_
      rintro e w2 ⟨rfl, hO2, hk2⟩
      have hC := Lib.hid (compactOwn w2 (B + 1) 3 (.slice oa k oc) _ hO2 (by simp; omega))
      have hk3 := Lib.hid (hkw.out.fresh hk2 (fun b hb => .inr (by have h2 := hO.out.ge b (by simpa using hb); have h5 := hB.out; omega)))
      clear hO2 hk2
      go_wp2_with fail
      refine hC.out.mono ?_
      rintro e w4 ⟨v4, rfl, hO4, hk4⟩
      go_wp2
      go_ret
      exact ⟨v4, rfl, hO4.r, hk3.out.fresh hk4 (fun b hb => .inr (by have h2 := hO.out.ge b (by simpa using hb); have h5 := hB.out; omega))⟩
end Go.Proofs.YtiplgpefapeapaaGreatDoor

namespace Go.Proofs.YtiplgpefapeapaaGreatDoor
open Go.RowKit Go.Lib

/-- Lists in a strict order with the same members are equal. -/
theorem ext_of {α : Type} {R : α → α → Prop} (ha : ∀ x y, R x y → R y x → False) : ∀ {l m : List α}, l.Pairwise R → m.Pairwise R → (∀ x, x ∈ l ↔ x ∈ m) → l = m
  | [], [], _, _, _ => rfl
  | [], b :: m, _, _, h => absurd ((h b).2 (by simp)) (by simp)
  | a :: l, [], _, _, h => absurd ((h a).1 (by simp)) (by simp)
  | a :: l, b :: m, hl, hm, h => by
    obtain ⟨l1, l2⟩ := List.pairwise_cons.1 hl
    obtain ⟨m1, m2⟩ := List.pairwise_cons.1 hm
    have e : a = b := by
      rcases List.mem_cons.1 ((h a).1 (by simp)) with e | e
      · exact e
      · rcases List.mem_cons.1 ((h b).2 (by simp)) with e' | e'
        · exact e'.symm
        · exact (ha _ _ (l1 _ e') (m1 _ e)).elim
    subst e
    rw [ext_of ha l2 m2 fun x => ?_]
    have hx := h x
    simp only [List.mem_cons] at hx
    constructor
    · intro hxl
      rcases hx.1 (.inr hxl) with e | e
      · have h0 := l1 _ hxl; rw [e] at h0; exact (ha _ _ h0 h0).elim
      · exact e
    · intro hxl
      rcases hx.2 (.inr hxl) with e | e
      · have h0 := m1 _ hxl; rw [e] at h0; exact (ha _ _ h0 h0).elim
      · exact e
theorem putZ_mem (n : Int) : ∀ (l : List Int) (x : Int), x ∈ putZ n l ↔ x = n ∨ x ∈ l
  | [], x => by simp [putZ]
  | y :: r, x => by
    unfold putZ
    by_cases h1 : y < n
    · rw [if_pos h1, List.mem_cons, putZ_mem n r x, List.mem_cons]; constructor <;> (intro h; rcases h with h | h | h <;> simp [h])
    · rw [if_neg h1]
      by_cases h2 : y = n
      · rw [if_pos h2]; subst h2; simp
      · rw [if_neg h2]; simp
theorem putZ_srt {n : Int} : ∀ {l : List Int}, l.Pairwise (· < ·) → (putZ n l).Pairwise (· < ·)
  | [], _ => by simp [putZ]
  | y :: r, h => by
    obtain ⟨h1, h2⟩ := List.pairwise_cons.1 h
    unfold putZ
    by_cases a1 : y < n
    · rw [if_pos a1]
      refine List.pairwise_cons.2 ⟨fun x hx => ?_, putZ_srt h2⟩
      rcases (putZ_mem n r x).1 hx with e | e
      · subst e; exact a1
      · exact h1 x e
    · rw [if_neg a1]
      by_cases a2 : y = n
      · rw [if_pos a2]; exact h
      · rw [if_neg a2]
        refine List.pairwise_cons.2 ⟨fun x hx => ?_, h⟩
        rcases List.mem_cons.1 hx with e | e
        · subst e; omega
        · have := h1 x e; omega
theorem mR_fold : ∀ (Y : List Ans) (l : List Int), l.Pairwise (· < ·) → (Y.foldl (fun l a => putZ a.m l) l).Pairwise (· < ·) ∧ ∀ x, x ∈ Y.foldl (fun l a => putZ a.m l) l ↔ x ∈ l ∨ ∃ a ∈ Y, a.m = x
  | [], l, h => ⟨h, fun x => by simp⟩
  | a :: Y, l, h => by
    obtain ⟨h1, h2⟩ := mR_fold Y (putZ a.m l) (putZ_srt h)
    refine ⟨h1, fun x => ?_⟩
    rw [List.foldl_cons, h2 x, putZ_mem]
    constructor
    · rintro ((rfl | h) | ⟨b, hb, rfl⟩)
      · exact .inr ⟨a, by simp, rfl⟩
      · exact .inl h
      · exact .inr ⟨b, by simp [hb], rfl⟩
    · rintro (h | ⟨b, hb, rfl⟩)
      · exact .inl (.inr h)
      · rcases List.mem_cons.1 hb with e | e
        · subst e; exact .inl (.inl rfl)
        · exact .inr ⟨b, e, rfl⟩
theorem mR_srt (Y : List Ans) : (mR Y).Pairwise (· < ·) := (mR_fold Y [] List.Pairwise.nil).1
theorem mR_mem (Y : List Ans) (x : Int) : x ∈ mR Y ↔ ∃ a ∈ Y, a.m = x := by rw [mR, (mR_fold Y [] List.Pairwise.nil).2]; simp
/-- slices.Compact of a sorted list. -/
theorem compact_inv (d : Array Int) (hs : ∀ i j, i ≤ j → j < d.size → d[i]! ≤ d[j]!) : ∀ m, m ≤ d.size → (compactUpTo d m).Pairwise (· < ·) ∧ (∀ x, x ∈ compactUpTo d m ↔ ∃ j, j < m ∧ d[j]! = x)
  | 0, _ => by simp [compactUpTo]
  | m + 1, hm => by
    obtain ⟨h1, h2⟩ := compact_inv d hs m (by omega)
    rw [compactUpTo_succ]
    by_cases hk : keeps d m = true
    · rw [if_pos hk]
      refine ⟨List.pairwise_append.2 ⟨h1, by simp, fun x hx y hy => ?_⟩, fun x => ?_⟩
      · obtain ⟨j, hj, rfl⟩ := (h2 x).1 hx
        simp only [List.mem_singleton] at hy
        subst hy
        have hne : d[m]! ≠ d[m - 1]! := by
          simp only [keeps, decide_eq_true_eq] at hk
          rcases hk with h | h
          · omega
          · exact h
        have a1 := hs j (m - 1) (by omega) (by omega)
        have a2 := hs (m - 1) m (by omega) (by omega)
        omega
      · rw [List.mem_append, h2 x, List.mem_singleton]
        constructor
        · rintro (⟨j, hj, rfl⟩ | rfl)
          · exact ⟨j, by omega, rfl⟩
          · exact ⟨m, by omega, rfl⟩
        · rintro ⟨j, hj, rfl⟩
          by_cases e : j = m
          · subst e; exact .inr rfl
          · exact .inl ⟨j, by omega, rfl⟩
    · rw [if_neg hk, List.append_nil]
      refine ⟨h1, fun x => (h2 x).trans ?_⟩
      have hk' : 0 < m ∧ d[m]! = d[m - 1]! := by
        simp only [keeps, decide_eq_true_eq] at hk
        constructor
        · exact Nat.pos_of_ne_zero (fun h => hk (.inl h))
        · exact Classical.byContradiction (fun h => hk (.inr h))
      constructor
      · rintro ⟨j, hj, rfl⟩; exact ⟨j, by omega, rfl⟩
      · rintro ⟨j, hj, rfl⟩
        by_cases e : j = m
        · subst e; exact ⟨j - 1, by omega, hk'.2.symm⟩
        · exact ⟨j, by omega, rfl⟩
theorem macL_eq (Y : List Ans) : macL Y = mR Y := by
  have hle : ((Y.map (·.m)).mergeSort leZ).Pairwise (fun a b => leZ a b = true) := List.pairwise_mergeSort (by intro a b c h h'; simp [leZ] at *; omega) (by intro a b; simp [leZ]; omega) _
  obtain ⟨L, hL⟩ : ∃ L, (Y.map (·.m)).mergeSort leZ = L := ⟨_, rfl⟩
  have hmem : ∀ x, x ∈ L ↔ ∃ a ∈ Y, a.m = x := fun x => by rw [← hL, List.mem_mergeSort, List.mem_map]
  unfold macL
  rw [hL] at hle ⊢
  have hi := compact_inv L.toArray (fun i j hij hj => by
    have hj' : j < L.length := by simpa using hj
    rcases Nat.lt_or_eq_of_le hij with h | h
    · have := List.pairwise_iff_getElem.1 hle i j (by omega) hj' h
      simp only [leZ, decide_eq_true_eq] at this
      simpa [getElem!_pos, hj', show i < L.length by omega] using this
    · subst h; exact Int.le_refl _) L.length (by simp)
  refine ext_of (fun x y h1 h2 => by omega) hi.1 (mR_srt Y) (fun x => ?_)
  rw [mR_mem, ← hmem x]
  refine (hi.2 x).trans ?_
  constructor
  · rintro ⟨j, hj, rfl⟩
    simp [getElem!_pos, hj]
  · intro hx
    obtain ⟨j, hj, rfl⟩ := List.getElem_of_mem hx
    exact ⟨j, hj, by simp [getElem!_pos, hj]⟩

/-- What the program's Scions answers, out of the sorted keys of its map. -/
def scK (Y : List Ans) (K : List Qn) : List T3 := K.map (fun q => (q.2.1, q.2.2, (MapS.get q (outsOf Y)).getD 0))
theorem scK_eq {Y : List Ans} {K : List Qn} (hs : K.Pairwise qlt) (hp : K.Perm ((outsOf Y).map (·.1))) : scK Y K = scL Y := by
  have hk : ∀ q, q ∈ K ↔ (MapS.get q (outsOf Y)).isSome = true := fun q => by
    rw [hp.mem_iff, List.mem_map]
    constructor
    · rintro ⟨⟨q', v⟩, hx, rfl⟩
      rw [MapS.get_of_mem (outsOf_nd Y) hx]; rfl
    · intro h
      obtain ⟨v, hv⟩ := Option.isSome_iff_exists.1 h
      exact ⟨_, MapS.get_mem hv, rfl⟩
  have e1 : scK Y K = (K.map (fun q => (q, (MapS.get q (outsOf Y)).getD 0))).map (fun p : Qn × Int => (p.1.2.1, p.1.2.2, p.2)) := by
    unfold scK; rw [List.map_map]; rfl
  have e2 : scL Y = ((mR Y).flatMap (fun m => (ofL Y m).map (fun x => (((m, x.1, x.2.1) : Qn), x.2.2)))).map (fun p : Qn × Int => (p.1.2.1, p.1.2.2, p.2)) := by
    unfold scL
    rw [List.map_flatMap]
    congr 1
    funext m
    rw [List.map_map]
    conv => lhs; rw [← List.map_id (ofL Y m)]
    rfl
  rw [e1, e2]
  congr 1
  refine ext_of (R := fun p r : Qn × Int => qlt p.1 r.1) (fun x y h1 h2 => qlt_irrefl _ (qlt_trans h1 h2)) (List.pairwise_map.2 hs) ?_ (fun p => ?_)
  · refine List.pairwise_flatMap.2 ⟨fun m _ => List.pairwise_map.2 ((ofL_srt Y m).imp (fun h => ?_)), (mR_srt Y).imp (fun h x hx y hy => ?_)⟩
    · exact .inr ⟨rfl, h⟩
    · obtain ⟨x', _, rfl⟩ := List.mem_map.1 hx
      obtain ⟨y', _, rfl⟩ := List.mem_map.1 hy
      exact .inl h
  · obtain ⟨⟨m, cl, n⟩, o⟩ := p
    rw [List.mem_map, List.mem_flatMap]
    constructor
    · rintro ⟨q, hq, e⟩
      simp only [Prod.mk.injEq] at e
      obtain ⟨rfl, e⟩ := e
      obtain ⟨v, hv⟩ := Option.isSome_iff_exists.1 ((hk _).1 hq)
      rw [hv] at e
      simp only [Option.getD_some] at e
      subst e
      obtain ⟨a, ha, x, hx, e⟩ := (outsOf_some Y (m, cl, n)).1 (by rw [hv]; rfl)
      simp only [Prod.mk.injEq] at e
      refine ⟨m, (mR_mem Y m).2 ⟨a, ha, e.1.symm⟩, List.mem_map.2 ⟨(cl, n, v), (ofL_mem Y m _).2 (by rw [outR_eq]; exact hv), rfl⟩⟩
    · rintro ⟨m', _, hx⟩
      obtain ⟨⟨x0, x1, x2⟩, hx2, e⟩ := List.mem_map.1 hx
      simp only [Prod.mk.injEq] at e
      obtain ⟨⟨rfl, rfl, rfl⟩, rfl⟩ := e
      have hg := (ofL_mem Y m' _).1 hx2
      rw [outR_eq] at hg
      simp only at hg
      exact ⟨_, (hk _).2 (by rw [hg]; rfl), by rw [hg]; rfl⟩
end Go.Proofs.YtiplgpefapeapaaGreatDoor

namespace Go.Proofs.YtiplgpefapeapaaGreatDoor
namespace MapS
open Go Go.RowKit
variable {P : Program} {kt t e : TypeId} {κ : Type} [DecidableEq κ] {α : Type} (K : KT P kt κ) {vf : α → Value} {L : Es κ α} {w : World} {b : Nat}
section
variable {F : Fence} {nF : Nat} {ops : Array Oper} {rest : List Oper} {o : Oper} {a : Act} {Q : Exit → Act → World → Prop}
theorem wplIn_range (hg : o.guard = none) (m : Operand) (hop : o.op = Op.range t m) (ht : P.underlying t = some (.map kt e)) (hm : a.eval m = .map (some b)) (h : M K vf w b L)
    (hK : ∀ w', Rg K vf w' b w.heap.size L L → w.grownBy w' none → w'.heap.size = w.heap.size + 1 → wpListIn F nF P ops Q rest (a.put o.dst (.pointer (some ⟨w.heap.size, 0, none⟩))) w') : wpListIn F nF P ops Q (o :: rest) a w := by
  obtain ⟨⟨D, h1, h2, h3, h4⟩, hnd, ho⟩ := h
  refine wpListIn_range_own w hg m t hop kt e K.law ht raw b L.length D hm h1 (fun w' hr hg2 hs => hK w' ⟨⟨_, _, _, _, hr, h3, fun x l hl => h3.hs K hl, h4⟩, hnd, hnd, fun _ h => h, ho⟩ hg2 hs)
theorem wplIn_next (hg : o.guard = none) (it : Operand) (hop : o.op = Op.next it false) {r : Nat} {R : Es κ α} (hit : a.eval it = .pointer (some ⟨r, 0, none⟩)) (h : Rg K vf w b r L R)
    (hDone : R = [] → wpListIn F nF P ops Q rest (a.put o.dst (.tuple #[.bool false])) w)
    (hMore : ∀ (x : κ) (u : α) (R' : Es κ α) (w' : World), K.ok x → get x L = some u → (x, u) ∈ R → R.Perm ((x, u) :: R') → Rg K vf w' b r L R' → w.grownBy w' (some r) → w'.heap.size = w.heap.size → w'.rangeLeft b r < w.rangeLeft b r →
      (Instr.entry (.pointer (some ⟨r, 0, none⟩))).run P w' = .ok (.tuple #[K.kv x, vf u]) w' → wpListIn F nF P ops Q rest (a.put o.dst (.tuple #[.bool true, K.kv x, vf u])) w') : wpListIn F nF P ops Q (o :: rest) a w := by
  obtain ⟨⟨n, D, left, cnt, hr, hR, hl, hdm⟩, hnd, hnr, hsub, hok⟩ := h
  refine wpListIn_next_ranges w hg it hop kt K.law raw id id (fun key _ _ => ⟨key, rfl⟩) (fun v _ _ => ⟨v, rfl⟩) b r n D left cnt hit hr ?_ ?_
  · intro _ h0
    refine hDone ?_
    cases R with
    | nil => rfl
    | cons p t =>
      obtain ⟨l, hl'⟩ := K.key p.1 (hok p (hsub p (by simp)))
      have := hl p.1 l hl'
      rw [h0 l] at this
      simp [get] at this
  · intro key c kl y w' cnt' hkey hlk hv hat hr' hcl hg2 hs hen
    obtain ⟨x, hkx, _⟩ := hdm kl hlk
    obtain rfl : key = K.kv x := K.law.inj hkey hkx
    replace hkey := hkx
    have hlx := hl x kl hkey
    rw [hlk] at hlx
    obtain ⟨u, hu⟩ := Option.isSome_iff_exists.1 hlx.symm
    have hum := get_mem hu
    have hgL := get_of_mem hnd (hsub _ hum)
    have hc : c = vf u := by
      simp only [raw, id, Option.some.injEq] at hv
      have h1 := hat (.held c)
      rw [(hR.yes K hkey hgL).2] at h1
      rw [← hv] at h1
      cases h1; rfl
    subst hc
    have hp : R.Perm ((x, u) :: del x R) := by
      have hnk : ∀ {S : Es κ α}, ND S → (x, u) ∈ S → S.Perm ((x, u) :: del x S) := by
        intro S
        induction S with
        | nil => intro _ h; simp at h
        | cons q s ih =>
          intro hn hm
          obtain ⟨n1, n2⟩ := List.nodup_cons.1 hn
          rcases List.mem_cons.1 hm with rfl | hm
          · have hself : del x s = s := List.filter_eq_self.2 (fun p hp => by
              have : p.1 ≠ x := fun e => n1 (List.mem_map.2 ⟨p, hp, e⟩)
              simp [this])
            have : del x ((x, u) :: s) = s := by
              unfold del at hself ⊢
              rw [List.filter_cons_of_neg (by simp)]; exact hself
            rw [this]
          · have hqx : q.1 ≠ x := fun e => n1 (List.mem_map.2 ⟨(x, u), hm, e.symm⟩)
            have : del x (q :: s) = q :: del x s := by unfold del; rw [List.filter_cons_of_pos (by simp [hqx])]
            rw [this]
            exact ((ih n2 hm).cons q).trans (List.Perm.swap _ _ _)
      exact hnk hnr hum
    refine hMore x u (del x R) w' ?_ hgL hum hp ⟨⟨n, D, _, cnt', hr', hR, fun z l hz => ?_, fun l hl' => ?_⟩, hnd, nd_del hnr, fun p hm => hsub p (List.mem_filter.1 hm).1, hok⟩ hg2 hs (by rw [hr'.left_eq, hr.left_eq]; exact hcl) hen
    · exact hok _ (hsub _ hum)
    · show (left l && !l.sameKey kl) = _
      rw [get_del]
      by_cases e : z = x
      · subst e
        rw [hkey] at hz; cases hz
        rw [if_pos rfl]
        simp [WideAt.sameKey_self (K.law.key hkey)]
      · have hne : l ≠ kl := fun e' => by subst e'; exact e (K.inj _ _ (K.law.inj hz hkey))
        rw [if_neg e, hl z l hz]
        simp [Maps.sameKey_ne hne]
    · simp only [Bool.and_eq_true, Bool.not_eq_true'] at hl'
      obtain ⟨z, h5, h6⟩ := hdm l hl'.1
      refine ⟨z, h5, ?_⟩
      rw [get_del, if_neg (fun e => ?_)]
      · exact h6
      · subst e
        rw [hkey] at h5; cases h5
        rw [WideAt.sameKey_self (K.law.key hkey)] at hl'
        cases hl'.2
end
variable {w' : World} {r : Nat} {R : Es κ α} {K}
theorem Rg.of_walks (h : Rg K vf w b r L R) (hk : KeepsWalks w w') : Rg K vf w' b r L R := by
  obtain ⟨⟨n, D, left, cnt, hr, h1⟩, h2, h3, h4, h5⟩ := h
  exact ⟨⟨n, D, left, cnt, hr.of_walks hk, h1⟩, h2, h3, h4, h5⟩
theorem Rg.left_walks (h : Rg K vf w b r L R) (hk : KeepsWalks w w') : w'.rangeLeft b r = w.rangeLeft b r := by
  obtain ⟨⟨n, D, left, cnt, hr, h1⟩, h2, h3, h4, h5⟩ := h
  exact (hr.of_walks hk).left_eq.trans hr.left_eq.symm
theorem Rg.left_kept {S : List Nat} (h : Rg K vf w b r L R) (hk : Keeps S w w') (hb : b ∉ S) (hr : r ∉ S) : w'.rangeLeft b r = w.rangeLeft b r := by
  obtain ⟨hl1, hl2, _⟩ := h.lt
  unfold World.rangeLeft
  rw [hk.block b hl1 hb, hk.block r hl2 hr]
theorem Rg.walk (h : Rg K vf w b r L R) : ∃ o, w.heap[r]? = some o ∧ o.isWalk = true := by
  obtain ⟨⟨n, D, left, cnt, hr, h1⟩, h2⟩ := h
  exact hr.iter_walk
end MapS
end Go.Proofs.YtiplgpefapeapaaGreatDoor

namespace Go.Proofs.YtiplgpefapeapaaGreatDoor
open Go Go.RowKit Go.Maps
attribute [local go_sem] Oper.semAt_some
theorem infoS : (Tryz.prog.info? tK).map (fun i => (i.zero, i.size, i.bytes)) = some (some (qV (0, 0, 0)), 3, 24) := by kernel_rfl
theorem lt_of_block {w : World} {b : Nat} {o : Obj} (h : w.heap[b]? = some o) : b < w.heap.size := lt_of_blk h
/-- What a round leaves as it is: some blocks, and all maps and iterators. -/
def KpS (S : List Nat) (A B : World) : Prop := (∀ b ∈ S, B.heap[b]? = A.heap[b]?) ∧ KeepsWalks A B
theorem kpS_t {S : List Nat} {A B C : World} (h : KpS S A B) (k : KpS S B C) : KpS S A C := ⟨fun b hb => (k.1 b hb).trans (h.1 b hb), h.2.trans k.2⟩
theorem kpS_b {S : List Nat} {w : World} (hS : ∀ b ∈ S, b < w.heap.size) (W : World) (l : Nat) (o o' : Obj) (hl : w.heap.size ≤ l) (h : W.heap[l]? = some o) (_ : o.isCells = false) (hw : o.isWalk = false) : KpS S W (W.putObj l o') :=
  ⟨fun b hb => World.putObj_heap_other (by have := hS b hb; omega), KeepsWalks.putObj _ h hw⟩
theorem cell1 {w : World} {b : Nat} {x0 : Value} {t : TypeId} (h : w.heap[b]? = some (.cells #[x0] t (0, 0))) : w.cell? ⟨b, 0, none⟩ = some x0 ∧ w.frozen? ⟨b, 0, none⟩ = false := ⟨by simp [World.cell?, h], by simp [World.frozen?, h]⟩
theorem cell_three_new (W : World) (a b c : Value) (t : TypeId) : ∀ j u, ([a, b, c] : List Value)[j]? = some u → (W.alloc (.cells #[a, b, c] t)).cell? ((⟨W.heap.size, 0, none⟩ : Addr).add j) = some u := by
  intro j u hj
  rw [WideShapes.add_plain, World.cell?_alloc_mark, Nat.zero_add]
  match j, hj with
  | 0, hj => simpa using hj
  | 1, hj => simpa using hj
  | 2, hj => simpa using hj
def keyL (T : List (Qn × Int)) : List Qn := T.map (·.1)
set_option maxRecDepth 100000 in
set_option maxHeartbeats 4000000 in
theorem keys1_stops (n Bm bm : Nat) (S : List Nat) (T : List (Qn × Int)) (w0 : World) (hn : 2 ≤ n)
    (hBm : w0.cell? ⟨Bm, 0, none⟩ = some (.map (some bm))) (hmp : MapS.M ktK zV w0 bm T) (hS : Bm ∈ S) (hSlt : ∀ b ∈ S, b < w0.heap.size) :
    SeqStopsK Fence.wide n Tryz.prog 40 #[.pointer (some ⟨Bm, 0, none⟩)] (fun x : Qn => #[qV x]) (KpS S) (fun ss => ss.Perm (keyL T)) (fun _ => True) T.length w0 := by
  intro l J Jx W hW hJ hJx hY h0
  refine callsIn_of_wp Tryz.func40 rfl trivial ?_ rfl
  simp only [Tryz.ntmps40, List.size_toArray, List.length_cons, List.length_nil, Nat.reduceAdd, Nat.reduceSub, Array.replicate_succ, Array.replicate_zero, List.push_toArray, List.append_toArray, List.nil_append, List.cons_append]
  have c1 := (hW.cell (p := ⟨Bm, 0, none⟩) (lt_of_cell hBm)).trans hBm
  have hMW : MapS.M ktK zV W bm T := hmp.keeps ktK (Keeps.of_below hW)
  have hSW : ∀ b ∈ S, W.heap[b]? = w0.heap[b]? := fun b hb => hW.block b (hSlt b hb)
  have hWs := hW.size
  gi_wp2_with (first
    | (gi_at_range; (refine MapS.wplIn_range ktK rfl _ rfl Tryz.underlying52 rfl hMW ?_; intro w1 hrg0 hg0 hs0))
    | gi_in)
  try go_frame
  gi_loopw [6] (fun _ wr => ∃ (ss : List Qn) (R : List (Qn × Int)), MapS.Rg ktK zV wr bm W.heap.size T R ∧ (ss ++ R.map (·.1)).Perm (keyL T) ∧ (∀ b ∈ S, wr.heap[b]? = w0.heap[b]?) ∧ J ss wr)
    (fun _ wr => wr.rangeLeft bm W.heap.size)
  case atStart =>
    exact ⟨[], T, hrg0, by simp only [List.nil_append]; exact List.Perm.refl _, fun b hb => (hg0.block b (by have := hSlt b hb; omega) (by simp)).trans (hSW b hb), hJ [] W w1 none h0 hg0 (fun r e => by cases e)⟩
  case round =>
    obtain ⟨ss, R, hrg, hP, hSr, hJs⟩ := hrel
    gi_wp2_with (first
      | (gi_at_next; refine MapS.wplIn_next ktK rfl _ rfl rfl hrg ?_ ?_)
      | gi_in)
    · intro hR0
      subst hR0
      rw [List.map_nil, List.append_nil] at hP
      replace hP := Lib.hid hP
      gi_wp2
      go_end0
      exact ⟨⟨_, rfl⟩, .inl ⟨ss, hP.out, hJs⟩⟩
    · intro x0 x1 x2 u R' w2 hx hgx hm hpR hrg2 hg2 hs2 hlt hen
      have hS2 : ∀ b ∈ S, w2.heap[b]? = w0.heap[b]? := fun b hb => (hg2.block b (by have := hSlt b hb; have := hrg.lt; omega) (fun e => by cases e; have := hSlt _ hb; omega)).trans (hSr b hb)
      have hJ2 : J ss w2 := hJ ss wr w2 (some W.heap.size) hJs hg2 (fun r e => by cases e; exact ⟨Nat.le_refl _, hrg.walk⟩)
      have hP2 : (ss ++ [(x0, x1, x2)] ++ R'.map (·.1)).Perm (keyL T) := by
        refine List.Perm.trans ?_ hP
        rw [List.append_assoc]
        exact ((hpR.map (·.1)).symm).append_left ss
      have hlen : ss.length < T.length := by
        have := hP2.length_eq
        simp [keyL] at this; omega
      have hkA : Keeps [] w2 (w2.alloc (.cells #[.int .i64 x0, .int .i64 x1, .int .u64 x2] tK)) := (Keeps.refl _ _).alloc _
      have hSA : ∀ b ∈ S, (w2.alloc (.cells #[.int .i64 x0, .int .i64 x1, .int .u64 x2] tK)).heap[b]? = w0.heap[b]? := fun b hb => (Below.heap_alloc _ _ _ (by have := hSlt b hb; have := hrg2.lt; omega)).trans (hS2 b hb)
      have hJA : J ss (w2.alloc (.cells #[.int .i64 x0, .int .i64 x1, .int .u64 x2] tK)) := hJ ss w2 _ none hJ2 (World.grownBy_alloc _ _ _) (fun r e => by cases e)
      have hrgA := hrg2.keeps hkA
      have hlA := hrg2.left_kept hkA (by simp) (by simp)
      obtain ⟨fn, tmps, assign, body, hy, hR⟩ := hY ss (x0, x1, x2) _ hJA hlen
      simp only [ktK, qV, zV] at hen ⊢
      replace hP2 := Lib.hid hP2
      replace hrgA := Lib.hid hrgA
      replace hP := Lib.hid hP
      replace hpR := Lib.hid hpR
      clear hs2 hx hgx hm hrg2
      gi_wp2_with fail
      refine ⟨fun _ => by omega, ?_⟩
      refine hR.mono ?_
      rintro e W4 (⟨rfl, hJ4, hk4⟩ | ⟨rfl, hJx4⟩)
      · have hrg4 := hrgA.out.of_walks hk4.2
        have hl4 := hrgA.out.left_walks hk4.2
        have hS4 : ∀ b ∈ S, W4.heap[b]? = w0.heap[b]? := fun b hb => (hk4.1 b hb).trans (hSA b hb)
        gi_wp2
        go_roundw
        case rel => exact ⟨ss ++ [(x0, x1, x2)], R', hrg4, hP2.out, hS4, hJ4⟩
        case measure => rw [hl4, hlA]; exact hlt
      · gi_wp2
        refine bodyPost_ret (results_none rfl _ _ _) rfl ?_
        exact ⟨⟨_, rfl⟩, .inr ⟨_, trivial, hJx4⟩⟩
abbrev KeysSt (w : World) (lb : Array Value) (S : List Nat) (Sel : List Qn → Prop) (N : Nat) : Prop :=
  SeqStopsK Fence.wide 7 Tryz.prog 40 lb (fun x : Qn => #[qV x]) (KpS S) Sel (fun _ => True) N w
def AppSeqPost (w : World) (Sel : List Qn → Prop) (e : Ending) (w' : World) : Prop :=
  ∃ v xs, e = .returned v ∧ Sel xs ∧ shQ.O w' (w.heap.size + 1) tK v xs ∧ Keeps [] w w'
set_option maxRecDepth 100000 in
set_option maxHeartbeats 4000000 in
theorem appSeq_c (w : World) (lb : Array Value) (S : List Nat) (Sel : List Qn → Prop) (N : Nat) (hst : KeysSt w lb S Sel N) (hS : ∀ b ∈ S, b < w.heap.size) (hN : N ≤ 1000000) :
    Calls Tryz.prog 63 #[.slice none 0 0, .func (.func 40) #[] lb] w (AppSeqPost w Sel) := by
  have hk1 := (Keeps.refl [] w).alloc (.cells #[.slice none 0 0] 54)
  have hX1 := heap_alloc_new w (.cells #[.slice none 0 0] 54)
  have hz1 : (w.alloc (.cells #[.slice none 0 0] 54)).heap.size = w.heap.size + 1 := by simp
  have hbw : Below w.heap.size w (w.alloc (.cells #[.slice none 0 0] 54)) := (Below.refl _ _).alloc (Nat.le_refl _) _
  obtain ⟨B, hB⟩ : ∃ B, w.heap.size = B := ⟨_, rfl⟩
  unfold AppSeqPost
  rw [hB] at hX1 hz1 hbw hS ⊢
  obtain ⟨W1, hW1⟩ : ∃ W1, w.alloc (.cells #[.slice none 0 0] 54) = W1 := ⟨_, rfl⟩
  rw [hW1] at hk1 hX1 hz1 hbw
  replace hW1 := Lib.hid hW1
  replace hB := Lib.hid hB
  replace hz1 := Lib.hid hz1
  replace hst := Lib.hid hst
  refine (callsIn_wide (n := 8)).1 ?_
  refine callsIn_of_wp_marks Tryz.func63 rfl trivial ?_ rfl
  simp only [Tryz.ntmps63, List.size_toArray, List.length_cons, List.length_nil, Nat.reduceAdd, Nat.reduceSub, Array.replicate_succ, Array.replicate_zero, List.push_toArray, List.append_toArray, List.nil_append, List.cons_append]
  refine wpIn_wide.2 ?_
  go_wp2_with fail
  rw [hB.out, hW1.out]
  refine (wpIn_wide (n := 8)).1 ?_
  refine wpIn_rangeFunc_ownH rfl (by omega) (gf := 40) (lb := lb) rfl trivial (enters_of Tryz.func40 (by kernel_rfl) rfl) hst.out kpS_t (kpS_b (by have := hz1.out; intro b hb; have := hS b hb; omega)) (by rw [hB.out]; exact hbw) (fun _ => rfl)
    (fun pre W => (∃ v, Boxed W B 54 v ∧ W.ownsRow (B + 1) tK 3 v pre.length (shQ.cs pre) ∧ True) ∧ (Keeps [] w W ∧ B + 1 ≤ W.heap.size))
    (fun _ _ _ => False) ?hI (fun _ _ _ _ _ hs _ _ => hs) ⟨⟨_, hX1, World.ownsRow_nil _ _ _ _, trivial⟩, hk1, by have := hz1.out; omega⟩
    (fun y a' W => ∃ X, a' = { tmps := List.toArray ((.slice none 0 0 : Value) :: .func (.func 40) #[] lb :: .pointer (some ⟨B, 0, none⟩) :: undef :: .slice none 0 0 :: .pointer (some ⟨X, 0, none⟩) :: .func (.func 40) #[] lb :: qV y :: undef :: undef :: undef :: undef :: undef :: []), defers := [] } ∧ W.heap[X]? = some (.cells #[.int .i64 y.1, .int .i64 y.2.1, .int .u64 y.2.2] tK (0, 0)))
    ?hAx ?assign ?body ?done ?stop
  case hI =>
    exact OwnFrom.and (Own.from (holdsRow_own (B + 1) B 54 tK 3 (fun pre : List Qn => pre.length) (fun pre : List Qn => shQ.cs pre) (fun _ _ => True)) _) (fun s X Y row hs hg hr => ⟨hs.1.grown hg (fun k e => .inl (by have := (hr k e).1; have := hk1.size; omega)), Nat.le_trans hs.2 hg.size⟩)
  case hAx =>
    rintro y a' _ X Y row ⟨X0, h1, h2⟩ hg hr
    refine ⟨X0, h1, (hg.block X0 (lt_of_blk h2) (fun e => ?_)).trans h2⟩
    obtain ⟨_, o, ho, hc⟩ := hr X0 e.symm
    rw [h2] at ho; cases ho; cases hc
  case assign =>
    rintro l pre ⟨y0, y1, y2⟩ W K hI hK
    have hkA : KeepsOthers W (W.alloc (.cells #[.int .i64 y0, .int .i64 y1, .int .u64 y2] tK)) := KeepsOthers.alloc W _
    have hbA := heap_alloc_new W (.cells #[.int .i64 y0, .int .i64 y1, .int .u64 y2] tK)
    obtain ⟨⟨v, hv, hrow, _⟩, hkW, hBW⟩ := hI
    have hI2 := hK _ (W.alloc (.cells #[.int .i64 y0, .int .i64 y1, .int .u64 y2] tK)) (hkA.from _) ⟨fun b hb => Below.heap_alloc _ _ _ (by have := hS b hb; omega), hkA.walks⟩ ⟨⟨v, hv.alloc _, hrow.alloc _, trivial⟩, hkW.alloc _, by simp; omega⟩ ⟨_, rfl, hbA⟩
    replace hrow := Lib.hid hrow
    replace hv := Lib.hid hv
    clear hK
    gi_wp2
    exact hI2
  case body =>
    rintro l pre ⟨y0, y1, y2⟩ a' W hlw _ ⟨⟨v, hv, hrow, _⟩, hkW, hBW⟩ ⟨X, rfl, hX⟩ hlt
    obtain ⟨i0, hi, hz0, hz1', hz2'⟩ := info_parts infoS
    obtain ⟨x0, xf⟩ := cell1 hv
    obtain ⟨p0, p1, p2⟩ := cells3t hX
    have hXW := lt_of_block hv
    have hpl : pre.length < 1000000 := by omega
    gi_wp2_with (gi_at_builtin; refine wpListIn_append_own _ rfl _ _ 54 rfl (B + 1) tK i0 (qV (0, 0, 0)) 3 24 Tryz.underlying54 hi hz0 hz1' hz2' rfl (by decide) _ _ _ rfl (hrow.alloc _) ⟨W.heap.size, 0, none⟩ 1 1 [.int .i64 y0, .int .i64 y1, .int .u64 y2] rfl rfl (cell_three_new _ _ _ _ _) (by simp [Value.oneCell']) (by unfold Go.maxLen; omega) (by omega) (by simp; omega) ?_; intro v' w1 hown' hgrow _; replace hgrow : (W.alloc (.cells #[.int .i64 y0, .int .i64 y1, .int .u64 y2] tK)).grownBy w1 v.ownBlock := hgrow; have hkA : Keeps v.ownBlock.toList W w1 := ((Keeps.refl _ W).alloc _).grown hgrow (fun k e => .inr (by simp [e])); have hx1 := (hkA.block _ hXW (fun hm => by have := ownBlock_ge hrow _ (by simpa using hm); omega)).trans hv; obtain ⟨c1', f1'⟩ := cell1 hx1; have hsub := (ownBlock_ge hown'); obtain ⟨g', cap', rfl⟩ := ownsRow_succ hown')
    have hgb := hsub g' rfl
    have hkf : Keeps (B :: v.ownBlock.toList) W (w1.setCell ⟨B, 0, none⟩ (.slice (some ⟨g', 0, none⟩) (pre.length + 1) cap')) := (hkA.mono (fun k hk => by simp [hk])).setCell (p := ⟨B, 0, none⟩) (.inr (by simp)) _
    have hnot : ∀ b, b < B → b ∉ B :: v.ownBlock.toList := fun b hb hm => by
      rcases List.mem_cons.1 hm with e | e
      · omega
      · have := ownBlock_ge hrow _ (by simpa using e : v.ownBlock = some b); omega
    have hko : KeepsOthers W (w1.setCell ⟨B, 0, none⟩ (.slice (some ⟨g', 0, none⟩) (pre.length + 1) cap')) := by
      refine ((KeepsOthers.alloc W (.cells #[.int .i64 y0, .int .i64 y1, .int .u64 y2] tK)).trans (KeepsOthers.of_grownBy hgrow fun j o ej hj2 => ?_)).trans (KeepsOthers.setCell _ _ _)
      rcases (hrow.alloc (.cells #[.int .i64 y0, .int .i64 y1, .int .u64 y2] tK)).2 with ⟨rfl, _⟩ | ⟨g, cap, cur, rfl, _, hg, _⟩
      · simp [Value.ownBlock] at ej
      · simp [Value.ownBlock] at ej; subst ej; rw [hg] at hj2; cases hj2; rfl
    have hcs : shQ.cs pre ++ [.int .i64 y0, .int .i64 y1, .int .u64 (y2 : Int)] = shQ.cs (pre ++ [(y0, y1, y2)]) := by rw [Sh.cs_append]; rfl
    rw [hcs] at hown'
    refine ⟨hko.from _, ⟨fun b hb => hkf.block b (by have := hS b hb; omega) (hnot b (hS b hb)), hko.walks⟩, ⟨_, Boxed.set _ hx1, ?_⟩, ?_, ?_⟩
    · have := hown'.kept (grownBy_setCell' w1 B (.slice (some ⟨g', 0, none⟩) (pre.length + 1) cap')) (.inr (fun e => by simp [Value.ownBlock] at e; omega))
      simpa using this
    · exact ((hkW.alloc _).grown hgrow (fun k e => .inl (by have := ownBlock_ge hrow _ e; have := hB.out; omega))).setCell (p := ⟨B, 0, none⟩) (.inl (by have := hB.out; show _ ≤ B; omega)) _
    · have := hkf.size; omega
  case done =>
    rintro D xs W hD hsel ⟨⟨v, hv, hrow, _⟩, hkW, hBW⟩ hK
    obtain ⟨x0, xf⟩ := cell1 hv
    replace hsel := Lib.hid hsel
    go_wp2
    refine ⟨by simp, .inl ⟨_, _, rfl, run_takeDeferred hK, ?_⟩⟩
    refine ⟨_, results_tmp rfl _ _ _, ?_⟩
    exact ⟨v, xs, rfl, hsel.out, ownsRow_putObj hrow (.deferred none) hK rfl, hkW.grown (grownBy_putObj' _ _ _) (fun k e => .inl (by cases e; have := hk1.size; omega))⟩
  case stop =>
    rintro D c pre W _ _ h _
    exact h.elim
set_option maxRecDepth 100000 in
set_option maxHeartbeats 2000000 in
theorem collect_c (w : World) (lb : Array Value) (S : List Nat) (Sel : List Qn → Prop) (N : Nat) (hst : KeysSt w lb S Sel N) (hS : ∀ b ∈ S, b < w.heap.size) (hN : N ≤ 1000000) :
    Calls Tryz.prog 38 #[.func (.func 40) #[] lb] w (AppSeqPost w Sel) := by
  replace hst := Lib.hid hst
  go_enter Tryz.func38, Tryz.ntmps38
  go_wp2_with fail
  refine (appSeq_c w lb S Sel N hst.out hS hN).mono ?_
  rintro e w1 ⟨v, xs, rfl, h1, h2, h3⟩
  replace h1 := Lib.hid h1
  replace h2 := Lib.hid h2
  replace h3 := Lib.hid h3
  go_wp2
  go_ret
  exact ⟨_, xs, rfl, h1.out, h2.out, h3.out⟩
set_option maxRecDepth 100000 in
set_option maxHeartbeats 2000000 in
theorem mapsKeys_c (mb : Nat) (w : World) : Calls Tryz.prog 19 #[.map (some mb)] w fun e w' => e = .returned (.func (.func 40) #[] #[.pointer (some ⟨w.heap.size, 0, none⟩)]) ∧ w' = w.alloc (.cells #[.map (some mb)] 52) := by
  go_enter Tryz.func19, Tryz.ntmps19
  go_wp2
  go_ret
  exact ⟨rfl, rfl⟩
end Go.Proofs.YtiplgpefapeapaaGreatDoor
