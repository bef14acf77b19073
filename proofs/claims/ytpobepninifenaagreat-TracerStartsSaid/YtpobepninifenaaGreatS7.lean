/- Texts that the laws lean on, in the order in which they build. The specification's put. The specification's comparisons of needs and of claims. The specification's ClaimsOf. The specification's ClaimsOf: the walk. Trace.Claims; StateName. Trace.Claim, pending, Refuse. Looking for a need with a peer and a number; a machine's claim. The specification's Claims and Claim. -/
import Derived.Test.YtpobepninifenaaGreatS6
import Derived.Deep.CutRange
import Derived.Laws.Rows
set_option linter.unusedVariables false
set_option linter.unusedSimpArgs false
namespace Go.Proofs.YtpobepninifenaaGreat
open Go.RowKit

set_option maxRecDepth 100000 in
set_option maxHeartbeats 20000000 in
theorem putR_c (w : World) (v : Value) (L : List T3) (n : T3) (h : shT.R w v L) (hl : L.length ≤ 1000000000000) :
    Calls Tryz.prog 115 #[v, tV n] w fun e w' => ∃ v', e = .returned v' ∧ ((v' = v ∧ putN n L = L) ∨ shT.O w' w.heap.size tN v' (putN n L)) ∧ Keeps [] w w' := by
  obtain ⟨a, c, rfl, hlc, hcm, hnil⟩ := h.form
  have hel := fun k hk => h.elem (k := k) hk
  obtain ⟨M, hM⟩ : ∃ N, L.length = N := ⟨_, rfl⟩
  rw [hM] at hlc hl h ⊢
  have hcm2 : c ≤ 9223372036854775807 := by unfold maxLen at hcm; omega
  obtain ⟨n0, n1, n2⟩ := n
  have hkA : Keeps [] w (w.alloc (.cells #[.int .i64 n0, .int .u64 n1, .int .i64 n2] tN)) := (Keeps.refl _ _).alloc _
  have hb0 := heap_alloc_new w (.cells #[.int .i64 n0, .int .u64 n1, .int .i64 n2] tN)
  replace hel := Lib.hid hel
  replace hM := Lib.hid hM
  replace hkA := Lib.hid hkA
  replace hb0 := Lib.hid hb0
  replace h := Lib.hid h
  replace hnil := Lib.hid hnil
  simp only [tV]
  go_enter Tryz.func115, Tryz.ntmps115
  (go_upto_region 1 with fail; iterate 8 go_step)
  generalize (w.alloc (.cells #[.int .i64 n0, .int .u64 n1, .int .i64 n2] tN)) = WA at *
  obtain ⟨X, hX⟩ : ∃ X, w.heap.size = X := ⟨_, rfl⟩
  rw [hX] at hb0 ⊢
  replace hX := Lib.hid hX
  go_cut [5] from 6 to 78 (fun i wx => ∃ k : Nat, i = .int .i64 k ∧ k ≤ M ∧ Hid (∀ j (hj : j < L.length), j < k → tlt L[j] (n0, n1, n2)) ∧ Hid (∀ hj : k < L.length, ¬ tlt L[k] (n0, n1, n2)) ∧ Hid (Keeps [] WA wx))
  case first =>
    go_wp2
    go_loopw [5] (fun i wr => ∃ k : Nat, i = .int .i64 k ∧ k ≤ M ∧ Hid (∀ j (hj : j < L.length), j < k → tlt L[j] (n0, n1, n2)) ∧ Hid (Keeps [] WA wr)) (fun i _ => M - (intOf i).toNat)
    case atStart => exact ⟨0, rfl, by omega, Lib.hid (fun _ _ h => by omega), Lib.hid (Keeps.refl _ _)⟩
    case round =>
      obtain ⟨k, rfl, hk, hno, hkr⟩ := hrel
      obtain ⟨y0, y1, y2⟩ := cells3t ((hkr.out.block X (lt_of_blk hb0.out) (by simp)).trans hb0.out)
      have hkw := hkA.out.trans hkr.out
      replace hkw := Lib.hid hkw
      by_cases hlt : k < M
      · have hkl : k < L.length := by rw [hM.out]; exact hlt
        obtain ⟨g, o, c', hv, he⟩ := hel.out k hkl
        rw [hM.out] at hv
        cases hv
        obtain ⟨⟨p0, p1, p2⟩, hp⟩ : ∃ x, L[k] = x := ⟨_, rfl⟩
        rw [hp] at he
        have e0 := hkw.out.val (he 0 _ rfl)
        have e1 := hkw.out.val (he 1 _ rfl)
        simp only [shT, Nat.add_zero] at e0 e1
        have hyes : tlt (p0, p1, p2) (n0, n1, n2) → ∀ j (hj : j < L.length), j < k + 1 → tlt L[j] (n0, n1, n2) := fun hn j hj hjk => by
          by_cases e : j = k
          · subst e; rw [hp]; exact hn
          · exact hno.out j hj (by omega)
        have hnot : ¬ tlt (p0, p1, p2) (n0, n1, n2) → ∀ hj : k < L.length, ¬ tlt L[k] (n0, n1, n2) := fun hn hj => by rw [hp]; exact hn
        replace hyes := Lib.hid hyes
        replace hnot := Lib.hid hnot
        replace hp := Lib.hid hp
        clear he
        by_cases a0 : p0 < n0
        · have b0 : decide (p0 < n0) = true := by simpa using a0
          have hy := Lib.hid (hyes.out (.inl a0))
          replace a0 := Lib.hid a0
          go_wp2
          (refine wp_region_quiet_lit (by kernel_rfl) (by kernel_rfl) ?_; (repeat (first | go_big_quiet_step (fail) | quiet_step (fail))); with_reducible refine wpQuiet_nil ?_; intro _ hw'; obtain ⟨nq, hw''⟩ := hw'; subst hw'')
          go_wp2
          go_roundw
          case rel => exact ⟨k + 1, rfl, by omega, hy, Lib.hid (hkr.out.drewN _)⟩
          case measure => simp [intOf]; omega
        · have b0 : decide (p0 < n0) = false := by simpa using a0
          by_cases a1 : p0 = n0
          · have b1 : (p0 == n0) = true := by simpa using a1
            by_cases a2 : p1 < n1
            · have b2 : decide ((p1 : Int) < (n1 : Int)) = true := by simp; omega
              have hy := Lib.hid (hyes.out (.inr ⟨a1, a2⟩))
              replace a0 := Lib.hid a0
              replace a1 := Lib.hid a1
              replace a2 := Lib.hid a2
              go_wp2
              (refine wp_region_quiet_lit (by kernel_rfl) (by kernel_rfl) ?_; (repeat (first | go_big_quiet_step (fail) | quiet_step (fail))); with_reducible refine wpQuiet_nil ?_; intro _ hw'; obtain ⟨nq, hw''⟩ := hw'; subst hw'')
              go_wp2
              go_roundw
              case rel => exact ⟨k + 1, rfl, by omega, hy, Lib.hid (hkr.out.drewN _)⟩
              case measure => simp [intOf]; omega
            · have b2 : decide ((p1 : Int) < (n1 : Int)) = false := by simp; omega
              have hy := Lib.hid (hnot.out (by unfold tlt; simp only; omega))
              replace a0 := Lib.hid a0
              replace a1 := Lib.hid a1
              replace a2 := Lib.hid a2
              go_wp2
              (refine wp_region_quiet_lit (by kernel_rfl) (by kernel_rfl) ?_; (repeat (first | go_big_quiet_step (fail) | quiet_step (fail))); with_reducible refine wpQuiet_nil ?_; intro _ hw'; obtain ⟨nq, hw''⟩ := hw'; subst hw'')
              go_wp2
              go_meet
              case rel => exact ⟨k, rfl, by omega, hno, hy, Lib.hid (hkr.out.drewN _)⟩
          · have b1 : (p0 == n0) = false := by simpa using a1
            have hy := Lib.hid (hnot.out (by unfold tlt; simp only; omega))
            replace a0 := Lib.hid a0
            replace a1 := Lib.hid a1
            go_wp2
            (refine wp_region_quiet_lit (by kernel_rfl) (by kernel_rfl) ?_; (repeat (first | go_big_quiet_step (fail) | quiet_step (fail))); with_reducible refine wpQuiet_nil ?_; intro _ hw'; obtain ⟨nq, hw''⟩ := hw'; subst hw'')
            go_wp2
            go_meet
            case rel => exact ⟨k, rfl, by omega, hno, hy, Lib.hid (hkr.out.drewN _)⟩
      · have hy : Hid (∀ hj : k < L.length, ¬ tlt L[k] (n0, n1, n2)) := Lib.hid (fun hj => absurd hj (by rw [hM.out]; exact hlt))
        have hlt2 : decide ((k : Int) < (M : Int)) = false := by simp; omega
        go_wp2
        (refine wp_region_quiet_lit (by kernel_rfl) (by kernel_rfl) ?_; (repeat (first | go_big_quiet_step (fail) | quiet_step (fail))); with_reducible refine wpQuiet_nil ?_; intro _ hw'; obtain ⟨nq, hw''⟩ := hw'; subst hw'')
        go_wp2
        go_meet
        case rel => exact ⟨k, rfl, by omega, hno, hy, Lib.hid (hkr.out.drewN _)⟩
  case rest =>
    obtain ⟨k, rfl, hk, hno, hst, hkr⟩ := hcut
    have hat := putN_at (n0, n1, n2) L k (by rw [hM.out]; exact hk) hno.out hst.out
    obtain ⟨y0, y1, y2⟩ := cells3t ((hkr.out.block X (lt_of_blk hb0.out) (by simp)).trans hb0.out)
    have hkw := hkA.out.trans hkr.out
    replace hkw := Lib.hid hkw
    replace hat := Lib.hid hat
    go_upto_region 4 with fail
    go_cut [65] from 6 to 78 (fun b wx => b = .bool (decide (∃ hi : k < L.length, L[k].1 = n0 ∧ L[k].2.1 = n1)) ∧ Hid (Keeps [] wc wx))
    case first =>
      by_cases hlt : k < M
      · have hkl : k < L.length := by rw [hM.out]; exact hlt
        obtain ⟨g, o, c', hv, he⟩ := hel.out k hkl
        rw [hM.out] at hv
        cases hv
        obtain ⟨⟨p0, p1, p2⟩, hp⟩ : ∃ x, L[k] = x := ⟨_, rfl⟩
        rw [hp] at he
        have e0 := hkw.out.val (he 0 _ rfl)
        have e1 := hkw.out.val (he 1 _ rfl)
        simp only [shT, Nat.add_zero] at e0 e1
        have hdec : ∀ q : Bool, (q = true ↔ (p0 = n0 ∧ p1 = n1)) → decide (∃ hi : k < L.length, L[k].1 = n0 ∧ L[k].2.1 = n1) = q := fun q hq => by
          rw [Bool.eq_iff_iff, decide_eq_true_iff, hq]
          exact ⟨fun ⟨_, h1, h2⟩ => by rw [hp] at h1 h2; exact ⟨h1, h2⟩, fun ⟨h1, h2⟩ => ⟨hkl, by rw [hp]; exact h1, by rw [hp]; exact h2⟩⟩
        replace hdec := Lib.hid hdec
        replace hp := Lib.hid hp
        clear he
        by_cases a1 : p0 = n0
        · have b1 : (p0 == n0) = true := by simpa using a1
          by_cases a2 : p1 = n1
          · have b2 : ((p1 : Int) == (n1 : Int)) = true := by simp [a2]
            have hd := Lib.hid (hdec.out true (by simp [a1, a2]))
            replace a1 := Lib.hid a1
            replace a2 := Lib.hid a2
            go_wp2
            (refine wp_region_quiet_lit (by kernel_rfl) (by kernel_rfl) ?_; (repeat (first | go_big_quiet_step (fail) | quiet_step (fail))); with_reducible refine wpQuiet_nil ?_; intro _ hw'; obtain ⟨nq, hw''⟩ := hw'; subst hw'')
            go_wp2
            go_meet
            case rel => exact ⟨by rw [hd.out], Lib.hid ((Keeps.refl _ _).drewN _)⟩
          · have b2 : ((p1 : Int) == (n1 : Int)) = false := by simp; omega
            have hd := Lib.hid (hdec.out false (by simp [a1, a2]))
            replace a1 := Lib.hid a1
            replace a2 := Lib.hid a2
            go_wp2
            (refine wp_region_quiet_lit (by kernel_rfl) (by kernel_rfl) ?_; (repeat (first | go_big_quiet_step (fail) | quiet_step (fail))); with_reducible refine wpQuiet_nil ?_; intro _ hw'; obtain ⟨nq, hw''⟩ := hw'; subst hw'')
            go_wp2
            go_meet
            case rel => exact ⟨by rw [hd.out], Lib.hid ((Keeps.refl _ _).drewN _)⟩
        · have b1 : (p0 == n0) = false := by simpa using a1
          have hd := Lib.hid (hdec.out false (by simp [a1]))
          replace a1 := Lib.hid a1
          go_wp2
          (refine wp_region_quiet_lit (by kernel_rfl) (by kernel_rfl) ?_; (repeat (first | go_big_quiet_step (fail) | quiet_step (fail))); with_reducible refine wpQuiet_nil ?_; intro _ hw'; obtain ⟨nq, hw''⟩ := hw'; subst hw'')
          go_wp2
          go_meet
          case rel => exact ⟨by rw [hd.out], Lib.hid ((Keeps.refl _ _).drewN _)⟩
      · have hd : decide (∃ hi : k < L.length, L[k].1 = n0 ∧ L[k].2.1 = n1) = false := decide_eq_false (fun ⟨h1, _⟩ => by rw [hM.out] at h1; exact hlt h1)
        have hlt2 : decide ((k : Int) < (M : Int)) = false := by simp; omega
        replace hd := Lib.hid hd
        go_wp2
        (refine wp_region_quiet_lit (by kernel_rfl) (by kernel_rfl) ?_; (repeat (first | go_big_quiet_step (fail) | quiet_step (fail))); with_reducible refine wpQuiet_nil ?_; intro _ hw'; obtain ⟨nq, hw''⟩ := hw'; subst hw'')
        go_wp2
        go_meet
        case rel => exact ⟨by rw [hd.out], Lib.hid ((Keeps.refl _ _).drewN _)⟩
    case rest =>
      obtain ⟨rfl, hk4⟩ := hcut
      by_cases hfd : ∃ hi : k < L.length, L[k].1 = n0 ∧ L[k].2.1 = n1
      · have hres : putN (n0, n1, n2) L = L := by rw [hat.out, if_pos hfd]
        rw [decide_eq_true hfd]
        have hkf := Lib.hid (hkw.out.trans hk4.out)
        replace hres := Lib.hid hres
        replace hfd := Lib.hid hfd
        go_wp2
        go_ret
        exact ⟨_, rfl, .inl ⟨rfl, hres.out⟩, hkf.out⟩
      · have hres : putN (n0, n1, n2) L = L.take k ++ (n0, n1, n2) :: L.drop k := by rw [hat.out, if_neg hfd]
        rw [decide_eq_false hfd]
        have hkc := hkw.out.trans hk4.out
        obtain ⟨y0, y1, y2⟩ := cells3t ((hk4.out.block X (lt_of_blk ((hkr.out.block X (lt_of_blk hb0.out) (by simp)).trans hb0.out)) (by simp)).trans ((hkr.out.block X (lt_of_blk hb0.out) (by simp)).trans hb0.out))
        have hXl := lt_of_cell y0
        have hRk := h.out.keeps hkc
        have hT1 := hRk.init' k (by rw [hM.out]; exact hk)
        have hT2 := hRk.tail' k (by rw [hM.out]; exact hk)
        rw [hM.out] at hT2
        replace hT2 : shT.R wc (.slice (if c = k then a else a.map (·.add (k * 3))) (M - k) (c - k)) (L.drop k) := hT2
        have f1 : (0 : Int) ≤ (k : Int) := by omega
        have f2 : (k : Int) ≤ (c : Int) := by omega
        have f3 : (k : Int) ≤ (M : Int) := by omega
        have hlt1 : (L.take k).length ≤ 1000000000000 := by rw [List.length_take, hM.out]; omega
        have hlt2 : (L.drop k).length ≤ 1000000000000 := by rw [List.length_drop, hM.out]; omega
        replace hkc := Lib.hid hkc
        replace hT1 := Lib.hid hT1
        replace hT2 := Lib.hid hT2
        replace hlt1 := Lib.hid hlt1
        replace hlt2 := Lib.hid hlt2
        replace hres := Lib.hid hres
        replace hfd := Lib.hid hfd
        clear hRk hk4 hkr
        go_wp2
        have hn : Ins.Nums 4 6 7 11 := by unfold Ins.Nums; decide
        refine Free.wp_region_free (by kernel_rfl) (by kernel_rfl) (fun i => i == 0 || i == 4 || i == 6 || i == 7 || i == 11) (Ins.F shT 4 6 7 11 wc.drew.heap.size tN (L.take k) (n0, n1, n2) (L.drop k)) (Ins.T 7 11 wc.drew.heap.size) (Ins.K 7 11) (Ins.stable (.inr (by kernel_rfl))) ?_
        apply Free.walk_loud rfl rfl
        · intro w' hg hf; clear hf
          have hwB := hg.size
          go_simp
          exact Ins.fE hn hwB
        intro v0
        (apply Free.walk_quiet rfl rfl; (intro w' hg hf; clear hf; go_simp <;> exact rfl))
        (apply Free.walk_quiet rfl rfl; (intro w' hg hf; clear hf; go_simp <;> exact rfl))
        (apply Free.walk_quiet rfl rfl; (intro w' hg hf; clear hf; go_simp <;> exact rfl))
        apply Free.walk_loud rfl rfl
        · intro w' hg hf
          have hF0 : Ins.F shT 4 6 7 11 wc.drew.heap.size tN (L.take k) (n0, n1, n2) (L.drop k) 0 v0 w' := by simpa using hf 0 (by decide) (by kernel_rfl)
          clear hf
          exact Ins.lA hn infoN rfl Tryz.underlying85 hg (fun b h => Ins.low h) hF0 (hT1.out.keeps (Keeps.refl [] wc).drew) _ _ rfl (by simp [Act.eval, Act.put]) (by simp [Act.eval, Act.put]) (by have := hlt1.out; omega)
        intro v4
        apply Free.walk_quiet rfl rfl
        · intro w' hg hf; clear hf
          have r0 := (hg.cell _ _ (lt_of_cell y0) (fun h => Nat.not_le_of_lt (lt_of_cell y0) (Ins.low h))).trans y0
          have r1 := (hg.cell _ _ (lt_of_cell y1) (fun h => Nat.not_le_of_lt (lt_of_cell y1) (Ins.low h))).trans y1
          have r2 := (hg.cell _ _ (lt_of_cell y2) (fun h => Nat.not_le_of_lt (lt_of_cell y2) (Ins.low h))).trans y2
          go_simp <;> exact rfl
        apply Free.walk_loud rfl rfl
        · intro w' hg hf; clear hf
          have hwB := hg.size
          go_simp
          exact Ins.fM hn hwB _ rfl
        intro v6
        apply Free.walk_loud rfl rfl
        · intro w' hg hf
          have hFA : Ins.F shT 4 6 7 11 wc.drew.heap.size tN (L.take k) (n0, n1, n2) (L.drop k) 4 v4 w' := by simpa using hf 4 (by decide) (by kernel_rfl)
          have hFM : Ins.F shT 4 6 7 11 wc.drew.heap.size tN (L.take k) (n0, n1, n2) (L.drop k) 6 v6 w' := by simpa using hf 6 (by decide) (by kernel_rfl)
          clear hf
          exact Ins.lA2 hn infoN rfl Tryz.underlying85 hg hFA hFM _ _ rfl (by simp [Act.eval, Act.put]) (by simp [Act.eval, Act.put]) (by have := hlt1.out; omega)
        intro v7
        (apply Free.walk_quiet rfl rfl; (intro w' hg hf; clear hf; go_simp <;> exact rfl))
        (apply Free.walk_quiet rfl rfl; (intro w' hg hf; clear hf; go_simp <;> exact rfl))
        (apply Free.walk_quiet rfl rfl; (intro w' hg hf; clear hf; go_simp <;> exact rfl))
        apply Free.walk_loud rfl rfl
        · intro w' hg hf
          have hFA : Ins.F shT 4 6 7 11 wc.drew.heap.size tN (L.take k) (n0, n1, n2) (L.drop k) 7 v7 w' := by simpa using hf 7 (by decide) (by kernel_rfl)
          clear hf
          exact Ins.lA3 hn (by decide) infoN rfl Tryz.underlying85 hg (fun b h => Ins.low h) hFA (hT2.out.keeps (Keeps.refl [] wc).drew) _ _ rfl (by simp [Act.eval, Act.put]) (by simp [Act.eval, Act.put]) (by have := hlt1.out; have := hlt2.out; omega)
        intro v11
        (apply Free.walk_quiet rfl rfl; (intro w' hg hf; clear hf; go_simp <;> exact rfl))
        refine Free.walk_nil ?_
        intro wF hg hf
        have hFin : Ins.F shT 4 6 7 11 wc.drew.heap.size tN (L.take k) (n0, n1, n2) (L.drop k) 11 v11 wF := by simpa using hf 11 (by decide) (by kernel_rfl)
        have hO := Lib.hid (hFin.2.2.2.2 rfl (by decide))
        have hk := Lib.hid (hg.to ((Keeps.refl [] wc).drew) (fun b h => .inr (Ins.lowA h)))
        clear hf hg hFin
        go_wp2
        all_goals
          go_ret
          exact ⟨_, rfl, .inr (by rw [hres.out]; have := Ins.O_le hO.out (show w.heap.size ≤ wc.drew.heap.size from hkc.out.size); rw [List.append_assoc, List.singleton_append] at this; exact this), (hkc.out.trans hk.out)⟩
end Go.Proofs.YtpobepninifenaaGreat

namespace Go.Proofs.YtpobepninifenaaGreat
open Go.RowKit

set_option maxRecDepth 100000 in
set_option maxHeartbeats 2000000 in
theorem sameNeeds_c (w : World) (v1 v2 : Value) (L1 L2 : List T3) (h1 : shT.R w v1 L1) (h2 : shT.R w v2 L2) :
    Calls Tryz.prog 36 #[v1, v2] w fun e w' => e = .returned (.bool (decide (L1 = L2))) ∧ Keeps [] w w' := by
  obtain ⟨a1, c1, rfl, hlc1, hcm1, _⟩ := h1.form
  obtain ⟨a2, c2, rfl, hlc2, hcm2, _⟩ := h2.form
  have hel1 := fun k hk => h1.elem (k := k) hk
  have hel2 := fun k hk => h2.elem (k := k) hk
  obtain ⟨M1, hM1⟩ : ∃ N, L1.length = N := ⟨_, rfl⟩
  obtain ⟨M2, hM2⟩ : ∃ N, L2.length = N := ⟨_, rfl⟩
  rw [hM1] at hlc1 ⊢
  rw [hM2] at hlc2 ⊢
  have hMm : M1 ≤ 9223372036854775807 := by unfold maxLen at hcm1; omega
  replace hel1 := Lib.hid hel1
  replace hel2 := Lib.hid hel2
  replace hM1 := Lib.hid hM1
  replace hM2 := Lib.hid hM2
  clear h1 h2 hcm1 hcm2
  obtain ⟨rb, hrb⟩ : ∃ b, decide (L1 = L2) = b := ⟨_, rfl⟩
  rw [hrb]
  replace hrb := Lib.hid hrb
  by_cases hne : M1 = M2
  · subst hne
    go_enter Tryz.func36, Tryz.ntmps36
    go_wp2
    go_loopw [5] (fun i wr => ∃ k : Nat, i = .int .i64 k ∧ k ≤ M1 ∧ Hid (∀ j (h1 : j < L1.length) (h2 : j < L2.length), j < k → L1[j] = L2[j]) ∧ Hid (Keeps [] w wr)) (fun i _ => M1 - (intOf i).toNat)
    case atStart => exact ⟨0, rfl, by omega, Lib.hid (fun _ _ _ h => by omega), Lib.hid (Keeps.refl _ _)⟩
    case round =>
      obtain ⟨k, rfl, hk, hno, hkw⟩ := hrel
      by_cases hlt : k < M1
      · have hk1 : k < L1.length := by rw [hM1.out]; exact hlt
        have hk2 : k < L2.length := by rw [hM2.out]; exact hlt
        obtain ⟨g, o, c', hv, he⟩ := hel1.out k hk1
        obtain ⟨g2, o2, c2', hv2, he2⟩ := hel2.out k hk2
        rw [hM1.out] at hv
        rw [hM2.out] at hv2
        cases hv
        cases hv2
        obtain ⟨⟨x0, x1, x2⟩, hx⟩ : ∃ x, L1[k] = x := ⟨_, rfl⟩
        obtain ⟨⟨y0, y1, y2⟩, hy⟩ : ∃ x, L2[k] = x := ⟨_, rfl⟩
        rw [hx] at he
        rw [hy] at he2
        have e0 := hkw.out.val (he 0 _ rfl)
        have e1 := hkw.out.val (he 1 _ rfl)
        have e2 := hkw.out.val (he 2 _ rfl)
        have d0 := hkw.out.val (he2 0 _ rfl)
        have d1 := hkw.out.val (he2 1 _ rfl)
        have d2 := hkw.out.val (he2 2 _ rfl)
        simp only [shT, Nat.add_zero] at e0 e1 e2 d0 d1 d2
        have hq := fun w => neN w (x0, x1, x2) (y0, y1, y2)
        simp only [tV] at hq
        replace hx := Lib.hid hx
        replace hy := Lib.hid hy
        clear he he2
        by_cases h1 : (x0, x1, x2) = (y0, y1, y2)
        · rw [decide_eq_false (fun h => h h1)] at hq
          replace h1 := Lib.hid h1
          go_wp2
          (refine wp_region_quiet_lit (by kernel_rfl) (by kernel_rfl) ?_; (repeat (first | go_big_quiet_step (fail) | quiet_step (fail))); with_reducible refine wpQuiet_nil ?_; intro _ hw'; obtain ⟨nq, hw''⟩ := hw'; subst hw'')
          go_wp2
          go_roundw
          case rel => exact ⟨k + 1, rfl, by omega, Lib.hid (fun j hj1 hj2 hjk => by
              by_cases e : j = k
              · subst e; rw [hx.out, hy.out]; exact h1.out
              · exact hno.out j hj1 hj2 (by omega)), Lib.hid (hkw.out.drewN _)⟩
          case measure => simp [intOf]; omega
        · rw [decide_eq_true h1] at hq
          have hr : decide (L1 = L2) = false := decide_eq_false (fun e => h1 (by rw [← hx.out, ← hy.out]; simp only [e]))
          rw [hrb.out] at hr
          replace hr := Lib.hid hr
          replace h1 := Lib.hid h1
          go_wp2
          (refine wp_region_quiet_lit (by kernel_rfl) (by kernel_rfl) ?_; (repeat (first | go_big_quiet_step (fail) | quiet_step (fail))); with_reducible refine wpQuiet_nil ?_; intro _ hw'; obtain ⟨nq, hw''⟩ := hw'; subst hw'')
          go_wp2
          go_ret
          exact ⟨by rw [hr.out]; rfl, hkw.out.drewN _⟩
      · have hr : decide (L1 = L2) = true := decide_eq_true (List.ext_getElem (by rw [hM1.out, hM2.out]) (fun j h1 h2 => hno.out j h1 h2 (by rw [hM1.out] at h1; omega)))
        rw [hrb.out] at hr
        replace hr := Lib.hid hr
        go_wp2
        go_ret
        exact ⟨by rw [hr.out]; rfl, hkw.out⟩
  · have hne1 : ((M1 : Int) != M2) = true := by simp; omega
    have hr : decide (L1 = L2) = false := decide_eq_false (fun e => hne (by rw [← hM1.out, ← hM2.out, e]))
    rw [hrb.out] at hr
    replace hr := Lib.hid hr
    go_enter Tryz.func36, Tryz.ntmps36
    go_wp2
    go_ret
    exact ⟨by rw [hr.out]; rfl, Keeps.refl _ _⟩
def clV (x : ClV) : Value := .agg #[.int .i64 x.m, .int .i64 x.ep, slv x.v1, slv x.v2, slv x.v3]
/-- The cells of a claim say this claim. -/
structure CR (w : World) (x : ClV) (p : PCl) : Prop where
  m : x.m = p.m
  ep : x.ep = p.ep
  st : shT.R w (slv x.v1) p.st
  sc : shT.R w (slv x.v2) p.sc
  ch : shT.R w (slv x.v3) p.ch
theorem CR.keeps {w w' : World} {x : ClV} {p : PCl} (h : CR w x p) (hk : Keeps [] w w') : CR w' x p := ⟨h.m, h.ep, h.st.keeps hk, h.sc.keeps hk, h.ch.keeps hk⟩
theorem decide_pcl (p q : PCl) : decide (p = q) = (p.m == q.m && (p.ep == q.ep && (decide (p.st = q.st) && (decide (p.sc = q.sc) && decide (p.ch = q.ch))))) := by
  obtain ⟨a, b, c, d, e⟩ := p
  obtain ⟨a', b', c', d', e'⟩ := q
  simp only [PCl.mk.injEq, Bool.decide_and]
  rfl
theorem cells5 {w : World} {b : Nat} {x0 x1 x2 x3 x4 : Value} {t : TypeId} {f : Nat × Nat} (h : w.heap[b]? = some (.cells #[x0, x1, x2, x3, x4] t f)) : w.cell? ⟨b, 0, none⟩ = some x0 ∧ w.cell? ⟨b, 1, none⟩ = some x1 ∧ w.cell? ⟨b, 2, none⟩ = some x2 ∧ w.cell? ⟨b, 3, none⟩ = some x3 ∧ w.cell? ⟨b, 4, none⟩ = some x4 ∧ b < w.heap.size := by
  refine ⟨?_, ?_, ?_, ?_, ?_, lt_of_blk h⟩ <;> simp [World.cell?, h]
set_option maxRecDepth 100000 in
set_option maxHeartbeats 4000000 in
theorem sameClaim_c (w : World) (x y : ClV) (p q : PCl) (h1 : CR w x p) (h2 : CR w y q) :
    Calls Tryz.prog 83 #[clV x, clV y] w fun e w' => e = .returned (.bool (decide (p = q))) ∧ Keeps [] w w' := by
  have hdec := decide_pcl p q
  obtain ⟨rb, hrb⟩ : ∃ b, decide (p = q) = b := ⟨_, rfl⟩
  rw [hrb] at hdec ⊢
  obtain ⟨x0, x1, ⟨a1, a2, a3⟩, ⟨b1, b2, b3⟩, ⟨c1, c2, c3⟩⟩ := x
  obtain ⟨y0, y1, ⟨d1, d2, d3⟩, ⟨e1, e2, e3⟩, ⟨g1, g2, g3⟩⟩ := y
  obtain ⟨m1, m2, m3, m4, m5⟩ := h1
  obtain ⟨n1, n2, n3, n4, n5⟩ := h2
  simp only [slv] at m1 m2 m3 m4 m5 n1 n2 n3 n4 n5
  rw [← m1, ← m2, ← n1, ← n2] at hdec
  have hc1 := fun (W : World) (hk : Keeps [] w W) => sameNeeds_c W _ _ _ _ (m3.keeps hk) (n3.keeps hk)
  have hc2 := fun (W : World) (hk : Keeps [] w W) => sameNeeds_c W _ _ _ _ (m4.keeps hk) (n4.keeps hk)
  have hc3 := fun (W : World) (hk : Keeps [] w W) => sameNeeds_c W _ _ _ _ (m5.keeps hk) (n5.keeps hk)
  obtain ⟨s1, hs1⟩ : ∃ b, decide (p.st = q.st) = b := ⟨_, rfl⟩
  obtain ⟨s2, hs2⟩ : ∃ b, decide (p.sc = q.sc) = b := ⟨_, rfl⟩
  obtain ⟨s3, hs3⟩ : ∃ b, decide (p.ch = q.ch) = b := ⟨_, rfl⟩
  rw [hs1] at hc1 hdec
  rw [hs2] at hc2 hdec
  rw [hs3] at hc3 hdec
  have hkA : Keeps [] w ((w.alloc (.cells #[.int .i64 x0, .int .i64 x1, .slice a1 a2 a3, .slice b1 b2 b3, .slice c1 c2 c3] tC)).alloc (.cells #[.int .i64 y0, .int .i64 y1, .slice d1 d2 d3, .slice e1 e2 e3, .slice g1 g2 g3] tC)) := ((Keeps.refl _ _).alloc _).alloc _
  have hbA : ((w.alloc (.cells #[.int .i64 x0, .int .i64 x1, .slice a1 a2 a3, .slice b1 b2 b3, .slice c1 c2 c3] tC)).alloc (.cells #[.int .i64 y0, .int .i64 y1, .slice d1 d2 d3, .slice e1 e2 e3, .slice g1 g2 g3] tC)).heap[w.heap.size]? = some (.cells #[.int .i64 x0, .int .i64 x1, .slice a1 a2 a3, .slice b1 b2 b3, .slice c1 c2 c3] tC (0, 0)) :=
    (((Keeps.refl [] _).alloc _).block w.heap.size (by simp) (by simp)).trans (heap_alloc_new w _)
  have hbB : ((w.alloc (.cells #[.int .i64 x0, .int .i64 x1, .slice a1 a2 a3, .slice b1 b2 b3, .slice c1 c2 c3] tC)).alloc (.cells #[.int .i64 y0, .int .i64 y1, .slice d1 d2 d3, .slice e1 e2 e3, .slice g1 g2 g3] tC)).heap[w.heap.size + 1]? = some (.cells #[.int .i64 y0, .int .i64 y1, .slice d1 d2 d3, .slice e1 e2 e3, .slice g1 g2 g3] tC (0, 0)) := by
    have h3 := heap_alloc_new (w.alloc (.cells #[.int .i64 x0, .int .i64 x1, .slice a1 a2 a3, .slice b1 b2 b3, .slice c1 c2 c3] tC)) (.cells #[.int .i64 y0, .int .i64 y1, .slice d1 d2 d3, .slice e1 e2 e3, .slice g1 g2 g3] tC)
    rwa [show (w.alloc (.cells #[.int .i64 x0, .int .i64 x1, .slice a1 a2 a3, .slice b1 b2 b3, .slice c1 c2 c3] tC)).heap.size = w.heap.size + 1 by simp] at h3
  replace hbA := Lib.hid hbA
  replace hbB := Lib.hid hbB
  replace hc1 := Lib.hid hc1
  replace hc2 := Lib.hid hc2
  replace hc3 := Lib.hid hc3
  replace hdec := Lib.hid hdec
  replace hkA := Lib.hid hkA
  clear m1 m2 m3 m4 m5 n1 n2 n3 n4 n5 hs1 hs2 hs3 hrb
  simp only [clV, slv]
  by_cases f1 : x0 = y0
  case neg =>
    have k1 : (x0 == y0) = false := by simpa using f1
    have hd := hdec.out
    rw [k1, Bool.false_and] at hd
    subst hd
    go_enter Tryz.func83, Tryz.ntmps83
    go_wp2
    go_ret
    exact ⟨rfl, hkA.out⟩
  case pos =>
  subst f1
  have k1 : (x0 == x0) = true := by simp
  by_cases f2 : x1 = y1
  case neg =>
    have k2 : (x1 == y1) = false := by simpa using f2
    have hd := hdec.out
    rw [k1, k2, Bool.true_and, Bool.false_and] at hd
    subst hd
    go_enter Tryz.func83, Tryz.ntmps83
    go_wp2
    go_ret
    exact ⟨rfl, hkA.out⟩
  case pos =>
  subst f2
  have k2 : (x1 == x1) = true := by simp
  have hd := hdec.out
  rw [k1, k2, Bool.true_and, Bool.true_and] at hd
  subst hd
  clear hdec k1 k2
  go_enter Tryz.func83, Tryz.ntmps83
  go_wp2_with fail
  refine (hc1.out _ hkA.out).mono ?_
  rintro e w1 ⟨rfl, hk1⟩
  have hk01 := hkA.out.trans hk1
  have hb1 := (hk1.block _ (lt_of_blk hbA.out) (by simp)).trans hbA.out
  have hb2 := (hk1.block _ (lt_of_blk hbB.out) (by simp)).trans hbB.out
  obtain ⟨_, _, p2, p3, p4, _⟩ := cells5 hb1
  obtain ⟨_, _, q2, q3, q4, _⟩ := cells5 hb2
  replace hk01 := Lib.hid hk01
  replace hb1 := Lib.hid hb1
  replace hb2 := Lib.hid hb2
  clear hbA hbB hkA hk1 hc1
  cases s1 with
  | false =>
    go_wp2
    go_ret
    exact ⟨rfl, hk01.out⟩
  | true =>
  go_wp2_with fail
  refine (hc2.out _ hk01.out).mono ?_
  rintro e w2 ⟨rfl, hk2⟩
  have hk02 := hk01.out.trans hk2
  have hb3 := (hk2.block _ (lt_of_blk hb1.out) (by simp)).trans hb1.out
  have hb4 := (hk2.block _ (lt_of_blk hb2.out) (by simp)).trans hb2.out
  obtain ⟨_, _, p2, p3, p4, _⟩ := cells5 hb3
  obtain ⟨_, _, q2, q3, q4, _⟩ := cells5 hb4
  replace hk02 := Lib.hid hk02
  clear hb1 hb2 hb3 hb4 hk01 hk2 hc2
  cases s2 with
  | false =>
    go_wp2
    go_ret
    exact ⟨rfl, hk02.out⟩
  | true =>
  go_wp2_with fail
  refine (hc3.out _ hk02.out).mono ?_
  rintro e w3 ⟨rfl, hk3⟩
  have hk03 := hk02.out.trans hk3
  replace hk03 := Lib.hid hk03
  go_wp2
  go_ret
  exact ⟨rfl, hk03.out⟩
/-- A list of claims that is read. -/
def LC (w : World) (v : Value) (P : List PCl) : Prop := ∃ C, shC.R w v C ∧ C.length = P.length ∧ ∀ (k : Nat) (x : ClV) (p : PCl), C[k]? = some x → P[k]? = some p → CR w x p
theorem LC.keeps {w w' : World} {v : Value} {P : List PCl} (h : LC w v P) (hk : Keeps [] w w') : LC w' v P := by
  obtain ⟨C, h1, h2, h3⟩ := h
  exact ⟨C, h1.keeps hk, h2, fun k x p hx hp => (h3 k x p hx hp).keeps hk⟩
theorem LC.nil (w : World) : LC w (.slice none 0 0) [] := ⟨[], Sh.R.nil _ _, rfl, fun k x p h => by simp at h⟩
theorem LC.form {w : World} {v : Value} {P : List PCl} (h : LC w v P) : ∃ a c, v = .slice a P.length c ∧ P.length ≤ c ∧ c ≤ maxLen := by
  obtain ⟨C, h1, h2, h3⟩ := h
  obtain ⟨a, c, e, h4, h5, _⟩ := h1.form
  exact ⟨a, c, by rw [← h2]; exact e, by omega, h5⟩
theorem LC.elem {w : World} {v : Value} {P : List PCl} (h : LC w v P) {k : Nat} (hk : k < P.length) : ∃ g o c x, v = .slice (some ⟨g, o, none⟩) P.length c ∧ CR w x P[k] ∧ w.cell? ⟨g, o + k * 5, none⟩ = some (.int .i64 x.m) ∧ w.cell? ⟨g, o + k * 5 + 1, none⟩ = some (.int .i64 x.ep) ∧
    w.cell? ⟨g, o + k * 5 + 2, none⟩ = some (slv x.v1) ∧ w.cell? ⟨g, o + k * 5 + 3, none⟩ = some (slv x.v2) ∧ w.cell? ⟨g, o + k * 5 + 4, none⟩ = some (slv x.v3) := by
  obtain ⟨C, h1, h2, h3⟩ := h
  have hkC : k < C.length := by omega
  obtain ⟨g, o, c, e, he⟩ := h1.elem hkC
  refine ⟨g, o, c, C[k], by rw [← h2]; exact e, h3 k _ _ (List.getElem?_eq_getElem _) (List.getElem?_eq_getElem _), ?_, ?_, ?_, ?_, ?_⟩
  · simpa [shC] using he 0 _ rfl
  · simpa [shC] using he 1 _ rfl
  · simpa [shC] using he 2 _ rfl
  · simpa [shC] using he 3 _ rfl
  · simpa [shC] using he 4 _ rfl
theorem CL.lc {w : World} {B : Nat} {vc : Value} {P : List PCl} {V : Nat → Nat → SlT} (h : CL w B vc P V) : LC w vc P := by
  refine ⟨_, h.c.r, rowsC_len P V, fun k x p hx hp => ?_⟩
  obtain ⟨hk, rfl⟩ := List.getElem?_eq_some_iff.1 hp
  obtain ⟨hk2, rfl⟩ := List.getElem?_eq_some_iff.1 hx
  rw [rowsC_get P V k hk]
  exact ⟨rfl, rfl, (h.o k 0 hk (by omega)).r, (h.o k 1 hk (by omega)).r, (h.o k 2 hk (by omega)).r⟩
set_option maxRecDepth 100000 in
set_option maxHeartbeats 4000000 in
theorem sameClaims_c (w : World) (v1 v2 : Value) (L1 L2 : List PCl) (h1 : LC w v1 L1) (h2 : LC w v2 L2) :
    Calls Tryz.prog 43 #[v1, v2] w fun e w' => e = .returned (.bool (decide (L1 = L2))) ∧ Keeps [] w w' := by
  obtain ⟨a1, c1, rfl, hlc1, hcm1⟩ := h1.form
  obtain ⟨a2, c2, rfl, hlc2, hcm2⟩ := h2.form
  obtain ⟨M1, hM1⟩ : ∃ N, L1.length = N := ⟨_, rfl⟩
  obtain ⟨M2, hM2⟩ : ∃ N, L2.length = N := ⟨_, rfl⟩
  rw [hM1] at hlc1 h1 ⊢
  rw [hM2] at hlc2 h2 ⊢
  have hMm : M1 ≤ 9223372036854775807 := by unfold maxLen at hcm1; omega
  replace h1 := Lib.hid h1
  replace h2 := Lib.hid h2
  replace hM1 := Lib.hid hM1
  replace hM2 := Lib.hid hM2
  clear hcm1 hcm2
  obtain ⟨rb, hrb⟩ : ∃ b, decide (L1 = L2) = b := ⟨_, rfl⟩
  rw [hrb]
  replace hrb := Lib.hid hrb
  by_cases hne : M1 = M2
  · subst hne
    go_enter Tryz.func43, Tryz.ntmps43
    go_wp2
    go_loopw [5] (fun i wr => ∃ k : Nat, i = .int .i64 k ∧ k ≤ M1 ∧ Hid (∀ j (h1 : j < L1.length) (h2 : j < L2.length), j < k → L1[j] = L2[j]) ∧ Hid (Keeps [] w wr)) (fun i _ => M1 - (intOf i).toNat)
    case atStart => exact ⟨0, rfl, by omega, Lib.hid (fun _ _ _ h => by omega), Lib.hid (Keeps.refl _ _)⟩
    case round =>
      obtain ⟨k, rfl, hk, hno, hkw⟩ := hrel
      by_cases hlt : k < M1
      · have hk1 : k < L1.length := by rw [hM1.out]; exact hlt
        have hk2 : k < L2.length := by rw [hM2.out]; exact hlt
        obtain ⟨g, o, c', x, hv, hxr, e0, e1, e2, e3, e4⟩ := (h1.out.keeps hkw.out).elem hk1
        obtain ⟨g2, o2, c2', y, hv2, hyr, d0, d1, d2, d3, d4⟩ := (h2.out.keeps hkw.out).elem hk2
        rw [hM1.out] at hv
        rw [hM2.out] at hv2
        cases hv
        cases hv2
        have hcon := fun (W : World) (hk : Keeps [] wr W) => sameClaim_c W x y _ _ (hxr.keeps hk) (hyr.keeps hk)
        obtain ⟨sb, hsb⟩ : ∃ b, decide (L1[k] = L2[k]) = b := ⟨_, rfl⟩
        rw [hsb] at hcon
        obtain ⟨x0, x1, ⟨x2, x3, x4⟩, ⟨x5, x6, x7⟩, ⟨x8, x9, x10⟩⟩ := x
        obtain ⟨y0, y1, ⟨y2, y3, y4⟩, ⟨y5, y6, y7⟩, ⟨y8, y9, y10⟩⟩ := y
        simp only [clV, slv] at hcon e0 e1 e2 e3 e4 d0 d1 d2 d3 d4
        replace hcon := Lib.hid hcon
        replace hsb := Lib.hid hsb
        clear hxr hyr
        go_wp2
        refine Free.wp_region_chain (fun i => i == 8) (fun i => true) (fun _ _ => False) (by kernel_rfl) (by kernel_rfl) (by kernel_rfl) ?_
        (repeat (first | (apply Free.cw_pure rfl rfl; (intro w'; go_simp <;> exact rfl); go_frame) | (apply Free.cw_steady rfl rfl rfl; (intro w' hS; have q0 := Free.sx_cell hS e0 (fun _ _ hT => hT); have q1 := Free.sx_cell hS e1 (fun _ _ hT => hT); have q2 := Free.sx_cell hS e2 (fun _ _ hT => hT); have q3 := Free.sx_cell hS e3 (fun _ _ hT => hT); have q4 := Free.sx_cell hS e4 (fun _ _ hT => hT); have q5 := Free.sx_cell hS d0 (fun _ _ hT => hT); have q6 := Free.sx_cell hS d1 (fun _ _ hT => hT); have q7 := Free.sx_cell hS d2 (fun _ _ hT => hT); have q8 := Free.sx_cell hS d3 (fun _ _ hT => hT); have q9 := Free.sx_cell hS d4 (fun _ _ hT => hT); go_simp <;> exact rfl); go_frame) | (refine Free.cw_skip rfl ?_; go_frame)))
        refine Free.cw_loud rfl rfl (fun K hK => ?_)
        go_wp2_with fail
        refine (hcon.out _ ((Keeps.refl [] _).drew)).mono ?_
        rintro e w2 ⟨rfl, hkB⟩
        refine hK _ _ rfl (Free.KeepsP.of hkB (by simp)) ?_
        clear hK K hcon
        (repeat (apply Free.cw_pure rfl rfl; (intro w'; go_simp <;> exact rfl); go_frame))
        refine Free.cw_nil ?_
        have hkB2 : Keeps [] wr w2 := ((Keeps.refl [] wr).drew).trans hkB
        have hkw2 := Lib.hid (hkw.out.trans hkB2)
        clear hkB hkB2 hkw
        cases sb with
        | true =>
          go_wp2
          go_roundw
          case rel => exact ⟨k + 1, rfl, by omega, Lib.hid (fun j hj1 hj2 hjk => by
              by_cases e : j = k
              · subst e; exact of_decide_eq_true hsb.out
              · exact hno.out j hj1 hj2 (by omega)), hkw2⟩
          case measure => simp [intOf]; omega
        | false =>
          have hr : decide (L1 = L2) = false := decide_eq_false (fun e => of_decide_eq_false hsb.out (by simp only [e]))
          rw [hrb.out] at hr
          replace hr := Lib.hid hr
          go_wp2
          go_ret
          exact ⟨by rw [hr.out]; rfl, hkw2.out⟩
      · have hr : decide (L1 = L2) = true := decide_eq_true (List.ext_getElem (by rw [hM1.out, hM2.out]) (fun j h1 h2 => hno.out j h1 h2 (by rw [hM1.out] at h1; omega)))
        rw [hrb.out] at hr
        replace hr := Lib.hid hr
        go_wp2
        go_ret
        exact ⟨by rw [hr.out]; rfl, hkw.out⟩
  · have hne1 : ((M1 : Int) != M2) = true := by simp; omega
    have hr : decide (L1 = L2) = false := decide_eq_false (fun e => hne (by rw [← hM1.out, ← hM2.out, e]))
    rw [hrb.out] at hr
    replace hr := Lib.hid hr
    go_enter Tryz.func43, Tryz.ntmps43
    go_wp2
    go_ret
    exact ⟨by rw [hr.out]; rfl, Keeps.refl _ _⟩
end Go.Proofs.YtpobepninifenaaGreat

namespace Go.Proofs.YtpobepninifenaaGreat
open Go.RowKit

/-- A list of needs, in a block of needs. -/
def Nd (w : World) (v : Value) (L : List T3) : Prop := shT.R w v L ∧ ∀ b, v.ownBlock = some b → ∃ (cs : Array Value) (f : Nat × Nat), w.heap[b]? = some (Obj.cells cs tN f)
theorem Nd.nil (w : World) : Nd w (.slice none 0 0) [] := ⟨Sh.R.nil _ _, fun b h => by simp [Value.ownBlock] at h⟩
theorem Nd.of_O {w : World} {B : Nat} {v : Value} {L : List T3} (h : shT.O w B tN v L) : Nd w v L := ⟨h.r, fun b hb => by obtain ⟨cs, hc⟩ := h.tag b hb; exact ⟨cs, _, hc⟩⟩
theorem Nd.keepS {w w' : World} {v : Value} {L : List T3} {S : List Nat} (h : Nd w v L) (hk : Keeps S w w') (hS : ∀ b ∈ S, ∀ (cs : Array Value) (f : Nat × Nat), w.heap[b]? ≠ some (Obj.cells cs tN f)) : Nd w' v L := by
  refine ⟨h.1.keepS hk (fun b hb e => ?_), fun b hb => ?_⟩
  · obtain ⟨cs, f, hc⟩ := h.2 b e
    exact hS b hb cs f hc
  · obtain ⟨cs, f, hc⟩ := h.2 b hb
    exact ⟨cs, f, (hk.block b (lt_of_blk' hc) (fun hm => hS b hm cs f hc)).trans hc⟩
theorem Nd.keeps {w w' : World} {v : Value} {L : List T3} (h : Nd w v L) (hk : Keeps [] w w') : Nd w' v L := h.keepS hk (by simp)
theorem Nd.put {w w' : World} {v v' : Value} {L : List T3} {n : T3} (h : Nd w v L) (hk : Keeps [] w w') (hp : (v' = v ∧ putN n L = L) ∨ shT.O w' w.heap.size tN v' (putN n L)) : Nd w' v' (putN n L) := by
  rcases hp with ⟨rfl, e⟩ | hO
  · rw [e]; exact h.keeps hk
  · exact Nd.of_O hO
structure CRt (w : World) (x : ClV) (p : PCl) : Prop where
  m : x.m = p.m
  ep : x.ep = p.ep
  st : Nd w (slv x.v1) p.st
  sc : Nd w (slv x.v2) p.sc
  ch : Nd w (slv x.v3) p.ch
theorem CRt.keepS {w w' : World} {x : ClV} {p : PCl} {S : List Nat} (h : CRt w x p) (hk : Keeps S w w') (hS : ∀ b ∈ S, ∀ (cs : Array Value) (f : Nat × Nat), w.heap[b]? ≠ some (Obj.cells cs tN f)) : CRt w' x p := ⟨h.m, h.ep, h.st.keepS hk hS, h.sc.keepS hk hS, h.ch.keepS hk hS⟩
def Rows' (w : World) (C : List ClV) (P : List PCl) : Prop := C.length = P.length ∧ ∀ (j : Nat) (x : ClV) (p : PCl), C[j]? = some x → P[j]? = some p → CRt w x p
theorem Rows'.keepS {w w' : World} {C : List ClV} {P : List PCl} {S : List Nat} (h : Rows' w C P) (hk : Keeps S w w') (hS : ∀ b ∈ S, ∀ (cs : Array Value) (f : Nat × Nat), w.heap[b]? ≠ some (Obj.cells cs tN f)) : Rows' w' C P := ⟨h.1, fun j x p h1 h2 => (h.2 j x p h1 h2).keepS hk hS⟩
theorem Rows'.keeps {w w' : World} {C : List ClV} {P : List PCl} (h : Rows' w C P) (hk : Keeps [] w w') : Rows' w' C P := h.keepS hk (by simp)
theorem Rows'.snoc {w : World} {C : List ClV} {P : List PCl} {x : ClV} {p : PCl} (h : Rows' w C P) (hx : CRt w x p) : Rows' w (C ++ [x]) (P ++ [p]) := by
  obtain ⟨hl, hh⟩ := h
  refine ⟨by simp [hl], fun j a b ha hb => ?_⟩
  by_cases e : j < C.length
  · rw [List.getElem?_append_left e] at ha
    rw [List.getElem?_append_left (by omega)] at hb
    exact hh j a b ha hb
  · rw [List.getElem?_append_right (by omega)] at ha
    rw [List.getElem?_append_right (by omega), ← hl] at hb
    obtain ⟨i, hi⟩ : ∃ i, j - C.length = i := ⟨_, rfl⟩
    rw [hi] at ha hb
    cases i with
    | zero => simp at ha hb; subst ha hb; exact hx
    | succ i => simp at ha
theorem Rows'.setL {w : World} {C : List ClV} {R : List PCl} {c d : PCl} {y : ClV} {n : Nat} (h : Rows' w C (R ++ [c])) (hn : R.length = n) (hy : CRt w y d) : Rows' w (C.set n y) (R ++ [d]) := by
  obtain ⟨hl, hh⟩ := h
  refine ⟨by simpa using hl, fun j a b ha hb => ?_⟩
  rw [List.getElem?_set] at ha
  by_cases e : n = j
  · subst e
    rw [← hn, List.getElem?_append_right (Nat.le_refl _)] at hb
    simp at hb
    subst hb
    rw [if_pos rfl] at ha
    split at ha
    · cases ha; exact hy
    · cases ha
  · rw [if_neg e] at ha
    by_cases e2 : j < R.length
    · rw [List.getElem?_append_left e2] at hb
      exact hh j a b ha (by rw [List.getElem?_append_left e2]; exact hb)
    · have : j < C.length := (List.getElem?_eq_some_iff.1 ha).1
      simp at hl
      omega
theorem Rows'.lc {w : World} {v : Value} {C : List ClV} {P : List PCl} (h : Rows' w C P) (hR : shC.R w v C) : LC w v P := ⟨C, hR, h.1, fun k x p h1 h2 => by
  have := h.2 k x p h1 h2
  exact ⟨this.m, this.ep, this.st.1, this.sc.1, this.ch.1⟩⟩
theorem putN_len (n : T3) : ∀ l : List T3, (putN n l).length ≤ l.length + 1
  | [] => by simp [putN]
  | x :: r => by
    unfold putN
    split
    · have := putN_len n r; simp; omega
    · split
      · simp
      · simp
theorem scR_fold_len (t : Tr) (m : Int) : ∀ (l acc : List T3), (l.foldl (scR t m) acc).length ≤ acc.length + l.length
  | [], acc => by simp
  | x :: r, acc => by
    rw [List.foldl_cons]
    have h1 := scR_fold_len t m r (scR t m acc x)
    have h2 := putN_len (scN t m x) acc
    unfold scR at h1 h2 ⊢
    simp; omega
theorem refOf_len (t : Tr) (O : List (Qn × Int)) (Y : List Ans) (hY : ∀ a ∈ Y, a.ins.length ≤ 100000) : LenLe (refOf t O Y) (Y.length * 100001) := by
  induction Y using snoc_ind with
  | h0 => intro k hk; simp [refOf] at hk
  | hs Y a ih =>
    have ih := ih (fun b hb => hY b (by simp [hb]))
    have ha := hY a (by simp)
    have e : refOf t O (Y ++ [a]) = refC t O (refOf t O Y) a := by unfold refOf; rw [List.foldl_append]; rfl
    rw [e]
    have hb : (Y ++ [a]).length * 100001 = Y.length * 100001 + 100001 := by rw [List.length_append, List.length_singleton, Nat.add_mul, Nat.one_mul]
    rw [hb]
    obtain ⟨K, hK⟩ : ∃ K, Y.length * 100001 = K := ⟨_, rfl⟩
    rw [hK] at ih ⊢
    clear hK hb
    have h1 := ih.openC a
    obtain ⟨n, hn, _⟩ := openC_pos (refOf t O Y) a
    rcases nil_or_snoc (openC (refOf t O Y) a) with h | ⟨R, c, h⟩
    · rw [h] at hn; simp at hn
    · rw [refC_at h]
      rw [h] at h1
      have hR : ∀ k (hk : k < R.length) (j : Nat), j < 3 → (R[k].at j).length ≤ K := fun k hk j hj => by
        have := h1 k (by simp; omega) j hj
        rw [List.getElem_append_left hk] at this; exact this
      have hc : ∀ j, j < 3 → (c.at j).length ≤ K := fun j hj => by
        have := h1 R.length (by simp) j hj
        rw [List.getElem_append_right (Nat.le_refl _)] at this; simpa using this
      intro k hk j hj
      by_cases e2 : k < R.length
      · rw [List.getElem_append_left e2]; have := hR k e2 j hj; omega
      · have hkk : k = R.length := by simp at hk; omega
        subst hkk
        rw [List.getElem_append_right (Nat.le_refl _)]
        simp only [Nat.sub_self, List.getElem_cons_zero]
        match j, hj with
        | 0, _ =>
          have := hc 0 (by omega)
          simp only [PCl.at] at this
          show (stR O a c.st).length ≤ _
          unfold stR
          split
          · have := putN_len (a.ow, a.n, ‹Int›) c.st; omega
          · omega
        | 1, _ =>
          have := hc 1 (by omega)
          simp only [PCl.at] at this
          show (a.ins.foldl (scR t a.m) c.sc).length ≤ _
          have := scR_fold_len t a.m a.ins c.sc
          omega
        | 2, _ =>
          have := hc 2 (by omega)
          simp only [PCl.at] at this
          show (chR O a c.ch).length ≤ _
          unfold chR
          split
          · omega
          · have := putN_len (a.ow, a.n, 0) c.ch; omega
/-- Five cells of a row are stored. -/
theorem setRow5 {w : World} {B g n c : Nat} {L : List ClV} (h : shC.O w B tC (.slice (some ⟨g, 0, none⟩) n c) L) {k : Nat} (hk : k < L.length) (y : ClV) :
    shC.O (((((w.setCell ⟨g, k * 5, none⟩ (.int .i64 y.m)).setCell ⟨g, k * 5 + 1, none⟩ (.int .i64 y.ep)).setCell ⟨g, k * 5 + 2, none⟩ (slv y.v1)).setCell ⟨g, k * 5 + 3, none⟩ (slv y.v2)).setCell ⟨g, k * 5 + 4, none⟩ (slv y.v3)) B tC (.slice (some ⟨g, 0, none⟩) n c) (L.set k y) := by
  obtain ⟨z, hz⟩ : ∃ z, L[k] = z := ⟨_, rfl⟩
  have h1 := h.set hk { z with m := y.m } 0 (.int .i64 y.m) (by rw [hz]; rfl) (by decide) rfl
  have hk1 : k < (L.set k { z with m := y.m }).length := by simpa using hk
  have h2 := h1.set hk1 { z with m := y.m, ep := y.ep } 1 (.int .i64 y.ep) (by simp [shC, ClV.cs]) (by decide) rfl
  rw [List.set_set] at h2
  have h3 := h2.set (by simpa using hk) { z with m := y.m, ep := y.ep, v1 := y.v1 } 2 (slv y.v1) (by simp [shC, ClV.cs]) (by decide) rfl
  rw [List.set_set] at h3
  have h4 := h3.set (by simpa using hk) { z with m := y.m, ep := y.ep, v1 := y.v1, v2 := y.v2 } 3 (slv y.v2) (by simp [shC, ClV.cs]) (by decide) rfl
  rw [List.set_set] at h4
  have h5 := h4.set (by simpa using hk) y 4 (slv y.v3) (by simp [shC, ClV.cs]) (by decide) rfl
  rw [List.set_set] at h5
  exact h5
end Go.Proofs.YtpobepninifenaaGreat

namespace Go.Proofs.YtpobepninifenaaGreat
open Go.RowKit

/-- A list of claims that is read, its needs in blocks of needs. -/
def LCt (w : World) (v : Value) (P : List PCl) : Prop := ∃ C, shC.R w v C ∧ (∀ b, v.ownBlock = some b → ∃ (cs : Array Value) (f : Nat × Nat), w.heap[b]? = some (Obj.cells cs tC f)) ∧ Rows' w C P
theorem LCt.lc {w : World} {v : Value} {P : List PCl} (h : LCt w v P) : LC w v P := by obtain ⟨C, h1, _, h2⟩ := h; exact h2.lc h1
theorem LCt.nil (w : World) : LCt w (.slice none 0 0) [] := ⟨[], Sh.R.nil _ _, fun b h => by simp [Value.ownBlock] at h, rfl, fun j x p h => by simp at h⟩
theorem LCt.elem {w : World} {v : Value} {P : List PCl} (h : LCt w v P) {k : Nat} (hk : k < P.length) : ∃ g o c x, v = .slice (some ⟨g, o, none⟩) P.length c ∧ CRt w x P[k] ∧ w.cell? ⟨g, o + k * 5, none⟩ = some (.int .i64 x.m) ∧ w.cell? ⟨g, o + k * 5 + 1, none⟩ = some (.int .i64 x.ep) ∧
    w.cell? ⟨g, o + k * 5 + 2, none⟩ = some (slv x.v1) ∧ w.cell? ⟨g, o + k * 5 + 3, none⟩ = some (slv x.v2) ∧ w.cell? ⟨g, o + k * 5 + 4, none⟩ = some (slv x.v3) := by
  obtain ⟨C, h1, _, h2⟩ := h
  have hkC : k < C.length := by rw [h2.1]; exact hk
  obtain ⟨g, o, c, e, he⟩ := h1.elem hkC
  rw [h2.1] at e
  refine ⟨g, o, c, C[k], e, h2.2 k _ _ (List.getElem?_eq_getElem hkC) (List.getElem?_eq_getElem hk), ?_, ?_, ?_, ?_, ?_⟩
  · simpa [shC] using he 0 _ rfl
  · simpa [shC] using he 1 _ rfl
  · simpa [shC] using he 2 _ rfl
  · simpa [shC] using he 3 _ rfl
  · simpa [shC] using he 4 _ rfl
def ClmsR (w : World) (t : Tr) (Y : List Ans) (e : Ending) (w' : World) : Prop := ∃ v, e = .returned v ∧ LCt w' v (refOf t (outsOf Y) Y) ∧ Keeps [] w w'
theorem tag_C {w : World} {b : Nat} {cs : Array Value} {f : Nat × Nat} (h : w.heap[b]? = some (Obj.cells cs tC f)) : ∀ (cs' : Array Value) (f' : Nat × Nat), w.heap[b]? ≠ some (Obj.cells cs' tN f') := fun cs' f' e => by rw [h] at e; cases e
theorem crow5 {w : World} {gc n : Nat} {C1 : List ClV} {cc : Nat} (h : shC.R w (.slice (some ⟨gc, 0, none⟩) (n + 1) cc) C1) (hn : n < C1.length) :
    w.cell? ⟨gc, n * 5, none⟩ = some (.int .i64 C1[n].m) ∧ w.cell? ⟨gc, n * 5 + 1, none⟩ = some (.int .i64 C1[n].ep) ∧ w.cell? ⟨gc, n * 5 + 2, none⟩ = some (slv C1[n].v1) ∧ w.cell? ⟨gc, n * 5 + 3, none⟩ = some (slv C1[n].v2) ∧ w.cell? ⟨gc, n * 5 + 4, none⟩ = some (slv C1[n].v3) := by
  obtain ⟨g', o', c', e, he⟩ := h.elem hn
  simp only [Value.slice.injEq, Option.some.injEq, Addr.mk.injEq] at e
  obtain ⟨⟨rfl, rfl, _⟩, _, _⟩ := e
  refine ⟨?_, ?_, ?_, ?_, ?_⟩
  · simpa [shC] using he 0 _ rfl
  · simpa [shC] using he 1 _ rfl
  · simpa [shC] using he 2 _ rfl
  · simpa [shC] using he 3 _ rfl
  · simpa [shC] using he 4 _ rfl
theorem st5k {w : World} {g k : Nat} {t : TypeId} {cs : Array Value} {f : Nat × Nat} (x0 x1 x2 x3 x4 : Value) (h : w.heap[g]? = some (.cells cs t f)) :
    Keeps [g] w (((((w.setCell ⟨g, k * 5, none⟩ x0).setCell ⟨g, k * 5 + 1, none⟩ x1).setCell ⟨g, k * 5 + 2, none⟩ x2).setCell ⟨g, k * 5 + 3, none⟩ x3).setCell ⟨g, k * 5 + 4, none⟩ x4) := by
  refine (((((Keeps.refl _ w).setCell ?_ _).setCell ?_ _).setCell ?_ _).setCell ?_ _).setCell ?_ _ <;> exact .inr (by simp)
set_option maxRecDepth 100000 in
set_option maxHeartbeats 20000000 in
theorem claimsOfR_c (w : World) (v : Value) (Y : List Ans) (t : Tr) (h : RdA w v Y) (hlu : ∀ q, luL Y q = luOf t q) (hlen : Y.length ≤ 1000) (hins : ∀ a ∈ Y, a.ins.length ≤ 100000) :
    Calls Tryz.prog 72 #[v] w (ClmsR w t Y) := by
  obtain ⟨a0, c0, rfl, hlc, hcm⟩ := h.form
  have hel := fun k hk => h.elem (k := k) hk
  have hluc := fun (W : World) (hk : Keeps [] w W) (m o : Int) (n : Nat) => lastUseR_c W _ Y m o n (h.keeps hk)
  have houtc := fun (W : World) (hk : Keeps [] w W) (m cl : Int) (n : Nat) => outR_c W _ Y m cl n (h.keeps hk)
  obtain ⟨M, hM⟩ : ∃ N, Y.length = N := ⟨_, rfl⟩
  rw [hM] at hlc hlen hluc houtc ⊢
  obtain ⟨O, hO⟩ : ∃ O, outsOf Y = O := ⟨_, rfl⟩
  unfold ClmsR
  rw [hO]
  have hOg : ∀ q, outL Y q = MapS.get q O := fun q => by rw [← hO]; exact (outsOf_get Y q).symm
  have hfr := Sh.O.fresh shC w w.heap.size tC (Nat.le_refl _)
  have hkA := (Keeps.refl [] w).alloc (.cells #[] tC)
  replace h := Lib.hid h
  replace hel := Lib.hid hel
  replace hluc := Lib.hid hluc
  replace houtc := Lib.hid houtc
  replace hM := Lib.hid hM
  replace hO := Lib.hid hO
  replace hOg := Lib.hid hOg
  replace hfr := Lib.hid hfr
  replace hkA := Lib.hid hkA
  replace hlu := Lib.hid hlu
  replace hins := Lib.hid hins
  go_enter Tryz.func72, Tryz.ntmps72
  go_wp2
  generalize w.alloc (.cells #[] tC) = W at *
  go_loopw [3, 4] (fun rv i wr => ∃ (k : Nat) (C : List ClV), i = .int .i64 k ∧ k ≤ M ∧ Hid (shC.O wr w.heap.size tC rv C) ∧ Hid (Rows' wr C (refOf t O (Y.take k))) ∧ Hid (Keeps [] w wr)) (fun _ i _ => M - (intOf i).toNat)
  case atStart => exact ⟨0, [], rfl, by omega, hfr, Lib.hid ⟨rfl, fun j x p h => by simp at h⟩, hkA⟩
  case round =>
    obtain ⟨k, C, rfl, hk, hC, hRw, hkr⟩ := hrel
    by_cases hlt : k < M
    · have hkY : k < Y.length := by rw [hM.out]; exact hlt
      have hstep : refOf t O (Y.take (k + 1)) = refC t O (refOf t O (Y.take k)) Y[k] := by unfold refOf; rw [List.take_succ_eq_append_getElem hkY, List.foldl_append]; rfl
      have hbd : LenLe (refOf t O (Y.take k)) (k * 100001) := by
        have := refOf_len t O (Y.take k) (fun a ha => hins.out a (List.mem_of_mem_take ha))
        rwa [List.length_take, Nat.min_eq_left (by omega)] at this
      obtain ⟨g, o, c', x, hv, hx, he⟩ := hel.out k hkY
      rw [hM.out] at hv
      cases hv
      have hai := hins.out Y[k] (List.getElem_mem _)
      obtain ⟨P, hP⟩ : ∃ P, refOf t O (Y.take k) = P := ⟨_, rfl⟩
      obtain ⟨a, ha⟩ : ∃ a, Y[k] = a := ⟨_, rfl⟩
      rw [hP, ha] at hstep
      rw [hP] at hbd hRw
      rw [ha] at hx hai
      have m0 := hx.m
      have m1 := hx.ow
      have m2 := hx.n
      have m3 := hx.ep
      have m7 := hx.ins
      have m7f := hx.ins.form
      obtain ⟨x0, x1, x2, x3, x4, x5, x6, x7, x8, x9⟩ := x
      simp only [AnV.v] at m0 m1 m2 m3 m7 m7f
      have hx8 : a.ins.length = x8 := by obtain ⟨_, _, e, _⟩ := m7f; simp only [Value.slice.injEq] at e; exact e.2.1.symm
      have e0 := hkr.out.val (he 0 _ rfl)
      have e1 := hkr.out.val (he 1 _ rfl)
      have e2 := hkr.out.val (he 2 _ rfl)
      have e3 := hkr.out.val (he 3 _ rfl)
      have e4 := hkr.out.val (he 4 _ rfl)
      have e5 := hkr.out.val (he 5 _ rfl)
      have e6 := hkr.out.val (he 6 _ rfl)
      have e7 := hkr.out.val (he 7 _ rfl)
      simp only [AnV.v, Nat.add_zero] at e0 e1 e2 e3 e4 e5 e6 e7
      have hbA := heap_alloc_new wr (.cells #[.int .i64 x0, .int .i64 x1, .int .u64 x2, .int .i64 x3, .bool x4, .bool x5, .int .i64 x6, .slice x7 x8 x9] tA)
      have hkA0 := (Keeps.refl [] wr).alloc (.cells #[.int .i64 x0, .int .i64 x1, .int .u64 x2, .int .i64 x3, .bool x4, .bool x5, .int .i64 x6, .slice x7 x8 x9] tA)
      have hkwA := hkr.out.trans hkA0
      have hCA := hC.out.keeps hkA0
      have hRA := hRw.out.keeps hkA0
      obtain ⟨ra, rc, rfl⟩ := hC.out.form
      obtain ⟨NP, hNP⟩ : ∃ n, C.length = n := ⟨_, rfl⟩
      rw [hNP] at hCA ⊢
      have hPl : P.length = NP := by rw [← hRw.out.1]; exact hNP
      have hPk : NP ≤ M := by
        have : ∀ (l : List Ans) (Q : List PCl), (l.foldl (refC t O) Q).length ≤ Q.length + l.length := by
          intro l
          induction l with
          | nil => intro Q; simp
          | cons b l ih =>
            intro Q
            rw [List.foldl_cons]
            have h1 := ih (refC t O Q b)
            have h2 : (refC t O Q b).length ≤ Q.length + 1 := by
              obtain ⟨n, h3, h4⟩ := openC_pos Q b
              rcases nil_or_snoc (openC Q b) with h | ⟨R, c, h⟩
              · rw [h] at h3; simp at h3
              · rw [refC_at h]; rw [h] at h3; simp at h3 ⊢; omega
            simp; omega
        have := this (Y.take k) []
        rw [← hPl, ← hP]
        unfold refOf
        simp at this
        omega
      replace hkA0 := Lib.hid hkA0
      replace hkwA := Lib.hid hkwA
      replace hbA := Lib.hid hbA
      replace hCA := Lib.hid hCA
      replace hRA := Lib.hid hRA
      replace m0 := Lib.hid m0
      replace m1 := Lib.hid m1
      replace m2 := Lib.hid m2
      replace m3 := Lib.hid m3
      replace m7 := Lib.hid m7
      replace hx8 := Lib.hid hx8
      replace hP := Lib.hid hP
      replace ha := Lib.hid ha
      replace hstep := Lib.hid hstep
      replace hbd := Lib.hid hbd
      replace hNP := Lib.hid hNP
      replace hPl := Lib.hid hPl
      clear he hx m7f hC hRw
      go_upto_region 6 with fail
      generalize (wr.alloc (.cells #[.int .i64 x0, .int .i64 x1, .int .u64 x2, .int .i64 x3, .bool x4, .bool x5, .int .i64 x6, .slice x7 x8 x9] tA)) = WA at *
      obtain ⟨XA, hXA⟩ : ∃ X, wr.heap.size = X := ⟨_, rfl⟩
      rw [hXA] at hbA ⊢
      replace hXA := Lib.hid hXA
      clear e0 e1 e2 e3 e4 e5 e6 e7
      go_cut [35] from 11 to 126 (fun b wx => b = .bool (newC P a) ∧ wx = WA.drew)
      case first =>
        obtain ⟨y0, y1, y2, y3, y4, y5, y6, y7, yf, ylt⟩ := cells8 hbA.out
        cases NP with
        | zero =>
          have hnb := newC_nil hPl.out a
          replace hnb := Lib.hid hnb
          refine Free.wp_region_chain (fun i => false) (fun i => true) (fun _ _ => False) (by kernel_rfl) (by kernel_rfl) (by kernel_rfl) ?_
          (repeat (first | (apply Free.cw_pureW rfl rfl; (intro w'; go_simp <;> exact rfl); go_frame) | (apply Free.cw_steadyW rfl rfl rfl; (intro w' hS; have q0 := Free.sx_cell hS y0 (fun _ _ hT => hT); go_simp <;> exact rfl); go_frame) | (refine Free.cw_skip rfl ?_; go_frame)))
          refine Free.cw_nil ?_
          go_wp2
          go_meet
          case rel => exact ⟨by rw [hnb.out], rfl⟩
        | succ n =>
          have hnb := newC_at hPl.out a
          have hwn : IntKind.i64.wrap (n : Int) = (n : Int) := IntWalk.i64_in _ (by omega)
          have hnn : (n : Int) < (n : Int) + 1 := by omega
          have hnC : n < C.length := by rw [hNP.out]; omega
          obtain ⟨gc, cc, ev, _, _, _⟩ := hCA.out.form1 (by omega)
          rw [hNP.out] at ev
          cases ev
          obtain ⟨m0c, _⟩ := crow5 hCA.out.r hnC
          have hrm := (hRA.out.2 n _ _ (List.getElem?_eq_getElem hnC) (List.getElem?_eq_getElem (by rw [hPl.out]; omega))).m
          rw [hrm] at m0c
          rw [← m0.out] at hnb
          replace hnb := Lib.hid hnb
          clear hrm
          refine Free.wp_region_chain (fun i => false) (fun i => true) (fun _ _ => False) (by kernel_rfl) (by kernel_rfl) (by kernel_rfl) ?_
          (repeat (first | (apply Free.cw_pureW rfl rfl; (intro w'; go_simp <;> exact rfl); go_frame) | (apply Free.cw_steadyW rfl rfl rfl; (intro w' hS; have q0 := Free.sx_cell hS y0 (fun _ _ hT => hT); have q1 := Free.sx_cell hS m0c (fun _ _ hT => hT); go_simp <;> exact rfl); go_frame) | (refine Free.cw_skip rfl ?_; go_frame)))
          refine Free.cw_nil ?_
          go_wp2
          go_meet
          case rel =>
            have hz : ((n : Int) + 1 == 0) = false := by simp; omega
            exact ⟨by rw [hnb.out, hz, Bool.false_or], rfl⟩
      case rest =>
        obtain ⟨rfl, rfl⟩ := hcut
        have hCD := hCA.out.keeps ((Keeps.refl [] WA).drew)
        have hRD := hRA.out.keeps ((Keeps.refl [] WA).drew)
        have hkD : Keeps [] w WA.drew := hkwA.out.drew
        have hbD := (((Keeps.refl [] WA).drew).block XA (lt_of_blk hbA.out) (by simp)).trans hbA.out
        generalize WA.drew = WD at *
        replace hCD := Lib.hid hCD
        replace hRD := Lib.hid hRD
        replace hkD := Lib.hid hkD
        replace hbD := Lib.hid hbD
        clear hCA hRA hkwA hbA
        go_upto_if 35 with fail
        go_cut [3] from 11 to 126 (fun cv wx => ∃ C1, Hid (shC.O wx w.heap.size tC cv C1) ∧ Hid (Rows' wx C1 (openC P a)) ∧ Hid (Keeps [] w wx) ∧ Hid (wx.heap[XA]? = some (.cells #[.int .i64 x0, .int .i64 x1, .int .u64 x2, .int .i64 x3, .bool x4, .bool x5, .int .i64 x6, .slice x7 x8 x9] tA)))
        case first =>
          obtain ⟨nb, hnb⟩ : ∃ b, newC P a = b := ⟨_, rfl⟩
          rw [hnb]
          cases nb with
          | false =>
            have hoc := openC_old hnb
            replace hnb := Lib.hid hnb
            go_wp2
            go_meet
            case rel => exact ⟨C, hCD, by rw [hoc]; exact hRD, hkD, hbD⟩
          | true =>
            have hoc := openC_new hnb
            replace hnb := Lib.hid hnb
            replace hoc := Lib.hid hoc
            obtain ⟨y0, y1, y2, y3, y4, y5, y6, y7, yf, ylt⟩ := cells8 hbD.out
            have hmade := Sh.R.made shC WD [(⟨x0, x3, nilT, nilT, nilT⟩ : ClV)] #[.int .i64 x0, .int .i64 x3, .slice none 0 0, .slice none 0 0, .slice none 0 0] tC rfl (by simp [maxLen]) 1 rfl
            have hkM := (Keeps.refl [] WD).alloc (.cells #[.int .i64 x0, .int .i64 x3, .slice none 0 0, .slice none 0 0, .slice none 0 0] tC)
            have hCM := hCD.out.keeps hkM
            have hkwM := hkD.out.trans hkM
            have hRM := hRD.out.keeps hkM
            have hbM := (hkM.block _ (lt_of_blk hbD.out) (by simp)).trans hbD.out
            have hsz := hkwM.size
            replace hmade := Lib.hid hmade
            replace hCM := Lib.hid hCM
            replace hkwM := Lib.hid hkwM
            replace hRM := Lib.hid hRM
            replace hbM := Lib.hid hbM
            clear hkM
            go_wp2_with (at_builtin; (refine Sh.wpl_app shC w.heap.size infoC rfl Tryz.underlying68 (.slice ra NP rc) (.slice (some ⟨WD.heap.size, 0, none⟩) 1 1) C [(⟨x0, x3, nilT, nilT, nilT⟩ : ClV)] rfl _ _ rfl rfl rfl hCM.out hmade.out (by rw [hNP.out]; simp only [List.length_singleton]; omega) hsz ?_; intro v5 w5 hO5 hG5; have hk5 := Sh.O.grew hkwM.out hCM.out hG5 (Nat.le_refl _); have htg := fun b (hb : b ∈ (Value.slice ra NP rc).ownBlock.toList) => hCM.out.tag b (by simpa using hb); have hR5 := (hRM.out.keepS hG5.keepsO (fun b hb cs f e => by obtain ⟨cs', hc⟩ := htg b hb; exact tag_C hc cs f e)).snoc (x := ⟨x0, x3, nilT, nilT, nilT⟩) (p := ⟨a.m, a.ep, [], [], []⟩) ⟨m0.out, m3.out, Nd.nil _, Nd.nil _, Nd.nil _⟩; have hb5 := (hG5.keepsO.block _ (lt_of_blk hbM.out) (fun hm => by obtain ⟨cs', hc⟩ := htg _ hm; exact tag_ne hbM.out hc (by decide) rfl)).trans hbM.out; rw [← hoc.out] at hR5; replace hO5 := Lib.hid hO5; replace hk5 := Lib.hid hk5; replace hR5 := Lib.hid hR5; replace hb5 := Lib.hid hb5; clear hG5 htg))
            go_meet
            case rel => exact ⟨_, hO5, hR5, hk5, hb5⟩
        case rest =>
          obtain ⟨C1, hC1, hR1, hk1, hb1⟩ := hcut
          obtain ⟨n, hn1, hnP⟩ := openC_pos P a
          obtain ⟨R, c, hRc⟩ : ∃ R c, openC P a = R ++ [c] := by
            rcases nil_or_snoc (openC P a) with h | ⟨R, c, h⟩
            · rw [h] at hn1; simp at hn1
            · exact ⟨R, c, h⟩
          have hRn : R.length = n := by rw [hRc] at hn1; simpa using hn1
          have hn1000 : n ≤ 1000 := by rw [hPl.out] at hnP; omega
          have hres : refOf t O (Y.take (k + 1)) = R ++ [refA t O c a] := by rw [hstep.out]; exact refC_at hRc
          have hbc : ∀ j, j < 3 → (c.at j).length ≤ k * 100001 := fun j hj => by
            have h1 := hbd.out.openC a
            rw [hRc] at h1
            have := h1 R.length (by simp) j hj
            rw [List.getElem_append_right (Nat.le_refl _)] at this
            simpa using this
          rw [hRc] at hR1
          have hC1l : C1.length = n + 1 := by rw [hR1.out.1]; simp [hRn]
          have hnC : n < C1.length := by omega
          obtain ⟨gc, cc1, ev, hgB, cs9, hg9⟩ := hC1.out.form1 (by omega)
          rw [hC1l] at ev
          subst ev
          have hcr : CRt wc C1[n] c := hR1.out.2 n _ _ (List.getElem?_eq_getElem hnC) (by rw [← hRn, List.getElem?_append_right (Nat.le_refl _)]; simp)
          obtain ⟨r0, r1, r2, r3, r4⟩ := crow5 hC1.out.r hnC
          obtain ⟨cx, hcx⟩ : ∃ cx, C1[n] = cx := ⟨_, rfl⟩
          rw [hcx] at hcr r0 r1 r2 r3 r4
          have hcm := hcr.m
          have hcep := hcr.ep
          have hcst := hcr.st
          have hcsc := hcr.sc
          have hcch := hcr.ch
          obtain ⟨d0, d1, ⟨d2, d3, d4⟩, ⟨d5, d6, d7⟩, ⟨d8, d9, d10⟩⟩ := cx
          simp only [slv] at r0 r1 r2 r3 r4 hcst hcsc hcch hcm hcep
          have hwn : IntKind.i64.wrap (n : Int) = (n : Int) := IntWalk.i64_in _ (by omega)
          have hnn : (n : Int) < (n : Int) + 1 := by omega
          have hkB := (Keeps.refl [] wc).alloc (.cells #[.int .i64 d0, .int .i64 d1, .slice d2 d3 d4, .slice d5 d6 d7, .slice d8 d9 d10] tC)
          have hbB := heap_alloc_new wc (.cells #[.int .i64 d0, .int .i64 d1, .slice d2 d3 d4, .slice d5 d6 d7, .slice d8 d9 d10] tC)
          have hkwB := hk1.out.trans hkB
          have hb1B := (hkB.block XA (lt_of_blk hb1.out) (by simp)).trans hb1.out
          have hC1B := hC1.out.keeps hkB
          have hR1B := hR1.out.keeps hkB
          have hstB := hcst.keeps hkB
          have hscB := hcsc.keeps hkB
          have hchB := hcch.keeps hkB
          have hXAl := lt_of_blk hb1.out
          have hgcl := lt_of_blk hg9
          have hwXB : w.heap.size ≤ wc.heap.size := hk1.out.size
          obtain ⟨y0, y1, y2, y3, y4, y5, y6, y7, yf, ylt⟩ := cells8 hb1.out
          replace hres := Lib.hid hres
          replace hbc := Lib.hid hbc
          replace hRn := Lib.hid hRn
          replace hkB := Lib.hid hkB
          replace hbB := Lib.hid hbB
          replace hkwB := Lib.hid hkwB
          replace hb1B := Lib.hid hb1B
          replace hC1B := Lib.hid hC1B
          replace hR1B := Lib.hid hR1B
          replace hstB := Lib.hid hstB
          replace hscB := Lib.hid hscB
          replace hchB := Lib.hid hchB
          replace hcm := Lib.hid hcm
          replace hcep := Lib.hid hcep
          replace hC1l := Lib.hid hC1l
          replace hcx := Lib.hid hcx
          clear hcr hcst hcsc hcch hC1 hR1 hk1 hRc hn1 hnP hg9 hgB
          go_wp2
          generalize (wc.alloc (.cells #[.int .i64 d0, .int .i64 d1, .slice d2 d3 d4, .slice d5 d6 d7, .slice d8 d9 d10] tC)) = WB at *
          obtain ⟨XB, hXB⟩ : ∃ X, wc.heap.size = X := ⟨_, rfl⟩
          rw [hXB] at hbB hXAl hgcl hwXB ⊢
          replace hXB := Lib.hid hXB
          clear y0 y1 y2 y3 y4 y5 y6 y7 yf ylt r0 r1 r2 r3 r4
          have hXAB : XA ≠ XB := by omega
          have hgcB : gc ≠ XB := by omega
          go_loopw [7] (fun i wl => ∃ (j : Nat) (sa : Option Addr) (sn sc : Nat), i = .int .i64 j ∧ j ≤ x8 ∧ Hid (wl.heap[XB]? = some (.cells #[.int .i64 d0, .int .i64 d1, .slice d2 d3 d4, .slice sa sn sc, .slice d8 d9 d10] tC)) ∧ Hid (Nd wl (.slice sa sn sc) ((a.ins.take j).foldl (scR t a.m) c.sc)) ∧ Hid (Keeps [XB] WB wl)) (fun i _ => x8 - (intOf i).toNat)
          case atStart => exact ⟨0, d5, d6, d7, rfl, by omega, hbB, hscB, Lib.hid (Keeps.refl _ _)⟩
          case round =>
            obtain ⟨j, sa, sn, sc, rfl, hj, hbx, hNd, hkl⟩ := hrel
            have hkw := hkwB.out.fresh hkl.out (fun b hb => by simp at hb; subst hb; exact .inr hwXB)
            have hb1r := (hkl.out.block XA (lt_of_blk hb1B.out) (by simp [hXAB])).trans hb1B.out
            obtain ⟨y0, y1, y2, y3, y4, y5, y6, y7, yf, ylt⟩ := cells8 hb1r
            obtain ⟨z0, z1, z2, z3, z4, zl⟩ := cells5 hbx.out
            replace hkw := Lib.hid hkw
            replace hb1r := Lib.hid hb1r
            by_cases hltj : j < x8
            · have hjl : j < a.ins.length := by rw [hx8.out]; exact hltj
              obtain ⟨gs, os, cs', hvs, hes⟩ := m7.out.elem hjl
              rw [hx8.out] at hvs
              cases hvs
              obtain ⟨⟨p0, p1, p2⟩, hp⟩ : ∃ x, a.ins[j] = x := ⟨_, rfl⟩
              have hfo : (a.ins.take (j + 1)).foldl (scR t a.m) c.sc = putN (p0, p1, luL Y (p0, x0, p1)) ((a.ins.take j).foldl (scR t a.m) c.sc) := by
                rw [List.take_succ_eq_append_getElem hjl, List.foldl_append, hp, hlu.out, m0.out]; rfl
              have hfl : ((a.ins.take j).foldl (scR t a.m) c.sc).length ≤ 1000000000 := by
                have h1 := scR_fold_len t a.m (a.ins.take j) c.sc
                have h2 := hbc.out 1 (by omega)
                simp only [PCl.at] at h2
                rw [List.length_take] at h1
                omega
              rw [hp] at hes
              have f0 := hkw.out.val (hes 0 _ rfl)
              have f1 := hkw.out.val (hes 1 _ rfl)
              simp only [shT, Nat.add_zero] at f0 f1
              have hgs : gs ≠ XB := by
                have := lt_of_cell (hes 0 _ rfl)
                omega
              have hlc := hluc.out _ (hkw.out.drew) p0 x0 p1
              obtain ⟨lu, hlu2⟩ : ∃ l, luL Y (p0, x0, p1) = l := ⟨_, rfl⟩
              rw [hlu2] at hfo hlc
              obtain ⟨SL, hSL⟩ : ∃ l, (a.ins.take j).foldl (scR t a.m) c.sc = l := ⟨_, rfl⟩
              rw [hSL] at hfo hfl hNd
              replace hfo := Lib.hid hfo
              replace hfl := Lib.hid hfl
              replace hlc := Lib.hid hlc
              replace hp := Lib.hid hp
              replace hlu2 := Lib.hid hlu2
              replace hSL := Lib.hid hSL
              clear hes
              go_wp2
              refine Free.wp_region_chain (fun i => i == 29 || i == 31 || i == 33) (fun i => true) (fun j b => j = 33 ∧ b = XB) (by kernel_rfl) (by kernel_rfl) (by kernel_rfl) ?_
              (repeat (first | (apply Free.cw_pure rfl rfl; (intro w'; go_simp <;> exact rfl); go_frame) | (apply Free.cw_steady rfl rfl rfl; (intro w' hS; have q0 := Free.sx_cell hS z3 (fun j hp hT => by obtain ⟨rfl, _⟩ := hT; exact absurd hp (by decide +kernel)); have q1 := Free.sx_cell hS y7 (fun _ _ hT => hXAB hT.2); have q2 := Free.sx_cell hS y0 (fun _ _ hT => hXAB hT.2); have q3 := Free.sx_cell hS f0 (fun _ _ hT => hgs hT.2); have q4 := Free.sx_cell hS f1 (fun _ _ hT => hgs hT.2); go_simp <;> exact rfl); go_frame) | (refine Free.cw_skip rfl ?_; go_frame)))
              refine Free.cw_loud rfl rfl (fun K hK => ?_)
              go_wp2_with fail
              refine hlc.out.mono ?_
              rintro e w2 ⟨rfl, hk2⟩
              refine hK _ _ rfl (Free.KeepsP.of hk2 (by simp)) ?_
              clear hK K hlc
              have hk2d := ((Keeps.refl [] wr).drew).trans hk2
              have hNd2 := hNd.out.keeps hk2d
              replace hk2d := Lib.hid hk2d
              replace hNd2 := Lib.hid hNd2
              clear hk2
              (repeat (apply Free.cw_pure rfl rfl; (intro w'; go_simp <;> exact rfl); go_frame))
              refine Free.cw_loud rfl rfl (fun K hK => ?_)
              go_wp2_with fail
              have hpc := putR_c w2 (.slice sa sn sc) SL (p0, p1, lu) hNd2.out.1 (by have := hfl.out; omega)
              simp only [tV] at hpc
              refine hpc.mono ?_
              rintro e w3 ⟨v', rfl, hpp, hk3⟩
              refine hK _ _ rfl (Free.KeepsP.of hk3 (by simp)) ?_
              clear hK K hpc
              have hNd3 := hNd2.out.put hk3 hpp
              rw [← hfo.out] at hNd3
              have hk3w := hk2d.out.trans hk3
              have hbx3 := (hk3w.block XB zl (by simp)).trans hbx.out
              obtain ⟨pa, pc, rfl, _⟩ := hNd3.1.form
              obtain ⟨pn, hpn⟩ : ∃ n, ((a.ins.take (j + 1)).foldl (scR t a.m) c.sc).length = n := ⟨_, rfl⟩
              rw [hpn] at hNd3 ⊢
              obtain ⟨q0, q1, q2, q3, q4, ql⟩ := cells5 hbx3
              have qf : ∀ o, w3.frozen? ⟨XB, o, none⟩ = false := fun o => by simp [World.frozen?, hbx3]
              have hkS : Keeps [XB] w3 (w3.setCell ⟨XB, 3, none⟩ (.slice pa pn pc)) := (Keeps.refl _ _).setCell (.inr (by simp)) _
              have hbS := setCs hbx3 3 (.slice pa pn pc)
              have hNdS := hNd3.keepS hkS (fun b hb => by simp at hb; subst hb; exact tag_C hbx3)
              have hklS := (hkl.out.trans hk3w.of_nil).trans hkS
              replace hpn := Lib.hid hpn
              replace hbS := Lib.hid hbS
              replace hNdS := Lib.hid hNdS
              replace hklS := Lib.hid hklS
              clear hNd3 hk3 hpp hk3w hbx3
              (repeat (apply Free.cw_pure rfl rfl; (intro w'; go_simp <;> exact rfl); go_frame))
              refine Free.cw_loud rfl rfl (fun K hK => ?_)
              go_wp2
              refine hK _ _ rfl (Free.KeepsP.of hkS (fun b hb => ⟨trivial, by simpa using hb⟩)) ?_
              clear hK K
              generalize (w3.setCell ⟨XB, 3, none⟩ (.slice pa pn pc)) = w4 at *
              clear hkS q0 q1 q2 q3 q4 ql qf
              (repeat (apply Free.cw_pure rfl rfl; (intro w'; go_simp <;> exact rfl); go_frame))
              refine Free.cw_nil ?_
              go_wp2
              go_roundw
              case rel => exact ⟨j + 1, pa, pn, pc, rfl, by omega, hbS, hNdS, hklS⟩
              case measure => simp [intOf]; omega
            · have hjx : j = x8 := by omega
              subst hjx
              rw [show a.ins.take j = a.ins from List.take_of_length_le (by rw [hx8.out]; exact Nat.le_refl _)] at hNd
              have hoc := houtc.out wr hkw.out x1 x0 x2
              rw [hOg.out] at hoc
              have hkl0 : WB.heap.size ≤ wr.heap.size := hkl.out.size
              have hst3 := hstB.out.keepS hkl.out (fun b hb => by simp at hb; subst hb; exact tag_C hbB.out)
              have hch3 := hchB.out.keepS hkl.out (fun b hb => by simp at hb; subst hb; exact tag_C hbB.out)
              have hgcw : gc < WB.heap.size := Nat.lt_of_lt_of_le hgcl (Nat.le_of_lt (lt_of_blk hbB.out))
              have hgBw : w.heap.size ≤ gc := hC1B.out.ge gc (by simp [Value.ownBlock])
              have fin : ∀ (W : World) (y : ClV), Keeps [XB] WB W → CRt W y (refA t O c a) →
                  Hid (shC.O (((((W.setCell ⟨gc, n * 5, none⟩ (.int .i64 y.m)).setCell ⟨gc, n * 5 + 1, none⟩ (.int .i64 y.ep)).setCell ⟨gc, n * 5 + 2, none⟩ (slv y.v1)).setCell ⟨gc, n * 5 + 3, none⟩ (slv y.v2)).setCell ⟨gc, n * 5 + 4, none⟩ (slv y.v3)) w.heap.size tC (.slice (some ⟨gc, 0, none⟩) (n + 1) cc1) (C1.set n y)) ∧
                  Hid (Rows' (((((W.setCell ⟨gc, n * 5, none⟩ (.int .i64 y.m)).setCell ⟨gc, n * 5 + 1, none⟩ (.int .i64 y.ep)).setCell ⟨gc, n * 5 + 2, none⟩ (slv y.v1)).setCell ⟨gc, n * 5 + 3, none⟩ (slv y.v2)).setCell ⟨gc, n * 5 + 4, none⟩ (slv y.v3)) (C1.set n y) (refOf t O (Y.take (k + 1)))) ∧
                  Hid (Keeps [] w (((((W.setCell ⟨gc, n * 5, none⟩ (.int .i64 y.m)).setCell ⟨gc, n * 5 + 1, none⟩ (.int .i64 y.ep)).setCell ⟨gc, n * 5 + 2, none⟩ (slv y.v1)).setCell ⟨gc, n * 5 + 3, none⟩ (slv y.v2)).setCell ⟨gc, n * 5 + 4, none⟩ (slv y.v3))) := fun W y hkW hy => by
                have hOW := hC1B.out.keepS hkW (fun b hb e => by simp [Value.ownBlock] at e; simp at hb; omega)
                obtain ⟨cs, hcs⟩ := hOW.tag gc (by simp [Value.ownBlock])
                have hRW := (hR1B.out.keepS hkW (fun b hb => by simp at hb; subst hb; exact tag_C hbB.out)).setL hRn.out hy
                rw [← hres.out] at hRW
                have hk5 := st5k (k := n) (.int .i64 y.m) (.int .i64 y.ep) (slv y.v1) (slv y.v2) (slv y.v3) hcs
                exact ⟨Lib.hid (setRow5 hOW (by rw [hC1l.out]; omega) y), Lib.hid (hRW.keepS hk5 (fun b hb => by simp at hb; subst hb; exact tag_C hcs)), Lib.hid ((hkwB.out.fresh hkW (fun b hb => by simp at hb; subst hb; exact .inr hwXB)).fresh hk5 (fun b hb => by simp at hb; subst hb; exact .inr hgBw))⟩
              have hgo : MapS.get (a.ow, a.m, a.n) O = MapS.get (x1, x0, x2) O := by rw [m0.out, m1.out, m2.out]
              obtain ⟨go, hgo2⟩ : ∃ g, MapS.get (x1, x0, x2) O = g := ⟨_, rfl⟩
              rw [hgo2] at hoc hgo
              replace fin := Lib.hid fin
              replace hst3 := Lib.hid hst3
              replace hch3 := Lib.hid hch3
              replace hoc := Lib.hid hoc
              replace hgo2 := Lib.hid hgo2
              replace hkl0 := Lib.hid hkl0
              cases go with
              | some o2 =>
                have hstR : stR O a c.st = putN (x1, x2, o2) c.st := by unfold stR; rw [hgo, m1.out, m2.out]
                have hchR : chR O a c.ch = c.ch := by unfold chR; rw [hgo]
                replace hstR := Lib.hid hstR
                replace hchR := Lib.hid hchR
                replace hgo := Lib.hid hgo
                go_wp2_with fail
                refine hoc.out.mono ?_
                rintro e w2 ⟨rfl, hk2⟩
                have hpc := fun (h : shT.R w2 (.slice d2 d3 d4) c.st) => putR_c w2 (.slice d2 d3 d4) c.st (x1, x2, o2) h (by have := hbc.out 0 (by omega); simp only [PCl.at] at this; omega)
                simp only [tV] at hpc
                replace hpc := Lib.hid (hpc (hst3.out.keeps hk2).1)
                have hbx2 := (hk2.block XB zl (by simp)).trans hbx.out
                obtain ⟨z0, z1, z2, z3, z4, zl2⟩ := cells5 hbx2
                have hb12 := (hk2.block XA ylt (by simp)).trans hb1r.out
                obtain ⟨y0, y1, y2, y3, y4, y5, y6, y7, yf, ylt2⟩ := cells8 hb12
                replace hbx2 := Lib.hid hbx2
                replace hb12 := Lib.hid hb12
                clear hoc
                go_wp2_with fail
                refine hpc.out.mono ?_
                rintro e w3 ⟨v', rfl, hpp, hk3⟩
                have hp3 := (hst3.out.keeps hk2).put hk3 hpp
                have hk3w := hk2.trans hk3
                have hbx3 := (hk3.block XB zl2 (by simp)).trans hbx2.out
                obtain ⟨pa, pc, rfl, _⟩ := hp3.1.form
                obtain ⟨pn, hpn⟩ : ∃ n, (putN (x1, x2, o2) c.st).length = n := ⟨_, rfl⟩
                rw [hpn] at hp3 ⊢
                obtain ⟨q0, q1, q2, q3, q4, ql⟩ := cells5 hbx3
                have qf : ∀ o, w3.frozen? ⟨XB, o, none⟩ = false := fun o => by simp [World.frozen?, hbx3]
                have hkS : Keeps [XB] w3 (w3.setCell ⟨XB, 2, none⟩ (.slice pa pn pc)) := (Keeps.refl _ _).setCell (.inr (by simp)) _
                have hp4 := hp3.keepS hkS (fun b hb => by simp at hb; subst hb; exact tag_C hbx3)
                have hsc4 := (hNd.out.keeps hk3w).keepS hkS (fun b hb => by simp at hb; subst hb; exact tag_C hbx3)
                have hch4 := (hch3.out.keeps hk3w).keepS hkS (fun b hb => by simp at hb; subst hb; exact tag_C hbx3)
                have hklS := (hkl.out.trans hk3w.of_nil).trans hkS
                replace hp4 := Lib.hid hp4
                obtain ⟨g1, g2, g3⟩ := fin.out _ ⟨d0, d1, (pa, pn, pc), (sa, sn, sc), (d8, d9, d10)⟩ hklS ⟨hcm.out, hcep.out, by show Nd _ _ (stR O a c.st); rw [hstR.out]; exact hp4.out, hsc4, by show Nd _ _ (chR O a c.ch); rw [hchR.out]; exact hch4⟩
                have hkg : gc < w3.heap.size := Nat.lt_of_lt_of_le (Nat.lt_of_lt_of_le hgcw (hkl0.out)) (hk3w.size)
                have hgc3 := (((hC1B.out.keepS hkl.out (fun b hb e => by simp [Value.ownBlock] at e; simp at hb; omega)).keeps hk3w).r)
                obtain ⟨r0, r1, r2, r3, r4⟩ := crow5 hgc3 (by rw [hC1l.out]; omega)
                have hgf : ∀ o, w3.frozen? ⟨gc, o, none⟩ = false := fun o => by
                  obtain ⟨cs, hc⟩ := ((hC1B.out.keepS hkl.out (fun b hb e => by simp [Value.ownBlock] at e; simp at hb; omega)).keeps hk3w).tag gc (by simp [Value.ownBlock])
                  simp [World.frozen?, hc]
                replace hpn := Lib.hid hpn
                clear hp3 hpp hk3 hk2 hk3w hkS hpc hklS hp4 hgc3 hsc4 fin hch4
                go_wp2
                go_roundw
                case rel => exact ⟨k + 1, _, rfl, by omega, g1, g2, g3⟩
                case measure => simp [intOf]; omega
              | none =>
                have hstR : stR O a c.st = c.st := by unfold stR; rw [hgo]
                have hchR : chR O a c.ch = putN (x1, x2, 0) c.ch := by unfold chR; rw [hgo, m1.out, m2.out]
                replace hstR := Lib.hid hstR
                replace hchR := Lib.hid hchR
                replace hgo := Lib.hid hgo
                go_wp2_with fail
                refine hoc.out.mono ?_
                rintro e w2 ⟨rfl, hk2⟩
                have hpc := fun (h : shT.R w2 (.slice d8 d9 d10) c.ch) => putR_c w2 (.slice d8 d9 d10) c.ch (x1, x2, 0) h (by have := hbc.out 2 (by omega); simp only [PCl.at] at this; omega)
                simp only [tV] at hpc
                replace hpc := Lib.hid (hpc (hch3.out.keeps hk2).1)
                have hbx2 := (hk2.block XB zl (by simp)).trans hbx.out
                obtain ⟨z0, z1, z2, z3, z4, zl2⟩ := cells5 hbx2
                have hb12 := (hk2.block XA ylt (by simp)).trans hb1r.out
                obtain ⟨y0, y1, y2, y3, y4, y5, y6, y7, yf, ylt2⟩ := cells8 hb12
                replace hbx2 := Lib.hid hbx2
                replace hb12 := Lib.hid hb12
                clear hoc
                go_wp2_with fail
                refine hpc.out.mono ?_
                rintro e w3 ⟨v', rfl, hpp, hk3⟩
                have hp3 := (hch3.out.keeps hk2).put hk3 hpp
                have hk3w := hk2.trans hk3
                have hbx3 := (hk3.block XB zl2 (by simp)).trans hbx2.out
                obtain ⟨pa, pc, rfl, _⟩ := hp3.1.form
                obtain ⟨pn, hpn⟩ : ∃ n, (putN (x1, x2, 0) c.ch).length = n := ⟨_, rfl⟩
                rw [hpn] at hp3 ⊢
                obtain ⟨q0, q1, q2, q3, q4, ql⟩ := cells5 hbx3
                have qf : ∀ o, w3.frozen? ⟨XB, o, none⟩ = false := fun o => by simp [World.frozen?, hbx3]
                have hkS : Keeps [XB] w3 (w3.setCell ⟨XB, 4, none⟩ (.slice pa pn pc)) := (Keeps.refl _ _).setCell (.inr (by simp)) _
                have hp4 := hp3.keepS hkS (fun b hb => by simp at hb; subst hb; exact tag_C hbx3)
                have hsc4 := (hNd.out.keeps hk3w).keepS hkS (fun b hb => by simp at hb; subst hb; exact tag_C hbx3)
                have hst4 := (hst3.out.keeps hk3w).keepS hkS (fun b hb => by simp at hb; subst hb; exact tag_C hbx3)
                have hklS := (hkl.out.trans hk3w.of_nil).trans hkS
                replace hp4 := Lib.hid hp4
                obtain ⟨g1, g2, g3⟩ := fin.out _ ⟨d0, d1, (d2, d3, d4), (sa, sn, sc), (pa, pn, pc)⟩ hklS ⟨hcm.out, hcep.out, by show Nd _ _ (stR O a c.st); rw [hstR.out]; exact hst4, hsc4, by show Nd _ _ (chR O a c.ch); rw [hchR.out]; exact hp4.out⟩
                have hkg : gc < w3.heap.size := Nat.lt_of_lt_of_le (Nat.lt_of_lt_of_le hgcw (hkl0.out)) (hk3w.size)
                have hgc3 := (((hC1B.out.keepS hkl.out (fun b hb e => by simp [Value.ownBlock] at e; simp at hb; omega)).keeps hk3w).r)
                obtain ⟨r0, r1, r2, r3, r4⟩ := crow5 hgc3 (by rw [hC1l.out]; omega)
                have hgf : ∀ o, w3.frozen? ⟨gc, o, none⟩ = false := fun o => by
                  obtain ⟨cs, hc⟩ := ((hC1B.out.keepS hkl.out (fun b hb e => by simp [Value.ownBlock] at e; simp at hb; omega)).keeps hk3w).tag gc (by simp [Value.ownBlock])
                  simp [World.frozen?, hc]
                replace hpn := Lib.hid hpn
                clear hp3 hpp hk3 hk2 hk3w hkS hpc hklS hp4 hgc3 hsc4 fin hst4
                go_wp2
                go_roundw
                case rel => exact ⟨k + 1, _, rfl, by omega, g1, g2, g3⟩
                case measure => simp [intOf]; omega
    · have hkx : k = M := by omega
      subst hkx
      have hall : refOf t O (Y.take k) = refOf t O Y := by rw [← hM.out, List.take_length]
      rw [hall] at hRw
      go_wp2
      go_ret
      exact ⟨_, rfl, ⟨C, hC.out.r, fun b hb => by obtain ⟨cs, g⟩ := hC.out.tag b hb; exact ⟨cs, _, g⟩, hRw.out⟩, hkr.out⟩
end Go.Proofs.YtpobepninifenaaGreat

namespace Go.Proofs.YtpobepninifenaaGreat
open Go.RowKit

def Tr.shown (t : Tr) : Bool := t.state == 1 || (t.state == 2 || t.rf)
/-- What a trace claims. -/
def ClaimsV (w : World) (t : Tr) (v : Value) : Prop :=
  (t.shown = false ∧ v = .slice none 0 0) ∨ (t.shown = true ∧ ∃ P Y, LC w v P ∧ SortedA t Y ∧ ClaimsP t Y P)
def ClaimsPost (w : World) (t : Tr) (e : Ending) (w' : World) : Prop := ∃ v, e = .returned v ∧ ClaimsV w' t v ∧ Keeps [] w w'
set_option maxRecDepth 100000 in
set_option maxHeartbeats 4000000 in
theorem claimsT_c (w : World) (B bt bm : Nat) (vo vh vg : Value) (t : Tr) (h : TrM w B bt bm vo vh vg t) (hl : t.qs.length ≤ 1000) :
    Calls Tryz.prog 44 #[.pointer (some ⟨bt, 0, none⟩)] w (ClaimsPost w t) := by
  have hcl := claims_c w B bt bm vo vh vg t h hl
  have c9 := h.cells.2.2.2.2.2.2.2.2.2.1
  have c11 := h.cells.2.2.2.2.2.2.2.2.2.2.2
  obtain ⟨rf, hrf⟩ : ∃ b, t.rf = b := ⟨_, rfl⟩
  rw [hrf] at c11
  obtain ⟨sh, hsh⟩ : ∃ b, t.shown = b := ⟨_, rfl⟩
  have hsd : sh = (t.state == 1 || (t.state == 2 || rf)) := by rw [← hsh, ← hrf]; rfl
  replace hcl := Lib.hid hcl
  replace hrf := Lib.hid hrf
  replace hsh := Lib.hid hsh
  replace hsd := Lib.hid hsd
  clear h
  have done : ∀ (e : Ending) (w' : World), sh = true → ClmPost w t e w' → ∃ v, e = .returned v ∧ Hid (ClaimsV w' t v) ∧ Hid (Keeps [] w w') := by
    rintro e w' h1 ⟨vc, P, V, Bc, Y, rfl, g1, g2, g3, g4, g5⟩
    exact ⟨vc, rfl, Lib.hid (.inr ⟨hsh.out.trans h1, P, Y, g2.lc, g3, g4⟩), Lib.hid g5⟩
  replace done := Lib.hid done
  by_cases s1 : t.state = 1
  · have hs : sh = true := by rw [hsd.out, s1]; rfl
    rw [s1] at c9
    replace hs := Lib.hid hs
    replace s1 := Lib.hid s1
    go_enter Tryz.func44, Tryz.ntmps44
    go_wp2_with fail
    refine hcl.out.mono ?_
    intro e w1 hp
    obtain ⟨v, rfl, h1, h2⟩ := done.out e w1 hs.out hp
    clear hp
    go_wp2
    go_ret
    exact ⟨v, rfl, h1.out, h2.out⟩
  · have b1 : (t.state != 1) = true := by simpa using s1
    by_cases s2 : t.state = 2
    · have hs : sh = true := by rw [hsd.out, s2]; rfl
      rw [s2] at c9
      replace hs := Lib.hid hs
      replace s2 := Lib.hid s2
      replace s1 := Lib.hid s1
      clear b1
      go_enter Tryz.func44, Tryz.ntmps44
      go_wp2_with fail
      refine hcl.out.mono ?_
      intro e w1 hp
      obtain ⟨v, rfl, h1, h2⟩ := done.out e w1 hs.out hp
      clear hp
      go_wp2
      go_ret
      exact ⟨v, rfl, h1.out, h2.out⟩
    · have b2 : (t.state != 2) = true := by simpa using s2
      cases rf with
      | true =>
        have hs : sh = true := by rw [hsd.out]; simp
        replace hs := Lib.hid hs
        replace s2 := Lib.hid s2
        replace s1 := Lib.hid s1
        go_enter Tryz.func44, Tryz.ntmps44
        go_wp2_with fail
        refine hcl.out.mono ?_
        intro e w1 hp
        obtain ⟨v, rfl, h1, h2⟩ := done.out e w1 hs.out hp
        clear hp
        go_wp2
        go_ret
        exact ⟨v, rfl, h1.out, h2.out⟩
      | false =>
        have hs : sh = false := by rw [hsd.out]; simp [s1, s2]
        replace hs := Lib.hid hs
        replace s2 := Lib.hid s2
        replace s1 := Lib.hid s1
        go_enter Tryz.func44, Tryz.ntmps44
        go_wp2
        go_ret
        exact ⟨_, rfl, .inl ⟨hsh.out.trans hs.out, rfl⟩, Keeps.refl _ _⟩
end Go.Proofs.YtpobepninifenaaGreat

namespace Go.Proofs.YtpobepninifenaaGreat
open Go.RowKit

theorem sizeC : (Tryz.prog.info? tC).map (·.size) = some 5 := by kernel_rfl
theorem load_clm (w : World) (g : Nat) (t : TypeId) (x0 x1 x2 x3 x4 : Value) (f : Nat × Nat) (hg : w.heap[g]? = some (.cells #[x0, x1, x2, x3, x4] t f)) : (loadVar tC ⟨g, 0, none⟩).run Tryz.prog w = .ok (.agg #[x0, x1, x2, x3, x4]) w :=
  run_loadVar_row w g t tC #[x0, x1, x2, x3, x4] f _ hg Tryz.underlying90 rfl sizeC
theorem results_clm {fn : Func} {p u : Tmp} (h : fn.results = #[.cell p tC, .tmp u]) (tmps : Array Value) (w : World) (g : Nat) (t : TypeId) (x0 x1 x2 x3 x4 : Value) (f : Nat × Nat) (hp : tmps.getD p undef = .pointer (some ⟨g, 0, none⟩))
    (hg : w.heap[g]? = some (.cells #[x0, x1, x2, x3, x4] t f)) : (results fn tmps).run Tryz.prog w = .ok (.tuple #[.agg #[x0, x1, x2, x3, x4], tmps.getD u undef]) w := by
  have hp' : tmps[p]?.getD undef = .pointer (some ⟨g, 0, none⟩) := by simpa using hp
  simp [results, h, hp', asAddr, load_clm w g t x0 x1 x2 x3 x4 f hg]
def ClV.zero : ClV := ⟨0, 0, nilT, nilT, nilT⟩
def PCl.zero : PCl := ⟨0, 0, [], [], []⟩
def ClaimPost (w : World) (t : Tr) (e : Ending) (w' : World) : Prop :=
  ∃ (x : ClV) (p : PCl), e = .returned (.tuple #[clV x, .bool (t.state == 1)]) ∧ CR w' x p ∧ Keeps [] w w' ∧
    ((t.state ≠ 1 ∧ p = PCl.zero) ∨ (t.state = 1 ∧ ∃ P Y, SortedA t Y ∧ ClaimsP t Y P ∧ P[t.ag.length]? = some p))
set_option maxRecDepth 100000 in
set_option maxHeartbeats 4000000 in
theorem claim_c (w : World) (B bt bm : Nat) (vo vh vg : Value) (t : Tr) (h : TrM w B bt bm vo vh vg t) (hl : t.qs.length ≤ 1000) (hag : t.state = 1 → ∀ P Y, SortedA t Y → ClaimsP t Y P → t.ag.length < P.length) :
    Calls Tryz.prog 105 #[.pointer (some ⟨bt, 0, none⟩)] w (ClaimPost w t) := by
  have c9 := h.cells.2.2.2.2.2.2.2.2.2.1
  have hlt := h.lt
  by_cases hs : t.state = 1
  case neg =>
    have b1 : (t.state != 1) = true := by simpa using hs
    have b2 : (t.state == 1) = false := by simpa using hs
    replace hs := Lib.hid hs
    have hb0 := heap_alloc_new w (.cells #[.int .i64 0, .int .i64 0, .slice none 0 0, .slice none 0 0, .slice none 0 0] tC)
    have hkA := (Keeps.refl [] w).alloc (.cells #[.int .i64 0, .int .i64 0, .slice none 0 0, .slice none 0 0, .slice none 0 0] tC)
    replace hkA := Lib.hid hkA
    replace hb0 := Lib.hid hb0
    clear h
    go_enter Tryz.func105, Tryz.ntmps105
    go_wp2
    refine bodyPost_ret (results_clm rfl _ _ _ _ _ _ _ _ _ _ rfl hb0.out) rfl ?_
    exact ⟨ClV.zero, PCl.zero, by rw [b2]; rfl, ⟨rfl, rfl, Sh.R.nil _ _, Sh.R.nil _ _, Sh.R.nil _ _⟩, hkA.out, .inl ⟨hs.out, rfl⟩⟩
  case pos =>
    have b2 : (t.state == 1) = true := by simpa using hs
    have c10 := h.cells.2.2.2.2.2.2.2.2.2.2.1
    obtain ⟨ga, gc, rfl⟩ := h.ag.form
    obtain ⟨LG, hLG⟩ : ∃ n, t.ag.length = n := ⟨_, rfl⟩
    rw [hLG] at h c10
    have hb0 := heap_alloc_new w (.cells #[.int .i64 0, .int .i64 0, .slice none 0 0, .slice none 0 0, .slice none 0 0] tC)
    have hkA := (Keeps.refl [] w).alloc (.cells #[.int .i64 0, .int .i64 0, .slice none 0 0, .slice none 0 0, .slice none 0 0] tC)
    have hcl := fun (W : World) (hk : Keeps [] w W) => claims_c W B bt bm vo vh _ t (h.keeps hk) hl
    rw [hs] at c9
    replace hkA := Lib.hid hkA
    replace hb0 := Lib.hid hb0
    replace hcl := Lib.hid hcl
    replace hs := Lib.hid hs
    replace hag := Lib.hid hag
    replace hLG := Lib.hid hLG
    replace b2 := Lib.hid b2
    clear h
    go_enter Tryz.func105, Tryz.ntmps105
    go_wp2
    generalize (w.alloc (.cells #[.int .i64 0, .int .i64 0, .slice none 0 0, .slice none 0 0, .slice none 0 0] tC)) = WA at *
    have c10 := hkA.out.val c10
    have hltA : bt < WA.heap.size := Nat.lt_of_lt_of_le hlt.1 hkA.out.size
    refine Free.wp_region_chain (fun i => i == 1 || i == 8 || i == 9) (fun i => true) (fun j b => j = 9 ∧ b = w.heap.size) (by kernel_rfl) (by kernel_rfl) (by kernel_rfl) ?_
    (repeat (first | (apply Free.cw_pure rfl rfl; (intro w'; go_simp <;> exact rfl); go_frame) | (apply Free.cw_steady rfl rfl rfl; (intro w' hS; have q0 := Free.sx_cell hS c10 (fun _ _ hT => by have := hT.2; omega); go_simp <;> exact rfl); go_frame) | (refine Free.cw_skip rfl ?_; go_frame)))
    refine Free.cw_loud rfl rfl (fun K hK => ?_)
    go_wp2_with fail
    refine (hcl.out _ (hkA.out.trans ((Keeps.refl [] _).drew))).mono ?_
    rintro e w2 ⟨vc, P, V, Bc, Y, rfl, g1, g2, g3, g4, g5⟩
    refine hK _ _ rfl (Free.KeepsP.of g5 (by simp)) ?_
    clear hK K hcl
    have c10w := (((Keeps.refl [] WA).drew).trans g5).val c10
    have hltP := hag.out hs.out P Y g3 g4
    rw [hLG.out] at hltP
    obtain ⟨gl, cc, rfl, hgB, hgl, m0, m1, m2, m3, m4, _⟩ := g2.row hltP
    have hXl : w.heap.size < WA.heap.size := lt_of_blk hb0.out
    have hbX := (g5.block w.heap.size hXl (by simp)).trans hb0.out
    have hWl : WA.heap.size ≤ gl := Nat.le_trans g1 hgB
    have hne : gl ≠ w.heap.size := by omega
    obtain ⟨x0, x1, x2, x3, x4, xl⟩ := cells5 hbX
    have xf : ∀ o, w2.frozen? ⟨w.heap.size, o, none⟩ = false := fun o => by simp [World.frozen?, hbX]
    have hro := g2.o LG
    obtain ⟨NP, hNP⟩ : ∃ n, P.length = n := ⟨_, rfl⟩
    rw [hNP] at hltP ⊢
    obtain ⟨⟨a1, a2, a3⟩, hv1⟩ : ∃ x, V LG 0 = x := ⟨_, rfl⟩
    obtain ⟨⟨b1, b2', b3⟩, hv2⟩ : ∃ x, V LG 1 = x := ⟨_, rfl⟩
    obtain ⟨⟨d1, d2, d3⟩, hv3⟩ : ∃ x, V LG 2 = x := ⟨_, rfl⟩
    simp only [hv1, hv2, hv3, slv] at m2 m3 m4
    replace hbX := Lib.hid hbX
    replace hNP := Lib.hid hNP
    replace g2 := Lib.hid g2
    replace g3 := Lib.hid g3
    replace g4 := Lib.hid g4
    replace g5 := Lib.hid g5
    clear hro
    (repeat (first | (apply Free.cw_pure rfl rfl; (intro w'; go_simp <;> exact rfl); go_frame) | (apply Free.cw_steady rfl rfl rfl; (intro w' hS; have q0 := Free.sx_cell hS c10 (fun _ _ hT => by have := hT.2; omega); go_simp <;> exact rfl); go_frame) | (refine Free.cw_skip rfl ?_; go_frame)))
    refine Free.cw_loud rfl rfl (fun K hK => ?_)
    go_wp2
    refine hK _ _ rfl (Free.KeepsP.refl _ _) ?_
    clear hK K
    (repeat (apply Free.cw_pure rfl rfl; (intro w'; go_simp <;> exact rfl); go_frame))
    refine Free.cw_loud rfl rfl (fun K hK => ?_)
    go_wp2
    have hkS : Keeps [w.heap.size] w2 (((((w2.setCell ⟨w.heap.size, 0, none⟩ (.int .i64 P[LG].m)).setCell ⟨w.heap.size, 1, none⟩ (.int .i64 P[LG].ep)).setCell ⟨w.heap.size, 2, none⟩ (.slice a1 a2 a3)).setCell ⟨w.heap.size, 3, none⟩ (.slice b1 b2' b3)).setCell ⟨w.heap.size, 4, none⟩ (.slice d1 d2 d3)) := (((((Keeps.refl _ _).setCell (.inr (by simp)) _).setCell (.inr (by simp)) _).setCell (.inr (by simp)) _).setCell (.inr (by simp)) _).setCell (.inr (by simp)) _
    have hbS : (((((w2.setCell ⟨w.heap.size, 0, none⟩ (.int .i64 P[LG].m)).setCell ⟨w.heap.size, 1, none⟩ (.int .i64 P[LG].ep)).setCell ⟨w.heap.size, 2, none⟩ (.slice a1 a2 a3)).setCell ⟨w.heap.size, 3, none⟩ (.slice b1 b2' b3)).setCell ⟨w.heap.size, 4, none⟩ (.slice d1 d2 d3)).heap[w.heap.size]? = some (.cells #[.int .i64 P[LG].m, .int .i64 P[LG].ep, .slice a1 a2 a3, .slice b1 b2' b3, .slice d1 d2 d3] tC (0, 0)) := by
      have := setCs (setCs (setCs (setCs (setCs hbX.out 0 (.int .i64 P[LG].m)) 1 (.int .i64 P[LG].ep)) 2 (.slice a1 a2 a3)) 3 (.slice b1 b2' b3)) 4 (.slice d1 d2 d3)
      simpa using this
    refine hK _ _ rfl (Free.KeepsP.of hkS (fun b hb => ⟨trivial, by simpa using hb⟩)) ?_
    clear hK K
    replace hkS := Lib.hid hkS
    replace hbS := Lib.hid hbS
    generalize (((((w2.setCell ⟨w.heap.size, 0, none⟩ (.int .i64 P[LG].m)).setCell ⟨w.heap.size, 1, none⟩ (.int .i64 P[LG].ep)).setCell ⟨w.heap.size, 2, none⟩ (.slice a1 a2 a3)).setCell ⟨w.heap.size, 3, none⟩ (.slice b1 b2' b3)).setCell ⟨w.heap.size, 4, none⟩ (.slice d1 d2 d3)) = W5 at *
    (repeat (apply Free.cw_pure rfl rfl; (intro w'; go_simp <;> exact rfl); go_frame))
    refine Free.cw_nil ?_
    go_wp2
    refine bodyPost_ret (results_clm rfl _ _ _ _ _ _ _ _ _ _ rfl hbS.out) rfl ?_
    have hPl : LG < P.length := by rw [hNP.out]; exact hltP
    have hOk : ∀ j (hj : j < 3), shT.R W5 (slv (V LG j)) (P[LG].at j) := fun j hj => ((g2.out.o LG j hPl hj).keepS hkS.out (fun b hb e => by
      simp at hb; subst hb
      exact absurd (Nat.lt_of_lt_of_le hXl (Nat.le_trans g1 ((g2.out.o LG j hPl hj).ge _ e))) (Nat.lt_irrefl _))).r
    have r1 := hOk 0 (by omega)
    have r2 := hOk 1 (by omega)
    have r3 := hOk 2 (by omega)
    rw [hv1] at r1
    rw [hv2] at r2
    rw [hv3] at r3
    exact ⟨⟨P[LG].m, P[LG].ep, (a1, a2, a3), (b1, b2', b3), (d1, d2, d3)⟩, P[LG], by rw [b2.out]; rfl, ⟨rfl, rfl, r1, r2, r3⟩, ((hkA.out.trans ((Keeps.refl [] WA).drew)).trans g5.out).fresh hkS.out (fun b hb => by simp at hb; subst hb; exact .inr (Nat.le_refl _)), .inr ⟨hs.out, P, Y, g3.out, g4.out, by rw [hLG.out]; exact List.getElem?_eq_getElem _⟩⟩
end Go.Proofs.YtpobepninifenaaGreat

namespace Go.Proofs.YtpobepninifenaaGreat
open Go.RowKit

theorem st5 {w : World} {X : Nat} {t : TypeId} {x0 x1 x2 x3 x4 u0 u1 u2 u3 u4 : Value} (h2 : w.heap[X]? = some (.cells #[u0, u1, u2, u3, u4] t (0, 0))) :
    (((((w.setCell ⟨X, 0, none⟩ x0).setCell ⟨X, 1, none⟩ x1).setCell ⟨X, 2, none⟩ x2).setCell ⟨X, 3, none⟩ x3).setCell ⟨X, 4, none⟩ x4).heap[X]? = some (.cells #[x0, x1, x2, x3, x4] t (0, 0)) ∧
    Keeps [X] w (((((w.setCell ⟨X, 0, none⟩ x0).setCell ⟨X, 1, none⟩ x1).setCell ⟨X, 2, none⟩ x2).setCell ⟨X, 3, none⟩ x3).setCell ⟨X, 4, none⟩ x4) := by
  refine ⟨?_, ?_⟩
  · have := setCs (setCs (setCs (setCs (setCs h2 0 x0) 1 x1) 2 x2) 3 x3) 4 x4
    simpa using this
  · refine (((((Keeps.refl _ w).setCell ?_ _).setCell ?_ _).setCell ?_ _).setCell ?_ _).setCell ?_ _ <;> exact .inr (by simp)
end Go.Proofs.YtpobepninifenaaGreat

namespace Go.Proofs.YtpobepninifenaaGreat
open Go.RowKit

/-- The claims of a trace. -/
def Tr.clm (t : Tr) : List PCl := refOf t (outsOf (srtOf t.qs)) (srtOf t.qs)
theorem Tr.clm_eq {t : Tr} (h : t.Inv) {Y : List Ans} {P : List PCl} (hY : SortedA t Y) (hP : ClaimsP t Y P) : P = t.clm := by
  obtain rfl := hY.uniq (srtOf_sorted h)
  exact ClaimsP.uniq hY.2 hP (refOf_claims hY.2)
theorem srtOf_mem {t : Tr} (h : t.Inv) {a : Ans} (ha : a ∈ srtOf t.qs) : a.Ok := by
  obtain ⟨p, hp, rfl⟩ := List.mem_map.1 ((srtOf_sorted h).1.mem_iff.1 ha)
  exact h.ro p hp
theorem srtOf_len {t : Tr} (h : t.Inv) : (srtOf t.qs).length ≤ t.qs.length := by
  rw [(srtOf_sorted h).1.length_eq, List.length_map]
  exact (rec_len t.qs).1
theorem clmOf_c (w : World) (v : Value) (t : Tr) (h : t.Inv) (hl : t.qs.length ≤ 1000) (hv : RdA w v (srtOf t.qs)) :
    Calls Tryz.prog 72 #[v] w fun e w' => ∃ v', e = .returned v' ∧ LCt w' v' t.clm ∧ Keeps [] w w' :=
  claimsOfR_c w v (srtOf t.qs) t hv (fun q => luL_eq h (srtOf_sorted h) q) (Nat.le_trans (srtOf_len h) hl) (fun a ha => (srtOf_mem h ha).len)
def Tr.clms (t : Tr) : List PCl := if t.shown then t.clm else []
set_option maxRecDepth 100000 in
set_option maxHeartbeats 4000000 in
theorem claimsO_c (w : World) (x : RfV) (t : Tr) (h : RfR w x t) (hi : t.Inv) (hl : t.qs.length ≤ 1000) (hrf : t.rf = true → t.state = 4) :
    Calls Tryz.prog 45 #[rfV x] w fun e w' => ∃ v, e = .returned v ∧ LCt w' v t.clms ∧ Keeps [] w w' := by
  have hsc := fun (W : World) (hk : Keeps [] w W) => sortedR_c W x t (h.keeps hk) hi.rk hl
  have hst := h.st
  have hxf := h.rf
  obtain ⟨x0, x1, x2, x3, x4, x5, ⟨x6, x7, x8⟩, ⟨x9, x10, x11⟩, x12, ⟨x13, x14, x15⟩, x16, ⟨x17, x18, x19⟩⟩ := x
  simp only [slv, rfV] at hst hsc hxf ⊢
  have hkA : Keeps [] w (w.alloc (.cells #[.int .i64 x0, .int .i64 x1, .int .i64 x2, .int .u64 x3, .int .i64 x4, .int .i64 x5, .slice x6 x7 x8, .slice x9 x10 x11, .int .i64 x12, .slice x13 x14 x15, .bool x16, .slice x17 x18 x19] tR)) := (Keeps.refl _ _).alloc _
  have hb0 := heap_alloc_new w (.cells #[.int .i64 x0, .int .i64 x1, .int .i64 x2, .int .u64 x3, .int .i64 x4, .int .i64 x5, .slice x6 x7 x8, .slice x9 x10 x11, .int .i64 x12, .slice x13 x14 x15, .bool x16, .slice x17 x18 x19] tR)
  have yes : t.shown = true → ∀ (W : World) (v : Value), Keeps [] w W → RdA W v (srtOf t.qs) → Calls Tryz.prog 72 #[v] W fun e w' => ∃ v', e = .returned v' ∧ Hid (LCt w' v' t.clms ∧ Keeps [] w w') := fun hs W v hk hv =>
    (clmOf_c W v t hi hl hv).mono fun e w' ⟨v', h1, h2, h3⟩ => ⟨v', h1, Lib.hid ⟨by unfold Tr.clms; rw [if_pos hs]; exact h2, hk.trans h3⟩⟩
  replace hkA := Lib.hid hkA
  replace hsc := Lib.hid hsc
  replace hb0 := Lib.hid hb0
  replace hi := Lib.hid hi
  replace hxf := Lib.hid hxf
  clear h
  by_cases s1 : x5 = 1
  · have hsh := Lib.hid (yes (by unfold Tr.shown; rw [← hst, s1]; rfl))
    subst s1
    clear yes hrf
    replace hst := Lib.hid hst
    go_enter Tryz.func45, Tryz.ntmps45
    go_wp2_with fail
    refine (hsc.out _ hkA.out).mono ?_
    rintro e w1 ⟨v1, rfl, hv1, hk1⟩
    have hc := hsh.out _ _ (hkA.out.trans hk1) hv1
    replace hc := Lib.hid hc
    clear hv1 hk1
    go_wp2_with fail
    refine hc.out.mono ?_
    rintro e w2 ⟨v2, rfl, hf⟩
    go_wp2
    go_ret
    exact ⟨_, rfl, hf.out⟩
  · have b1 : (x5 == 1) = false := by simpa using s1
    by_cases s2 : x5 = 2
    · have hsh := Lib.hid (yes (by unfold Tr.shown; rw [← hst, s2]; rfl))
      subst s2
      clear yes hrf
      replace hst := Lib.hid hst
      replace s1 := Lib.hid s1
      go_enter Tryz.func45, Tryz.ntmps45
      go_wp2_with fail
      refine (hsc.out _ hkA.out).mono ?_
      rintro e w1 ⟨v1, rfl, hv1, hk1⟩
      have hc := hsh.out _ _ (hkA.out.trans hk1) hv1
      replace hc := Lib.hid hc
      clear hv1 hk1
      go_wp2_with fail
      refine hc.out.mono ?_
      rintro e w2 ⟨v2, rfl, hf⟩
      go_wp2
      go_ret
      exact ⟨_, rfl, hf.out⟩
    · have b2 : (x5 == 2) = false := by simpa using s2
      by_cases s4 : x16 = true
      · have hx5 : x5 = 4 := by rw [hst]; exact hrf (by rw [← hxf.out]; exact s4)
        have hsh := Lib.hid (yes (by unfold Tr.shown; rw [← hxf.out, s4]; simp))
        subst hx5
        subst s4
        clear yes hrf
        replace hst := Lib.hid hst
        replace s1 := Lib.hid s1
        replace s2 := Lib.hid s2
        go_enter Tryz.func45, Tryz.ntmps45
        go_wp2_with fail
        refine (hsc.out _ hkA.out).mono ?_
        rintro e w1 ⟨v1, rfl, hv1, hk1⟩
        have hc := hsh.out _ _ (hkA.out.trans hk1) hv1
        replace hc := Lib.hid hc
        clear hv1 hk1
        go_wp2_with fail
        refine hc.out.mono ?_
        rintro e w2 ⟨v2, rfl, hf⟩
        go_wp2
        go_ret
        exact ⟨_, rfl, hf.out⟩
      · have hx16 : x16 = false := by simpa using s4
        subst hx16
        have hno : t.clms = [] := by
          unfold Tr.clms Tr.shown
          rw [← hst, ← hxf.out, b1, b2]; rfl
        replace hst := Lib.hid hst
        replace hno := Lib.hid hno
        replace s1 := Lib.hid s1
        replace s2 := Lib.hid s2
        replace s4 := Lib.hid s4
        clear yes hrf
        by_cases s5 : x5 = 4
        · subst s5
          go_enter Tryz.func45, Tryz.ntmps45
          go_wp2
          go_ret
          exact ⟨_, rfl, by rw [hno.out]; exact LCt.nil _, hkA.out⟩
        · have b4 : (x5 == 4) = false := by simpa using s5
          go_enter Tryz.func45, Tryz.ntmps45
          go_wp2
          go_ret
          exact ⟨_, rfl, by rw [hno.out]; exact LCt.nil _, hkA.out⟩
theorem claimsR_c (w : World) (x : RfV) (t : Tr) (h : RfR w x t) (hi : t.Inv) (hl : t.qs.length ≤ 1000) (hrf : t.rf = true → t.state = 4) :
    Calls Tryz.prog 45 #[rfV x] w fun e w' => ∃ v, e = .returned v ∧ LC w' v t.clms ∧ Keeps [] w w' :=
  (claimsO_c w x t h hi hl hrf).mono fun e w' ⟨v, h1, h2, h3⟩ => ⟨v, h1, h2.lc, h3⟩
def ClaimRP (w : World) (t : Tr) (e : Ending) (w' : World) : Prop :=
  ∃ (x : ClV) (p : PCl), e = .returned (.tuple #[clV x, .bool (t.state == 1)]) ∧ CR w' x p ∧ Keeps [] w w' ∧ ((t.state ≠ 1 ∧ p = PCl.zero) ∨ (t.state = 1 ∧ t.clm[t.ag.length]? = some p))
set_option maxRecDepth 100000 in
set_option maxHeartbeats 8000000 in
theorem claimR_c (w : World) (x : RfV) (t : Tr) (h : RfR w x t) (hi : t.Inv) (hl : t.qs.length ≤ 1000) (hag : t.state = 1 → t.ag.length < t.clm.length) :
    Calls Tryz.prog 30 #[rfV x] w (ClaimRP w t) := by
  have hsc := fun (W : World) (hk : Keeps [] w W) => sortedR_c W x t (h.keeps hk) hi.rk hl
  have hst := h.st
  have hga := h.ag
  obtain ⟨x0, x1, x2, x3, x4, x5, ⟨x6, x7, x8⟩, ⟨x9, x10, x11⟩, x12, ⟨x13, x14, x15⟩, x16, ⟨x17, x18, x19⟩⟩ := x
  simp only [slv, rfV] at hst hsc hga ⊢
  have hb1 := heap_alloc_new (w.alloc (.cells #[.int .i64 x0, .int .i64 x1, .int .i64 x2, .int .u64 x3, .int .i64 x4, .int .i64 x5, .slice x6 x7 x8, .slice x9 x10 x11, .int .i64 x12, .slice x13 x14 x15, .bool x16, .slice x17 x18 x19] tR)) (.cells #[.int .i64 0, .int .i64 0, .slice none 0 0, .slice none 0 0, .slice none 0 0] tC)
  rw [show (w.alloc (.cells #[.int .i64 x0, .int .i64 x1, .int .i64 x2, .int .u64 x3, .int .i64 x4, .int .i64 x5, .slice x6 x7 x8, .slice x9 x10 x11, .int .i64 x12, .slice x13 x14 x15, .bool x16, .slice x17 x18 x19] tR)).heap.size = w.heap.size + 1 by simp] at hb1
  have hkA : Keeps [] w ((w.alloc (.cells #[.int .i64 x0, .int .i64 x1, .int .i64 x2, .int .u64 x3, .int .i64 x4, .int .i64 x5, .slice x6 x7 x8, .slice x9 x10 x11, .int .i64 x12, .slice x13 x14 x15, .bool x16, .slice x17 x18 x19] tR)).alloc (.cells #[.int .i64 0, .int .i64 0, .slice none 0 0, .slice none 0 0, .slice none 0 0] tC)) := ((Keeps.refl _ _).alloc _).alloc _
  have hb0 := ((Keeps.refl [] (w.alloc (.cells #[.int .i64 x0, .int .i64 x1, .int .i64 x2, .int .u64 x3, .int .i64 x4, .int .i64 x5, .slice x6 x7 x8, .slice x9 x10 x11, .int .i64 x12, .slice x13 x14 x15, .bool x16, .slice x17 x18 x19] tR))).alloc (.cells #[.int .i64 0, .int .i64 0, .slice none 0 0, .slice none 0 0, .slice none 0 0] tC)).block _ (by simp) (by simp) |>.trans (heap_alloc_new w (.cells #[.int .i64 x0, .int .i64 x1, .int .i64 x2, .int .u64 x3, .int .i64 x4, .int .i64 x5, .slice x6 x7 x8, .slice x9 x10 x11, .int .i64 x12, .slice x13 x14 x15, .bool x16, .slice x17 x18 x19] tR))
  replace hkA := Lib.hid hkA
  replace hsc := Lib.hid hsc
  replace hb1 := Lib.hid hb1
  replace hb0 := Lib.hid hb0
  by_cases s1 : x5 = 1
  case neg =>
    have b1 : (x5 != 1) = true := by simpa using s1
    have hbf : (t.state == 1) = false := by rw [← hst]; simpa using s1
    have hnf : t.state ≠ 1 := by rw [← hst]; exact s1
    replace hi := Lib.hid hi
    replace hst := Lib.hid hst
    replace hga := Lib.hid hga
    clear h
    go_enter Tryz.func30, Tryz.ntmps30
    go_wp2
    refine bodyPost_ret (results_clm rfl _ _ _ _ _ _ _ _ _ _ rfl hb1.out) ?_ ?_
    · rfl
    · exact ⟨ClV.zero, PCl.zero, by rw [hbf]; rfl, ⟨rfl, rfl, Sh.R.nil _ _, Sh.R.nil _ _, Sh.R.nil _ _⟩, hkA.out, .inl ⟨hnf, rfl⟩⟩
  case pos =>
    subst s1
    have hst1 : t.state = 1 := hst.symm
    have hlt := hag hst1
    have hx14 : t.ag.length = x14 := by
      obtain ⟨_, _, e, _⟩ := hga.form
      simp only [Value.slice.injEq] at e
      exact e.2.1.symm
    rw [hx14] at hlt
    replace hst := Lib.hid hst
    replace hst1 := Lib.hid hst1
    replace hx14 := Lib.hid hx14
    replace hi := Lib.hid hi
    clear h hga hag
    go_enter Tryz.func30, Tryz.ntmps30
    go_wp2
    generalize ((w.alloc (.cells #[.int .i64 x0, .int .i64 x1, .int .i64 x2, .int .u64 x3, .int .i64 x4, .int .i64 1, .slice x6 x7 x8, .slice x9 x10 x11, .int .i64 x12, .slice x13 x14 x15, .bool x16, .slice x17 x18 x19] tR)).alloc (.cells #[.int .i64 0, .int .i64 0, .slice none 0 0, .slice none 0 0, .slice none 0 0] tC)) = WA at *
    obtain ⟨y0, y1, y2, y3, y4, y5, y6, y7, y8, y9, y10, y11, yf, yl⟩ := cells12 hb0.out
    refine Free.wp_region_chain (fun i => i == 1 || i == 2 || i == 7 || i == 8) (fun i => true) (fun j b => j = 8 ∧ b = w.heap.size + 1) (by kernel_rfl) (by kernel_rfl) (by kernel_rfl) ?_
    (repeat (first | (apply Free.cw_pure rfl rfl; (intro w'; go_simp <;> exact rfl); go_frame) | (apply Free.cw_steady rfl rfl rfl; (intro w' hS; have q0 := Free.sx_cell hS y0 (fun _ _ hT => by have := hT.2; omega); have q1 := Free.sx_cell hS y1 (fun _ _ hT => by have := hT.2; omega); have q2 := Free.sx_cell hS y2 (fun _ _ hT => by have := hT.2; omega); have q3 := Free.sx_cell hS y3 (fun _ _ hT => by have := hT.2; omega); have q4 := Free.sx_cell hS y4 (fun _ _ hT => by have := hT.2; omega); have q5 := Free.sx_cell hS y5 (fun _ _ hT => by have := hT.2; omega); have q6 := Free.sx_cell hS y6 (fun _ _ hT => by have := hT.2; omega); have q7 := Free.sx_cell hS y7 (fun _ _ hT => by have := hT.2; omega); have q8 := Free.sx_cell hS y8 (fun _ _ hT => by have := hT.2; omega); have q9 := Free.sx_cell hS y9 (fun _ _ hT => by have := hT.2; omega); have q10 := Free.sx_cell hS y10 (fun _ _ hT => by have := hT.2; omega); have q11 := Free.sx_cell hS y11 (fun _ _ hT => by have := hT.2; omega); go_simp <;> exact rfl); go_frame) | (refine Free.cw_skip rfl ?_; go_frame)))
    refine Free.cw_loud rfl rfl (fun K hK => ?_)
    go_wp2_with fail
    refine (hsc.out _ (hkA.out.drew)).mono ?_
    rintro e w1 ⟨v1, rfl, hv1, hk1⟩
    refine hK _ _ rfl (Free.KeepsP.of hk1 (by simp)) ?_
    clear hK K
    have hk1d := ((Keeps.refl [] WA).drew).trans hk1
    have hcl := clmOf_c w1 v1 t hi.out hl hv1
    replace hcl := Lib.hid hcl
    replace hk1d := Lib.hid hk1d
    clear hv1 hk1
    (repeat (apply Free.cw_pure rfl rfl; (intro w'; go_simp <;> exact rfl); go_frame))
    refine Free.cw_loud rfl rfl (fun K hK => ?_)
    go_wp2_with fail
    refine hcl.out.mono ?_
    rintro e w2 ⟨v2, rfl, hLC, hk2⟩
    refine hK _ _ rfl (Free.KeepsP.of hk2 (by simp)) ?_
    clear hK K hcl
    have hk2d := hk1d.out.trans hk2
    obtain ⟨g, o, c', cx, hv, hcr, e0, e1, e2, e3, e4⟩ := hLC.elem hlt
    obtain ⟨NC, hNC⟩ : ∃ n, t.clm.length = n := ⟨_, rfl⟩
    have hNCm : NC ≤ 9223372036854775807 := by obtain ⟨_, c3, _, h1, h2⟩ := hLC.lc.form; rw [hNC] at h1; unfold maxLen at h2; omega
    rw [hNC] at hlt
    rw [hNC] at hv
    subst hv
    have hget : t.clm[x14]? = some (t.clm[x14]'(by omega)) := List.getElem?_eq_getElem _
    obtain ⟨p, hp⟩ : ∃ p, t.clm[x14]'(by omega) = p := ⟨_, rfl⟩
    rw [hp] at hcr hget
    obtain ⟨c0, c1, ⟨c2, c3, c4⟩, ⟨c5, c6, c7⟩, ⟨c8, c9, c10⟩⟩ := cx
    simp only [slv] at e0 e1 e2 e3 e4
    have hbR := (hk2d.block _ (lt_of_blk hb1.out) (by simp)).trans hb1.out
    obtain ⟨z0, z1, z2, z3, z4, zl⟩ := cells5 hbR
    have zf : ∀ o, w2.frozen? ⟨w.heap.size + 1, o, none⟩ = false := fun o => by simp [World.frozen?, hbR]
    have hgl := lt_of_cell e0
    replace hbR := Lib.hid hbR
    replace hk2d := Lib.hid hk2d
    replace hp := Lib.hid hp
    replace hget := Lib.hid hget
    replace hNC := Lib.hid hNC
    replace hcr := Lib.hid hcr
    replace hLC := Lib.hid hLC
    clear hk2
    (repeat (first | (apply Free.cw_pure rfl rfl; (intro w'; go_simp <;> exact rfl); go_frame) | (apply Free.cw_steady rfl rfl rfl; (intro w' hS; have q0 := Free.sx_cell hS y9 (fun _ _ hT => by have := hT.2; omega); go_simp <;> exact rfl); go_frame) | (refine Free.cw_skip rfl ?_; go_frame)))
    refine Free.cw_loud rfl rfl (fun K hK => ?_)
    go_wp2
    refine hK _ _ rfl (Free.KeepsP.refl _ _) ?_
    clear hK K
    (repeat (apply Free.cw_pure rfl rfl; (intro w'; go_simp <;> exact rfl); go_frame))
    refine Free.cw_loud rfl rfl (fun K hK => ?_)
    go_wp2
    obtain ⟨hbS, hkS⟩ := st5 (x0 := .int .i64 c0) (x1 := .int .i64 c1) (x2 := .slice c2 c3 c4) (x3 := .slice c5 c6 c7) (x4 := .slice c8 c9 c10) hbR.out
    refine hK _ _ rfl (Free.KeepsP.of hkS (fun b hb => ⟨trivial, by simpa using hb⟩)) ?_
    clear hK K
    have hR : ∀ b ∈ [w.heap.size + 1], ∀ (cs : Array Value) (f : Nat × Nat), w2.heap[b]? ≠ some (Obj.cells cs tN f) := fun b hb => by simp at hb; subst hb; exact tag_C hbR.out
    have hcS := hcr.out.keepS hkS hR
    have hkf := (hkA.out.trans hk2d.out).fresh hkS (fun b hb => by simp at hb; subst hb; exact .inr (by omega))
    replace hbS := Lib.hid hbS
    replace hcS := Lib.hid hcS
    replace hkf := Lib.hid hkf
    clear hR hkS
    (repeat (apply Free.cw_pure rfl rfl; (intro w'; go_simp <;> exact rfl); go_frame))
    refine Free.cw_nil ?_
    go_wp2
    refine bodyPost_ret (results_clm rfl _ _ _ _ _ _ _ _ _ _ rfl hbS.out) ?_ ?_
    · rfl
    · exact ⟨⟨c0, c1, (c2, c3, c4), (c5, c6, c7), (c8, c9, c10)⟩, p, by rw [hst1.out]; rfl, ⟨hcS.out.m, hcS.out.ep, hcS.out.st.1, hcS.out.sc.1, hcS.out.ch.1⟩, hkf.out, .inr ⟨hst1.out, by rw [hx14.out]; exact hget.out⟩⟩
end Go.Proofs.YtpobepninifenaaGreat
