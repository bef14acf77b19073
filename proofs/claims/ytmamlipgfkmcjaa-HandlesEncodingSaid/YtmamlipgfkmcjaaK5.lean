/- Texts that the laws lean on, in the order in which they build. The walk of the law Lists. -/
import Derived.Test.YtmamlipgfkmcjaaK4
set_option linter.unusedVariables false
set_option linter.unusedSimpArgs false
namespace Go.Proofs.Ytmamlipgfkmcjaa
open Go.RowKit Go.Maps
attribute [local go_sem] Oper.semAt_some

/-- How many handles the first j lists hold. -/
def cntL (L : List Hn) (j : Nat) : Nat := (if 0 < j then (hsL false L).length else 0) + (if 1 < j then (hsL true L).length else 0)
theorem cntL_two (L : List Hn) : cntL L 2 = L.length := by
  simp only [cntL, hsL, List.length_map]
  induction L with
  | nil => rfl
  | cons p t ih =>
    obtain ⟨h, x, b⟩ := p
    cases b <;> simp at ih ⊢ <;> omega
theorem cntL_le (L : List Hn) {j : Nat} : cntL L j ≤ L.length := by
  rw [← cntL_two L]
  simp only [cntL]
  split <;> split <;> simp
theorem hs_len_ws (b : Bool) (L : List Hn) : (wsL b L).length = (hsL b L).length := by simp [hsL, wsL]
/-- The i-th handle with a strength, and its word. -/
theorem hs_at {b : Bool} {L : List Hn} (ha : MapL.Asc L) {i : Nat} (hi : i < (hsL b L).length) (hw : i < (wsL b L).length) : gW L (hsL b L)[i] = (wsL b L)[i] ∧ gB L (hsL b L)[i] = b ∧ (MapL.get (hsL b L)[i] L).isSome = true ∧ ∃ p ∈ L, p.1 = (hsL b L)[i] := by
  have hf : i < (L.filter (fun p => p.2.2 == b)).length := by simpa [hsL] using hi
  have e1 : (hsL b L)[i] = (L.filter (fun p => p.2.2 == b))[i].1 := by simp [hsL]
  have e2 : (wsL b L)[i] = (L.filter (fun p => p.2.2 == b))[i].2.1 := by simp [wsL]
  obtain ⟨hm, hb⟩ := List.mem_filter.1 (List.getElem_mem hf)
  rw [e1, e2]
  generalize (L.filter (fun p => p.2.2 == b))[i] = p at hm hb
  have hg : MapL.get p.1 L = some p.2 := MapL.get_of_mem ha hm
  refine ⟨by unfold gW; rw [hg]; rfl, by unfold gB; rw [hg]; simpa using hb, by rw [hg]; rfl, p, hm, rfl⟩
set_option maxRecDepth 100000 in
set_option maxHeartbeats 4000000 in
theorem lists_c (w : World) (v : Value) (l : List OpV) (h : shO.R w v l) (hok : ∀ o ∈ l, o.ok) :
    Calls Try.prog 6 #[v] w fun e w' => e = .returned (.bool true) ∧ Keeps [] w w' := by
  obtain ⟨a0, c0, rfl, hlc, hcm, _⟩ := h.form
  obtain ⟨M, hM⟩ : ∃ N, l.length = N := ⟨_, rfl⟩
  rw [hM] at hlc h ⊢
  have hMx : M ≤ 9223372036854775807 := by unfold Go.maxLen at hcm; omega
  replace hM := Lib.hid hM
  replace h := Lib.hid h
  replace hok := Lib.hid hok
  go_enter Try.func6, Try.ntmps6
  go_wp2_with fail
  refine (awake_c w).mono ?_
  rintro e w1 ⟨rfl, hk1⟩
  have h1 := h.out.keeps hk1
  replace hk1 := Lib.hid hk1
  replace h1 := Lib.hid h1
  by_cases hbig : 40 < M
  · go_wp2
    go_ret
    exact ⟨rfl, hk1.out⟩
  · go_wp2_with fail
    refine (run_c w1 _ l h1.out hok.out (by rw [hM.out]; omega)).mono ?_
    rintro e w2 ⟨bt, bm, v2, L, rfl, hG, hL, hp, t2, hr2, hk2, _, _⟩
    rw [hM.out] at hL
    have hk02 := hk1.out.trans hk2
    obtain ⟨a2, c2, rfl, hlc2, hcm2, _⟩ := hr2.form
    have h40 : L.length ≤ 40 := by omega
    have hcl := fun j => cntL_le L (j := j)
    obtain ⟨K, hK⟩ : ∃ K, L.length = K := ⟨_, rfl⟩
    rw [hK] at h40 hcl hlc2 hr2 ⊢
    have hbl := heap_alloc_new w2 (.cells #[.bool false, .bool true] 4)
    have hkb := (Keeps.refl [] w2).alloc (.cells #[.bool false, .bool true] 4)
    have hkw := hk02.trans hkb
    have htW := t2.keeps hkb
    obtain ⟨Bb, hBb⟩ : ∃ b, w2.heap.size = b := ⟨_, rfl⟩
    rw [hBb] at hbl
    replace hbl := Lib.hid hbl
    replace hkw := Lib.hid hkw
    replace htW := Lib.hid htW
    replace hG := Lib.hid hG
    replace hK := Lib.hid hK
    replace hcl := Lib.hid hcl
    clear hkb hk02 hr2 hk2 hp t2
    go_wp2
    generalize w2.alloc (.cells #[.bool false, .bool true] 4) = W at *
    clear hBb
    go_loopw [6, 29] (fun nv iv wr => ∃ j : Nat, iv = .int .i64 j ∧ nv = .int .i64 (cntL L j) ∧ j ≤ 2 ∧ Keeps [] W wr) (fun _ iv _ => 2 - (intOf iv).toNat)
    case atStart => exact ⟨0, rfl, rfl, by omega, Keeps.refl _ _⟩
    case round =>
      obtain ⟨j, rfl, rfl, hj, hkj⟩ := hrel
      by_cases hjl : j < 2
      · have hbj := (hkj.block _ (lt_of_block hbl.out) (by simp)).trans hbl.out
        have hcell : ∃ b, wr.cell? ⟨Bb, j, none⟩ = some (.bool b) ∧ cntL L (j + 1) = cntL L j + (hsL b L).length := by
          obtain ⟨c0, c1⟩ := cells_two hbj
          rcases (show j = 0 ∨ j = 1 by omega) with rfl | rfl
          · exact ⟨_, c0, by simp [cntL]⟩
          · exact ⟨_, c1, by simp [cntL]⟩
        obtain ⟨b, hcb, hnx⟩ := hcell
        have htj := htW.out.keeps hkj
        have hcj := hcl.out j
        have hcj1 := hcl.out (j + 1)
        obtain ⟨C, hC⟩ : ∃ C, cntL L j = C := ⟨_, rfl⟩
        rw [hC] at hnx hcj ⊢
        rw [hnx] at hcj1
        replace hnx := Lib.hid hnx
        replace hkj := Lib.hid hkj
        replace htj := Lib.hid htj
        replace hC := Lib.hid hC
        clear hbj
        go_wp2_with fail
        refine (list_c wr bt bm L b htj.out hG.out.asc (by rw [hK.out]; omega)).mono ?_
        rintro e w3 ⟨v3, rfl, hS3, hk3⟩
        have ht3 := htj.out.keeps hk3
        have hk3j := hkj.out.trans hk3
        have hcb3 := hk3.val hcb
        replace ht3 := Lib.hid ht3
        replace hk3j := Lib.hid hk3j
        clear hk3 htj hkj
        go_wp2_with fail
        refine (words_c w3 bt bm L b ht3.out hG.out (by rw [hK.out]; omega)).mono ?_
        rintro e w4 ⟨v4, rfl, hS4, hk4⟩
        have ht4 := ht3.out.keeps hk4
        have hk4j := hk3j.out.trans hk4
        have hS34 := hS3.keeps hk4
        obtain ⟨a3, c3, rfl, hlc3, hcm3, _⟩ := hS34.form
        obtain ⟨a4, c4, rfl, hlc4, hcm4, _⟩ := hS4.form
        have hww := hs_len_ws b L
        obtain ⟨N, hN⟩ : ∃ N, (hsL b L).length = N := ⟨_, rfl⟩
        rw [hN] at hww hcj1 hnx hlc3 hS34 ⊢
        rw [hww] at hlc4 hS4 ⊢
        replace ht4 := Lib.hid ht4
        replace hk4j := Lib.hid hk4j
        replace hN := Lib.hid hN
        replace hww := Lib.hid hww
        replace hS34 := Lib.hid hS34
        replace hS4 := Lib.hid hS4
        replace hnx := Lib.hid hnx
        clear hk4 ht3 hk3j hcb hcb3 hS3
        go_wp2
        go_loopw [11] (fun iv wx => ∃ i : Nat, iv = .int .i64 i ∧ i ≤ N ∧ Keeps [] w4 wx) (fun iv _ => N - (intOf iv).toNat)
        case atStart => exact ⟨0, rfl, by omega, Keeps.refl _ _⟩
        case round =>
          obtain ⟨i, rfl, hi, hki⟩ := hrel
          by_cases hlt : i < N
          · have hi1 : i < (hsL b L).length := by rw [hN.out]; exact hlt
            have hi2 : i < (wsL b L).length := by rw [hww.out]; exact hlt
            obtain ⟨g3, o3, c3', hv3, e3⟩ := elemI (hS34.out.keeps hki) hi1
            obtain ⟨g4, o4, c4', hv4, e4⟩ := elemW (hS4.out.keeps hki) hi2
            obtain ⟨hgw, hgb, hgs, hmem⟩ := hs_at hG.out.asc hi1 hi2
            rw [hN.out] at hv3
            rw [hww.out] at hv4
            cases hv3
            cases hv4
            have hx64 : W64 (hsL b L)[i] := by obtain ⟨p, hp, e⟩ := hmem; rw [← e]; exact hG.out.w p hp
            have htx := ht4.out.keeps hki
            have hprev : ∀ m, i = m + 1 → ∃ x0, wr.cell? ⟨g3, o3 + m, none⟩ = some (.int .i64 x0) ∧ x0 < (hsL b L)[i] := fun m hm => by
              subst hm
              obtain ⟨g5, o5, c5', hv5, e5⟩ := elemI (hS34.out.keeps hki) (k := m) (by omega)
              rw [hN.out] at hv5
              cases hv5
              exact ⟨_, e5, List.pairwise_iff_getElem.1 (hsL_asc hG.out.asc) m (m + 1) (by omega) hi1 (by omega)⟩
            obtain ⟨x, hx⟩ : ∃ x, (hsL b L)[i] = x := ⟨_, rfl⟩
            obtain ⟨y, hy⟩ : ∃ y, (wsL b L)[i] = y := ⟨_, rfl⟩
            rw [hx] at e3 hgw hgb hgs hx64 hprev
            rw [hy] at e4 hgw
            replace hx := Lib.hid hx
            replace hy := Lib.hid hy
            replace hgw := Lib.hid hgw
            replace hgb := Lib.hid hgb
            replace hgs := Lib.hid hgs
            replace hki := Lib.hid hki
            replace htx := Lib.hid htx
            clear hmem
            by_cases hi0 : 0 < i
            rotate_left
            · replace hprev := Lib.hid hprev
              have hd0 : decide ((0 : Int) < (i : Int)) = false := by simp; omega
              go_wp2_with fail
              refine (get_c wr bt bm L x htx.out hx64).mono ?_
              rintro e w5 ⟨rfl, hk5⟩
              rw [hgw.out, hgs.out]
              have e35 := hk5.val e3
              have e45 := hk5.val e4
              have hk5r := hki.out.trans hk5
              have ht5 := htx.out.keeps hk5
              replace hk5r := Lib.hid hk5r
              replace ht5 := Lib.hid ht5
              clear hk5 e3 e4
              go_wp2
              refine Free.wp_region_chain (fun i => i == 16) (fun i => true) (fun _ b => False) (by kernel_rfl) (by kernel_rfl) (by kernel_rfl) ?_
              (repeat (first | (apply Free.cw_pureW rfl rfl; (intro w'; go_simp <;> exact rfl); go_frame) | (apply Free.cw_steadyW rfl rfl rfl; (intro w' hS; have q0 := Free.sx_cell hS e35 (fun _ _ hT => hT); have q1 := Free.sx_cell hS e45 (fun _ _ hT => hT); go_simp <;> exact rfl); go_frame) | (refine Free.cw_skip rfl ?_; go_frame)))
              refine Free.cw_loudW rfl rfl (fun K hK => ?_)
              go_wp2_with fail
              refine (weak_c _ bt bm L x (ht5.out.keeps (Keeps.refl [] _).drew) hx64).mono ?_
              rintro e w6 ⟨rfl, rfl⟩
              rw [hgb.out]
              refine hK _ _ rfl (Free.KeepsP.refl _ _) ?_
              clear hK K
              (repeat (first | (apply Free.cw_pureW rfl rfl; (intro w'; go_simp <;> exact rfl); go_frame) | (apply Free.cw_steadyW rfl rfl rfl; (intro w' hS; have q0 := Free.sx_cell hS e35 (fun _ _ hT => hT); have q1 := Free.sx_cell hS e45 (fun _ _ hT => hT); go_simp <;> exact rfl); go_frame) | (refine Free.cw_skip rfl ?_; go_frame)))
              refine Free.cw_nil ?_
              go_wp2
              go_roundw
              case rel => exact ⟨i + 1, rfl, by omega, hk5r.out.drew⟩
              case measure => simp [intOf]; omega
            · obtain ⟨m, hm⟩ : ∃ m, i = m + 1 := ⟨i - 1, by omega⟩
              obtain ⟨x0, e30, hlt0⟩ := hprev m hm
              have hd0 : (0 : Int) < (i : Int) := by omega
              have hm0 : (m : Int) < (N : Int) := by omega
              have hwr : IntKind.i64.wrap ((i : Int) - 1) = (m : Int) := by rw [show (i : Int) - 1 = m by omega]; exact IntWalk.i64_in _ (by omega)
              replace hm := Lib.hid hm
              have hge : decide (x ≤ x0) = false := by simp; omega
              clear hprev
              go_wp2_with fail
              refine (get_c wr bt bm L x htx.out hx64).mono ?_
              rintro e w5 ⟨rfl, hk5⟩
              rw [hgw.out, hgs.out]
              have e35 := hk5.val e3
              have e45 := hk5.val e4
              have e05 := hk5.val e30
              have hk5r := hki.out.trans hk5
              have ht5 := htx.out.keeps hk5
              replace hk5r := Lib.hid hk5r
              replace ht5 := Lib.hid ht5
              clear hk5 e3 e4 e30
              go_wp2
              refine Free.wp_region_chain (fun i => i == 16) (fun i => true) (fun _ b => False) (by kernel_rfl) (by kernel_rfl) (by kernel_rfl) ?_
              (repeat (first | (apply Free.cw_pureW rfl rfl; (intro w'; go_simp <;> exact rfl); go_frame) | (apply Free.cw_steadyW rfl rfl rfl; (intro w' hS; have q0 := Free.sx_cell hS e35 (fun _ _ hT => hT); have q1 := Free.sx_cell hS e45 (fun _ _ hT => hT); have q2 := Free.sx_cell hS e05 (fun _ _ hT => hT); go_simp <;> exact rfl); go_frame) | (refine Free.cw_skip rfl ?_; go_frame)))
              refine Free.cw_loudW rfl rfl (fun K hK => ?_)
              go_wp2_with fail
              refine (weak_c _ bt bm L x (ht5.out.keeps (Keeps.refl [] _).drew) hx64).mono ?_
              rintro e w6 ⟨rfl, rfl⟩
              rw [hgb.out]
              refine hK _ _ rfl (Free.KeepsP.refl _ _) ?_
              clear hK K
              (repeat (first | (apply Free.cw_pureW rfl rfl; (intro w'; go_simp <;> exact rfl); go_frame) | (apply Free.cw_steadyW rfl rfl rfl; (intro w' hS; have q0 := Free.sx_cell hS e35 (fun _ _ hT => hT); have q1 := Free.sx_cell hS e45 (fun _ _ hT => hT); have q2 := Free.sx_cell hS e05 (fun _ _ hT => hT); go_simp <;> exact rfl); go_frame) | (refine Free.cw_skip rfl ?_; go_frame)))
              refine Free.cw_nil ?_
              go_wp2
              go_roundw
              case rel => exact ⟨i + 1, rfl, by omega, hk5r.out.drew⟩
              case measure => simp [intOf]; omega
          · have hiN := Lib.hid (show i = N by omega)
            have hkf := hk4j.out.trans hki
            replace hkf := Lib.hid hkf
            clear hki
            go_wp2
            go_roundw
            case rel => exact ⟨j + 1, rfl, by rw [hnx.out]; rfl, by omega, hkf.out⟩
            case measure => simp [intOf]; omega
      · have hj2 : j = 2 := by omega
        subst hj2
        rw [cntL_two, hK.out]
        replace hkj := Lib.hid hkj
        go_wp2
        go_ret
        exact ⟨rfl, hkw.out.trans hkj.out⟩
end Go.Proofs.Ytmamlipgfkmcjaa
