/- Texts that the laws lean on, in the order in which they build. The walk of the law Numbers. -/
import Derived.Test.YtmamlipgfkmcjaaK6
set_option linter.unusedVariables false
set_option linter.unusedSimpArgs false
namespace Go.Proofs.Ytmamlipgfkmcjaa
open Go.RowKit Go.Maps
attribute [local go_sem] Oper.semAt_some

set_option maxRecDepth 100000 in
set_option maxHeartbeats 4000000 in
theorem numbers_c (w : World) (v : Value) (l : List OpV) (x : Nat) (b : Bool) (h0 : shO.R w v l) (hok : ∀ o ∈ l, o.ok) (hx : x < 18446744073709551616) :
    Calls Try.prog 3 #[v, .int .u64 x, .bool b] w fun e w' => e = .returned (.bool true) ∧ Keeps [] w w' := by
  obtain ⟨a0, c0, rfl, hlc, hcm, _⟩ := h0.form
  obtain ⟨M, hM⟩ : ∃ N, l.length = N := ⟨_, rfl⟩
  rw [hM] at hlc h0 ⊢
  have hMx : M ≤ 9223372036854775807 := by unfold Go.maxLen at hcm; omega
  replace hM := Lib.hid hM
  replace h0 := Lib.hid h0
  replace hok := Lib.hid hok
  go_enter Try.func3, Try.ntmps3
  go_wp2_with fail
  refine (awake_c w).mono ?_
  rintro e w1 ⟨rfl, hk1⟩
  have h1 := h0.out.keeps hk1
  have hz1 := hk1.size
  replace hk1 := Lib.hid hk1
  replace h1 := Lib.hid h1
  by_cases hbig : 40 < M
  · go_wp2
    go_ret
    exact ⟨rfl, hk1.out⟩
  · go_wp2_with fail
    refine (run_c w1 _ l h1.out hok.out (by rw [hM.out]; omega)).mono ?_
    rintro e w2 ⟨bt, bm, v2, L, rfl, hG, hL, hp, t2, hr2, hk2, _, hbm⟩
    rw [hM.out] at hL
    replace hk2 := hk1.out.trans hk2
    replace hk2 := Lib.hid hk2
    replace hG := Lib.hid hG
    replace t2 := Lib.hid t2
    replace hr2 := Lib.hid hr2
    clear hp
    go_wp2_with fail
    refine (add_c w2 bt bm L x b t2.out (by omega)).mono ?_
    rintro e w3 ⟨n, rfl, hf, t3, hk3⟩
    have hr3 := hr2.out.keepN hk3 (fun b hb o => by simp at hb; subst hb; exact t2.out.mp.noCells o)
    have hn1 := hf.pos
    have hn2 := hf.le
    have hnn : W64 n := w64 (by omega) (by omega)
    have hgn : MapL.get n (MapL.ins n (x, b) L) = some (x, b) := by rw [MapL.get_ins]; simp
    have hgo : ∀ k, (MapL.get k L).isSome = true → MapL.get k (MapL.ins n (x, b) L) = MapL.get k L := fun k hk => by
      rw [MapL.get_ins, if_neg (fun e => by subst e; rw [hf.free] at hk; cases hk)]
    replace hk3 := hk2.out.fresh hk3 (fun b hb => .inr (by simp at hb; omega))
    obtain ⟨L2, hL2⟩ : ∃ L2, MapL.ins n (x, b) L = L2 := ⟨_, rfl⟩
    rw [hL2] at t3 hgn hgo
    obtain ⟨a2, c2, rfl, hlc2, hcm2, _⟩ := hr3.form
    have h40 : L.length ≤ 40 := by omega
    obtain ⟨K, hK⟩ : ∃ K, L.length = K := ⟨_, rfl⟩
    rw [hK] at h40 hlc2 hr3 hn2 ⊢
    replace t3 := Lib.hid t3
    replace hr3 := Lib.hid hr3
    replace hk3 := Lib.hid hk3
    replace hf := Lib.hid hf
    replace hK := Lib.hid hK
    replace hgn := Lib.hid hgn
    replace hgo := Lib.hid hgo
    clear hL2 t2 hr2 hk2 hL
    obtain ⟨nn, hnn2⟩ : ∃ nn : Nat, n = nn := ⟨n.toNat, by omega⟩
    subst hnn2
    go_wp2
    go_loopw [11] (fun iv wr => ∃ i : Nat, iv = .int .i64 i ∧ 1 ≤ i ∧ i ≤ nn ∧ Keeps [] w3 wr) (fun iv _ => nn - (intOf iv).toNat)
    case atStart => exact ⟨1, rfl, by omega, by omega, Keeps.refl _ _⟩
    case round =>
      obtain ⟨i, rfl, hi1, hi2, hki⟩ := hrel
      by_cases hlt : i < nn
      · have hri := hr3.out.keeps hki
        have hus := hf.out.used i (by omega) (by omega)
        replace hki := Lib.hid hki
        go_wp2_with fail
        refine (find_c wr _ L i hri).mono ?_
        rintro e w4 ⟨j, rfl, hfj, hk4⟩
        have hsome := hfj.some hG.out.asc
        rw [hus] at hsome
        have hj : 0 ≤ j := by simpa using hsome.symm
        replace hk4 := hki.out.trans hk4
        replace hk4 := Lib.hid hk4
        clear hfj hsome hki hri hus
        go_wp2
        go_roundw
        case rel => exact ⟨i + 1, rfl, by omega, by omega, hk4.out⟩
        case measure => simp [intOf]; omega
      · have hin : i = nn := by omega
        subst hin
        have hri := hr3.out.keeps hki
        replace hki := Lib.hid hki
        go_wp2_with fail
        refine (find_c wr _ L i hri).mono ?_
        rintro e w4 ⟨j, rfl, hfj, hk4⟩
        have hsome := hfj.some hG.out.asc
        rw [hf.out.free] at hsome
        have hj : j < 0 := by
          have : ¬ 0 ≤ j := by simpa using hsome.symm
          omega
        replace hk4 := hki.out.trans hk4
        replace hk4 := Lib.hid hk4
        clear hfj hsome hki hri
        go_wp2
        go_loopw [12] (fun iv wr => ∃ k : Nat, iv = .int .i64 k ∧ k ≤ K ∧ Keeps [] w3 wr) (fun iv _ => K - (intOf iv).toNat)
        case atStart => exact ⟨0, rfl, by omega, hk4.out⟩
        case round =>
          obtain ⟨k, rfl, hk, hkr⟩ := hrel
          by_cases hlt : k < K
          · have hkl : k < L.length := by rw [hK.out]; exact hlt
            have hrr := hr3.out.keeps hkr
            obtain ⟨g, o, c', hv, e0, e1, e2⟩ := elemE hrr hkl
            rw [hK.out] at hv
            cases hv
            have hx64 := hG.out.w _ (List.getElem_mem hkl)
            have hgk := get_at hG.out.asc hkl
            obtain ⟨y, hy⟩ : ∃ y, L[k] = y := ⟨_, rfl⟩
            rw [hy] at e0 e1 e2 hx64 hgk
            obtain ⟨y1, y2, y3⟩ := y
            simp only at e0 e1 e2 hx64 hgk
            have hg2 := (hgo.out y1 (by rw [hgk]; rfl)).trans hgk
            have hgw : gW L2 y1 = y2 := by unfold gW; rw [hg2]; rfl
            have hgb : gB L2 y1 = y3 := by unfold gB; rw [hg2]; rfl
            have hgs : (MapL.get y1 L2).isSome = true := by rw [hg2]; rfl
            have htr := t3.out.keeps hkr
            replace hy := Lib.hid hy
            replace hgw := Lib.hid hgw
            replace hgb := Lib.hid hgb
            replace hgs := Lib.hid hgs
            replace hkr := Lib.hid hkr
            replace htr := Lib.hid htr
            clear hrr hgk hg2 hk4
            go_wp2_with fail
            refine (get_c wr bt bm L2 y1 htr.out hx64).mono ?_
            rintro e w5 ⟨rfl, hk5⟩
            rw [hgw.out, hgs.out]
            have e01 := hk5.val e0
            have e11 := hk5.val e1
            have e21 := hk5.val e2
            have hk5r := hkr.out.trans hk5
            have ht5 := htr.out.keeps hk5
            replace hk5r := Lib.hid hk5r
            replace ht5 := Lib.hid ht5
            clear hk5 e0 e1 e2
            go_wp2
            refine Free.wp_region_chain (fun i => i == 18) (fun i => true) (fun _ b => False) (by kernel_rfl) (by kernel_rfl) (by kernel_rfl) ?_
            (repeat (first | (apply Free.cw_pureW rfl rfl; (intro w'; go_simp <;> exact rfl); go_frame) | (apply Free.cw_steadyW rfl rfl rfl; (intro w' hS; have q0 := Free.sx_cell hS e01 (fun _ _ hT => hT); have q1 := Free.sx_cell hS e11 (fun _ _ hT => hT); have q2 := Free.sx_cell hS e21 (fun _ _ hT => hT); go_simp <;> exact rfl); go_frame) | (refine Free.cw_skip rfl ?_; go_frame)))
            refine Free.cw_loudW rfl rfl (fun K hK => ?_)
            go_wp2_with fail
            refine (weak_c _ bt bm L2 y1 (ht5.out.keeps (Keeps.refl [] _).drew) hx64).mono ?_
            rintro e w6 ⟨rfl, rfl⟩
            rw [hgb.out]
            refine hK _ _ rfl (Free.KeepsP.refl _ _) ?_
            clear hK
            (repeat (first | (apply Free.cw_pureW rfl rfl; (intro w'; go_simp <;> exact rfl); go_frame) | (apply Free.cw_steadyW rfl rfl rfl; (intro w' hS; have q0 := Free.sx_cell hS e01 (fun _ _ hT => hT); have q1 := Free.sx_cell hS e11 (fun _ _ hT => hT); have q2 := Free.sx_cell hS e21 (fun _ _ hT => hT); go_simp <;> exact rfl); go_frame) | (refine Free.cw_skip rfl ?_; go_frame)))
            refine Free.cw_nil ?_
            go_wp2
            go_roundw
            case rel => exact ⟨k + 1, rfl, by omega, hk5r.out.drew⟩
            case measure => simp [intOf]; omega
          · have hkK := Lib.hid (show k = K by omega)
            have htr := t3.out.keeps hkr
            have hgw : gW L2 i = x := by unfold gW; rw [hgn.out]; rfl
            have hgb : gB L2 i = b := by unfold gB; rw [hgn.out]; rfl
            have hgs : (MapL.get i L2).isSome = true := by rw [hgn.out]; rfl
            replace hgw := Lib.hid hgw
            replace hgb := Lib.hid hgb
            replace hgs := Lib.hid hgs
            replace hkr := Lib.hid hkr
            replace htr := Lib.hid htr
            clear hk4
            go_wp2_with fail
            refine (get_c wr bt bm L2 i htr.out hnn).mono ?_
            rintro e w5 ⟨rfl, hk5⟩
            rw [hgw.out, hgs.out]
            have ht5 := htr.out.keeps hk5
            replace hk5 := hk3.out.trans (hkr.out.trans hk5)
            replace ht5 := Lib.hid ht5
            replace hk5 := Lib.hid hk5
            clear htr hkr
            go_wp2_with fail
            refine (weak_c w5 bt bm L2 i ht5.out hnn).mono ?_
            rintro e w6 ⟨rfl, rfl⟩
            rw [hgb.out]
            go_wp2
            go_ret
            exact ⟨rfl, hk5.out⟩
end Go.Proofs.Ytmamlipgfkmcjaa
