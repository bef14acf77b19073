/- Texts that the laws lean on, in the order in which they build. The walk of the law Missing. -/
import Derived.Test.YtmamlipgfkmcjaaK5
set_option linter.unusedVariables false
set_option linter.unusedSimpArgs false
namespace Go.Proofs.Ytmamlipgfkmcjaa
open Go.RowKit Go.Maps
attribute [local go_sem] Oper.semAt_some

set_option maxRecDepth 100000 in
set_option maxHeartbeats 4000000 in
theorem missing_c (w : World) (v : Value) (l : List OpV) (h : Int) (x : Nat) (h0 : shO.R w v l) (hok : ∀ o ∈ l, o.ok) (hh : W64 h) (hx : x < 18446744073709551616) :
    Calls Try.prog 5 #[v, .int .i64 h, .int .u64 x] w fun e w' => e = .returned (.bool true) ∧ Keeps [] w w' := by
  obtain ⟨a0, c0, rfl, hlc, hcm, _⟩ := h0.form
  obtain ⟨M, hM⟩ : ∃ N, l.length = N := ⟨_, rfl⟩
  rw [hM] at hlc h0 ⊢
  have hMx : M ≤ 9223372036854775807 := by unfold Go.maxLen at hcm; omega
  replace hM := Lib.hid hM
  replace h0 := Lib.hid h0
  replace hok := Lib.hid hok
  go_enter Try.func5, Try.ntmps5
  go_wp2_with fail
  refine (awake_c w).mono ?_
  rintro e w1 ⟨rfl, hk1⟩
  have h1 := h0.out.keeps hk1
  have hz1 := hk1.size
  replace hk1 := Lib.hid hk1
  replace h1 := Lib.hid h1
  by_cases hbig : 40 < M
  · go_wp2
    go_ret
    exact ⟨rfl, hk1.out⟩
  · go_wp2_with fail
    refine (run_c w1 _ l h1.out hok.out (by rw [hM.out]; omega)).mono ?_
    rintro e w2 ⟨bt, bm, v2, L, rfl, hG, hL, hp, t2, hr2, hk2, _, hbm⟩
    rw [hM.out] at hL
    replace hk2 := hk1.out.trans hk2
    replace hk2 := Lib.hid hk2
    replace hG := Lib.hid hG
    replace t2 := Lib.hid t2
    replace hr2 := Lib.hid hr2
    clear hp
    go_wp2_with fail
    refine (find_c w2 v2 L h hr2.out).mono ?_
    rintro e w3 ⟨i, rfl, hf, hk3⟩
    have hsome := hf.some hG.out.asc
    have t3 := t2.out.keeps hk3
    have hr3 := hr2.out.keeps hk3
    replace hk3 := hk2.out.trans hk3
    replace t3 := Lib.hid t3
    replace hr3 := Lib.hid hr3
    replace hk3 := Lib.hid hk3
    clear hf hk2 t2 hr2
    by_cases hi : 0 ≤ i
    · rw [decide_eq_true hi] at hsome
      have her : errL h L = 0 := by unfold errL; rw [hsome]; rfl
      have hdr : dropL h L = MapL.del h L := by unfold dropL; rw [hsome]; rfl
      have hn : MapL.get h (MapL.del h L) = none := by rw [MapL.get_del, if_pos rfl]
      have hGX := Lib.hid (hG.out.del (h := h))
      have hLX : (MapL.del h L).length < 1000000 := Nat.lt_of_le_of_lt (List.length_filter_le _ L) (by omega)
      replace her := Lib.hid her
      replace hdr := Lib.hid hdr
      replace hsome := Lib.hid hsome
      replace hn := Lib.hid hn
      go_wp2_with fail
      refine (drop_c w3 bt bm L h t3.out hh).mono ?_
      rintro e w4 ⟨rfl, t4, hk4⟩
      rw [her.out]
      rw [hdr.out] at t4
      have hr4 := hr3.out.keepN hk4 (fun b hb o => by simp at hb; subst hb; exact t3.out.mp.noCells o)
      replace hk4 := hk3.out.fresh hk4 (fun b hb => .inr (by simp at hb; omega))
      replace t4 := Lib.hid t4
      replace hr4 := Lib.hid hr4
      replace hk4 := Lib.hid hk4
      clear t3 hr3 hk3
      go_wp2_with fail
      refine (dropR_c w4 v2 L h hr4.out hG.out.asc (by omega)).mono ?_
      rintro e wT ⟨v5, rfl, hrT, hk5⟩
      rw [hdr.out] at hrT
      rw [her.out]
      have tT := t4.out.keeps hk5
      have hkT := hk4.out.trans hk5
      replace tT := Lib.hid tT
      replace hrT := Lib.hid hrT
      replace hkT := Lib.hid hkT
      clear t4 hr4 hk4 hk5
      obtain ⟨LX, hLXe⟩ : ∃ LX, MapL.del h L = LX := ⟨_, rfl⟩
      rw [hLXe] at hn hGX hLX tT hrT
      replace hn := hn.out
      clear hLXe hdr
      have hgw : gW LX h = 0 := by unfold gW; rw [hn]; rfl
      have hgb : gB LX h = false := by unfold gB; rw [hn]; rfl
      have hgs : (MapL.get h LX).isSome = false := by rw [hn]; rfl
      have her : errL h LX = 6 := by unfold errL; rw [hgs]; rfl
      have hse : setL h x LX = LX := by unfold setL; rw [hgs]; rfl
      have hdr : dropL h LX = LX := by unfold dropL; rw [hgs]; rfl
      replace hgw := Lib.hid hgw
      replace hgb := Lib.hid hgb
      replace hgs := Lib.hid hgs
      replace her := Lib.hid her
      replace hse := Lib.hid hse
      replace hdr := Lib.hid hdr
      clear hn
      go_wp2_with fail
      refine (get_c wT bt bm LX h tT.out hh).mono ?_
      rintro e wa ⟨rfl, hka⟩
      rw [hgw.out, hgs.out]
      have ta := tT.out.keeps hka
      have hra := hrT.out.keeps hka
      replace hka := hkT.out.trans hka
      replace ta := Lib.hid ta
      replace hra := Lib.hid hra
      replace hka := Lib.hid hka
      clear tT hrT hkT
      go_wp2_with fail
      refine (weak_c wa bt bm LX h ta.out hh).mono ?_
      rintro e wb ⟨rfl, rfl⟩
      rw [hgb.out]
      go_wp2_with fail
      refine (set_c wa bt bm LX h x ta.out hh hLX).mono ?_
      rintro e wc ⟨rfl, tc, hkc⟩
      rw [her.out]
      rw [hse.out] at tc
      have hrc := hra.out.keepN hkc (fun b hb o => by simp at hb; subst hb; exact ta.out.mp.noCells o)
      replace hkc := hka.out.fresh hkc (fun b hb => .inr (by simp at hb; omega))
      replace tc := Lib.hid tc
      replace hrc := Lib.hid hrc
      replace hkc := Lib.hid hkc
      clear ta hra hka
      go_wp2_with fail
      refine (drop_c wc bt bm LX h tc.out hh).mono ?_
      rintro e wd ⟨rfl, td, hkd⟩
      rw [her.out]
      rw [hdr.out] at td
      have hrd := hrc.out.keepN hkd (fun b hb o => by simp at hb; subst hb; exact tc.out.mp.noCells o)
      replace hkd := hkc.out.fresh hkd (fun b hb => .inr (by simp at hb; omega))
      replace td := Lib.hid td
      replace hrd := Lib.hid hrd
      replace hkd := Lib.hid hkd
      clear tc hrc hkc
      go_wp2_with fail
      refine (tsame_c wd bt bm LX _ td.out hrd.out hGX.out hLX).mono ?_
      rintro e we ⟨rfl, hke⟩
      replace hke := hkd.out.trans hke
      replace hke := Lib.hid hke
      clear hkd td hrd
      go_wp2
      go_ret
      exact ⟨rfl, hke.out⟩
    · rw [decide_eq_false hi] at hsome
      have hn : MapL.get h L = none := by cases hg : MapL.get h L with
        | none => rfl
        | some q => rw [hg] at hsome; cases hsome
      have hi' : i < 0 := by omega
      clear hi hsome
      have hLX : L.length < 1000000 := by omega
      obtain ⟨LX, rfl⟩ : ∃ LX, L = LX := ⟨_, rfl⟩
      have hGX := hG
      obtain ⟨wT, rfl⟩ : ∃ wT, w3 = wT := ⟨_, rfl⟩
      have tT := t3
      have hrT := hr3
      have hkT := hk3
      clear t3 hr3 hk3 hG
      have hgw : gW L h = 0 := by unfold gW; rw [hn]; rfl
      have hgb : gB L h = false := by unfold gB; rw [hn]; rfl
      have hgs : (MapL.get h L).isSome = false := by rw [hn]; rfl
      have her : errL h L = 6 := by unfold errL; rw [hgs]; rfl
      have hse : setL h x L = L := by unfold setL; rw [hgs]; rfl
      have hdr : dropL h L = L := by unfold dropL; rw [hgs]; rfl
      replace hgw := Lib.hid hgw
      replace hgb := Lib.hid hgb
      replace hgs := Lib.hid hgs
      replace her := Lib.hid her
      replace hse := Lib.hid hse
      replace hdr := Lib.hid hdr
      clear hn
      go_wp2_with fail
      refine (get_c w3 bt bm L h tT.out hh).mono ?_
      rintro e wa ⟨rfl, hka⟩
      rw [hgw.out, hgs.out]
      have ta := tT.out.keeps hka
      have hra := hrT.out.keeps hka
      replace hka := hkT.out.trans hka
      replace ta := Lib.hid ta
      replace hra := Lib.hid hra
      replace hka := Lib.hid hka
      clear tT hrT hkT
      go_wp2_with fail
      refine (weak_c wa bt bm L h ta.out hh).mono ?_
      rintro e wb ⟨rfl, rfl⟩
      rw [hgb.out]
      go_wp2_with fail
      refine (set_c wa bt bm L h x ta.out hh hLX).mono ?_
      rintro e wc ⟨rfl, tc, hkc⟩
      rw [her.out]
      rw [hse.out] at tc
      have hrc := hra.out.keepN hkc (fun b hb o => by simp at hb; subst hb; exact ta.out.mp.noCells o)
      replace hkc := hka.out.fresh hkc (fun b hb => .inr (by simp at hb; omega))
      replace tc := Lib.hid tc
      replace hrc := Lib.hid hrc
      replace hkc := Lib.hid hkc
      clear ta hra hka
      go_wp2_with fail
      refine (drop_c wc bt bm L h tc.out hh).mono ?_
      rintro e wd ⟨rfl, td, hkd⟩
      rw [her.out]
      rw [hdr.out] at td
      have hrd := hrc.out.keepN hkd (fun b hb o => by simp at hb; subst hb; exact tc.out.mp.noCells o)
      replace hkd := hkc.out.fresh hkd (fun b hb => .inr (by simp at hb; omega))
      replace td := Lib.hid td
      replace hrd := Lib.hid hrd
      replace hkd := Lib.hid hkd
      clear tc hrc hkc
      go_wp2_with fail
      refine (tsame_c wd bt bm L _ td.out hrd.out hGX.out hLX).mono ?_
      rintro e we ⟨rfl, hke⟩
      replace hke := hkd.out.trans hke
      replace hke := Lib.hid hke
      clear hkd td hrd
      go_wp2
      go_ret
      exact ⟨rfl, hke.out⟩
end Go.Proofs.Ytmamlipgfkmcjaa
