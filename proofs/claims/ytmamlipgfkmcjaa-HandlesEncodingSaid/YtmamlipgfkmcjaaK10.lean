/- Texts that the laws lean on, in the order in which they build. The walk of the law Decoding. Bytes among a law's arguments, opened. -/
import Derived.Test.YtmamlipgfkmcjaaK9
set_option linter.unusedVariables false
set_option linter.unusedSimpArgs false
namespace Go.Proofs.Ytmamlipgfkmcjaa
open Go.RowKit Go.Maps
attribute [local go_sem] Oper.semAt_some

set_option maxRecDepth 100000 in
set_option maxHeartbeats 4000000 in
theorem decoding_c (w : World) (v : Value) (l : List UInt8) (h0 : SlB w v l) :
    Calls Try.prog 8 #[v] w fun e w' => e = .returned (.bool true) ∧ Keeps [] w w' := by
  obtain ⟨a0, c0, rfl⟩ := h0.form
  have hcm := h0.cap
  obtain ⟨M, hM⟩ : ∃ N, l.length = N := ⟨_, rfl⟩
  rw [hM] at hcm h0 ⊢
  have hMx : M ≤ 9223372036854775807 := by unfold Go.maxLen at hcm; omega
  replace hM := Lib.hid hM
  replace h0 := Lib.hid h0
  go_enter Try.func8, Try.ntmps8
  go_wp2_with fail
  refine (awake_c w).mono ?_
  rintro e w1 ⟨rfl, hk1⟩
  have h1 := h0.out.keeps hk1
  replace hk1 := Lib.hid hk1
  replace h1 := Lib.hid h1
  by_cases hbig : 2000 < M
  · go_wp2
    go_ret
    exact ⟨rfl, hk1.out⟩
  · go_wp2_with fail
    refine (decode_c w1 _ l h1.out (by rw [hM.out]; omega)).mono ?_
    rintro e w2 (⟨hd, bt, bm, rfl, t2, hG, hp, hL, hk2, _, _⟩ | ⟨hd, rfl, hk2⟩)
    · have h2 := h1.out.keeps hk2
      replace hk2 := hk1.out.trans hk2
      have hdd : wdec l = (0, (wdec l).2) := Prod.ext hd rfl
      obtain ⟨L, hLe⟩ : ∃ L, (wdec l).2 = L := ⟨_, rfl⟩
      rw [hLe] at hdd t2 hG hp hL
      have hrd : rdec l = (0, L) := by rw [← wdec_eq]; exact hdd
      replace hdd := Lib.hid hdd
      replace hrd := Lib.hid hrd
      replace h2 := Lib.hid h2
      replace hk2 := Lib.hid hk2
      replace t2 := Lib.hid t2
      replace hG := Lib.hid hG
      replace hp := Lib.hid hp
      clear hd hLe
      go_wp2_with fail
      refine (decodeR_c w2 _ l h2.out).mono ?_
      rintro e w3 hpost
      rw [hrd.out] at hpost
      rcases hpost with ⟨_, v3, rfl, hr3, hk3⟩ | ⟨hbad, _⟩
      · have t3 := t2.out.keeps hk3
        have h3 := h2.out.keeps hk3
        replace hk3 := hk2.out.trans hk3
        obtain ⟨a3, c3, rfl, hlc3, hcm3, _⟩ := hr3.form
        obtain ⟨K, hK⟩ : ∃ K, L.length = K := ⟨_, rfl⟩
        simp only [hK] at hr3 hlc3 hL ⊢
        replace hK := Lib.hid hK
        replace t3 := Lib.hid t3
        replace h3 := Lib.hid h3
        replace hr3 := Lib.hid hr3
        replace hk3 := Lib.hid hk3
        clear t2 h2 hk2
        go_wp2_with fail
        refine (tsame_c w3 bt bm L _ t3.out hr3.out hG.out (by rw [hK.out]; omega)).mono ?_
        rintro e w4 ⟨rfl, hk4⟩
        have t4 := t3.out.keeps hk4
        have h4 := h3.out.keeps hk4
        replace hk4 := hk3.out.trans hk4
        replace t4 := Lib.hid t4
        replace h4 := Lib.hid h4
        replace hk4 := Lib.hid hk4
        clear t3 h3 hk3 hr3
        go_wp2_with fail
        refine (encode_c w4 bt bm L t4.out hG.out hp.out (by rw [hK.out]; omega)).mono ?_
        rintro e w5 ⟨v5, rfl, hB5, hk5⟩
        have hs5 := hB5.slB
        rw [dec_enc hdd.out] at hs5
        have h5 := h4.out.keeps hk5
        replace hk5 := hk4.out.trans hk5
        replace hs5 := Lib.hid hs5
        replace h5 := Lib.hid h5
        replace hk5 := Lib.hid hk5
        clear t4 h4 hk4 hB5
        go_wp2_with fail
        refine (same_c w5 _ _ l l hs5.out h5.out).mono ?_
        rintro e w6 ⟨rfl, rfl⟩
        rw [show decide (l = l) = true by simp]
        go_wp2
        go_ret
        exact ⟨rfl, hk5.out⟩
      · exact absurd rfl hbad
    · have h2 := h1.out.keeps hk2
      replace hk2 := hk1.out.trans hk2
      obtain ⟨E, hE⟩ : ∃ E, (wdec l).1 = E := ⟨_, rfl⟩
      have hrd : (rdec l).1 = E := by rw [← wdec_eq]; exact hE
      rw [hE] at hd ⊢
      have hEb : (E == 0) = false := by simp [hd]
      replace hrd := Lib.hid hrd
      replace h2 := Lib.hid h2
      replace hk2 := Lib.hid hk2
      replace hd := Lib.hid hd
      clear hE
      go_wp2_with fail
      refine (decodeR_c w2 _ l h2.out).mono ?_
      rintro e w3 (⟨hgood, _⟩ | ⟨_, rfl, hk3⟩)
      · rw [hrd.out] at hgood; exact absurd hgood hd.out
      · rw [hrd.out]
        replace hk3 := hk2.out.trans hk3
        replace hk3 := Lib.hid hk3
        clear hk2 h2
        go_wp2
        go_ret
        exact ⟨rfl, hk3.out⟩
end Go.Proofs.Ytmamlipgfkmcjaa

namespace Go.Proofs.Ytmamlipgfkmcjaa
open Go.ChangeShapes Go.WideShapes Go.ChangeAt Go.RowKit

def shB : Sh UInt8 := ⟨1, fun x => [.int .u8 x.toNat], fun _ => rfl, by decide, fun x u hu => by simp at hu; rw [hu]; rfl⟩
theorem shB_cs : ∀ l : List UInt8, shB.cs l = bys l
  | [] => rfl
  | x :: t => by
    show shB.cf x ++ shB.cs t = _
    rw [shB_cs t]; rfl
set_option maxRecDepth 100000 in
set_option maxHeartbeats 1000000 in
theorem open_bytes {H : Type} {enc : TypeId × Value → H} {W : World} {base : Nat} {r : Reach} {v : Value} {d : DataW H} {ps : List MemPlace} (hv : Value.okWide Try.prog W r base 54 v)
    (h : DataW.Trod enc Try.prog W 0 (fun _ => true) true 54 v d ps) : ∃ l : List UInt8, SlB W v l := by
  obtain ⟨a0, n0, c0, rfl⟩ := okWide_slice Try.underlying54 hv
  obtain ⟨L, hL, _⟩ := Gen.SlR.open (R := fun _ cs (x : UInt8) => cs = shB.cf x) Try.underlying54 (show Try.prog.cellsOf 5 = 1 by kernel_rfl) (by decide) (fun cs hcs => by
    obtain ⟨n, rfl, hw⟩ := Gen.Cs.int Try.underlying5 hcs
    have hb : 0 ≤ n ∧ n ≤ 255 := by simpa [Lit.wf, IntKind.min, IntKind.max, IntKind.signed, IntKind.bits] using hw
    refine ⟨UInt8.ofNat n.toNat, ?_⟩
    show [Value.int .u8 n] = [.int .u8 ((UInt8.ofNat n.toNat).toNat : Int)]
    congr 2
    simp; omega) (Gen.Cs.of_trod rfl h)
  refine ⟨L, ?_⟩
  have := Sh.R.of_slR (s := shB) (fun _ _ h => h) hL
  unfold Sh.R at this
  rw [shB_cs] at this
  exact this
end Go.Proofs.Ytmamlipgfkmcjaa
