/- Texts that the laws lean on, in the order in which they build. Package handles: Replace. The walk of the law Replacement. A list of words among a law's arguments, opened. -/
import Derived.Test.YtmamlipgfkmcjaaK7
set_option linter.unusedVariables false
set_option linter.unusedSimpArgs false
namespace Go.Proofs.Ytmamlipgfkmcjaa
open Go.RowKit Go.Maps
attribute [local go_sem] Oper.semAt_some

/-- The table after the words of the first k handles of hs have been turned. -/
structure RepI (b : Bool) (hs : List Int) (ws : List Nat) (L : List Hn) (k : Nat) (Lk : List Hn) : Prop where
  good : Good Lk
  len : Lk.length ≤ L.length + k
  new : ∀ i (hi : i < hs.length) (hw : i < ws.length), i < k → MapL.get hs[i] Lk = some (ws[i], b)
  old : ∀ h, (∀ i (hi : i < hs.length), i < k → hs[i] ≠ h) → MapL.get h Lk = MapL.get h L
theorem RepI.start {b : Bool} {hs : List Int} {ws : List Nat} {L : List Hn} (g : Good L) : RepI b hs ws L 0 L := ⟨g, by omega, fun i _ _ h => by omega, fun _ _ => rfl⟩
theorem RepI.next {b : Bool} {hs : List Int} {ws : List Nat} {L Lk : List Hn} {k : Nat} (r : RepI b hs ws L k Lk) (ha : hs.Pairwise (· < ·)) (hk : k < hs.length) (hkw : k < ws.length) (hw : W64 hs[k]) (hx : ws[k] < 18446744073709551616) :
    RepI b hs ws L (k + 1) (MapL.ins hs[k] (ws[k], b) Lk) := by
  have hlt : ∀ i j (hi : i < hs.length) (hj : j < hs.length), i < j → hs[i] < hs[j] := fun i j hi hj h => List.pairwise_iff_getElem.1 ha i j hi hj h
  refine ⟨r.good.ins hw hx, by have := len_ins hs[k] (ws[k], b) Lk; have := r.len; omega, fun i hi hiw h => ?_, fun h hno => ?_⟩
  · rw [MapL.get_ins]
    by_cases e : i = k
    · subst e; simp
    · have := hlt i k hi hk (by omega)
      rw [if_neg (by omega)]
      exact r.new i hi hiw (by omega)
  · rw [MapL.get_ins, if_neg (fun e => hno k hk (by omega) e.symm)]
    exact r.old h (fun i hi hik => hno i hi (by omega))
theorem RepI.hs {b : Bool} {ws : List Nat} {L Lk : List Hn} (r : RepI b (hsL b L) ws L (hsL b L).length Lk) (hg : Good L) (hl : ws.length = (hsL b L).length) (c : Bool) : hsL c Lk = hsL c L := by
  refine asc_ext (hsL_asc r.good.asc) (hsL_asc hg.asc) (fun h => ?_)
  rw [hsL_mem r.good.asc, hsL_mem hg.asc]
  by_cases e : h ∈ hsL b L
  · obtain ⟨i, hi, rfl⟩ := List.mem_iff_getElem.1 e
    rw [r.new i hi (by omega) hi]
    obtain ⟨p, h1, h2⟩ := (hsL_mem hg.asc _).1 e
    rw [h1]
    obtain ⟨x, d⟩ := p
    have : d = b := by simpa using h2
    subst this
    simp
  · rw [r.old h (fun i hi _ e' => e (by rw [← e']; exact List.getElem_mem hi))]
theorem RepI.ws {b : Bool} {ws : List Nat} {L Lk : List Hn} (r : RepI b (hsL b L) ws L (hsL b L).length Lk) (hg : Good L) (hl : ws.length = (hsL b L).length) : wsL b Lk = ws := by
  rw [← wsL_map r.good.asc, r.hs hg hl]
  refine List.ext_getElem (by simp [hl]) (fun i h1 h2 => ?_)
  rw [List.getElem_map]
  unfold gW
  rw [r.new i (by simpa using h1) h2 (by simpa using h1)]
  rfl
theorem RepI.other {b : Bool} {ws : List Nat} {L Lk : List Hn} (r : RepI b (hsL b L) ws L (hsL b L).length Lk) (hg : Good L) (hl : ws.length = (hsL b L).length) : wsL (!b) Lk = wsL (!b) L := by
  rw [← wsL_map r.good.asc, ← wsL_map hg.asc, r.hs hg hl]
  refine List.map_congr_left fun h hm => ?_
  unfold gW
  rw [r.old h (fun i hi _ e => ?_)]
  have h1 := (hsL_mem (b := b) hg.asc h).1 (by rw [← e]; exact List.getElem_mem hi)
  obtain ⟨p, hp, hb⟩ := h1
  obtain ⟨q, hq, hc⟩ := (hsL_mem hg.asc h).1 hm
  rw [hp] at hq
  cases hq
  obtain ⟨x, d⟩ := p
  have e1 : d = b := by simpa using hb
  have e2 : d = !b := by simpa using hc
  rw [e1] at e2
  cases b <;> cases e2
set_option maxRecDepth 100000 in
set_option maxHeartbeats 4000000 in
theorem replace_c (w : World) (bt bm : Nat) (L : List Hn) (b : Bool) (vw : Value) (ws : List Nat) (t : TM w bt bm L) (hG : Good L) (hL : L.length < 1000000) (hs : shW.R w vw ws) (hu : ∀ x ∈ ws, x < 18446744073709551616) :
    Calls Try.prog 22 #[.pointer (some ⟨bt, 0, none⟩), .bool b, vw] w fun e w' =>
      (ws.length ≠ (hsL b L).length ∧ e = .returned (.int .i64 1) ∧ TM w' bt bm L ∧ Keeps [] w w') ∨
      (ws.length = (hsL b L).length ∧ e = .returned (.int .i64 0) ∧ Keeps [bm] w w' ∧ ∃ L', TM w' bt bm L' ∧ RepI b (hsL b L) ws L (hsL b L).length L') := by
  obtain ⟨a0, c0, rfl, hlc, hcm, _⟩ := hs.form
  have hlen : (hsL b L).length ≤ L.length := hsL_len
  have hww : ∀ h ∈ hsL b L, W64 h := fun h hm => by
    obtain ⟨p, h1, _⟩ := (hsL_mem hG.asc h).1 hm
    exact hG.w _ (MapL.get_mem h1)
  have hasc := hsL_asc (b := b) hG.asc
  obtain ⟨W, hW⟩ : ∃ N, ws.length = N := ⟨_, rfl⟩
  rw [hW] at hlc hs ⊢
  have hMx : W ≤ 9223372036854775807 := by unfold Go.maxLen at hcm; omega
  replace hW := Lib.hid hW
  replace hs := Lib.hid hs
  replace hG := Lib.hid hG
  replace hu := Lib.hid hu
  replace t := Lib.hid t
  go_enter Try.func22, Try.ntmps22
  go_wp2_with fail
  refine (list_c w bt bm L b t.out hG.out.asc hL).mono ?_
  rintro e w1 ⟨vl, rfl, hS, hk1⟩
  obtain ⟨al, cl, rfl, hlc1, hcm1, _⟩ := hS.form
  obtain ⟨l, hl⟩ : ∃ l, hsL b L = l := ⟨_, rfl⟩
  rw [hl] at hS hlen hww hasc hlc1 ⊢
  obtain ⟨N, hN⟩ : ∃ N, l.length = N := ⟨_, rfl⟩
  rw [hN] at hS hlen hlc1 ⊢
  have ht1 := t.out.keeps hk1
  have hs1 := hs.out.keeps hk1
  replace hl := Lib.hid hl
  replace hN := Lib.hid hN
  replace hS := Lib.hid hS
  replace hww := Lib.hid hww
  replace hasc := Lib.hid hasc
  replace hk1 := Lib.hid hk1
  replace ht1 := Lib.hid ht1
  replace hs1 := Lib.hid hs1
  by_cases hne : N = W
  rotate_left
  · have hne' : W ≠ N := fun e => hne e.symm
    have hnd : decide ((N : Int) = (W : Int)) = false := by simp; omega
    go_wp2
    go_ret
    exact .inl ⟨by rw [hl.out, hN.out]; exact hne', rfl, ht1.out, hk1.out⟩
  · subst hne
    go_wp2
    go_loopw [20] (fun iv wr => ∃ (k : Nat) (Lk : List Hn), iv = .int .i64 k ∧ k ≤ N ∧ TM wr bt bm Lk ∧ RepI b l ws L k Lk ∧ Keeps [bm] w1 wr) (fun iv _ => N - (intOf iv).toNat)
    case atStart => exact ⟨0, L, rfl, by omega, ht1.out, RepI.start hG.out, Keeps.refl _ _⟩
    case round =>
      obtain ⟨k, Lk, rfl, hk, htr, hR, hkr⟩ := hrel
      by_cases hlt : k < N
      · have hkl : k < l.length := by rw [hN.out]; exact hlt
        have hkw : k < ws.length := by rw [hW.out]; exact hlt
        have hnb : ∀ b ∈ [bm], ∀ o, w1.cell? ⟨b, o, none⟩ = none := fun b hb o => by simp at hb; subst hb; exact ht1.out.mp.noCells o
        obtain ⟨g3, o3, c3', hv3, e3⟩ := elemI (hS.out.keepN hkr hnb) hkl
        obtain ⟨g4, o4, c4', hv4, e4⟩ := elemW (hs1.out.keepN hkr hnb) hkw
        rw [hN.out] at hv3
        rw [hW.out] at hv4
        cases hv3
        cases hv4
        have hx64 := hww.out _ (List.getElem_mem hkl)
        have hxu := hu.out _ (List.getElem_mem hkw)
        have hR2 := hR.next hasc.out hkl hkw hx64 hxu
        obtain ⟨w2, hput, hm2, hk2⟩ := (htr.keeps (Keeps.refl [] wr).drew).put hx64 (by have := hR.len; unfold maxLen; omega) ws[k] b
        have ht2 := (htr.keeps (Keeps.refl [] wr).drew).turn hk2 hm2
        have hcell := htr.cell
        have hne1 : bt ≠ bm := htr.ne
        have hne2 : g4 ≠ bm := fun e => by have := htr.mp.noCells (o4 + k); rw [← e, e4] at this; cases this
        have hkf := (hkr.trans (Keeps.refl [bm] wr).drew).trans hk2
        obtain ⟨x, hx⟩ : ∃ x, l[k] = x := ⟨_, rfl⟩
        obtain ⟨y, hy⟩ : ∃ y, ws[k] = y := ⟨_, rfl⟩
        rw [hx] at e3 hput hR2 ht2
        rw [hy] at e4 hput hR2 ht2
        replace hx := Lib.hid hx
        replace hy := Lib.hid hy
        replace hR2 := Lib.hid hR2
        replace ht2 := Lib.hid ht2
        replace hk2 := Lib.hid hk2
        replace hkf := Lib.hid hkf
        clear hm2 hR hkr htr hnb
        go_wp2
        refine Free.wp_region_chain (fun i => i == 11) (fun i => true) (fun _ b => b = bm) (by kernel_rfl) (by kernel_rfl) (by kernel_rfl) ?_
        (repeat (first | (apply Free.cw_pure rfl rfl; (intro w'; go_simp <;> exact rfl); go_frame) | (apply Free.cw_steady rfl rfl rfl; (intro w' hS; have q0 := Free.sx_cell hS hcell (fun _ _ hT => hne1 hT); have q1 := Free.sx_cell hS e4 (fun _ _ hT => hne2 hT); go_simp <;> exact rfl); go_frame) | (refine Free.cw_skip rfl ?_; go_frame)))
        refine Free.cw_loud rfl rfl (fun K hK => ?_)
        go_wp2
        refine hK _ _ rfl (Free.KeepsP.of hk2.out (fun b hb => by simpa using hb)) ?_
        clear hK K
        refine Free.cw_nil ?_
        go_wp2
        go_roundw
        case rel => exact ⟨k + 1, _, rfl, by omega, ht2.out, hR2.out, hkf.out⟩
        case measure => simp [intOf]; omega
      · have hkN : k = N := by omega
        subst hkN
        replace hkr := Lib.hid hkr
        replace hR := Lib.hid hR
        replace htr := Lib.hid htr
        go_wp2
        go_ret
        exact .inr ⟨by rw [hl.out, hN.out], rfl, hk1.out.of_nil.trans hkr.out, _, htr.out, by rw [hl.out, hN.out]; exact hR.out⟩
end Go.Proofs.Ytmamlipgfkmcjaa

namespace Go.Proofs.Ytmamlipgfkmcjaa
open Go.RowKit Go.Maps
attribute [local go_sem] Oper.semAt_some

set_option maxRecDepth 100000 in
set_option maxHeartbeats 4000000 in
theorem replacement_c (w : World) (v : Value) (l : List OpV) (b : Bool) (vw : Value) (ws : List Nat) (h0 : shO.R w v l) (hok : ∀ o ∈ l, o.ok) (hs0 : shW.R w vw ws) (hu : ∀ x ∈ ws, x < 18446744073709551616) :
    Calls Try.prog 7 #[v, .bool b, vw] w fun e w' => e = .returned (.bool true) ∧ Keeps [] w w' := by
  obtain ⟨a0, c0, rfl, hlc, hcm, _⟩ := h0.form
  obtain ⟨a1, c1, rfl, hlc1, hcm1, _⟩ := hs0.form
  obtain ⟨M, hM⟩ : ∃ N, l.length = N := ⟨_, rfl⟩
  obtain ⟨W, hW⟩ : ∃ N, ws.length = N := ⟨_, rfl⟩
  rw [hM] at hlc h0 ⊢
  rw [hW] at hlc1 hs0 ⊢
  have hMx : M ≤ 9223372036854775807 := by unfold Go.maxLen at hcm; omega
  have hWx : W ≤ 9223372036854775807 := by unfold Go.maxLen at hcm1; omega
  replace hM := Lib.hid hM
  replace hW := Lib.hid hW
  replace h0 := Lib.hid h0
  replace hs0 := Lib.hid hs0
  replace hok := Lib.hid hok
  replace hu := Lib.hid hu
  go_enter Try.func7, Try.ntmps7
  go_wp2_with fail
  refine (awake_c w).mono ?_
  rintro e w1 ⟨rfl, hk1⟩
  have h1 := h0.out.keeps hk1
  have hz1 := hk1.size
  replace hk1 := Lib.hid hk1
  replace h1 := Lib.hid h1
  by_cases hbig : 40 < M
  · go_wp2
    go_ret
    exact ⟨rfl, hk1.out⟩
  by_cases hbig2 : 60 < W
  · go_wp2
    go_ret
    exact ⟨rfl, hk1.out⟩
  go_wp2_with fail
  refine (run_c w1 _ l h1.out hok.out (by rw [hM.out]; omega)).mono ?_
  rintro e w2 ⟨bt, bm, v2, L, rfl, hG, hL, hp, t2, hr2, hk2, _, hbm⟩
  rw [hM.out] at hL
  replace hk2 := hk1.out.trans hk2
  replace hk2 := Lib.hid hk2
  replace hG := Lib.hid hG
  replace t2 := Lib.hid t2
  replace hr2 := Lib.hid hr2
  clear hp h1
  go_wp2_with fail
  refine (list_c w2 bt bm L b t2.out hG.out.asc (by omega)).mono ?_
  rintro e w3 ⟨v3, rfl, hS3, hk3⟩
  have t3 := t2.out.keeps hk3
  have hr3 := hr2.out.keeps hk3
  replace hk3 := hk2.out.trans hk3
  replace t3 := Lib.hid t3
  replace hr3 := Lib.hid hr3
  replace hk3 := Lib.hid hk3
  replace hS3 := Lib.hid hS3
  clear t2 hr2 hk2
  go_wp2_with fail
  refine (words_c w3 bt bm L (!b) t3.out hG.out (by omega)).mono ?_
  rintro e w4 ⟨v4, rfl, hS4, hk4⟩
  have t4 := t3.out.keeps hk4
  have hr4 := hr3.out.keeps hk4
  have hS34 := hS3.out.keeps hk4
  replace hk4 := hk3.out.trans hk4
  have hs4 := hs0.out.keeps hk4
  obtain ⟨a3, c3, rfl, hlc3, hcm3, _⟩ := hS34.form
  have hlL : (hsL b L).length ≤ L.length := hsL_len
  obtain ⟨N, hN⟩ : ∃ N, (hsL b L).length = N := ⟨_, rfl⟩
  rw [hN] at hS34 hlc3 hlL ⊢
  replace t4 := Lib.hid t4
  replace hr4 := Lib.hid hr4
  replace hk4 := Lib.hid hk4
  replace hs4 := Lib.hid hs4
  replace hS4 := Lib.hid hS4
  replace hS34 := Lib.hid hS34
  replace hN := Lib.hid hN
  clear t3 hr3 hk3 hS3
  go_wp2_with fail
  refine (replace_c w4 bt bm L b _ ws t4.out hG.out (by omega) hs4.out hu.out).mono ?_
  rintro e w5 (⟨hne, rfl, t5, hk5⟩ | ⟨heq, rfl, hk5, L', t5, hR⟩)
  · rw [hN.out, hW.out] at hne
    have hr5 := hr4.out.keeps hk5
    replace hk5 := hk4.out.trans hk5
    have hnd : decide ((N : Int) = (W : Int)) = false := by simp; omega
    replace t5 := Lib.hid t5
    replace hr5 := Lib.hid hr5
    replace hk5 := Lib.hid hk5
    clear t4 hr4 hk4
    go_wp2_with fail
    refine (tsame_c w5 bt bm L _ t5.out hr5.out hG.out (by omega)).mono ?_
    rintro e w6 ⟨rfl, hk6⟩
    replace hk6 := hk5.out.trans hk6
    replace hk6 := Lib.hid hk6
    go_wp2
    go_ret
    exact ⟨rfl, hk6.out⟩
  · have hnb : ∀ b ∈ [bm], ∀ o, w4.cell? ⟨b, o, none⟩ = none := fun b hb o => by simp at hb; subst hb; exact t4.out.mp.noCells o
    have hS35 := hS34.out.keepN hk5 hnb
    have hS45 := hS4.out.keepN hk5 hnb
    have hs5 := hs4.out.keepN hk5 hnb
    have hG' := hR.good
    have hL' := hR.len
    have e1 := hR.hs hG.out heq b
    have e2 := hR.ws hG.out heq
    have e3 := hR.other hG.out heq
    rw [hN.out] at hL'
    rw [hW.out, hN.out] at heq
    replace hk5 := hk4.out.fresh hk5 (fun b hb => .inr (by simp at hb; omega))
    subst heq
    replace t5 := Lib.hid t5
    replace hS35 := Lib.hid hS35
    replace hS45 := Lib.hid hS45
    replace hs5 := Lib.hid hs5
    replace hk5 := Lib.hid hk5
    replace hG' := Lib.hid hG'
    replace e1 := Lib.hid e1
    replace e2 := Lib.hid e2
    replace e3 := Lib.hid e3
    clear t4 hr4 hk4 hR hnb
    go_wp2_with fail
    refine (words_c w5 bt bm L' b t5.out hG'.out (by omega)).mono ?_
    rintro e w6 ⟨v6, rfl, hS6, hk6⟩
    rw [e2.out] at hS6
    have t6 := t5.out.keeps hk6
    have hs6 := hs5.out.keeps hk6
    have hk06 := hk5.out.trans hk6
    have hS36 := hS35.out.keeps hk6
    have hS46 := hS45.out.keeps hk6
    replace t6 := Lib.hid t6
    replace hs6 := Lib.hid hs6
    replace hS6 := Lib.hid hS6
    replace hk06 := Lib.hid hk06
    replace hS36 := Lib.hid hS36
    replace hS46 := Lib.hid hS46
    clear hk6 t5 hs5 hk5 hS35 hS45
    go_wp2_with fail
    refine (wordsEq_c w6 _ _ ws hS6.out hs6.out).mono ?_
    rintro e w7 ⟨rfl, hk7⟩
    have t7 := t6.out.keeps hk7
    have hk07 := hk06.out.trans hk7
    have hS37 := hS36.out.keeps hk7
    have hS47 := hS46.out.keeps hk7
    replace t7 := Lib.hid t7
    replace hk07 := Lib.hid hk07
    replace hS37 := Lib.hid hS37
    replace hS47 := Lib.hid hS47
    clear hk7 t6 hk06 hS36 hS46 hS6 hs6
    go_wp2_with fail
    refine (words_c w7 bt bm L' (!b) t7.out hG'.out (by omega)).mono ?_
    rintro e w8 ⟨v8, rfl, hS8, hk8⟩
    rw [e3.out] at hS8
    have t8 := t7.out.keeps hk8
    have hk08 := hk07.out.trans hk8
    have hS38 := hS37.out.keeps hk8
    have hS48 := hS47.out.keeps hk8
    replace t8 := Lib.hid t8
    replace hk08 := Lib.hid hk08
    replace hS38 := Lib.hid hS38
    replace hS48 := Lib.hid hS48
    replace hS8 := Lib.hid hS8
    clear hk8 t7 hk07 hS37 hS47
    go_wp2_with fail
    refine (wordsEq_c w8 _ _ (wsL (!b) L) hS8.out hS48.out).mono ?_
    rintro e w9 ⟨rfl, hk9⟩
    have t9 := t8.out.keeps hk9
    have hk09 := hk08.out.trans hk9
    have hS39 := hS38.out.keeps hk9
    replace t9 := Lib.hid t9
    replace hk09 := Lib.hid hk09
    replace hS39 := Lib.hid hS39
    clear hk9 t8 hk08 hS38 hS48 hS8
    go_wp2_with fail
    refine (list_c w9 bt bm L' b t9.out hG'.out.asc (by omega)).mono ?_
    rintro e wa ⟨va, rfl, hSa, hka⟩
    rw [e1.out] at hSa
    have hk0a := hk09.out.trans hka
    have hS3a := hS39.out.keeps hka
    replace hk0a := Lib.hid hk0a
    replace hS3a := Lib.hid hS3a
    replace hSa := Lib.hid hSa
    clear hka t9 hk09 hS39
    go_wp2_with fail
    refine (intsEq_c wa _ _ (hsL b L) hSa.out hS3a.out).mono ?_
    rintro e wb ⟨rfl, hkb⟩
    have hk0b := hk0a.out.trans hkb
    replace hk0b := Lib.hid hk0b
    clear hkb
    go_wp2
    go_ret
    exact ⟨rfl, hk0b.out⟩
end Go.Proofs.Ytmamlipgfkmcjaa

namespace Go.Proofs.Ytmamlipgfkmcjaa
open Go.ChangeShapes Go.WideShapes Go.ChangeAt Go.RowKit

set_option maxRecDepth 100000 in
set_option maxHeartbeats 1000000 in
theorem open_words {H : Type} {enc : TypeId × Value → H} {W : World} {base : Nat} {r : Reach} {v : Value} {d : DataW H} {ps : List MemPlace} (hv : Value.okWide Try.prog W r base 48 v)
    (h : DataW.Trod enc Try.prog W 0 (fun _ => true) true 48 v d ps) : ∃ L, shW.R W v L ∧ ∀ x ∈ L, x < 18446744073709551616 := by
  obtain ⟨a0, n0, c0, rfl⟩ := okWide_slice Try.underlying48 hv
  obtain ⟨L, hL, _⟩ := Gen.SlR.open (R := fun _ cs (x : Nat) => cs = shW.cf x ∧ x < 18446744073709551616) Try.underlying48 (show Try.prog.cellsOf 23 = 1 by kernel_rfl) (by decide) (fun cs hcs => by
    obtain ⟨n, rfl, hw⟩ := Gen.Cs.int Try.underlying23 hcs
    obtain ⟨m, rfl, hm⟩ := u64_nat hw
    exact ⟨m, rfl, hm⟩) (Gen.Cs.of_trod rfl h)
  refine ⟨L, Sh.R.of_slR (fun _ _ h => h.1) hL, fun x hx => ?_⟩
  obtain ⟨cs, _, h2⟩ := hL
  obtain ⟨k, hk, rfl⟩ := List.mem_iff_getElem.1 hx
  exact (h2 k hk).2
end Go.Proofs.Ytmamlipgfkmcjaa
