/- Texts that the laws lean on, in the order in which they build. The law's awake. (Printed by mkuow.py.) TracerCalls: the walk. (Printed by mkulc.py.) -/
import Derived.Test.YtpobepninifenaaGreatG14
set_option linter.unusedVariables false
set_option linter.unusedSimpArgs false
namespace Go.Proofs.YtpobepninifenaaGreat
open Go Go.RowKit

def awT1 : Tc := (Tc.new 1).start [(2, 5), (3, 5), (2, 5)]
def awT2 : Tc := awT1.finish (1, 1)
def awT3 : Tc := awT2.start [(2, 5)]
theorem aw5_ids : (Tc.new 1).startIds [(2, 5), (3, 5), (2, 5)] = [(1, 1), (1, 2)] := by decide +kernel
theorem aw5_find : awT1.find (1, 1) ≠ none := by decide +kernel
theorem aw5_ids3 : awT2.startIds [(2, 5)] = [(1, 3)] := by decide +kernel
theorem aw5_s : awT3.s = 3 := by decide +kernel
theorem aw5_m : awT2.m = 1 := by decide +kernel
set_option maxRecDepth 100000 in
set_option maxHeartbeats 10000000 in
theorem awake5_c (w : World) : Calls Tryz.prog 9 #[] w fun e w' => e = .returned (.bool true) ∧ Keeps [] w w' := by
  go_enter Tryz.func9, Tryz.ntmps9
  go_wp2_with fail
  refine (tnew_c w 1).mono ?_
  rintro e w1 ⟨bp, bm, rfl, hT, hk1⟩
  have hX := Sh.R.made shSm w1 [(⟨2, 5, false, 0, (none, 0, 0)⟩ : SmV), (⟨3, 5, false, 0, (none, 0, 0)⟩ : SmV), (⟨2, 5, false, 0, (none, 0, 0)⟩ : SmV)] #[.int .i64 2, .int .u64 5, .bool false, .int .i64 0, .slice none 0 0, .int .i64 3, .int .u64 5, .bool false, .int .i64 0, .slice none 0 0, .int .i64 2, .int .u64 5, .bool false, .int .i64 0, .slice none 0 0] tSm rfl (by decide) 3 rfl
  have hkA := (Keeps.refl [] w1).alloc (.cells #[.int .i64 2, .int .u64 5, .bool false, .int .i64 0, .slice none 0 0, .int .i64 3, .int .u64 5, .bool false, .int .i64 0, .slice none 0 0, .int .i64 2, .int .u64 5, .bool false, .int .i64 0, .slice none 0 0] tSm)
  have hTA := hT.keeps hkA
  have hs := tstart_c (w1.alloc (.cells #[.int .i64 2, .int .u64 5, .bool false, .int .i64 0, .slice none 0 0, .int .i64 3, .int .u64 5, .bool false, .int .i64 0, .slice none 0 0, .int .i64 2, .int .u64 5, .bool false, .int .i64 0, .slice none 0 0] tSm)) w.heap.size bp bm _ [] (Tc.new 1) 0 0 hTA (Tc.Ok.new 1) [(2, 5), (3, 5), (2, 5)] _ ⟨_, hX, rfl⟩ (fun x hx => by simp only [List.mem_cons, List.not_mem_nil, or_false] at hx; rcases hx with rfl | rfl | rfl <;> exact ⟨w64_iff.2 (by decide), by decide⟩) (w64_iff.2 (by decide)) (by decide) (fun _ b hb hm => by
    have h1 := (hT.tag hm).1
    simp [Value.ownBlock] at hb
    omega)
  have ho1 : awT1.Ok 0 3 := Tc.Ok.start [(2, 5), (3, 5), (2, 5)] (Tc.Ok.new 1)
  have hk1A := hk1.trans hkA
  unfold StartPost at hs
  rw [aw5_ids] at hs
  simp only [ptrV] at hs ⊢
  replace hs := Lib.hid hs
  replace hTA := Lib.hid hTA
  replace hk1A := Lib.hid hk1A
  replace ho1 := Lib.hid ho1
  clear hX hkA hT hk1
  go_wp2_with fail
  refine hs.out.mono ?_
  rintro e w2 ⟨v, A2, rfl, hO, hT2, hM2⟩
  have hk2 : Keeps [] w w2 := hk1A.out.fresh hM2.k (fun b hb => .inr (hTA.out.ge hb))
  replace hT2 : TcM w2 w.heap.size bp bm _ A2 awT1 := hT2
  obtain ⟨g, c, rfl, _, _⟩ := hO.form1 (by decide)
  obtain ⟨g0, o0, c0, e1, he⟩ := hO.r.elem (k := 0) (by decide)
  obtain ⟨g1, o1, c1, e2, he'⟩ := hO.r.elem (k := 1) (by decide)
  cases e1
  cases e2
  have f0 := he 0 _ rfl
  have f1 := he 1 _ rfl
  have e0 := he' 0 _ rfl
  have e1 := he' 1 _ rfl
  simp [shId] at f0 f1 e0 e1
  have hgo : g ∉ ownTc bp bm (.slice none 0 0) A2 := fun hm => by
    obtain ⟨cs, hc⟩ := hO.tag g rfl
    exact (hT2.tag hm).not (by decide) cs _ hc
  have hf := fun (W : World) (hk : Keeps [] w2 W) => tfinish_c W w.heap.size bp bm _ A2 awT1 0 3 (hT2.keeps hk) ho1.out (by decide) (by decide) (1, 1) ⟨w64_iff.2 (by decide), w64_iff.2 (by decide)⟩
  have ho2 : awT2.Ok 1 3 := ho1.out.finish (fun t ht => by
    obtain ⟨a, ha, rfl⟩ := List.mem_map.1 (hT2.ac ▸ ht)
    exact (hT2.tr a ha).inv) (1, 1)
  have hOB : ∀ b ∈ ownTc bp bm (.slice none 0 0) A2, w.heap.size ≤ b := fun b hb => hT2.ge hb
  unfold FinPost at hf
  simp only [if_neg aw5_find, ptrV, ipV] at hf
  have hnI := fun W => neId W (1, 2) (1, 2)
  simp only [ne_eq, not_true_eq_false, decide_false, ipV] at hnI
  simp only [List.length_cons, List.length_nil, Nat.zero_add, Nat.reduceAdd]
  replace hf := Lib.hid hf
  replace hgo := Lib.hid hgo
  replace hk2 := Lib.hid hk2
  replace ho2 := Lib.hid ho2
  replace hOB := Lib.hid hOB
  clear hO he he' hM2 hT2 hs hTA hk1A ho1
  go_wp2_with fail
  refine (hf.out _ (Keeps.refl [] w2)).mono ?_
  rintro e w3 ⟨vc3, A3, rfl, hT3, hM3⟩
  have hk3 : Keeps [] w w3 := hk2.out.fresh hM3.k (fun b hb => .inr (hOB.out b hb))
  replace hT3 : TcM w3 w.heap.size bp bm vc3 A3 awT2 := hT3
  replace hT3 := Lib.hid hT3
  replace hk3 := Lib.hid hk3
  clear hM3 hk2 hOB hf f0 f1 e0 e1 hgo
  have hX := Sh.R.made shSm w3 [(⟨2, 5, false, 0, (none, 0, 0)⟩ : SmV)] #[.int .i64 2, .int .u64 5, .bool false, .int .i64 0, .slice none 0 0] tSm rfl (by decide) 1 rfl
  have hkA := (Keeps.refl [] w3).alloc (.cells #[.int .i64 2, .int .u64 5, .bool false, .int .i64 0, .slice none 0 0] tSm)
  have hTA := hT3.out.keeps hkA
  have hs := tstart_c (w3.alloc (.cells #[.int .i64 2, .int .u64 5, .bool false, .int .i64 0, .slice none 0 0] tSm)) w.heap.size bp bm _ A3 awT2 1 3 hTA ho2.out [(2, 5)] _ ⟨_, hX, rfl⟩ (fun x hx => by simp only [List.mem_cons, List.not_mem_nil, or_false] at hx; rcases hx with rfl <;> exact ⟨w64_iff.2 (by decide), by decide⟩) (by rw [aw5_m]; exact w64_iff.2 (by decide)) (by decide) (fun _ b hb hm => by
    have h1 := (hT3.out.tag hm).1
    simp [Value.ownBlock] at hb
    omega)
  have hkA3 := hk3.out.trans hkA
  unfold StartPost at hs
  rw [aw5_ids3] at hs
  simp only [ptrV] at hs
  replace hs := Lib.hid hs
  replace hkA3 := Lib.hid hkA3
  replace hTA := Lib.hid hTA
  clear hX hkA
  go_wp2_with fail
  refine hs.out.mono ?_
  rintro e w4 ⟨v, A4, rfl, hO, hT4, hM4⟩
  have hk4 : Keeps [] w w4 := hkA3.out.fresh hM4.k (fun b hb => .inr (hTA.out.ge hb))
  replace hT4 : TcM w4 w.heap.size bp bm _ A4 awT3 := hT4
  obtain ⟨g, c, rfl, _, _⟩ := hO.form1 (by decide)
  obtain ⟨g0, o0, c0, e1, he⟩ := hO.r.elem (k := 0) (by decide)
  cases e1
  have d0 := he 0 _ rfl
  have d1 := he 1 _ rfl
  simp [shId] at d0 d1
  have hst := fun (W : World) (hk : Keeps [] w4 W) => started_c W w.heap.size bp bm _ A4 awT3 (hT4.keeps hk)
  rw [aw5_s] at hst
  simp only [ptrV] at hst
  have hnI := fun W => eqId W (1, 3) (1, 3)
  simp only [decide_true, ipV] at hnI
  simp only [List.length_cons, List.length_nil, Nat.zero_add]
  replace hst := Lib.hid hst
  replace hk4 := Lib.hid hk4
  clear hO he hM4 hT4 hs hTA hkA3 hT3 hk3 ho2
  go_wp2_with fail
  refine (hst.out _ (Keeps.refl [] w4)).mono ?_
  rintro e w5 ⟨rfl, hw⟩
  subst hw
  clear hst
  go_wp2
  go_ret
  exact ⟨rfl, hk4.out⟩
end Go.Proofs.YtpobepninifenaaGreat

namespace Go.Proofs.YtpobepninifenaaGreat
open Go Go.RowKit

set_option maxRecDepth 100000 in
set_option maxHeartbeats 20000000 in
theorem calls_w (w : World) (m : Int) (vO : Value) (L : List Op5) (hm : W64 m) (hLO : LO5 w vO L) :
    Calls Tryz.prog 3 #[.int .i64 m, vO] w fun e w' => e = .returned (.bool true) ∧ Keeps [] w w' := by
  obtain ⟨ao, co, rfl, hlo, hco, _⟩ := Gen.SlR.form hLO
  have hfew := fun (W : World) (hk : Keeps [] w W) => few_c W _ L 30 (hLO.keeps hk)
  obtain ⟨NL, hNL⟩ : ∃ n, L.length = n := ⟨_, rfl⟩
  rw [hNL] at hlo hfew ⊢
  obtain ⟨fb, hfb⟩ : ∃ b, few5 L 30 = b := ⟨_, rfl⟩
  simp only [hfb] at hfew
  have hNLm : NL ≤ 9223372036854775807 := by unfold Go.maxLen at hco; omega
  obtain ⟨WA, hWA⟩ : ∃ W, w = W := ⟨_, rfl⟩
  have hkA : Keeps [] w WA := by rw [← hWA]; exact Keeps.refl _ _
  replace hkA := Lib.hid hkA
  replace hWA := Lib.hid hWA
  replace hfew := Lib.hid hfew
  replace hNL := Lib.hid hNL
  replace hfb := Lib.hid hfb
  replace hm := Lib.hid hm
  replace hLO := Lib.hid hLO
  clear hlo hco
  go_enter Tryz.func3, Tryz.ntmps3
  go_wp2_with fail
  rw [hWA.out]
  refine (awake5_c WA).mono ?_
  rintro e w1 ⟨rfl, hk1⟩
  have hkw1 := Lib.hid (hkA.out.trans hk1)
  replace hk1 := Lib.hid hk1
  go_wp2_with fail
  refine (hfew.out _ hkw1.out).mono ?_
  rintro e w2 ⟨rfl, hk2⟩
  have hkw2 := Lib.hid (hkw1.out.trans hk2)
  replace hk1 := Lib.hid (hk1.out.trans hk2)
  clear hk2 hkw1
  cases fb with
  | false =>
    go_wp2
    go_ret
    exact ⟨rfl, hkw2.out⟩
  | true =>
    obtain ⟨hfewL, hNLb⟩ := few5_of hfb.out
    rw [hNL.out] at hNLb
    have hNL30 : NL ≤ 30 := by omega
    replace hfewL := Lib.hid hfewL
    clear hNLb hfew hfb
    go_wp2_with fail
    refine (tnew_c w2 m).mono ?_
    rintro e w3 ⟨bp, bm, rfl, hT, hk3⟩
    have hk4 := (Keeps.refl [] w3).alloc (.cells #[.int .i64 m, .int .i64 0, .slice none 0 0, .slice none 0 0] tRc)
    have hbp := heap_alloc_new w3 (.cells #[.int .i64 m, .int .i64 0, .slice none 0 0, .slice none 0 0] tRc)
    have hL : Lp [] w3.heap.size w (w3.alloc (.cells #[.int .i64 m, .int .i64 0, .slice none 0 0, .slice none 0 0] tRc)) w2.heap.size bp bm (.slice none 0 0) [] (rt0 m) (runT5 (L.take 0) (Tc.new m)) 0 (4 * 0) := by
      refine ⟨TB.new (hT.keeps hk4) (fun b hb => ?_), hbp, Tc.Ok.new m, (hkw2.out.trans hk3).trans hk4, hkw2.out.size, hk3.size⟩
      have h3 := lt_of_blk hbp
      simp only [List.mem_cons, List.not_mem_nil, or_false] at hb
      omega
    replace hL := Lib.hid hL
    have hfew := hfewL
    clear hT hk3 hk4 hbp hkw2 hk1 hfewL
    simp only [ptrV]
    go_upto_region 7 with fail
    generalize (w3.alloc (.cells #[.int .i64 m, .int .i64 0, .slice none 0 0, .slice none 0 0] tRc)) = W1 at *
    obtain ⟨p, hp⟩ : ∃ r, w3.heap.size = r := ⟨_, rfl⟩
    rw [hp] at hL ⊢
    obtain ⟨B, hB⟩ : ∃ r, w2.heap.size = r := ⟨_, rfl⟩
    rw [hB] at hL
    clear hp hB
    go_upto_region 10 with fail
    go_loopw [7] (fun iv wr => ∃ (k : Nat) (vc : Value) (A : List AT) (x : RtV), iv = .int .i64 k ∧ k ≤ NL ∧ Hid (Lp [] p w wr B bp bm vc A x (runT5 (L.take k) (Tc.new m)) k (4 * k))) (fun iv _ => NL - (intOf iv).toNat)
    case atStart => exact ⟨0, _, _, _, rfl, by omega, hL⟩
    case round =>
      clear hL
      obtain ⟨k, vc, A, x, rfl, hk, hL⟩ := hrel
      by_cases hlt : k < NL
      · skip
        have hlt2 : (k : Int) < NL := by omega
        have hkL : k < L.length := by rw [hNL.out]; exact hlt
        obtain ⟨g, of, c', s, y, hv, hSm, hIR, hFit, f0, f1, f2, f3, f4, f5, f6, f7, f8, f9, f10, f11, f12, f13⟩ := hLO.out.elem hkL
        rw [hNL.out] at hv
        cases hv
        have hrun := runT5_take L (Tc.new m) k hkL
        have hfk := hfew.out _ (List.getElem_mem hkL)
        have hsS := hSm.lt
        have hsI := hIR.lt
        obtain ⟨⟨ok, oi, on, oS, oa, ⟨id0, id1⟩⟩, ho⟩ : ∃ o, L[k] = o := ⟨_, rfl⟩
        rw [ho] at hSm hIR hFit f0 f1 f2 f12 f13 hrun hfk hsS hsI
        simp only at f0 f1 f2 f12 f13
        have hbw := hL.out.b0.1
        have hst := fun (W : World) (hk' : Keeps [] wr W) => step5_c _ W B bp bm vc A x _ k (4 * k) (hL.out.call hk') hL.out.ok (by omega) (by omega) (by rw [runT5_m]; exact hm.out) ⟨ok, oi, on, oS, oa, (id0, id1)⟩ s y (hSm.keeps (hL.out.ks.trans hk')) (hIR.keep (hL.out.ks.trans hk') (by simp)) hFit hfk.1 hfk.2 (fun hne b hb => Nat.lt_of_lt_of_le (hsS hne b hb) hbw) (fun b hne hb => Nat.lt_of_lt_of_le (hsI hne b hb) hbw)
        obtain ⟨y0, y1, y2, y3, y4, y5, y6, y7, y8, y9⟩ := y
        obtain ⟨s0, s1, s2⟩ := s
        have hkw := hL.out.ks
        replace f0 := hkw.val f0
        replace f1 := hkw.val f1
        replace f2 := hkw.val f2
        replace f3 := hkw.val f3
        replace f4 := hkw.val f4
        replace f5 := hkw.val f5
        replace f6 := hkw.val f6
        replace f7 := hkw.val f7
        replace f8 := hkw.val f8
        replace f9 := hkw.val f9
        replace f10 := hkw.val f10
        replace f11 := hkw.val f11
        replace f12 := hkw.val f12
        replace f13 := hkw.val f13
        obtain ⟨x0, x1, ⟨x2, x3, x4⟩, ⟨x5, x6, x7⟩⟩ := x
        have hbp := hL.out.bk
        simp only [slv] at hbp f3
        simp only [AnV.v] at f4 f5 f6 f7 f8 f9 f10 f11
        obtain ⟨T, hT⟩ : ∃ T, runT5 (L.take k) (Tc.new m) = T := ⟨_, rfl⟩
        rw [hT] at hL hst hrun
        simp only [rtV, slv, ptrV, opV5, AnV.v] at hst
        obtain ⟨e0, e1, e2, e3, ef, el⟩ := cl4 hbp
        replace hbp := Lib.hid hbp
        replace hst := Lib.hid hst
        replace hrun := Lib.hid hrun
        replace ho := Lib.hid ho
        replace hT := Lib.hid hT
        replace hfk := Lib.hid hfk
        clear hSm hIR hFit hsS hsI hbw hkw
        go_upto_region 12 with fail
        go_cut [8, 9] from 21 to 45 (fun sq sok wx => ∃ (u0 u1 : Int) (u2 : Option Addr) (u3 u4 : Nat) (u5 : Option Addr) (u6 u7 : Nat) (vc' : Value) (A' : List AT) (q : Nat), sq = .pointer (some ⟨q, 0, none⟩) ∧ sok = .bool true ∧ Hid (TB (q :: p :: []) wx B bp bm vc' A' ⟨u0, u1, (u2, u3, u4), (u5, u6, u7)⟩ (Op5.step ⟨ok, oi, on, oS, oa, (id0, id1)⟩ T)) ∧ Hid (Mv (ownTc bp bm vc A) (ownTc bp bm vc' A') wr wx) ∧ Hid (wx.heap[q]? = some (.cells #[.int .i64 u0, .int .i64 u1, .slice u2 u3 u4, .slice u5 u6 u7] tRc (0, 0))))
        case first =>
          have hown : ∀ b ∈ ownTc bp bm vc A, b < wr.heap.size := fun b hb => hL.out.tb.own b (List.mem_append_right _ hb)
          replace hown := Lib.hid hown
          have hgl := lt_of_cell f0
          go_region_with (go_at_call 12; refine (hst.out _ ?hkW).mono ?_; (case hkW => first | exact Keeps.refl [] _ | exact (Keeps.refl [] _).drew | exact ((Keeps.refl [] _).alloc _).drew | exact (Keeps.refl [] _).alloc _); rintro e w5 ⟨⟨u0, u1, ⟨u2, u3, u4⟩, ⟨u5, u6, u7⟩⟩, vc', A', rfl, hTB, hM⟩; simp only [rtV, slv]; first | (have hq5 := (hM.k.block wr.heap.size (lt_of_blk (heap_alloc_new wr (.cells #[.int .i64 0, .int .i64 0, .slice none 0 0, .slice none 0 0] tRc))) (fun hm => Nat.lt_irrefl _ (hown.out _ hm))).trans (heap_alloc_new wr (.cells #[.int .i64 0, .int .i64 0, .slice none 0 0, .slice none 0 0] tRc)); obtain ⟨v0, v1, v2, v3, vf, vl⟩ := cl4 hq5) | skip)
          all_goals (go_wp2_with fail)
          all_goals go_meet
          all_goals first
            | (have hq := heap_alloc_new w5 (.cells #[.int .i64 u0, .int .i64 u1, .slice u2 u3 u4, .slice u5 u6 u7] tRc)
               obtain ⟨a, b⟩ := Lp.callA (q := w5.heap.size) (Keeps.refl [] wr).drew hTB hM ((Keeps.refl [] w5).alloc (.cells #[.int .i64 u0, .int .i64 u1, .slice u2 u3 u4, .slice u5 u6 u7] tRc)) ⟨Nat.le_refl _, lt_of_blk hq⟩
               exact ⟨u0, u1, u2, u3, u4, u5, u6, u7, vc', A', w5.heap.size, rfl, rfl, Lib.hid a, Lib.hid b, Lib.hid hq⟩)
            | (obtain ⟨s1, s2⟩ := sc4 (.int .i64 u0) (.int .i64 u1) (.slice u2 u3 u4) (.slice u5 u6 u7) hq5
               obtain ⟨a, b⟩ := Lp.callB (q := wr.heap.size) ((Keeps.refl [] wr).alloc (.cells #[.int .i64 0, .int .i64 0, .slice none 0 0, .slice none 0 0] tRc)).drew (Nat.le_refl _) (lt_of_blk (heap_alloc_new wr (.cells #[.int .i64 0, .int .i64 0, .slice none 0 0, .slice none 0 0] tRc))) hTB hM hq5 s2
               exact ⟨u0, u1, u2, u3, u4, u5, u6, u7, vc', A', wr.heap.size, rfl, rfl, Lib.hid a, Lib.hid b, Lib.hid s1⟩)
        case rest =>
          obtain ⟨u0, u1, u2, u3, u4, u5, u6, u7, vc', A', q, rfl, rfl, hT5, hM5, hbq⟩ := hcut
          have hbp5 := (hM5.out.k.block _ el (hL.out.tb.notOwn hbp.out)).trans hbp.out

          clear f0 f1 f2 f3 f4 f5 f6 f7 f8 f9 f10 f11 f12 f13 e0 e1 e2 e3 ef hst
          obtain ⟨m0, m1, m2, m3, mf, ml⟩ := cl4 hbq.out
          obtain ⟨e0, e1, e2, e3, ef, el5⟩ := cl4 hbp5
          have g12 := sc4 (.int .i64 u0) (.int .i64 u1) (.slice u2 u3 u4) (.slice u5 u6 u7) hbp5
          obtain ⟨g1, g2⟩ := g12
          have hL5 := hL.out.next hM5.out hT5.out hfk.out.1 hfk.out.2 g2 g1
          rw [← hrun.out] at hL5

          replace hL5 := Lib.hid hL5
          clear g1 g2 hT5 hM5 hL hbp5 hfk
          go_upto_region 14 with fail
          generalize ((((wc.setCell ⟨p, 0, none⟩ (.int .i64 u0)).setCell ⟨p, 1, none⟩ (.int .i64 u1)).setCell ⟨p, 2, none⟩ (.slice u2 u3 u4)).setCell ⟨p, 3, none⟩ (.slice u5 u6 u7)) = W5 at *
          clear m0 m1 m2 m3 mf ml e0 e1 e2 e3 ef el5 hbq
          have hmT : W64 (runT5 (L.take (k + 1)) (Tc.new m)).m := by rw [runT5_m]; exact hm.out
          have hsm := same5_c [p] W5 B bp bm vc' A' _ _ (k + 1) (4 * (k + 1)) hL5.out.tb hL5.out.ok (by omega) (by omega) hmT
          have hbp6 := hL5.out.bk
          simp only [rtV, slv, ptrV] at hsm hbp6
          obtain ⟨e0, e1, e2, e3, ef, el⟩ := cl4 hbp6
          replace hsm := Lib.hid hsm
          clear hbp6 hmT
          go_wp2_with fail
          refine hsm.out.mono ?_
          rintro e w6 ⟨rfl, hk6⟩
          have hL6 := Lib.hid (hL5.out.keeps hk6)
          clear hL5 hsm hk6 e0 e1 e2 e3 ef el
          go_wp2
          go_roundw
          case rel =>
            exact ⟨k + 1, vc', A', _, rfl, by omega, hL6⟩
          case measure => simp [intOf]; omega
      · have hlt2 : ¬ ((k : Int) < NL) := by omega
        have hkf := hL.out.ks
        clear hL
        replace hkf := Lib.hid hkf
        go_wp2
        go_ret
        exact ⟨rfl, hkf.out⟩
end Go.Proofs.YtpobepninifenaaGreat
