/- Texts that the laws lean on, in the order in which they build. The law's run. (Printed by mkuog.py.) The law's awake. (Printed by mkuow.py.) Chapter 35's laws: plain part. TracerCertificates: plain part, and certificates that are kept. TracerCertificates: the walk. (Printed by mkulk.py.) -/
import Derived.Test.YtpobepninifenaaGreatH14
set_option linter.unusedVariables false
set_option linter.unusedSimpArgs false
namespace Go.Proofs.YtpobepninifenaaGreat
open Go Go.RowKit

theorem results_rt3 {fn : Func} {a p u : Tmp} (h : fn.results = #[.tmp a, .cell p tRc, .tmp u]) (tmps : Array Value) (w : World) (g : Nat) (t : TypeId) (x0 x1 x2 x3 : Value) (f : Nat × Nat) (hp : tmps.getD p undef = .pointer (some ⟨g, 0, none⟩))
    (hg : w.heap[g]? = some (.cells #[x0, x1, x2, x3] t f)) : (results fn tmps).run Tryz.prog w = .ok (.tuple #[tmps.getD a undef, .agg #[x0, x1, x2, x3], tmps.getD u undef]) w := by
  have hp' : tmps[p]?.getD undef = .pointer (some ⟨g, 0, none⟩) := by simpa using hp
  simp [results, h, hp', asAddr, load_rt w g t x0 x1 x2 x3 f hg]
set_option maxRecDepth 100000 in
set_option maxHeartbeats 20000000 in
theorem run5_c (w : World) (m : Int) (vO : Value) (L : List Op5) (hm : W64 m) (hLO : LO5 w vO L) (hfew : ∀ o ∈ L, o.S.length ≤ 4 ∧ o.a.ins.length ≤ 4) (hlen : L.length ≤ 30) :
    Calls Tryz.prog 14 #[.int .i64 m, vO] w fun e w' => ∃ B bp bm vc A x, e = .returned (.tuple #[ptrV bp, rtV x, .bool true]) ∧ TB [] w' B bp bm vc A x (runT5 L (Tc.new m)) ∧ (runT5 L (Tc.new m)).Ok L.length (4 * L.length) ∧ Keeps [] w w' ∧ w.heap.size ≤ B := by
  obtain ⟨ao, co, rfl, hlo, hco, _⟩ := Gen.SlR.form hLO
  obtain ⟨NL, hNL⟩ : ∃ n, L.length = n := ⟨_, rfl⟩
  rw [hNL] at hlo hlen ⊢
  have hNm : NL ≤ 9223372036854775807 := by omega
  obtain ⟨W0, hW0⟩ : ∃ W, (w.alloc (.cells #[.int .i64 0, .int .i64 0, .slice none 0 0, .slice none 0 0] tRc)) = W := ⟨_, rfl⟩
  have hbR := heap_alloc_new w (.cells #[.int .i64 0, .int .i64 0, .slice none 0 0, .slice none 0 0] tRc)
  have hk0 : Keeps [] w (w.alloc (.cells #[.int .i64 0, .int .i64 0, .slice none 0 0, .slice none 0 0] tRc)) := (Keeps.refl _ _).alloc _
  rw [hW0] at hbR hk0
  obtain ⟨R, hR⟩ : ∃ r, w.heap.size = r := ⟨_, rfl⟩
  rw [hR] at hbR
  replace hbR := Lib.hid hbR
  replace hk0 := Lib.hid hk0
  replace hW0 := Lib.hid hW0
  replace hLO := Lib.hid hLO
  replace hfew := Lib.hid hfew
  replace hNL := Lib.hid hNL
  replace hm := Lib.hid hm
  simp only [ptrV]
  go_enter Tryz.func14, Tryz.ntmps14
  go_wp2_with fail
  rw [hW0.out]
  try rw [hR]
  replace hR := Lib.hid hR
  refine (tnew_c W0 m).mono ?_
  rintro e w1 ⟨bp, bm, rfl, hT, hk1⟩
  simp only [ptrV]
  have hk2 := (Keeps.refl [] w1).alloc (.cells #[.int .i64 m, .int .i64 0, .slice none 0 0, .slice none 0 0] tRc)
  have hbp := heap_alloc_new w1 (.cells #[.int .i64 m, .int .i64 0, .slice none 0 0, .slice none 0 0] tRc)
  have hL : Lp [R] w1.heap.size w (w1.alloc (.cells #[.int .i64 m, .int .i64 0, .slice none 0 0, .slice none 0 0] tRc)) W0.heap.size bp bm (.slice none 0 0) [] (rt0 m) (runT5 (L.take 0) (Tc.new m)) 0 (4 * 0) := by
    refine ⟨TB.new (hT.keeps hk2) (fun b hb => ?_), hbp, Tc.Ok.new m, (hk0.out.trans hk1).trans hk2, hk0.out.size, hk1.size⟩
    have h1 := lt_of_blk hbR.out
    have h2 := hk1.size
    have h3 := lt_of_blk hbp
    simp only [List.mem_cons, List.not_mem_nil, or_false] at hb
    rcases hb with rfl | rfl <;> omega
  have hbR0 := Lib.hid hbR.out
  have hbR2 := Lib.hid (((hk1.trans hk2).block _ (lt_of_blk hbR.out) (by simp)).trans hbR.out)
  replace hL := Lib.hid hL
  clear hbR hk0 hT hk1 hk2 hbp
  go_upto_region 3 with fail
  generalize (w1.alloc (.cells #[.int .i64 m, .int .i64 0, .slice none 0 0, .slice none 0 0] tRc)) = W1 at *
  obtain ⟨p, hp⟩ : ∃ r, w1.heap.size = r := ⟨_, rfl⟩
  rw [hp] at hL ⊢
  obtain ⟨B, hB⟩ : ∃ r, W0.heap.size = r := ⟨_, rfl⟩
  rw [hB] at hL
  have hRB : R < B := by have := lt_of_blk hbR0.out; omega
  replace hRB := Lib.hid hRB
  clear hp hB hbR0
  go_wp2
  go_loopw [9] (fun iv wr => ∃ (k : Nat) (vc : Value) (A : List AT) (x : RtV), iv = .int .i64 k ∧ k ≤ NL ∧ Hid (Lp [R] p w wr B bp bm vc A x (runT5 (L.take k) (Tc.new m)) k (4 * k)) ∧ Hid (wr.heap[R]? = some (.cells #[.int .i64 0, .int .i64 0, .slice none 0 0, .slice none 0 0] tRc))) (fun iv _ => NL - (intOf iv).toNat)
  case atStart => exact ⟨0, _, _, _, rfl, by omega, hL, hbR2⟩
  case round =>
    clear hL hbR2
    obtain ⟨k, vc, A, x, rfl, hk, hL, hbR⟩ := hrel
    by_cases hlt : k < NL
    · skip
      have hlt2 : (k : Int) < NL := by omega
      have hkL : k < L.length := by rw [hNL.out]; exact hlt
      obtain ⟨g, of, c', s, y, hv, hSm, hIR, hFit, f0, f1, f2, f3, f4, f5, f6, f7, f8, f9, f10, f11, f12, f13⟩ := hLO.out.elem hkL
      rw [hNL.out] at hv
      cases hv
      have hrun := runT5_take L (Tc.new m) k hkL
      have hfk := hfew.out _ (List.getElem_mem hkL)
      have hsS := hSm.lt
      have hsI := hIR.lt
      obtain ⟨⟨ok, oi, on, oS, oa, ⟨id0, id1⟩⟩, ho⟩ : ∃ o, L[k] = o := ⟨_, rfl⟩
      rw [ho] at hSm hIR hFit f0 f1 f2 f12 f13 hrun hfk hsS hsI
      simp only at f0 f1 f2 f12 f13
      have hbw := hL.out.b0.1
      have hst := fun (W : World) (hk' : Keeps [] wr W) => step5_c _ W B bp bm vc A x _ k (4 * k) (hL.out.call hk') hL.out.ok (by omega) (by omega) (by rw [runT5_m]; exact hm.out) ⟨ok, oi, on, oS, oa, (id0, id1)⟩ s y (hSm.keeps (hL.out.ks.trans hk')) (hIR.keep (hL.out.ks.trans hk') (by simp)) hFit hfk.1 hfk.2 (fun hne b hb => Nat.lt_of_lt_of_le (hsS hne b hb) hbw) (fun b hne hb => Nat.lt_of_lt_of_le (hsI hne b hb) hbw)
      obtain ⟨y0, y1, y2, y3, y4, y5, y6, y7, y8, y9⟩ := y
      obtain ⟨s0, s1, s2⟩ := s
      have hkw := hL.out.ks
      replace f0 := hkw.val f0
      replace f1 := hkw.val f1
      replace f2 := hkw.val f2
      replace f3 := hkw.val f3
      replace f4 := hkw.val f4
      replace f5 := hkw.val f5
      replace f6 := hkw.val f6
      replace f7 := hkw.val f7
      replace f8 := hkw.val f8
      replace f9 := hkw.val f9
      replace f10 := hkw.val f10
      replace f11 := hkw.val f11
      replace f12 := hkw.val f12
      replace f13 := hkw.val f13
      obtain ⟨x0, x1, ⟨x2, x3, x4⟩, ⟨x5, x6, x7⟩⟩ := x
      have hbp := hL.out.bk
      simp only [slv] at hbp f3
      simp only [AnV.v] at f4 f5 f6 f7 f8 f9 f10 f11
      obtain ⟨T, hT⟩ : ∃ T, runT5 (L.take k) (Tc.new m) = T := ⟨_, rfl⟩
      rw [hT] at hL hst hrun
      simp only [rtV, slv, ptrV, opV5, AnV.v] at hst
      obtain ⟨e0, e1, e2, e3, ef, el⟩ := cl4 hbp
      replace hbp := Lib.hid hbp
      replace hst := Lib.hid hst
      replace hrun := Lib.hid hrun
      replace ho := Lib.hid ho
      replace hT := Lib.hid hT
      replace hfk := Lib.hid hfk
      clear hSm hIR hFit hsS hsI hbw hkw
      go_upto_region 8 with fail
      go_cut [10, 11] from 19 to 39 (fun sq sok wx => ∃ (u0 u1 : Int) (u2 : Option Addr) (u3 u4 : Nat) (u5 : Option Addr) (u6 u7 : Nat) (vc' : Value) (A' : List AT) (q : Nat), sq = .pointer (some ⟨q, 0, none⟩) ∧ sok = .bool true ∧ Hid (TB (q :: p :: [R]) wx B bp bm vc' A' ⟨u0, u1, (u2, u3, u4), (u5, u6, u7)⟩ (Op5.step ⟨ok, oi, on, oS, oa, (id0, id1)⟩ T)) ∧ Hid (Mv (ownTc bp bm vc A) (ownTc bp bm vc' A') wr wx) ∧ Hid (wx.heap[q]? = some (.cells #[.int .i64 u0, .int .i64 u1, .slice u2 u3 u4, .slice u5 u6 u7] tRc (0, 0))))
      case first =>
        have hown : ∀ b ∈ ownTc bp bm vc A, b < wr.heap.size := fun b hb => hL.out.tb.own b (List.mem_append_right _ hb)
        replace hown := Lib.hid hown
        have hgl := lt_of_cell f0
        go_region_with (go_at_call 12; refine (hst.out _ ?hkW).mono ?_; (case hkW => first | exact Keeps.refl [] _ | exact (Keeps.refl [] _).drew | exact ((Keeps.refl [] _).alloc _).drew | exact (Keeps.refl [] _).alloc _); rintro e w5 ⟨⟨u0, u1, ⟨u2, u3, u4⟩, ⟨u5, u6, u7⟩⟩, vc', A', rfl, hTB, hM⟩; simp only [rtV, slv]; first | (have hq5 := (hM.k.block wr.heap.size (lt_of_blk (heap_alloc_new wr (.cells #[.int .i64 0, .int .i64 0, .slice none 0 0, .slice none 0 0] tRc))) (fun hm => Nat.lt_irrefl _ (hown.out _ hm))).trans (heap_alloc_new wr (.cells #[.int .i64 0, .int .i64 0, .slice none 0 0, .slice none 0 0] tRc)); obtain ⟨v0, v1, v2, v3, vf, vl⟩ := cl4 hq5) | skip)
        all_goals (go_wp2_with fail)
        all_goals go_meet
        all_goals first
          | (have hq := heap_alloc_new w5 (.cells #[.int .i64 u0, .int .i64 u1, .slice u2 u3 u4, .slice u5 u6 u7] tRc)
             obtain ⟨a, b⟩ := Lp.callA (q := w5.heap.size) (Keeps.refl [] wr).drew hTB hM ((Keeps.refl [] w5).alloc (.cells #[.int .i64 u0, .int .i64 u1, .slice u2 u3 u4, .slice u5 u6 u7] tRc)) ⟨Nat.le_refl _, lt_of_blk hq⟩
             exact ⟨u0, u1, u2, u3, u4, u5, u6, u7, vc', A', w5.heap.size, rfl, rfl, Lib.hid a, Lib.hid b, Lib.hid hq⟩)
          | (obtain ⟨s1, s2⟩ := sc4 (.int .i64 u0) (.int .i64 u1) (.slice u2 u3 u4) (.slice u5 u6 u7) hq5
             obtain ⟨a, b⟩ := Lp.callB (q := wr.heap.size) ((Keeps.refl [] wr).alloc (.cells #[.int .i64 0, .int .i64 0, .slice none 0 0, .slice none 0 0] tRc)).drew (Nat.le_refl _) (lt_of_blk (heap_alloc_new wr (.cells #[.int .i64 0, .int .i64 0, .slice none 0 0, .slice none 0 0] tRc))) hTB hM hq5 s2
             exact ⟨u0, u1, u2, u3, u4, u5, u6, u7, vc', A', wr.heap.size, rfl, rfl, Lib.hid a, Lib.hid b, Lib.hid s1⟩)
      case rest =>
        obtain ⟨u0, u1, u2, u3, u4, u5, u6, u7, vc', A', q, rfl, rfl, hT5, hM5, hbq⟩ := hcut
        have hbp5 := (hM5.out.k.block _ el (hL.out.tb.notOwn hbp.out)).trans hbp.out
        have hbR5 := (hM5.out.k.block _ (lt_of_blk hbR.out) (hL.out.tb.notOwn hbR.out)).trans hbR.out
        clear f0 f1 f2 f3 f4 f5 f6 f7 f8 f9 f10 f11 f12 f13 e0 e1 e2 e3 ef hst
        obtain ⟨m0, m1, m2, m3, mf, ml⟩ := cl4 hbq.out
        obtain ⟨e0, e1, e2, e3, ef, el5⟩ := cl4 hbp5
        have g12 := sc4 (.int .i64 u0) (.int .i64 u1) (.slice u2 u3 u4) (.slice u5 u6 u7) hbp5
        obtain ⟨g1, g2⟩ := g12
        have hL5 := hL.out.next hM5.out hT5.out hfk.out.1 hfk.out.2 g2 g1
        rw [← hrun.out] at hL5
        have hRp : R ≠ p := by have h1 := hL.out.b0; have h2 := hRB.out; omega
        replace hbR5 := Lib.hid ((g2.block _ (lt_of_blk hbR5) (by simpa using hRp)).trans hbR5)
        clear hRp hbR
        replace hL5 := Lib.hid hL5
        clear g1 g2 hT5 hM5 hL hbp5 hfk
        go_upto_region 10 with fail
        generalize ((((wc.setCell ⟨p, 0, none⟩ (.int .i64 u0)).setCell ⟨p, 1, none⟩ (.int .i64 u1)).setCell ⟨p, 2, none⟩ (.slice u2 u3 u4)).setCell ⟨p, 3, none⟩ (.slice u5 u6 u7)) = W5 at *
        clear m0 m1 m2 m3 mf ml e0 e1 e2 e3 ef el5 hbq
        go_wp2
        go_roundw
        case rel =>
          exact ⟨k + 1, vc', A', _, rfl, by omega, hL5, hbR5⟩
        case measure => simp [intOf]; omega
    · have hlt2 : ¬ ((k : Int) < NL) := by omega
      have hkN : L.take k = L := List.take_of_length_le (by rw [hNL.out]; omega)
      have hkk : k = NL := by omega
      rw [hkN] at hL
      obtain ⟨x0, x1, ⟨x2, x3, x4⟩, ⟨x5, x6, x7⟩⟩ := x
      obtain ⟨T, hT⟩ : ∃ T, runT5 L (Tc.new m) = T := ⟨_, rfl⟩
      have hmT : W64 (runT5 L (Tc.new m)).m := by rw [runT5_m]; exact hm.out
      rw [hT] at hL hmT
      have hsm := fun (W : World) (hk' : Keeps [] wr W) => same5_c [p, R] W B bp bm vc A _ T k (4 * k) (hL.out.tb.keeps hk') hL.out.ok (by omega) (by omega) hmT
      have hpR : ¬ p = R := by have h1 := hL.out.b0; have h2 := hRB.out; omega
      simp only [rtV, slv, ptrV] at hsm
      replace hsm := Lib.hid hsm
      replace hT := Lib.hid hT
      replace hkN := Lib.hid hkN
      clear hmT
      go_upto_region 12 with fail
      have hbpd : wr.drew.heap[p]? = _ := hL.out.bk
      have hbRd : wr.drew.heap[R]? = _ := hbR.out
      have hkd : Keeps [] wr wr.drew := (Keeps.refl [] wr).drew
      simp only [slv] at hbpd
      obtain ⟨e0, e1, e2, e3, ef, el⟩ := cl4 hbpd
      replace hbRd := Lib.hid hbRd
      replace hkd := Lib.hid hkd
      clear hbpd
      refine Free.wp_region_chain (fun i => i == 4 || i == 6) (fun i => true) (fun _ b => b = R) (by kernel_rfl) (by kernel_rfl) (by kernel_rfl) ?_
      generalize wr.drew = wd at *
      (repeat (first | (apply Free.cw_pure rfl rfl; (intro w'; go_simp <;> exact rfl); go_frame) | (apply Free.cw_steady rfl rfl rfl; (intro w' hS; have q0 := Free.sx_cell hS e0 (fun _ _ hT => hpR hT); have q1 := Free.sx_cell hS e1 (fun _ _ hT => hpR hT); have q2 := Free.sx_cell hS e2 (fun _ _ hT => hpR hT); have q3 := Free.sx_cell hS e3 (fun _ _ hT => hpR hT); go_simp <;> exact rfl); go_frame) | (refine Free.cw_skip rfl ?_; go_frame)))
      refine Free.cw_loud rfl rfl (fun K hK => ?_)
      go_wp2_with fail
      refine (hsm.out _ hkd.out).mono ?_
      rintro e w6 ⟨rfl, hk6⟩
      refine hK _ _ rfl (Free.KeepsP.of hk6 (by simp)) ?_
      clear hK K hsm
      have hbR6 := (hk6.block _ (lt_of_blk hbRd.out) (by simp)).trans hbRd.out
      obtain ⟨v0, v1, v2, v3, vf, vl⟩ := cl4 hbR6
      have hk6' := hkd.out.trans hk6
      replace hbR6 := Lib.hid hbR6
      replace hk6' := Lib.hid hk6'
      clear hk6
      (repeat (apply Free.cw_pure rfl rfl; (intro w'; go_simp <;> exact rfl); go_frame))
      refine Free.cw_loud rfl rfl (fun K hK => ?_)
      go_wp2
      obtain ⟨g1, g2⟩ := sc4 (.int .i64 x0) (.int .i64 x1) (.slice x2 x3 x4) (.slice x5 x6 x7) hbR6.out
      refine hK _ _ rfl (Free.KeepsP.of g2 (fun b hb => by simpa using hb)) ?_
      clear hK K
      have hT6 := (((hL.out.tb.keeps hk6'.out).store (q := R) (by simp) hbR6.out g2).sub (Q := []) (Keeps.refl [] _) (fun b hb => by simp at hb))
      have hkf := (hL.out.ks.trans hk6'.out).fresh g2 (fun b hb => by simp only [List.mem_singleton] at hb; subst hb; have := hR.out; exact .inr (by omega))
      replace g1 := Lib.hid g1
      replace hT6 := Lib.hid hT6
      replace hkf := Lib.hid hkf
      clear g2
      (repeat (apply Free.cw_pure rfl rfl; (intro w'; go_simp <;> exact rfl); go_frame))
      refine Free.cw_nil ?_
      go_wp2
      refine bodyPost_ret (results_rt3 rfl _ _ _ _ _ _ _ _ _ rfl g1.out) rfl ?_
      rw [hT.out, ← hkk]
      exact ⟨B, bp, bm, vc, A, ⟨x0, x1, (x2, x3, x4), (x5, x6, x7)⟩, rfl, hT6.out, hL.out.ok, hkf.out, hL.out.b0.1⟩
end Go.Proofs.YtpobepninifenaaGreat

namespace Go.Proofs.YtpobepninifenaaGreat
open Go Go.RowKit

def awT1 : Tc := (Tc.new 1).start [(2, 5), (3, 5), (2, 5)]
def awT2 : Tc := awT1.finish (1, 1)
def awT3 : Tc := awT2.start [(2, 5)]
theorem aw5_ids : (Tc.new 1).startIds [(2, 5), (3, 5), (2, 5)] = [(1, 1), (1, 2)] := by decide +kernel
theorem aw5_find : awT1.find (1, 1) ≠ none := by decide +kernel
theorem aw5_ids3 : awT2.startIds [(2, 5)] = [(1, 3)] := by decide +kernel
theorem aw5_s : awT3.s = 3 := by decide +kernel
theorem aw5_m : awT2.m = 1 := by decide +kernel
set_option maxRecDepth 100000 in
set_option maxHeartbeats 10000000 in
theorem awake5_c (w : World) : Calls Tryz.prog 9 #[] w fun e w' => e = .returned (.bool true) ∧ Keeps [] w w' := by
  go_enter Tryz.func9, Tryz.ntmps9
  go_wp2_with fail
  refine (tnew_c w 1).mono ?_
  rintro e w1 ⟨bp, bm, rfl, hT, hk1⟩
  have hX := Sh.R.made shSm w1 [(⟨2, 5, false, 0, (none, 0, 0)⟩ : SmV), (⟨3, 5, false, 0, (none, 0, 0)⟩ : SmV), (⟨2, 5, false, 0, (none, 0, 0)⟩ : SmV)] #[.int .i64 2, .int .u64 5, .bool false, .int .i64 0, .slice none 0 0, .int .i64 3, .int .u64 5, .bool false, .int .i64 0, .slice none 0 0, .int .i64 2, .int .u64 5, .bool false, .int .i64 0, .slice none 0 0] tSm rfl (by decide) 3 rfl
  have hkA := (Keeps.refl [] w1).alloc (.cells #[.int .i64 2, .int .u64 5, .bool false, .int .i64 0, .slice none 0 0, .int .i64 3, .int .u64 5, .bool false, .int .i64 0, .slice none 0 0, .int .i64 2, .int .u64 5, .bool false, .int .i64 0, .slice none 0 0] tSm)
  have hTA := hT.keeps hkA
  have hs := tstart_c (w1.alloc (.cells #[.int .i64 2, .int .u64 5, .bool false, .int .i64 0, .slice none 0 0, .int .i64 3, .int .u64 5, .bool false, .int .i64 0, .slice none 0 0, .int .i64 2, .int .u64 5, .bool false, .int .i64 0, .slice none 0 0] tSm)) w.heap.size bp bm _ [] (Tc.new 1) 0 0 hTA (Tc.Ok.new 1) [(2, 5), (3, 5), (2, 5)] _ ⟨_, hX, rfl⟩ (fun x hx => by simp only [List.mem_cons, List.not_mem_nil, or_false] at hx; rcases hx with rfl | rfl | rfl <;> exact ⟨w64_iff.2 (by decide), by decide⟩) (w64_iff.2 (by decide)) (by decide) (fun _ b hb hm => by
    have h1 := (hT.tag hm).1
    simp [Value.ownBlock] at hb
    omega)
  have ho1 : awT1.Ok 0 3 := Tc.Ok.start [(2, 5), (3, 5), (2, 5)] (Tc.Ok.new 1)
  have hk1A := hk1.trans hkA
  unfold StartPost at hs
  rw [aw5_ids] at hs
  simp only [ptrV] at hs ⊢
  replace hs := Lib.hid hs
  replace hTA := Lib.hid hTA
  replace hk1A := Lib.hid hk1A
  replace ho1 := Lib.hid ho1
  clear hX hkA hT hk1
  go_wp2_with fail
  refine hs.out.mono ?_
  rintro e w2 ⟨v, A2, rfl, hO, hT2, hM2⟩
  have hk2 : Keeps [] w w2 := hk1A.out.fresh hM2.k (fun b hb => .inr (hTA.out.ge hb))
  replace hT2 : TcM w2 w.heap.size bp bm _ A2 awT1 := hT2
  obtain ⟨g, c, rfl, _, _⟩ := hO.form1 (by decide)
  obtain ⟨g0, o0, c0, e1, he⟩ := hO.r.elem (k := 0) (by decide)
  obtain ⟨g1, o1, c1, e2, he'⟩ := hO.r.elem (k := 1) (by decide)
  cases e1
  cases e2
  have f0 := he 0 _ rfl
  have f1 := he 1 _ rfl
  have e0 := he' 0 _ rfl
  have e1 := he' 1 _ rfl
  simp [shId] at f0 f1 e0 e1
  have hgo : g ∉ ownTc bp bm (.slice none 0 0) A2 := fun hm => by
    obtain ⟨cs, hc⟩ := hO.tag g rfl
    exact (hT2.tag hm).not (by decide) cs _ hc
  have hf := fun (W : World) (hk : Keeps [] w2 W) => tfinish_c W w.heap.size bp bm _ A2 awT1 0 3 (hT2.keeps hk) ho1.out (by decide) (by decide) (1, 1) ⟨w64_iff.2 (by decide), w64_iff.2 (by decide)⟩
  have ho2 : awT2.Ok 1 3 := ho1.out.finish (fun t ht => by
    obtain ⟨a, ha, rfl⟩ := List.mem_map.1 (hT2.ac ▸ ht)
    exact (hT2.tr a ha).inv) (1, 1)
  have hOB : ∀ b ∈ ownTc bp bm (.slice none 0 0) A2, w.heap.size ≤ b := fun b hb => hT2.ge hb
  unfold FinPost at hf
  simp only [if_neg aw5_find, ptrV, ipV] at hf
  have hnI := fun W => neId W (1, 2) (1, 2)
  simp only [ne_eq, not_true_eq_false, decide_false, ipV] at hnI
  simp only [List.length_cons, List.length_nil, Nat.zero_add, Nat.reduceAdd]
  replace hf := Lib.hid hf
  replace hgo := Lib.hid hgo
  replace hk2 := Lib.hid hk2
  replace ho2 := Lib.hid ho2
  replace hOB := Lib.hid hOB
  clear hO he he' hM2 hT2 hs hTA hk1A ho1
  go_wp2_with fail
  refine (hf.out _ (Keeps.refl [] w2)).mono ?_
  rintro e w3 ⟨vc3, A3, rfl, hT3, hM3⟩
  have hk3 : Keeps [] w w3 := hk2.out.fresh hM3.k (fun b hb => .inr (hOB.out b hb))
  replace hT3 : TcM w3 w.heap.size bp bm vc3 A3 awT2 := hT3
  replace hT3 := Lib.hid hT3
  replace hk3 := Lib.hid hk3
  clear hM3 hk2 hOB hf f0 f1 e0 e1 hgo
  have hX := Sh.R.made shSm w3 [(⟨2, 5, false, 0, (none, 0, 0)⟩ : SmV)] #[.int .i64 2, .int .u64 5, .bool false, .int .i64 0, .slice none 0 0] tSm rfl (by decide) 1 rfl
  have hkA := (Keeps.refl [] w3).alloc (.cells #[.int .i64 2, .int .u64 5, .bool false, .int .i64 0, .slice none 0 0] tSm)
  have hTA := hT3.out.keeps hkA
  have hs := tstart_c (w3.alloc (.cells #[.int .i64 2, .int .u64 5, .bool false, .int .i64 0, .slice none 0 0] tSm)) w.heap.size bp bm _ A3 awT2 1 3 hTA ho2.out [(2, 5)] _ ⟨_, hX, rfl⟩ (fun x hx => by simp only [List.mem_cons, List.not_mem_nil, or_false] at hx; rcases hx with rfl <;> exact ⟨w64_iff.2 (by decide), by decide⟩) (by rw [aw5_m]; exact w64_iff.2 (by decide)) (by decide) (fun _ b hb hm => by
    have h1 := (hT3.out.tag hm).1
    simp [Value.ownBlock] at hb
    omega)
  have hkA3 := hk3.out.trans hkA
  unfold StartPost at hs
  rw [aw5_ids3] at hs
  simp only [ptrV] at hs
  replace hs := Lib.hid hs
  replace hkA3 := Lib.hid hkA3
  replace hTA := Lib.hid hTA
  clear hX hkA
  go_wp2_with fail
  refine hs.out.mono ?_
  rintro e w4 ⟨v, A4, rfl, hO, hT4, hM4⟩
  have hk4 : Keeps [] w w4 := hkA3.out.fresh hM4.k (fun b hb => .inr (hTA.out.ge hb))
  replace hT4 : TcM w4 w.heap.size bp bm _ A4 awT3 := hT4
  obtain ⟨g, c, rfl, _, _⟩ := hO.form1 (by decide)
  obtain ⟨g0, o0, c0, e1, he⟩ := hO.r.elem (k := 0) (by decide)
  cases e1
  have d0 := he 0 _ rfl
  have d1 := he 1 _ rfl
  simp [shId] at d0 d1
  have hst := fun (W : World) (hk : Keeps [] w4 W) => started_c W w.heap.size bp bm _ A4 awT3 (hT4.keeps hk)
  rw [aw5_s] at hst
  simp only [ptrV] at hst
  have hnI := fun W => eqId W (1, 3) (1, 3)
  simp only [decide_true, ipV] at hnI
  simp only [List.length_cons, List.length_nil, Nat.zero_add]
  replace hst := Lib.hid hst
  replace hk4 := Lib.hid hk4
  clear hO he hM4 hT4 hs hTA hkA3 hT3 hk3 ho2
  go_wp2_with fail
  refine (hst.out _ (Keeps.refl [] w4)).mono ?_
  rintro e w5 ⟨rfl, hw⟩
  subst hw
  clear hst
  go_wp2
  go_ret
  exact ⟨rfl, hk4.out⟩
end Go.Proofs.YtpobepninifenaaGreat

namespace Go.Proofs.YtpobepninifenaaGreat

theorem Tc.finish_pre (T : Tc) (id : Int × Int) : ∃ D, (T.finish id).cs = T.cs ++ D := by
  unfold Tc.finish
  cases T.find id with
  | none => exact ⟨[], by simp⟩
  | some i =>
    by_cases h : (T.act[i]?.map (·.state)) = some 2
    · exact ⟨_, by simp only [if_pos h]; rfl⟩
    · exact ⟨[], by simp only [if_neg h, List.append_nil]⟩
theorem Tc.start_cs (S : List Sm) : ∀ T : Tc, (T.start S).cs = T.cs := by
  unfold Tc.start
  induction S with
  | nil => exact fun T => rfl
  | cons x S ih =>
    intro T
    rw [List.foldl_cons, ih]
    unfold Tc.start1
    split <;> rfl
theorem Op5.step_pre (o : Op5) (T : Tc) : ∃ D, (o.step T).cs = T.cs ++ D := by
  unfold Op5.step
  split
  · exact ⟨[], by rw [Tc.start_cs]; simp⟩
  · split
    · exact T.finish_pre _
    · split
      · exact ⟨[], by simp⟩
      · split
        · exact ⟨[], by simp⟩
        · split
          · exact ⟨[], by simp [Tc.setT]⟩
          · split
            · exact ⟨[], by simp [Tc.setT]⟩
            · split
              · exact ⟨[], by simp [Tc.setT]⟩
              · split
                · exact ⟨[], by simp [Tc.setT]⟩
                · split
                  · exact T.finish_pre _
                  · exact ⟨[], by simp⟩
theorem runT5_pre (L : List Op5) : ∀ T : Tc, ∃ D, (runT5 L T).cs = T.cs ++ D := by
  unfold runT5
  induction L with
  | nil => exact fun T => ⟨[], by simp⟩
  | cons o L ih =>
    intro T
    obtain ⟨D1, h1⟩ := o.step_pre T
    obtain ⟨D2, h2⟩ := ih (o.step T)
    exact ⟨D1 ++ D2, by rw [List.foldl_cons, h2, h1, List.append_assoc]⟩
end Go.Proofs.YtpobepninifenaaGreat

namespace Go.Proofs.YtpobepninifenaaGreat
open Go Go.RowKit

/-- Rows that say certificates, out of blocks from S0 to S1. -/
def LCr (w : World) (S0 S1 : Nat) (X : List CtV) (C : List Ct) : Prop := X.length = C.length ∧ ∀ (k : Nat) (x : CtV) (c : Ct), X[k]? = some x → C[k]? = some c → CtO w x c ∧ ∀ b, (slv x.va).ownBlock = some b → S0 ≤ b ∧ b < S1
theorem LCs.r {w : World} {S : Nat} {X : List CtV} {C : List Ct} (h : LCs w S X C) : LCr w S w.heap.size X C :=
  ⟨h.1, fun k x c h1 h2 => by
    obtain ⟨g1, g2⟩ := h.2 k x c h1 h2
    refine ⟨g1, fun b hb => ⟨g2 b hb, ?_⟩⟩
    obtain ⟨_, _, _, hz⟩ := g1.an
    obtain ⟨cs, f, hc⟩ := hz b hb
    exact lt_of_blk hc⟩
theorem LCr.keepS {w w' : World} {S0 S1 : Nat} {X : List CtV} {C : List Ct} {D : List Nat} (h : LCr w S0 S1 X C) (hk : Keeps D w w') (hi : KI w w') (ht : ∀ b ∈ D, OwnTag w b) (hD : ∀ b ∈ D, b < S0 ∨ S1 ≤ b) : LCr w' S0 S1 X C :=
  ⟨h.1, fun k x c h1 h2 => by
    obtain ⟨g1, g2⟩ := h.2 k x c h1 h2
    exact ⟨g1.keepS hk hi ht (fun b hb hm => by have h3 := g2 b hb; have h4 := hD b hm; omega), g2⟩⟩
theorem LCr.keeps {w w' : World} {S0 S1 : Nat} {X : List CtV} {C : List Ct} (h : LCr w S0 S1 X C) (hk : Keeps [] w w') : LCr w' S0 S1 X C := h.keepS hk hk.ki0 (by simp) (by simp)
theorem LCr.keepP {w w' : World} {S0 S1 p : Nat} {X : List CtV} {C : List Ct} {cs : Array Value} (h : LCr w S0 S1 X C) (hk : Keeps [p] w w') (hp : w.heap[p]? = some (.cells cs tRc (0, 0))) (hps : p < S0) : LCr w' S0 S1 X C :=
  ⟨h.1, fun k x c h1 h2 => by
    obtain ⟨g1, g2⟩ := h.2 k x c h1 h2
    have hne : ∀ (cs' : Array Value) (e : TypeId) (f : Nat × Nat), e ≠ tRc → w.heap[p]? ≠ some (Obj.cells cs' e f) := fun cs' e f he g => by rw [hp] at g; cases g; exact he rfl
    refine ⟨g1.keepG hk (hk.ki (fun b hb cs' f e => by simp only [List.mem_singleton] at hb; subst hb; exact hne _ _ _ (by decide) e)) (fun b hb cs' f => ?_) (fun b hb hm => ?_), g2⟩
    · simp only [List.mem_singleton] at hb
      subst hb
      exact ⟨hne _ _ _ (by decide), hne _ _ _ (by decide)⟩
    · simp only [List.mem_singleton] at hm
      subst hm
      have := (g2 _ hb).1
      omega⟩
theorem LCr.cw {w : World} {S0 S1 : Nat} {X : List CtV} {C : List Ct} (h : LCr w S0 S1 X C) : LCw w X C := ⟨h.1, fun k x c h1 h2 => (h.2 k x c h1 h2).1.w⟩
theorem LCr.take {w : World} {S0 S1 n : Nat} {X : List CtV} {C D : List Ct} (h : LCr w S0 S1 X (C ++ D)) (hn : C.length = n) : LCr w S0 S1 (X.take n) C := by
  obtain ⟨h1, h2⟩ := h
  have hl : n ≤ X.length := by rw [h1, List.length_append]; omega
  refine ⟨by rw [List.length_take]; omega, fun k x c g1 g2 => ?_⟩
  have hk : k < C.length := (List.getElem?_eq_some_iff.1 g2).1
  rw [List.getElem?_take_of_lt (by omega)] at g1
  exact h2 k x c g1 (by rw [List.getElem?_append_left hk]; exact g2)
theorem LCr.row {w : World} {S0 S1 : Nat} {X : List CtV} {C : List Ct} (h : LCr w S0 S1 X C) {k : Nat} (hk : k < C.length) (hx : k < X.length) : X[k].im = C[k].im ∧ X[k].is = C[k].is ∧ X[k].va.2.1 = C[k].an.length ∧ X[k].vc.2.1 = C[k].cl.length := by
  obtain ⟨g1, _⟩ := h.2 k _ _ (List.getElem?_eq_getElem hx) (List.getElem?_eq_getElem hk)
  refine ⟨g1.im, g1.is, ?_, ?_⟩
  · obtain ⟨Z, h1, h2, _⟩ := g1.an
    obtain ⟨_, _, e, _⟩ := h1.form
    simp only [slv, Value.slice.injEq] at e
    rw [e.2.1]
    exact h2.1
  · obtain ⟨_, _, e, _⟩ := g1.cl.lc.form
    simp only [slv, Value.slice.injEq] at e
    exact e.2.1
/-- A store into a map that is none of the tracer's. -/
theorem TcM.keepM {w w' : World} {B bp bm : Nat} {vc : Value} {A : List AT} {T : Tc} {b : Nat} (h : TcM w B bp bm vc A T) (hk : Keeps [b] w w') (hb : b ∉ ownTc bp bm vc A) (hm : ∃ es c, w.heap[b]? = some (Obj.map es c)) : TcM w' B bp bm vc A T := by
  obtain ⟨es, c, hm⟩ := hm
  have hne : ∀ (cs' : Array Value) (e : TypeId) (f : Nat × Nat), w.heap[b]? ≠ some (Obj.cells cs' e f) := fun cs' e f g => by rw [hm] at g; cases g
  refine h.keep hk (hk.ki (fun b' hb' cs' f e => by simp only [List.mem_singleton] at hb'; subst hb'; exact hne _ _ _ e)) (fun b' hb' => ?_)
  simp only [List.mem_singleton] at hb'
  subst hb'
  exact ⟨hb, fun cs f => ⟨hne _ _ _, hne _ _ _, hne _ _ _⟩⟩
theorem zeroBo (w : World) : (zeroValue 4).run Tryz.prog w = .ok (.bool false) w := by kernel_rfl
def Ct.idp (c : Ct) : Idp := (c.im, c.is)
theorem Tc.Ok.cfind {T : Tc} {n k : Nat} (h : T.Ok n k) {c : Ct} (hc : c ∈ T.cs) : T.find c.idp = none := by
  unfold Tc.find
  rw [List.findIdx?_eq_none_iff]
  intro t ht
  have h1 := h.ca c hc t ht
  simp only [decide_eq_false_iff_not]
  intro e
  exact h1 (Prod.mk.inj e).2.symm
end Go.Proofs.YtpobepninifenaaGreat

namespace Go.Proofs.YtpobepninifenaaGreat
open Go Go.RowKit

set_option maxRecDepth 100000 in
set_option maxHeartbeats 20000000 in
theorem certs_w (w : World) (m : Int) (vO : Value) (L : List Op5) (vM : Value) (M : List Op5) (hm : W64 m) (hLO : LO5 w vO L) (hLM : LO5 w vM M) :
    Calls Tryz.prog 6 #[.int .i64 m, vO, vM] w fun e w' => e = .returned (.bool true) ∧ Keeps [] w w' := by
  obtain ⟨ao, co, rfl, hlo, hco, _⟩ := Gen.SlR.form hLO
  have hfew := fun (W : World) (hk : Keeps [] w W) => few_c W _ L 20 (hLO.keeps hk)
  obtain ⟨NL, hNL⟩ : ∃ n, L.length = n := ⟨_, rfl⟩
  rw [hNL] at hlo hfew ⊢
  obtain ⟨fb, hfb⟩ : ∃ b, few5 L 20 = b := ⟨_, rfl⟩
  simp only [hfb] at hfew
  have hNLm : NL ≤ 9223372036854775807 := by unfold Go.maxLen at hco; omega
  obtain ⟨aoM, coM, rfl, hloM, hcoM, _⟩ := Gen.SlR.form hLM
  have hfewM := fun (W : World) (hk : Keeps [] w W) => few_c W _ M 20 (hLM.keeps hk)
  obtain ⟨NM, hNM⟩ : ∃ n, M.length = n := ⟨_, rfl⟩
  rw [hNM] at hloM hfewM ⊢
  obtain ⟨gb, hgb⟩ : ∃ b, few5 M 20 = b := ⟨_, rfl⟩
  simp only [hgb] at hfewM
  have hNMm : NM ≤ 9223372036854775807 := by unfold Go.maxLen at hcoM; omega
  obtain ⟨WA, hWA⟩ : ∃ W, w = W := ⟨_, rfl⟩
  have hkA : Keeps [] w WA := by rw [← hWA]; exact Keeps.refl _ _
  replace hkA := Lib.hid hkA
  replace hWA := Lib.hid hWA
  replace hfewM := Lib.hid hfewM
  replace hNM := Lib.hid hNM
  replace hgb := Lib.hid hgb
  replace hLM := Lib.hid hLM
  clear hloM hcoM
  replace hfew := Lib.hid hfew
  replace hNL := Lib.hid hNL
  replace hfb := Lib.hid hfb
  replace hm := Lib.hid hm
  replace hLO := Lib.hid hLO
  clear hlo hco
  go_enter Tryz.func6, Tryz.ntmps6
  go_wp2_with fail
  rw [hWA.out]
  refine (awake5_c WA).mono ?_
  rintro e w1 ⟨rfl, hk1⟩
  have hkw1 := Lib.hid (hkA.out.trans hk1)
  replace hk1 := Lib.hid hk1
  go_wp2_with fail
  refine (hfew.out _ hkw1.out).mono ?_
  rintro e w2 ⟨rfl, hk2⟩
  have hkw2 := Lib.hid (hkw1.out.trans hk2)
  replace hk1 := Lib.hid (hk1.out.trans hk2)
  clear hk2 hkw1
  cases fb with
  | false =>
    go_wp2
    go_ret
    exact ⟨rfl, hkw2.out⟩
  | true =>
    obtain ⟨hfewL, hNLb⟩ := few5_of hfb.out
    rw [hNL.out] at hNLb
    have hNL30 : NL ≤ 20 := by omega
    replace hfewL := Lib.hid hfewL
    clear hNLb hfew hfb
    go_wp2_with fail
    refine (hfewM.out _ hkw2.out).mono ?_
    rintro e w3 ⟨rfl, hk3⟩
    have hkw3 := Lib.hid (hkw2.out.trans hk3)
    clear hk3 hkw2 hk1
    cases gb with
    | false =>
      go_wp2
      go_ret
      exact ⟨rfl, hkw3.out⟩
    | true =>
      obtain ⟨hfewMl, hNMb⟩ := few5_of hgb.out
      rw [hNM.out] at hNMb
      have hNM20 : NM ≤ 20 := by omega
      have hrun := run5_c w3 m _ L hm.out (hLO.out.keeps hkw3.out) hfewL.out (by rw [hNL.out]; omega)
      rw [hNL.out] at hrun
      simp only [ptrV] at hrun
      replace hrun := Lib.hid hrun
      clear hNMb hfewM hgb
      have hfewM := Lib.hid hfewMl
      clear hfewMl
      go_wp2_with fail
      refine hrun.out.mono ?_
      rintro e w4 ⟨B, bp, bm, vc, A, x, rfl, hTB, hok, hk4, hBw⟩
      have hbpB : B ≤ w4.heap.size := Nat.le_trans hTB.m.bB.1 (Nat.le_of_lt hTB.m.lt.1)
      obtain ⟨x0, x1, ⟨x2, x3, x4⟩, ⟨x5, x6, x7⟩⟩ := x
      simp only [rtV, slv]
      obtain ⟨T0, hT0⟩ : ∃ T, runT5 L (Tc.new m) = T := ⟨_, rfl⟩
      have hmT : W64 (runT5 L (Tc.new m)).m := by rw [runT5_m]; exact hm.out
      have hmm : (runT5 L (Tc.new m)).m = m := runT5_m _ _
      rw [hT0] at hTB hok hmT hmm
      have hk5 := (Keeps.refl [] w4).alloc (.cells #[.int .i64 x0, .int .i64 x1, .slice x2 x3 x4, .slice x5 x6 x7] tRc)
      have hbp := heap_alloc_new w4 (.cells #[.int .i64 x0, .int .i64 x1, .slice x2 x3 x4, .slice x5 x6 x7] tRc)
      have hL : Lp [] w4.heap.size w (w4.alloc (.cells #[.int .i64 x0, .int .i64 x1, .slice x2 x3 x4, .slice x5 x6 x7] tRc)) B bp bm vc A ⟨x0, x1, (x2, x3, x4), (x5, x6, x7)⟩ (runT5 (M.take 0) T0) (NL + 0) (4 * NL + 4 * 0) := by
        refine ⟨hTB.sub hk5 (fun b hb => ?_), hbp, hok, (hkw3.out.trans hk4).trans hk5, Nat.le_trans hkw3.out.size hBw, hbpB⟩
        simp only [List.mem_cons, List.not_mem_nil, or_false] at hb
        subst hb
        exact ⟨.inr (Nat.le_refl _), lt_of_blk hbp⟩
      replace hL := Lib.hid hL
      replace hok := Lib.hid hok
      replace hmT := Lib.hid hmT
      replace hmm := Lib.hid hmm
      clear hT0 hTB hk4 hBw hbpB hk5 hbp hrun hLO hkw3 hfewL
      go_upto_region 8 with fail
      generalize (w4.alloc (.cells #[.int .i64 x0, .int .i64 x1, .slice x2 x3 x4, .slice x5 x6 x7] tRc)) = W5 at *
      obtain ⟨p, hp⟩ : ∃ r, w4.heap.size = r := ⟨_, rfl⟩
      rw [hp] at hL ⊢
      clear hp
      have htc := tcerts_c W5 B bp bm vc A T0 NL (4 * NL) hL.out.tb.m hok.out (by omega)
      unfold CsPost at htc
      simp only [ptrV] at htc
      replace htc := Lib.hid htc
      go_wp2_with fail
      refine htc.out.mono ?_
      rintro e w6 ⟨v0, X0, rfl, hv0, hX0, hk6⟩
      obtain ⟨va, vac, rfl⟩ := hv0.form
      obtain ⟨N0, hN0⟩ : ∃ n, T0.cs.length = n := ⟨_, rfl⟩
      rw [hX0.1, hN0] at hv0 ⊢
      have hpS : p < W5.heap.size := lt_of_blk hL.out.bk
      obtain ⟨S0, hS0⟩ : ∃ n, W5.heap.size = n := ⟨_, rfl⟩
      have hown : ∀ b ∈ ownTc bp bm vc A, b < S0 ∨ w6.heap.size ≤ b := fun b hb => .inl (by rw [← hS0]; exact hL.out.tb.own b (List.mem_append_right _ hb))
      have hX0 := hX0.r
      have hvb : ∀ b, (Value.slice va N0 vac).ownBlock = some b → S0 ≤ b ∧ b < w6.heap.size := fun b hb => by rw [← hS0]; exact ⟨hv0.ge b hb, hv0.lt b hb⟩
      have hv0 := hv0.r
      rw [hS0] at hX0 hpS
      have hSS : S0 ≤ w6.heap.size := by rw [← hS0]; exact hk6.size
      obtain ⟨S1, hS1⟩ : ∃ n, w6.heap.size = n := ⟨_, rfl⟩
      rw [hS1] at hX0 hvb hown hSS
      have hL6 := Lib.hid (hL.out.keeps hk6)
      have hS1w : S1 ≤ w6.heap.size := by rw [hS1]; exact Nat.le_refl _
      replace hX0 := Lib.hid hX0
      replace hv0 := Lib.hid hv0
      replace hown := Lib.hid hown
      replace hvb := Lib.hid hvb
      replace hN0 := Lib.hid hN0
      replace hS0 := Lib.hid hS0
      replace hS1 := Lib.hid hS1
      clear hk6 hL htc
      go_wp2
      go_loopw [11] (fun iv wr => ∃ (k : Nat) (vc : Value) (A : List AT) (x : RtV), iv = .int .i64 k ∧ k ≤ NM ∧ Hid (Lp [] p w wr B bp bm vc A x (runT5 (M.take k) T0) (NL + k) (4 * NL + 4 * k)) ∧ Hid (shCt.R wr (.slice va N0 vac) X0) ∧ Hid (LCr wr S0 S1 X0 T0.cs) ∧ Hid (∀ b ∈ ownTc bp bm vc A, b < S0 ∨ S1 ≤ b) ∧ S1 ≤ wr.heap.size) (fun iv _ => NM - (intOf iv).toNat)
      case atStart => exact ⟨0, _, _, _, rfl, by omega, hL6, hv0, hX0, hown, hS1w⟩
      case round =>
        clear hL6 hv0 hX0 hown hS1w
        obtain ⟨k, vc, A, x, rfl, hk, hL, hv0, hX0, hown, hS1w⟩ := hrel
        by_cases hlt : k < NM
        · skip
          have hlt2 : (k : Int) < NM := by omega
          have hkL : k < M.length := by rw [hNM.out]; exact hlt
          obtain ⟨g, of, c', s, y, hv, hSm, hIR, hFit, f0, f1, f2, f3, f4, f5, f6, f7, f8, f9, f10, f11, f12, f13⟩ := hLM.out.elem hkL
          rw [hNM.out] at hv
          cases hv
          have hrun := runT5_take M T0 k hkL
          have hfk := hfewM.out _ (List.getElem_mem hkL)
          have hsS := hSm.lt
          have hsI := hIR.lt
          obtain ⟨⟨ok, oi, on, oS, oa, ⟨id0, id1⟩⟩, ho⟩ : ∃ o, M[k] = o := ⟨_, rfl⟩
          rw [ho] at hSm hIR hFit f0 f1 f2 f12 f13 hrun hfk hsS hsI
          simp only at f0 f1 f2 f12 f13
          have hbw := hL.out.b0.1
          have hst := fun (W : World) (hk' : Keeps [] wr W) => step5_c _ W B bp bm vc A x _ (NL + k) (4 * NL + 4 * k) (hL.out.call hk') hL.out.ok (by omega) (by omega) (by rw [runT5_m]; exact hmT.out) ⟨ok, oi, on, oS, oa, (id0, id1)⟩ s y (hSm.keeps (hL.out.ks.trans hk')) (hIR.keep (hL.out.ks.trans hk') (by simp)) hFit hfk.1 hfk.2 (fun hne b hb => Nat.lt_of_lt_of_le (hsS hne b hb) hbw) (fun b hne hb => Nat.lt_of_lt_of_le (hsI hne b hb) hbw)
          obtain ⟨y0, y1, y2, y3, y4, y5, y6, y7, y8, y9⟩ := y
          obtain ⟨s0, s1, s2⟩ := s
          have hkw := hL.out.ks
          replace f0 := hkw.val f0
          replace f1 := hkw.val f1
          replace f2 := hkw.val f2
          replace f3 := hkw.val f3
          replace f4 := hkw.val f4
          replace f5 := hkw.val f5
          replace f6 := hkw.val f6
          replace f7 := hkw.val f7
          replace f8 := hkw.val f8
          replace f9 := hkw.val f9
          replace f10 := hkw.val f10
          replace f11 := hkw.val f11
          replace f12 := hkw.val f12
          replace f13 := hkw.val f13
          obtain ⟨x0, x1, ⟨x2, x3, x4⟩, ⟨x5, x6, x7⟩⟩ := x
          have hbp := hL.out.bk
          simp only [slv] at hbp f3
          simp only [AnV.v] at f4 f5 f6 f7 f8 f9 f10 f11
          obtain ⟨T, hT⟩ : ∃ T, runT5 (M.take k) T0 = T := ⟨_, rfl⟩
          rw [hT] at hL hst hrun
          simp only [rtV, slv, ptrV, opV5, AnV.v] at hst
          obtain ⟨e0, e1, e2, e3, ef, el⟩ := cl4 hbp
          replace hbp := Lib.hid hbp
          replace hst := Lib.hid hst
          replace hrun := Lib.hid hrun
          replace ho := Lib.hid ho
          replace hT := Lib.hid hT
          replace hfk := Lib.hid hfk
          clear hSm hIR hFit hsS hsI hbw hkw
          go_upto_region 12 with fail
          go_cut [12, 13] from 41 to 59 (fun sq sok wx => ∃ (u0 u1 : Int) (u2 : Option Addr) (u3 u4 : Nat) (u5 : Option Addr) (u6 u7 : Nat) (vc' : Value) (A' : List AT) (q : Nat), sq = .pointer (some ⟨q, 0, none⟩) ∧ sok = .bool true ∧ Hid (TB (q :: p :: []) wx B bp bm vc' A' ⟨u0, u1, (u2, u3, u4), (u5, u6, u7)⟩ (Op5.step ⟨ok, oi, on, oS, oa, (id0, id1)⟩ T)) ∧ Hid (Mv (ownTc bp bm vc A) (ownTc bp bm vc' A') wr wx) ∧ Hid (wx.heap[q]? = some (.cells #[.int .i64 u0, .int .i64 u1, .slice u2 u3 u4, .slice u5 u6 u7] tRc (0, 0))))
          case first =>
            have hown : ∀ b ∈ ownTc bp bm vc A, b < wr.heap.size := fun b hb => hL.out.tb.own b (List.mem_append_right _ hb)
            replace hown := Lib.hid hown
            have hgl := lt_of_cell f0
            go_region_with (go_at_call 12; refine (hst.out _ ?hkW).mono ?_; (case hkW => first | exact Keeps.refl [] _ | exact (Keeps.refl [] _).drew | exact ((Keeps.refl [] _).alloc _).drew | exact (Keeps.refl [] _).alloc _); rintro e w5 ⟨⟨u0, u1, ⟨u2, u3, u4⟩, ⟨u5, u6, u7⟩⟩, vc', A', rfl, hTB, hM⟩; simp only [rtV, slv]; first | (have hq5 := (hM.k.block wr.heap.size (lt_of_blk (heap_alloc_new wr (.cells #[.int .i64 0, .int .i64 0, .slice none 0 0, .slice none 0 0] tRc))) (fun hm => Nat.lt_irrefl _ (hown.out _ hm))).trans (heap_alloc_new wr (.cells #[.int .i64 0, .int .i64 0, .slice none 0 0, .slice none 0 0] tRc)); obtain ⟨v0, v1, v2, v3, vf, vl⟩ := cl4 hq5) | skip)
            all_goals (go_wp2_with fail)
            all_goals go_meet
            all_goals first
              | (have hq := heap_alloc_new w5 (.cells #[.int .i64 u0, .int .i64 u1, .slice u2 u3 u4, .slice u5 u6 u7] tRc)
                 obtain ⟨a, b⟩ := Lp.callA (q := w5.heap.size) (Keeps.refl [] wr).drew hTB hM ((Keeps.refl [] w5).alloc (.cells #[.int .i64 u0, .int .i64 u1, .slice u2 u3 u4, .slice u5 u6 u7] tRc)) ⟨Nat.le_refl _, lt_of_blk hq⟩
                 exact ⟨u0, u1, u2, u3, u4, u5, u6, u7, vc', A', w5.heap.size, rfl, rfl, Lib.hid a, Lib.hid b, Lib.hid hq⟩)
              | (obtain ⟨s1, s2⟩ := sc4 (.int .i64 u0) (.int .i64 u1) (.slice u2 u3 u4) (.slice u5 u6 u7) hq5
                 obtain ⟨a, b⟩ := Lp.callB (q := wr.heap.size) ((Keeps.refl [] wr).alloc (.cells #[.int .i64 0, .int .i64 0, .slice none 0 0, .slice none 0 0] tRc)).drew (Nat.le_refl _) (lt_of_blk (heap_alloc_new wr (.cells #[.int .i64 0, .int .i64 0, .slice none 0 0, .slice none 0 0] tRc))) hTB hM hq5 s2
                 exact ⟨u0, u1, u2, u3, u4, u5, u6, u7, vc', A', wr.heap.size, rfl, rfl, Lib.hid a, Lib.hid b, Lib.hid s1⟩)
          case rest =>
            obtain ⟨u0, u1, u2, u3, u4, u5, u6, u7, vc', A', q, rfl, rfl, hT5, hM5, hbq⟩ := hcut
            have hbp5 := (hM5.out.k.block _ el (hL.out.tb.notOwn hbp.out)).trans hbp.out

            clear f0 f1 f2 f3 f4 f5 f6 f7 f8 f9 f10 f11 f12 f13 e0 e1 e2 e3 ef hst
            obtain ⟨m0, m1, m2, m3, mf, ml⟩ := cl4 hbq.out
            obtain ⟨e0, e1, e2, e3, ef, el5⟩ := cl4 hbp5
            have g12 := sc4 (.int .i64 u0) (.int .i64 u1) (.slice u2 u3 u4) (.slice u5 u6 u7) hbp5
            obtain ⟨g1, g2⟩ := g12
            have hL5 := hL.out.next hM5.out hT5.out hfk.out.1 hfk.out.2 g2 g1
            rw [← hrun.out] at hL5

            have hown5 : ∀ b ∈ ownTc bp bm vc' A', b < S0 ∨ S1 ≤ b := fun b hb => by
              rcases hM5.out.s b hb with g | g
              · exact hown.out b g
              · exact .inr (Nat.le_trans hS1w g)
            have hv5 := ((hv0.out.keepS hM5.out.k (fun b hb e => by
              have h1 := hvb.out b e
              have h2 := hown.out b hb
              omega)).keepS g2 (fun b hb e => by
              have h1 := hvb.out b e
              simp only [List.mem_singleton] at hb
              omega))
            have hX5 := (hX0.out.keepS hM5.out.k hM5.out.i (fun b hb => hL.out.tb.m.tag hb) hown.out).keepP g2 hbp5 hpS
            have hS5 := Nat.le_trans hS1w (Nat.le_trans hM5.out.k.size g2.size)
            replace hown5 := Lib.hid hown5
            replace hv5 := Lib.hid hv5
            replace hX5 := Lib.hid hX5
            replace hL5 := Lib.hid hL5
            clear hown hv0 hX0
            clear g1 g2 hT5 hM5 hL hbp5 hfk
            go_upto_region 14 with fail
            generalize ((((wc.setCell ⟨p, 0, none⟩ (.int .i64 u0)).setCell ⟨p, 1, none⟩ (.int .i64 u1)).setCell ⟨p, 2, none⟩ (.slice u2 u3 u4)).setCell ⟨p, 3, none⟩ (.slice u5 u6 u7)) = W5 at *
            clear m0 m1 m2 m3 mf ml e0 e1 e2 e3 ef el5 hbq
            go_wp2
            go_roundw
            case rel => exact ⟨k + 1, vc', A', _, rfl, by omega, hL5, hv5, hX5, hown5, hS5⟩
            case measure => simp [intOf]; omega
        · have hlt2 : ¬ ((k : Int) < NM) := by omega
          have hkN : M.take k = M := List.take_of_length_le (by rw [hNM.out]; omega)
          rw [hkN] at hL
          obtain ⟨T, hT⟩ : ∃ T, runT5 M T0 = T := ⟨_, rfl⟩
          have hpre := runT5_pre M T0
          have hTm : (runT5 M T0).m = m := by rw [runT5_m]; exact hmm.out
          rw [hT] at hL hpre hTm
          obtain ⟨D, hD⟩ := hpre
          have hMr := Lib.hid hL.out.tb.m
          have hokr := Lib.hid hL.out.ok
          have hkwr := Lib.hid hL.out.ks
          have hBw := Lib.hid hL.out.b0.1
          clear hL hT hkN hown hS1w
          have htc := tcerts_c wr B bp bm vc A T (NL + k) (4 * NL + 4 * k) hMr.out hokr.out (by omega)
          unfold CsPost at htc
          simp only [ptrV] at htc
          replace htc := Lib.hid htc
          replace hTm := Lib.hid hTm
          replace hD := Lib.hid hD
          go_wp2_with fail
          refine htc.out.mono ?_
          rintro e w7 ⟨v1, X1, rfl, hv1, hX1, hk7⟩
          obtain ⟨aa, ac, rfl⟩ := hv1.form
          obtain ⟨N1, hN1⟩ : ∃ n, T.cs.length = n := ⟨_, rfl⟩
          have hNN : N0 ≤ N1 := by rw [← hN0.out, ← hN1, hD.out, List.length_append]; omega
          have hN1b : N1 ≤ 40 := by have h1 := hokr.out.cl; omega
          have hX1l : X1.length = N1 := by rw [hX1.1, hN1]
          rw [hX1l] at hv1 ⊢
          have hX1r := hX1.r
          have hv07 := hv0.out.keeps hk7
          have hX07 := hX0.out.keeps hk7
          have hM7 := Lib.hid (hMr.out.keeps hk7)
          have hkw7 := Lib.hid (hkwr.out.trans hk7)
          have hNN2 : decide ((N1 : Int) < (N0 : Int)) = false := by simp; omega
          have hNN4 : decide (N1 < N0) = false := by simp; omega
          have hNN3 : ((N0 : Nat) : Int).toNat = N0 := Int.toNat_natCast N0
          have hac : N1 ≤ ac := by obtain ⟨_, _, e, h1, _⟩ := hv1.r.form; cases e; rw [hX1l] at h1; exact h1
          have hNc : (N0 : Int) ≤ ac := by omega
          have hN0p : (0 : Int) ≤ N0 := by omega
          replace hv07 := Lib.hid hv07
          replace hX07 := Lib.hid hX07
          replace hv1 := Lib.hid hv1
          replace hX1r := Lib.hid hX1r
          replace hN1 := Lib.hid hN1
          replace hX1l := Lib.hid hX1l
          clear hX1 hk7 hMr hkwr hv0 hX0 htc
          have hpf := hv1.out.r.init' N0 (by rw [hX1l.out]; exact hNN)
          have hX1t := (show LCr w7 wr.heap.size w7.heap.size X1 (T0.cs ++ D) from hD.out ▸ hX1r.out).take hN0.out
          have hsc := sameCerts_c w7 _ _ X0 (X1.take N0) T0.cs hv07.out hpf hX07.out.cw hX1t.cw
          replace hsc := Lib.hid hsc
          clear hpf hX1t hv07 hX07
          go_wp2_with fail
          refine hsc.out.mono ?_
          rintro e w8 ⟨rfl, hk8⟩
          have hv18 := Lib.hid (hv1.out.keeps hk8)
          have hX18 := Lib.hid (hX1r.out.keeps hk8)
          have hM8 := Lib.hid (hM7.out.keeps hk8)
          have hkw8 := Lib.hid (hkw7.out.trans hk8)
          clear hsc hk8 hv1 hX1r hM7 hkw7 hNN2 hNN4 hNc hN0p hNN3
          have hmm := @run_makeMap Tryz.prog
          have hkm := (Keeps.refl [] w8).alloc (.map #[] 0)
          have hmp := MapS.M.made ktId (vf := Value.bool) w8
          have hmb := heap_alloc_new w8 (.map #[] 0)
          have hM9 := Lib.hid (hM8.out.keeps hkm)
          have hown9 : ∀ b ∈ ownTc bp bm vc A, b < w8.heap.size := fun b hb => (hM8.out.tag hb).1
          have hv19 := hv18.out.keeps hkm
          have hlt9 : ∀ b, (Value.slice aa N1 ac).ownBlock = some b → b < w8.heap.size := hv18.out.lt
          have hkw9 := Lib.hid (hkw8.out.trans hkm)
          have hww : w.heap.size ≤ w8.heap.size := hkw8.out.size
          have hN1m : N1 ≤ 9223372036854775807 := by omega
          replace hmp := Lib.hid hmp
          replace hmb := Lib.hid hmb
          replace hown9 := Lib.hid hown9
          replace hv19 := Lib.hid hv19
          replace hlt9 := Lib.hid hlt9
          clear hkm hM8 hv18 hkw8
          go_upto_region 20 with fail
          generalize (w8.alloc (.map #[] 0)) = W9 at *
          obtain ⟨bs, hbs⟩ : ∃ b, w8.heap.size = b := ⟨_, rfl⟩
          rw [hbs] at hmp hmb hown9 hlt9 hww ⊢
          clear hbs hmm
          go_wp2
          go_loopw [79] (fun iv wx => ∃ k : Nat, iv = .int .i64 k ∧ k ≤ N1 ∧ Hid (Keeps [bs] W9 wx) ∧ Hid (MapS.M ktId Value.bool wx bs ((T.cs.take k).map (fun c => (c.idp, true))))) (fun iv _ => N1 - (intOf iv).toNat)
          case atStart => exact ⟨0, rfl, by omega, Lib.hid (Keeps.refl _ _), hmp⟩
          case round =>
            clear hmp
            obtain ⟨k2, rfl, hk2, hkx, hmx⟩ := hrel
            by_cases hlt3 : k2 < N1
            · have hlt4 : (k2 : Int) < N1 := by omega
              have hkC : k2 < T.cs.length := by rw [hN1.out]; exact hlt3
              have hkX : k2 < X1.length := by rw [hX1l.out]; exact hlt3
              obtain ⟨r1, r2, r3, r4⟩ := hX18.out.row hkC hkX
              obtain ⟨c, hc⟩ : ∃ c, T.cs[k2] = c := ⟨_, rfl⟩
              rw [hc] at r1 r2 r3 r4
              have hcm : c ∈ T.cs := hc ▸ List.getElem_mem hkC
              obtain ⟨i1, i2, i3, i4, i5, -⟩ := hokr.out.ci c hcm
              have hcf := hokr.out.cfind hcm
              obtain ⟨g, o, c', hv, he⟩ := (hv19.out.r.keepS hkx.out (fun b hb e => by
                have h1 := hlt9.out b e
                simp only [List.mem_singleton] at hb
                omega)).elem hkX
              rw [hX1l.out] at hv
              cases hv
              obtain ⟨⟨y0, y1, y2, y3, y4, ⟨y5, y6, y7⟩, ⟨y8, y9, y10⟩⟩, hy⟩ : ∃ y, X1[k2] = y := ⟨_, rfl⟩
              rw [hy] at r1 r2 r3 r4 he
              simp only at r1 r2 r3 r4
              have hidp : c.idp = (y0, y1) := by rw [r1, r2]; rfl
              have hym : y0 = m := by rw [r1, i1, hTm.out]
              rw [← r2] at i2 i3
              rw [← r3] at i5
              rw [← r4] at i4
              rw [hidp] at hcf
              subst hym
              have f0 := he 0 _ rfl
              have f1 := he 1 _ rfl
              have f2 := he 2 _ rfl
              have f3 := he 3 _ rfl
              have f4 := he 4 _ rfl
              have f5 := he 5 _ rfl
              have f6 := he 6 _ rfl
              simp only [shCt, CtV.cs, slv, Nat.add_zero] at f0 f1 f2 f3 f4 f5 f6
              have hT1 := hokr.out.s1
              have hidok : ipOk (y0, y1) := ⟨hm.out, w64_iff.2 (by omega)⟩
              have hmm9 : ∃ es c, W9.heap[bs]? = some (Obj.map es c) := ⟨_, _, hmb.out⟩
              have hMx := hM9.out.keepM hkx.out (fun hm' => by have := hown9.out _ hm'; omega) hmm9
              have hgt : MapS.get (y0, y1) ((T.cs.take k2).map (fun c => (c.idp, true))) = none := MapS.get_none.2 (fun q hq e => by
                obtain ⟨d, hd, rfl⟩ := List.mem_map.1 hq
                obtain ⟨j, hj, hjd⟩ := List.mem_iff_getElem.1 hd
                rw [List.length_take] at hj
                rw [List.getElem_take] at hjd
                have h1 := List.pairwise_iff_getElem.1 hokr.out.cn j k2 (by omega) hkC (by omega)
                rw [hjd, hc] at h1
                exact h1 (by rw [← r2]; exact (Prod.mk.inj e).2))
              have hstk : (T.cs.take (k2 + 1)).map (fun c => (c.idp, true)) = (T.cs.take k2).map (fun c => (c.idp, true)) ++ [((y0, y1), true)] := by rw [List.take_succ_eq_append_getElem hkC, List.map_append, hc, List.map_singleton, hidp]
              have hml : ((T.cs.take k2).map (fun c => (c.idp, true))).length < maxLen := by rw [List.length_map, List.length_take]; unfold maxLen; omega
              have hl1 : ¬ y1 < 1 := by omega
              have hl2 : ¬ T.s < y1 := by omega
              have hl1b : decide (y1 < 1) = false := by simpa using hl1
              have hl2b : decide (T.s < y1) = false := by simpa using hl2
              have hl3 : ((y6 : Int) == 0) = false := by simp; omega
              have hl4 : ((y9 : Int) == 0) = false := by simp; omega
              have hbC := heap_alloc_new wr (.cells #[.int .i64 y0, .int .i64 y1, .int .i64 y2, .int .u64 y3, .int .i64 y4, .slice y5 y6 y7, .slice y8 y9 y10] tCt)
              have hkC1 := (Keeps.refl [] wr).alloc (.cells #[.int .i64 y0, .int .i64 y1, .int .i64 y2, .int .u64 y3, .int .i64 y4, .slice y5 y6 y7, .slice y8 y9 y10] tCt)
              have hMx1 := Lib.hid (hMx.keeps hkC1)
              have hmx1 := Lib.hid (hmx.out.keeps ktId hkC1)
              have hkx1 := Lib.hid (hkx.out.trans (hkC1.mono (by simp)))
              replace hbC := Lib.hid hbC
              replace hgt := Lib.hid hgt
              replace hstk := Lib.hid hstk
              replace hml := Lib.hid hml
              replace hidok := Lib.hid hidok
              replace hcf := Lib.hid hcf
              have hXb : bs < wr.heap.size := Nat.lt_of_lt_of_le (lt_of_blk hmb.out) hkx.out.size
              clear he hMx hkC1 hkx hmx hmm9 r1 r2 r3 r4 hcm hidp hy hc i1 i2 i3 i4 i5 hT1
              go_upto_region 23 with fail
              generalize (wr.alloc (.cells #[.int .i64 y0, .int .i64 y1, .int .i64 y2, .int .u64 y3, .int .i64 y4, .slice y5 y6 y7, .slice y8 y9 y10] tCt)) = W2 at *
              obtain ⟨X2, hX2⟩ : ∃ b, wr.heap.size = b := ⟨_, rfl⟩
              rw [hX2] at hbC hXb ⊢
              clear f0 f1 f2 f3 f4 f5 f6 hX2
              have hst := fun (W : World) (hk : Keeps [] W2 W) => started_c W B bp bm vc A T (hMx1.out.keeps hk)
              have hlk := fun (W : World) (hk : Keeps [] W2 W) => MapS.M.look ktId (k := (y0, y1)) Tryz.underlying66 (.bool false) zeroBo (hmx1.out.keeps ktId hk) hidok.out
              simp only [ptrV] at hst
              simp only [hgt.out, Option.map_none, Option.getD_none] at hlk
              simp only [ktId, ipV] at hlk
              replace hst := Lib.hid hst
              replace hlk := Lib.hid hlk
              have hkd : Keeps [] W2 W2.drew := (Keeps.refl [] W2).drew
              have hbd : W2.drew.heap[X2]? = _ := hbC.out
              obtain ⟨d0, d1, d2, d3, d4, d5, d6, df, dl⟩ := cl7 hbd
              replace hkd := Lib.hid hkd
              replace hbd := Lib.hid hbd
              clear hbC
              refine Free.wp_region_chain (fun i => i == 16 || i == 23) (fun i => true) (fun _ _ => False) (by kernel_rfl) (by kernel_rfl) (by kernel_rfl) ?_
              generalize W2.drew = wd at *
              (repeat (first | (apply Free.cw_pureW rfl rfl; (intro w'; go_simp <;> exact rfl); go_frame) | (apply Free.cw_steadyW rfl rfl rfl; (intro w' hS; have q0 := Free.sx_cell hS d0 (fun _ _ hT => hT); have q1 := Free.sx_cell hS d1 (fun _ _ hT => hT); have q2 := Free.sx_cell hS d2 (fun _ _ hT => hT); have q3 := Free.sx_cell hS d3 (fun _ _ hT => hT); have q4 := Free.sx_cell hS d4 (fun _ _ hT => hT); have q5 := Free.sx_cell hS d5 (fun _ _ hT => hT); have q6 := Free.sx_cell hS d6 (fun _ _ hT => hT); go_simp <;> exact rfl); go_frame) | (refine Free.cw_skip rfl ?_; go_frame)))
              refine Free.cw_loudW rfl rfl (fun K hK => ?_)
              go_wp2_with fail
              refine (hst.out _ hkd.out).mono ?_
              rintro e w9 ⟨rfl, hw⟩
              subst hw
              refine hK _ _ rfl (Free.KeepsP.refl _ _) ?_
              clear hK K hst
              (repeat (first | (apply Free.cw_pureW rfl rfl; (intro w'; go_simp <;> exact rfl); go_frame) | (apply Free.cw_steadyW rfl rfl rfl; (intro w' hS; have q0 := Free.sx_cell hS d0 (fun _ _ hT => hT); have q1 := Free.sx_cell hS d1 (fun _ _ hT => hT); have q2 := Free.sx_cell hS d2 (fun _ _ hT => hT); have q3 := Free.sx_cell hS d3 (fun _ _ hT => hT); have q4 := Free.sx_cell hS d4 (fun _ _ hT => hT); have q5 := Free.sx_cell hS d5 (fun _ _ hT => hT); have q6 := Free.sx_cell hS d6 (fun _ _ hT => hT); go_simp <;> exact rfl); go_frame) | (refine Free.cw_skip rfl ?_; go_frame)))
              have hlk2 := hlk.out _ hkd.out
              refine Free.cw_loudW rfl rfl (fun K hK => ?_)
              go_wp2
              refine hK _ _ rfl (Free.KeepsP.refl _ _) ?_
              clear hK K hlk hlk2
              (repeat (first | (apply Free.cw_pureW rfl rfl; (intro w'; go_simp <;> exact rfl); go_frame) | (apply Free.cw_steadyW rfl rfl rfl; (intro w' hS; have q0 := Free.sx_cell hS d0 (fun _ _ hT => hT); have q1 := Free.sx_cell hS d1 (fun _ _ hT => hT); have q2 := Free.sx_cell hS d2 (fun _ _ hT => hT); have q3 := Free.sx_cell hS d3 (fun _ _ hT => hT); have q4 := Free.sx_cell hS d4 (fun _ _ hT => hT); have q5 := Free.sx_cell hS d5 (fun _ _ hT => hT); have q6 := Free.sx_cell hS d6 (fun _ _ hT => hT); go_simp <;> exact rfl); go_frame) | (refine Free.cw_skip rfl ?_; go_frame)))
              refine Free.cw_nil ?_
              have hmxd := hmx1.out.keeps ktId hkd.out
              obtain ⟨w6, hrun2, hM6, hk56⟩ := MapS.M.putNew ktId Tryz.underlying66 hmxd (k := (y0, y1)) hidok.out hgt.out hml.out true
              simp only [ktId, ipV] at hrun2
              have hmapd : ∃ es c, wd.heap[bs]? = some (Obj.map es c) := MapS.M.isMap hmxd
              have hMd := hMx1.out.keeps hkd.out
              have hM6' := hMd.keepM hk56 (fun hm' => by have := hown9.out _ hm'; omega) hmapd
              have hb6 := (hk56.block _ (lt_of_blk hbd.out) (by simp only [List.mem_singleton]; omega)).trans hbd.out
              have hkx6 := (hkx1.out.trans (hkd.out.mono (by simp))).trans hk56
              rw [← hstk.out] at hM6
              have hfd := find_c w6 B bp bm vc A T (NL + k) (4 * NL + 4 * k) hM6' hokr.out (y0, y1) hidok.out
              simp only [ptrV, ipV] at hfd
              replace hfd := Lib.hid hfd
              replace hb6 := Lib.hid hb6
              replace hkx6 := Lib.hid hkx6
              replace hM6 := Lib.hid hM6
              clear hmxd hmapd hMd hM6' hMx1 hmx1 hkx1 hgt hstk hml
              go_upto_region 26 with fail
              clear hrun2 hk56 hkd hbd d0 d1 d2 d3 d4 d5 d6 df dl
              obtain ⟨d0, d1, d2, d3, d4, d5, d6, df, dl⟩ := cl7 hb6.out
              go_wp2_with fail
              refine hfd.out.mono ?_
              rintro e w10 ⟨hcase, hk10⟩
              have hret : e = .returned (.tuple #[.pointer none, .bool false]) := by
                rcases hcase with ⟨i, hi, h1, _, _⟩ | ⟨_, h2⟩
                · rw [hcf.out] at h1; cases h1
                · exact h2
              subst hret
              have hM10 := Lib.hid (hM6.out.keeps ktId hk10)
              have hkx10 := Lib.hid (hkx6.out.trans (hk10.mono (by simp)))
              clear hcase hk10 hfd hM6 hkx6 hb6 d0 d1 d2 d3 d4 d5 d6 df dl
              go_wp2
              go_roundw
              case rel => exact ⟨k2 + 1, rfl, by omega, hkx10, hM10⟩
              case measure => simp [intOf]; omega
            · have hlt4 : ¬ ((k2 : Int) < N1) := by omega
              have hkf := hkw9.out.fresh hkx.out (fun b hb => by simp only [List.mem_singleton] at hb; subst hb; exact .inr hww)
              clear hkx hmx
              replace hkf := Lib.hid hkf
              go_wp2
              go_ret
              exact ⟨rfl, hkf.out⟩
end Go.Proofs.YtpobepninifenaaGreat
