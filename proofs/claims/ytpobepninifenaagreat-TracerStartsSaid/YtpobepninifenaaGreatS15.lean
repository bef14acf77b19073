/- Texts that the laws lean on, in the order in which they build. The law's run. (Printed by mkuog.py.) The law's awake. (Printed by mkuow.py.) Chapter 35's laws: plain part. TracerCertificates: plain part, and certificates that are kept. TracerStarts: plain part. TracerStarts: the walk. (Printed by mkuls.py.) -/
import Derived.Test.YtpobepninifenaaGreatS14
set_option linter.unusedVariables false
set_option linter.unusedSimpArgs false
namespace Go.Proofs.YtpobepninifenaaGreat
open Go Go.RowKit

theorem results_rt3 {fn : Func} {a p u : Tmp} (h : fn.results = #[.tmp a, .cell p tRc, .tmp u]) (tmps : Array Value) (w : World) (g : Nat) (t : TypeId) (x0 x1 x2 x3 : Value) (f : Nat × Nat) (hp : tmps.getD p undef = .pointer (some ⟨g, 0, none⟩))
    (hg : w.heap[g]? = some (.cells #[x0, x1, x2, x3] t f)) : (results fn tmps).run Tryz.prog w = .ok (.tuple #[tmps.getD a undef, .agg #[x0, x1, x2, x3], tmps.getD u undef]) w := by
  have hp' : tmps[p]?.getD undef = .pointer (some ⟨g, 0, none⟩) := by simpa using hp
  simp [results, h, hp', asAddr, load_rt w g t x0 x1 x2 x3 f hg]
set_option maxRecDepth 100000 in
set_option maxHeartbeats 20000000 in
theorem run5_c (w : World) (m : Int) (vO : Value) (L : List Op5) (hm : W64 m) (hLO : LO5 w vO L) (hfew : ∀ o ∈ L, o.S.length ≤ 4 ∧ o.a.ins.length ≤ 4) (hlen : L.length ≤ 30) :
    Calls Tryz.prog 14 #[.int .i64 m, vO] w fun e w' => ∃ B bp bm vc A x, e = .returned (.tuple #[ptrV bp, rtV x, .bool true]) ∧ TB [] w' B bp bm vc A x (runT5 L (Tc.new m)) ∧ (runT5 L (Tc.new m)).Ok L.length (4 * L.length) ∧ Keeps [] w w' ∧ w.heap.size ≤ B := by
  obtain ⟨ao, co, rfl, hlo, hco, _⟩ := Gen.SlR.form hLO
  obtain ⟨NL, hNL⟩ : ∃ n, L.length = n := ⟨_, rfl⟩
  rw [hNL] at hlo hlen ⊢
  have hNm : NL ≤ 9223372036854775807 := by omega
  obtain ⟨W0, hW0⟩ : ∃ W, (w.alloc (.cells #[.int .i64 0, .int .i64 0, .slice none 0 0, .slice none 0 0] tRc)) = W := ⟨_, rfl⟩
  have hbR := heap_alloc_new w (.cells #[.int .i64 0, .int .i64 0, .slice none 0 0, .slice none 0 0] tRc)
  have hk0 : Keeps [] w (w.alloc (.cells #[.int .i64 0, .int .i64 0, .slice none 0 0, .slice none 0 0] tRc)) := (Keeps.refl _ _).alloc _
  rw [hW0] at hbR hk0
  obtain ⟨R, hR⟩ : ∃ r, w.heap.size = r := ⟨_, rfl⟩
  rw [hR] at hbR
  replace hbR := Lib.hid hbR
  replace hk0 := Lib.hid hk0
  replace hW0 := Lib.hid hW0
  replace hLO := Lib.hid hLO
  replace hfew := Lib.hid hfew
  replace hNL := Lib.hid hNL
  replace hm := Lib.hid hm
  simp only [ptrV]
  go_enter Tryz.func14, Tryz.ntmps14
  go_wp2_with fail
  rw [hW0.out]
  try rw [hR]
  replace hR := Lib.hid hR
  refine (tnew_c W0 m).mono ?_
  rintro e w1 ⟨bp, bm, rfl, hT, hk1⟩
  simp only [ptrV]
  have hk2 := (Keeps.refl [] w1).alloc (.cells #[.int .i64 m, .int .i64 0, .slice none 0 0, .slice none 0 0] tRc)
  have hbp := heap_alloc_new w1 (.cells #[.int .i64 m, .int .i64 0, .slice none 0 0, .slice none 0 0] tRc)
  have hL : Lp [R] w1.heap.size w (w1.alloc (.cells #[.int .i64 m, .int .i64 0, .slice none 0 0, .slice none 0 0] tRc)) W0.heap.size bp bm (.slice none 0 0) [] (rt0 m) (runT5 (L.take 0) (Tc.new m)) 0 (4 * 0) := by
    refine ⟨TB.new (hT.keeps hk2) (fun b hb => ?_), hbp, Tc.Ok.new m, (hk0.out.trans hk1).trans hk2, hk0.out.size, hk1.size⟩
    have h1 := lt_of_blk hbR.out
    have h2 := hk1.size
    have h3 := lt_of_blk hbp
    simp only [List.mem_cons, List.not_mem_nil, or_false] at hb
    rcases hb with rfl | rfl <;> omega
  have hbR0 := Lib.hid hbR.out
  have hbR2 := Lib.hid (((hk1.trans hk2).block _ (lt_of_blk hbR.out) (by simp)).trans hbR.out)
  replace hL := Lib.hid hL
  clear hbR hk0 hT hk1 hk2 hbp
  go_upto_region 3 with fail
  generalize (w1.alloc (.cells #[.int .i64 m, .int .i64 0, .slice none 0 0, .slice none 0 0] tRc)) = W1 at *
  obtain ⟨p, hp⟩ : ∃ r, w1.heap.size = r := ⟨_, rfl⟩
  rw [hp] at hL ⊢
  obtain ⟨B, hB⟩ : ∃ r, W0.heap.size = r := ⟨_, rfl⟩
  rw [hB] at hL
  have hRB : R < B := by have := lt_of_blk hbR0.out; omega
  replace hRB := Lib.hid hRB
  clear hp hB hbR0
  go_wp2
  go_loopw [9] (fun iv wr => ∃ (k : Nat) (vc : Value) (A : List AT) (x : RtV), iv = .int .i64 k ∧ k ≤ NL ∧ Hid (Lp [R] p w wr B bp bm vc A x (runT5 (L.take k) (Tc.new m)) k (4 * k)) ∧ Hid (wr.heap[R]? = some (.cells #[.int .i64 0, .int .i64 0, .slice none 0 0, .slice none 0 0] tRc))) (fun iv _ => NL - (intOf iv).toNat)
  case atStart => exact ⟨0, _, _, _, rfl, by omega, hL, hbR2⟩
  case round =>
    clear hL hbR2
    obtain ⟨k, vc, A, x, rfl, hk, hL, hbR⟩ := hrel
    by_cases hlt : k < NL
    · skip
      have hlt2 : (k : Int) < NL := by omega
      have hkL : k < L.length := by rw [hNL.out]; exact hlt
      obtain ⟨g, of, c', s, y, hv, hSm, hIR, hFit, f0, f1, f2, f3, f4, f5, f6, f7, f8, f9, f10, f11, f12, f13⟩ := hLO.out.elem hkL
      rw [hNL.out] at hv
      cases hv
      have hrun := runT5_take L (Tc.new m) k hkL
      have hfk := hfew.out _ (List.getElem_mem hkL)
      have hsS := hSm.lt
      have hsI := hIR.lt
      obtain ⟨⟨ok, oi, on, oS, oa, ⟨id0, id1⟩⟩, ho⟩ : ∃ o, L[k] = o := ⟨_, rfl⟩
      rw [ho] at hSm hIR hFit f0 f1 f2 f12 f13 hrun hfk hsS hsI
      simp only at f0 f1 f2 f12 f13
      have hbw := hL.out.b0.1
      have hst := fun (W : World) (hk' : Keeps [] wr W) => step5_c _ W B bp bm vc A x _ k (4 * k) (hL.out.call hk') hL.out.ok (by omega) (by omega) (by rw [runT5_m]; exact hm.out) ⟨ok, oi, on, oS, oa, (id0, id1)⟩ s y (hSm.keeps (hL.out.ks.trans hk')) (hIR.keep (hL.out.ks.trans hk') (by simp)) hFit hfk.1 hfk.2 (fun hne b hb => Nat.lt_of_lt_of_le (hsS hne b hb) hbw) (fun b hne hb => Nat.lt_of_lt_of_le (hsI hne b hb) hbw)
      obtain ⟨y0, y1, y2, y3, y4, y5, y6, y7, y8, y9⟩ := y
      obtain ⟨s0, s1, s2⟩ := s
      have hkw := hL.out.ks
      replace f0 := hkw.val f0
      replace f1 := hkw.val f1
      replace f2 := hkw.val f2
      replace f3 := hkw.val f3
      replace f4 := hkw.val f4
      replace f5 := hkw.val f5
      replace f6 := hkw.val f6
      replace f7 := hkw.val f7
      replace f8 := hkw.val f8
      replace f9 := hkw.val f9
      replace f10 := hkw.val f10
      replace f11 := hkw.val f11
      replace f12 := hkw.val f12
      replace f13 := hkw.val f13
      obtain ⟨x0, x1, ⟨x2, x3, x4⟩, ⟨x5, x6, x7⟩⟩ := x
      have hbp := hL.out.bk
      simp only [slv] at hbp f3
      simp only [AnV.v] at f4 f5 f6 f7 f8 f9 f10 f11
      obtain ⟨T, hT⟩ : ∃ T, runT5 (L.take k) (Tc.new m) = T := ⟨_, rfl⟩
      rw [hT] at hL hst hrun
      simp only [rtV, slv, ptrV, opV5, AnV.v] at hst
      obtain ⟨e0, e1, e2, e3, ef, el⟩ := cl4 hbp
      replace hbp := Lib.hid hbp
      replace hst := Lib.hid hst
      replace hrun := Lib.hid hrun
      replace ho := Lib.hid ho
      replace hT := Lib.hid hT
      replace hfk := Lib.hid hfk
      clear hSm hIR hFit hsS hsI hbw hkw
      go_upto_region 8 with fail
      go_cut [10, 11] from 19 to 39 (fun sq sok wx => ∃ (u0 u1 : Int) (u2 : Option Addr) (u3 u4 : Nat) (u5 : Option Addr) (u6 u7 : Nat) (vc' : Value) (A' : List AT) (q : Nat), sq = .pointer (some ⟨q, 0, none⟩) ∧ sok = .bool true ∧ Hid (TB (q :: p :: [R]) wx B bp bm vc' A' ⟨u0, u1, (u2, u3, u4), (u5, u6, u7)⟩ (Op5.step ⟨ok, oi, on, oS, oa, (id0, id1)⟩ T)) ∧ Hid (Mv (ownTc bp bm vc A) (ownTc bp bm vc' A') wr wx) ∧ Hid (wx.heap[q]? = some (.cells #[.int .i64 u0, .int .i64 u1, .slice u2 u3 u4, .slice u5 u6 u7] tRc (0, 0))))
      case first =>
        have hown : ∀ b ∈ ownTc bp bm vc A, b < wr.heap.size := fun b hb => hL.out.tb.own b (List.mem_append_right _ hb)
        replace hown := Lib.hid hown
        have hgl := lt_of_cell f0
        go_region_with (go_at_call 12; refine (hst.out _ ?hkW).mono ?_; (case hkW => first | exact Keeps.refl [] _ | exact (Keeps.refl [] _).drew | exact ((Keeps.refl [] _).alloc _).drew | exact (Keeps.refl [] _).alloc _); rintro e w5 ⟨⟨u0, u1, ⟨u2, u3, u4⟩, ⟨u5, u6, u7⟩⟩, vc', A', rfl, hTB, hM⟩; simp only [rtV, slv]; first | (have hq5 := (hM.k.block wr.heap.size (lt_of_blk (heap_alloc_new wr (.cells #[.int .i64 0, .int .i64 0, .slice none 0 0, .slice none 0 0] tRc))) (fun hm => Nat.lt_irrefl _ (hown.out _ hm))).trans (heap_alloc_new wr (.cells #[.int .i64 0, .int .i64 0, .slice none 0 0, .slice none 0 0] tRc)); obtain ⟨v0, v1, v2, v3, vf, vl⟩ := cl4 hq5) | skip)
        all_goals (go_wp2_with fail)
        all_goals go_meet
        all_goals first
          | (have hq := heap_alloc_new w5 (.cells #[.int .i64 u0, .int .i64 u1, .slice u2 u3 u4, .slice u5 u6 u7] tRc)
             obtain ⟨a, b⟩ := Lp.callA (q := w5.heap.size) (Keeps.refl [] wr).drew hTB hM ((Keeps.refl [] w5).alloc (.cells #[.int .i64 u0, .int .i64 u1, .slice u2 u3 u4, .slice u5 u6 u7] tRc)) ⟨Nat.le_refl _, lt_of_blk hq⟩
             exact ⟨u0, u1, u2, u3, u4, u5, u6, u7, vc', A', w5.heap.size, rfl, rfl, Lib.hid a, Lib.hid b, Lib.hid hq⟩)
          | (obtain ⟨s1, s2⟩ := sc4 (.int .i64 u0) (.int .i64 u1) (.slice u2 u3 u4) (.slice u5 u6 u7) hq5
             obtain ⟨a, b⟩ := Lp.callB (q := wr.heap.size) ((Keeps.refl [] wr).alloc (.cells #[.int .i64 0, .int .i64 0, .slice none 0 0, .slice none 0 0] tRc)).drew (Nat.le_refl _) (lt_of_blk (heap_alloc_new wr (.cells #[.int .i64 0, .int .i64 0, .slice none 0 0, .slice none 0 0] tRc))) hTB hM hq5 s2
             exact ⟨u0, u1, u2, u3, u4, u5, u6, u7, vc', A', wr.heap.size, rfl, rfl, Lib.hid a, Lib.hid b, Lib.hid s1⟩)
      case rest =>
        obtain ⟨u0, u1, u2, u3, u4, u5, u6, u7, vc', A', q, rfl, rfl, hT5, hM5, hbq⟩ := hcut
        have hbp5 := (hM5.out.k.block _ el (hL.out.tb.notOwn hbp.out)).trans hbp.out
        have hbR5 := (hM5.out.k.block _ (lt_of_blk hbR.out) (hL.out.tb.notOwn hbR.out)).trans hbR.out
        clear f0 f1 f2 f3 f4 f5 f6 f7 f8 f9 f10 f11 f12 f13 e0 e1 e2 e3 ef hst
        obtain ⟨m0, m1, m2, m3, mf, ml⟩ := cl4 hbq.out
        obtain ⟨e0, e1, e2, e3, ef, el5⟩ := cl4 hbp5
        have g12 := sc4 (.int .i64 u0) (.int .i64 u1) (.slice u2 u3 u4) (.slice u5 u6 u7) hbp5
        obtain ⟨g1, g2⟩ := g12
        have hL5 := hL.out.next hM5.out hT5.out hfk.out.1 hfk.out.2 g2 g1
        rw [← hrun.out] at hL5
        have hRp : R ≠ p := by have h1 := hL.out.b0; have h2 := hRB.out; omega
        replace hbR5 := Lib.hid ((g2.block _ (lt_of_blk hbR5) (by simpa using hRp)).trans hbR5)
        clear hRp hbR
        replace hL5 := Lib.hid hL5
        clear g1 g2 hT5 hM5 hL hbp5 hfk
        go_upto_region 10 with fail
        generalize ((((wc.setCell ⟨p, 0, none⟩ (.int .i64 u0)).setCell ⟨p, 1, none⟩ (.int .i64 u1)).setCell ⟨p, 2, none⟩ (.slice u2 u3 u4)).setCell ⟨p, 3, none⟩ (.slice u5 u6 u7)) = W5 at *
        clear m0 m1 m2 m3 mf ml e0 e1 e2 e3 ef el5 hbq
        go_wp2
        go_roundw
        case rel =>
          exact ⟨k + 1, vc', A', _, rfl, by omega, hL5, hbR5⟩
        case measure => simp [intOf]; omega
    · have hlt2 : ¬ ((k : Int) < NL) := by omega
      have hkN : L.take k = L := List.take_of_length_le (by rw [hNL.out]; omega)
      have hkk : k = NL := by omega
      rw [hkN] at hL
      obtain ⟨x0, x1, ⟨x2, x3, x4⟩, ⟨x5, x6, x7⟩⟩ := x
      obtain ⟨T, hT⟩ : ∃ T, runT5 L (Tc.new m) = T := ⟨_, rfl⟩
      have hmT : W64 (runT5 L (Tc.new m)).m := by rw [runT5_m]; exact hm.out
      rw [hT] at hL hmT
      have hsm := fun (W : World) (hk' : Keeps [] wr W) => same5_c [p, R] W B bp bm vc A _ T k (4 * k) (hL.out.tb.keeps hk') hL.out.ok (by omega) (by omega) hmT
      have hpR : ¬ p = R := by have h1 := hL.out.b0; have h2 := hRB.out; omega
      simp only [rtV, slv, ptrV] at hsm
      replace hsm := Lib.hid hsm
      replace hT := Lib.hid hT
      replace hkN := Lib.hid hkN
      clear hmT
      go_upto_region 12 with fail
      have hbpd : wr.drew.heap[p]? = _ := hL.out.bk
      have hbRd : wr.drew.heap[R]? = _ := hbR.out
      have hkd : Keeps [] wr wr.drew := (Keeps.refl [] wr).drew
      simp only [slv] at hbpd
      obtain ⟨e0, e1, e2, e3, ef, el⟩ := cl4 hbpd
      replace hbRd := Lib.hid hbRd
      replace hkd := Lib.hid hkd
      clear hbpd
      refine Free.wp_region_chain (fun i => i == 4 || i == 6) (fun i => true) (fun _ b => b = R) (by kernel_rfl) (by kernel_rfl) (by kernel_rfl) ?_
      generalize wr.drew = wd at *
      (repeat (first | (apply Free.cw_pure rfl rfl; (intro w'; go_simp <;> exact rfl); go_frame) | (apply Free.cw_steady rfl rfl rfl; (intro w' hS; have q0 := Free.sx_cell hS e0 (fun _ _ hT => hpR hT); have q1 := Free.sx_cell hS e1 (fun _ _ hT => hpR hT); have q2 := Free.sx_cell hS e2 (fun _ _ hT => hpR hT); have q3 := Free.sx_cell hS e3 (fun _ _ hT => hpR hT); go_simp <;> exact rfl); go_frame) | (refine Free.cw_skip rfl ?_; go_frame)))
      refine Free.cw_loud rfl rfl (fun K hK => ?_)
      go_wp2_with fail
      refine (hsm.out _ hkd.out).mono ?_
      rintro e w6 ⟨rfl, hk6⟩
      refine hK _ _ rfl (Free.KeepsP.of hk6 (by simp)) ?_
      clear hK K hsm
      have hbR6 := (hk6.block _ (lt_of_blk hbRd.out) (by simp)).trans hbRd.out
      obtain ⟨v0, v1, v2, v3, vf, vl⟩ := cl4 hbR6
      have hk6' := hkd.out.trans hk6
      replace hbR6 := Lib.hid hbR6
      replace hk6' := Lib.hid hk6'
      clear hk6
      (repeat (apply Free.cw_pure rfl rfl; (intro w'; go_simp <;> exact rfl); go_frame))
      refine Free.cw_loud rfl rfl (fun K hK => ?_)
      go_wp2
      obtain ⟨g1, g2⟩ := sc4 (.int .i64 x0) (.int .i64 x1) (.slice x2 x3 x4) (.slice x5 x6 x7) hbR6.out
      refine hK _ _ rfl (Free.KeepsP.of g2 (fun b hb => by simpa using hb)) ?_
      clear hK K
      have hT6 := (((hL.out.tb.keeps hk6'.out).store (q := R) (by simp) hbR6.out g2).sub (Q := []) (Keeps.refl [] _) (fun b hb => by simp at hb))
      have hkf := (hL.out.ks.trans hk6'.out).fresh g2 (fun b hb => by simp only [List.mem_singleton] at hb; subst hb; have := hR.out; exact .inr (by omega))
      replace g1 := Lib.hid g1
      replace hT6 := Lib.hid hT6
      replace hkf := Lib.hid hkf
      clear g2
      (repeat (apply Free.cw_pure rfl rfl; (intro w'; go_simp <;> exact rfl); go_frame))
      refine Free.cw_nil ?_
      go_wp2
      refine bodyPost_ret (results_rt3 rfl _ _ _ _ _ _ _ _ _ rfl g1.out) rfl ?_
      rw [hT.out, ← hkk]
      exact ⟨B, bp, bm, vc, A, ⟨x0, x1, (x2, x3, x4), (x5, x6, x7)⟩, rfl, hT6.out, hL.out.ok, hkf.out, hL.out.b0.1⟩
end Go.Proofs.YtpobepninifenaaGreat

namespace Go.Proofs.YtpobepninifenaaGreat
open Go Go.RowKit

def awT1 : Tc := (Tc.new 1).start [(2, 5), (3, 5), (2, 5)]
def awT2 : Tc := awT1.finish (1, 1)
def awT3 : Tc := awT2.start [(2, 5)]
theorem aw5_ids : (Tc.new 1).startIds [(2, 5), (3, 5), (2, 5)] = [(1, 1), (1, 2)] := by decide +kernel
theorem aw5_find : awT1.find (1, 1) ≠ none := by decide +kernel
theorem aw5_ids3 : awT2.startIds [(2, 5)] = [(1, 3)] := by decide +kernel
theorem aw5_s : awT3.s = 3 := by decide +kernel
theorem aw5_m : awT2.m = 1 := by decide +kernel
set_option maxRecDepth 100000 in
set_option maxHeartbeats 10000000 in
theorem awake5_c (w : World) : Calls Tryz.prog 9 #[] w fun e w' => e = .returned (.bool true) ∧ Keeps [] w w' := by
  go_enter Tryz.func9, Tryz.ntmps9
  go_wp2_with fail
  refine (tnew_c w 1).mono ?_
  rintro e w1 ⟨bp, bm, rfl, hT, hk1⟩
  have hX := Sh.R.made shSm w1 [(⟨2, 5, false, 0, (none, 0, 0)⟩ : SmV), (⟨3, 5, false, 0, (none, 0, 0)⟩ : SmV), (⟨2, 5, false, 0, (none, 0, 0)⟩ : SmV)] #[.int .i64 2, .int .u64 5, .bool false, .int .i64 0, .slice none 0 0, .int .i64 3, .int .u64 5, .bool false, .int .i64 0, .slice none 0 0, .int .i64 2, .int .u64 5, .bool false, .int .i64 0, .slice none 0 0] tSm rfl (by decide) 3 rfl
  have hkA := (Keeps.refl [] w1).alloc (.cells #[.int .i64 2, .int .u64 5, .bool false, .int .i64 0, .slice none 0 0, .int .i64 3, .int .u64 5, .bool false, .int .i64 0, .slice none 0 0, .int .i64 2, .int .u64 5, .bool false, .int .i64 0, .slice none 0 0] tSm)
  have hTA := hT.keeps hkA
  have hs := tstart_c (w1.alloc (.cells #[.int .i64 2, .int .u64 5, .bool false, .int .i64 0, .slice none 0 0, .int .i64 3, .int .u64 5, .bool false, .int .i64 0, .slice none 0 0, .int .i64 2, .int .u64 5, .bool false, .int .i64 0, .slice none 0 0] tSm)) w.heap.size bp bm _ [] (Tc.new 1) 0 0 hTA (Tc.Ok.new 1) [(2, 5), (3, 5), (2, 5)] _ ⟨_, hX, rfl⟩ (fun x hx => by simp only [List.mem_cons, List.not_mem_nil, or_false] at hx; rcases hx with rfl | rfl | rfl <;> exact ⟨w64_iff.2 (by decide), by decide⟩) (w64_iff.2 (by decide)) (by decide) (fun _ b hb hm => by
    have h1 := (hT.tag hm).1
    simp [Value.ownBlock] at hb
    omega)
  have ho1 : awT1.Ok 0 3 := Tc.Ok.start [(2, 5), (3, 5), (2, 5)] (Tc.Ok.new 1)
  have hk1A := hk1.trans hkA
  unfold StartPost at hs
  rw [aw5_ids] at hs
  simp only [ptrV] at hs ⊢
  replace hs := Lib.hid hs
  replace hTA := Lib.hid hTA
  replace hk1A := Lib.hid hk1A
  replace ho1 := Lib.hid ho1
  clear hX hkA hT hk1
  go_wp2_with fail
  refine hs.out.mono ?_
  rintro e w2 ⟨v, A2, rfl, hO, hT2, hM2⟩
  have hk2 : Keeps [] w w2 := hk1A.out.fresh hM2.k (fun b hb => .inr (hTA.out.ge hb))
  replace hT2 : TcM w2 w.heap.size bp bm _ A2 awT1 := hT2
  obtain ⟨g, c, rfl, _, _⟩ := hO.form1 (by decide)
  obtain ⟨g0, o0, c0, e1, he⟩ := hO.r.elem (k := 0) (by decide)
  obtain ⟨g1, o1, c1, e2, he'⟩ := hO.r.elem (k := 1) (by decide)
  cases e1
  cases e2
  have f0 := he 0 _ rfl
  have f1 := he 1 _ rfl
  have e0 := he' 0 _ rfl
  have e1 := he' 1 _ rfl
  simp [shId] at f0 f1 e0 e1
  have hgo : g ∉ ownTc bp bm (.slice none 0 0) A2 := fun hm => by
    obtain ⟨cs, hc⟩ := hO.tag g rfl
    exact (hT2.tag hm).not (by decide) cs _ hc
  have hf := fun (W : World) (hk : Keeps [] w2 W) => tfinish_c W w.heap.size bp bm _ A2 awT1 0 3 (hT2.keeps hk) ho1.out (by decide) (by decide) (1, 1) ⟨w64_iff.2 (by decide), w64_iff.2 (by decide)⟩
  have ho2 : awT2.Ok 1 3 := ho1.out.finish (fun t ht => by
    obtain ⟨a, ha, rfl⟩ := List.mem_map.1 (hT2.ac ▸ ht)
    exact (hT2.tr a ha).inv) (1, 1)
  have hOB : ∀ b ∈ ownTc bp bm (.slice none 0 0) A2, w.heap.size ≤ b := fun b hb => hT2.ge hb
  unfold FinPost at hf
  simp only [if_neg aw5_find, ptrV, ipV] at hf
  have hnI := fun W => neId W (1, 2) (1, 2)
  simp only [ne_eq, not_true_eq_false, decide_false, ipV] at hnI
  simp only [List.length_cons, List.length_nil, Nat.zero_add, Nat.reduceAdd]
  replace hf := Lib.hid hf
  replace hgo := Lib.hid hgo
  replace hk2 := Lib.hid hk2
  replace ho2 := Lib.hid ho2
  replace hOB := Lib.hid hOB
  clear hO he he' hM2 hT2 hs hTA hk1A ho1
  go_wp2_with fail
  refine (hf.out _ (Keeps.refl [] w2)).mono ?_
  rintro e w3 ⟨vc3, A3, rfl, hT3, hM3⟩
  have hk3 : Keeps [] w w3 := hk2.out.fresh hM3.k (fun b hb => .inr (hOB.out b hb))
  replace hT3 : TcM w3 w.heap.size bp bm vc3 A3 awT2 := hT3
  replace hT3 := Lib.hid hT3
  replace hk3 := Lib.hid hk3
  clear hM3 hk2 hOB hf f0 f1 e0 e1 hgo
  have hX := Sh.R.made shSm w3 [(⟨2, 5, false, 0, (none, 0, 0)⟩ : SmV)] #[.int .i64 2, .int .u64 5, .bool false, .int .i64 0, .slice none 0 0] tSm rfl (by decide) 1 rfl
  have hkA := (Keeps.refl [] w3).alloc (.cells #[.int .i64 2, .int .u64 5, .bool false, .int .i64 0, .slice none 0 0] tSm)
  have hTA := hT3.out.keeps hkA
  have hs := tstart_c (w3.alloc (.cells #[.int .i64 2, .int .u64 5, .bool false, .int .i64 0, .slice none 0 0] tSm)) w.heap.size bp bm _ A3 awT2 1 3 hTA ho2.out [(2, 5)] _ ⟨_, hX, rfl⟩ (fun x hx => by simp only [List.mem_cons, List.not_mem_nil, or_false] at hx; rcases hx with rfl <;> exact ⟨w64_iff.2 (by decide), by decide⟩) (by rw [aw5_m]; exact w64_iff.2 (by decide)) (by decide) (fun _ b hb hm => by
    have h1 := (hT3.out.tag hm).1
    simp [Value.ownBlock] at hb
    omega)
  have hkA3 := hk3.out.trans hkA
  unfold StartPost at hs
  rw [aw5_ids3] at hs
  simp only [ptrV] at hs
  replace hs := Lib.hid hs
  replace hkA3 := Lib.hid hkA3
  replace hTA := Lib.hid hTA
  clear hX hkA
  go_wp2_with fail
  refine hs.out.mono ?_
  rintro e w4 ⟨v, A4, rfl, hO, hT4, hM4⟩
  have hk4 : Keeps [] w w4 := hkA3.out.fresh hM4.k (fun b hb => .inr (hTA.out.ge hb))
  replace hT4 : TcM w4 w.heap.size bp bm _ A4 awT3 := hT4
  obtain ⟨g, c, rfl, _, _⟩ := hO.form1 (by decide)
  obtain ⟨g0, o0, c0, e1, he⟩ := hO.r.elem (k := 0) (by decide)
  cases e1
  have d0 := he 0 _ rfl
  have d1 := he 1 _ rfl
  simp [shId] at d0 d1
  have hst := fun (W : World) (hk : Keeps [] w4 W) => started_c W w.heap.size bp bm _ A4 awT3 (hT4.keeps hk)
  rw [aw5_s] at hst
  simp only [ptrV] at hst
  have hnI := fun W => eqId W (1, 3) (1, 3)
  simp only [decide_true, ipV] at hnI
  simp only [List.length_cons, List.length_nil, Nat.zero_add]
  replace hst := Lib.hid hst
  replace hk4 := Lib.hid hk4
  clear hO he hM4 hT4 hs hTA hkA3 hT3 hk3 ho2
  go_wp2_with fail
  refine (hst.out _ (Keeps.refl [] w4)).mono ?_
  rintro e w5 ⟨rfl, hw⟩
  subst hw
  clear hst
  go_wp2
  go_ret
  exact ⟨rfl, hk4.out⟩
end Go.Proofs.YtpobepninifenaaGreat

namespace Go.Proofs.YtpobepninifenaaGreat

theorem Tc.finish_some {T : Tc} {id : Int × Int} {i : Nat} (h : T.find id = some i) : (T.finish id).act = T.act.eraseIdx i ∧ (∀ hi : i < T.act.length, (T.finish id).cs = if T.act[i].state = 2 then T.cs ++ [certOf T.act[i]] else T.cs) ∧ (T.finish id).m = T.m ∧ (T.finish id).s = T.s := by
  unfold Tc.finish
  rw [h]
  refine ⟨rfl, fun hi => ?_, rfl, rfl⟩
  simp only [List.getElem?_eq_getElem hi, Option.map_some, Option.some.injEq, Option.toList_some]
end Go.Proofs.YtpobepninifenaaGreat

namespace Go.Proofs.YtpobepninifenaaGreat
open Go Go.RowKit

/-- Rows that say certificates, out of blocks from S0 to S1. -/
def LCr (w : World) (S0 S1 : Nat) (X : List CtV) (C : List Ct) : Prop := X.length = C.length ∧ ∀ (k : Nat) (x : CtV) (c : Ct), X[k]? = some x → C[k]? = some c → CtO w x c ∧ ∀ b, (slv x.va).ownBlock = some b → S0 ≤ b ∧ b < S1
theorem LCr.keepP {w w' : World} {S0 S1 p : Nat} {X : List CtV} {C : List Ct} {cs : Array Value} (h : LCr w S0 S1 X C) (hk : Keeps [p] w w') (hp : w.heap[p]? = some (.cells cs tRc (0, 0))) (hps : p < S0) : LCr w' S0 S1 X C :=
  ⟨h.1, fun k x c h1 h2 => by
    obtain ⟨g1, g2⟩ := h.2 k x c h1 h2
    have hne : ∀ (cs' : Array Value) (e : TypeId) (f : Nat × Nat), e ≠ tRc → w.heap[p]? ≠ some (Obj.cells cs' e f) := fun cs' e f he g => by rw [hp] at g; cases g; exact he rfl
    refine ⟨g1.keepG hk (hk.ki (fun b hb cs' f e => by simp only [List.mem_singleton] at hb; subst hb; exact hne _ _ _ (by decide) e)) (fun b hb cs' f => ?_) (fun b hb hm => ?_), g2⟩
    · simp only [List.mem_singleton] at hb
      subst hb
      exact ⟨hne _ _ _ (by decide), hne _ _ _ (by decide)⟩
    · simp only [List.mem_singleton] at hm
      subst hm
      have := (g2 _ hb).1
      omega⟩
/-- A store into a map that is none of the tracer's. -/
theorem TcM.keepM {w w' : World} {B bp bm : Nat} {vc : Value} {A : List AT} {T : Tc} {b : Nat} (h : TcM w B bp bm vc A T) (hk : Keeps [b] w w') (hb : b ∉ ownTc bp bm vc A) (hm : ∃ es c, w.heap[b]? = some (Obj.map es c)) : TcM w' B bp bm vc A T := by
  obtain ⟨es, c, hm⟩ := hm
  have hne : ∀ (cs' : Array Value) (e : TypeId) (f : Nat × Nat), w.heap[b]? ≠ some (Obj.cells cs' e f) := fun cs' e f g => by rw [hm] at g; cases g
  refine h.keep hk (hk.ki (fun b' hb' cs' f e => by simp only [List.mem_singleton] at hb'; subst hb'; exact hne _ _ _ e)) (fun b' hb' => ?_)
  simp only [List.mem_singleton] at hb'
  subst hb'
  exact ⟨hb, fun cs f => ⟨hne _ _ _, hne _ _ _, hne _ _ _⟩⟩
theorem zeroBo (w : World) : (zeroValue 4).run Tryz.prog w = .ok (.bool false) w := by kernel_rfl
end Go.Proofs.YtpobepninifenaaGreat

namespace Go.Proofs.YtpobepninifenaaGreat
open Go Go.RowKit

theorem Tc.start_append (T : Tc) (S1 S2 : List Sm) : T.start (S1 ++ S2) = (T.start S1).start S2 := by unfold Tc.start; rw [List.foldl_append]
theorem Tc.start_cons (T : Tc) (x : Sm) (S : List Sm) : T.start (x :: S) = (T.start1 x).start S := rfl
theorem Tc.start1_fx (T : Tc) (x : Sm) : (T.start1 x).m = T.m ∧ (T.start1 x).s = T.s + (T.ids1 x).length ∧ ∃ r, (T.start1 x).act = T.act ++ r := by
  unfold Tc.start1 Tc.ids1
  split
  · exact ⟨rfl, by simp, [], by simp⟩
  · exact ⟨rfl, by simp, _, rfl⟩
theorem Tc.start_fx : ∀ (S : List Sm) (T : Tc), (T.start S).m = T.m ∧ (T.start S).s = T.s + (T.startIds S).length ∧ ∃ r, (T.start S).act = T.act ++ r
  | [], T => ⟨rfl, by simp [Tc.start, Tc.startIds], [], by simp [Tc.start]⟩
  | x :: S, T => by
    obtain ⟨h1, h2, r1, h3⟩ := T.start1_fx x
    obtain ⟨g1, g2, r2, g3⟩ := Tc.start_fx S (T.start1 x)
    rw [Tc.start_cons, Tc.startIds]
    refine ⟨g1.trans h1, ?_, r1 ++ r2, by rw [g3, h3, List.append_assoc]⟩
    rw [g2, h2, List.length_append]
    push_cast
    omega
/-- What round k of Start does. -/
theorem Tc.round {T : Tc} {S : List Sm} {k : Nat} (hk : k < S.length) : (T.startIds (S.take (k + 1))).length = (T.startIds (S.take k)).length + (if (T.start (S.take k)).begins (smN S[k]) = true then 0 else 1) ∧
    (T.start (S.take (k + 1))).act = (T.start (S.take k)).act ++ (if (T.start (S.take k)).begins (smN S[k]) = true then [] else [Tr.new T.m (T.s + (T.startIds (S.take k)).length + 1) (smN S[k])]) := by
  obtain ⟨h1, h2, _⟩ := Tc.start_fx (S.take k) T
  rw [List.take_succ_eq_append_getElem hk, Tc.startIds_append, Tc.start_append]
  constructor
  · rw [List.length_append]
    congr 1
    show (((T.start (S.take k)).ids1 S[k]) ++ []).length = _
    unfold Tc.ids1
    split <;> simp
  · show ((T.start (S.take k)).start1 S[k]).act = _
    unfold Tc.start1
    split
    · simp
    · rw [h1, h2]
theorem Tc.start_new {T : Tc} {S : List Sm} {k : Nat} (hk : k < S.length) (hb : (T.start (S.take k)).begins (smN S[k]) = false) {n : Nat} (hn : (T.startIds (S.take k)).length = n) :
    (T.startIds S)[n]? = some (T.m, T.s + n + 1) ∧ Tr.new T.m (T.s + n + 1) (smN S[k]) ∈ (T.start S).act := by
  obtain ⟨h1, h2, _⟩ := Tc.start_fx (S.take k) T
  have hS : S = S.take k ++ ([S[k]] ++ S.drop (k + 1)) := by
    rw [← List.append_assoc, ← List.take_succ_eq_append_getElem hk, List.take_append_drop]
  have e1 : T.startIds S = T.startIds (S.take k) ++ ([(T.m, T.s + n + 1)] ++ ((T.start (S.take k)).start [S[k]]).startIds (S.drop (k + 1))) := by
    conv => lhs; rw [hS]
    rw [Tc.startIds_append, Tc.startIds_append]
    congr 2
    show ((T.start (S.take k)).ids1 S[k]) ++ [] = _
    unfold Tc.ids1
    rw [if_neg (by rw [hb]; decide), h1, h2, hn]
    rfl
  constructor
  · rw [e1, List.getElem?_append_right (by omega), hn]
    simp
  · obtain ⟨_, _, r, hr⟩ := Tc.start_fx (S.drop (k + 1)) (T.start (S.take (k + 1)))
    have e2 : T.start S = (T.start (S.take (k + 1))).start (S.drop (k + 1)) := by rw [← Tc.start_append, List.take_append_drop]
    have h3 := (Tc.round (T := T) hk).2
    rw [if_neg (by rw [hb]; decide), hn] at h3
    rw [e2, hr, h3]
    simp
theorem get_begins (T : Tc) (st : T3) : MapS.get st (T.act.map (fun t => (t.st, true))) = if T.begins st = true then some true else none := by
  unfold Tc.begins
  induction T.act with
  | nil => rfl
  | cons t L ih =>
    simp only [List.map_cons, List.any_cons, MapS.get]
    by_cases h : t.st = st
    · simp [h]
    · simp only [h, decide_false, Bool.false_or, if_false]
      simpa using ih
/-! the starts are keys -/
def stOk (x : T3) : Prop := W64 x.1 ∧ x.2.1 < 18446744073709551616 ∧ W64 x.2.2
def Tc.StOk (T : Tc) : Prop := ∀ t ∈ T.act, stOk t.st
theorem Tc.StOk.start1 {T : Tc} (h : T.StOk) {x : Sm} (hx : smOk x) : (T.start1 x).StOk := by
  unfold Tc.start1
  split
  · exact h
  · intro t ht
    simp only [List.mem_append, List.mem_singleton] at ht
    rcases ht with ht | rfl
    · exact h t ht
    · exact ⟨hx.1, hx.2, w64_iff.2 (by show (-9223372036854775808 : Int) ≤ 0 ∧ (0 : Int) ≤ 9223372036854775807; omega)⟩
theorem Tc.StOk.start : ∀ (S : List Sm) {T : Tc}, T.StOk → (∀ x ∈ S, smOk x) → (T.start S).StOk
  | [], T, h, _ => h
  | x :: S, T, h, hS => Tc.StOk.start S (h.start1 (hS x (by simp))) (fun y hy => hS y (by simp [hy]))
theorem Tc.StOk.finish {T : Tc} (h : T.StOk) (id : Int × Int) : (T.finish id).StOk := by
  cases hf : T.find id with
  | none => rw [Tc.finish_none hf]; exact h
  | some i =>
    intro t ht
    rw [(Tc.finish_some hf).1] at ht
    exact h t (List.mem_of_mem_eraseIdx ht)
theorem Tc.StOk.set {T : Tc} (h : T.StOk) {i : Nat} {t u : Tr} (hg : T.act[i]? = some t) (hu : u.id3 = t.id3) : (T.setT i u).StOk := by
  intro v hv
  rcases List.mem_or_eq_of_mem_set hv with hv | rfl
  · exact h v hv
  · have h1 : v.st = t.st := (Prod.mk.inj (Prod.mk.inj hu).2).2
    rw [h1]
    obtain ⟨hi, e⟩ := List.getElem?_eq_some_iff.1 hg
    exact h t (e ▸ List.getElem_mem hi)
theorem Tc.StOk.step {T : Tc} (h : T.StOk) {o : Op5} (hS : ∀ x ∈ o.S, smOk x) : (o.step T).StOk := by
  unfold Op5.step
  split
  · exact Tc.StOk.start _ h hS
  · split
    · exact h.finish _
    · split
      · exact h
      · split
        · exact h
        · rename_i t hg
          split
          · exact h.set hg (Tr.answer_id _ _)
          · split
            · exact h.set hg (Tr.queries_id _)
            · split
              · exact h.set hg (Tr.agreeT_id _ _)
              · split
                · exact h.set hg (Tr.refuseT_id _ _)
                · split
                  · exact h.finish _
                  · exact h
theorem runT5_stOk : ∀ (L : List Op5) {T : Tc}, T.StOk → (∀ o ∈ L, ∀ x ∈ o.S, smOk x) → (runT5 L T).StOk
  | [], T, h, _ => h
  | o :: L, T, h, hL => runT5_stOk L (h.step (hL o (by simp))) (fun p hp => hL p (by simp [hp]))
theorem ndLaw : WideMaps.KeyLaw Tryz.prog tN := deep_law_laid laidOut (m := 4) (by omega) (of_decide_eq_true (by kernel_rfl)) (by kernel_rfl) (by rw [Tryz.underlying53])
theorem nd_key (x : T3) (h : stOk x) : ∃ l, keyOf Tryz.prog tN (tV x) = some l := by
  obtain ⟨m, n, o⟩ := x
  obtain ⟨hm, hn, ho⟩ := h
  simp only at hm ho hn
  obtain ⟨d, hd⟩ : ∃ d, Tryz.prog.types.size = d + 2 := ⟨Tryz.prog.types.size - 2, by have : 2 ≤ Tryz.prog.types.size := of_decide_eq_true (by kernel_rfl); omega⟩
  have h1 : Tryz.prog.keyType tN = true := by kernel_rfl
  have h2 : (tV (m, n, o)).formed Tryz.prog tN = true := by kernel_rfl
  have c1 : Tryz.prog.cellsOf tN = 3 := by kernel_rfl
  have c3 : Tryz.prog.cellsOf 3 = 1 := by kernel_rfl
  have c4 : Tryz.prog.cellsOf 34 = 1 := by kernel_rfl
  unfold keyOf
  simp only [Tryz.underlying53, h1, h2, hd, Bool.and_self, if_true]
  have hk : Tryz.prog.keyLits (d + 2 + 1) tN (tV (m, n, o)).cells.toList = some [.int .i64 m, .int .u64 n, .int .i64 o] := by
    have wm : (Lit.int .i64 m).wf = true := hm
    have wo : (Lit.int .i64 o).wf = true := ho
    have wn := w64u hn
    simp [Program.keyLits, Tryz.underlying53, Tryz.underlying3, Tryz.underlying34, c1, c3, c4, Value.cells, wm, wo, wn]
  rw [hk]
  exact ⟨_, rfl⟩
def ktNd : MapS.KT Tryz.prog tN T3 := ⟨tV, stOk, Maps.Keyed.of_law ndLaw, nd_key, fun x y h => by
  obtain ⟨a, b, c⟩ := x
  obtain ⟨a', b', c'⟩ := y
  simp [tV] at h
  obtain ⟨h1, h2, h3⟩ := h
  rw [h1, Int.ofNat.inj h2, h3]⟩
end Go.Proofs.YtpobepninifenaaGreat

namespace Go.Proofs.YtpobepninifenaaGreat
open Go Go.RowKit

set_option maxRecDepth 100000 in
set_option maxHeartbeats 20000000 in
theorem starts_w (w : World) (m : Int) (vO : Value) (L : List Op5) (vS : Value) (S : List Sm) (hm : W64 m) (hLO : LO5 w vO L) (hS : Sms w vS S) (hfit : ∀ x ∈ S, smOk x) :
    Calls Tryz.prog 4 #[.int .i64 m, vO, vS] w fun e w' => e = .returned (.bool true) ∧ Keeps [] w w' := by
  obtain ⟨ao, co, rfl, hlo, hco, _⟩ := Gen.SlR.form hLO
  have hfew := fun (W : World) (hk : Keeps [] w W) => few_c W _ L 30 (hLO.keeps hk)
  obtain ⟨NL, hNL⟩ : ∃ n, L.length = n := ⟨_, rfl⟩
  rw [hNL] at hlo hfew ⊢
  obtain ⟨fb, hfb⟩ : ∃ b, few5 L 30 = b := ⟨_, rfl⟩
  simp only [hfb] at hfew
  have hNLm : NL ≤ 9223372036854775807 := by unfold Go.maxLen at hco; omega
  obtain ⟨sa, sc, rfl⟩ := hS.form
  obtain ⟨NS, hNS⟩ : ∃ n, S.length = n := ⟨_, rfl⟩
  have hSl := hS
  rw [hNS] at hSl ⊢
  have hNSm : NS ≤ 9223372036854775807 := by
    obtain ⟨X, h1, h2⟩ := hS
    obtain ⟨_, _, _, h3, h4, _⟩ := h1.form
    have h5 : X.length = NS := by rw [← hNS, ← h2, List.length_map]
    unfold Go.maxLen at h4
    omega
  obtain ⟨WA, hWA⟩ : ∃ W, w = W := ⟨_, rfl⟩
  have hkA : Keeps [] w WA := by rw [← hWA]; exact Keeps.refl _ _
  have hfitL : ∀ o ∈ L, ∀ x ∈ o.S, smOk x := fun o ho => by
    obtain ⟨k, hk, rfl⟩ := List.mem_iff_getElem.1 ho
    obtain ⟨_, _, _, _, _, _, _, _, hF, _⟩ := hLO.elem hk
    exact hF.S
  replace hkA := Lib.hid hkA
  replace hWA := Lib.hid hWA
  replace hNS := Lib.hid hNS
  replace hSl := Lib.hid hSl
  replace hfit := Lib.hid hfit
  replace hfitL := Lib.hid hfitL
  clear hS
  replace hfew := Lib.hid hfew
  replace hNL := Lib.hid hNL
  replace hfb := Lib.hid hfb
  replace hm := Lib.hid hm
  replace hLO := Lib.hid hLO
  clear hlo hco
  go_enter Tryz.func4, Tryz.ntmps4
  go_wp2_with fail
  rw [hWA.out]
  refine (awake5_c WA).mono ?_
  rintro e w1 ⟨rfl, hk1⟩
  have hkw1 := Lib.hid (hkA.out.trans hk1)
  replace hk1 := Lib.hid hk1
  go_wp2_with fail
  refine (hfew.out _ hkw1.out).mono ?_
  rintro e w2 ⟨rfl, hk2⟩
  have hkw2 := Lib.hid (hkw1.out.trans hk2)
  replace hk1 := Lib.hid (hk1.out.trans hk2)
  clear hk2 hkw1
  cases fb with
  | false =>
    go_wp2
    go_ret
    exact ⟨rfl, hkw2.out⟩
  | true =>
    obtain ⟨hfewL, hNLb⟩ := few5_of hfb.out
    rw [hNL.out] at hNLb
    have hNL30 : NL ≤ 30 := by omega
    replace hfewL := Lib.hid hfewL
    clear hNLb hfew hfb
    by_cases h6 : 6 < NS
    · have h6b : decide ((6 : Int) < (NS : Int)) = true := by simp; omega
      have h6c : (6 : Int) < (NS : Int) := by omega
      go_wp2
      go_ret
      exact ⟨rfl, hkw2.out⟩
    · have h6b : decide ((6 : Int) < (NS : Int)) = false := by simp; omega
      have h6c : ¬ (6 : Int) < (NS : Int) := by omega
      have hNS6 : NS ≤ 6 := by omega
      have hrun := run5_c w2 m _ L hm.out (hLO.out.keeps hkw2.out) hfewL.out (by rw [hNL.out]; exact hNL30)
      rw [hNL.out] at hrun
      simp only [ptrV] at hrun
      replace hrun := Lib.hid hrun
      clear hk1 hfewL
      go_wp2_with fail
      refine hrun.out.mono ?_
      rintro e w3 ⟨B, bp, bm, vc, A, x, rfl, hTB, hok, hk3, hBw⟩
      obtain ⟨x0, x1, ⟨x2, x3, x4⟩, ⟨x5, x6, x7⟩⟩ := x
      simp only [rtV, slv]
      obtain ⟨T, hT⟩ : ∃ T, runT5 L (Tc.new m) = T := ⟨_, rfl⟩
      have hTm : (runT5 L (Tc.new m)).m = m := runT5_m _ _
      have hso : (runT5 L (Tc.new m)).StOk := runT5_stOk L (fun t ht => by simp [Tc.new] at ht) hfitL.out
      rw [hT] at hTB hok hTm hso
      have hk4 := (Keeps.refl [] w3).alloc (.cells #[.int .i64 x0, .int .i64 x1, .slice x2 x3 x4, .slice x5 x6 x7] tRc)
      have hM4 := Lib.hid (hTB.m.keeps hk4)
      have hkw4 := Lib.hid (hkw2.out.trans (hk3.trans hk4))
      have hBw2 := Lib.hid (Nat.le_trans hkw2.out.size hBw)
      have hal := hok.al
      replace hok := Lib.hid hok
      replace hTm := Lib.hid hTm
      replace hso := Lib.hid hso
      clear hT hTB hk3 hk4 hkw2 hBw hrun hLO hfitL
      go_upto_region 8 with fail
      generalize (w3.alloc (.cells #[.int .i64 x0, .int .i64 x1, .slice x2 x3 x4, .slice x5 x6 x7] tRc)) = W4 at *
      have hmm := @run_makeMap Tryz.prog
      have hkm := (Keeps.refl [] W4).alloc (.map #[] 0)
      have hmp := MapS.M.made ktNd (vf := Value.bool) W4
      have hmb := heap_alloc_new W4 (.map #[] 0)
      have hM5 := Lib.hid (hM4.out.keeps hkm)
      have hown : ∀ b ∈ ownTc bp bm vc A, b < W4.heap.size := fun b hb => (hM4.out.tag hb).1
      have hkw5 := Lib.hid (hkw4.out.trans hkm)
      have hww : w.heap.size ≤ W4.heap.size := hkw4.out.size
      obtain ⟨N, hN⟩ : ∃ n, T.act.length = n := ⟨_, rfl⟩
      rw [hN] at hal
      have hNm : N ≤ 9223372036854775807 := by omega
      replace hmp := Lib.hid hmp
      replace hmb := Lib.hid hmb
      replace hown := Lib.hid hown
      replace hN := Lib.hid hN
      clear hkm hM4 hkw4
      go_upto_region 9 with fail
      generalize (W4.alloc (.map #[] 0)) = W5 at *
      obtain ⟨bs, hbs⟩ : ∃ b, W4.heap.size = b := ⟨_, rfl⟩
      rw [hbs] at hmp hmb hown hww ⊢
      clear hbs hmm
      have hac := active_c W5 B bp bm vc A T NL (4 * NL) hM5.out hok.out (by omega)
      simp only [ptrV] at hac
      replace hac := Lib.hid hac
      go_wp2_with fail
      refine hac.out.mono ?_
      rintro e w6 ⟨va, rfl, hO6, hk6⟩
      obtain ⟨aa, ac, rfl⟩ := hO6.form
      have hlI : (T.act.map Tr.idp).length = N := by rw [List.length_map]; exact hN.out
      rw [hlI] at hO6 ⊢
      have hM6 := Lib.hid (hM5.out.keeps hk6)
      have hkw6 := Lib.hid (hkw5.out.trans hk6)
      have hmp6 := Lib.hid (hmp.out.keeps ktNd hk6)
      have hmb6 := Lib.hid ((hk6.block _ (lt_of_blk hmb.out) (by simp)).trans hmb.out)
      have hOb : ∀ b, (Value.slice aa N ac).ownBlock = some b → bs < b := fun b hb => by
        have h1 := hO6.ge b hb
        have h2 := lt_of_blk hmb.out
        omega
      replace hO6 := Lib.hid hO6
      replace hOb := Lib.hid hOb
      replace hlI := Lib.hid hlI
      clear hk6 hM5 hkw5 hmp hmb hac
      go_wp2
      go_loopw [45] (fun iv wr => ∃ k : Nat, iv = .int .i64 k ∧ k ≤ N ∧ Hid (Keeps [bs] w6 wr) ∧ Hid (MapS.M ktNd Value.bool wr bs ((T.act.take k).map (fun t => (t.st, true))))) (fun iv _ => N - (intOf iv).toNat)
      case atStart => exact ⟨0, rfl, by omega, Lib.hid (Keeps.refl _ _), hmp6⟩
      case round =>
        clear hmp6
        obtain ⟨k, rfl, hk, hkx, hmx⟩ := hrel
        have hMx := Lib.hid (hM6.out.keepM hkx.out (fun hm' => by have := hown.out _ hm'; omega) ⟨_, _, hmb6.out⟩)
        by_cases hlt : k < N
        · have hlt2 : (k : Int) < N := by omega
          have hkT : k < T.act.length := by rw [hN.out]; exact hlt
          have hkL : k < (T.act.map Tr.idp).length := by rw [hlI.out]; exact hlt
          have hiA : k < A.length := by rw [hMx.out.len]; exact hkT
          obtain ⟨g, o, c', hv, he⟩ := (hO6.out.r.keepS hkx.out (fun b hb e => by
            have h1 := hOb.out b e
            simp only [List.mem_singleton] at hb
            omega)).elem hkL
          rw [hlI.out] at hv
          cases hv
          obtain ⟨⟨t, bt, bmm, vo, vh, vg⟩, hAk⟩ : ∃ a, A[k] = a := ⟨_, rfl⟩
          have htu : T.act[k] = t := by
            have h1 : (A.map (·.t))[k]'(by rw [List.length_map]; exact hiA) = T.act[k] := by simp only [hMx.out.ac]
            rw [List.getElem_map, hAk] at h1
            exact h1.symm
          have htm : t ∈ T.act := htu ▸ List.getElem_mem hkT
          rw [List.getElem_map, htu] at he
          have f0 := he 0 _ rfl
          have f1 := he 1 _ rfl
          simp only [shId, Nat.add_zero] at f0 f1
          have hTm2 : TrM wr B bt bmm vo vh vg t := by have := hMx.out.tr _ (List.getElem_mem hiA); rw [hAk] at this; exact this
          have hidk := hok.out.idok (by rw [hTm.out]; exact hm.out) (by omega) htm
          have hfk : T.find t.idp = some k := by have := hok.out.find hkT; rw [htu] at this; exact this
          have hsk := hso.out t htm
          have hgt : MapS.get t.st ((T.act.take k).map (fun t => (t.st, true))) = none := MapS.get_none.2 (fun q hq e => by
            obtain ⟨d, hd, rfl⟩ := List.mem_map.1 hq
            obtain ⟨j, hj, hjd⟩ := List.mem_iff_getElem.1 hd
            rw [List.length_take] at hj
            rw [List.getElem_take] at hjd
            have h1 := List.pairwise_iff_getElem.1 hok.out.st j k (by omega) hkT (by omega)
            rw [hjd, htu] at h1
            exact h1 e)
          have hstk : (T.act.take (k + 1)).map (fun t => (t.st, true)) = (T.act.take k).map (fun t => (t.st, true)) ++ [(t.st, true)] := by rw [List.take_succ_eq_append_getElem hkT, List.map_append, htu, List.map_singleton]
          have hml : ((T.act.take k).map (fun t => (t.st, true))).length < maxLen := by rw [List.length_map, List.length_take]; unfold maxLen; omega
          have hkC := (Keeps.refl [] wr).alloc (.cells #[.int .i64 t.im, .int .i64 t.is] tId)
          have hbC := heap_alloc_new wr (.cells #[.int .i64 t.im, .int .i64 t.is] tId)
          have hM7 := Lib.hid (hMx.out.keeps hkC)
          have hT7 := Lib.hid (hTm2.keeps hkC)
          have hm7 := Lib.hid (hmx.out.keeps ktNd hkC)
          have hk7 := Lib.hid (hkx.out.trans (hkC.mono (by simp)))
          have hi3i : (k : Int) < N := by omega
          replace hbC := Lib.hid hbC
          replace hidk := Lib.hid hidk
          replace hfk := Lib.hid hfk
          replace hsk := Lib.hid hsk
          replace hgt := Lib.hid hgt
          replace hstk := Lib.hid hstk
          replace hml := Lib.hid hml
          replace hAk := Lib.hid hAk
          clear he htu htm hkC hTm2 hMx hmx hkx
          go_upto_region 12 with fail
          generalize (wr.alloc (.cells #[.int .i64 t.im, .int .i64 t.is] tId)) = W7 at *
          obtain ⟨X2, hX2⟩ : ∃ b, wr.heap.size = b := ⟨_, rfl⟩
          rw [hX2] at hbC ⊢
          clear f0 f1 hX2
          obtain ⟨d0, d1, df, dl⟩ := cl2 hbC.out
          have hfd := find_c W7 B bp bm vc A T NL (4 * NL) hM7.out hok.out t.idp hidk.out
          simp only [ptrV, ipV] at hfd
          replace hfd := Lib.hid hfd
          go_wp2_with fail
          refine hfd.out.mono ?_
          rintro e w8 ⟨hcase, hk8⟩
          have hret : e = .returned (.tuple #[.pointer (some ⟨bt, 0, none⟩), .bool true]) := by
            rcases hcase with ⟨i, hi, h1, _, h2⟩ | ⟨h1, _⟩
            · rw [hfk.out] at h1; cases h1; rw [h2, hAk.out]
            · rw [hfk.out] at h1; cases h1
          subst hret
          have hT8 := Lib.hid (hT7.out.keeps hk8)
          have hm8 := Lib.hid (hm7.out.keeps ktNd hk8)
          have hk8' := Lib.hid (hk7.out.trans (hk8.mono (by simp)))
          clear hcase hk8 hfd hT7 hm7 hk7 hM7 d0 d1 df dl hbC
          have hst := start_c w8 B bt bmm vo vh vg t hT8.out
          simp only [tV] at hst
          replace hst := Lib.hid hst
          go_wp2_with fail
          refine hst.out.mono ?_
          rintro e w9 ⟨rfl, hk9⟩
          have hT9 := Lib.hid (hT8.out.keeps hk9)
          have hm9 := Lib.hid (hm8.out.keeps ktNd hk9)
          have hk9' := Lib.hid (hk8'.out.trans (hk9.mono (by simp)))
          have hlk := MapS.M.look ktNd (k := t.st) Tryz.underlying46 (.bool false) zeroBo hm9.out hsk.out
          simp only [hgt.out, Option.map_none, Option.getD_none] at hlk
          simp only [ktNd, tV] at hlk
          have hst2 := start_c w9 B bt bmm vo vh vg t hT9.out
          simp only [tV] at hst2
          replace hst2 := Lib.hid hst2
          clear hst hT8 hm8 hk8' hk9
          go_wp2_with fail
          refine hst2.out.mono ?_
          rintro e w10 ⟨rfl, hk10⟩
          have hm10 := hm9.out.keeps ktNd hk10
          have hk10' := hk9'.out.trans (hk10.mono (by simp))
          obtain ⟨w11, hrun2, hM11, hk11⟩ := MapS.M.putNew ktNd Tryz.underlying46 hm10 (k := t.st) hsk.out hgt.out hml.out true
          simp only [ktNd, tV] at hrun2
          rw [← hstk.out] at hM11
          have hkx11 := Lib.hid (hk10'.trans hk11)
          replace hM11 := Lib.hid hM11
          clear hm10 hk10' hk10 hk11 hst2 hT9 hm9 hk9' hlk
          go_wp2
          go_roundw
          case rel => exact ⟨k + 1, rfl, by omega, hkx11, hM11⟩
          case measure => simp [intOf]; omega
        · have hlt2 : ¬ ((k : Int) < N) := by omega
          have hkN : T.act.take k = T.act := List.take_of_length_le (by rw [hN.out]; omega)
          rw [hkN] at hmx
          have hkwr := Lib.hid (hkw6.out.fresh hkx.out (fun b hb => by simp only [List.mem_singleton] at hb; subst hb; exact .inr hww))
          have hmbr : ∃ es c, wr.heap[bs]? = some (Obj.map es c) := MapS.M.isMap hmx.out
          have hbsr : bs < wr.heap.size := MapS.M.lt ktNd hmx.out
          have hsd := started_c wr B bp bm vc A T hMx.out
          simp only [ptrV] at hsd
          replace hsd := Lib.hid hsd
          replace hmbr := Lib.hid hmbr
          clear hkN hkx hM6 hkw6 hmb6 hO6 hOb hlI
          go_wp2_with fail
          refine hsd.out.mono ?_
          rintro e w7 ⟨rfl, hw⟩
          subst hw
          clear hsd
          have hSr := hSl.out.keeps hkwr.out
          have hts := tstart_c wr B bp bm vc A T NL (4 * NL) hMx.out hok.out S _ hSr hfit.out (by rw [hTm.out]; exact hm.out) (by rw [hNS.out]; omega) (fun hne b hb hm' => by
            have h1 := hSl.out.lt hne b hb
            have h2 := hMx.out.ge hm'
            have h3 := hBw2.out
            omega)
          unfold StartPost at hts
          simp only [ptrV] at hts
          have hok2 := hok.out.start S
          rw [hNS.out] at hok2
          have hso2 := Tc.StOk.start S hso.out hfit.out
          obtain ⟨hs1, hs2, -⟩ := Tc.start_fx S T
          obtain ⟨NI, hNI⟩ : ∃ n, (T.startIds S).length = n := ⟨_, rfl⟩
          rw [hNI] at hs2
          obtain ⟨T', hT'⟩ : ∃ T', T.start S = T' := ⟨_, rfl⟩
          rw [hT'] at hts hok2 hso2 hs1 hs2
          replace hts := Lib.hid hts
          replace hok2 := Lib.hid hok2
          replace hso2 := Lib.hid hso2
          replace hs1 := Lib.hid hs1
          replace hs2 := Lib.hid hs2
          replace hNI := Lib.hid hNI
          replace hT' := Lib.hid hT'
          clear hSr
          go_wp2_with fail
          refine hts.out.mono ?_
          rintro e w8 ⟨vi, A', rfl, hOi, hM8, hV8⟩
          obtain ⟨ia, ic, rfl⟩ := hOi.form
          rw [hNI.out] at hOi ⊢
          have hbo : bs ∉ ownTc bp bm vc A := fun hm' => by have := hown.out _ hm'; omega
          have hm8 := Lib.hid (hmx.out.kept ktNd hV8.k hbo)
          have hkw8 := Lib.hid (hkwr.out.fresh hV8.k (fun b hb => .inr (by have h1 := hMx.out.ge hb; have h2 := hBw2.out; omega)))
          have hmb8 : ∃ es c, w8.heap[bs]? = some (Obj.map es c) := MapS.M.isMap hm8.out
          have hown8 : bs ∉ ownTc bp bm vc A' := fun hm' => by
            rcases hV8.s _ hm' with g | g
            · exact hbo g
            · omega
          have hOib : ∀ b, (Value.slice ia NI ic).ownBlock = some b → bs < b := fun b hb => by have := hOi.ge b hb; omega
          replace hOi := Lib.hid hOi
          replace hM8 := Lib.hid hM8
          replace hmb8 := Lib.hid hmb8
          replace hown8 := Lib.hid hown8
          replace hOib := Lib.hid hOib
          have hs0 := hok.out.s0
          have hs1b := hok.out.s1
          have hNIb : NI ≤ NS := by rw [← hNI.out, ← hNS.out]; exact startIds_len T S T
          have hbw := MapS.M.lt ktNd hm8.out
          clear hts hV8 hmx hMx hkwr hmbr hbo
          go_wp2
          go_loopw [17, 18] (fun nv iv wr => ∃ k : Nat, iv = .int .i64 k ∧ k ≤ NS ∧ nv = .int .i64 (((T.startIds (S.take k)).length : Nat) : Int) ∧ Hid (Keeps [bs] w8 wr) ∧ Hid (MapS.M ktNd Value.bool wr bs ((T.start (S.take k)).act.map (fun t => (t.st, true))))) (fun _ iv _ => NS - (intOf iv).toNat)
          case atStart => exact ⟨0, rfl, by omega, rfl, Lib.hid (Keeps.refl _ _), hm8⟩
          case round =>
            clear hm8
            obtain ⟨k, rfl, hk, rfl, hkx, hmx⟩ := hrel
            have hMx := Lib.hid (hM8.out.keepM hkx.out hown8.out hmb8.out)
            have hkwr := Lib.hid (hkw8.out.fresh hkx.out (fun b hb => by simp only [List.mem_singleton] at hb; subst hb; exact .inr hww))
            obtain ⟨n, hn⟩ : ∃ n, (T.startIds (S.take k)).length = n := ⟨_, rfl⟩
            rw [hn]
            by_cases hlt : k < NS
            · have hlt2 : (k : Int) < NS := by omega
              have hkS : k < S.length := by rw [hNS.out]; exact hlt
              obtain ⟨XS, hXS, hXp⟩ := hSl.out.keeps hkwr.out
              have hXl : XS.length = NS := by rw [← hNS.out, ← hXp, List.length_map]
              obtain ⟨g, o, c', hv, he⟩ := hXS.elem (k := k) (by rw [hXl]; exact hlt)
              rw [hXl] at hv
              cases hv
              obtain ⟨⟨y0, y1, y2, y3, ⟨y4, y5, y6⟩⟩, hy⟩ : ∃ y, XS[k] = y := ⟨_, rfl⟩
              have hsk : S[k] = (y0, y1) := by
                have h1 : (XS.map SmV.p)[k]'(by rw [List.length_map, hXl]; exact hlt) = S[k] := by simp only [hXp]
                rw [List.getElem_map, hy] at h1
                exact h1.symm
              rw [hy] at he
              have f0 := he 0 _ rfl
              have f1 := he 1 _ rfl
              have f2 := he 2 _ rfl
              have f3 := he 3 _ rfl
              have f4 := he 4 _ rfl
              simp only [shSm, SmV.cs, slv, Nat.add_zero] at f0 f1 f2 f3 f4
              have hfk := hfit.out _ (List.getElem_mem hkS)
              have hrd := Tc.round (T := T) hkS
              have hnw := Tc.start_new (T := T) hkS
              rw [hsk] at hfk hrd hnw
              rw [hn] at hrd
              replace hnw := hnw (n := n)
              have hi3i : (k : Int) < NS := by omega
              have hstok : stOk (y0, y1, 0) := ⟨hfk.1, hfk.2, w64_iff.2 (by show (-9223372036854775808 : Int) ≤ 0 ∧ (0 : Int) ≤ 9223372036854775807; omega)⟩
              have hgl := lt_of_cell f0
              replace hrd := Lib.hid hrd
              replace hnw := Lib.hid hnw
              replace hstok := Lib.hid hstok
              replace hn := Lib.hid hn
              clear he hXS hXp hXl hy hfk hsk
              go_upto_region 23 with fail
              have hkd : Keeps [] wr wr.drew := (Keeps.refl [] wr).drew
              have hsz : wr.drew.heap.size = wr.heap.size := rfl
              replace f0 := hkd.val f0
              replace f1 := hkd.val f1
              clear f2 f3 f4
              obtain ⟨X2, hX2⟩ : ∃ b, wr.heap.size = b := ⟨_, rfl⟩
              rw [hX2] at hgl hsz
              have hgX : ¬ g = X2 := by omega
              refine Free.wp_region_chain (fun i => i == 11 || i == 12) (fun i => true) (fun _ b => b = X2) (by kernel_rfl) (by kernel_rfl) (by kernel_rfl) ?_
              generalize wr.drew = wd at *
              (repeat (first | (apply Free.cw_pure rfl rfl; (intro w'; go_simp <;> exact rfl); go_frame) | (apply Free.cw_steady rfl rfl rfl; (intro w' hS; have q0 := Free.sx_cell hS f0 (fun _ _ hT => hgX hT); have q1 := Free.sx_cell hS f1 (fun _ _ hT => hgX hT); go_simp <;> exact rfl); go_frame) | (refine Free.cw_skip rfl ?_; go_frame)))
              refine Free.cw_loud rfl rfl (fun K hK => ?_)
              go_wp2
              refine hK _ _ rfl (Free.KeepsP.of ((Keeps.refl [] wd).alloc (.cells #[.int .i64 0, .int .u64 0, .int .i64 0] tN)) (by simp)) ?_
              clear hK K
              have hbN := heap_alloc_new wd (.cells #[.int .i64 0, .int .u64 0, .int .i64 0] tN)
              have hkN := (Keeps.refl [] wd).alloc (.cells #[.int .i64 0, .int .u64 0, .int .i64 0] tN)
              generalize (wd.alloc (.cells #[.int .i64 0, .int .u64 0, .int .i64 0] tN)) = W9 at *
              rw [hsz] at hbN
              try rw [hsz]
              obtain ⟨v0, v1, v2, vf, vl⟩ := cl3 hbN
              have hkN' := Lib.hid (hkd.trans hkN)
              replace hbN := Lib.hid hbN
              clear hkN hkd
              (repeat (apply Free.cw_pure rfl rfl; (intro w'; go_simp <;> exact rfl); go_frame))
              refine Free.cw_loud rfl rfl (fun K hK => ?_)
              go_wp2
              obtain ⟨g1, g2⟩ := sc3 (.int .i64 y0) (.int .u64 y1) (.int .i64 0) hbN.out
              refine hK _ _ rfl (Free.KeepsP.of g2 (fun b hb => by simpa using hb)) ?_
              clear hK K v0 v1 v2 vf vl
              generalize ((W9.setCell ⟨X2, 0, none⟩ (.int .i64 y0)).setCell ⟨X2, 1, none⟩ (.int .u64 y1)).setCell ⟨X2, 2, none⟩ (.int .i64 0) = W10 at *
              have hk10 : Keeps [] wr W10 := hkN'.out.fresh g2 (fun b hb => by simp only [List.mem_singleton] at hb; subst hb; exact .inr (by omega))
              have hM10 := Lib.hid (hMx.out.keeps hk10)
              have hm10 := hmx.out.keeps ktNd hk10
              have hx10 := Lib.hid (hkx.out.trans (hk10.mono (by simp)))
              have hbX := MapS.M.lt ktNd hmx.out
              rw [hX2] at hbX
              clear f0 f1 hkN' hbN hk10 g2 hMx hmx hkx hkwr hgX hsz hX2 hgl
              obtain ⟨n0, n1, n2, nf, nl⟩ := cl3 g1
              (repeat (apply Free.cw_pure rfl rfl; (intro w'; go_simp <;> exact rfl); go_frame))
              refine Free.cw_nil ?_
              have hlk := MapS.M.look ktNd (k := (y0, y1, 0)) Tryz.underlying46 (.bool false) zeroBo hm10 hstok.out
              obtain ⟨bb, hbb⟩ : ∃ b, (T.start (S.take k)).begins (smN (y0, y1)) = b := ⟨_, rfl⟩
              have hgb := get_begins (T.start (S.take k)) (y0, y1, 0)
              rw [show (T.start (S.take k)).begins (y0, y1, 0) = bb from hbb] at hgb
              rw [hgb] at hlk
              have hrd2 := hrd.out
              rw [hbb] at hrd2
              replace g1 := Lib.hid g1
              cases bb with
              | true =>
                simp only [if_true, Option.map_some, Option.getD_some, List.append_nil, Nat.add_zero] at hlk hrd2
                simp only [ktNd, tV] at hlk
                obtain ⟨hr1, hr2⟩ := hrd2
                replace hr1 := Lib.hid hr1
                replace hr2 := Lib.hid hr2
                replace hm10 := Lib.hid hm10
                clear hgb hrd hnw hbb
                go_wp2
                go_roundw
                case rel => exact ⟨k + 1, rfl, by omega, by rw [hr1.out], hx10, by rw [hr2.out]; exact hm10⟩
                case measure => simp [intOf]; omega
              | false =>
                simp only [Bool.false_eq_true, if_false, Option.map_none, Option.getD_none] at hlk hrd2 hgb
                simp only [ktNd, tV] at hlk
                obtain ⟨hr1, hr2⟩ := hrd2
                obtain ⟨hi1, hi2⟩ := hnw.out hbb hn.out
                rw [hTm.out] at hi1 hi2
                rw [hT'.out] at hi2
                have hnNI : n < NI := by
                  obtain ⟨h1, _⟩ := List.getElem?_eq_some_iff.1 hi1
                  rw [hNI.out] at h1
                  exact h1
                obtain ⟨w11, hrun2, hM11, hk11⟩ := MapS.M.putNew ktNd Tryz.underlying46 hm10 (k := (y0, y1, 0)) hstok.out hgb (by
                  have h1 := hok.out.start (S.take k)
                  have h2 := h1.al
                  rw [List.length_take] at h2
                  rw [List.length_map]
                  unfold maxLen
                  omega) true
                simp only [ktNd, tV] at hrun2
                have hM11' := Lib.hid (hM10.out.keepM hk11 hown8.out (MapS.M.isMap hm10))
                have hx11 := Lib.hid (hx10.out.trans hk11)
                have hb11 := Lib.hid ((hk11.block _ (lt_of_blk g1.out) (by simp only [List.mem_singleton]; omega)).trans g1.out)
                have hms : (T.start (S.take (k + 1))).act.map (fun t => (t.st, true)) = (T.start (S.take k)).act.map (fun t => (t.st, true)) ++ [((y0, y1, 0), true)] := by rw [hr2, List.map_append]; rfl
                rw [← hms] at hM11
                have hnl : n < (T.startIds S).length := by rw [hNI.out]; exact hnNI
                obtain ⟨gi, oi, ci, hvi, hei⟩ := (hOi.out.r.keepS hx11.out (fun b hb e => by
                  have h1 := hOib.out b e
                  simp only [List.mem_singleton] at hb
                  omega)).elem hnl
                rw [hNI.out] at hvi
                cases hvi
                rw [(List.getElem?_eq_some_iff.1 hi1).2] at hei
                have e0 := hei 0 _ rfl
                have e1 := hei 1 _ rfl
                simp only [shId, Nat.add_zero] at e0 e1
                have hnI := fun W => neII W m (T.s + n + 1)
                have hwr1 : IntKind.i64.wrap (T.s + (n : Int)) = T.s + (n : Int) := IntWalk.i64_in _ ⟨by omega, by omega⟩
                have hwr2 : IntKind.i64.wrap (T.s + (n : Int) + 1) = T.s + (n : Int) + 1 := IntWalk.i64_in _ ⟨by omega, by omega⟩
                have hge : decide ((NI : Int) ≤ (n : Int)) = false := by simp; omega
                have hge2 : decide (NI ≤ n) = false := by simp; omega
                have hn3 : (n : Int) < NI := by omega
                have hnM : n ≤ 9223372036854775806 := by omega
                obtain ⟨j, hj, hjt⟩ := List.mem_iff_getElem.1 hi2
                have hfj := hok2.out.find hj
                rw [hjt] at hfj
                have hjA : j < A'.length := by rw [hM11'.out.len]; exact hj
                obtain ⟨⟨u, bt, bmm, vo, vh, vg⟩, hAj⟩ : ∃ a, A'[j] = a := ⟨_, rfl⟩
                have hut : u = Tr.new m (T.s + n + 1) (smN (y0, y1)) := by
                  have h1 : (A'.map (·.t))[j]'(by rw [List.length_map]; exact hjA) = T'.act[j] := by simp only [hM11'.out.ac]
                  rw [List.getElem_map, hAj, hjt] at h1
                  exact h1
                have hTu : TrM w11 B bt bmm vo vh vg u := by have := hM11'.out.tr _ (List.getElem_mem hjA); rw [hAj] at this; exact this
                rw [hut] at hTu
                have hidj : ipOk (m, T.s + n + 1) := ⟨hm.out, w64_iff.2 (by omega)⟩
                have hfd := find_c w11 B bp bm vc A' T' NL (4 * NL + NS) hM11'.out hok2.out (m, T.s + n + 1) hidj
                simp only [ptrV, ipV] at hfd
                replace hfd := Lib.hid hfd
                replace hTu := Lib.hid hTu
                replace hfj := Lib.hid hfj
                replace hAj := Lib.hid hAj
                replace hM11 := Lib.hid hM11
                replace hr1 := Lib.hid hr1
                clear hgb hrd hnw hbb hr2 hi1 hi2 hms hei hjt hut hk11 hm10 hM10 hx10 hnl hidj
                go_upto_region 26 with fail
                clear hrun2 hlk n0 n1 n2 nf nl
                obtain ⟨n0, n1, n2, nf, nl⟩ := cl3 hb11.out
                go_wp2_with fail
                refine hfd.out.mono ?_
                rintro e w12 ⟨hcase, hk12⟩
                have hret : e = .returned (.tuple #[.pointer (some ⟨bt, 0, none⟩), .bool true]) := by
                  rcases hcase with ⟨i, hi, h1, _, h2⟩ | ⟨h1, _⟩
                  · have h3 := hfj.out
                    rw [show T'.find (Tr.new m (T.s + n + 1) (smN (y0, y1))).idp = T'.find (m, T.s + n + 1) from rfl, h1] at h3
                    cases h3
                    rw [h2, hAj.out]
                  · have h3 := hfj.out
                    rw [show T'.find (Tr.new m (T.s + n + 1) (smN (y0, y1))).idp = T'.find (m, T.s + n + 1) from rfl, h1] at h3
                    cases h3
                subst hret
                have hT12 := Lib.hid (hTu.out.keeps hk12)
                have hb12 := Lib.hid ((hk12.block _ (lt_of_blk hb11.out) (by simp)).trans hb11.out)
                have hx12 := Lib.hid (hx11.out.trans (hk12.mono (by simp)))
                have hM12 := Lib.hid (hM11.out.keeps ktNd hk12)
                clear hcase hfd hTu hx11 hb11 hM11 hk12 n0 n1 n2 nf nl e0 e1 hnI hwr1 hwr2 hge hge2
                have hc5 := fun (W : World) (hk : Keeps [] w12 W) => start_c W B bt bmm vo vh vg _ (hT12.out.keeps hk)
                have hc6 := fun (W : World) (hk : Keeps [] w12 W) => state_c W B bt bmm vo vh vg _ (hT12.out.keeps hk)
                simp only [tV, Tr.new, smN] at hc5 hc6
                have hnT := fun W => neTT W y0 y1 0
                replace hc5 := Lib.hid hc5
                replace hc6 := Lib.hid hc6
                go_upto_region 29 with fail
                have hbd : w12.drew.heap[X2]? = _ := hb12.out
                have hkz : Keeps [] w12 w12.drew := (Keeps.refl [] w12).drew
                obtain ⟨n0, n1, n2, nf, nl⟩ := cl3 hbd
                replace hkz := Lib.hid hkz
                clear hbd
                refine Free.wp_region_chain (fun i => i == 8 || i == 14) (fun i => true) (fun _ _ => False) (by kernel_rfl) (by kernel_rfl) (by kernel_rfl) ?_
                generalize w12.drew = wd at *
                (repeat (first | (apply Free.cw_pureW rfl rfl; (intro w'; go_simp <;> exact rfl); go_frame) | (apply Free.cw_steadyW rfl rfl rfl; (intro w' hS; have q0 := Free.sx_cell hS n0 (fun _ _ hT => hT); have q1 := Free.sx_cell hS n1 (fun _ _ hT => hT); have q2 := Free.sx_cell hS n2 (fun _ _ hT => hT); go_simp <;> exact rfl); go_frame) | (refine Free.cw_skip rfl ?_; go_frame)))
                refine Free.cw_loudW rfl rfl (fun K hK => ?_)
                go_wp2_with fail
                refine (hc5.out _ hkz.out).mono ?_
                rintro e w13 ⟨rfl, hk13⟩
                refine hK _ _ rfl (Free.KeepsP.of hk13 (by simp)) ?_
                clear hK K
                replace hkz := Lib.hid (hkz.out.trans hk13)
                clear hk13 hc5
                (repeat (first | (apply Free.cw_pureW rfl rfl; (intro w'; go_simp <;> exact rfl); go_frame) | (apply Free.cw_steadyW rfl rfl rfl; (intro w' hS; have q0 := Free.sx_cell hS n0 (fun _ _ hT => hT); have q1 := Free.sx_cell hS n1 (fun _ _ hT => hT); have q2 := Free.sx_cell hS n2 (fun _ _ hT => hT); go_simp <;> exact rfl); go_frame) | (refine Free.cw_skip rfl ?_; go_frame)))
                refine Free.cw_loudW rfl rfl (fun K hK => ?_)
                go_wp2_with fail
                refine (hc6.out _ hkz.out).mono ?_
                rintro e w14 ⟨rfl, hw⟩
                subst hw
                refine hK _ _ rfl (Free.KeepsP.refl _ _) ?_
                clear hK K hc6
                (repeat (first | (apply Free.cw_pureW rfl rfl; (intro w'; go_simp <;> exact rfl); go_frame) | (apply Free.cw_steadyW rfl rfl rfl; (intro w' hS; have q0 := Free.sx_cell hS n0 (fun _ _ hT => hT); have q1 := Free.sx_cell hS n1 (fun _ _ hT => hT); have q2 := Free.sx_cell hS n2 (fun _ _ hT => hT); go_simp <;> exact rfl); go_frame) | (refine Free.cw_skip rfl ?_; go_frame)))
                refine Free.cw_nil ?_
                have hx14 := Lib.hid (hx12.out.trans (hkz.out.mono (by simp)))
                have hM14 := Lib.hid (hM12.out.keeps ktNd hkz.out)
                clear hx12 hM12 hkz n0 n1 n2 nf nl hnT hT12 hb12
                go_wp2
                go_roundw
                case rel => exact ⟨k + 1, rfl, by omega, by rw [hr1.out]; rfl, hx14, hM14⟩
                case measure => simp [intOf]; omega
            · have hlt2 : ¬ ((k : Int) < NS) := by omega
              have hkN : S.take k = S := List.take_of_length_le (by rw [hNS.out]; omega)
              rw [hkN] at hn hmx
              rw [hNI.out] at hn
              subst hn
              rw [hT'.out] at hmx
              obtain ⟨NA, hNA⟩ : ∃ n, T'.act.length = n := ⟨_, rfl⟩
              have hlen := fun ty => MapS.M.len ktNd Tryz.underlying46 hmx.out ty
              have hsd := started_c wr B bp bm vc A' T' hMx.out
              have hac := active_c wr B bp bm vc A' T' NL (4 * NL + NS) hMx.out hok2.out (by omega)
              simp only [ptrV] at hsd hac
              have hss : (T'.s == T.s + (NI : Int)) = true := by rw [hs2.out]; simp
              have hwr1 : IntKind.i64.wrap (T.s + (NI : Int)) = T.s + (NI : Int) := IntWalk.i64_in _ ⟨by omega, by omega⟩
              replace hsd := Lib.hid hsd
              replace hac := Lib.hid hac
              replace hNA := Lib.hid hNA
              replace hlen := Lib.hid hlen
              go_wp2_with fail
              refine hsd.out.mono ?_
              rintro e w9 ⟨rfl, hw⟩
              subst hw
              clear hsd
              go_wp2_with fail
              refine hac.out.mono ?_
              rintro e w9 ⟨vz, rfl, hvz, hk9⟩
              obtain ⟨za, zc, rfl⟩ := hvz.form
              rw [List.length_map, hNA.out]
              have hlen9 := fun ty => MapS.M.len ktNd Tryz.underlying46 (hmx.out.keeps ktNd hk9) ty
              simp only [List.length_map, hNA.out] at hlen9
              have hkf := Lib.hid (hkwr.out.trans hk9)
              clear hac hvz hk9 hlen
              go_wp2
              go_ret
              exact ⟨rfl, hkf.out⟩
end Go.Proofs.YtpobepninifenaaGreat
