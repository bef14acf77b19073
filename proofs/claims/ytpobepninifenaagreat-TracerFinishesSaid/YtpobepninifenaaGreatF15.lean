/- Texts that the laws lean on, in the order in which they build. The law's run. (Printed by mkuog.py.) The law's awake. (Printed by mkuow.py.) Chapter 35's laws: plain part. TracerFinishes: the walk. (Printed by mkulf.py.) -/
import Derived.Test.YtpobepninifenaaGreatF14
set_option linter.unusedVariables false
set_option linter.unusedSimpArgs false
namespace Go.Proofs.YtpobepninifenaaGreat
open Go Go.RowKit

theorem results_rt3 {fn : Func} {a p u : Tmp} (h : fn.results = #[.tmp a, .cell p tRc, .tmp u]) (tmps : Array Value) (w : World) (g : Nat) (t : TypeId) (x0 x1 x2 x3 : Value) (f : Nat × Nat) (hp : tmps.getD p undef = .pointer (some ⟨g, 0, none⟩))
    (hg : w.heap[g]? = some (.cells #[x0, x1, x2, x3] t f)) : (results fn tmps).run Tryz.prog w = .ok (.tuple #[tmps.getD a undef, .agg #[x0, x1, x2, x3], tmps.getD u undef]) w := by
  have hp' : tmps[p]?.getD undef = .pointer (some ⟨g, 0, none⟩) := by simpa using hp
  simp [results, h, hp', asAddr, load_rt w g t x0 x1 x2 x3 f hg]
set_option maxRecDepth 100000 in
set_option maxHeartbeats 20000000 in
theorem run5_c (w : World) (m : Int) (vO : Value) (L : List Op5) (hm : W64 m) (hLO : LO5 w vO L) (hfew : ∀ o ∈ L, o.S.length ≤ 4 ∧ o.a.ins.length ≤ 4) (hlen : L.length ≤ 30) :
    Calls Tryz.prog 14 #[.int .i64 m, vO] w fun e w' => ∃ B bp bm vc A x, e = .returned (.tuple #[ptrV bp, rtV x, .bool true]) ∧ TB [] w' B bp bm vc A x (runT5 L (Tc.new m)) ∧ (runT5 L (Tc.new m)).Ok L.length (4 * L.length) ∧ Keeps [] w w' ∧ w.heap.size ≤ B := by
  obtain ⟨ao, co, rfl, hlo, hco, _⟩ := Gen.SlR.form hLO
  obtain ⟨NL, hNL⟩ : ∃ n, L.length = n := ⟨_, rfl⟩
  rw [hNL] at hlo hlen ⊢
  have hNm : NL ≤ 9223372036854775807 := by omega
  obtain ⟨W0, hW0⟩ : ∃ W, (w.alloc (.cells #[.int .i64 0, .int .i64 0, .slice none 0 0, .slice none 0 0] tRc)) = W := ⟨_, rfl⟩
  have hbR := heap_alloc_new w (.cells #[.int .i64 0, .int .i64 0, .slice none 0 0, .slice none 0 0] tRc)
  have hk0 : Keeps [] w (w.alloc (.cells #[.int .i64 0, .int .i64 0, .slice none 0 0, .slice none 0 0] tRc)) := (Keeps.refl _ _).alloc _
  rw [hW0] at hbR hk0
  obtain ⟨R, hR⟩ : ∃ r, w.heap.size = r := ⟨_, rfl⟩
  rw [hR] at hbR
  replace hbR := Lib.hid hbR
  replace hk0 := Lib.hid hk0
  replace hW0 := Lib.hid hW0
  replace hLO := Lib.hid hLO
  replace hfew := Lib.hid hfew
  replace hNL := Lib.hid hNL
  replace hm := Lib.hid hm
  simp only [ptrV]
  go_enter Tryz.func14, Tryz.ntmps14
  go_wp2_with fail
  rw [hW0.out]
  try rw [hR]
  replace hR := Lib.hid hR
  refine (tnew_c W0 m).mono ?_
  rintro e w1 ⟨bp, bm, rfl, hT, hk1⟩
  simp only [ptrV]
  have hk2 := (Keeps.refl [] w1).alloc (.cells #[.int .i64 m, .int .i64 0, .slice none 0 0, .slice none 0 0] tRc)
  have hbp := heap_alloc_new w1 (.cells #[.int .i64 m, .int .i64 0, .slice none 0 0, .slice none 0 0] tRc)
  have hL : Lp [R] w1.heap.size w (w1.alloc (.cells #[.int .i64 m, .int .i64 0, .slice none 0 0, .slice none 0 0] tRc)) W0.heap.size bp bm (.slice none 0 0) [] (rt0 m) (runT5 (L.take 0) (Tc.new m)) 0 (4 * 0) := by
    refine ⟨TB.new (hT.keeps hk2) (fun b hb => ?_), hbp, Tc.Ok.new m, (hk0.out.trans hk1).trans hk2, hk0.out.size, hk1.size⟩
    have h1 := lt_of_blk hbR.out
    have h2 := hk1.size
    have h3 := lt_of_blk hbp
    simp only [List.mem_cons, List.not_mem_nil, or_false] at hb
    rcases hb with rfl | rfl <;> omega
  have hbR0 := Lib.hid hbR.out
  have hbR2 := Lib.hid (((hk1.trans hk2).block _ (lt_of_blk hbR.out) (by simp)).trans hbR.out)
  replace hL := Lib.hid hL
  clear hbR hk0 hT hk1 hk2 hbp
  go_upto_region 3 with fail
  generalize (w1.alloc (.cells #[.int .i64 m, .int .i64 0, .slice none 0 0, .slice none 0 0] tRc)) = W1 at *
  obtain ⟨p, hp⟩ : ∃ r, w1.heap.size = r := ⟨_, rfl⟩
  rw [hp] at hL ⊢
  obtain ⟨B, hB⟩ : ∃ r, W0.heap.size = r := ⟨_, rfl⟩
  rw [hB] at hL
  have hRB : R < B := by have := lt_of_blk hbR0.out; omega
  replace hRB := Lib.hid hRB
  clear hp hB hbR0
  go_wp2
  go_loopw [9] (fun iv wr => ∃ (k : Nat) (vc : Value) (A : List AT) (x : RtV), iv = .int .i64 k ∧ k ≤ NL ∧ Hid (Lp [R] p w wr B bp bm vc A x (runT5 (L.take k) (Tc.new m)) k (4 * k)) ∧ Hid (wr.heap[R]? = some (.cells #[.int .i64 0, .int .i64 0, .slice none 0 0, .slice none 0 0] tRc))) (fun iv _ => NL - (intOf iv).toNat)
  case atStart => exact ⟨0, _, _, _, rfl, by omega, hL, hbR2⟩
  case round =>
    clear hL hbR2
    obtain ⟨k, vc, A, x, rfl, hk, hL, hbR⟩ := hrel
    by_cases hlt : k < NL
    · skip
      have hlt2 : (k : Int) < NL := by omega
      have hkL : k < L.length := by rw [hNL.out]; exact hlt
      obtain ⟨g, of, c', s, y, hv, hSm, hIR, hFit, f0, f1, f2, f3, f4, f5, f6, f7, f8, f9, f10, f11, f12, f13⟩ := hLO.out.elem hkL
      rw [hNL.out] at hv
      cases hv
      have hrun := runT5_take L (Tc.new m) k hkL
      have hfk := hfew.out _ (List.getElem_mem hkL)
      have hsS := hSm.lt
      have hsI := hIR.lt
      obtain ⟨⟨ok, oi, on, oS, oa, ⟨id0, id1⟩⟩, ho⟩ : ∃ o, L[k] = o := ⟨_, rfl⟩
      rw [ho] at hSm hIR hFit f0 f1 f2 f12 f13 hrun hfk hsS hsI
      simp only at f0 f1 f2 f12 f13
      have hbw := hL.out.b0.1
      have hst := fun (W : World) (hk' : Keeps [] wr W) => step5_c _ W B bp bm vc A x _ k (4 * k) (hL.out.call hk') hL.out.ok (by omega) (by omega) (by rw [runT5_m]; exact hm.out) ⟨ok, oi, on, oS, oa, (id0, id1)⟩ s y (hSm.keeps (hL.out.ks.trans hk')) (hIR.keep (hL.out.ks.trans hk') (by simp)) hFit hfk.1 hfk.2 (fun hne b hb => Nat.lt_of_lt_of_le (hsS hne b hb) hbw) (fun b hne hb => Nat.lt_of_lt_of_le (hsI hne b hb) hbw)
      obtain ⟨y0, y1, y2, y3, y4, y5, y6, y7, y8, y9⟩ := y
      obtain ⟨s0, s1, s2⟩ := s
      have hkw := hL.out.ks
      replace f0 := hkw.val f0
      replace f1 := hkw.val f1
      replace f2 := hkw.val f2
      replace f3 := hkw.val f3
      replace f4 := hkw.val f4
      replace f5 := hkw.val f5
      replace f6 := hkw.val f6
      replace f7 := hkw.val f7
      replace f8 := hkw.val f8
      replace f9 := hkw.val f9
      replace f10 := hkw.val f10
      replace f11 := hkw.val f11
      replace f12 := hkw.val f12
      replace f13 := hkw.val f13
      obtain ⟨x0, x1, ⟨x2, x3, x4⟩, ⟨x5, x6, x7⟩⟩ := x
      have hbp := hL.out.bk
      simp only [slv] at hbp f3
      simp only [AnV.v] at f4 f5 f6 f7 f8 f9 f10 f11
      obtain ⟨T, hT⟩ : ∃ T, runT5 (L.take k) (Tc.new m) = T := ⟨_, rfl⟩
      rw [hT] at hL hst hrun
      simp only [rtV, slv, ptrV, opV5, AnV.v] at hst
      obtain ⟨e0, e1, e2, e3, ef, el⟩ := cl4 hbp
      replace hbp := Lib.hid hbp
      replace hst := Lib.hid hst
      replace hrun := Lib.hid hrun
      replace ho := Lib.hid ho
      replace hT := Lib.hid hT
      replace hfk := Lib.hid hfk
      clear hSm hIR hFit hsS hsI hbw hkw
      go_upto_region 8 with fail
      go_cut [10, 11] from 19 to 39 (fun sq sok wx => ∃ (u0 u1 : Int) (u2 : Option Addr) (u3 u4 : Nat) (u5 : Option Addr) (u6 u7 : Nat) (vc' : Value) (A' : List AT) (q : Nat), sq = .pointer (some ⟨q, 0, none⟩) ∧ sok = .bool true ∧ Hid (TB (q :: p :: [R]) wx B bp bm vc' A' ⟨u0, u1, (u2, u3, u4), (u5, u6, u7)⟩ (Op5.step ⟨ok, oi, on, oS, oa, (id0, id1)⟩ T)) ∧ Hid (Mv (ownTc bp bm vc A) (ownTc bp bm vc' A') wr wx) ∧ Hid (wx.heap[q]? = some (.cells #[.int .i64 u0, .int .i64 u1, .slice u2 u3 u4, .slice u5 u6 u7] tRc (0, 0))))
      case first =>
        have hown : ∀ b ∈ ownTc bp bm vc A, b < wr.heap.size := fun b hb => hL.out.tb.own b (List.mem_append_right _ hb)
        replace hown := Lib.hid hown
        have hgl := lt_of_cell f0
        go_region_with (go_at_call 12; refine (hst.out _ ?hkW).mono ?_; (case hkW => first | exact Keeps.refl [] _ | exact (Keeps.refl [] _).drew | exact ((Keeps.refl [] _).alloc _).drew | exact (Keeps.refl [] _).alloc _); rintro e w5 ⟨⟨u0, u1, ⟨u2, u3, u4⟩, ⟨u5, u6, u7⟩⟩, vc', A', rfl, hTB, hM⟩; simp only [rtV, slv]; first | (have hq5 := (hM.k.block wr.heap.size (lt_of_blk (heap_alloc_new wr (.cells #[.int .i64 0, .int .i64 0, .slice none 0 0, .slice none 0 0] tRc))) (fun hm => Nat.lt_irrefl _ (hown.out _ hm))).trans (heap_alloc_new wr (.cells #[.int .i64 0, .int .i64 0, .slice none 0 0, .slice none 0 0] tRc)); obtain ⟨v0, v1, v2, v3, vf, vl⟩ := cl4 hq5) | skip)
        all_goals (go_wp2_with fail)
        all_goals go_meet
        all_goals first
          | (have hq := heap_alloc_new w5 (.cells #[.int .i64 u0, .int .i64 u1, .slice u2 u3 u4, .slice u5 u6 u7] tRc)
             obtain ⟨a, b⟩ := Lp.callA (q := w5.heap.size) (Keeps.refl [] wr).drew hTB hM ((Keeps.refl [] w5).alloc (.cells #[.int .i64 u0, .int .i64 u1, .slice u2 u3 u4, .slice u5 u6 u7] tRc)) ⟨Nat.le_refl _, lt_of_blk hq⟩
             exact ⟨u0, u1, u2, u3, u4, u5, u6, u7, vc', A', w5.heap.size, rfl, rfl, Lib.hid a, Lib.hid b, Lib.hid hq⟩)
          | (obtain ⟨s1, s2⟩ := sc4 (.int .i64 u0) (.int .i64 u1) (.slice u2 u3 u4) (.slice u5 u6 u7) hq5
             obtain ⟨a, b⟩ := Lp.callB (q := wr.heap.size) ((Keeps.refl [] wr).alloc (.cells #[.int .i64 0, .int .i64 0, .slice none 0 0, .slice none 0 0] tRc)).drew (Nat.le_refl _) (lt_of_blk (heap_alloc_new wr (.cells #[.int .i64 0, .int .i64 0, .slice none 0 0, .slice none 0 0] tRc))) hTB hM hq5 s2
             exact ⟨u0, u1, u2, u3, u4, u5, u6, u7, vc', A', wr.heap.size, rfl, rfl, Lib.hid a, Lib.hid b, Lib.hid s1⟩)
      case rest =>
        obtain ⟨u0, u1, u2, u3, u4, u5, u6, u7, vc', A', q, rfl, rfl, hT5, hM5, hbq⟩ := hcut
        have hbp5 := (hM5.out.k.block _ el (hL.out.tb.notOwn hbp.out)).trans hbp.out
        have hbR5 := (hM5.out.k.block _ (lt_of_blk hbR.out) (hL.out.tb.notOwn hbR.out)).trans hbR.out
        clear f0 f1 f2 f3 f4 f5 f6 f7 f8 f9 f10 f11 f12 f13 e0 e1 e2 e3 ef hst
        obtain ⟨m0, m1, m2, m3, mf, ml⟩ := cl4 hbq.out
        obtain ⟨e0, e1, e2, e3, ef, el5⟩ := cl4 hbp5
        have g12 := sc4 (.int .i64 u0) (.int .i64 u1) (.slice u2 u3 u4) (.slice u5 u6 u7) hbp5
        obtain ⟨g1, g2⟩ := g12
        have hL5 := hL.out.next hM5.out hT5.out hfk.out.1 hfk.out.2 g2 g1
        rw [← hrun.out] at hL5
        have hRp : R ≠ p := by have h1 := hL.out.b0; have h2 := hRB.out; omega
        replace hbR5 := Lib.hid ((g2.block _ (lt_of_blk hbR5) (by simpa using hRp)).trans hbR5)
        clear hRp hbR
        replace hL5 := Lib.hid hL5
        clear g1 g2 hT5 hM5 hL hbp5 hfk
        go_upto_region 10 with fail
        generalize ((((wc.setCell ⟨p, 0, none⟩ (.int .i64 u0)).setCell ⟨p, 1, none⟩ (.int .i64 u1)).setCell ⟨p, 2, none⟩ (.slice u2 u3 u4)).setCell ⟨p, 3, none⟩ (.slice u5 u6 u7)) = W5 at *
        clear m0 m1 m2 m3 mf ml e0 e1 e2 e3 ef el5 hbq
        go_wp2
        go_roundw
        case rel =>
          exact ⟨k + 1, vc', A', _, rfl, by omega, hL5, hbR5⟩
        case measure => simp [intOf]; omega
    · have hlt2 : ¬ ((k : Int) < NL) := by omega
      have hkN : L.take k = L := List.take_of_length_le (by rw [hNL.out]; omega)
      have hkk : k = NL := by omega
      rw [hkN] at hL
      obtain ⟨x0, x1, ⟨x2, x3, x4⟩, ⟨x5, x6, x7⟩⟩ := x
      obtain ⟨T, hT⟩ : ∃ T, runT5 L (Tc.new m) = T := ⟨_, rfl⟩
      have hmT : W64 (runT5 L (Tc.new m)).m := by rw [runT5_m]; exact hm.out
      rw [hT] at hL hmT
      have hsm := fun (W : World) (hk' : Keeps [] wr W) => same5_c [p, R] W B bp bm vc A _ T k (4 * k) (hL.out.tb.keeps hk') hL.out.ok (by omega) (by omega) hmT
      have hpR : ¬ p = R := by have h1 := hL.out.b0; have h2 := hRB.out; omega
      simp only [rtV, slv, ptrV] at hsm
      replace hsm := Lib.hid hsm
      replace hT := Lib.hid hT
      replace hkN := Lib.hid hkN
      clear hmT
      go_upto_region 12 with fail
      have hbpd : wr.drew.heap[p]? = _ := hL.out.bk
      have hbRd : wr.drew.heap[R]? = _ := hbR.out
      have hkd : Keeps [] wr wr.drew := (Keeps.refl [] wr).drew
      simp only [slv] at hbpd
      obtain ⟨e0, e1, e2, e3, ef, el⟩ := cl4 hbpd
      replace hbRd := Lib.hid hbRd
      replace hkd := Lib.hid hkd
      clear hbpd
      refine Free.wp_region_chain (fun i => i == 4 || i == 6) (fun i => true) (fun _ b => b = R) (by kernel_rfl) (by kernel_rfl) (by kernel_rfl) ?_
      generalize wr.drew = wd at *
      (repeat (first | (apply Free.cw_pure rfl rfl; (intro w'; go_simp <;> exact rfl); go_frame) | (apply Free.cw_steady rfl rfl rfl; (intro w' hS; have q0 := Free.sx_cell hS e0 (fun _ _ hT => hpR hT); have q1 := Free.sx_cell hS e1 (fun _ _ hT => hpR hT); have q2 := Free.sx_cell hS e2 (fun _ _ hT => hpR hT); have q3 := Free.sx_cell hS e3 (fun _ _ hT => hpR hT); go_simp <;> exact rfl); go_frame) | (refine Free.cw_skip rfl ?_; go_frame)))
      refine Free.cw_loud rfl rfl (fun K hK => ?_)
      go_wp2_with fail
      refine (hsm.out _ hkd.out).mono ?_
      rintro e w6 ⟨rfl, hk6⟩
      refine hK _ _ rfl (Free.KeepsP.of hk6 (by simp)) ?_
      clear hK K hsm
      have hbR6 := (hk6.block _ (lt_of_blk hbRd.out) (by simp)).trans hbRd.out
      obtain ⟨v0, v1, v2, v3, vf, vl⟩ := cl4 hbR6
      have hk6' := hkd.out.trans hk6
      replace hbR6 := Lib.hid hbR6
      replace hk6' := Lib.hid hk6'
      clear hk6
      (repeat (apply Free.cw_pure rfl rfl; (intro w'; go_simp <;> exact rfl); go_frame))
      refine Free.cw_loud rfl rfl (fun K hK => ?_)
      go_wp2
      obtain ⟨g1, g2⟩ := sc4 (.int .i64 x0) (.int .i64 x1) (.slice x2 x3 x4) (.slice x5 x6 x7) hbR6.out
      refine hK _ _ rfl (Free.KeepsP.of g2 (fun b hb => by simpa using hb)) ?_
      clear hK K
      have hT6 := (((hL.out.tb.keeps hk6'.out).store (q := R) (by simp) hbR6.out g2).sub (Q := []) (Keeps.refl [] _) (fun b hb => by simp at hb))
      have hkf := (hL.out.ks.trans hk6'.out).fresh g2 (fun b hb => by simp only [List.mem_singleton] at hb; subst hb; have := hR.out; exact .inr (by omega))
      replace g1 := Lib.hid g1
      replace hT6 := Lib.hid hT6
      replace hkf := Lib.hid hkf
      clear g2
      (repeat (apply Free.cw_pure rfl rfl; (intro w'; go_simp <;> exact rfl); go_frame))
      refine Free.cw_nil ?_
      go_wp2
      refine bodyPost_ret (results_rt3 rfl _ _ _ _ _ _ _ _ _ rfl g1.out) rfl ?_
      rw [hT.out, ← hkk]
      exact ⟨B, bp, bm, vc, A, ⟨x0, x1, (x2, x3, x4), (x5, x6, x7)⟩, rfl, hT6.out, hL.out.ok, hkf.out, hL.out.b0.1⟩
end Go.Proofs.YtpobepninifenaaGreat

namespace Go.Proofs.YtpobepninifenaaGreat
open Go Go.RowKit

def awT1 : Tc := (Tc.new 1).start [(2, 5), (3, 5), (2, 5)]
def awT2 : Tc := awT1.finish (1, 1)
def awT3 : Tc := awT2.start [(2, 5)]
theorem aw5_ids : (Tc.new 1).startIds [(2, 5), (3, 5), (2, 5)] = [(1, 1), (1, 2)] := by decide +kernel
theorem aw5_find : awT1.find (1, 1) ≠ none := by decide +kernel
theorem aw5_ids3 : awT2.startIds [(2, 5)] = [(1, 3)] := by decide +kernel
theorem aw5_s : awT3.s = 3 := by decide +kernel
theorem aw5_m : awT2.m = 1 := by decide +kernel
set_option maxRecDepth 100000 in
set_option maxHeartbeats 10000000 in
theorem awake5_c (w : World) : Calls Tryz.prog 9 #[] w fun e w' => e = .returned (.bool true) ∧ Keeps [] w w' := by
  go_enter Tryz.func9, Tryz.ntmps9
  go_wp2_with fail
  refine (tnew_c w 1).mono ?_
  rintro e w1 ⟨bp, bm, rfl, hT, hk1⟩
  have hX := Sh.R.made shSm w1 [(⟨2, 5, false, 0, (none, 0, 0)⟩ : SmV), (⟨3, 5, false, 0, (none, 0, 0)⟩ : SmV), (⟨2, 5, false, 0, (none, 0, 0)⟩ : SmV)] #[.int .i64 2, .int .u64 5, .bool false, .int .i64 0, .slice none 0 0, .int .i64 3, .int .u64 5, .bool false, .int .i64 0, .slice none 0 0, .int .i64 2, .int .u64 5, .bool false, .int .i64 0, .slice none 0 0] tSm rfl (by decide) 3 rfl
  have hkA := (Keeps.refl [] w1).alloc (.cells #[.int .i64 2, .int .u64 5, .bool false, .int .i64 0, .slice none 0 0, .int .i64 3, .int .u64 5, .bool false, .int .i64 0, .slice none 0 0, .int .i64 2, .int .u64 5, .bool false, .int .i64 0, .slice none 0 0] tSm)
  have hTA := hT.keeps hkA
  have hs := tstart_c (w1.alloc (.cells #[.int .i64 2, .int .u64 5, .bool false, .int .i64 0, .slice none 0 0, .int .i64 3, .int .u64 5, .bool false, .int .i64 0, .slice none 0 0, .int .i64 2, .int .u64 5, .bool false, .int .i64 0, .slice none 0 0] tSm)) w.heap.size bp bm _ [] (Tc.new 1) 0 0 hTA (Tc.Ok.new 1) [(2, 5), (3, 5), (2, 5)] _ ⟨_, hX, rfl⟩ (fun x hx => by simp only [List.mem_cons, List.not_mem_nil, or_false] at hx; rcases hx with rfl | rfl | rfl <;> exact ⟨w64_iff.2 (by decide), by decide⟩) (w64_iff.2 (by decide)) (by decide) (fun _ b hb hm => by
    have h1 := (hT.tag hm).1
    simp [Value.ownBlock] at hb
    omega)
  have ho1 : awT1.Ok 0 3 := Tc.Ok.start [(2, 5), (3, 5), (2, 5)] (Tc.Ok.new 1)
  have hk1A := hk1.trans hkA
  unfold StartPost at hs
  rw [aw5_ids] at hs
  simp only [ptrV] at hs ⊢
  replace hs := Lib.hid hs
  replace hTA := Lib.hid hTA
  replace hk1A := Lib.hid hk1A
  replace ho1 := Lib.hid ho1
  clear hX hkA hT hk1
  go_wp2_with fail
  refine hs.out.mono ?_
  rintro e w2 ⟨v, A2, rfl, hO, hT2, hM2⟩
  have hk2 : Keeps [] w w2 := hk1A.out.fresh hM2.k (fun b hb => .inr (hTA.out.ge hb))
  replace hT2 : TcM w2 w.heap.size bp bm _ A2 awT1 := hT2
  obtain ⟨g, c, rfl, _, _⟩ := hO.form1 (by decide)
  obtain ⟨g0, o0, c0, e1, he⟩ := hO.r.elem (k := 0) (by decide)
  obtain ⟨g1, o1, c1, e2, he'⟩ := hO.r.elem (k := 1) (by decide)
  cases e1
  cases e2
  have f0 := he 0 _ rfl
  have f1 := he 1 _ rfl
  have e0 := he' 0 _ rfl
  have e1 := he' 1 _ rfl
  simp [shId] at f0 f1 e0 e1
  have hgo : g ∉ ownTc bp bm (.slice none 0 0) A2 := fun hm => by
    obtain ⟨cs, hc⟩ := hO.tag g rfl
    exact (hT2.tag hm).not (by decide) cs _ hc
  have hf := fun (W : World) (hk : Keeps [] w2 W) => tfinish_c W w.heap.size bp bm _ A2 awT1 0 3 (hT2.keeps hk) ho1.out (by decide) (by decide) (1, 1) ⟨w64_iff.2 (by decide), w64_iff.2 (by decide)⟩
  have ho2 : awT2.Ok 1 3 := ho1.out.finish (fun t ht => by
    obtain ⟨a, ha, rfl⟩ := List.mem_map.1 (hT2.ac ▸ ht)
    exact (hT2.tr a ha).inv) (1, 1)
  have hOB : ∀ b ∈ ownTc bp bm (.slice none 0 0) A2, w.heap.size ≤ b := fun b hb => hT2.ge hb
  unfold FinPost at hf
  simp only [if_neg aw5_find, ptrV, ipV] at hf
  have hnI := fun W => neId W (1, 2) (1, 2)
  simp only [ne_eq, not_true_eq_false, decide_false, ipV] at hnI
  simp only [List.length_cons, List.length_nil, Nat.zero_add, Nat.reduceAdd]
  replace hf := Lib.hid hf
  replace hgo := Lib.hid hgo
  replace hk2 := Lib.hid hk2
  replace ho2 := Lib.hid ho2
  replace hOB := Lib.hid hOB
  clear hO he he' hM2 hT2 hs hTA hk1A ho1
  go_wp2_with fail
  refine (hf.out _ (Keeps.refl [] w2)).mono ?_
  rintro e w3 ⟨vc3, A3, rfl, hT3, hM3⟩
  have hk3 : Keeps [] w w3 := hk2.out.fresh hM3.k (fun b hb => .inr (hOB.out b hb))
  replace hT3 : TcM w3 w.heap.size bp bm vc3 A3 awT2 := hT3
  replace hT3 := Lib.hid hT3
  replace hk3 := Lib.hid hk3
  clear hM3 hk2 hOB hf f0 f1 e0 e1 hgo
  have hX := Sh.R.made shSm w3 [(⟨2, 5, false, 0, (none, 0, 0)⟩ : SmV)] #[.int .i64 2, .int .u64 5, .bool false, .int .i64 0, .slice none 0 0] tSm rfl (by decide) 1 rfl
  have hkA := (Keeps.refl [] w3).alloc (.cells #[.int .i64 2, .int .u64 5, .bool false, .int .i64 0, .slice none 0 0] tSm)
  have hTA := hT3.out.keeps hkA
  have hs := tstart_c (w3.alloc (.cells #[.int .i64 2, .int .u64 5, .bool false, .int .i64 0, .slice none 0 0] tSm)) w.heap.size bp bm _ A3 awT2 1 3 hTA ho2.out [(2, 5)] _ ⟨_, hX, rfl⟩ (fun x hx => by simp only [List.mem_cons, List.not_mem_nil, or_false] at hx; rcases hx with rfl <;> exact ⟨w64_iff.2 (by decide), by decide⟩) (by rw [aw5_m]; exact w64_iff.2 (by decide)) (by decide) (fun _ b hb hm => by
    have h1 := (hT3.out.tag hm).1
    simp [Value.ownBlock] at hb
    omega)
  have hkA3 := hk3.out.trans hkA
  unfold StartPost at hs
  rw [aw5_ids3] at hs
  simp only [ptrV] at hs
  replace hs := Lib.hid hs
  replace hkA3 := Lib.hid hkA3
  replace hTA := Lib.hid hTA
  clear hX hkA
  go_wp2_with fail
  refine hs.out.mono ?_
  rintro e w4 ⟨v, A4, rfl, hO, hT4, hM4⟩
  have hk4 : Keeps [] w w4 := hkA3.out.fresh hM4.k (fun b hb => .inr (hTA.out.ge hb))
  replace hT4 : TcM w4 w.heap.size bp bm _ A4 awT3 := hT4
  obtain ⟨g, c, rfl, _, _⟩ := hO.form1 (by decide)
  obtain ⟨g0, o0, c0, e1, he⟩ := hO.r.elem (k := 0) (by decide)
  cases e1
  have d0 := he 0 _ rfl
  have d1 := he 1 _ rfl
  simp [shId] at d0 d1
  have hst := fun (W : World) (hk : Keeps [] w4 W) => started_c W w.heap.size bp bm _ A4 awT3 (hT4.keeps hk)
  rw [aw5_s] at hst
  simp only [ptrV] at hst
  have hnI := fun W => eqId W (1, 3) (1, 3)
  simp only [decide_true, ipV] at hnI
  simp only [List.length_cons, List.length_nil, Nat.zero_add]
  replace hst := Lib.hid hst
  replace hk4 := Lib.hid hk4
  clear hO he hM4 hT4 hs hTA hkA3 hT3 hk3 ho2
  go_wp2_with fail
  refine (hst.out _ (Keeps.refl [] w4)).mono ?_
  rintro e w5 ⟨rfl, hw⟩
  subst hw
  clear hst
  go_wp2
  go_ret
  exact ⟨rfl, hk4.out⟩
end Go.Proofs.YtpobepninifenaaGreat

namespace Go.Proofs.YtpobepninifenaaGreat

theorem filter_erase {α : Type} [DecidableEq α] : ∀ (l : List α) (i : Nat) (_ : l.Nodup) (hi : i < l.length), l.filter (fun q => decide (q ≠ l[i])) = l.eraseIdx i
  | [], i, _, hi => by simp at hi
  | a :: l, 0, hn, _ => by
    obtain ⟨h1, h2⟩ := List.nodup_cons.1 hn
    simp only [List.getElem_cons_zero, List.eraseIdx_cons_zero]
    rw [List.filter_cons_of_neg (by simp), List.filter_eq_self.2 (fun q hq => by
      simp only [ne_eq, decide_not, Bool.not_eq_true', decide_eq_false_iff_not]
      rintro rfl
      exact h1 hq)]
  | a :: l, i + 1, hn, hi => by
    obtain ⟨h1, h2⟩ := List.nodup_cons.1 hn
    have hi2 : i < l.length := by simpa using hi
    simp only [List.getElem_cons_succ, List.eraseIdx_cons_succ]
    rw [List.filter_cons_of_pos (by
      simp only [ne_eq, decide_not, Bool.not_eq_true', decide_eq_false_iff_not]
      intro e
      exact h1 (e ▸ List.getElem_mem hi2)), filter_erase l i h2 hi2]
theorem Tc.Ok.ids {T : Tc} {n k : Nat} (h : T.Ok n k) : (T.act.map Tr.idp).Nodup := by
  rw [List.nodup_iff_pairwise_ne, List.pairwise_map]
  exact h.srt.imp (fun hab e => by have := (Prod.mk.inj e).2; omega)
theorem Tc.find_get {T : Tc} {id : Int × Int} {i : Nat} (h : T.find id = some i) : ∃ hi : i < T.act.length, T.act[i].idp = id := by
  unfold Tc.find at h
  obtain ⟨hi, hp, _⟩ := List.findIdx?_eq_some_iff_getElem.1 h
  exact ⟨hi, by simpa using hp⟩
theorem Tc.finish_some {T : Tc} {id : Int × Int} {i : Nat} (h : T.find id = some i) : (T.finish id).act = T.act.eraseIdx i ∧ (∀ hi : i < T.act.length, (T.finish id).cs = if T.act[i].state = 2 then T.cs ++ [certOf T.act[i]] else T.cs) ∧ (T.finish id).m = T.m ∧ (T.finish id).s = T.s := by
  unfold Tc.finish
  rw [h]
  refine ⟨rfl, fun hi => ?_, rfl, rfl⟩
  simp only [List.getElem?_eq_getElem hi, Option.map_some, Option.some.injEq, Option.toList_some]
theorem erase_map {α β : Type} (f : α → β) : ∀ (l : List α) (i : Nat), (l.map f).eraseIdx i = (l.eraseIdx i).map f
  | [], _ => rfl
  | _ :: _, 0 => rfl
  | a :: l, i + 1 => by simp only [List.map_cons, List.eraseIdx_cons_succ, erase_map f l i]
theorem Tc.Ok.left {T : Tc} {n k : Nat} (h : T.Ok n k) {id : Int × Int} {i : Nat} (hf : T.find id = some i) : (T.act.map Tr.idp).filter (fun q => decide (q ≠ id)) = (T.finish id).act.map Tr.idp := by
  obtain ⟨hi, e⟩ := Tc.find_get hf
  have h1 := filter_erase (T.act.map Tr.idp) i h.ids (by rw [List.length_map]; exact hi)
  rw [List.getElem_map, e] at h1
  rw [h1, (Tc.finish_some hf).1]
  exact erase_map Tr.idp T.act i
theorem Tc.Ok.gone {T : Tc} {n k : Nat} (h : T.Ok n k) {id : Int × Int} {i : Nat} (hf : T.find id = some i) : (T.finish id).find id = none := by
  have h1 := h.left hf
  unfold Tc.find
  rw [List.findIdx?_eq_none_iff]
  intro t ht
  have h2 : t.idp ∈ (T.finish id).act.map Tr.idp := List.mem_map_of_mem ht
  rw [← h1] at h2
  have h3 := (List.mem_filter.1 h2).2
  simpa using h3
theorem take_filter {α : Type} (p : α → Bool) (l : List α) (k : Nat) (hk : k < l.length) : (l.take (k + 1)).filter p = (l.take k).filter p ++ if p l[k] = true then [l[k]] else [] := by
  rw [List.take_succ_eq_append_getElem hk, List.filter_append]
  by_cases h : p l[k] = true
  · rw [if_pos h, List.filter_cons_of_pos h, List.filter_nil]
  · rw [if_neg h, List.filter_cons_of_neg h, List.filter_nil]
end Go.Proofs.YtpobepninifenaaGreat

namespace Go.Proofs.YtpobepninifenaaGreat
open Go Go.RowKit

set_option maxRecDepth 100000 in
set_option maxHeartbeats 20000000 in
theorem finishes_w (w : World) (m : Int) (vO : Value) (L : List Op5) (i0 i1 nn : Int) (hm : W64 m) (hLO : LO5 w vO L) (h0 : W64 i0) (h1 : W64 i1) (hnn : W64 nn) :
    Calls Tryz.prog 5 #[.int .i64 m, vO, .agg #[.int .i64 i0, .int .i64 i1], .int .i64 nn] w fun e w' => e = .returned (.bool true) ∧ Keeps [] w w' := by
  obtain ⟨ao, co, rfl, hlo, hco, _⟩ := Gen.SlR.form hLO
  have hfew := fun (W : World) (hk : Keeps [] w W) => few_c W _ L 30 (hLO.keeps hk)
  obtain ⟨NL, hNL⟩ : ∃ n, L.length = n := ⟨_, rfl⟩
  rw [hNL] at hlo hfew ⊢
  obtain ⟨fb, hfb⟩ : ∃ b, few5 L 30 = b := ⟨_, rfl⟩
  simp only [hfb] at hfew
  have hNLm : NL ≤ 9223372036854775807 := by unfold Go.maxLen at hco; omega
  obtain ⟨WA, hWA⟩ : ∃ W, (w.alloc (.cells #[.int .i64 i0, .int .i64 i1] tId)) = W := ⟨_, rfl⟩
  have hb3 := heap_alloc_new w (.cells #[.int .i64 i0, .int .i64 i1] tId)
  have hkA : Keeps [] w (w.alloc (.cells #[.int .i64 i0, .int .i64 i1] tId)) := (Keeps.refl _ _).alloc _
  rw [hWA] at hb3 hkA
  obtain ⟨I, hI⟩ : ∃ b, w.heap.size = b := ⟨_, rfl⟩
  rw [hI] at hb3
  replace hb3 := Lib.hid hb3
  replace hkA := Lib.hid hkA
  replace hWA := Lib.hid hWA
  have hid0 := Lib.hid (show ipOk (i0, i1) from ⟨h0, h1⟩)
  clear h0 h1
  replace hnn := Lib.hid hnn
  replace hfew := Lib.hid hfew
  replace hNL := Lib.hid hNL
  replace hfb := Lib.hid hfb
  replace hm := Lib.hid hm
  replace hLO := Lib.hid hLO
  clear hlo hco
  go_enter Tryz.func5, Tryz.ntmps5
  go_wp2_with fail
  rw [hWA.out]
  try rw [hI]
  replace hI := Lib.hid hI
  refine (awake5_c WA).mono ?_
  rintro e w1 ⟨rfl, hk1⟩
  have hkw1 := Lib.hid (hkA.out.trans hk1)
  replace hk1 := Lib.hid hk1
  go_wp2_with fail
  refine (hfew.out _ hkw1.out).mono ?_
  rintro e w2 ⟨rfl, hk2⟩
  have hkw2 := Lib.hid (hkw1.out.trans hk2)
  replace hk1 := Lib.hid (hk1.out.trans hk2)
  clear hk2 hkw1
  cases fb with
  | false =>
    go_wp2
    go_ret
    exact ⟨rfl, hkw2.out⟩
  | true =>
    obtain ⟨hfewL, hNLb⟩ := few5_of hfb.out
    rw [hNL.out] at hNLb
    have hNL30 : NL ≤ 30 := by omega
    replace hfewL := Lib.hid hfewL
    clear hNLb hfew hfb
    have hrun := run5_c w2 m _ L hm.out (hLO.out.keeps hkw2.out) hfewL.out (by rw [hNL.out]; exact hNL30)
    rw [hNL.out] at hrun
    replace hb3 := Lib.hid ((hk1.out.block _ (lt_of_blk hb3.out) (by simp)).trans hb3.out)
    simp only [ptrV] at hrun
    replace hrun := Lib.hid hrun
    clear hk1 hfewL
    go_wp2_with fail
    refine hrun.out.mono ?_
    rintro e w3 ⟨B, bp, bm, vc, A, x, rfl, hTB, hok, hk3, hBw⟩
    obtain ⟨x0, x1, ⟨x2, x3, x4⟩, ⟨x5, x6, x7⟩⟩ := x
    simp only [rtV, slv]
    obtain ⟨T, hT⟩ : ∃ T, runT5 L (Tc.new m) = T := ⟨_, rfl⟩
    have hmT : W64 (runT5 L (Tc.new m)).m := by rw [runT5_m]; exact hm.out
    rw [hT] at hTB hok hmT
    have hk4 := (Keeps.refl [] w3).alloc (.cells #[.int .i64 x0, .int .i64 x1, .slice x2 x3 x4, .slice x5 x6 x7] tRc)
    have hM4 := Lib.hid (hTB.m.keeps hk4)
    have hkw4 := Lib.hid (hkw2.out.trans (hk3.trans hk4))
    have hb4 := Lib.hid (((hk3.trans hk4).block _ (lt_of_blk hb3.out) (by simp)).trans hb3.out)
    have hal := hok.al
    replace hok := Lib.hid hok
    replace hmT := Lib.hid hmT
    have hBw := Lib.hid (Nat.le_trans hkw2.out.size hBw)
    clear hT hTB hk3 hk4 hkw2 hb3 hrun hLO
    go_upto_region 8 with fail
    generalize (w3.alloc (.cells #[.int .i64 x0, .int .i64 x1, .slice x2 x3 x4, .slice x5 x6 x7] tRc)) = W4 at *
    obtain ⟨N, hN⟩ : ∃ n, T.act.length = n := ⟨_, rfl⟩
    rw [hN] at hal
    have hNb : N ≤ 120 := by omega
    clear hal
    have hac := active_c W4 B bp bm vc A T NL (4 * NL) hM4.out hok.out (by omega)
    simp only [ptrV] at hac
    replace hac := Lib.hid hac
    replace hN := Lib.hid hN
    go_wp2_with fail
    refine hac.out.mono ?_
    rintro e w5 ⟨va, rfl, hO5, hk5⟩
    obtain ⟨aa, ac, rfl⟩ := hO5.form
    have hlI : (T.act.map Tr.idp).length = N := by rw [List.length_map]; exact hN.out
    rw [hlI] at hO5 ⊢
    have hM5 := Lib.hid (hM4.out.keeps hk5)
    have hkw5 := Lib.hid (hkw4.out.trans hk5)
    have hb5 := Lib.hid ((hk5.block _ (lt_of_blk hb4.out) (by simp)).trans hb4.out)
    have hIS : I < W4.heap.size := lt_of_blk hb4.out
    have hIw : w.heap.size ≤ I := by rw [hI.out]; exact Nat.le_refl _
    have hel := fun (k : Nat) (hk : k < (T.act.map Tr.idp).length) => hO5.r.elem (k := k) hk
    replace hel := Lib.hid hel
    replace hO5 := Lib.hid hO5
    replace hlI := Lib.hid hlI
    clear hk5 hM4 hkw4 hb4 hac
    obtain ⟨i0', i1', if', il'⟩ := cl2 hb5.out
    go_upto_region 9 with fail
    go_cut [44] from 38 to 44 (fun c wx => c = .bool (decide (0 < N ∧ 0 ≤ nn)) ∧ wx = w5)
    case first =>
      by_cases h1 : 0 < N
      · have h1b : decide ((0 : Int) < (N : Int)) = true := by simp; omega
        have h1c : (0 : Int) < (N : Int) := by omega
        by_cases h2 : 0 ≤ nn
        · have h2b : decide (0 ≤ nn) = true := by simpa using h2
          go_wp2
          go_meet
          exact ⟨by simp [h1, h2], rfl⟩
        · have h2b : decide (0 ≤ nn) = false := by simpa using h2
          go_wp2
          go_meet
          exact ⟨by simp [h1, h2], rfl⟩
      · have h1b : decide ((0 : Int) < (N : Int)) = false := by simp; omega
        have h1c : ¬ (0 : Int) < (N : Int) := by omega
        go_wp2
        go_meet
        exact ⟨by simp [h1], rfl⟩
    case rest =>
      obtain ⟨rfl, hwc⟩ := hcut
      rw [hwc]
      clear hwc wc
      obtain ⟨cb, hcb⟩ : ∃ b, decide (0 < N ∧ 0 ≤ nn) = b := ⟨_, rfl⟩
      rw [hcb]
      replace hcb := Lib.hid hcb
      go_upto_if 44 with fail
      go_cut [45] from 45 to 51 (fun _ wx => ∃ j0 j1 : Int, Hid (ipOk (j0, j1)) ∧ Hid (wx.heap[I]? = some (.cells #[.int .i64 j0, .int .i64 j1] tId (0, 0))) ∧ Hid (Keeps [I] w5 wx))
      case first =>
        cases cb with
        | true =>
          obtain ⟨hN0, hn0⟩ : 0 < N ∧ 0 ≤ nn := by simpa using hcb.out
          have hm1 : 0 ≤ nn % (N : Int) := Int.emod_nonneg _ (by omega)
          have hm2 : nn % (N : Int) < N := Int.emod_lt_of_pos _ (by omega)
          obtain ⟨i, hi⟩ : ∃ i, (nn % (N : Int)).toNat = i := ⟨_, rfl⟩
          have hp5 : nn.tmod (N : Int) = (i : Int) := by rw [Int.tmod_eq_emod_of_nonneg hn0, ← hi, Int.toNat_of_nonneg hm1]
          have hiN : i < N := by omega
          have hiL : i < (T.act.map Tr.idp).length := by rw [hlI.out]; exact hiN
          obtain ⟨g, o, c', hv, he⟩ := hel.out i hiL
          rw [hlI.out] at hv
          cases hv
          have e2 := he 0 _ rfl
          have e3 := he 1 _ rfl
          obtain ⟨⟨j0, j1⟩, hj⟩ : ∃ q, (T.act.map Tr.idp)[i] = q := ⟨_, rfl⟩
          have hjm : (j0, j1) ∈ T.act.map Tr.idp := hj ▸ List.getElem_mem hiL
          have hjok : ipOk (j0, j1) := by
            obtain ⟨t, ht, e⟩ := List.mem_map.1 hjm
            rw [← e]
            exact hok.out.idok hmT.out (by omega) ht
          rw [hj] at e2 e3
          simp only [shId, Nat.add_zero] at e2 e3
          have hNz : ¬ (N : Int) = 0 := by omega
          have hNm1 : ¬ (N : Int) = -1 := by omega
          have hi3i : (i : Int) < N := by omega
          replace hjok := Lib.hid hjok
          clear he hjm hj hm1 hm2 hi hcb hel hiL
          go_wp2
          go_meet
          obtain ⟨g1, g2⟩ := sc2 (.int .i64 j0) (.int .i64 j1) hb5.out
          exact ⟨j0, j1, hjok, Lib.hid g1, Lib.hid g2⟩
        | false =>
          go_wp2
          go_meet
          exact ⟨i0, i1, hid0, hb5, Lib.hid (Keeps.refl _ _)⟩
      case rest =>
        obtain ⟨j0, j1, hjok, hb6, hkI⟩ := hcut
        have hM6 := Lib.hid (hM5.out.keepT hkI.out hb5.out (by decide) (by decide))
        have hO6 := Lib.hid (hO5.out.keepS hkI.out (fun b hb e => by
          simp only [List.mem_singleton] at hb
          subst hb
          have := hO5.out.ge _ e
          omega))
        have hkw6 := Lib.hid (hkw5.out.fresh hkI.out (fun b hb => by
          simp only [List.mem_singleton] at hb
          subst hb
          exact .inr hIw))
        clear hM5 hO5 hkw5 hb5 hkI hel i0' i1' if' il' hcb
        obtain ⟨c0, c1, cf, cl⟩ := cl2 hb6.out
        have hfd := find_c wc B bp bm vc A T NL (4 * NL) hM6.out hok.out (j0, j1) hjok.out
        simp only [ptrV, ipV] at hfd
        replace hfd := Lib.hid hfd
        go_wp2_with fail
        refine hfd.out.mono ?_
        rintro e w7 ⟨hcase, hk7⟩
        have hM7 := Lib.hid (hM6.out.keeps hk7)
        have hO7 := Lib.hid (hO6.out.keeps hk7)
        have hkw7 := Lib.hid (hkw6.out.trans hk7)
        have hb7 := Lib.hid ((hk7.block _ (lt_of_blk hb6.out) (by simp)).trans hb6.out)
        clear hM6 hO6 hkw6 hb6 hk7 c0 c1 cf cl
        obtain ⟨c0, c1, cf, cl⟩ := cl2 hb7.out
        clear hfd
        rcases hcase with ⟨i, hiA, hf, hid, rfl⟩ | ⟨hf, rfl⟩
        · obtain ⟨⟨t, bt, bmm, vo, vh, vg⟩, hAi⟩ : ∃ a, A[i] = a := ⟨_, rfl⟩
          rw [hAi] at hid ⊢
          have hTm : TrM w7 B bt bmm vo vh vg t := by have := hM7.out.tr _ (List.getElem_mem hiA); rw [hAi] at this; exact this
          have hiT : i < T.act.length := by rw [← hM7.out.len]; exact hiA
          have htu : T.act[i] = t := by
            have h1 : (A.map (·.t))[i]'(by rw [List.length_map]; exact hiA) = T.act[i] := by simp only [hM7.out.ac]
            rw [List.getElem_map, hAi] at h1
            exact h1.symm
          obtain ⟨hfa, hfc, -, -⟩ := Tc.finish_some hf
          have hfc := hfc hiT
          rw [htu] at hfc
          have hok2 := hok.out.finish (fun t ht => by
            obtain ⟨a, ha, rfl⟩ := List.mem_map.1 (hM7.out.ac ▸ ht)
            exact (hM7.out.tr a ha).inv) (j0, j1)
          have hgone := hok.out.gone hf
          have hleft := hok.out.left hf
          have hNA0 : (T.finish (j0, j1)).act.length + 1 = N := by rw [hfa, List.length_eraseIdx_of_lt hiT, hN.out]; have := hN.out; omega
          have hcl1 := hok.out.cl
          have hcl2 := hok2.cl
          have hal2 := hok2.al
          have hst := state_c w7 B bt bmm vo vh vg t hTm
          have htc := tcerts_c w7 B bp bm vc A T NL (4 * NL) hM7.out hok.out (by omega)
          unfold CsPost at htc
          simp only [ptrV] at htc
          obtain ⟨sb, hsb⟩ : ∃ b, (t.state == 2) = b := ⟨_, rfl⟩
          have hbb : (sb != sb) = false := by simp
          obtain ⟨NC, hNC⟩ : ∃ n, T.cs.length = n := ⟨_, rfl⟩
          have hCC : (T.finish (j0, j1)).cs.length = if sb = true then NC + 1 else NC := by
            rw [hfc, ← hsb, ← hNC]
            by_cases h2 : t.state = 2
            · rw [if_pos h2, if_pos (by simpa using h2), List.length_append]; rfl
            · rw [if_neg h2, if_neg (by simpa using h2)]
          obtain ⟨T', hT'⟩ : ∃ T', T.finish (j0, j1) = T' := ⟨_, rfl⟩
          rw [hT'] at hok2 hgone hleft hNA0 hcl2 hal2 hCC
          obtain ⟨NA, hNA⟩ : ∃ n, T'.act.length = n := ⟨_, rfl⟩
          obtain ⟨ND, hND⟩ : ∃ n, T'.cs.length = n := ⟨_, rfl⟩
          rw [hNA] at hNA0 hal2
          rw [hND] at hCC hcl2
          rw [hNC] at hcl1
          have hnd : (((ND : Nat) : Int) == (NC : Int) + 1) = sb := by
            rw [hCC]
            cases sb with
            | true => simp
            | false => simp; omega
          have hna : (((NA : Nat) : Int) != (N : Int) - 1) = false := by
            have : ((NA : Nat) : Int) = (N : Int) - 1 := by omega
            rw [this]
            simp
          have hwr : IntKind.i64.wrap ((NC : Int) + 1) = (NC : Int) + 1 := IntWalk.i64_in _ ⟨by omega, by omega⟩
          have hws : IntKind.i64.wrap ((N : Int) - 1) = (N : Int) - 1 := IntWalk.i64_in _ ⟨by omega, by omega⟩
          replace hst := Lib.hid hst
          replace htc := Lib.hid htc
          replace hCC := Lib.hid hCC
          replace hNA := Lib.hid hNA
          replace hND := Lib.hid hND
          replace hNC := Lib.hid hNC
          replace hT' := Lib.hid hT'
          replace hok2 := Lib.hid hok2
          replace hgone := Lib.hid hgone
          replace hleft := Lib.hid hleft
          replace hf := Lib.hid hf
          replace hal2 := Lib.hid hal2
          replace hNA0 := Lib.hid hNA0
          clear hTm htu hiT hfa hfc hcl1 hcl2 hid hAi hiA
          go_wp2_with fail
          refine hst.out.mono ?_
          rintro e w8 ⟨rfl, hw⟩
          subst hw
          clear hst
          go_upto_region 13 with fail
          replace hsb := Lib.hid hsb
          go_wp2_with fail
          refine htc.out.mono ?_
          rintro e w8 ⟨vd, XD, rfl, hvd, hLd, hk8⟩
          obtain ⟨a8, d8, rfl⟩ := hvd.form
          rw [hLd.1]
          clear hvd hLd
          rw [hNC.out]
          have hM8 := Lib.hid (hM7.out.keeps hk8)
          have hO8 := Lib.hid (hO7.out.keeps hk8)
          have hkw8 := Lib.hid (hkw7.out.trans hk8)
          have hb8 := Lib.hid ((hk8.block _ (lt_of_blk hb7.out) (by simp)).trans hb7.out)
          clear hM7 hO7 hkw7 hb7 hk8 c0 c1 cf cl
          obtain ⟨c0, c1, cf, cl⟩ := cl2 hb8.out
          clear htc
          have htf := tfinish_c w8 B bp bm vc A T NL (4 * NL) hM8.out hok.out (by omega) (by omega) (j0, j1) hjok.out
          unfold FinPost at htf
          simp only [ptrV, ipV, hf.out, reduceCtorEq, if_false, hT'.out] at htf
          replace htf := Lib.hid htf
          go_wp2_with fail
          refine htf.out.mono ?_
          rintro e w9 ⟨vc', A', rfl, hT9, hV9⟩
          have hM9 := Lib.hid hT9
          have hO9 := Lib.hid (hO8.out.keepS hV9.k (fun b hb e => by
            obtain ⟨cs, hc⟩ := hO8.out.tag b e
            exact (hM8.out.tag hb).not (by decide) cs _ hc))
          have hb9 := Lib.hid ((hV9.k.block _ (lt_of_blk hb8.out) (fun hm => (hM8.out.tag hm).not (by decide) _ _ hb8.out)).trans hb8.out)
          have hkw9 := Lib.hid (hkw8.out.fresh hV9.k (fun b hb => .inr (by have h1 := hM8.out.ge hb; have h2 := hBw.out; omega)))
          clear hT9 hV9 hM8 hO8 hb8 hkw8 c0 c1 cf cl
          obtain ⟨c0, c1, cf, cl⟩ := cl2 hb9.out
          clear htf
          have hac := active_c w9 B bp bm vc' A' T' (NL + 1) (4 * NL) hM9.out hok2.out (by omega)
          simp only [ptrV] at hac
          replace hac := Lib.hid hac
          go_wp2_with fail
          refine hac.out.mono ?_
          rintro e w10 ⟨vb, rfl, hvb, hk10⟩
          obtain ⟨ba, bc, rfl⟩ := hvb.form
          rw [List.length_map, hNA.out]
          clear hvb hac
          have hM10 := Lib.hid (hM9.out.keeps hk10)
          have hO10 := Lib.hid (hO9.out.keeps hk10)
          have hkw10 := Lib.hid (hkw9.out.trans hk10)
          have hb10 := Lib.hid ((hk10.block _ (lt_of_blk hb9.out) (by simp)).trans hb9.out)
          clear hM9 hO9 hkw9 hb9 hk10 c0 c1 cf cl
          obtain ⟨c0, c1, cf, cl⟩ := cl2 hb10.out
          have htc := tcerts_c w10 B bp bm vc' A' T' (NL + 1) (4 * NL) hM10.out hok2.out (by omega)
          unfold CsPost at htc
          simp only [ptrV] at htc
          replace htc := Lib.hid htc
          go_wp2_with fail
          refine htc.out.mono ?_
          rintro e w11 ⟨ve, XE, rfl, hve, hLe, hk11⟩
          obtain ⟨a11, d11, rfl⟩ := hve.form
          rw [hLe.1]
          clear hve hLe
          rw [hND.out]
          have hM11 := Lib.hid (hM10.out.keeps hk11)
          have hO11 := Lib.hid (hO10.out.keeps hk11)
          have hkw11 := Lib.hid (hkw10.out.trans hk11)
          have hb11 := Lib.hid ((hk11.block _ (lt_of_blk hb10.out) (by simp)).trans hb10.out)
          clear hM10 hO10 hkw10 hb10 hk11 c0 c1 cf cl
          obtain ⟨c0, c1, cf, cl⟩ := cl2 hb11.out
          clear htc
          go_upto_region 19 with fail
          have hOn := Sh.O.fresh shId w11 w11.heap.size tId (Nat.le_refl _)
          have hkn := (Keeps.refl [] w11).alloc (.cells #[] tId)
          have hOl : ∀ b, (Value.slice aa N ac).ownBlock = some b → b < w11.heap.size := fun b hb => hO11.out.lt b hb
          have hNm : N ≤ 9223372036854775807 := by omega
          replace hOn := Lib.hid hOn
          replace hkn := Lib.hid hkn
          clear hnd hna hwr hws hbb hCC hsb
          go_wp2
          go_loopw [18, 19] (fun ov iv wr => ∃ k : Nat, iv = .int .i64 k ∧ k ≤ N ∧ Hid (shId.O wr w11.heap.size tId ov (((T.act.map Tr.idp).take k).filter (fun q => decide (q ≠ (j0, j1))))) ∧ Hid (Keeps [] w11 wr)) (fun _ iv _ => N - (intOf iv).toNat)
          case atStart => exact ⟨0, rfl, by omega, hOn, hkn⟩
          case round =>
            obtain ⟨k, rfl, hk, hOl2, hkr⟩ := hrel
            clear hOn hkn
            have d0 := hkr.out.val c0
            have d1 := hkr.out.val c1
            have dI := Nat.lt_of_lt_of_le cl hkr.out.size
            clear c0 c1 cf cl
            obtain ⟨oa, oc, rfl⟩ := hOl2.out.form
            obtain ⟨LL, hLL⟩ : ∃ n, (((T.act.map Tr.idp).take k).filter (fun q => decide (q ≠ (j0, j1)))).length = n := ⟨_, rfl⟩
            have hLLk : LL ≤ k := by
              rw [← hLL]
              exact Nat.le_trans (List.length_filter_le _ _) (by rw [List.length_take]; omega)
            rw [hLL] at hOl2 ⊢
            replace hLL := Lib.hid hLL
            by_cases hlt : k < N
            · have hlt2 : (k : Int) < N := by omega
              have hkL : k < (T.act.map Tr.idp).length := by rw [hlI.out]; exact hlt
              obtain ⟨g, o, c', hv, he⟩ := hO11.out.r.elem hkL
              rw [hlI.out] at hv
              cases hv
              obtain ⟨⟨q0, q1⟩, hq⟩ : ∃ q, (T.act.map Tr.idp)[k] = q := ⟨_, rfl⟩
              have htk := take_filter (fun q => decide (q ≠ (j0, j1))) (T.act.map Tr.idp) k hkL
              rw [hq] at he htk
              have e2 := hkr.out.val (he 0 _ rfl)
              have e3 := hkr.out.val (he 1 _ rfl)
              simp only [shId, Nat.add_zero] at e2 e3
              have hnq := fun W => neId W (q0, q1) (j0, j1)
              simp only [ipV] at hnq
              have hgl := lt_of_cell e2
              clear he
              by_cases hqe : (q0, q1) = (j0, j1)
              · have hd : decide ((q0, q1) ≠ (j0, j1)) = false := decide_eq_false (fun h => h hqe)
                simp only [hd] at hnq
                rw [if_neg (by rw [hd]; decide), List.append_nil] at htk
                replace htk := Lib.hid htk
                replace hqe := Lib.hid hqe
                replace hd := Lib.hid hd
                go_wp2
                (refine wp_region_quiet_lit (by kernel_rfl) (by kernel_rfl) ?_; (repeat (first | go_big_quiet_step (fail) | quiet_step (fail))); with_reducible refine wpQuiet_nil ?_; intro _ hw'; obtain ⟨nq, hw''⟩ := hw'; subst hw'')
                go_wp2
                go_roundw
                case rel => exact ⟨k + 1, rfl, by omega, by rw [htk.out]; exact Lib.hid (hOl2.out.keeps ((Keeps.refl [] _).drewN _)), Lib.hid (hkr.out.drewN _)⟩
                case measure => simp [intOf]; omega
              · have hd : decide ((q0, q1) ≠ (j0, j1)) = true := decide_eq_true hqe
                simp only [hd] at hnq
                rw [if_pos hd] at htk
                replace htk := Lib.hid htk
                replace hqe := Lib.hid hqe
                replace hd := Lib.hid hd
                go_wp2
                (refine wp_region_quiet_lit (by kernel_rfl) (by kernel_rfl) ?_; (repeat (first | go_big_quiet_step (fail) | quiet_step (fail))); with_reducible refine wpQuiet_nil ?_; intro _ hw'; obtain ⟨nq, hw''⟩ := hw'; subst hw'')
                generalize hW6 : World.drewN wr nq = W6 at *
                have hkq : Keeps [] wr W6 := by rw [← hW6]; exact (Keeps.refl [] wr).drewN nq
                replace e2 := hkq.val e2
                replace e3 := hkq.val e3
                have hmade := Lib.hid (Sh.R.made shId W6 [(q0, q1)] #[.int .i64 q0, .int .i64 q1] tId rfl (by simp [maxLen]) 1 rfl)
                have hkr1 := (Keeps.refl [] W6).alloc (.cells #[.int .i64 q0, .int .i64 q1] tId)
                have hO1 := Lib.hid (hOl2.out.keeps (hkq.trans hkr1))
                have hk9 := Lib.hid (hkr.out.trans (hkq.trans hkr1))
                have hsz : w11.heap.size ≤ (W6.alloc (.cells #[.int .i64 q0, .int .i64 q1] tId)).heap.size := hk9.out.size
                have hgl := lt_of_cell e2
                clear hkr1 hkq hnq hW6 d0 d1 dI
                go_wp2_with (first
                  | (at_builtin; (refine Sh.wpl_app shId w11.heap.size infoId rfl Tryz.underlying47 (.slice oa LL oc) (.slice (some ⟨W6.heap.size, 0, none⟩) 1 1) (((T.act.map Tr.idp).take k).filter (fun q => decide (q ≠ (j0, j1)))) [(q0, q1)] rfl _ _ rfl rfl rfl ?hA ?hB ?hC ?hD ?_); (case hA => exact hO1.out); (case hB => exact hmade.out); (case hC => rw [hLL.out]; simp only [List.length_singleton]; omega); (case hD => exact hsz); intro v7 w7' hO7 hG7)
                  | fail)
                have hK7 := hG7.keepsO
                have hk7 := hk9.out.fresh hK7 (fun b hb => .inr (hO1.out.ge b (by simpa using hb)))
                rw [← htk.out] at hO7
                refine ⟨⟨k + 1, rfl, by omega, Lib.hid hO7, Lib.hid hk7⟩, ?_⟩
                simp [intOf]; omega
            · have hlt2 : ¬ ((k : Int) < N) := by omega
              have hkN : (T.act.map Tr.idp).take k = T.act.map Tr.idp := List.take_of_length_le (by rw [hlI.out]; omega)
              rw [hkN, hleft.out] at hOl2
              have hLA : LL = NA := by
                have h1 := hLL.out
                rw [hkN, hleft.out, List.length_map, hNA.out] at h1
                exact h1.symm
              subst hLA
              have hMr := Lib.hid (hM11.out.keeps hkr.out)
              have hkwr := Lib.hid (hkw11.out.trans hkr.out)
              have hfd := find_c wr B bp bm vc' A' T' (NL + 1) (4 * NL) hMr.out hok2.out (j0, j1) hjok.out
              simp only [ptrV, ipV] at hfd
              replace hfd := Lib.hid hfd
              have hbr := Lib.hid ((hkr.out.block _ (lt_of_blk hb11.out) (by simp)).trans hb11.out)
              clear hkr hkN hleft hLL hlI hO11 hM11 hkw11 hb11 d0 d1 dI
              obtain ⟨c0, c1, cf, cl⟩ := cl2 hbr.out
              go_wp2_with fail
              refine hfd.out.mono ?_
              rintro e w12 ⟨hcase, hk12⟩
              have hret : e = .returned (.tuple #[.pointer none, .bool false]) := by
                rcases hcase with ⟨i, hi, h1, _, _⟩ | ⟨_, h2⟩
                · rw [hgone.out] at h1; cases h1
                · exact h2
              subst hret
              have hM12 := Lib.hid (hMr.out.keeps hk12)
              have hO12 := Lib.hid (hOl2.out.keeps hk12)
              have hkw12 := Lib.hid (hkwr.out.trans hk12)
              have hb12 := Lib.hid ((hk12.block _ (lt_of_blk hbr.out) (by simp)).trans hbr.out)
              clear hcase hk12 hMr hOl2 hkwr hbr hfd c0 c1 cf cl
              obtain ⟨c0, c1, cf, cl⟩ := cl2 hb12.out
              have hac := active_c w12 B bp bm vc' A' T' (NL + 1) (4 * NL) hM12.out hok2.out (by omega)
              simp only [ptrV] at hac
              replace hac := Lib.hid hac
              go_wp2_with fail
              refine hac.out.mono ?_
              rintro e w13 ⟨vb, rfl, hvb, hk13⟩
              have hM13 := Lib.hid (hM12.out.keeps hk13)
              have hO13 := Lib.hid (hO12.out.keeps hk13)
              have hkw13 := Lib.hid (hkw12.out.trans hk13)
              have hb13 := Lib.hid ((hk13.block _ (lt_of_blk hb12.out) (by simp)).trans hb12.out)
              clear hM12 hO12 hkw12 hb12 hk13 c0 c1 cf cl
              obtain ⟨c0, c1, cf, cl⟩ := cl2 hb13.out
              have hsi := sameIDs_c w13 _ _ _ _ hO13.out.r hvb.r
              rw [decide_eq_true rfl] at hsi
              replace hsi := Lib.hid hsi
              clear hvb hac
              go_wp2_with fail
              refine hsi.out.mono ?_
              rintro e w14 ⟨rfl, hk14⟩
              have hM14 := Lib.hid (hM13.out.keeps hk14)
              have hO14 := Lib.hid (hO13.out.keeps hk14)
              have hkw14 := Lib.hid (hkw13.out.trans hk14)
              have hb14 := Lib.hid ((hk14.block _ (lt_of_blk hb13.out) (by simp)).trans hb13.out)
              clear hM13 hO13 hkw13 hb13 hk14 c0 c1 cf cl
              obtain ⟨c0, c1, cf, cl⟩ := cl2 hb14.out
              clear hsi
              have htf := tfinish_c w14 B bp bm vc' A' T' (NL + 1) (4 * NL) hM14.out hok2.out (by omega) (by omega) (j0, j1) hjok.out
              unfold FinPost at htf
              simp only [ptrV, ipV, if_pos hgone.out] at htf
              replace htf := Lib.hid htf
              go_wp2_with fail
              refine htf.out.mono ?_
              rintro e w15 ⟨vc2, A2, rfl, hT15, hV15⟩
              have hkw15 := hkw14.out.fresh hV15.k (fun b hb => .inr (by have h1 := hM14.out.ge hb; have h2 := hBw.out; omega))
              replace hkw15 := Lib.hid hkw15
              clear hT15 hV15 htf
              go_wp2
              go_ret
              exact ⟨rfl, hkw15.out⟩
        · have hnf := Tc.finish_none hf
          have htc := tcerts_c w7 B bp bm vc A T NL (4 * NL) hM7.out hok.out (by omega)
          unfold CsPost at htc
          simp only [ptrV] at htc
          replace htc := Lib.hid htc
          replace hf := Lib.hid hf
          replace hnf := Lib.hid hnf
          go_wp2_with fail
          refine htc.out.mono ?_
          rintro e w8 ⟨vd, XD, rfl, hvd, hLd, hk8⟩
          obtain ⟨a8, d8, rfl⟩ := hvd.form
          rw [hLd.1] at *
          clear hvd hLd
          have hM8 := Lib.hid (hM7.out.keeps hk8)
          have hO8 := Lib.hid (hO7.out.keeps hk8)
          have hkw8 := Lib.hid (hkw7.out.trans hk8)
          have hb8 := Lib.hid ((hk8.block _ (lt_of_blk hb7.out) (by simp)).trans hb7.out)
          clear hM7 hO7 hkw7 hb7 hk8 c0 c1 cf cl
          obtain ⟨c0, c1, cf, cl⟩ := cl2 hb8.out
          clear htc
          have htf := tfinish_c w8 B bp bm vc A T NL (4 * NL) hM8.out hok.out (by omega) (by omega) (j0, j1) hjok.out
          unfold FinPost at htf
          simp only [ptrV, ipV, if_pos hf.out, hnf.out] at htf
          replace htf := Lib.hid htf
          go_wp2_with fail
          refine htf.out.mono ?_
          rintro e w9 ⟨vc', A', rfl, hT9, hV9⟩
          have hM9 := Lib.hid hT9
          have hO9 := Lib.hid (hO8.out.keepS hV9.k (fun b hb e => by
            obtain ⟨cs, hc⟩ := hO8.out.tag b e
            exact (hM8.out.tag hb).not (by decide) cs _ hc))
          have hb9 := Lib.hid ((hV9.k.block _ (lt_of_blk hb8.out) (fun hm => (hM8.out.tag hm).not (by decide) _ _ hb8.out)).trans hb8.out)
          have hkw9 := Lib.hid (hkw8.out.fresh hV9.k (fun b hb => .inr (by have h1 := hM8.out.ge hb; have h2 := hBw.out; omega)))
          clear hT9 hV9 hM8 hO8 hb8 hkw8 c0 c1 cf cl
          obtain ⟨c0, c1, cf, cl⟩ := cl2 hb9.out
          clear htf
          have hac := active_c w9 B bp bm vc' A' T NL (4 * NL) hM9.out hok.out (by omega)
          simp only [ptrV] at hac
          replace hac := Lib.hid hac
          go_wp2_with fail
          refine hac.out.mono ?_
          rintro e w10 ⟨vb, rfl, hvb, hk10⟩
          have hM10 := Lib.hid (hM9.out.keeps hk10)
          have hO10 := Lib.hid (hO9.out.keeps hk10)
          have hkw10 := Lib.hid (hkw9.out.trans hk10)
          have hb10 := Lib.hid ((hk10.block _ (lt_of_blk hb9.out) (by simp)).trans hb9.out)
          clear hM9 hO9 hkw9 hb9 hk10 c0 c1 cf cl
          obtain ⟨c0, c1, cf, cl⟩ := cl2 hb10.out
          have hsi := sameIDs_c w10 _ _ _ _ hO10.out.r hvb.r
          rw [decide_eq_true rfl] at hsi
          replace hsi := Lib.hid hsi
          clear hvb hac
          go_wp2_with fail
          refine hsi.out.mono ?_
          rintro e w11 ⟨rfl, hk11⟩
          have hM11 := Lib.hid (hM10.out.keeps hk11)
          have hO11 := Lib.hid (hO10.out.keeps hk11)
          have hkw11 := Lib.hid (hkw10.out.trans hk11)
          have hb11 := Lib.hid ((hk11.block _ (lt_of_blk hb10.out) (by simp)).trans hb10.out)
          clear hM10 hO10 hkw10 hb10 hk11 c0 c1 cf cl
          obtain ⟨c0, c1, cf, cl⟩ := cl2 hb11.out
          clear hsi
          have htc := tcerts_c w11 B bp bm vc' A' T NL (4 * NL) hM11.out hok.out (by omega)
          unfold CsPost at htc
          simp only [ptrV] at htc
          replace htc := Lib.hid htc
          go_wp2_with fail
          refine htc.out.mono ?_
          rintro e w12 ⟨ve, XE, rfl, hve, hLe, hk12⟩
          obtain ⟨a12, d12, rfl⟩ := hve.form
          rw [hLe.1] at *
          clear hve hLe
          have hM12 := Lib.hid (hM11.out.keeps hk12)
          have hO12 := Lib.hid (hO11.out.keeps hk12)
          have hkw12 := Lib.hid (hkw11.out.trans hk12)
          have hb12 := Lib.hid ((hk12.block _ (lt_of_blk hb11.out) (by simp)).trans hb11.out)
          clear hM11 hO11 hkw11 hb11 hk12 c0 c1 cf cl
          obtain ⟨c0, c1, cf, cl⟩ := cl2 hb12.out
          clear htc
          go_wp2
          go_ret
          exact ⟨rfl, hkw12.out⟩
end Go.Proofs.YtpobepninifenaaGreat
