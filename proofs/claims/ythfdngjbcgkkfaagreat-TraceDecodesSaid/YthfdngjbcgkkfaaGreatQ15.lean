/- Texts that the laws lean on, in the order in which they build. TraceDecodes: the walk. (Printed by mktrdcw.py.) -/
import Derived.Test.YthfdngjbcgkkfaaGreatQ14
set_option linter.unusedVariables false
set_option linter.unusedSimpArgs false
namespace Go.Proofs.YthfdngjbcgkkfaaGreat
open Go Go.RowKit

set_option maxRecDepth 100000 in
set_option maxHeartbeats 20000000 in
theorem decodes_w (w : World) (im is : Int) (st : T3) (vO : Value) (L : List Op3) (vM : Value) (M : List Op3) (h1 : W64 im) (h2 : W64 is) (hst : W64 st.1 ∧ st.2.1 < 18446744073709551616 ∧ W64 st.2.2) (hL : LO w vO L) (hMo : LO w vM M) :
    Calls Tryz.prog 3 #[idV im is, tV st, vO, vM] w fun e w' => e = .returned (.bool true) ∧ Keeps [] w w' := by
  obtain ⟨ao, co, rfl, hlo, hco, _⟩ := Gen.SlR.form hL
  obtain ⟨am, cm, rfl, hlm, hcm, _⟩ := Gen.SlR.form hMo
  have hfew2 := fun (W : World) (hk : Keeps [] w W) => few_c W _ M (hMo.keeps hk)
  obtain ⟨NM, hNM⟩ : ∃ n, M.length = n := ⟨_, rfl⟩
  have hNMm : NM ≤ 9223372036854775807 := by unfold Go.maxLen at hcm; omega
  rw [hNM] at hlm hfew2 ⊢
  have hfew := fun (W : World) (hk : Keeps [] w W) => few_c W _ L (hL.keeps hk)
  have helo := fun (W : World) (hk : Keeps [] w W) (k : Nat) (hk2 : k < L.length) => (hL.keeps hk).elem hk2
  obtain ⟨NL, hNL⟩ : ∃ n, L.length = n := ⟨_, rfl⟩
  have hNm : NL ≤ 9223372036854775807 := by unfold Go.maxLen at hco; omega
  rw [hNL] at hlo hfew ⊢
  obtain ⟨s0, s1, s2⟩ := st
  obtain ⟨hb3, hb4, hkA, hzA⟩ := blks2 w (.cells #[.int .i64 im, .int .i64 is] 23) (.cells #[.int .i64 s0, .int .u64 s1, .int .i64 s2] tN)
  obtain ⟨WA, hWA⟩ : ∃ W, ((w.alloc (.cells #[.int .i64 im, .int .i64 is] 23)).alloc (.cells #[.int .i64 s0, .int .u64 s1, .int .i64 s2] tN)) = W := ⟨_, rfl⟩
  rw [hWA] at hb3 hb4 hkA hzA
  obtain ⟨fb, hfb⟩ : ∃ b, fewB L = b := ⟨_, rfl⟩
  simp only [hfb] at hfew
  obtain ⟨gb, hgb⟩ : ∃ b, fewB M = b := ⟨_, rfl⟩
  simp only [hgb] at hfew2
  replace hfew2 := Lib.hid hfew2
  replace hgb := Lib.hid hgb
  replace hNM := Lib.hid hNM
  replace hMo := Lib.hid hMo
  replace hb3 := Lib.hid hb3
  replace hb4 := Lib.hid hb4
  replace hkA := Lib.hid hkA
  replace hzA := Lib.hid hzA
  replace hWA := Lib.hid hWA
  replace hfew := Lib.hid hfew
  replace helo := Lib.hid helo
  replace hNL := Lib.hid hNL
  replace hfb := Lib.hid hfb
  replace hst := Lib.hid hst
  replace h1 := Lib.hid h1
  replace h2 := Lib.hid h2
  replace hL := Lib.hid hL
  simp only [tV]
  go_enter Tryz.func3, Tryz.ntmps3
  go_wp2_with fail
  rw [hWA.out]
  refine (awake_c WA).mono ?_
  rintro e w1 ⟨rfl, hk1⟩
  have hkw1 := Lib.hid (hkA.out.trans hk1)
  replace hk1 := Lib.hid hk1
  go_wp2_with fail
  refine (hfew.out _ hkw1.out).mono ?_
  rintro e w2 ⟨rfl, hk2⟩
  replace hk1 := Lib.hid (hk1.out.trans hk2)
  have hkw2 := Lib.hid (hkA.out.trans hk1.out)
  clear hk2 hkw1
  cases fb with
  | false =>
    go_wp2_with fail
    refine (awake_c w2).mono ?_
    rintro e w3 ⟨rfl, hk3⟩
    have hkf := Lib.hid (hkw2.out.trans hk3)
    go_wp2
    go_ret
    exact ⟨rfl, hkf.out⟩
  | true =>
    go_wp2_with fail
    refine (hfew2.out _ hkw2.out).mono ?_
    rintro e w2a ⟨rfl, hk2⟩
    replace hk1 := Lib.hid (hk1.out.trans hk2)
    replace hkw2 := Lib.hid (hkA.out.trans hk1.out)
    clear hk2
    cases gb with
    | false =>
      go_wp2_with fail
      refine (awake_c w2a).mono ?_
      rintro e w3 ⟨rfl, hk3⟩
      have hkf := Lib.hid (hkw2.out.trans hk3)
      go_wp2
      go_ret
      exact ⟨rfl, hkf.out⟩
    | true =>
      have hm5 : (∀ j (hj : j < M.length), M[j].a.ins.length ≤ 5) ∧ NM ≤ 30 := by
        have h := hgb.out
        unfold fewB at h
        rw [Bool.and_eq_true] at h
        exact ⟨fun j hj => by have := List.all_eq_true.1 h.1 _ (List.getElem_mem hj); simpa using this, by have := h.2; rw [hNM.out] at this; simpa using this⟩
      replace hm5 := Lib.hid hm5
      clear hfew2
      obtain ⟨w2, hw2⟩ : ∃ W, w2a = W := ⟨_, rfl⟩
      rw [hw2] at hk1 hkw2 ⊢
      clear hw2
      have hb5 : (∀ j (hj : j < L.length), L[j].a.ins.length ≤ 5) ∧ NL ≤ 30 := by
        have h := hfb.out
        unfold fewB at h
        rw [Bool.and_eq_true] at h
        exact ⟨fun j hj => by have := List.all_eq_true.1 h.1 _ (List.getElem_mem hj); simpa using this, by have := h.2; rw [hNL.out] at this; simpa using this⟩
      replace hb5 := Lib.hid hb5
      clear hfew
      replace hb3 := Lib.hid ((hk1.out.block _ (lt_of_blk hb3.out) (by simp)).trans hb3.out)
      replace hb4 := Lib.hid ((hk1.out.block _ (lt_of_blk hb4.out) (by simp)).trans hb4.out)
      obtain ⟨i0, i1, if', il⟩ := cl2 hb3.out
      obtain ⟨n0, n1, n2, nf, nl⟩ := cl3 hb4.out
      go_upto_region 3 with fail
      have hb3d := Lib.hid (show w2.drew.heap[w.heap.size]? = _ from hb3.out)
      have hb4d := Lib.hid (show w2.drew.heap[w.heap.size + 1]? = _ from hb4.out)
      have hdz : w2.drew.heap.size = w2.heap.size := rfl
      refine FreeO.wp_region_free (by kernel_rfl) (by kernel_rfl) (fun i => i == 2 || i == 5 || i == 6 || i == 8) (RgF w2.drew.heap.size im is (s0, s1, s2) 10) (fun k => TR w2.drew.heap.size 8 k) RgK (RgF.agree (by kernel_rfl)) (fun i k a v w w' h1 h2 h3 _ => RgF.stable i k a v w w' h1 h2 h3 trivial) ?_
      apply FreeO.walk_quiet rfl rfl
      · intro w' hg hf
        clear hf
        have g0 := hg.cell hb3d.out (by intro h; obtain ⟨k, _, _, _, hB, _⟩ := h; omega) i0
        have g1 := hg.cell hb3d.out (by intro h; obtain ⟨k, _, _, _, hB, _⟩ := h; omega) i1
        go_simp <;> exact rfl
      apply FreeO.walk_quiet rfl rfl
      · intro w' hg hf
        clear hf
        have g0 := hg.cell hb4d.out (by intro h; obtain ⟨k, _, _, _, hB, _⟩ := h; omega) n0
        have g1 := hg.cell hb4d.out (by intro h; obtain ⟨k, _, _, _, hB, _⟩ := h; omega) n1
        have g2 := hg.cell hb4d.out (by intro h; obtain ⟨k, _, _, _, hB, _⟩ := h; omega) n2
        go_simp <;> exact rfl
      apply FreeO.walk_loud rfl rfl
      · intro w' hg hf
        have hB := hg.size
        clear hf hg
        go_simp
        refine (new_c w' im is (s0, s1, s2) h1.out hst.out.1 hst.out.2.1).mono ?_
        rintro e w3 ⟨bt, bm, vo, rfl, hT, hk⟩
        exact ⟨_, rfl, ⟨fun _ => ⟨bt, bm, vo, rfl, hT.lowB hB⟩, fun h => absurd h (by decide), fun h => absurd h (by decide), fun h => absurd h (by decide)⟩, FreeO.KeepsO.of hk (by simp)⟩
      intro v2
      apply FreeO.walk_quiet rfl rfl
      · intro w' hg hf
        clear hf
        have g0 := hg.cell hb3d.out (by intro h; obtain ⟨k, _, _, _, hB, _⟩ := h; omega) i0
        have g1 := hg.cell hb3d.out (by intro h; obtain ⟨k, _, _, _, hB, _⟩ := h; omega) i1
        go_simp <;> exact rfl
      apply FreeO.walk_quiet rfl rfl
      · intro w' hg hf
        clear hf
        have g0 := hg.cell hb4d.out (by intro h; obtain ⟨k, _, _, _, hB, _⟩ := h; omega) n0
        have g1 := hg.cell hb4d.out (by intro h; obtain ⟨k, _, _, _, hB, _⟩ := h; omega) n1
        have g2 := hg.cell hb4d.out (by intro h; obtain ⟨k, _, _, _, hB, _⟩ := h; omega) n2
        go_simp <;> exact rfl
      apply FreeO.walk_loud rfl rfl
      · intro w' hg hf
        have hB := hg.size
        clear hf hg
        go_simp
        refine (newR2_c w' im is (s0, s1, s2)).mono ?_
        rintro e w3 ⟨xo, xa, rfl, hO, hA, hk⟩
        exact ⟨_, rfl, ⟨fun h => absurd h (by decide), fun _ => ⟨xo, xa, rfl, hO.lowB hB, hA.lowB hB⟩, fun h => absurd h (by decide), fun h => absurd h (by decide)⟩, FreeO.KeepsO.of hk (by simp)⟩
      intro v5
      apply FreeO.walk_loud rfl rfl
      · intro w' hg hf
        have hB := hg.size
        have hn := heap_alloc_new w' (.cells #[.int .i64 0, .int .i64 0, .int .i64 0, .int .u64 0, .int .i64 0, .int .i64 0, .slice none 0 0, .slice none 0 0, .int .i64 0, .slice none 0 0, .bool false, .slice none 0 0] tR)
        clear hf hg
        go_simp
        exact ⟨⟨fun h => absurd h (by decide), fun h => absurd h (by decide), fun _ => ⟨_, rfl, hB, hn⟩, fun h => absurd h (by decide)⟩, FreeO.KeepsO.of ((Keeps.refl [] w').alloc _) (by simp)⟩
      intro v6
      apply FreeO.walk_quiet rfl rfl
      · intro w' hg hf
        clear hf
        go_simp <;> exact rfl
      apply FreeO.walk_loud rfl rfl
      · intro w' hg hf
        have h5 := hf 5 (by decide) (by kernel_rfl)
        have h6 := hf 6 (by decide) (by kernel_rfl)
        clear hf hg
        obtain ⟨xo, xa, e5, hO, hA⟩ := (show RgF _ _ _ _ _ 5 _ v5 w' from by simpa using h5).2.1 rfl
        obtain ⟨p, e6, hp, hp3⟩ := (show RgF _ _ _ _ _ 6 _ v6 w' from by simpa using h6).2.2.1 rfl
        clear h5 h6
        subst e5 e6
        obtain ⟨o0, o1, o2⟩ := xo
        obtain ⟨a0, a1, a2⟩ := xa
        obtain ⟨e0, e1, e2, e3, e4, e5, e6, e7, e8, e9, e10, e11, ef, el⟩ := cl12 hp3
        have hsc := sc12 (.int .i64 im) (.int .i64 is) (.int .i64 s0) (.int .u64 s1) (.int .i64 s2) (.int .i64 0) (.slice o0 o1 o2) (.slice a0 a1 a2) (.int .i64 0) (.slice none 0 0) (.bool false) (.slice none 0 0) hp3
        have hO' := hO.keepO (B := w2.drew.heap.size) (k := 8) (q := 8) (FreeO.KeepsO.of hsc.2 (fun b hb o ho => by simp only [List.mem_singleton] at hb; subst hb; rw [hp3] at ho; cases ho; exact ⟨rfl, hp, _, _, rfl⟩)) (by decide)
        have hA' := hA.keepO (B := w2.drew.heap.size) (k := 8) (q := 8) (FreeO.KeepsO.of hsc.2 (fun b hb o ho => by simp only [List.mem_singleton] at hb; subst hb; rw [hp3] at ho; cases ho; exact ⟨rfl, hp, _, _, rfl⟩)) (by decide)
        have hK' : FreeO.KeepsO (TR w2.drew.heap.size 8 8) w' _ := FreeO.KeepsO.of hsc.2 (fun b hb o ho => by simp only [List.mem_singleton] at hb; subst hb; rw [hp3] at ho; cases ho; exact ⟨rfl, hp, _, _, rfl⟩)
        have hs1 := hsc.1
        clear hsc
        replace hO' := Lib.hid hO'
        replace hA' := Lib.hid hA'
        replace hK' := Lib.hid hK'
        replace hs1 := Lib.hid hs1
        simp only [rfV, rf0, slv]
        go_simp
        exact ⟨⟨fun h => absurd h (by decide), fun h => absurd h (by decide), fun h => absurd h (by decide), fun _ => ⟨p, (o0, o1, o2), (a0, a1, a2), rfl, hp, hs1.out, hO'.out, hA'.out⟩⟩, hK'.out⟩
      intro v8
      refine FreeO.walk_nil ?_
      intro wF hg hf
      have h2' := hf 2 (by decide) (by kernel_rfl)
      have h8' := hf 8 (by decide) (by kernel_rfl)
      clear hf
      obtain ⟨bt, bm, vo, e2, hT⟩ := (show RgF _ _ _ _ _ 2 _ v2 wF from by simpa using h2').1 rfl
      obtain ⟨p, xo, xa, e8, hp, hbp, hO, hA⟩ := (show RgF _ _ _ _ _ 8 _ v8 wF from by simpa using h8').2.2.2 rfl
      simp [Act.put] at e8
      subst e2 e8
      clear h2' h8'
      have hkF : Keeps [] w2 wF := ((Keeps.refl [] w2).drew).trans (hg.to (fun b o h => by obtain ⟨k, _, h, _⟩ := h; exact h))
      clear hg
      obtain ⟨o0, o1, o2⟩ := xo
      obtain ⟨a0, a1, a2⟩ := xa
      have hB0 := Both.start hT hO hA
      have hk0 := hkw2.out.trans hkF
      have hnp : ∀ b ∈ blks (rf0 im is (s0, s1, s2) (o0, o1, o2) (a0, a1, a2)), b ≠ p := fun b hb e => by
        subst e
        rcases mem_blks.1 hb with h | h | h | h
        · obtain ⟨cs, hc⟩ := hO.tag _ h
          rw [hc] at hbp; cases hbp
        · obtain ⟨cs, hc⟩ := hA.tag _ h
          rw [hc] at hbp; cases hbp
        · simp [rf0, Value.ownBlock] at h
        · simp [rf0, Value.ownBlock] at h
      have hBs : w.heap.size ≤ w2.heap.size := hkw2.out.size
      have hpB : w2.heap.size ≤ p := hp
      have hB2 : w.heap.size + 1 < w2.heap.size := nl
      replace hb3 := Lib.hid ((hkF.block _ il (by simp)).trans hb3.out)
      replace hb4 := Lib.hid ((hkF.block _ nl (by simp)).trans hb4.out)
      have hbd0 := Tr.Bnd.new im is (s0, s1, s2)
      have hnum0 : (Tr.new im is (s0, s1, s2)).Num := ⟨h1.out, h2.out, hst.out.1, hst.out.2.1, hst.out.2.2⟩
      clear i0 i1 if' il n0 n1 n2 nf nl hT hO hA hkF hp hk1 hkw2 hkA hWA hzA hdz hb3d hb4d
      generalize w2.heap.size = B at *
      simp only at hbp
      obtain ⟨e0, e1, e2, e3, e4, e5, e6, e7, e8, e9, e10, e11, ef, el⟩ := cl12 hbp
      replace hbp := Lib.hid hbp
      replace hk0 := Lib.hid hk0
      replace hB0 := Lib.hid hB0
      replace hnp := Lib.hid hnp
      replace hbd0 := Lib.hid hbd0
      replace hnum0 := Lib.hid hnum0
      go_frame
      have hrep0 := Tr.Rep.new im is (s0, s1, s2)
      replace hrep0 := Lib.hid hrep0
      clear hb3 hb4
      go_wp2
      go_loopw [44] (fun iv wr => ∃ (k : Nat) (vo vh vg : Value) (x : RfV), iv = .int .i64 k ∧ k ≤ NL ∧ Hid (Both wr B bt bm vo vh vg x (runT (L.take k) (Tr.new im is (s0, s1, s2)))) ∧ Hid (wr.heap[p]? = some (.cells x.cs.toArray tR (0, 0))) ∧ Hid (∀ b ∈ blks x, b ≠ p) ∧ Hid ((runT (L.take k) (Tr.new im is (s0, s1, s2))).Bnd k) ∧ Hid ((runT (L.take k) (Tr.new im is (s0, s1, s2))).Num) ∧ Hid (Keeps [] w wr) ∧ Hid ((runT (L.take k) (Tr.new im is (s0, s1, s2))).Rep)) (fun iv _ => NL - (intOf iv).toNat)
      case atStart => exact ⟨0, vo, _, _, _, rfl, by omega, hB0, hbp, hnp, hbd0, hnum0, hk0, hrep0⟩
      case round =>
        clear hB0 hbp hnp hbd0 hnum0 hk0 hrep0 e0 e1 e2 e3 e4 e5 e6 e7 e8 e9 e10 e11 ef el
        obtain ⟨k, vo, vh, vg, x, rfl, hk, hB, hbp, hnp, hbd, hnum, hkr, hrep⟩ := hrel
        by_cases hlt : k < NL
        · skip
          have hlt2 : (k : Int) < NL := by omega
          have hNL30 : NL ≤ 30 := hb5.out.2
          have hkL : k < L.length := by rw [hNL.out]; exact hlt
          obtain ⟨g, of, c', y, hv, hIR, hFit, f0, f1, f2, f3, f4, f5, f6, f7, f8, f9, f10⟩ := hL.out.elem hkL
          rw [hNL.out] at hv
          cases hv
          have hrun := runT_take L (Tr.new im is (s0, s1, s2)) k hkL
          have h5 := hb5.out.1 k hkL
          have hin := InR.lt hIR
          obtain ⟨⟨ok, oi, on, oa⟩, ho⟩ : ∃ o, L[k] = o := ⟨_, rfl⟩
          rw [ho] at hIR hFit f0 f1 f2 hrun h5 hin
          obtain ⟨y0, y1, y2, y3, y4, y5, y6, y7, y8, y9⟩ := y
          simp only [AnV.v] at f3 f4 f5 f6 f7 f8 f9 f10 hin
          have hkw := hkr.out
          replace f0 := hkw.val f0
          replace f1 := hkw.val f1
          replace f2 := hkw.val f2
          replace f3 := hkw.val f3
          replace f4 := hkw.val f4
          replace f5 := hkw.val f5
          replace f6 := hkw.val f6
          replace f7 := hkw.val f7
          replace f8 := hkw.val f8
          replace f9 := hkw.val f9
          replace f10 := hkw.val f10
          have hbO := heap_alloc_new wr (.cells #[.int .u8 ok, .int .i64 oi, .bool on, .int .i64 y0, .int .i64 y1, .int .u64 y2, .int .i64 y3, .bool y4, .bool y5, .int .i64 y6, .slice y7 y8 y9] tOp)
          have hkM := (Keeps.refl [] wr).alloc (.cells #[.int .u8 ok, .int .i64 oi, .bool on, .int .i64 y0, .int .i64 y1, .int .u64 y2, .int .i64 y3, .bool y4, .bool y5, .int .i64 y6, .slice y7 y8 y9] tOp)
          have hBM := hB.out.keeps hkM
          have hbpM := (hkM.block _ (lt_of_blk hbp.out) (by simp)).trans hbp.out
          have hkrM := hkr.out.trans hkM
          have hst := step_c (wr.alloc (.cells #[.int .u8 ok, .int .i64 oi, .bool on, .int .i64 y0, .int .i64 y1, .int .u64 y2, .int .i64 y3, .bool y4, .bool y5, .int .i64 y6, .slice y7 y8 y9] tOp)) B bt bm vo vh vg x _ k ⟨ok, oi, on, oa⟩ ⟨y0, y1, y2, y3, y4, y5, y6, y7, y8, y9⟩ hBM hbd.out (by omega) (hIR.keeps hkrM) hFit h5 (fun b hne e => Nat.lt_of_lt_of_le (hin hne b e) hBs)
          obtain ⟨x0, x1, x2, x3, x4, x5, ⟨x6, x7, x8⟩, ⟨x9, x10, x11⟩, x12, ⟨x13, x14, x15⟩, x16, ⟨x17, x18, x19⟩⟩ := x
          simp only [rfV, slv, opV, AnV.v] at hst
          simp only [RfV.cs, slv, List.toArray] at hbp hbpM
          replace hst := Lib.hid hst
          replace hbO := Lib.hid hbO
          replace hbpM := Lib.hid hbpM
          replace hkrM := Lib.hid hkrM
          replace hrun := Lib.hid hrun
          replace ho := Lib.hid ho
          replace hBM := Lib.hid hBM
          clear hIR hFit hin h5 hkM hB hkr hkw
          obtain ⟨e0, e1, e2, e3, e4, e5, e6, e7, e8, e9, e10, e11, ef, el⟩ := cl12 hbp.out
          go_upto_region 9 with fail
          generalize (wr.alloc (.cells #[.int .u8 ok, .int .i64 oi, .bool on, .int .i64 y0, .int .i64 y1, .int .u64 y2, .int .i64 y3, .bool y4, .bool y5, .int .i64 y6, .slice y7 y8 y9] tOp)) = W1 at *
          obtain ⟨XO, hXO⟩ : ∃ X, wr.heap.size = X := ⟨_, rfl⟩
          rw [hXO] at hbO ⊢
          replace hXO := Lib.hid hXO
          clear f0 f1 f2 f3 f4 f5 f6 f7 f8 f9 f10 hbp e0 e1 e2 e3 e4 e5 e6 e7 e8 e9 e10 e11 ef el
          have hbp := hbpM
          clear hbpM
          obtain ⟨e0, e1, e2, e3, e4, e5, e6, e7, e8, e9, e10, e11, ef, el⟩ := cl12 hbp.out
          obtain ⟨r0, r1, r2, r3, r4, r5, r6, r7, r8, r9, r10, rf, rl⟩ := cl11 hbO.out
          go_wp2_with fail
          refine hst.out.mono ?_
          rintro e w5 ⟨xs, vo', vh', vg', rfl, hB5, hM5, hF5⟩
          have hown : ∀ b ∈ ownT bt bm vo vh vg, B ≤ b := fun b hb => (hBM.out.m.own_tag hb).1
          have hpo : p ∉ ownT bt bm vo vh vg := fun hm => by
            obtain ⟨_, _, ht⟩ := hBM.out.m.own_tag hm
            rcases ht with ⟨es, c, h⟩ | ⟨cs, e, h, he⟩
            · rw [hbp.out] at h; cases h
            · rw [hbp.out] at h
              cases h
              rcases he with he | he | he | he <;> exact absurd he (by decide)
          have hbp5 := (hM5.k.block _ el hpo).trans hbp.out
          have hnp5 : ∀ b ∈ blks xs, b ≠ p := fun b hb e => by
            rcases hF5 b hb with h | h
            · exact hnp.out b h e
            · omega
          have hkr5 : Keeps [] w w5 := hkrM.out.fresh hM5.k (fun b hb => .inr (Nat.le_trans hBs (hown b hb)))
          have hbd5 : (runT (L.take (k + 1)) (Tr.new im is (s0, s1, s2))).Bnd (k + 1) := by
            rw [hrun.out]
            exact Op3.step_bnd hbd.out hBM.out.m.inv hB5.m.inv (by have := hb5.out.1 k hkL; rw [ho.out] at this; exact this)
          have hrep5 : (runT (L.take (k + 1)) (Tr.new im is (s0, s1, s2))).Rep := by
            rw [hrun.out]
            exact hrep.out.step hbd.out _
          have hnum5 : (runT (L.take (k + 1)) (Tr.new im is (s0, s1, s2))).Num := by
            rw [hrun.out]
            exact hnum.out.step _
          rw [← hrun.out] at hB5
          obtain ⟨m0, m1, m2, m3, m4, m5, ⟨m6, m7, m8⟩, ⟨m9, m10, m11⟩, m12, ⟨m13, m14, m15⟩, m16, ⟨m17, m18, m19⟩⟩ := xs
          simp only [rfV, slv]
          replace hbp5 := Lib.hid hbp5
          replace hnp5 := Lib.hid hnp5
          replace hkr5 := Lib.hid hkr5
          replace hbd5 := Lib.hid hbd5
          replace hnum5 := Lib.hid hnum5
          replace hrep5 := Lib.hid hrep5
          replace hB5 := Lib.hid hB5
          clear hst hM5 hF5 hown hpo hbp hBM hkrM hbd hnum hnp hrep e0 e1 e2 e3 e4 e5 e6 e7 e8 e9 e10 e11 ef el r0 r1 r2 r3 r4 r5 r6 r7 r8 r9 r10 rf rl
          obtain ⟨e0, e1, e2, e3, e4, e5, e6, e7, e8, e9, e10, e11, ef, el⟩ := cl12 hbp5.out
          go_wp2
          obtain ⟨g1, g2⟩ := sc12 (.int .i64 m0) (.int .i64 m1) (.int .i64 m2) (.int .u64 m3) (.int .i64 m4) (.int .i64 m5) (.slice m6 m7 m8) (.slice m9 m10 m11) (.int .i64 m12) (.slice m13 m14 m15) (.bool m16) (.slice m17 m18 m19) hbp5.out
          have hnt := hnp5.out
          have hBz' := hB5.out.keep g2 (g2.ki (fun b hb cs f e => by simp only [List.mem_singleton] at hb; subst hb; rw [hbp5.out] at e; cases e)) (fun b hb => by
            simp only [List.mem_singleton] at hb
            subst hb
            exact ⟨hB5.out.m.not_own hbp5.out, fun hm => hnt _ hm rfl⟩)
          have hkf := hkr5.out.fresh g2 (fun b hb => by simp only [List.mem_singleton] at hb; subst hb; exact .inr (Nat.le_trans hBs hpB))
          replace hBz' := Lib.hid hBz'
          replace hkf := Lib.hid hkf
          replace g1 := Lib.hid g1
          go_roundw
          case rel => exact ⟨k + 1, vo', vh', vg', _, rfl, by omega, hBz', g1, hnp5, hbd5, hnum5, hkf, hrep5⟩
          case measure => simp [intOf]; omega
        · skip
          have hlt2 : ¬ ((k : Int) < NL) := by omega
          have hkN : k = L.length := by rw [hNL.out]; omega
          rw [hkN, List.take_length] at hB hnum hbd hrep
          obtain ⟨T, hT⟩ : ∃ t, runT L (Tr.new im is (s0, s1, s2)) = t := ⟨_, rfl⟩
          rw [hT] at hB hnum hbd hrep
          have hN30 : NL ≤ 30 := hb5.out.2
          have hbd3 : T.Bnd NL := by have := hbd.out; rw [hNL.out] at this; exact this
          have hqs := hbd3.qs
          have hhl := hbd3.hl
          have hal := hbd3.ag
          have hhi : ∀ a ∈ T.hist, a.ins.length ≤ 1000 := fun a ha => by have := hbd3.hi a ha; omega
          have hdT := dec_encT hrep.out hbd3 hB.out.m.inv hN30 hnum.out
          have hdB := dec_bnd hrep.out hbd3 hB.out.m.inv hN30 hnum.out
          obtain ⟨tn, htn1, htn2⟩ := hbd3.tl
          have henc := encode_c wr B bt bm vo vh vg T tn hB.out.m hnum.out htn1 (by omega) (by omega) hhi (by omega)
          obtain ⟨x0, x1, x2, x3, x4, x5, ⟨x6, x7, x8⟩, ⟨x9, x10, x11⟩, x12, ⟨x13, x14, x15⟩, x16, ⟨x17, x18, x19⟩⟩ := x
          simp only [RfV.cs, slv, List.toArray] at hbp
          replace henc := Lib.hid henc
          replace hdT := Lib.hid hdT
          replace hdB := Lib.hid hdB
          replace hbd3 := Lib.hid hbd3
          replace hkN := Lib.hid hkN
          replace hT := Lib.hid hT
          clear hhi hqs hhl hal htn1 htn2 tn hbd hrep
          go_wp2_with fail
          refine henc.out.mono ?_
          rintro e w5 ⟨v5, rfl, hB5, hk5⟩
          have hdc := decode_c w5 v5 _ hB5.slB hdB.out
          rw [hdT.out] at hdc
          obtain ⟨a5, c5, rfl⟩ := hB5.slB.form
          replace hB := Lib.hid (hB.out.keeps hk5)
          replace hkr := Lib.hid (hkr.out.trans hk5)
          replace hbp := Lib.hid ((hk5.block _ (lt_of_blk hbp.out) (by simp)).trans hbp.out)
          replace hdc := Lib.hid hdc
          clear hB5 hk5 henc hdT hdB
          go_wp2_with fail
          refine hdc.out.mono ?_
          rintro e w6 ⟨hk6, ⟨hno, _⟩ | ⟨T', bu, bn, uo, uh, ug, hds, rfl, hU, _⟩⟩
          · cases hno
          cases hds
          have hTwo : Two w6 B bt bm vo vh vg w5.heap.size bu bn uo uh ug ⟨x0, x1, x2, x3, x4, x5, ⟨x6, x7, x8⟩, ⟨x9, x10, x11⟩, x12, ⟨x13, x14, x15⟩, x16, ⟨x17, x18, x19⟩⟩ T := by
            have hBk := hB.out.keeps hk6
            have hown : ∀ b ∈ ownT bu bn uo uh ug, w5.heap.size ≤ b := fun b hb => (hU.own_tag hb).1
            refine ⟨hBk, ⟨hU, hBk.r, fun b hb => ⟨(hBk.b b hb).1, fun ho => ?_⟩⟩, fun c hc ho => ?_⟩
            · have h1 := (hB.out.b b hb).1
              have h2 := hown b ho
              omega
            · have h1 := (hB.out.m.own_tag hc).2.1
              have h2 := hown c ho
              omega
          have hBu : w.heap.size ≤ w5.heap.size := hkr.out.size
          replace hTwo := Lib.hid hTwo
          replace hkr := Lib.hid (hkr.out.trans hk6)
          replace hbp := Lib.hid ((hk6.block _ (lt_of_blk hbp.out) (by simp)).trans hbp.out)
          clear hB hk6 hdc hU
          generalize w5.heap.size = Bu at *
          obtain ⟨e0, e1, e2, e3, e4, e5, e6, e7, e8, e9, e10, e11, ef, el⟩ := cl12 hbp.out
          go_wp2
          go_loopw [70] (fun iv wr => ∃ (k : Nat) (vo vh vg uo uh ug : Value) (x : RfV), iv = .int .i64 k ∧ k ≤ NM ∧ Hid (Two wr B bt bm vo vh vg Bu bu bn uo uh ug x (runT (M.take k) T)) ∧ Hid (wr.heap[p]? = some (.cells x.cs.toArray tR (0, 0))) ∧ Hid (∀ b ∈ blks x, b ≠ p) ∧ Hid ((runT (M.take k) T).Bnd (NL + k)) ∧ Hid ((runT (M.take k) T).Num) ∧ Hid (Keeps [] w wr)) (fun iv _ => NM - (intOf iv).toNat)
          case atStart => exact ⟨0, vo, vh, vg, uo, uh, ug, _, rfl, by omega, hTwo, hbp, hnp, hbd3, hnum, hkr⟩
          case round =>
            clear hTwo hbp hnp hbd3 hnum hkr e0 e1 e2 e3 e4 e5 e6 e7 e8 e9 e10 e11 ef el

            obtain ⟨k, vo, vh, vg, uo, uh, ug, x, rfl, hk, hTwo, hbp, hnp, hbd, hnum, hkr⟩ := hrel
            by_cases hlt : k < NM
            · skip
              have hlt2 : (k : Int) < NM := by omega
              have hNL30 : NL ≤ 30 := hb5.out.2
              have hNM30 : NM ≤ 30 := hm5.out.2
              have hkM : k < M.length := by rw [hNM.out]; exact hlt
              obtain ⟨g, of, c', y, hv, hIR, hFit, f0, f1, f2, f3, f4, f5, f6, f7, f8, f9, f10⟩ := hMo.out.elem hkM
              rw [hNM.out] at hv
              cases hv
              have hrun := runT_take M T k hkM
              have h5 := hm5.out.1 k hkM
              have hin := InR.lt hIR
              obtain ⟨⟨ok, oi, on, oa⟩, ho⟩ : ∃ o, M[k] = o := ⟨_, rfl⟩
              rw [ho] at hIR hFit f0 f1 f2 hrun h5 hin
              obtain ⟨y0, y1, y2, y3, y4, y5, y6, y7, y8, y9⟩ := y
              simp only [AnV.v] at f3 f4 f5 f6 f7 f8 f9 f10 hin
              have hkw := hkr.out
              replace f0 := hkw.val f0
              replace f1 := hkw.val f1
              replace f2 := hkw.val f2
              replace f3 := hkw.val f3
              replace f4 := hkw.val f4
              replace f5 := hkw.val f5
              replace f6 := hkw.val f6
              replace f7 := hkw.val f7
              replace f8 := hkw.val f8
              replace f9 := hkw.val f9
              replace f10 := hkw.val f10
              have hbO := heap_alloc_new wr (.cells #[.int .u8 ok, .int .i64 oi, .bool on, .int .i64 y0, .int .i64 y1, .int .u64 y2, .int .i64 y3, .bool y4, .bool y5, .int .i64 y6, .slice y7 y8 y9] tOp)
              have hkM1 := (Keeps.refl [] wr).alloc (.cells #[.int .u8 ok, .int .i64 oi, .bool on, .int .i64 y0, .int .i64 y1, .int .u64 y2, .int .i64 y3, .bool y4, .bool y5, .int .i64 y6, .slice y7 y8 y9] tOp)
              have hTM := hTwo.out.keeps hkM1
              have hbpM := (hkM1.block _ (lt_of_blk hbp.out) (by simp)).trans hbp.out
              have hkrM := hkr.out.trans hkM1
              have hwO : (wr.alloc (.cells #[.int .u8 ok, .int .i64 oi, .bool on, .int .i64 y0, .int .i64 y1, .int .u64 y2, .int .i64 y3, .bool y4, .bool y5, .int .i64 y6, .slice y7 y8 y9] tOp)).heap.size = wr.heap.size + 1 := by simp
              have hst := step_c (wr.alloc (.cells #[.int .u8 ok, .int .i64 oi, .bool on, .int .i64 y0, .int .i64 y1, .int .u64 y2, .int .i64 y3, .bool y4, .bool y5, .int .i64 y6, .slice y7 y8 y9] tOp)) Bu bu bn uo uh ug x _ (NL + k) ⟨ok, oi, on, oa⟩ ⟨y0, y1, y2, y3, y4, y5, y6, y7, y8, y9⟩ hTM.b hbd.out (by omega) (hIR.keeps hkrM) hFit h5 (fun b hne e => Nat.lt_of_lt_of_le (hin hne b e) hBu)
              have hst2 := fun (W : World) (hk : Keeps [] w W) (hb : Both W B bt bm vo vh vg x (runT (M.take k) T)) => step_c W B bt bm vo vh vg x _ (NL + k) ⟨ok, oi, on, oa⟩ ⟨y0, y1, y2, y3, y4, y5, y6, y7, y8, y9⟩ hb hbd.out (by omega) (hIR.keeps hk) hFit h5 (fun b hne e => Nat.lt_of_lt_of_le (hin hne b e) hBs)
              have hOu : wr.heap.size ∉ ownT bu bn uo uh ug := fun hm => by
                have := (hTwo.out.b.m.own_tag hm).2.1
                omega
              have hOt : wr.heap.size ∉ ownT bt bm vo vh vg := fun hm => by
                have := (hTwo.out.a.m.own_tag hm).2.1
                omega
              obtain ⟨x0, x1, x2, x3, x4, x5, ⟨x6, x7, x8⟩, ⟨x9, x10, x11⟩, x12, ⟨x13, x14, x15⟩, x16, ⟨x17, x18, x19⟩⟩ := x
              simp only [rfV, slv, opV, AnV.v] at hst hst2
              simp only [RfV.cs, slv, List.toArray] at hbp hbpM
              replace hst := Lib.hid hst
              replace hst2 := Lib.hid hst2
              replace hbO := Lib.hid hbO
              replace hbpM := Lib.hid hbpM
              replace hkrM := Lib.hid hkrM
              replace hrun := Lib.hid hrun
              replace ho := Lib.hid ho
              replace hTM := Lib.hid hTM
              replace hwO := Lib.hid hwO
              clear hIR hFit hin h5 hkM1 hTwo hkr hkw
              obtain ⟨e0, e1, e2, e3, e4, e5, e6, e7, e8, e9, e10, e11, ef, el⟩ := cl12 hbp.out
              go_upto_region 17 with fail
              generalize (wr.alloc (.cells #[.int .u8 ok, .int .i64 oi, .bool on, .int .i64 y0, .int .i64 y1, .int .u64 y2, .int .i64 y3, .bool y4, .bool y5, .int .i64 y6, .slice y7 y8 y9] tOp)) = W1 at *
              obtain ⟨XO, hXO⟩ : ∃ X, wr.heap.size = X := ⟨_, rfl⟩
              rw [hXO] at hbO hOu hOt hwO ⊢
              replace hXO := Lib.hid hXO
              clear f0 f1 f2 f3 f4 f5 f6 f7 f8 f9 f10 hbp e0 e1 e2 e3 e4 e5 e6 e7 e8 e9 e10 e11 ef el
              have hbp := hbpM
              clear hbpM
              obtain ⟨e0, e1, e2, e3, e4, e5, e6, e7, e8, e9, e10, e11, ef, el⟩ := cl12 hbp.out
              obtain ⟨r0, r1, r2, r3, r4, r5, r6, r7, r8, r9, r10, rf, rl⟩ := cl11 hbO.out
              go_wp2_with fail
              refine hst.out.mono ?_
              rintro e w5 ⟨xs, uo', uh', ug', rfl, hB5, hM5, hF5⟩
              obtain ⟨hA5, hd5, hx5⟩ := hTM.out.one hM5 hF5
              have hownu : ∀ b ∈ ownT bu bn uo uh ug, Bu ≤ b := fun b hb => (hTM.out.b.m.own_tag hb).1
              have hpu : p ∉ ownT bu bn uo uh ug := hTM.out.b.m.not_own hbp.out
              have hpt : p ∉ ownT bt bm vo vh vg := hTM.out.a.m.not_own hbp.out
              have hbp5 := (hM5.k.block _ el hpu).trans hbp.out
              have hbO5 := (hM5.k.block _ rl hOu).trans hbO.out
              have hnp5 : ∀ b ∈ blks xs, b ≠ p := fun b hb e => by
                rcases hF5 b hb with h | h
                · exact hnp.out b h e
                · omega
              have hkr5 : Keeps [] w w5 := hkrM.out.fresh hM5.k (fun b hb => .inr (Nat.le_trans hBu (hownu b hb)))
              obtain ⟨m0, m1, m2, m3, m4, m5, ⟨m6, m7, m8⟩, ⟨m9, m10, m11⟩, m12, ⟨m13, m14, m15⟩, m16, ⟨m17, m18, m19⟩⟩ := xs
              have hbV := heap_alloc_new w5 (.cells #[.int .i64 m0, .int .i64 m1, .int .i64 m2, .int .u64 m3, .int .i64 m4, .int .i64 m5, .slice m6 m7 m8, .slice m9 m10 m11, .int .i64 m12, .slice m13 m14 m15, .bool m16, .slice m17 m18 m19] tR)
              have hkV := (Keeps.refl [] w5).alloc (.cells #[.int .i64 m0, .int .i64 m1, .int .i64 m2, .int .u64 m3, .int .i64 m4, .int .i64 m5, .slice m6 m7 m8, .slice m9 m10 m11, .int .i64 m12, .slice m13 m14 m15, .bool m16, .slice m17 m18 m19] tR)
              replace hB5 := Lib.hid (hB5.keeps hkV)
              replace hA5 := Lib.hid (hA5.keeps hkV)
              replace hbp5 := Lib.hid ((hkV.block _ (lt_of_blk hbp5) (by simp)).trans hbp5)
              replace hbO5 := Lib.hid ((hkV.block _ (lt_of_blk hbO5) (by simp)).trans hbO5)
              replace hkr5 := Lib.hid (hkr5.trans hkV)
              replace hbV := Lib.hid hbV
              have hsz5 := hM5.k.size
              have hVo : w5.heap.size ∉ ownT bt bm vo vh vg := fun hm => by
                have h1 := (hTM.out.a.m.own_tag hm).2.1
                omega
              have hVp : ¬ w5.heap.size = p := by have := el; omega
              have hVO : ¬ w5.heap.size = XO := by have := rl; omega
              replace hd5 := Lib.hid hd5
              replace hx5 := Lib.hid hx5
              replace hnp5 := Lib.hid hnp5
              simp only [rfV, slv]
              clear hst hM5 hF5 hownu hpu hbp hTM hkrM hkV hsz5 hnp e0 e1 e2 e3 e4 e5 e6 e7 e8 e9 e10 e11 ef el r0 r1 r2 r3 r4 r5 r6 r7 r8 r9 r10 rf rl
              go_upto_region 18 with fail
              generalize (w5.alloc (.cells #[.int .i64 m0, .int .i64 m1, .int .i64 m2, .int .u64 m3, .int .i64 m4, .int .i64 m5, .slice m6 m7 m8, .slice m9 m10 m11, .int .i64 m12, .slice m13 m14 m15, .bool m16, .slice m17 m18 m19] tR)) = W5 at *
              obtain ⟨XV, hXV⟩ : ∃ X, w5.heap.size = X := ⟨_, rfl⟩
              rw [hXV] at hbV hVo hVp hVO ⊢
              replace hXV := Lib.hid hXV
              obtain ⟨e0, e1, e2, e3, e4, e5, e6, e7, e8, e9, e10, e11, ef, el⟩ := cl12 hbp5.out
              obtain ⟨r0, r1, r2, r3, r4, r5, r6, r7, r8, r9, r10, rf, rl⟩ := cl11 hbO5.out
              go_wp2_with fail
              refine (hst2.out _ hkr5.out hA5.out).mono ?_
              rintro e w6 ⟨xs2, vo', vh', vg', rfl, hB6, hM6, hF6⟩
              have hTw := Two.two hd5.out hx5.out hB5.out hB6 hM6
              have hownt : ∀ b ∈ ownT bt bm vo vh vg, B ≤ b := fun b hb => (hA5.out.m.own_tag hb).1
              have hbp6 := (hM6.k.block _ (lt_of_blk hbp5.out) hpt).trans hbp5.out
              have hbV6 := (hM6.k.block _ (lt_of_blk hbV.out) hVo).trans hbV.out
              have hkr6 : Keeps [] w w6 := hkr5.out.fresh hM6.k (fun b hb => .inr (Nat.le_trans hBs (hownt b hb)))
              have hbd6 : (runT (M.take (k + 1)) T).Bnd (NL + (k + 1)) := by
                rw [hrun.out]
                exact Op3.step_bnd hbd.out hA5.out.m.inv hB6.m.inv (by have := hm5.out.1 k hkM; rw [ho.out] at this; exact this)
              have hnum6 : (runT (M.take (k + 1)) T).Num := by
                rw [hrun.out]
                exact hnum.out.step _
              rw [← hrun.out] at hTw hB6
              have hs1 := hTw.a.r.st
              have hs2 := hB6.r.st
              obtain ⟨z0, z1, z2, z3, z4, z5, ⟨z6, z7, z8⟩, ⟨z9, z10, z11⟩, z12, ⟨z13, z14, z15⟩, z16, ⟨z17, z18, z19⟩⟩ := xs2
              have hbX := heap_alloc_new w6 (.cells #[.int .i64 z0, .int .i64 z1, .int .i64 z2, .int .u64 z3, .int .i64 z4, .int .i64 z5, .slice z6 z7 z8, .slice z9 z10 z11, .int .i64 z12, .slice z13 z14 z15, .bool z16, .slice z17 z18 z19] tR)
              have hkX := (Keeps.refl [] w6).alloc (.cells #[.int .i64 z0, .int .i64 z1, .int .i64 z2, .int .u64 z3, .int .i64 z4, .int .i64 z5, .slice z6 z7 z8, .slice z9 z10 z11, .int .i64 z12, .slice z13 z14 z15, .bool z16, .slice z17 z18 z19] tR)
              replace hTw := Lib.hid (hTw.keeps hkX)
              replace hbp6 := Lib.hid ((hkX.block _ (lt_of_blk hbp6) (by simp)).trans hbp6)
              replace hbV6 := Lib.hid ((hkX.block _ (lt_of_blk hbV6) (by simp)).trans hbV6)
              replace hkr6 := Lib.hid (hkr6.trans hkX)
              replace hbX := Lib.hid hbX
              have hXp : ¬ w6.heap.size = p := by have := lt_of_blk hbp5.out; have := hM6.k.size; omega
              simp only [rfV, slv]
              simp only at hs1 hs2
              replace hs1 := Lib.hid hs1
              replace hs2 := Lib.hid hs2
              replace hbd6 := Lib.hid hbd6
              replace hnum6 := Lib.hid hnum6
              clear hst2 hB5 hA5 hB6 hM6 hF6 hownt hbp5 hbO5 hbV hkX hbd hnum hd5 hx5 hkr5 hbO e0 e1 e2 e3 e4 e5 e6 e7 e8 e9 e10 e11 ef el r0 r1 r2 r3 r4 r5 r6 r7 r8 r9 r10 rf rl
              go_upto_region 19 with fail
              generalize (w6.alloc (.cells #[.int .i64 z0, .int .i64 z1, .int .i64 z2, .int .u64 z3, .int .i64 z4, .int .i64 z5, .slice z6 z7 z8, .slice z9 z10 z11, .int .i64 z12, .slice z13 z14 z15, .bool z16, .slice z17 z18 z19] tR)) = W6 at *
              obtain ⟨XX, hXX⟩ : ∃ X, w6.heap.size = X := ⟨_, rfl⟩
              rw [hXX] at hbX hXp ⊢
              replace hXX := Lib.hid hXX
              generalize hTR : runT (M.take (k + 1)) T = T6 at *
              obtain ⟨tn, htn1, htn2⟩ := hbd6.out.tl
              have hqs := hbd6.out.qs
              have hhl := hbd6.out.hl
              have hal := hbd6.out.ag
              have hhi : ∀ a ∈ T6.hist, a.ins.length ≤ 1000 := fun a ha => by have := hbd6.out.hi a ha; omega
              have hq1 : T6.qs.length ≤ 1000 := by omega
              have hc1 := state_c W6 B bt bm vo' vh' vg' _ hTw.out.a.m
              have hc2 := state_c W6 Bu bu bn uo' uh' ug' _ hTw.out.b.m
              have hc3 := encode_c W6 B bt bm vo' vh' vg' _ tn hTw.out.a.m hnum6.out htn1 (by omega) (by omega) hhi (by omega)
              have hc4 := fun (W : World) (hk : Keeps [] W6 W) => encode_c W Bu bu bn uo' uh' ug' _ tn (hTw.out.b.m.keeps hk) hnum6.out htn1 (by omega) (by omega) hhi (by omega)
              have hc5 := fun (W : World) (hk : Keeps [] W6 W) => claimsT_c W B bt bm vo' vh' vg' _ (hTw.out.a.m.keeps hk) hq1
              have hc6 := fun (W : World) (hk : Keeps [] W6 W) => claimsT_c W Bu bu bn uo' uh' ug' _ (hTw.out.b.m.keeps hk) hq1
              have hi6 := hTw.out.a.m.inv
              replace hc1 := Lib.hid hc1
              replace hc2 := Lib.hid hc2
              replace hc3 := Lib.hid hc3
              replace hc4 := Lib.hid hc4
              replace hc5 := Lib.hid hc5
              replace hc6 := Lib.hid hc6
              replace hi6 := Lib.hid hi6
              replace hTR := Lib.hid hTR
              have hss : (T6.state != T6.state) = false := by simp
              clear hhi hqs hhl hal htn1 htn2 hq1
              go_wp2_with fail
              refine hc1.out.mono ?_
              rintro e w7 ⟨rfl, he⟩
              obtain rfl := he
              go_wp2_with fail
              refine hc2.out.mono ?_
              rintro e w7 ⟨rfl, he⟩
              obtain rfl := he
              clear hc1 hc2
              go_wp2_with fail
              refine hc3.out.mono ?_
              rintro e w7 ⟨v7, rfl, hb7, hk7⟩
              replace hb7 := Lib.hid hb7.slB
              replace hk7 := Lib.hid hk7
              clear hc3
              go_wp2_with fail
              refine (hc4.out _ hk7.out).mono ?_
              rintro e w8 ⟨v8, rfl, hb8, hk8⟩
              have hcm := bsame_c w8 v7 v8 _ _ (hb7.out.keeps hk8) hb8.slB
              rw [decide_eq_true rfl] at hcm
              replace hcm := Lib.hid hcm
              replace hk7 := Lib.hid (hk7.out.trans hk8)
              clear hc4 hb7 hb8 hk8
              go_wp2_with fail
              refine hcm.out.mono ?_
              rintro e w9 ⟨rfl, he⟩
              obtain rfl := he
              clear hcm
              go_wp2_with fail
              refine (hc5.out _ hk7.out).mono ?_
              rintro e w9 ⟨v9, rfl, hL9, hk8⟩
              replace hL9 := Lib.hid (hL9.lc hi6.out)
              replace hk7 := Lib.hid (hk7.out.trans hk8)
              clear hc5 hk8
              go_wp2_with fail
              refine (hc6.out _ hk7.out).mono ?_
              rintro e w10 ⟨v10, rfl, hL10, hk8⟩
              have hsc := sameClaims_c w10 v9 v10 _ _ (hL9.out.keeps hk8) (hL10.lc hi6.out)
              rw [decide_eq_true rfl] at hsc
              replace hsc := Lib.hid hsc
              replace hk7 := Lib.hid (hk7.out.trans hk8)
              clear hc6 hL9 hL10 hk8
              go_wp2_with fail
              refine hsc.out.mono ?_
              rintro e w11 ⟨rfl, hk8⟩
              have hk := hk7.out.trans hk8
              have hTz := Lib.hid (hTw.out.keeps hk)
              replace hbp6 := Lib.hid ((hk.block _ (lt_of_blk hbp6.out) (by simp)).trans hbp6.out)
              replace hbV6 := Lib.hid ((hk.block _ (lt_of_blk hbV6.out) (by simp)).trans hbV6.out)
              replace hbX := Lib.hid ((hk.block _ (lt_of_blk hbX.out) (by simp)).trans hbX.out)
              replace hkr6 := Lib.hid (hkr6.out.trans hk)
              clear hsc hk7 hk8 hk hTw
              obtain ⟨e0, e1, e2, e3, e4, e5, e6, e7, e8, e9, e10, e11, ef, el⟩ := cl12 hbp6.out
              obtain ⟨j0, j1, j2, j3, j4, j5, j6, j7, j8, j9, j10, j11, jf, jl⟩ := cl12 hbV6.out
              obtain ⟨l0, l1, l2, l3, l4, l5, l6, l7, l8, l9, l10, l11, lf, ll⟩ := cl12 hbX.out
              have hzm : (z5 != m5) = false := by rw [hs1.out, hs2.out]; simp
              go_upto_region 22 with fail
              obtain ⟨g1, g2⟩ := sc12 (.int .i64 m0) (.int .i64 m1) (.int .i64 m2) (.int .u64 m3) (.int .i64 m4) (.int .i64 m5) (.slice m6 m7 m8) (.slice m9 m10 m11) (.int .i64 m12) (.slice m13 m14 m15) (.bool m16) (.slice m17 m18 m19) hbp6.out
              have hnt := hnp5.out
              have hTz' := hTz.out.keep g2 (g2.ki (fun b hb cs f e => by simp only [List.mem_singleton] at hb; subst hb; rw [hbp6.out] at e; cases e)) (fun b hb => by
                simp only [List.mem_singleton] at hb
                subst hb
                exact ⟨hTz.out.a.m.not_own hbp6.out, hTz.out.b.m.not_own hbp6.out, fun hm => hnt _ hm rfl⟩)
              have hkf := hkr6.out.fresh g2 (fun b hb => by simp only [List.mem_singleton] at hb; subst hb; exact .inr (Nat.le_trans hBs hpB))
              have hbVf := (g2.block _ jl (by simp only [List.mem_singleton]; exact hVp)).trans hbV6.out
              have hbXf := (g2.block _ ll (by simp only [List.mem_singleton]; exact hXp)).trans hbX.out
              rw [hTR.out.symm] at hTz' hbd6 hnum6
              generalize ((((((((((((w11.setCell ⟨p, 0, none⟩ (.int .i64 m0)).setCell ⟨p, 1, none⟩ (.int .i64 m1)).setCell ⟨p, 2, none⟩ (.int .i64 m2)).setCell ⟨p, 3, none⟩ (.int .u64 m3)).setCell ⟨p, 4, none⟩ (.int .i64 m4)).setCell ⟨p, 5, none⟩ (.int .i64 m5)).setCell ⟨p, 6, none⟩ (.slice m6 m7 m8)).setCell ⟨p, 7, none⟩ (.slice m9 m10 m11)).setCell ⟨p, 8, none⟩ (.int .i64 m12)).setCell ⟨p, 9, none⟩ (.slice m13 m14 m15)).setCell ⟨p, 10, none⟩ (.bool m16)).setCell ⟨p, 11, none⟩ (.slice m17 m18 m19)) = wS at *
              replace hTz' := Lib.hid hTz'
              replace hkf := Lib.hid hkf
              replace g1 := Lib.hid g1
              clear g2 e0 e1 e2 e3 e4 e5 e6 e7 e8 e9 e10 e11 ef el j0 j1 j2 j3 j4 j5 j6 j7 j8 j9 j10 j11 jf jl l0 l1 l2 l3 l4 l5 l6 l7 l8 l9 l10 l11 lf ll
              obtain ⟨j0, j1, j2, j3, j4, j5, j6, j7, j8, j9, j10, j11, jf, jl⟩ := cl12 hbVf
              obtain ⟨l0, l1, l2, l3, l4, l5, l6, l7, l8, l9, l10, l11, lf, ll⟩ := cl12 hbXf
              go_wp2
              go_roundw
              case rel => exact ⟨k + 1, vo', vh', vg', uo', uh', ug', _, rfl, by omega, hTz', g1, hnp5, hbd6, hnum6, hkf⟩
              case measure => simp [intOf]; omega
            · have hlt2 : ¬ ((k : Int) < NM) := by omega
              go_wp2
              go_ret
              exact ⟨rfl, hkr.out⟩
end Go.Proofs.YthfdngjbcgkkfaaGreat
