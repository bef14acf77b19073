/- Texts that the laws lean on, in the order in which they build. The specification's Format. The law's few, exactly: the number of elements of all lists, where the sum may wrap. The law CertificateLists, walked, where few says what it should. (Printed by mklsm.py.) Data among a law's arguments, of bounded bulk: how long a certificate's lists may be. (Printed by mkbulk.py.) -/
import Derived.Test.YtiplgpefapeapaaGreatDoorL9
import Derived.Test.YtiplgpefapeapaaGreatDoorRows
set_option linter.unusedVariables false
set_option linter.unusedSimpArgs false
namespace Go.Proofs.YtiplgpefapeapaaGreatDoor
open Go.RowKit Go

theorem wf_is {c : Ct} (h : wf c = true) : 1 ≤ c.is := by
  unfold wf at h
  simp only [Bool.and_eq_true, decide_eq_true_eq] at h
  exact h.1.1.1.1.2
/-- The text of a stub's holders as the specification builds it. -/
def jt (L : List T3) (k : Nat) : List UInt8 := wIs ++ wHe ++ Lib.join (hoL (L.take k)) sepT
theorem jt_succ (L : List T3) (k : Nat) (h : k < L.length) : jt L (k + 1) = (if k = 0 then jt L k else jt L k ++ [44, 32]) ++ prT L[k].1 L[k].2.1 := by
  cases L with
  | nil => simp at h
  | cons x r =>
    cases k with
    | zero => simp [jt, hoL, Lib.join_one, Lib.join_nil]
    | succ k =>
      have hk : k < r.length := by simpa using h
      have e := Lib.joinTail_take_succ sepT (hoL r) k (prT r[k].1 r[k].2.1) (by simp [hoL, List.getElem?_map, List.getElem?_eq_getElem hk])
      have e1 : hoL ((x :: r).take (k + 1 + 1)) = prT x.1 x.2.1 :: (hoL r).take (k + 1) := by simp [hoL, List.map_take]
      have e2 : hoL ((x :: r).take (k + 1)) = prT x.1 x.2.1 :: (hoL r).take k := by simp [hoL, List.map_take]
      unfold jt
      rw [e1, e2, Lib.join_cons, Lib.join_cons, e, if_neg (by omega)]
      simp [sepT, List.append_assoc]
theorem jt_len (L : List T3) (k : Nat) (h : ∀ x ∈ L, T3ok x) (hl : L.length ≤ 1000) : (jt L k).length ≤ 100000 := by
  have h1 := join_len 42 (hoL (L.take k)) (hoL_len _ (fun x hx => h x (List.mem_of_mem_take hx)))
  have h2 : (hoL (L.take k)).length ≤ 1000 := by unfold hoL; rw [List.length_map, List.length_take]; omega
  unfold jt
  rw [List.length_append, List.length_append]
  show 4 + 8 + _ ≤ _
  omega
set_option maxRecDepth 100000 in
set_option maxHeartbeats 32000000 in
theorem formatR_c (w : World) (x : CtV) (c : Ct) (h : CtW w x c) (hfit : c.Fit0) (hf : c.Few) :
    Calls Tryz.prog 14 #[ctV x] w fun e w' => FmPost w c e w' := by
  have hcF := fun W (hk : Keeps [] w W) => wfR_c W x c (h.keeps hk) hf
  have hcS := fun W (hk : Keeps [] w W) => scionsR_c W x c.an (h.keeps hk).an (by have := hf.an; omega) hf.ins
  have him := h.im
  have his := h.is
  have hs0 := h.s0
  have hs1 := h.s1
  have han := h.an
  have hfi := hfit.im
  have hfs := hfit.is
  have hft := hfit.st
  obtain ⟨x0, x1, x2, x3, x4, ⟨x5, x6, x7⟩, ⟨x8, x9, x10⟩⟩ := x
  simp only at him his hs0 hs1
  have hA := heap_alloc_new w (.cells #[.int .i64 x0, .int .i64 x1, .int .i64 x2, .int .u64 x3, .int .i64 x4, .slice x5 x6 x7, .slice x8 x9 x10] tCt)
  have hkA := (Keeps.refl [] w).alloc (.cells #[.int .i64 x0, .int .i64 x1, .int .i64 x2, .int .u64 x3, .int .i64 x4, .slice x5 x6 x7, .slice x8 x9 x10] tCt)
  replace hcF := Lib.hid hcF
  replace hcS := Lib.hid hcS
  replace hA := Lib.hid hA
  replace hkA := Lib.hid hkA
  replace han := Lib.hid han
  simp only [ctV, slv] at hcF hcS han ⊢
  by_cases hwf : wf c = true
  · have hfm : fmT c = [hdT c.im c.is c.st.1 c.st.2.1] ++ c.an.map anT ++ [enT (scL c.an).length] := by unfold fmT; rw [if_pos hwf]
    unfold FmPost
    rw [hfm]
    rw [hwf] at hcF
    replace hfm := Lib.hid hfm
    replace hwf := Lib.hid hwf
    replace h := Lib.hid h
    replace hfit := Lib.hid hfit
    replace hf := Lib.hid hf
    replace hft := Lib.hid hft
    replace hfi := Lib.hid hfi
    replace hfs := Lib.hid hfs
    rw [← him, ← his, ← hs0, ← hs1]
    replace him := Lib.hid him
    replace his := Lib.hid his
    replace hs0 := Lib.hid hs0
    replace hs1 := Lib.hid hs1
    go_enter Tryz.func14, Tryz.ntmps14
    go_upto_region 1 with fail
    generalize (w.alloc (.cells #[.int .i64 x0, .int .i64 x1, .int .i64 x2, .int .u64 x3, .int .i64 x4, .slice x5 x6 x7, .slice x8 x9 x10] tCt)) = W at *
    obtain ⟨B, hB⟩ : ∃ B, w.heap.size = B := ⟨_, rfl⟩
    rw [hB] at hA ⊢
    replace hB := Lib.hid hB
    have hcf := Lib.hid (hcF.out W hkA.out)
    obtain ⟨i0, i1, i2, i3, i4, i5, i6, if', il⟩ := cl7 hA.out
    go_wp2_with fail
    refine hcf.out.mono ?_
    rintro e w1 ⟨rfl, hk1⟩
    have hA1 := Lib.hid ((hk1.block _ (lt_of_blk hA.out) (by simp)).trans hA.out)
    have hkw1 := Lib.hid (hkA.out.trans hk1)
    clear i0 i1 i2 i3 i4 i5 i6 if' il hk1 hcf hcF hA
    obtain ⟨i0, i1, i2, i3, i4, i5, i6, if', il⟩ := cl7 hA1.out
    have his1 : 1 ≤ x1 := by rw [his.out]; exact wf_is hwf.out
    have hwr : IntKind.u64.wrap x1 = (x1.toNat : Int) := by
      have h1 := w64_iff.1 (show W64 x1 by rw [his.out]; exact hfs.out)
      rw [IntWalk.u64_in _ (by omega)]; omega
    have hx1u : x1.toNat < 18446744073709551616 := by have h1 := w64_iff.1 (show W64 x1 by rw [his.out]; exact hfs.out); omega
    have hcall1 := fun W => pairR_c W x0 x1.toNat (by rw [him.out]; exact hfi.out) hx1u
    have hcall3 := fun W => pairR_c W x2 x3 (by rw [hs0.out]; exact hft.out.1) (by rw [hs1.out]; exact hft.out.2.1)
    have hl1 := prT_len x0 x1.toNat (by rw [him.out]; exact hfi.out) hx1u
    have hl3 := prT_len x2 x3 (by rw [hs0.out]; exact hft.out.1) (by rw [hs1.out]; exact hft.out.2.1)
    have hhd : hdT x0 x1 x2 x3 = wTr ++ prT x0 x1.toNat ++ wOf ++ prT x2 x3 := by
      have e : Lib.itoa x1 = Lib.decDigits x1.toNat := by unfold Lib.itoa; rw [if_neg (by omega)]
      unfold hdT
      rw [e, show prT x0 x1.toNat = Lib.itoa x0 ++ [47] ++ Lib.decDigits x1.toNat from rfl]
      simp only [List.append_assoc]
    obtain ⟨n1, hn1⟩ : ∃ n, x1.toNat = n := ⟨_, rfl⟩
    rw [hn1] at hwr hx1u hl1 hhd
    simp only [hn1] at hcall1
    replace hn1 := Lib.hid hn1
    obtain ⟨t1, e1⟩ : ∃ t, prT x0 n1 = t := ⟨_, rfl⟩
    obtain ⟨t3, e3⟩ : ∃ t, prT x2 x3 = t := ⟨_, rfl⟩
    simp only [e1, e3] at hcall1 hcall3 hl1 hl3 hhd
    replace hhd := Lib.hid hhd
    clear e1 e3
    have hle1 : ¬ 9223372036854775807 < 6 + t1.length := by omega
    have hle2 : ¬ 9223372036854775807 < 6 + t1.length + 9 := by omega
    have hle3 : ¬ 9223372036854775807 < 6 + t1.length + 9 + t3.length := by omega
    replace hcall1 := Lib.hid hcall1
    replace hcall3 := Lib.hid hcall3
    replace his1 := Lib.hid his1
    go_upto_region 3 with fail
    refine Free.wp_region_chain (fun i => i == 7 || i == 16 || i == 18) (fun i => true) (fun _ _ => False) (by kernel_rfl) (by kernel_rfl) (by kernel_rfl) ?_
    (repeat (first | (apply Free.cw_pure rfl rfl; (intro w'; go_simp <;> exact rfl); go_frame) | (apply Free.cw_steady rfl rfl rfl; (intro w' hS; have q0 := Free.sx_cell hS i0 (fun _ _ hT => hT); have q1 := Free.sx_cell hS i1 (fun _ _ hT => hT); have q2 := Free.sx_cell hS i2 (fun _ _ hT => hT); have q3 := Free.sx_cell hS i3 (fun _ _ hT => hT); go_simp <;> exact rfl); go_frame) | (refine Free.cw_skip rfl ?_; go_frame)))
    refine Free.cw_loud rfl rfl (fun K hK => ?_)
    go_wp2_with fail
    refine (hcall1.out w1.drew).mono ?_
    rintro e w2 ⟨rfl, hk2⟩
    refine hK _ _ rfl (Free.KeepsP.of hk2 (by simp)) ?_
    clear hK K
    have hd2 := Lib.hid ((Keeps.refl [] w1).drew.trans hk2)
    replace hk2 := Lib.hid (hkw1.out.drew.trans hk2)
    unfold bstr
    (repeat (first | (apply Free.cw_pure rfl rfl; (intro w'; go_simp <;> exact rfl); go_frame) | (apply Free.cw_steady rfl rfl rfl; (intro w' hS; have q0 := Free.sx_cell hS i0 (fun _ _ hT => hT); have q1 := Free.sx_cell hS i1 (fun _ _ hT => hT); have q2 := Free.sx_cell hS i2 (fun _ _ hT => hT); have q3 := Free.sx_cell hS i3 (fun _ _ hT => hT); go_simp <;> exact rfl); go_frame) | (refine Free.cw_skip rfl ?_; go_frame)))
    refine Free.cw_loud rfl rfl (fun K hK => ?_)
    go_wp2_with fail
    refine (hcall3.out w2).mono ?_
    rintro e w4 ⟨rfl, hk4⟩
    refine hK _ _ rfl (Free.KeepsP.of hk4 (by simp)) ?_
    clear hK K
    replace hk2 := Lib.hid (hk2.out.trans hk4)
    replace hd2 := Lib.hid (hd2.out.trans hk4)
    clear hk4
    unfold bstr
    (repeat (first | (apply Free.cw_pure rfl rfl; (intro w'; go_simp <;> exact rfl); go_frame) | (apply Free.cw_steady rfl rfl rfl; (intro w' hS; have q0 := Free.sx_cell hS i0 (fun _ _ hT => hT); have q1 := Free.sx_cell hS i1 (fun _ _ hT => hT); have q2 := Free.sx_cell hS i2 (fun _ _ hT => hT); have q3 := Free.sx_cell hS i3 (fun _ _ hT => hT); go_simp <;> exact rfl); go_frame) | (refine Free.cw_skip rfl ?_; go_frame)))
    refine Free.cw_loud rfl rfl (fun K hK => ?_)
    go_wp2
    refine hK _ _ rfl (Free.KeepsP.alloc _ _ _) ?_
    clear hK K
    have hval : Value.string ({ data := #[116, 114, 97, 99, 101, 32] } ++ { data := t1.toArray } ++ { data := #[32, 111, 102, 32, 115, 116, 117, 98, 32] } ++ { data := t3.toArray }) = bstr (hdT x0 x1 x2 x3) := by
      rw [hhd.out]
      show Value.string ({ data := wTr.toArray } ++ { data := t1.toArray } ++ { data := wOf.toArray } ++ { data := t3.toArray }) = _
      rw [bs_add, bs_add, bs_add]
      rfl
    rw [hval]
    obtain ⟨h0, eh0⟩ : ∃ l, hdT x0 x1 x2 x3 = l := ⟨_, rfl⟩
    rw [eh0]
    obtain ⟨sv, esv⟩ : ∃ v, bstr h0 = v := ⟨_, rfl⟩
    rw [esv]
    replace esv := Lib.hid esv
    have hBw : B + 1 ≤ w4.heap.size := by
      have h1 := lt_of_blk hA1.out
      have h2 := hd2.out.size
      omega
    have hO0 := Sh.O.one shS w4 h0 #[sv] 9 (B + 1) (by show [sv] = [bstr h0]; rw [esv.out]) hBw
    have hk5 := (Keeps.refl [] w4).alloc (.cells #[sv] 9)
    have hA5 := Lib.hid (((hd2.out.trans hk5).block _ (lt_of_blk hA1.out) (by simp)).trans hA1.out)
    have hkw5 := Lib.hid (hk2.out.trans hk5)
    obtain ⟨bm, ebm⟩ : ∃ x, w4.heap.size = x := ⟨_, rfl⟩
    rw [ebm] at hO0 ⊢
    generalize (w4.alloc (.cells #[sv] 9)) = w5 at *
    replace hO0 := Lib.hid hO0
    replace ebm := Lib.hid ebm
    replace eh0 := Lib.hid eh0
    clear hval hk5 hd2 hk2 hle1 hle2 hle3 hl1 hl3 hcall1 hcall3 hhd hBw hwr hx1u
    (repeat (apply Free.cw_pure rfl rfl; (intro w'; go_simp <;> exact rfl); go_frame))
    refine Free.cw_nil ?_
    clear i0 i1 i2 i3 i4 i5 i6 if' il
    obtain ⟨i0, i1, i2, i3, i4, i5, i6, if', il⟩ := cl7 hA5.out
    obtain ⟨_, _, e1, hla, hca⟩ := han.out.form
    simp only [Value.slice.injEq] at e1
    obtain ⟨-, e1, -⟩ := e1
    have hx6m : x6 ≤ 1000 := by have := hf.out.an; omega
    replace e1 := Lib.hid e1
    go_wp2
    go_loopw [3, 4] (fun ov i wr => ∃ (k : Nat), i = .int .i64 k ∧ k ≤ x6 ∧ Hid (shS.O wr (B + 1) 9 ov ([h0] ++ (c.an.take k).map anT)) ∧ Hid (wr.heap[B]? = some (.cells #[.int .i64 x0, .int .i64 x1, .int .i64 x2, .int .u64 x3, .int .i64 x4, .slice x5 x6 x7, .slice x8 x9 x10] tCt)) ∧ Hid (Keeps [] w wr)) (fun _ i _ => x6 - (intOf i).toNat)
    case atStart => exact ⟨0, rfl, by omega, hO0, hA5, hkw5⟩
    case round =>
      clear i0 i1 i2 i3 i4 i5 i6 if' il hO0
      obtain ⟨k, rfl, hk, hO, hAk, hkw⟩ := hrel
      obtain ⟨oa, oc, rfl⟩ := hO.out.form
      have hLk : ([h0] ++ (c.an.take k).map anT).length = k + 1 := by simp only [List.length_append, List.length_singleton, List.length_map, List.length_take]; have := e1.out; omega
      rw [hLk] at hO ⊢
      replace hLk := Lib.hid hLk
      by_cases hlt : k < x6
      · have hlt2 : (k : Int) < x6 := by omega
        have hkl : k < c.an.length := by rw [← e1.out]; exact hlt
        obtain ⟨g, o, c', y, hv, hy, he⟩ := (han.out.keeps hkw.out).elem hkl
        rw [← e1.out] at hv
        cases hv
        have hst : [h0] ++ (c.an.take (k + 1)).map anT = ([h0] ++ (c.an.take k).map anT) ++ [anT c.an[k]] := by rw [List.take_succ_eq_append_getElem hkl, List.map_append, List.append_assoc]; rfl
        have hao := hfit.out.an _ (List.getElem_mem hkl)
        have hai := hf.out.ins _ (List.getElem_mem hkl)
        obtain ⟨a, ha⟩ : ∃ a, c.an[k] = a := ⟨_, rfl⟩
        rw [ha] at hy hst hao hai
        have r0 := hy.m
        have r1 := hy.ow
        have r2 := hy.n
        have r3 := hy.ep
        have r4 := hy.kn
        have r5 := hy.rt
        have hins := hy.ins
        obtain ⟨y0, y1, y2, y3, y4, y5, y6, y7, y8, y9⟩ := y
        simp only [AnV.v] at r0 r1 r2 r3 r4 r5 hins
        have g0 := he 0 _ rfl
        have g1 := he 1 _ rfl
        have g2 := he 2 _ rfl
        have g3 := he 3 _ rfl
        have g4 := he 4 _ rfl
        have g5 := he 5 _ rfl
        have g6 := he 6 _ rfl
        have g7 := he 7 _ rfl
        simp only [AnV.v, Nat.add_zero] at g0 g1 g2 g3 g4 g5 g6 g7
        have hkn := Lib.hid ((Keeps.refl [] wr).alloc (.cells #[.int .i64 y0, .int .i64 y1, .int .u64 y2, .int .i64 y3, .bool y4, .bool y5, .int .i64 y6, .slice y7 y8 y9] tA))
        have hbA := Lib.hid (heap_alloc_new wr (.cells #[.int .i64 y0, .int .i64 y1, .int .u64 y2, .int .i64 y3, .bool y4, .bool y5, .int .i64 y6, .slice y7 y8 y9] tA))
        have hh : anH a = wMa ++ Lib.itoa y0 ++ wEp ++ Lib.itoa y3 ++ wSt ++ prT y1 y2 ++ wIs := by rw [r0, r1, r2, r3]; rfl
        have hta : anT a = anH a ++ (if y4 = false then wUn else if y5 = true then wRo else wHe ++ hoT a.ins) := by rw [r4, r5]; rfl
        have q1 := itoa_len y0 (by rw [r0]; exact hao.q.1)
        have q2 := itoa_len y3 (by rw [r3]; exact hao.ep)
        have q3 := prT_len y1 y2 (by rw [r1]; exact hao.q.2.1) (by rw [r2]; exact hao.q.2.2)
        have hc1 := fun W => decimal_c W y0 (by rw [r0]; exact hao.q.1)
        have hc2 := fun W => decimal_c W y3 (by rw [r3]; exact hao.ep)
        have hc3 := fun W => pairR_c W y1 y2 (by rw [r1]; exact hao.q.2.1) (by rw [r2]; exact hao.q.2.2)
        obtain ⟨t1, z1⟩ : ∃ t, Lib.itoa y0 = t := ⟨_, rfl⟩
        obtain ⟨t2, z2⟩ : ∃ t, Lib.itoa y3 = t := ⟨_, rfl⟩
        obtain ⟨t3, z3⟩ : ∃ t, prT y1 y2 = t := ⟨_, rfl⟩
        simp only [z1, z2, z3] at hc1 hc2 hc3 q1 q2 q3 hh
        have hle1 : ¬ 9223372036854775807 < 8 + t1.length := by omega
        have hle2 : ¬ 9223372036854775807 < 8 + t1.length + 8 := by omega
        have hle3 : ¬ 9223372036854775807 < 8 + t1.length + 8 + t2.length := by omega
        have hle4 : ¬ 9223372036854775807 < 8 + t1.length + 8 + t2.length + 7 := by omega
        have hle5 : ¬ 9223372036854775807 < 8 + t1.length + 8 + t2.length + 7 + t3.length := by omega
        have hle6 : ¬ 9223372036854775807 < 8 + t1.length + 8 + t2.length + 7 + t3.length + 4 := by omega
        have hhl : (anH a).length ≤ 200 := by rw [hh]; simp only [List.length_append]; show 8 + t1.length + 8 + t2.length + 7 + t3.length + 4 ≤ 200; omega
        have hinsn := Lib.hid (hins.keeps hkn.out)
        have hiok : Hid (∀ x ∈ a.ins, T3ok x) := Lib.hid (fun x hx => ⟨(hao.ins x hx).1, (hao.ins x hx).2.1⟩)
        replace hc1 := Lib.hid hc1
        replace hc2 := Lib.hid hc2
        replace hc3 := Lib.hid hc3
        replace hst := Lib.hid hst
        replace ha := Lib.hid ha
        replace hh := Lib.hid hh
        replace hta := Lib.hid hta
        replace hhl := Lib.hid hhl
        replace hao := Lib.hid hao
        clear he hy hins z1 z2 z3 r0 r1 r2 r3 r4 r5
        obtain ⟨i0, i1, i2, i3, i4, i5, i6, if', il⟩ := cl7 hAk.out
        go_upto_region 8 with fail
        clear i0 i1 i2 i3 i4 i5 i6 if' il
        clear g0 g1 g2 g3 g4 g5 g6 g7
        generalize (wr.alloc (.cells #[.int .i64 y0, .int .i64 y1, .int .u64 y2, .int .i64 y3, .bool y4, .bool y5, .int .i64 y6, .slice y7 y8 y9] tA)) = WA at *
        obtain ⟨X, hX⟩ : ∃ X, wr.heap.size = X := ⟨_, rfl⟩
        rw [hX] at hbA ⊢
        replace hX := Lib.hid hX
        obtain ⟨g0, g1, g2, g3, g4, g5, g6, g7, gf, gl⟩ := cl8 hbA.out
        have hkA9 := Lib.hid (hkw.out.trans hkn.out)
        refine Free.wp_region_chain (fun i => i == 2 || i == 7 || i == 14) (fun i => true) (fun _ _ => False) (by kernel_rfl) (by kernel_rfl) (by kernel_rfl) ?_
        (repeat (first | (apply Free.cw_pure rfl rfl; (intro w'; go_simp <;> exact rfl); go_frame) | (apply Free.cw_steady rfl rfl rfl; (intro w' hS; have q0 := Free.sx_cell hS g0 (fun _ _ hT => hT); have q1 := Free.sx_cell hS g1 (fun _ _ hT => hT); have q2 := Free.sx_cell hS g2 (fun _ _ hT => hT); have q3 := Free.sx_cell hS g3 (fun _ _ hT => hT); go_simp <;> exact rfl); go_frame) | (refine Free.cw_skip rfl ?_; go_frame)))
        refine Free.cw_loud rfl rfl (fun K hK => ?_)
        go_wp2_with fail
        refine (hc1.out WA.drew).mono ?_
        rintro e w2 ⟨rfl, hk2⟩
        refine hK _ _ rfl (Free.KeepsP.of hk2 (by simp)) ?_
        clear hK K
        have hd2 := Lib.hid ((Keeps.refl [] WA).drew.trans hk2)
        clear hk2
        unfold bstr
        (repeat (first | (apply Free.cw_pure rfl rfl; (intro w'; go_simp <;> exact rfl); go_frame) | (apply Free.cw_steady rfl rfl rfl; (intro w' hS; have q0 := Free.sx_cell hS g0 (fun _ _ hT => hT); have q1 := Free.sx_cell hS g1 (fun _ _ hT => hT); have q2 := Free.sx_cell hS g2 (fun _ _ hT => hT); have q3 := Free.sx_cell hS g3 (fun _ _ hT => hT); go_simp <;> exact rfl); go_frame) | (refine Free.cw_skip rfl ?_; go_frame)))
        refine Free.cw_loud rfl rfl (fun K hK => ?_)
        go_wp2_with fail
        refine (hc2.out w2).mono ?_
        rintro e w3 ⟨rfl, hk2⟩
        refine hK _ _ rfl (Free.KeepsP.of hk2 (by simp)) ?_
        clear hK K
        replace hd2 := Lib.hid (hd2.out.trans hk2)
        clear hk2
        unfold bstr
        (repeat (first | (apply Free.cw_pure rfl rfl; (intro w'; go_simp <;> exact rfl); go_frame) | (apply Free.cw_steady rfl rfl rfl; (intro w' hS; have q0 := Free.sx_cell hS g0 (fun _ _ hT => hT); have q1 := Free.sx_cell hS g1 (fun _ _ hT => hT); have q2 := Free.sx_cell hS g2 (fun _ _ hT => hT); have q3 := Free.sx_cell hS g3 (fun _ _ hT => hT); go_simp <;> exact rfl); go_frame) | (refine Free.cw_skip rfl ?_; go_frame)))
        refine Free.cw_loud rfl rfl (fun K hK => ?_)
        go_wp2_with fail
        refine (hc3.out w3).mono ?_
        rintro e w4 ⟨rfl, hk2⟩
        refine hK _ _ rfl (Free.KeepsP.of hk2 (by simp)) ?_
        clear hK K
        replace hd2 := Lib.hid (hd2.out.trans hk2)
        clear hk2
        unfold bstr
        (repeat (first | (apply Free.cw_pure rfl rfl; (intro w'; go_simp <;> exact rfl); go_frame) | (apply Free.cw_steady rfl rfl rfl; (intro w' hS; have q0 := Free.sx_cell hS g0 (fun _ _ hT => hT); have q1 := Free.sx_cell hS g1 (fun _ _ hT => hT); have q2 := Free.sx_cell hS g2 (fun _ _ hT => hT); have q3 := Free.sx_cell hS g3 (fun _ _ hT => hT); go_simp <;> exact rfl); go_frame) | (refine Free.cw_skip rfl ?_; go_frame)))
        have hval : Value.string ({ data := #[109, 97, 99, 104, 105, 110, 101, 32] } ++ { data := t1.toArray } ++ { data := #[44, 32, 101, 112, 111, 99, 104, 32] } ++ { data := t2.toArray } ++ { data := #[58, 32, 115, 116, 117, 98, 32] } ++ { data := t3.toArray }) = .string { data := (wMa ++ t1 ++ wEp ++ t2 ++ wSt ++ t3).toArray } := by
          show Value.string ({ data := wMa.toArray } ++ { data := t1.toArray } ++ { data := wEp.toArray } ++ { data := t2.toArray } ++ { data := wSt.toArray } ++ { data := t3.toArray }) = _
          rw [bs_add, bs_add, bs_add, bs_add, bs_add]
        rw [hval]
        obtain ⟨hd, ehd⟩ : ∃ l, wMa ++ t1 ++ wEp ++ t2 ++ wSt ++ t3 = l := ⟨_, rfl⟩
        have hh2 := hh.out
        rw [ehd] at hh2 ⊢
        replace hh2 := Lib.hid hh2
        replace ehd := Lib.hid ehd
        have hx4 := Lib.hid ((hd2.out.block _ (lt_of_blk hbA.out) (by simp)).trans hbA.out)
        have hins4 := Lib.hid (hinsn.out.keeps hd2.out)
        have hk4 := Lib.hid (hkA9.out.trans hd2.out)
        clear hval g0 g1 g2 g3 g4 g5 g6 g7 gf gl hle1 hle2 hle3 hle4 hle5 hle6 hc1 hc2 hc3 q1 q2 q3
        obtain ⟨g0, g1, g2, g3, g4, g5, g6, g7, gf, gl⟩ := cl8 hx4.out
        refine Free.cw_nil ?_
        obtain ⟨_, _, ev, hv1, hv2, _⟩ := hins4.out.form
        simp only [Value.slice.injEq] at ev
        obtain ⟨-, ev, -⟩ := ev
        have hy8 : y8 ≤ 1000 := by omega
        replace ev := Lib.hid ev
        have hj0 : Value.string { data := #[32, 105, 115, 32, 104, 101, 108, 100, 32, 98, 121, 32] } = .string { data := (jt a.ins 0).toArray } := by simp [jt, hoL, Lib.join_nil, wIs, wHe]
        replace hj0 := Lib.hid hj0
        clear hv1 hv2
        (go_upto_region 10 with fail; iterate 7 go_step)
        try rw [hj0.out]
        go_cut [7, 8] from 60 to 85 (fun tv iv wx => tv = .string { data := (jt a.ins a.ins.length).toArray } ∧ (∃ z : Nat, iv = .int .i64 z) ∧ Hid (Keeps [] w4 wx))
        case first =>
          go_wp2
          go_loopw [7, 8] (fun tv i wx => ∃ kk : Nat, i = .int .i64 kk ∧ kk ≤ y8 ∧ tv = .string { data := (jt a.ins kk).toArray } ∧ Hid (Keeps [] w4 wx)) (fun _ i _ => y8 - (intOf i).toNat)
          case atStart => exact ⟨0, rfl, by omega, hj0.out, Lib.hid (Keeps.refl _ _)⟩
          case round =>
            clear g0 g1 g2 g3 g4 g5 g6 g7 gf gl
            obtain ⟨kk, rfl, hkk, rfl, hkx⟩ := hrel
            have hxx := (hkx.out.block _ (lt_of_blk hx4.out) (by simp)).trans hx4.out
            obtain ⟨g0, g1, g2, g3, g4, g5, g6, g7, gf, gl⟩ := cl8 hxx
            by_cases hltk : kk < y8
            · have hlk2 : (kk : Int) < y8 := by omega
              have hlk3 : decide ((kk : Int) < (y8 : Int)) = true := by simp; omega
              have hkl2 : kk < a.ins.length := by rw [← ev.out]; exact hltk
              obtain ⟨gi, oi, ci, hvi, hei⟩ := (hins4.out.keeps hkx.out).elem hkl2
              rw [← ev.out] at hvi
              cases hvi
              have hjs := jt_succ a.ins kk hkl2
              have hio := hiok.out _ (List.getElem_mem hkl2)
              obtain ⟨⟨n0, n1, n2⟩, hz⟩ : ∃ z, a.ins[kk] = z := ⟨_, rfl⟩
              rw [hz] at hei hjs hio
              have bq0 := hei 0 _ rfl
              have bq1 := hei 1 _ rfl
              simp only [shT, Nat.add_zero] at bq0 bq1 hjs
              have hJl := jt_len a.ins kk hiok.out hai
              have hpl := prT_len n0 n1 hio.1 hio.2
              have hcp := fun W => pairR_c W n0 n1 hio.1 hio.2
              obtain ⟨J, hJ⟩ : ∃ l, jt a.ins kk = l := ⟨_, rfl⟩
              obtain ⟨pt, hpt⟩ : ∃ l, prT n0 n1 = l := ⟨_, rfl⟩
              rw [hJ] at hjs hJl ⊢
              rw [hpt] at hjs hpl
              simp only [hpt] at hcp
              replace hcp := Lib.hid hcp
              replace hJ := Lib.hid hJ
              replace hpt := Lib.hid hpt
              replace hz := Lib.hid hz
              clear hei
              by_cases hk0 : kk = 0
              · have hd0 : decide ((kk : Int) > 0) = false := by simp; omega
                have hd1 : decide ((0 : Int) < (kk : Int)) = false := by simp; omega
                rw [if_pos hk0] at hjs
                have hd2 : (0 < kk) = False := by rw [hk0]; simp
                have hle1 : ¬ 9223372036854775807 < J.length + pt.length := by omega
                replace hjs := Lib.hid hjs
                replace hk0 := Lib.hid hk0
                go_upto_region 15 with fail
                refine Free.wp_region_chain (fun i => i == 13) (fun i => true) (fun _ _ => False) (by kernel_rfl) (by kernel_rfl) (by kernel_rfl) ?_
                (repeat (first | (apply Free.cw_pure rfl rfl; (intro w'; go_simp <;> exact rfl); go_frame) | (apply Free.cw_steady rfl rfl rfl; (intro w' hS; have q0 := Free.sx_cell hS g7 (fun _ _ hT => hT); have q1 := Free.sx_cell hS bq0 (fun _ _ hT => hT); have q2 := Free.sx_cell hS bq1 (fun _ _ hT => hT); go_simp <;> exact rfl); go_frame) | (refine Free.cw_skip rfl ?_; go_frame)))
                refine Free.cw_loud rfl rfl (fun K hK => ?_)
                go_wp2_with fail
                refine (hcp.out wr.drew).mono ?_
                rintro e w9 ⟨rfl, hk9⟩
                refine hK _ _ rfl (Free.KeepsP.of hk9 (by simp)) ?_
                clear hK K
                have hkx9 := Lib.hid (hkx.out.trans ((Keeps.refl [] wr).drew.trans hk9))
                clear hk9
                unfold bstr
                (repeat (first | (apply Free.cw_pure rfl rfl; (intro w'; go_simp <;> exact rfl); go_frame) | (apply Free.cw_steady rfl rfl rfl; (intro w' hS; have q0 := Free.sx_cell hS g7 (fun _ _ hT => hT); have q1 := Free.sx_cell hS bq0 (fun _ _ hT => hT); have q2 := Free.sx_cell hS bq1 (fun _ _ hT => hT); go_simp <;> exact rfl); go_frame) | (refine Free.cw_skip rfl ?_; go_frame)))
                refine Free.cw_nil ?_
                clear g0 g1 g2 g3 g4 g5 g6 g7 gf gl bq0 bq1
                go_wp2
                go_roundw
                case rel => exact ⟨kk + 1, rfl, by omega, by rw [hjs.out, ← bs_add], hkx9⟩
                case measure => simp [intOf]; omega
              · have hd0 : decide ((kk : Int) > 0) = true := by simp; omega
                have hd1 : decide ((0 : Int) < (kk : Int)) = true := by simp; omega
                rw [if_neg hk0] at hjs
                have hle0 : ¬ 9223372036854775807 < J.length + 2 := by omega
                have hle1 : ¬ 9223372036854775807 < J.length + 2 + pt.length := by omega
                replace hjs := Lib.hid hjs
                go_upto_region 15 with fail
                refine Free.wp_region_chain (fun i => i == 13) (fun i => true) (fun _ _ => False) (by kernel_rfl) (by kernel_rfl) (by kernel_rfl) ?_
                (repeat (first | (apply Free.cw_pure rfl rfl; (intro w'; go_simp <;> exact rfl); go_frame) | (apply Free.cw_steady rfl rfl rfl; (intro w' hS; have q0 := Free.sx_cell hS g7 (fun _ _ hT => hT); have q1 := Free.sx_cell hS bq0 (fun _ _ hT => hT); have q2 := Free.sx_cell hS bq1 (fun _ _ hT => hT); go_simp <;> exact rfl); go_frame) | (refine Free.cw_skip rfl ?_; go_frame)))
                refine Free.cw_loud rfl rfl (fun K hK => ?_)
                go_wp2_with fail
                refine (hcp.out wr.drew).mono ?_
                rintro e w9 ⟨rfl, hk9⟩
                refine hK _ _ rfl (Free.KeepsP.of hk9 (by simp)) ?_
                clear hK K
                have hkx9 := Lib.hid (hkx.out.trans ((Keeps.refl [] wr).drew.trans hk9))
                clear hk9
                unfold bstr
                (repeat (first | (apply Free.cw_pure rfl rfl; (intro w'; go_simp <;> exact rfl); go_frame) | (apply Free.cw_steady rfl rfl rfl; (intro w' hS; have q0 := Free.sx_cell hS g7 (fun _ _ hT => hT); have q1 := Free.sx_cell hS bq0 (fun _ _ hT => hT); have q2 := Free.sx_cell hS bq1 (fun _ _ hT => hT); go_simp <;> exact rfl); go_frame) | (refine Free.cw_skip rfl ?_; go_frame)))
                refine Free.cw_nil ?_
                clear g0 g1 g2 g3 g4 g5 g6 g7 gf gl bq0 bq1
                go_wp2
                go_roundw
                case rel => exact ⟨kk + 1, rfl, by omega, by rw [hjs.out, ← bs_add, ← bs_add], hkx9⟩
                case measure => simp [intOf]; omega
            · have hlk3 : decide ((kk : Int) < (y8 : Int)) = false := by simp; omega
              have hke : kk = a.ins.length := by have := ev.out; omega
              replace hke := Lib.hid hke
              go_wp2
              go_meet
              case rel => exact ⟨by rw [hke.out], ⟨kk, rfl⟩, hkx⟩
        case rest =>
          obtain ⟨rfl, ⟨z, rfl⟩, hkc⟩ := hcut
          clear g0 g1 g2 g3 g4 g5 g6 g7 gf gl hj0
          have hx5 := Lib.hid ((hkc.out.block _ (lt_of_blk hx4.out) (by simp)).trans hx4.out)
          have hkc5 := Lib.hid ((hkn.out.trans hd2.out).trans hkc.out)
          obtain ⟨g0, g1, g2, g3, g4, g5, g6, g7, gf, gl⟩ := cl8 hx5.out
          have hJE : jt a.ins a.ins.length = wIs ++ wHe ++ Lib.join (hoL a.ins) sepT := by unfold jt; rw [List.take_length]
          have hjl := jt_len a.ins a.ins.length hiok.out hai
          obtain ⟨J, hJ⟩ : ∃ l, jt a.ins a.ins.length = l := ⟨_, rfl⟩
          rw [hJ] at hJE hjl ⊢
          replace hJ := Lib.hid hJ
          have hhd9 : hd.length ≤ 196 := by
            have h1 := hhl.out
            rw [hh2.out, List.length_append] at h1
            have h2 : wIs.length = 4 := rfl
            omega
          have hb1 : ¬ 9223372036854775807 < hd.length + 11 := by omega
          have hb2 : ¬ 9223372036854775807 < hd.length + 10 := by omega
          have hb3 : ¬ 9223372036854775807 < hd.length + J.length := by omega
          have hb4 : ¬ 9223372036854775807 < J.length + 7 := by omega
          have hb5 : ¬ 9223372036854775807 < hd.length + (J.length + 7) := by omega
          have hta2 := hta.out
          rw [hh2.out] at hta2
          clear hx4 hins4 hinsn hh hbA
          by_cases h00 : y8 = 0
          · have e00 : ((y8 : Int) == 0) = true := by simp; omega
            have e01 : decide ((y8 : Int) = 0) = true := by simp; omega
            have e02 : a.ins = [] := List.eq_nil_of_length_eq_zero (by rw [← ev.out]; exact h00)
            have hho : hoT a.ins = ([110, 111, 116, 104, 105, 110, 103] : List UInt8) := by rw [e02]; rfl
            have hJE2 : J = wIs ++ wHe := by rw [hJE, e02]; simp [hoL, Lib.join_nil]
            replace e02 := Lib.hid e02
            replace h00 := Lib.hid h00
            clear hJE
            cases y4 with
            | false =>
              have hT : anT a = hd ++ (wIs ++ wUn) := by rw [hta2, if_pos rfl, List.append_assoc]
              replace hT := Lib.hid hT
              clear hta2 hho hJE2
              cases y5 with
              | false =>
                have hv : Value.string ({ data := hd.toArray } ++ { data := #[32, 105, 115, 32, 117, 110, 107, 110, 111, 119, 110] }) = bstr (anT a) := by
                  rw [hT.out]
                  show Value.string ({ data := hd.toArray } ++ { data := (wIs ++ wUn).toArray }) = _
                  rw [bs_add]
                  rfl
                replace hv := Lib.hid hv
                have hmade := Lib.hid (Sh.R.made shS wc [anT a] #[Value.string ({ data := hd.toArray } ++ { data := #[32, 105, 115, 32, 117, 110, 107, 110, 111, 119, 110] })] 9 (by show [Value.string ({ data := hd.toArray } ++ { data := #[32, 105, 115, 32, 117, 110, 107, 110, 111, 119, 110] })] = [bstr _]; rw [hv.out]) (by simp [maxLen]) 1 rfl)
                have hkr1 := hkc5.out.alloc (.cells #[Value.string ({ data := hd.toArray } ++ { data := #[32, 105, 115, 32, 117, 110, 107, 110, 111, 119, 110] })] 9)
                have hO1 := Lib.hid (hO.out.keeps hkr1)
                have hk9 := Lib.hid (hkw.out.trans hkr1)
                have hA9 := Lib.hid ((hkr1.block _ (lt_of_blk hAk.out) (by simp)).trans hAk.out)
                have hs9 : B + 1 ≤ (wc.alloc (.cells #[Value.string ({ data := hd.toArray } ++ { data := #[32, 105, 115, 32, 117, 110, 107, 110, 111, 119, 110] })] 9)).heap.size := by have h1 := lt_of_blk hA9.out; omega
                clear hkr1
                go_wp2_with (first
                  | (at_builtin; (refine Sh.wpl_app shS (B + 1) infoStr rfl Tryz.underlying40 (.slice oa (k + 1) oc) (.slice (some ⟨wc.heap.size, 0, none⟩) 1 1) ([h0] ++ (c.an.take k).map anT) [anT a] rfl _ _ rfl rfl rfl ?hA ?hB ?hC ?hD ?_); (case hA => exact hO1.out); (case hB => exact hmade.out); (case hC => rw [hLk.out]; simp only [List.length_singleton]; omega); (case hD => exact hs9); intro v5 w5 hO5 hG5; have hk5 := hk9.out.fresh hG5.keepsO (fun b hb => .inr (by have h2 := hO1.out.ge b (by simpa using hb); have h5 := hB.out; omega)); have hA5 := (hG5.keepsO.block B (lt_of_blk hA9.out) (fun hb => by have h2 := hO1.out.ge B (by simpa using hb); omega)).trans hA9.out; rw [← hst.out] at hO5; replace hO5 := Lib.hid hO5; replace hk5 := Lib.hid hk5; replace hA5 := Lib.hid hA5; clear hG5)
                  | fail)
                go_roundw
                case rel => exact ⟨k + 1, rfl, by omega, hO5, hA5, hk5⟩
                case measure => simp [intOf]; omega
              | true =>
                have hv : Value.string ({ data := hd.toArray } ++ { data := #[32, 105, 115, 32, 117, 110, 107, 110, 111, 119, 110] }) = bstr (anT a) := by
                  rw [hT.out]
                  show Value.string ({ data := hd.toArray } ++ { data := (wIs ++ wUn).toArray }) = _
                  rw [bs_add]
                  rfl
                replace hv := Lib.hid hv
                have hmade := Lib.hid (Sh.R.made shS wc [anT a] #[Value.string ({ data := hd.toArray } ++ { data := #[32, 105, 115, 32, 117, 110, 107, 110, 111, 119, 110] })] 9 (by show [Value.string ({ data := hd.toArray } ++ { data := #[32, 105, 115, 32, 117, 110, 107, 110, 111, 119, 110] })] = [bstr _]; rw [hv.out]) (by simp [maxLen]) 1 rfl)
                have hkr1 := hkc5.out.alloc (.cells #[Value.string ({ data := hd.toArray } ++ { data := #[32, 105, 115, 32, 117, 110, 107, 110, 111, 119, 110] })] 9)
                have hO1 := Lib.hid (hO.out.keeps hkr1)
                have hk9 := Lib.hid (hkw.out.trans hkr1)
                have hA9 := Lib.hid ((hkr1.block _ (lt_of_blk hAk.out) (by simp)).trans hAk.out)
                have hs9 : B + 1 ≤ (wc.alloc (.cells #[Value.string ({ data := hd.toArray } ++ { data := #[32, 105, 115, 32, 117, 110, 107, 110, 111, 119, 110] })] 9)).heap.size := by have h1 := lt_of_blk hA9.out; omega
                clear hkr1
                go_wp2_with (first
                  | (at_builtin; (refine Sh.wpl_app shS (B + 1) infoStr rfl Tryz.underlying40 (.slice oa (k + 1) oc) (.slice (some ⟨wc.heap.size, 0, none⟩) 1 1) ([h0] ++ (c.an.take k).map anT) [anT a] rfl _ _ rfl rfl rfl ?hA ?hB ?hC ?hD ?_); (case hA => exact hO1.out); (case hB => exact hmade.out); (case hC => rw [hLk.out]; simp only [List.length_singleton]; omega); (case hD => exact hs9); intro v5 w5 hO5 hG5; have hk5 := hk9.out.fresh hG5.keepsO (fun b hb => .inr (by have h2 := hO1.out.ge b (by simpa using hb); have h5 := hB.out; omega)); have hA5 := (hG5.keepsO.block B (lt_of_blk hA9.out) (fun hb => by have h2 := hO1.out.ge B (by simpa using hb); omega)).trans hA9.out; rw [← hst.out] at hO5; replace hO5 := Lib.hid hO5; replace hk5 := Lib.hid hk5; replace hA5 := Lib.hid hA5; clear hG5)
                  | fail)
                go_roundw
                case rel => exact ⟨k + 1, rfl, by omega, hO5, hA5, hk5⟩
                case measure => simp [intOf]; omega
            | true =>
              cases y5 with
              | true =>
                have hT : anT a = hd ++ (wIs ++ wRo) := by rw [hta2, if_neg (by decide), if_pos rfl, List.append_assoc]
                replace hT := Lib.hid hT
                clear hta2 hho hJE2
                have hv : Value.string ({ data := hd.toArray } ++ { data := #[32, 105, 115, 32, 114, 111, 111, 116, 101, 100] }) = bstr (anT a) := by
                  rw [hT.out]
                  show Value.string ({ data := hd.toArray } ++ { data := (wIs ++ wRo).toArray }) = _
                  rw [bs_add]
                  rfl
                replace hv := Lib.hid hv
                have hmade := Lib.hid (Sh.R.made shS wc [anT a] #[Value.string ({ data := hd.toArray } ++ { data := #[32, 105, 115, 32, 114, 111, 111, 116, 101, 100] })] 9 (by show [Value.string ({ data := hd.toArray } ++ { data := #[32, 105, 115, 32, 114, 111, 111, 116, 101, 100] })] = [bstr _]; rw [hv.out]) (by simp [maxLen]) 1 rfl)
                have hkr1 := hkc5.out.alloc (.cells #[Value.string ({ data := hd.toArray } ++ { data := #[32, 105, 115, 32, 114, 111, 111, 116, 101, 100] })] 9)
                have hO1 := Lib.hid (hO.out.keeps hkr1)
                have hk9 := Lib.hid (hkw.out.trans hkr1)
                have hA9 := Lib.hid ((hkr1.block _ (lt_of_blk hAk.out) (by simp)).trans hAk.out)
                have hs9 : B + 1 ≤ (wc.alloc (.cells #[Value.string ({ data := hd.toArray } ++ { data := #[32, 105, 115, 32, 114, 111, 111, 116, 101, 100] })] 9)).heap.size := by have h1 := lt_of_blk hA9.out; omega
                clear hkr1
                go_wp2_with (first
                  | (at_builtin; (refine Sh.wpl_app shS (B + 1) infoStr rfl Tryz.underlying40 (.slice oa (k + 1) oc) (.slice (some ⟨wc.heap.size, 0, none⟩) 1 1) ([h0] ++ (c.an.take k).map anT) [anT a] rfl _ _ rfl rfl rfl ?hA ?hB ?hC ?hD ?_); (case hA => exact hO1.out); (case hB => exact hmade.out); (case hC => rw [hLk.out]; simp only [List.length_singleton]; omega); (case hD => exact hs9); intro v5 w5 hO5 hG5; have hk5 := hk9.out.fresh hG5.keepsO (fun b hb => .inr (by have h2 := hO1.out.ge b (by simpa using hb); have h5 := hB.out; omega)); have hA5 := (hG5.keepsO.block B (lt_of_blk hA9.out) (fun hb => by have h2 := hO1.out.ge B (by simpa using hb); omega)).trans hA9.out; rw [← hst.out] at hO5; replace hO5 := Lib.hid hO5; replace hk5 := Lib.hid hk5; replace hA5 := Lib.hid hA5; clear hG5)
                  | fail)
                go_roundw
                case rel => exact ⟨k + 1, rfl, by omega, hO5, hA5, hk5⟩
                case measure => simp [intOf]; omega
              | false =>
                have hT : anT a = hd ++ (J ++ ([110, 111, 116, 104, 105, 110, 103] : List UInt8)) := by rw [hta2, if_neg (by decide), if_neg (by decide), hho, hJE2]; simp only [List.append_assoc]
                replace hT := Lib.hid hT
                clear hta2 hho hJE2
                have hv : Value.string ({ data := hd.toArray } ++ ({ data := J.toArray } ++ { data := #[110, 111, 116, 104, 105, 110, 103] })) = bstr (anT a) := by
                  rw [hT.out]
                  show Value.string ({ data := hd.toArray } ++ ({ data := J.toArray } ++ { data := ([110, 111, 116, 104, 105, 110, 103] : List UInt8).toArray })) = _
                  rw [bs_add, bs_add]
                  rfl
                replace hv := Lib.hid hv
                have hmade := Lib.hid (Sh.R.made shS wc [anT a] #[Value.string ({ data := hd.toArray } ++ ({ data := J.toArray } ++ { data := #[110, 111, 116, 104, 105, 110, 103] }))] 9 (by show [Value.string ({ data := hd.toArray } ++ ({ data := J.toArray } ++ { data := #[110, 111, 116, 104, 105, 110, 103] }))] = [bstr _]; rw [hv.out]) (by simp [maxLen]) 1 rfl)
                have hkr1 := hkc5.out.alloc (.cells #[Value.string ({ data := hd.toArray } ++ ({ data := J.toArray } ++ { data := #[110, 111, 116, 104, 105, 110, 103] }))] 9)
                have hO1 := Lib.hid (hO.out.keeps hkr1)
                have hk9 := Lib.hid (hkw.out.trans hkr1)
                have hA9 := Lib.hid ((hkr1.block _ (lt_of_blk hAk.out) (by simp)).trans hAk.out)
                have hs9 : B + 1 ≤ (wc.alloc (.cells #[Value.string ({ data := hd.toArray } ++ ({ data := J.toArray } ++ { data := #[110, 111, 116, 104, 105, 110, 103] }))] 9)).heap.size := by have h1 := lt_of_blk hA9.out; omega
                clear hkr1
                go_wp2_with (first
                  | (at_builtin; (refine Sh.wpl_app shS (B + 1) infoStr rfl Tryz.underlying40 (.slice oa (k + 1) oc) (.slice (some ⟨wc.heap.size, 0, none⟩) 1 1) ([h0] ++ (c.an.take k).map anT) [anT a] rfl _ _ rfl rfl rfl ?hA ?hB ?hC ?hD ?_); (case hA => exact hO1.out); (case hB => exact hmade.out); (case hC => rw [hLk.out]; simp only [List.length_singleton]; omega); (case hD => exact hs9); intro v5 w5 hO5 hG5; have hk5 := hk9.out.fresh hG5.keepsO (fun b hb => .inr (by have h2 := hO1.out.ge b (by simpa using hb); have h5 := hB.out; omega)); have hA5 := (hG5.keepsO.block B (lt_of_blk hA9.out) (fun hb => by have h2 := hO1.out.ge B (by simpa using hb); omega)).trans hA9.out; rw [← hst.out] at hO5; replace hO5 := Lib.hid hO5; replace hk5 := Lib.hid hk5; replace hA5 := Lib.hid hA5; clear hG5)
                  | fail)
                go_roundw
                case rel => exact ⟨k + 1, rfl, by omega, hO5, hA5, hk5⟩
                case measure => simp [intOf]; omega
          · have e00 : ((y8 : Int) == 0) = false := by simp; omega
            have e01 : decide ((y8 : Int) = 0) = false := by simp; omega
            have e02 : a.ins ≠ [] := fun e => h00 (by rw [ev.out, e]; rfl)
            have hho : hoT a.ins = Lib.join (hoL a.ins) sepT := by unfold hoT; rw [if_neg e02]
            have hJE2 : J = wIs ++ wHe ++ Lib.join (hoL a.ins) sepT := hJE
            replace e02 := Lib.hid e02
            replace h00 := Lib.hid h00
            clear hJE
            cases y4 with
            | false =>
              have hT : anT a = hd ++ (wIs ++ wUn) := by rw [hta2, if_pos rfl, List.append_assoc]
              replace hT := Lib.hid hT
              clear hta2 hho hJE2
              cases y5 with
              | false =>
                have hv : Value.string ({ data := hd.toArray } ++ { data := #[32, 105, 115, 32, 117, 110, 107, 110, 111, 119, 110] }) = bstr (anT a) := by
                  rw [hT.out]
                  show Value.string ({ data := hd.toArray } ++ { data := (wIs ++ wUn).toArray }) = _
                  rw [bs_add]
                  rfl
                replace hv := Lib.hid hv
                have hmade := Lib.hid (Sh.R.made shS wc [anT a] #[Value.string ({ data := hd.toArray } ++ { data := #[32, 105, 115, 32, 117, 110, 107, 110, 111, 119, 110] })] 9 (by show [Value.string ({ data := hd.toArray } ++ { data := #[32, 105, 115, 32, 117, 110, 107, 110, 111, 119, 110] })] = [bstr _]; rw [hv.out]) (by simp [maxLen]) 1 rfl)
                have hkr1 := hkc5.out.alloc (.cells #[Value.string ({ data := hd.toArray } ++ { data := #[32, 105, 115, 32, 117, 110, 107, 110, 111, 119, 110] })] 9)
                have hO1 := Lib.hid (hO.out.keeps hkr1)
                have hk9 := Lib.hid (hkw.out.trans hkr1)
                have hA9 := Lib.hid ((hkr1.block _ (lt_of_blk hAk.out) (by simp)).trans hAk.out)
                have hs9 : B + 1 ≤ (wc.alloc (.cells #[Value.string ({ data := hd.toArray } ++ { data := #[32, 105, 115, 32, 117, 110, 107, 110, 111, 119, 110] })] 9)).heap.size := by have h1 := lt_of_blk hA9.out; omega
                clear hkr1
                go_wp2_with (first
                  | (at_builtin; (refine Sh.wpl_app shS (B + 1) infoStr rfl Tryz.underlying40 (.slice oa (k + 1) oc) (.slice (some ⟨wc.heap.size, 0, none⟩) 1 1) ([h0] ++ (c.an.take k).map anT) [anT a] rfl _ _ rfl rfl rfl ?hA ?hB ?hC ?hD ?_); (case hA => exact hO1.out); (case hB => exact hmade.out); (case hC => rw [hLk.out]; simp only [List.length_singleton]; omega); (case hD => exact hs9); intro v5 w5 hO5 hG5; have hk5 := hk9.out.fresh hG5.keepsO (fun b hb => .inr (by have h2 := hO1.out.ge b (by simpa using hb); have h5 := hB.out; omega)); have hA5 := (hG5.keepsO.block B (lt_of_blk hA9.out) (fun hb => by have h2 := hO1.out.ge B (by simpa using hb); omega)).trans hA9.out; rw [← hst.out] at hO5; replace hO5 := Lib.hid hO5; replace hk5 := Lib.hid hk5; replace hA5 := Lib.hid hA5; clear hG5)
                  | fail)
                go_roundw
                case rel => exact ⟨k + 1, rfl, by omega, hO5, hA5, hk5⟩
                case measure => simp [intOf]; omega
              | true =>
                have hv : Value.string ({ data := hd.toArray } ++ { data := #[32, 105, 115, 32, 117, 110, 107, 110, 111, 119, 110] }) = bstr (anT a) := by
                  rw [hT.out]
                  show Value.string ({ data := hd.toArray } ++ { data := (wIs ++ wUn).toArray }) = _
                  rw [bs_add]
                  rfl
                replace hv := Lib.hid hv
                have hmade := Lib.hid (Sh.R.made shS wc [anT a] #[Value.string ({ data := hd.toArray } ++ { data := #[32, 105, 115, 32, 117, 110, 107, 110, 111, 119, 110] })] 9 (by show [Value.string ({ data := hd.toArray } ++ { data := #[32, 105, 115, 32, 117, 110, 107, 110, 111, 119, 110] })] = [bstr _]; rw [hv.out]) (by simp [maxLen]) 1 rfl)
                have hkr1 := hkc5.out.alloc (.cells #[Value.string ({ data := hd.toArray } ++ { data := #[32, 105, 115, 32, 117, 110, 107, 110, 111, 119, 110] })] 9)
                have hO1 := Lib.hid (hO.out.keeps hkr1)
                have hk9 := Lib.hid (hkw.out.trans hkr1)
                have hA9 := Lib.hid ((hkr1.block _ (lt_of_blk hAk.out) (by simp)).trans hAk.out)
                have hs9 : B + 1 ≤ (wc.alloc (.cells #[Value.string ({ data := hd.toArray } ++ { data := #[32, 105, 115, 32, 117, 110, 107, 110, 111, 119, 110] })] 9)).heap.size := by have h1 := lt_of_blk hA9.out; omega
                clear hkr1
                go_wp2_with (first
                  | (at_builtin; (refine Sh.wpl_app shS (B + 1) infoStr rfl Tryz.underlying40 (.slice oa (k + 1) oc) (.slice (some ⟨wc.heap.size, 0, none⟩) 1 1) ([h0] ++ (c.an.take k).map anT) [anT a] rfl _ _ rfl rfl rfl ?hA ?hB ?hC ?hD ?_); (case hA => exact hO1.out); (case hB => exact hmade.out); (case hC => rw [hLk.out]; simp only [List.length_singleton]; omega); (case hD => exact hs9); intro v5 w5 hO5 hG5; have hk5 := hk9.out.fresh hG5.keepsO (fun b hb => .inr (by have h2 := hO1.out.ge b (by simpa using hb); have h5 := hB.out; omega)); have hA5 := (hG5.keepsO.block B (lt_of_blk hA9.out) (fun hb => by have h2 := hO1.out.ge B (by simpa using hb); omega)).trans hA9.out; rw [← hst.out] at hO5; replace hO5 := Lib.hid hO5; replace hk5 := Lib.hid hk5; replace hA5 := Lib.hid hA5; clear hG5)
                  | fail)
                go_roundw
                case rel => exact ⟨k + 1, rfl, by omega, hO5, hA5, hk5⟩
                case measure => simp [intOf]; omega
            | true =>
              cases y5 with
              | true =>
                have hT : anT a = hd ++ (wIs ++ wRo) := by rw [hta2, if_neg (by decide), if_pos rfl, List.append_assoc]
                replace hT := Lib.hid hT
                clear hta2 hho hJE2
                have hv : Value.string ({ data := hd.toArray } ++ { data := #[32, 105, 115, 32, 114, 111, 111, 116, 101, 100] }) = bstr (anT a) := by
                  rw [hT.out]
                  show Value.string ({ data := hd.toArray } ++ { data := (wIs ++ wRo).toArray }) = _
                  rw [bs_add]
                  rfl
                replace hv := Lib.hid hv
                have hmade := Lib.hid (Sh.R.made shS wc [anT a] #[Value.string ({ data := hd.toArray } ++ { data := #[32, 105, 115, 32, 114, 111, 111, 116, 101, 100] })] 9 (by show [Value.string ({ data := hd.toArray } ++ { data := #[32, 105, 115, 32, 114, 111, 111, 116, 101, 100] })] = [bstr _]; rw [hv.out]) (by simp [maxLen]) 1 rfl)
                have hkr1 := hkc5.out.alloc (.cells #[Value.string ({ data := hd.toArray } ++ { data := #[32, 105, 115, 32, 114, 111, 111, 116, 101, 100] })] 9)
                have hO1 := Lib.hid (hO.out.keeps hkr1)
                have hk9 := Lib.hid (hkw.out.trans hkr1)
                have hA9 := Lib.hid ((hkr1.block _ (lt_of_blk hAk.out) (by simp)).trans hAk.out)
                have hs9 : B + 1 ≤ (wc.alloc (.cells #[Value.string ({ data := hd.toArray } ++ { data := #[32, 105, 115, 32, 114, 111, 111, 116, 101, 100] })] 9)).heap.size := by have h1 := lt_of_blk hA9.out; omega
                clear hkr1
                go_wp2_with (first
                  | (at_builtin; (refine Sh.wpl_app shS (B + 1) infoStr rfl Tryz.underlying40 (.slice oa (k + 1) oc) (.slice (some ⟨wc.heap.size, 0, none⟩) 1 1) ([h0] ++ (c.an.take k).map anT) [anT a] rfl _ _ rfl rfl rfl ?hA ?hB ?hC ?hD ?_); (case hA => exact hO1.out); (case hB => exact hmade.out); (case hC => rw [hLk.out]; simp only [List.length_singleton]; omega); (case hD => exact hs9); intro v5 w5 hO5 hG5; have hk5 := hk9.out.fresh hG5.keepsO (fun b hb => .inr (by have h2 := hO1.out.ge b (by simpa using hb); have h5 := hB.out; omega)); have hA5 := (hG5.keepsO.block B (lt_of_blk hA9.out) (fun hb => by have h2 := hO1.out.ge B (by simpa using hb); omega)).trans hA9.out; rw [← hst.out] at hO5; replace hO5 := Lib.hid hO5; replace hk5 := Lib.hid hk5; replace hA5 := Lib.hid hA5; clear hG5)
                  | fail)
                go_roundw
                case rel => exact ⟨k + 1, rfl, by omega, hO5, hA5, hk5⟩
                case measure => simp [intOf]; omega
              | false =>
                have hT : anT a = hd ++ J := by rw [hta2, if_neg (by decide), if_neg (by decide), hho, hJE2]; simp only [List.append_assoc]
                replace hT := Lib.hid hT
                clear hta2 hho hJE2
                have hv : Value.string ({ data := hd.toArray } ++ { data := J.toArray }) = bstr (anT a) := by
                  rw [hT.out]
                  show Value.string ({ data := hd.toArray } ++ { data := J.toArray }) = _
                  rw [bs_add]
                  rfl
                replace hv := Lib.hid hv
                have hmade := Lib.hid (Sh.R.made shS wc [anT a] #[Value.string ({ data := hd.toArray } ++ { data := J.toArray })] 9 (by show [Value.string ({ data := hd.toArray } ++ { data := J.toArray })] = [bstr _]; rw [hv.out]) (by simp [maxLen]) 1 rfl)
                have hkr1 := hkc5.out.alloc (.cells #[Value.string ({ data := hd.toArray } ++ { data := J.toArray })] 9)
                have hO1 := Lib.hid (hO.out.keeps hkr1)
                have hk9 := Lib.hid (hkw.out.trans hkr1)
                have hA9 := Lib.hid ((hkr1.block _ (lt_of_blk hAk.out) (by simp)).trans hAk.out)
                have hs9 : B + 1 ≤ (wc.alloc (.cells #[Value.string ({ data := hd.toArray } ++ { data := J.toArray })] 9)).heap.size := by have h1 := lt_of_blk hA9.out; omega
                clear hkr1
                go_wp2_with (first
                  | (at_builtin; (refine Sh.wpl_app shS (B + 1) infoStr rfl Tryz.underlying40 (.slice oa (k + 1) oc) (.slice (some ⟨wc.heap.size, 0, none⟩) 1 1) ([h0] ++ (c.an.take k).map anT) [anT a] rfl _ _ rfl rfl rfl ?hA ?hB ?hC ?hD ?_); (case hA => exact hO1.out); (case hB => exact hmade.out); (case hC => rw [hLk.out]; simp only [List.length_singleton]; omega); (case hD => exact hs9); intro v5 w5 hO5 hG5; have hk5 := hk9.out.fresh hG5.keepsO (fun b hb => .inr (by have h2 := hO1.out.ge b (by simpa using hb); have h5 := hB.out; omega)); have hA5 := (hG5.keepsO.block B (lt_of_blk hA9.out) (fun hb => by have h2 := hO1.out.ge B (by simpa using hb); omega)).trans hA9.out; rw [← hst.out] at hO5; replace hO5 := Lib.hid hO5; replace hk5 := Lib.hid hk5; replace hA5 := Lib.hid hA5; clear hG5)
                  | fail)
                go_roundw
                case rel => exact ⟨k + 1, rfl, by omega, hO5, hA5, hk5⟩
                case measure => simp [intOf]; omega
      · have hlt2 : ¬ ((k : Int) < x6) := by omega
        have hlt3 : decide ((k : Int) < (x6 : Int)) = false := by simp; omega
        have hkN : k = c.an.length := by have := e1.out; omega
        have e : [h0] ++ (c.an.take k).map anT = [h0] ++ c.an.map anT := by rw [hkN, List.take_length]
        rw [e] at hO
        replace hkN := Lib.hid hkN
        replace e := Lib.hid e
        have hcs := Lib.hid (hcS.out wr hkw.out)
        obtain ⟨i0, i1, i2, i3, i4, i5, i6, if', il⟩ := cl7 hAk.out
        go_wp2_with fail
        refine hcs.out.mono ?_
        rintro e w2 ⟨v2, rfl, hR2, _, hk2⟩
        obtain ⟨sa, sc, rfl, hs1', hs2', _⟩ := hR2.form
        have hn64 : W64 ((scL c.an).length : Int) := w64_iff.2 ⟨by omega, by unfold maxLen at hs2'; omega⟩
        have hsm : (scL c.an).length ≤ 9223372036854775807 := by unfold maxLen at hs2'; omega
        have hci := decimal_c w2 ((scL c.an).length : Int) hn64
        have hcl := itoa_len ((scL c.an).length : Int) hn64
        have hen : enT (scL c.an).length = wCo ++ Lib.itoa ((scL c.an).length : Int) ++ wSc := rfl
        obtain ⟨t9, z9⟩ : ∃ t, Lib.itoa ((scL c.an).length : Int) = t := ⟨_, rfl⟩
        rw [z9] at hci hcl hen
        obtain ⟨M9, hM9⟩ : ∃ M, (scL c.an).length = M := ⟨_, rfl⟩
        rw [hM9] at hci hsm hen ⊢
        have hfin : fmT c = ([h0] ++ c.an.map anT) ++ [enT M9] := by rw [hfm.out, ← hM9, ← eh0.out, him.out, his.out, hs0.out, hs1.out]
        have hq1 : ¬ 9223372036854775807 < 11 + t9.length := by omega
        have hq2 : ¬ 9223372036854775807 < 11 + t9.length + 7 := by omega
        replace hci := Lib.hid hci
        replace hfin := Lib.hid hfin
        replace hen := Lib.hid hen
        replace hM9 := Lib.hid hM9
        replace hk2 := Lib.hid hk2
        clear hR2 hcs z9 hs1' hs2' hn64 i0 i1 i2 i3 i4 i5 i6 if' il
        go_wp2_with fail
        refine hci.out.mono ?_
        rintro e w3 ⟨rfl, hk3⟩
        replace hk2 := Lib.hid (hk2.out.trans hk3)
        clear hk3 hci
        unfold bstr
        have hv : Value.string ({ data := #[99, 111, 110, 100, 101, 109, 110, 101, 100, 58, 32] } ++ { data := t9.toArray } ++ { data := #[32, 115, 99, 105, 111, 110, 115] }) = bstr (enT M9) := by
          rw [hen.out]
          show Value.string ({ data := wCo.toArray } ++ { data := t9.toArray } ++ { data := wSc.toArray }) = _
          rw [bs_add, bs_add]
          rfl
        replace hv := Lib.hid hv
        have hmade := Lib.hid (Sh.R.made shS w3 [enT M9] #[Value.string ({ data := #[99, 111, 110, 100, 101, 109, 110, 101, 100, 58, 32] } ++ { data := t9.toArray } ++ { data := #[32, 115, 99, 105, 111, 110, 115] })] 9 (by show [Value.string ({ data := #[99, 111, 110, 100, 101, 109, 110, 101, 100, 58, 32] } ++ { data := t9.toArray } ++ { data := #[32, 115, 99, 105, 111, 110, 115] })] = [bstr _]; rw [hv.out]) (by simp [maxLen]) 1 rfl)
        have hkr1 := hk2.out.alloc (.cells #[Value.string ({ data := #[99, 111, 110, 100, 101, 109, 110, 101, 100, 58, 32] } ++ { data := t9.toArray } ++ { data := #[32, 115, 99, 105, 111, 110, 115] })] 9)
        have hO1 := Lib.hid (hO.out.keeps hkr1)
        have hk9 := Lib.hid (hkw.out.trans hkr1)
        have hA9 := Lib.hid ((hkr1.block _ (lt_of_blk hAk.out) (by simp)).trans hAk.out)
        have hs9 : B + 1 ≤ (w3.alloc (.cells #[Value.string ({ data := #[99, 111, 110, 100, 101, 109, 110, 101, 100, 58, 32] } ++ { data := t9.toArray } ++ { data := #[32, 115, 99, 105, 111, 110, 115] })] 9)).heap.size := by have h1 := lt_of_blk hA9.out; omega
        have hLn : Hid (([h0] ++ c.an.map anT).length = k + 1) := Lib.hid (by rw [← e.out]; exact hLk.out)
        clear hkr1
        go_wp2_with (first
          | (at_builtin; (refine Sh.wpl_app shS (B + 1) infoStr rfl Tryz.underlying40 (.slice oa (k + 1) oc) (.slice (some ⟨w3.heap.size, 0, none⟩) 1 1) ([h0] ++ c.an.map anT) [enT M9] rfl _ _ rfl rfl rfl ?hA ?hB ?hC ?hD ?_); (case hA => exact hO1.out); (case hB => exact hmade.out); (case hC => rw [hLn.out]; simp only [List.length_singleton]; omega); (case hD => exact hs9); intro v5 w5 hO5 hG5; have hk5 := hk9.out.fresh hG5.keepsO (fun b hb => .inr (by have h2 := hO1.out.ge b (by simpa using hb); have h5 := hB.out; omega)); rw [← hfin.out, hfm.out] at hO5; replace hO5 := Lib.hid hO5; replace hk5 := Lib.hid hk5; clear hG5)
          | fail)
        go_ret
        exact ⟨_, rfl, by have h9 := hO5.out.r; rw [← him.out, ← his.out, ← hs0.out, ← hs1.out] at h9; exact h9, hk5.out⟩
  · have hwf' : wf c = false := by simpa using hwf
    have hfm : fmT c = [wNo] := by unfold fmT; rw [if_neg hwf]
    unfold FmPost
    rw [hfm]
    rw [hwf'] at hcF
    clear h hfit hf hft hfi hfs him his hs0 hs1 hfm hwf hwf' hcS
    go_enter Tryz.func14, Tryz.ntmps14
    go_upto_region 1 with fail
    generalize (w.alloc (.cells #[.int .i64 x0, .int .i64 x1, .int .i64 x2, .int .u64 x3, .int .i64 x4, .slice x5 x6 x7, .slice x8 x9 x10] tCt)) = W at *
    obtain ⟨B, hB⟩ : ∃ B, w.heap.size = B := ⟨_, rfl⟩
    rw [hB] at hA ⊢
    replace hB := Lib.hid hB
    have hcf := Lib.hid (hcF.out W hkA.out)
    obtain ⟨i0, i1, i2, i3, i4, i5, i6, if', il⟩ := cl7 hA.out
    go_wp2_with fail
    refine hcf.out.mono ?_
    rintro e w1 ⟨rfl, hk1⟩
    have hkw1 := Lib.hid (hkA.out.trans hk1)
    clear i0 i1 i2 i3 i4 i5 i6 if' il hk1 hcf hcF hA
    go_wp2
    go_ret
    exact ⟨_, rfl, Sh.R.made shS w1 [wNo] #[bstr wNo] 9 rfl (by simp [maxLen]) 1 rfl, hkw1.out.alloc _⟩
end Go.Proofs.YtiplgpefapeapaaGreatDoor

namespace Go.Proofs.YtiplgpefapeapaaGreatDoor
open Go.RowKit

def few0 (c : Ct) : Int := wrap64 ((c.an.length : Int) + c.cl.length)
def few1 (Y : List Ans) (z : Int) : Int := Y.foldl (fun z a => wrap64 (z + (a.ins.length : Nat))) z
def few2 (P : List PCl) (z : Int) : Int := P.foldl (fun z p => wrap64 (z + wrap64 (wrap64 ((p.st.length : Nat) + (p.sc.length : Nat)) + (p.ch.length : Nat)))) z
def fewV (c : Ct) : Bool := decide (few2 c.cl (few1 c.an (few0 c)) ≤ 100)
theorem few1_succ (Y : List Ans) (z : Int) (k : Nat) (h : k < Y.length) : few1 (Y.take (k + 1)) z = wrap64 (few1 (Y.take k) z + (Y[k].ins.length : Nat)) := by
  unfold few1
  rw [List.take_succ_eq_append_getElem h, List.foldl_append, List.foldl_cons, List.foldl_nil]
theorem few2_succ (P : List PCl) (z : Int) (k : Nat) (h : k < P.length) : few2 (P.take (k + 1)) z = wrap64 (few2 (P.take k) z + wrap64 (wrap64 ((P[k].st.length : Nat) + (P[k].sc.length : Nat)) + (P[k].ch.length : Nat))) := by
  unfold few2
  rw [List.take_succ_eq_append_getElem h, List.foldl_append, List.foldl_cons, List.foldl_nil]
theorem few1_zero (Y : List Ans) (z : Int) : few1 (Y.take 0) z = z := by unfold few1; rw [List.take_zero, List.foldl_nil]
theorem few2_zero (P : List PCl) (z : Int) : few2 (P.take 0) z = z := by unfold few2; rw [List.take_zero, List.foldl_nil]
set_option maxRecDepth 100000 in
set_option maxHeartbeats 4000000 in
theorem fewX_c (w : World) (x : CtV) (c : Ct) (h : CtW w x c) :
    Calls Tryz.prog 4 #[ctV x] w fun e w' => e = .returned (.bool (fewV c)) ∧ Keeps [] w w' := by
  obtain ⟨x0, x1, x2, x3, x4, ⟨x5, x6, x7⟩, ⟨x8, x9, x10⟩⟩ := x
  have han := h.an
  have hcl := h.cl
  simp only [slv] at han hcl
  obtain ⟨_, _, e1, hla, hca⟩ := han.form
  obtain ⟨_, _, e2, hlc, hcc⟩ := hcl.form
  simp only [Value.slice.injEq] at e1 e2
  obtain ⟨-, e1, -⟩ := e1
  obtain ⟨-, e2, -⟩ := e2
  rw [← e1] at hla
  rw [← e2] at hlc
  have hA := heap_alloc_new w (.cells #[.int .i64 x0, .int .i64 x1, .int .i64 x2, .int .u64 x3, .int .i64 x4, .slice x5 x6 x7, .slice x8 x9 x10] tCt)
  have hkA := (Keeps.refl [] w).alloc (.cells #[.int .i64 x0, .int .i64 x1, .int .i64 x2, .int .u64 x3, .int .i64 x4, .slice x5 x6 x7, .slice x8 x9 x10] tCt)
  have han1 := han.keeps hkA
  have hcl1 := hcl.keeps hkA
  obtain ⟨W, hW⟩ : ∃ W, w.alloc (.cells #[.int .i64 x0, .int .i64 x1, .int .i64 x2, .int .u64 x3, .int .i64 x4, .slice x5 x6 x7, .slice x8 x9 x10] tCt) = W := ⟨_, rfl⟩
  obtain ⟨B, hB⟩ : ∃ B, w.heap.size = B := ⟨_, rfl⟩
  have hx6m : x6 ≤ 9223372036854775807 := by unfold maxLen at hca; omega
  have hx9m : x9 ≤ 9223372036854775807 := by unfold maxLen at hcc; omega
  obtain ⟨z0, hz0⟩ : ∃ z, wrap64 ((x6 : Int) + x9) = z := ⟨_, rfl⟩
  have hz0f : z0 = few0 c := by
    unfold few0
    rw [← hz0, e1, e2]
  rw [hW] at han1 hcl1 hA hkA
  rw [hB] at hA
  replace han1 := Lib.hid han1
  replace hcl1 := Lib.hid hcl1
  replace hkA := Lib.hid hkA
  replace hW := Lib.hid hW
  replace hB := Lib.hid hB
  replace e1 := Lib.hid e1
  replace e2 := Lib.hid e2
  replace hA := Lib.hid hA
  replace hz0 := Lib.hid hz0
  replace hz0f := Lib.hid hz0f
  clear h han hcl
  simp only [ctV, slv]
  go_enter Tryz.func4, Tryz.ntmps4
  go_upto_region 1 with fail
  rw [hW.out, hB.out]
  obtain ⟨i0, i1, i2, i3, i4, i5, i6, if', il⟩ := cl7 hA.out
  go_wp2
  simp only [hz0.out]
  go_loopw [3, 18] (fun n i wr => ∃ (k : Nat) (z : Int), n = .int .i64 z ∧ i = .int .i64 k ∧ k ≤ x6 ∧ Hid (z = few1 (c.an.take k) (few0 c)) ∧ Hid (Keeps [] W wr)) (fun _ i _ => x6 - (intOf i).toNat)
  case atStart => exact ⟨0, z0, rfl, rfl, by omega, Lib.hid (by rw [few1_zero]; exact hz0f.out), Lib.hid (Keeps.refl _ _)⟩
  case round =>
    clear i0 i1 i2 i3 i4 i5 i6 if' il
    obtain ⟨k, z, rfl, rfl, hk, hno, hkw⟩ := hrel
    by_cases hlt : k < x6
    · have hlt2 : (k : Int) < x6 := by omega
      have hkl : k < c.an.length := by rw [← e1.out]; exact hlt
      obtain ⟨g, o, c', x, hv, hx, he⟩ := (han1.out.keeps hkw.out).elem hkl
      rw [← e1.out] at hv
      cases hv
      obtain ⟨_, _, ev, _⟩ := hx.ins.form
      obtain ⟨y0, y1, y2, y3, y4, y5, y6, y7, y8, y9⟩ := x
      simp only [AnV.v, Value.slice.injEq] at ev
      obtain ⟨-, ev, -⟩ := ev
      have g0 := he 0 _ rfl
      have g1 := he 1 _ rfl
      have g2 := he 2 _ rfl
      have g3 := he 3 _ rfl
      have g4 := he 4 _ rfl
      have g5 := he 5 _ rfl
      have g6 := he 6 _ rfl
      have g7 := he 7 _ rfl
      simp only [AnV.v, Nat.add_zero] at g0 g1 g2 g3 g4 g5 g6 g7
      replace ev := Lib.hid ev
      have hkn := Lib.hid (hkw.out.trans ((Keeps.refl [] wr).alloc (.cells #[.int .i64 y0, .int .i64 y1, .int .u64 y2, .int .i64 y3, .bool y4, .bool y5, .int .i64 y6, .slice y7 y8 y9] tA)))
      have hno2 : Hid (wrap64 (z + y8) = few1 (c.an.take (k + 1)) (few0 c)) := Lib.hid (by
        rw [few1_succ _ _ _ hkl, hno.out, ev.out])
      clear he hx
      go_wp2
      go_roundw
      case rel => exact ⟨k + 1, _, rfl, rfl, by omega, hno2, hkn⟩
      case measure => simp [intOf]; omega
    · have hlt2 : ¬ ((k : Int) < x6) := by omega
      have hAr := (hkw.out.block _ (lt_of_blk hA.out) (by simp)).trans hA.out
      obtain ⟨i0, i1, i2, i3, i4, i5, i6, if', il⟩ := cl7 hAr
      have hno3 : Hid (z = few1 c.an (few0 c)) := Lib.hid (by
        have := hno.out
        have hkx : k = c.an.length := by have := e1.out; omega
        rw [hkx, List.take_length] at this
        exact this)
      clear hno
      go_wp2
      generalize wr = W2 at *
      go_loopw [3, 31] (fun n i wr => ∃ (k : Nat) (z : Int), n = .int .i64 z ∧ i = .int .i64 k ∧ k ≤ x9 ∧ Hid (z = few2 (c.cl.take k) (few1 c.an (few0 c))) ∧ Hid (Keeps [] W wr)) (fun _ i _ => x9 - (intOf i).toNat)
      case atStart => exact ⟨0, z, rfl, rfl, by omega, Lib.hid (by rw [few2_zero]; exact hno3.out), hkw⟩
      case round =>
        clear i0 i1 i2 i3 i4 i5 i6 if' il
        obtain ⟨k, z, rfl, rfl, hk, hnoc, hkw⟩ := hrel
        by_cases hlt : k < x9
        · have hlt2 : (k : Int) < x9 := by omega
          have hkl : k < c.cl.length := by rw [← e2.out]; exact hlt
          obtain ⟨g, o, c', x, hv, hx, g0, g1, g2, g3, g4⟩ := (hcl1.out.keeps hkw.out).elem hkl
          rw [← e2.out] at hv
          cases hv
          obtain ⟨_, _, ev1, _⟩ := hx.st.form
          obtain ⟨_, _, ev2, _⟩ := hx.sc.form
          obtain ⟨_, _, ev3, _⟩ := hx.ch.form
          obtain ⟨y0, y1, ⟨y2, y3, y4⟩, ⟨y5, y6, y7⟩, ⟨y8, y9, y10⟩⟩ := x
          simp only [slv, Value.slice.injEq] at ev1 ev2 ev3
          simp only [slv] at g0 g1 g2 g3 g4
          obtain ⟨-, ev1, -⟩ := ev1
          obtain ⟨-, ev2, -⟩ := ev2
          obtain ⟨-, ev3, -⟩ := ev3
          replace ev1 := Lib.hid ev1
          replace ev2 := Lib.hid ev2
          replace ev3 := Lib.hid ev3
          have hkn := Lib.hid (hkw.out.trans ((Keeps.refl [] wr).alloc (.cells #[.int .i64 y0, .int .i64 y1, .slice y2 y3 y4, .slice y5 y6 y7, .slice y8 y9 y10] tC)))
          have hno2 : Hid (wrap64 (z + wrap64 (wrap64 (y3 + y6) + y9)) = few2 (c.cl.take (k + 1)) (few1 c.an (few0 c))) := Lib.hid (by
            rw [few2_succ _ _ _ hkl, hnoc.out, ev1.out, ev2.out, ev3.out])
          clear hx
          go_wp2
          go_roundw
          case rel => exact ⟨k + 1, _, rfl, rfl, by omega, hno2, hkn⟩
          case measure => simp [intOf]; omega
        · have hlt2 : ¬ ((k : Int) < x9) := by omega
          have hend : Hid (decide (z ≤ 100) = fewV c) := Lib.hid (by
            have hn := hnoc.out
            have hkx : k = c.cl.length := by have := e2.out; omega
            rw [hkx, List.take_length] at hn
            unfold fewV
            rw [hn])
          go_wp2
          go_ret
          exact ⟨by rw [hend.out]; rfl, hkA.out.trans hkw.out⟩
end Go.Proofs.YtiplgpefapeapaaGreatDoor

namespace Go.Proofs.YtiplgpefapeapaaGreatDoor
open Go Go.RowKit

set_option maxRecDepth 100000 in
set_option maxHeartbeats 16000000 in
theorem lists_c (w : World) (x : CtV) (c : Ct) (h : CtW w x c) (hfit : c.Fit) (hfew : fewV c = true → c.Few) (ht : TabW w) :
    Calls Tryz.prog 3 #[ctV x] w fun e w' => e = .returned (.bool true) ∧ Keeps [] w w' := by
  have haw := fun W => awake_c W
  have hfx := fun W (hk : Keeps [] w W) => fewX_c W x c (h.keeps hk)
  have hsP := fun W (hk : Keeps [] w W) (hF : c.Few) => scionsP_c W x c (h.keeps hk) hfit.an hF
  have hsR := fun W (hk : Keeps [] w W) (hF : c.Few) => scionsR_c W x c.an (h.keeps hk).an (by have := hF.an; omega) hF.ins
  have hmP := fun W (hk : Keeps [] w W) (hF : c.Few) => machinesP_c W x c.an (h.keeps hk).an (by have := hF.an; omega)
  have hmR := fun W (hk : Keeps [] w W) (hF : c.Few) => machinesR_c W x c.an (h.keeps hk).an (by have := hF.an; omega)
  have hfP := fun W (hk : Keeps [] w W) (hF : c.Few) => formatP_c W x c (h.keeps hk) hfit.f0 hF (ht.keeps hk)
  have hfR := fun W (hk : Keeps [] w W) (hF : c.Few) => formatR_c W x c (h.keeps hk) hfit.f0 hF
  obtain ⟨x0, x1, x2, x3, x4, ⟨x5, x6, x7⟩, ⟨x8, x9, x10⟩⟩ := x
  have hkA := (Keeps.refl [] w).alloc (.cells #[.int .i64 x0, .int .i64 x1, .int .i64 x2, .int .u64 x3, .int .i64 x4, .slice x5 x6 x7, .slice x8 x9 x10] tCt)
  have hA := heap_alloc_new w (.cells #[.int .i64 x0, .int .i64 x1, .int .i64 x2, .int .u64 x3, .int .i64 x4, .slice x5 x6 x7, .slice x8 x9 x10] tCt)
  simp only [ctV, slv, macL_eq, MacPost, MachPost, ScPost, ScpPost, FmPost] at hfx hsP hsR hmP hmR hfP hfR ⊢
  obtain ⟨LS, hLS⟩ : ∃ l, scL c.an = l := ⟨_, rfl⟩
  obtain ⟨LM, hLM⟩ : ∃ l, mR c.an = l := ⟨_, rfl⟩
  obtain ⟨LF, hLF⟩ : ∃ l, fmT c = l := ⟨_, rfl⟩
  simp only [hLS, hLM, hLF] at hsP hsR hmP hmR hfP hfR
  replace haw := Lib.hid haw
  replace hfx := Lib.hid hfx
  replace hsP := Lib.hid hsP
  replace hsR := Lib.hid hsR
  replace hmP := Lib.hid hmP
  replace hmR := Lib.hid hmR
  replace hfP := Lib.hid hfP
  replace hfR := Lib.hid hfR
  replace hA := Lib.hid hA
  replace hkA := Lib.hid hkA
  clear h hLS hLM hLF ht hfit
  obtain ⟨fb, hfb⟩ : ∃ b, fewV c = b := ⟨_, rfl⟩
  simp only [hfb] at hfx hfew
  clear hfb
  go_enter Tryz.func3, Tryz.ntmps3
  go_upto_region 1 with fail
  generalize (w.alloc (.cells #[.int .i64 x0, .int .i64 x1, .int .i64 x2, .int .u64 x3, .int .i64 x4, .slice x5 x6 x7, .slice x8 x9 x10] tCt)) = W at *
  obtain ⟨X, hXX⟩ : ∃ B, w.heap.size = B := ⟨_, rfl⟩
  rw [hXX] at hA ⊢
  replace hXX := Lib.hid hXX
  obtain ⟨i0, i1, i2, i3, i4, i5, i6, if', il⟩ := cl7 hA.out
  go_wp2_with fail
  refine (hfx.out W hkA.out).mono ?_
  rintro e w1 ⟨rfl, k1⟩
  have hk1 := Lib.hid (hkA.out.trans k1)
  have hA1 := Lib.hid ((k1.block _ (lt_of_blk hA.out) (by simp)).trans hA.out)
  clear k1 hA hkA hfx i0 i1 i2 i3 i4 i5 i6 if' il
  cases fb with
  | false =>
    go_wp2_with fail
    refine (haw.out _).mono ?_
    rintro e w2 ⟨rfl, k2⟩
    have hk2 := Lib.hid (hk1.out.trans k2)
    clear k2
    go_wp2
    go_ret
    exact ⟨rfl, hk2.out⟩
  | true =>
    have hF : Hid (c.Few) := Lib.hid (hfew rfl)
    clear hfew
    obtain ⟨i0, i1, i2, i3, i4, i5, i6, if', il⟩ := cl7 hA1.out
    go_upto_region 3 with fail
    refine Free.wp_region_chain (fun i => i == 1 || i == 3 || i == 4 || i == 7 || i == 9 || i == 10 || i == 14 || i == 16 || i == 17 || i == 20) (fun i => true) (fun _ _ => False) (by kernel_rfl) (by kernel_rfl) (by kernel_rfl) ?_
    have hk2 := Lib.hid hk1.out.drew
    (repeat (first | (apply Free.cw_pureW rfl rfl; (intro w'; go_simp <;> exact rfl); go_frame) | (apply Free.cw_steadyW rfl rfl rfl; (intro w' hS; have q0 := Free.sx_cell hS i0 (fun _ _ hT => hT); have q1 := Free.sx_cell hS i1 (fun _ _ hT => hT); have q2 := Free.sx_cell hS i2 (fun _ _ hT => hT); have q3 := Free.sx_cell hS i3 (fun _ _ hT => hT); have q4 := Free.sx_cell hS i4 (fun _ _ hT => hT); have q5 := Free.sx_cell hS i5 (fun _ _ hT => hT); have q6 := Free.sx_cell hS i6 (fun _ _ hT => hT); go_simp <;> exact rfl); go_frame) | (refine Free.cw_skip rfl ?_; go_frame)))
    refine Free.cw_loudW rfl rfl (fun K hK => ?_)
    go_wp2_with fail
    refine (hsP.out _ hk2.out hF.out).mono ?_
    rintro e w3 ⟨v1, rfl, hR1, k1⟩
    refine hK _ _ rfl (Free.KeepsP.of k1 (by simp)) ?_
    clear hK K
    have hk3 := Lib.hid (hk2.out.trans k1)
    replace hR1 := Lib.hid hR1
    clear k1 hk2 hsP
    (repeat (first | (apply Free.cw_pureW rfl rfl; (intro w'; go_simp <;> exact rfl); go_frame) | (apply Free.cw_steadyW rfl rfl rfl; (intro w' hS; have q0 := Free.sx_cell hS i0 (fun _ _ hT => hT); have q1 := Free.sx_cell hS i1 (fun _ _ hT => hT); have q2 := Free.sx_cell hS i2 (fun _ _ hT => hT); have q3 := Free.sx_cell hS i3 (fun _ _ hT => hT); have q4 := Free.sx_cell hS i4 (fun _ _ hT => hT); have q5 := Free.sx_cell hS i5 (fun _ _ hT => hT); have q6 := Free.sx_cell hS i6 (fun _ _ hT => hT); go_simp <;> exact rfl); go_frame) | (refine Free.cw_skip rfl ?_; go_frame)))
    refine Free.cw_loudW rfl rfl (fun K hK => ?_)
    go_wp2_with fail
    refine (hsR.out _ hk3.out hF.out).mono ?_
    rintro e w4 ⟨v2, rfl, hR2, _, k1⟩
    refine hK _ _ rfl (Free.KeepsP.of k1 (by simp)) ?_
    clear hK K
    replace hR1 := Lib.hid (hR1.out.keeps k1)
    have hk4 := Lib.hid (hk3.out.trans k1)
    replace hR2 := Lib.hid hR2
    clear k1 hk3 hsR
    have hsm := Lib.hid (sameInset_c w4 v1 v2 LS LS hR1.out hR2.out)
    (repeat (first | (apply Free.cw_pureW rfl rfl; (intro w'; go_simp <;> exact rfl); go_frame) | (apply Free.cw_steadyW rfl rfl rfl; (intro w' hS; have q0 := Free.sx_cell hS i0 (fun _ _ hT => hT); have q1 := Free.sx_cell hS i1 (fun _ _ hT => hT); have q2 := Free.sx_cell hS i2 (fun _ _ hT => hT); have q3 := Free.sx_cell hS i3 (fun _ _ hT => hT); have q4 := Free.sx_cell hS i4 (fun _ _ hT => hT); have q5 := Free.sx_cell hS i5 (fun _ _ hT => hT); have q6 := Free.sx_cell hS i6 (fun _ _ hT => hT); go_simp <;> exact rfl); go_frame) | (refine Free.cw_skip rfl ?_; go_frame)))
    refine Free.cw_loudW rfl rfl (fun K hK => ?_)
    go_wp2_with fail
    refine (hsm.out).mono ?_
    rintro e w5 ⟨rfl, k1⟩
    refine hK _ _ rfl (Free.KeepsP.of k1 (by simp)) ?_
    clear hK K
    have hk5 := Lib.hid (hk4.out.trans k1)
    clear k1 hk4 hsm hR1 hR2
    simp only [decide_true]
    (repeat (first | (apply Free.cw_pureW rfl rfl; (intro w'; go_simp <;> exact rfl); go_frame) | (apply Free.cw_steadyW rfl rfl rfl; (intro w' hS; have q0 := Free.sx_cell hS i0 (fun _ _ hT => hT); have q1 := Free.sx_cell hS i1 (fun _ _ hT => hT); have q2 := Free.sx_cell hS i2 (fun _ _ hT => hT); have q3 := Free.sx_cell hS i3 (fun _ _ hT => hT); have q4 := Free.sx_cell hS i4 (fun _ _ hT => hT); have q5 := Free.sx_cell hS i5 (fun _ _ hT => hT); have q6 := Free.sx_cell hS i6 (fun _ _ hT => hT); go_simp <;> exact rfl); go_frame) | (refine Free.cw_skip rfl ?_; go_frame)))
    refine Free.cw_loudW rfl rfl (fun K hK => ?_)
    go_wp2_with fail
    refine (hmP.out _ hk5.out hF.out).mono ?_
    rintro e w6 ⟨v3, rfl, hR1, k1⟩
    refine hK _ _ rfl (Free.KeepsP.of k1 (by simp)) ?_
    clear hK K
    have hk6 := Lib.hid (hk5.out.trans k1)
    replace hR1 := Lib.hid hR1
    clear k1 hk5 hmP
    (repeat (first | (apply Free.cw_pureW rfl rfl; (intro w'; go_simp <;> exact rfl); go_frame) | (apply Free.cw_steadyW rfl rfl rfl; (intro w' hS; have q0 := Free.sx_cell hS i0 (fun _ _ hT => hT); have q1 := Free.sx_cell hS i1 (fun _ _ hT => hT); have q2 := Free.sx_cell hS i2 (fun _ _ hT => hT); have q3 := Free.sx_cell hS i3 (fun _ _ hT => hT); have q4 := Free.sx_cell hS i4 (fun _ _ hT => hT); have q5 := Free.sx_cell hS i5 (fun _ _ hT => hT); have q6 := Free.sx_cell hS i6 (fun _ _ hT => hT); go_simp <;> exact rfl); go_frame) | (refine Free.cw_skip rfl ?_; go_frame)))
    refine Free.cw_loudW rfl rfl (fun K hK => ?_)
    go_wp2_with fail
    refine (hmR.out _ hk6.out hF.out).mono ?_
    rintro e w7 ⟨v4, rfl, hR2, _, k1⟩
    refine hK _ _ rfl (Free.KeepsP.of k1 (by simp)) ?_
    clear hK K
    replace hR1 := Lib.hid (hR1.out.keeps k1)
    have hk7 := Lib.hid (hk6.out.trans k1)
    replace hR2 := Lib.hid hR2
    clear k1 hk6 hmR
    have hsm := Lib.hid (same08_c w7 v3 v4 LM LM hR1.out hR2.out)
    (repeat (first | (apply Free.cw_pureW rfl rfl; (intro w'; go_simp <;> exact rfl); go_frame) | (apply Free.cw_steadyW rfl rfl rfl; (intro w' hS; have q0 := Free.sx_cell hS i0 (fun _ _ hT => hT); have q1 := Free.sx_cell hS i1 (fun _ _ hT => hT); have q2 := Free.sx_cell hS i2 (fun _ _ hT => hT); have q3 := Free.sx_cell hS i3 (fun _ _ hT => hT); have q4 := Free.sx_cell hS i4 (fun _ _ hT => hT); have q5 := Free.sx_cell hS i5 (fun _ _ hT => hT); have q6 := Free.sx_cell hS i6 (fun _ _ hT => hT); go_simp <;> exact rfl); go_frame) | (refine Free.cw_skip rfl ?_; go_frame)))
    refine Free.cw_loudW rfl rfl (fun K hK => ?_)
    go_wp2_with fail
    refine (hsm.out).mono ?_
    rintro e w8 ⟨rfl, k1⟩
    refine hK _ _ rfl (Free.KeepsP.of k1 (by simp)) ?_
    clear hK K
    have hk8 := Lib.hid (hk7.out.trans k1)
    clear k1 hk7 hsm hR1 hR2
    simp only [decide_true]
    (repeat (first | (apply Free.cw_pureW rfl rfl; (intro w'; go_simp <;> exact rfl); go_frame) | (apply Free.cw_steadyW rfl rfl rfl; (intro w' hS; have q0 := Free.sx_cell hS i0 (fun _ _ hT => hT); have q1 := Free.sx_cell hS i1 (fun _ _ hT => hT); have q2 := Free.sx_cell hS i2 (fun _ _ hT => hT); have q3 := Free.sx_cell hS i3 (fun _ _ hT => hT); have q4 := Free.sx_cell hS i4 (fun _ _ hT => hT); have q5 := Free.sx_cell hS i5 (fun _ _ hT => hT); have q6 := Free.sx_cell hS i6 (fun _ _ hT => hT); go_simp <;> exact rfl); go_frame) | (refine Free.cw_skip rfl ?_; go_frame)))
    refine Free.cw_loudW rfl rfl (fun K hK => ?_)
    go_wp2_with fail
    refine (hfP.out _ hk8.out hF.out).mono ?_
    rintro e w9 ⟨v5, rfl, hR1, k1⟩
    refine hK _ _ rfl (Free.KeepsP.of k1 (by simp)) ?_
    clear hK K
    have hk9 := Lib.hid (hk8.out.trans k1)
    replace hR1 := Lib.hid hR1
    clear k1 hk8 hfP
    (repeat (first | (apply Free.cw_pureW rfl rfl; (intro w'; go_simp <;> exact rfl); go_frame) | (apply Free.cw_steadyW rfl rfl rfl; (intro w' hS; have q0 := Free.sx_cell hS i0 (fun _ _ hT => hT); have q1 := Free.sx_cell hS i1 (fun _ _ hT => hT); have q2 := Free.sx_cell hS i2 (fun _ _ hT => hT); have q3 := Free.sx_cell hS i3 (fun _ _ hT => hT); have q4 := Free.sx_cell hS i4 (fun _ _ hT => hT); have q5 := Free.sx_cell hS i5 (fun _ _ hT => hT); have q6 := Free.sx_cell hS i6 (fun _ _ hT => hT); go_simp <;> exact rfl); go_frame) | (refine Free.cw_skip rfl ?_; go_frame)))
    refine Free.cw_loudW rfl rfl (fun K hK => ?_)
    go_wp2_with fail
    refine (hfR.out _ hk9.out hF.out).mono ?_
    rintro e w10 ⟨v6, rfl, hR2, k1⟩
    refine hK _ _ rfl (Free.KeepsP.of k1 (by simp)) ?_
    clear hK K
    replace hR1 := Lib.hid (hR1.out.keeps k1)
    have hk10 := Lib.hid (hk9.out.trans k1)
    replace hR2 := Lib.hid hR2
    clear k1 hk9 hfR
    have hsm := Lib.hid (sameLines_c w10 v5 v6 LF LF hR1.out hR2.out)
    (repeat (first | (apply Free.cw_pureW rfl rfl; (intro w'; go_simp <;> exact rfl); go_frame) | (apply Free.cw_steadyW rfl rfl rfl; (intro w' hS; have q0 := Free.sx_cell hS i0 (fun _ _ hT => hT); have q1 := Free.sx_cell hS i1 (fun _ _ hT => hT); have q2 := Free.sx_cell hS i2 (fun _ _ hT => hT); have q3 := Free.sx_cell hS i3 (fun _ _ hT => hT); have q4 := Free.sx_cell hS i4 (fun _ _ hT => hT); have q5 := Free.sx_cell hS i5 (fun _ _ hT => hT); have q6 := Free.sx_cell hS i6 (fun _ _ hT => hT); go_simp <;> exact rfl); go_frame) | (refine Free.cw_skip rfl ?_; go_frame)))
    refine Free.cw_loudW rfl rfl (fun K hK => ?_)
    go_wp2_with fail
    refine (hsm.out).mono ?_
    rintro e w11 ⟨rfl, k1⟩
    refine hK _ _ rfl (Free.KeepsP.of k1 (by simp)) ?_
    clear hK K
    have hk11 := Lib.hid (hk10.out.trans k1)
    clear k1 hk10 hsm hR1 hR2
    simp only [decide_true]
    (repeat (first | (apply Free.cw_pureW rfl rfl; (intro w'; go_simp <;> exact rfl); go_frame) | (apply Free.cw_steadyW rfl rfl rfl; (intro w' hS; have q0 := Free.sx_cell hS i0 (fun _ _ hT => hT); have q1 := Free.sx_cell hS i1 (fun _ _ hT => hT); have q2 := Free.sx_cell hS i2 (fun _ _ hT => hT); have q3 := Free.sx_cell hS i3 (fun _ _ hT => hT); have q4 := Free.sx_cell hS i4 (fun _ _ hT => hT); have q5 := Free.sx_cell hS i5 (fun _ _ hT => hT); have q6 := Free.sx_cell hS i6 (fun _ _ hT => hT); go_simp <;> exact rfl); go_frame) | (refine Free.cw_skip rfl ?_; go_frame)))
    refine Free.cw_loudW rfl rfl (fun K hK => ?_)
    go_wp2_with fail
    refine (haw.out _).mono ?_
    rintro e w12 ⟨rfl, k1⟩
    refine hK _ _ rfl (Free.KeepsP.of k1 (by simp)) ?_
    clear hK K
    have hk12 := Lib.hid (hk11.out.trans k1)
    clear k1 hk11 haw
    (repeat (first | (apply Free.cw_pureW rfl rfl; (intro w'; go_simp <;> exact rfl); go_frame) | (apply Free.cw_steadyW rfl rfl rfl; (intro w' hS; have q0 := Free.sx_cell hS i0 (fun _ _ hT => hT); have q1 := Free.sx_cell hS i1 (fun _ _ hT => hT); have q2 := Free.sx_cell hS i2 (fun _ _ hT => hT); have q3 := Free.sx_cell hS i3 (fun _ _ hT => hT); have q4 := Free.sx_cell hS i4 (fun _ _ hT => hT); have q5 := Free.sx_cell hS i5 (fun _ _ hT => hT); have q6 := Free.sx_cell hS i6 (fun _ _ hT => hT); go_simp <;> exact rfl); go_frame) | (refine Free.cw_skip rfl ?_; go_frame)))
    refine Free.cw_nil ?_
    go_wp2
    go_ret
    exact ⟨rfl, hk12.out⟩
end Go.Proofs.YtiplgpefapeapaaGreatDoor

namespace Go.Proofs.YtiplgpefapeapaaGreatDoor
namespace Gen
open Go Go.ChangeShapes Go.WideShapes Go.ChangeAt Go.RowKit

theorem bulk_one {H : Type} (d : DataW H) : 1 ≤ Rows.uptoBulk d := by
  cases d with
  | lit l => cases l <;> simp [Rows.uptoBulk]
  | nil => simp [Rows.uptoBulk]
  | ptr d => simp [Rows.uptoBulk]
  | slice elems spare => simp [Rows.uptoBulk]
  | agg parts => simp [Rows.uptoBulk]
  | iface t d => simp [Rows.uptoBulk]
  | map entries => simp [Rows.uptoBulk]
  | held h => simp [Rows.uptoBulk]
theorem bulk_part {H : Type} {d : DataW H} {l : List (DataW H)} (h : d ∈ l) : Rows.uptoBulk d ≤ Rows.uptoBulkAll l := by
  induction l with
  | nil => cases h
  | cons x r ih =>
    simp only [Rows.uptoBulkAll]
    rcases List.mem_cons.1 h with e | e
    · subst e; omega
    · have := ih e; omega
theorem bulk_len {H : Type} (l : List (DataW H)) : l.length ≤ Rows.uptoBulkAll l := by
  induction l with
  | nil => simp [Rows.uptoBulkAll]
  | cons x r ih => have := bulk_one x; simp only [Rows.uptoBulkAll, List.length_cons]; omega
/-- The cells `cs` are data of type `t`, of bulk at most `N`. -/
def CsB (P : Program) (w : World) (t : TypeId) (cs : List Value) (N : Nat) : Prop :=
  ∃ (H : Type) (enc : TypeId × Value → H) (fuel : Nat) (x : DataW H × List MemPlace), DataW.trod enc P w 0 (fun _ => true) true fuel t cs = some x ∧ Rows.uptoBulk x.1 ≤ N
variable {P : Program} {w : World}
theorem CsB.of_agg {H : Type} {enc : TypeId × Value → H} {t : TypeId} {v : Value} {d : DataW H} {ps : List MemPlace} {N : Nat} (h : DataW.Trod enc P w 0 (fun _ => true) true t v d ps) (hN : Rows.uptoBulk d ≤ N) : CsB P w t v.cells.toList N := by
  obtain ⟨fuel, hf⟩ := h
  exact ⟨H, enc, fuel, _, hf, hN⟩
theorem CsB.struct {t : TypeId} {fs : Array Field} (ht : P.underlying t = some (.struct fs)) {cs : List Value} {N : Nat} (h : CsB P w t cs N) : cs.length = P.cellsOf t ∧ ∀ (i : Nat) (f : Field), fs[i]? = some f → CsB P w f.type ((cs.drop f.offset).take (P.cellsOf f.type)) N := by
  obtain ⟨H, enc, fuel, x, hf, hN⟩ := h
  obtain ⟨xs, n, _, ex, hl, hx, hall⟩ := DataW.trod_struct ht hf
  refine ⟨hl, fun i f hi => ?_⟩
  have h1 := hall i f hi
  have hlt : i < xs.length := by rw [hx]; exact (Array.getElem?_eq_some_iff.1 hi).1
  rw [List.getElem?_eq_getElem hlt] at h1
  refine ⟨H, enc, n, _, h1, ?_⟩
  have h2 := bulk_part (d := xs[i].1) (l := xs.map (·.1)) (List.mem_map.2 ⟨xs[i], List.getElem_mem hlt, rfl⟩)
  rw [ex] at hN
  simp only [Rows.uptoBulk] at hN
  omega
theorem CsB.slice {t e : TypeId} {sz : Nat} (ht : P.underlying t = some (.slice e)) (hsz : P.cellsOf e = sz) (hpos : 0 < sz) {cs : List Value} {N : Nat} (h : CsB P w t cs N) :
    ∃ v n es, cs = [v] ∧ Sl w sz v n es ∧ n ≤ N ∧ ∀ k, k < n → CsB P w e ((es.drop (k * sz)).take sz) N := by
  obtain ⟨H, enc, fuel, x, hf, hN⟩ := h
  subst hsz
  rcases Go.Deep.open_slice ht hf with ⟨rfl, _⟩ | ⟨a, len, cap, m, n, D, Pl, rfl, _, hl, hm, hmm, ex, hx⟩
  · exact ⟨_, 0, [], rfl, Sl.nil _ _, by simp, fun k hk => by omega⟩
  · simp only [if_true] at hmm
    subst hmm
    have hlN : len ≤ N := by
      have h1 := bulk_len ((List.range len).map D)
      rw [ex] at hN
      simp only [Rows.uptoBulk, List.length_map, List.length_range] at hN h1
      omega
    have hDN : ∀ k, k < len → Rows.uptoBulk (D k) ≤ N := fun k hk => by
      have h1 := bulk_part (d := D k) (l := (List.range len).map D) (List.mem_map.2 ⟨k, List.mem_range.2 hk, rfl⟩)
      rw [ex] at hN
      simp only [Rows.uptoBulk] at hN
      omega
    obtain ⟨V, hV⟩ := Go.Deep.choose_lt (α := List Value) (p := fun i v => w.cells? 0 (a.add (i * P.cellsOf e)) (P.cellsOf e) = some v ∧ DataW.trod enc P w 0 (fun _ => true) true n e v = some (D i, Pl i)) hx
    have hVl : ∀ i, i < m → (V i).length = P.cellsOf e := fun i hi => (World.cells?_some (hV i hi).1).2.1
    have hchunk : ∀ (n : Nat), n ≤ m → ((List.range n).flatMap V).length = n * P.cellsOf e ∧ ∀ k, k < n → (((List.range n).flatMap V).drop (k * P.cellsOf e)).take (P.cellsOf e) = V k := by
      intro n
      induction n with
      | zero => exact fun _ => ⟨by simp, fun k hk => by omega⟩
      | succ n ih =>
        intro hn
        obtain ⟨h1, h2⟩ := ih (by omega)
        rw [List.range_succ, List.flatMap_append]
        simp only [List.flatMap_cons, List.flatMap_nil, List.append_nil]
        refine ⟨by rw [List.length_append, h1, hVl n (by omega)]; rw [Nat.add_mul, Nat.one_mul], fun k hk => ?_⟩
        rcases Nat.lt_succ_iff_lt_or_eq.1 hk with hkn | rfl
        · have hk2 : k * P.cellsOf e + P.cellsOf e ≤ n * P.cellsOf e := by rw [← Nat.succ_mul]; exact Nat.mul_le_mul_right _ hkn
          rw [List.drop_append_of_le_length (by omega), List.take_append_of_le_length (by rw [List.length_drop]; omega)]
          exact h2 k hkn
        · rw [List.drop_append, h1, List.drop_of_length_le (by omega)]
          simp only [Nat.sub_self, List.drop_zero, List.nil_append]
          exact List.take_of_length_le (by rw [hVl _ (by omega)]; exact Nat.le_refl _)
    obtain ⟨hl1, hl2⟩ := hchunk len hl
    refine ⟨_, len, (List.range len).flatMap V, rfl, ⟨hl1, some a, m, rfl, hl, hm, by simp, fun hp => ?_⟩, hlN, fun k hk => ?_⟩
    · obtain ⟨b, off, spot⟩ := a
      have hlen0 : 0 < len := by
        rcases Nat.eq_zero_or_pos len with e | e
        · subst e; simp at hp
        · exact e
      have hspot : spot = none := by
        have h0 := (World.cells?_some (hV 0 (by omega)).1).2.2 0 (by omega)
        rw [List.getElem?_eq_getElem (by rw [hVl 0 (by omega)]; omega)] at h0
        have := World.cell?_spot h0
        simpa [Addr.add] using this
      subst hspot
      refine ⟨b, off, rfl, fun j u hj => ?_⟩
      have hjl : j < len * P.cellsOf e := by rw [← hl1]; exact (List.getElem?_eq_some_iff.1 hj).1
      have hi : j / P.cellsOf e < len := (Nat.div_lt_iff_lt_mul hpos).2 hjl
      have hr : j % P.cellsOf e < P.cellsOf e := Nat.mod_lt _ hpos
      have hdm : j / P.cellsOf e * P.cellsOf e + j % P.cellsOf e = j := by rw [Nat.mul_comm]; exact Nat.div_add_mod _ _
      have hc := (World.cells?_some (hV (j / P.cellsOf e) (by omega)).1).2.2 (j % P.cellsOf e) hr
      have hvk := hl2 _ hi
      have e2 : (V (j / P.cellsOf e))[j % P.cellsOf e]? = some u := by
        rw [← hvk, List.getElem?_take_of_lt hr, List.getElem?_drop, hdm]; exact hj
      rw [add_plain, add_plain, Nat.add_assoc, hdm, e2] at hc
      exact hc
    · rw [hl2 k hk]
      exact ⟨H, enc, n, _, (hV k (by omega)).2, hDN k hk⟩
end Gen
open Go Go.RowKit
/-- Two readings of one slice are of one length. -/
theorem sl_len {w : World} {sz sz' : Nat} {v : Value} {n m : Nat} {cs ds : List Value} (h : Sl w sz v n cs) (k : Sl w sz' v m ds) : n = m := by
  obtain ⟨_, a, c, e, _⟩ := h
  obtain ⟨_, a', c', e', _⟩ := k
  rw [e] at e'; cases e'; rfl
/-- The element's cell. -/
theorem sl_at {w : World} {sz : Nat} {n c g o : Nat} {es : List Value} (h : Sl w sz (.slice (some ⟨g, o, none⟩) n c) n es) {k j : Nat} (hk : k < n) (hj : j < sz) {u : Value} (hu : w.cell? ⟨g, o + (k * sz + j), none⟩ = some u) : ((es.drop (k * sz)).take sz)[j]? = some u := by
  obtain ⟨hl, a, c', e, _, _, _, hc⟩ := h
  cases e
  have h1 : k * sz + j < n * sz := by
    have : k * sz + sz ≤ n * sz := by rw [← Nat.succ_mul]; exact Nat.mul_le_mul_right _ hk
    omega
  obtain ⟨g', o', e2, hc⟩ := hc (by omega)
  cases e2
  rw [List.getElem?_take_of_lt hj, List.getElem?_drop]
  have hlt : k * sz + j < es.length := by omega
  have h2 := hc (k * sz + j) es[k * sz + j] (List.getElem?_eq_getElem hlt)
  rw [hu] at h2
  cases h2
  exact List.getElem?_eq_getElem hlt
theorem drop_take1 {l : List Value} {j : Nat} {u : Value} (h : l[j]? = some u) : (l.drop j).take 1 = [u] := by
  have hlt := (List.getElem?_eq_some_iff.1 h).1
  rw [List.drop_eq_getElem_cons hlt]
  have := (List.getElem?_eq_some_iff.1 h).2
  simp [this]
theorem bd_needs {w : World} {v : Value} {L : List T3} {N : Nat} {t : TypeId} {e : TypeId} (ht : Tryz.prog.underlying t = some (.slice e)) (he : Tryz.prog.cellsOf e = 3) (h : Gen.CsB Tryz.prog w t [v] N) (hR : shT.R w v L) : L.length ≤ N := by
  obtain ⟨v', n, es, e1, hs, hn, _⟩ := Gen.CsB.slice ht he (by decide) h
  simp only [List.cons.injEq, and_true] at e1
  subst e1
  have := sl_len hs hR
  omega
set_option maxRecDepth 100000 in
set_option maxHeartbeats 1000000 in
theorem bd_answers {w : World} {v : Value} {Y : List Ans} {N : Nat} (h : Gen.CsB Tryz.prog w 27 [v] N) (hR : RdA w v Y) : Y.length ≤ N ∧ ∀ a ∈ Y, a.ins.length ≤ N := by
  obtain ⟨v', n, es, e1, hs, hn, hx⟩ := Gen.CsB.slice Tryz.underlying27 (show Tryz.prog.cellsOf tA = 8 by kernel_rfl) (by decide) h
  simp only [List.cons.injEq, and_true] at e1
  subst e1
  obtain ⟨X, h1, h2⟩ := id hR
  have hnY : n = Y.length := by have := sl_len hs h1; have := h2.1; omega
  refine ⟨by omega, fun a ha => ?_⟩
  obtain ⟨k, hk, rfl⟩ := List.mem_iff_getElem.1 ha
  obtain ⟨g, o, c, x, rfl, hIn, hcell⟩ := hR.elem hk
  have h7 := hcell 7 _ rfl
  rw [← hnY] at hs
  have hat := sl_at hs (k := k) (j := 7) (by omega) (by decide) (by rw [← Nat.add_assoc]; exact h7)
  obtain ⟨_, hall⟩ := Gen.CsB.struct Tryz.underlying43 (hx k (by omega))
  have h8 := hall 7 _ rfl
  replace h8 : Gen.CsB Tryz.prog w 34 ((((es.drop (k * 8)).take 8).drop 7).take (Tryz.prog.cellsOf 34)) N := h8
  rw [show Tryz.prog.cellsOf 34 = 1 by kernel_rfl, drop_take1 hat] at h8
  exact bd_needs Tryz.underlying34 (by kernel_rfl) h8 hIn.ins
set_option maxRecDepth 100000 in
set_option maxHeartbeats 1000000 in
theorem bd_claims {w : World} {v : Value} {P : List PCl} {N : Nat} (h : Gen.CsB Tryz.prog w 28 [v] N) (hR : LC w v P) : P.length ≤ N ∧ ∀ p ∈ P, p.st.length ≤ N ∧ p.sc.length ≤ N ∧ p.ch.length ≤ N := by
  obtain ⟨v', n, es, e1, hs, hn, hx⟩ := Gen.CsB.slice Tryz.underlying28 (show Tryz.prog.cellsOf tC = 5 by kernel_rfl) (by decide) h
  simp only [List.cons.injEq, and_true] at e1
  subst e1
  obtain ⟨X, h1, h2, _⟩ := id hR
  have hnY : n = P.length := by have := sl_len hs h1; omega
  refine ⟨by omega, fun a ha => ?_⟩
  obtain ⟨k, hk, rfl⟩ := List.mem_iff_getElem.1 ha
  obtain ⟨g, o, c, x, rfl, hIn, _, _, c2, c3, c4⟩ := hR.elem hk
  rw [← hnY] at hs
  obtain ⟨_, hall⟩ := Gen.CsB.struct Tryz.underlying46 (hx k (by omega))
  have d2 := sl_at hs (k := k) (j := 2) (by omega) (by decide) (by rw [← Nat.add_assoc]; exact c2)
  have d3 := sl_at hs (k := k) (j := 3) (by omega) (by decide) (by rw [← Nat.add_assoc]; exact c3)
  have d4 := sl_at hs (k := k) (j := 4) (by omega) (by decide) (by rw [← Nat.add_assoc]; exact c4)
  have g2 := hall 2 _ rfl
  have g3 := hall 3 _ rfl
  have g4 := hall 4 _ rfl
  replace g2 : Gen.CsB Tryz.prog w 44 ((((es.drop (k * 5)).take 5).drop 2).take (Tryz.prog.cellsOf 44)) N := g2
  replace g3 : Gen.CsB Tryz.prog w 44 ((((es.drop (k * 5)).take 5).drop 3).take (Tryz.prog.cellsOf 44)) N := g3
  replace g4 : Gen.CsB Tryz.prog w 44 ((((es.drop (k * 5)).take 5).drop 4).take (Tryz.prog.cellsOf 44)) N := g4
  rw [show Tryz.prog.cellsOf 44 = 1 by kernel_rfl] at g2 g3 g4
  rw [drop_take1 d2] at g2
  rw [drop_take1 d3] at g3
  rw [drop_take1 d4] at g4
  exact ⟨bd_needs Tryz.underlying44 (by kernel_rfl) g2 hIn.st, bd_needs Tryz.underlying44 (by kernel_rfl) g3 hIn.sc, bd_needs Tryz.underlying44 (by kernel_rfl) g4 hIn.ch⟩
/-- No list is longer than `N`. -/
structure Ct.BdN (c : Ct) (N : Nat) : Prop where
  an : c.an.length ≤ N
  cl : c.cl.length ≤ N
  ins : ∀ a ∈ c.an, a.ins.length ≤ N
  ns : ∀ p ∈ c.cl, p.st.length ≤ N ∧ p.sc.length ≤ N ∧ p.ch.length ≤ N
set_option maxRecDepth 100000 in
set_option maxHeartbeats 1000000 in
theorem cert_bulk {H : Type} {enc : TypeId × Value → H} {W : World} {x : CtV} {c : Ct} {d : DataW H} {ps : List MemPlace} {N : Nat} (h : DataW.Trod enc Tryz.prog W 0 (fun _ => true) true tCt (ctV x) d ps) (hN : Rows.uptoBulk d ≤ N) (hw : CtW W x c) : c.BdN N := by
  obtain ⟨_, hall⟩ := Gen.CsB.struct Tryz.underlying30 (Gen.CsB.of_agg h hN)
  have h2 := hall 2 _ rfl
  have h3 := hall 3 _ rfl
  replace h2 : Gen.CsB Tryz.prog W 27 (((ctV x).cells.toList.drop 5).take (Tryz.prog.cellsOf 27)) N := h2
  replace h3 : Gen.CsB Tryz.prog W 28 (((ctV x).cells.toList.drop 6).take (Tryz.prog.cellsOf 28)) N := h3
  rw [show Tryz.prog.cellsOf 27 = 1 by kernel_rfl, show ((ctV x).cells.toList.drop 5).take 1 = [slv x.va] from rfl] at h2
  rw [show Tryz.prog.cellsOf 28 = 1 by kernel_rfl, show ((ctV x).cells.toList.drop 6).take 1 = [slv x.vc] from rfl] at h3
  obtain ⟨a1, a2⟩ := bd_answers h2 hw.an
  obtain ⟨b1, b2⟩ := bd_claims h3 hw.cl
  exact ⟨a1, b1, a2, b2⟩

theorem few1_eqN : ∀ (Y : List Ans) (z : Int), 0 ≤ z → z + (Y.length * 1048576 : Nat) ≤ 9000000000000000000 → (∀ a ∈ Y, a.ins.length ≤ 1048576) → few1 Y z = z + ((Y.map (fun a => a.ins.length)).sum : Nat) ∧ (Y.map (fun a => a.ins.length)).sum ≤ Y.length * 1048576
  | [], z, _, _, _ => by simp [few1]
  | a :: Y, z, h0, h1, h => by
    have ha := h a (by simp)
    simp only [List.length_cons] at h1
    have e : few1 (a :: Y) z = few1 Y (wrap64 (z + (a.ins.length : Nat))) := rfl
    rw [e, IntWalk.wrap64_in _ (by omega)]
    obtain ⟨i1, i2⟩ := few1_eqN Y (z + (a.ins.length : Nat)) (by omega) (by omega) (fun b hb => h b (by simp [hb]))
    rw [i1]
    simp only [List.map_cons, List.sum_cons, List.length_cons]
    omega
theorem few2_eqN : ∀ (P : List PCl) (z : Int), 0 ≤ z → z + (P.length * 3145728 : Nat) ≤ 9000000000000000000 → (∀ p ∈ P, p.st.length ≤ 1048576 ∧ p.sc.length ≤ 1048576 ∧ p.ch.length ≤ 1048576) → few2 P z = z + ((P.map PCl.size).sum : Nat) ∧ (P.map PCl.size).sum ≤ P.length * 3145728
  | [], z, _, _, _ => by simp [few2]
  | p :: P, z, h0, h1, h => by
    obtain ⟨h2, h3, h4⟩ := h p (by simp)
    simp only [List.length_cons] at h1
    have e : few2 (p :: P) z = few2 P (wrap64 (z + wrap64 (wrap64 ((p.st.length : Nat) + (p.sc.length : Nat)) + (p.ch.length : Nat)))) := rfl
    have hs : PCl.size p = p.st.length + p.sc.length + p.ch.length := rfl
    rw [e, IntWalk.wrap64_in ((p.st.length : Int) + (p.sc.length : Nat)) (by omega), IntWalk.wrap64_in ((p.st.length : Int) + (p.sc.length : Nat) + (p.ch.length : Nat)) (by omega), IntWalk.wrap64_in _ (by omega)]
    obtain ⟨i1, i2⟩ := few2_eqN P (z + ((p.st.length : Int) + (p.sc.length : Nat) + (p.ch.length : Nat))) (by omega) (by omega) (fun b hb => h b (by simp [hb]))
    rw [i1]
    simp only [List.map_cons, List.sum_cons, List.length_cons]
    omega
theorem fewV_eqN {c : Ct} (h : c.BdN 1048576) : fewV c = decide (c.size ≤ 100) := by
  have h1 := h.an
  have h2 := h.cl
  have h0 : few0 c = ((c.an.length + c.cl.length : Nat) : Int) := by unfold few0; rw [IntWalk.wrap64_in _ (by omega)]; omega
  obtain ⟨i1, i2⟩ := few1_eqN c.an (few0 c) (by rw [h0]; omega) (by rw [h0]; omega) h.ins
  obtain ⟨j1, j2⟩ := few2_eqN c.cl (few1 c.an (few0 c)) (by rw [i1, h0]; omega) (by rw [i1, h0]; omega) h.ns
  unfold fewV
  rw [j1, i1, h0, decide_eq_decide]
  unfold Ct.size
  omega
theorem few_ofN {c : Ct} (h : c.BdN 1048576) (hf : fewV c = true) : c.Few := few_of (by rw [fewV_eqN h] at hf; simpa using hf)
end Go.Proofs.YtiplgpefapeapaaGreatDoor
