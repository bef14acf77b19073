/- Texts that the laws lean on, in the order in which they build. The specification's identities and numbers: written. (Printed by mkscrn.py.) The specification of scion tables: Encode. (Printed by mkscer.py.) The law Encoding, walked. (Printed by mkscen.py.) The operations among a law's arguments, opened. (Printed by mkscop.py.) The reference's reading of a number. The reference's reader: Uint. The reference's reader in whatever state: Uint, Bool, Count, Done. The specification's reader: identities, small numbers. (Printed by mkscrr.py.) The two Decodes of a table are alike: plain. (Printed by mkscdq.py.) -/
import Derived.Test.YtblaaafpglomnaaGreatK8
set_option linter.unusedVariables false
set_option linter.unusedSimpArgs false
namespace Go.Proofs.YtblaaafpglomnaaGreat
open Go Go.RowKit

theorem refU_n (w : World) (v0 : Value) (l : List UInt8) (n : Nat) (h : SlB w v0 l) (hn : n < 18446744073709551616) (hl : l.length ≤ 140737488355000) :
    Calls Tryz.prog 45 #[v0, .int .u64 n] w fun e w' => ∃ v', e = .returned v' ∧ SlB w' v' (l ++ encU n) ∧ Keeps [] w w' :=
  (refU_c w v0 l n h hn hl).mono fun _ _ ⟨v, e, hB, hk⟩ => ⟨v, e, hB.slB, hk⟩
theorem refU_i (w : World) (v0 : Value) (l : List UInt8) (n : Int) (h0 : 0 ≤ n) (hn : n < 18446744073709551616) (h : SlB w v0 l) (hl : l.length ≤ 140737488355000) :
    Calls Tryz.prog 45 #[v0, .int .u64 n] w fun e w' => ∃ v', e = .returned v' ∧ SlB w' v' (l ++ encU n.toNat) ∧ Keeps [] w w' := by
  have h1 := refU_n w v0 l n.toNat h (by omega) hl
  rw [show ((n.toNat : Nat) : Int) = n by omega] at h1
  exact h1
set_option maxRecDepth 100000 in
set_option maxHeartbeats 2000000 in
theorem refI_c (w : World) (v0 : Value) (l : List UInt8) (m s : Int) (hm : 0 ≤ m ∧ m < 9223372036854775808) (hs : 0 ≤ s ∧ s < 9223372036854775808) (h : SlB w v0 l) (hl : l.length ≤ 140737488354000) :
    Calls Tryz.prog 46 #[v0, idV m s] w fun e w' => ∃ v', e = .returned v' ∧ SlB w' v' (l ++ encU m.toNat ++ encU s.toNat) ∧ Keeps [] w w' := by
  obtain ⟨a0, c0, rfl⟩ := h.form
  have hkA : Keeps [] w (w.alloc (.cells #[.int .i64 m, .int .i64 s] tID)) := (Keeps.refl _ _).alloc _
  have hbA := heap_alloc_new w (.cells #[.int .i64 m, .int .i64 s] tID)
  have hwm : IntKind.u64.wrap m = m := by rw [IntKind.wrap_u64]; omega
  have hws : IntKind.u64.wrap s = s := by rw [IntKind.wrap_u64]; omega
  obtain ⟨q0, q1, _⟩ := cells2 hbA
  have h1 := h.keeps (hkA.drew)
  obtain ⟨N, hN⟩ : ∃ N, l.length = N := ⟨_, rfl⟩
  rw [hN] at h1 hl ⊢
  replace hN := Lib.hid hN
  replace h1 := Lib.hid h1
  replace hkA := Lib.hid hkA
  clear h hbA
  go_enter Tryz.func46, Tryz.ntmps46
  go_wp2
  generalize hWA : w.alloc (.cells #[.int .i64 m, .int .i64 s] tID) = WA at *
  clear hWA
  refine Free.wp_region_chain (fun i => i == 4 || i == 8) (fun i => true) (fun _ _ => False) (by kernel_rfl) (by kernel_rfl) (by kernel_rfl) ?_
  (repeat (first | (apply Free.cw_pure rfl rfl; (intro w'; go_simp <;> exact rfl); go_frame) | (apply Free.cw_steady rfl rfl rfl; (intro w' hS; have q0 := Free.sx_cell hS q0 (fun _ _ hT => hT); have q1 := Free.sx_cell hS q1 (fun _ _ hT => hT); go_simp <;> exact rfl); go_frame) | (refine Free.cw_skip rfl ?_; go_frame)))
  refine Free.cw_loud rfl rfl (fun K hK => ?_)
  go_wp2_with fail
  refine (refU_i WA.drew _ l m hm.1 (by omega) h1.out (by rw [hN.out]; omega)).mono ?_
  rintro e w1 ⟨v1, rfl, hB1, hk1⟩
  refine hK _ _ rfl (Free.KeepsP.of hk1 (by simp)) ?_
  clear hK K
  obtain ⟨a1, c1, rfl⟩ := hB1.form
  obtain ⟨D1, hD1⟩ : ∃ x, l ++ encU m.toNat = x := ⟨_, rfl⟩
  have hl1 : D1.length ≤ N + 9 := by rw [← hD1, List.length_append, hN.out]; have := encU_len (n := m.toNat) (by omega); omega
  rw [hD1] at hB1 ⊢
  have hk01 := Lib.hid (hkA.out.drew.trans hk1)
  replace hB1 := Lib.hid hB1
  replace hD1 := Lib.hid hD1
  clear hk1
  (repeat (first | (apply Free.cw_pure rfl rfl; (intro w'; go_simp <;> exact rfl); go_frame) | (apply Free.cw_steady rfl rfl rfl; (intro w' hS; have q0 := Free.sx_cell hS q0 (fun _ _ hT => hT); have q1 := Free.sx_cell hS q1 (fun _ _ hT => hT); go_simp <;> exact rfl); go_frame) | (refine Free.cw_skip rfl ?_; go_frame)))
  refine Free.cw_loud rfl rfl (fun K hK => ?_)
  go_wp2_with fail
  refine (refU_i w1 _ D1 s hs.1 (by omega) hB1.out (by omega)).mono ?_
  rintro e w2 ⟨v2, rfl, hB2, hk2⟩
  refine hK _ _ rfl (Free.KeepsP.of hk2 (by simp)) ?_
  clear hK K
  (repeat (apply Free.cw_pure rfl rfl; (intro w'; go_simp <;> exact rfl); go_frame))
  refine Free.cw_nil ?_
  go_wp2
  go_ret
  exact ⟨_, rfl, by rw [hD1.out]; exact hB2, hk01.out.trans hk2⟩
end Go.Proofs.YtblaaafpglomnaaGreat

namespace Go.Proofs.YtblaaafpglomnaaGreat
open Go Go.RowKit

set_option maxRecDepth 100000 in
set_option maxHeartbeats 10000000 in
theorem encodeR_c (w : World) (v : Value) (T : List Rw) (h : shR.R w v T) (g : Good T) :
    Calls Tryz.prog 14 #[tbV v] w fun e w' => ∃ v', e = .returned v' ∧ SlB w' v' (encS T) ∧ Keeps [] w w' := by
  obtain ⟨a, cp, rfl, hlc, hcm, _⟩ := h.form
  have hlen := g.len
  obtain ⟨M, hM⟩ : ∃ M, T.length = M := ⟨_, rfl⟩
  rw [hM] at hlen hlc h ⊢
  have hkA : Keeps [] w (w.alloc (.cells #[.slice a M cp] tTb)) := (Keeps.refl _ _).alloc _
  have hbX := heap_alloc_new w (.cells #[.slice a M cp] tTb)
  have hwM : IntKind.u64.wrap (M : Int) = M := by rw [IntKind.wrap_u64]; omega
  obtain ⟨X, hX⟩ : ∃ X, w.heap.size = X := ⟨_, rfl⟩
  rw [hX] at hbX
  replace hM := Lib.hid hM
  replace h := Lib.hid h
  replace g := Lib.hid g
  replace hkA := Lib.hid hkA
  replace hbX := Lib.hid hbX
  simp only [tbV]
  go_enter Tryz.func14, Tryz.ntmps14
  go_wp2_with fail
  refine (refU_n _ (.slice none 0 0) [] M (SlB.nil _) (by omega) (by simp)).mono ?_
  rintro e w1 ⟨v1, rfl, hB, hk1⟩
  rw [List.nil_append] at hB
  obtain ⟨a1, c1, rfl⟩ := hB.form
  have hl0 := encU_len (n := M) (by omega)
  obtain ⟨E0, hE0⟩ : ∃ x, encU M = x := ⟨_, rfl⟩
  rw [hE0] at hB hl0 ⊢
  have hk01 := Lib.hid (hkA.out.trans hk1)
  have hbX1 := Lib.hid ((hk1.block X (lt_of_blk hbX.out) (by simp)).trans hbX.out)
  replace hE0 := Lib.hid hE0
  replace hB := Lib.hid hB
  clear hk1 hkA hbX
  go_wp2
  go_loopw [3, 4] (fun bv iv wr => ∃ k : Nat, iv = .int .i64 k ∧ k ≤ M ∧ SlB wr bv (E0 ++ encL (T.take k)) ∧ Hid (Keeps [] w wr) ∧ Hid (wr.heap[X]? = some (.cells #[.slice a M cp] tTb (0, 0)))) (fun _ iv _ => M - (intOf iv).toNat)
  case atStart => exact ⟨0, rfl, by omega, by simpa [encL] using hB.out, hk01, hbX1⟩
  case round =>
    obtain ⟨k, rfl, hk, hBr, hkw, hbXr⟩ := hrel
    obtain ⟨a0, c0, rfl⟩ := hBr.form
    by_cases hlt2 : k < M
    · have hkT : k < T.length := by rw [hM.out]; exact hlt2
      have hlt3 : (k : Int) < M := by omega
      obtain ⟨g0, o0, c', hv, he⟩ := (h.out.keeps hkw.out).elem hkT
      rw [hM.out] at hv
      cases hv
      obtain ⟨⟨⟨rcl, rn, rim, ris, ro, ri, rd, rtc, rwk, rgb, rlm, rls⟩, rh⟩, hr⟩ : ∃ r, T[k] = r := ⟨_, rfl⟩
      rw [hr] at he
      have hmem : ((⟨rcl, rn, rim, ris, ro, ri, rd, rtc, rwk, rgb, rlm, rls⟩, rh) : Rw) ∈ T := hr ▸ List.getElem_mem hkT
      obtain ⟨gcl, hnn, gim, gis, go, gi, gd, glm, gls, gh⟩ := g.out.num hmem
      simp only at gcl hnn gim gis go gi gd glm gls gh
      have e0 := he 0 _ rfl
      have e1 := he 1 _ rfl
      have e2 := he 2 _ rfl
      have e3 := he 3 _ rfl
      have e4 := he 4 _ rfl
      have e5 := he 5 _ rfl
      have e6 := he 6 _ rfl
      have e7 := he 7 _ rfl
      have e8 := he 8 _ rfl
      have e9 := he 9 _ rfl
      have e10 := he 10 _ rfl
      have e11 := he 11 _ rfl
      have e12 := he 12 _ rfl
      simp only [shR, rwCs, Nat.add_zero] at e0 e1 e2 e3 e4 e5 e6 e7 e8 e9 e10 e11 e12
      have hgl := lt_of_cell e12
      have hw0 : IntKind.u64.wrap rcl = rcl := by rw [IntKind.wrap_u64]; omega
      have hw1 : IntKind.u64.wrap ro = ro := by rw [IntKind.wrap_u64]; omega
      have hw2 : IntKind.u64.wrap ri = ri := by rw [IntKind.wrap_u64]; omega
      have hw3 : IntKind.u64.wrap rd = rd := by rw [IntKind.wrap_u64]; omega
      have hw4 : IntKind.u64.wrap rh = rh := by rw [IntKind.wrap_u64]; omega
      have hst : encL (T.take (k + 1)) = encL (T.take k) ++ encR (⟨rcl, rn, rim, ris, ro, ri, rd, rtc, rwk, rgb, rlm, rls⟩, rh) := by
        rw [List.take_succ_eq_append_getElem hkT, encL_snoc, hr]
      have hlD : (E0 ++ encL (T.take k)).length ≤ 9 + 100 * k := by
        have h1 := encL_len (S := T.take k) (fun r hr => g.out.num (List.mem_of_mem_take hr))
        rw [List.length_append]
        simp at h1
        omega
      obtain ⟨D0, hD0⟩ : ∃ x, E0 ++ encL (T.take k) = x := ⟨_, rfl⟩
      rw [hD0] at hBr hlD ⊢
      have hkA : Keeps [] wr (wr.alloc (.cells #[.int .i64 rcl, .int .u64 rn, .int .i64 rim, .int .i64 ris, .int .i64 ro, .int .i64 ri, .int .i64 rd, .bool rtc, .bool rwk, .bool rgb, .int .i64 rlm, .int .i64 rls] tE)) := (Keeps.refl _ _).alloc _
      have hbZ := heap_alloc_new wr (.cells #[.int .i64 rcl, .int .u64 rn, .int .i64 rim, .int .i64 ris, .int .i64 ro, .int .i64 ri, .int .i64 rd, .bool rtc, .bool rwk, .bool rgb, .int .i64 rlm, .int .i64 rls] tE)
      have hbX := Lib.hid ((hkA.block X (lt_of_blk hbXr.out) (by simp)).trans hbXr.out)
      have hS0 := Lib.hid (hBr.keeps hkA)
      have e12b := hkA.val e12
      have hkz := Lib.hid (hkw.out.trans hkA)
      have b0 := cells1 hbXr.out
      obtain ⟨Z, hZ⟩ : ∃ Z, wr.heap.size = Z := ⟨_, rfl⟩
      rw [hZ] at hbZ
      replace hbZ := Lib.hid hbZ
      replace hr := Lib.hid hr
      replace hst := Lib.hid hst
      replace hD0 := Lib.hid hD0
      clear he hmem hBr hkA
      go_upto_region 6 with fail
      try rw [hZ]
      generalize hWA : wr.alloc (.cells #[.int .i64 rcl, .int .u64 rn, .int .i64 rim, .int .i64 ris, .int .i64 ro, .int .i64 ri, .int .i64 rd, .bool rtc, .bool rwk, .bool rgb, .int .i64 rlm, .int .i64 rls] tE) = W0 at *
      clear hWA e0 e1 e2 e3 e4 e5 e6 e7 e8 e9 e10 e11 e12 b0 hgl hbXr hkw
      have e12 := e12b
      have hgl := lt_of_cell e12
      clear e12b
      obtain ⟨n0, n1, n2, n3, n4, n5, n6, n7, n8, n9, n10, n11, _⟩ := cells12 hbZ.out
      have b0 := cells1 hbX.out
      go_wp2
      refine Free.wp_region_chain (fun i => i == 4 || i == 7 || i == 10) (fun i => true) (fun _ _ => False) (by kernel_rfl) (by kernel_rfl) (by kernel_rfl) ?_
      (repeat (first | (apply Free.cw_pure rfl rfl; (intro w'; go_simp <;> exact rfl); go_frame) | (apply Free.cw_steady rfl rfl rfl; (intro w' hS2; have z0 := Free.sx_cell hS2 n0 (fun _ _ hT => hT); have z1 := Free.sx_cell hS2 n1 (fun _ _ hT => hT); have z2 := Free.sx_cell hS2 n2 (fun _ _ hT => hT); have z3 := Free.sx_cell hS2 n3 (fun _ _ hT => hT); have z4 := Free.sx_cell hS2 n4 (fun _ _ hT => hT); have z5 := Free.sx_cell hS2 n5 (fun _ _ hT => hT); have z6 := Free.sx_cell hS2 n6 (fun _ _ hT => hT); have z7 := Free.sx_cell hS2 n7 (fun _ _ hT => hT); have z8 := Free.sx_cell hS2 n8 (fun _ _ hT => hT); have z9 := Free.sx_cell hS2 n9 (fun _ _ hT => hT); have z10 := Free.sx_cell hS2 n10 (fun _ _ hT => hT); have z11 := Free.sx_cell hS2 n11 (fun _ _ hT => hT); have z12 := Free.sx_cell hS2 b0 (fun _ _ hT => hT); have z13 := Free.sx_cell hS2 e12 (fun _ _ hT => hT); go_simp <;> exact rfl); go_frame)))
      refine Free.cw_loud rfl rfl (fun K hK => ?_)
      go_wp2_with fail
      refine (refU_i W0.drew _ D0 rcl (by omega) (by omega) (hS0.out.keeps (Keeps.refl [] _).drew) (by omega)).mono ?_
      rintro e V1 ⟨v1, rfl, hC, hk⟩
      refine hK _ _ rfl (Free.KeepsP.of hk (by simp)) ?_
      clear hK K
      obtain ⟨a1, c1, rfl⟩ := hC.form
      obtain ⟨D1, hD1⟩ : ∃ x, D0 ++ encU rcl.toNat = x := ⟨_, rfl⟩
      have hl1 : D1.length ≤ 9 + 100 * k + 18 := by rw [← hD1]; simp only [List.length_append]; have := encU_len (n := rcl.toNat) (by omega); omega
      rw [hD1] at hC ⊢
      have hS1 := Lib.hid hC
      replace hD1 := Lib.hid hD1
      have hkc1 := Lib.hid ((Keeps.refl [] W0).drew.trans hk)
      clear hC hk hS0
      (repeat (first | (apply Free.cw_pure rfl rfl; (intro w'; go_simp <;> exact rfl); go_frame) | (apply Free.cw_steady rfl rfl rfl; (intro w' hS2; have z0 := Free.sx_cell hS2 n0 (fun _ _ hT => hT); have z1 := Free.sx_cell hS2 n1 (fun _ _ hT => hT); have z2 := Free.sx_cell hS2 n2 (fun _ _ hT => hT); have z3 := Free.sx_cell hS2 n3 (fun _ _ hT => hT); have z4 := Free.sx_cell hS2 n4 (fun _ _ hT => hT); have z5 := Free.sx_cell hS2 n5 (fun _ _ hT => hT); have z6 := Free.sx_cell hS2 n6 (fun _ _ hT => hT); have z7 := Free.sx_cell hS2 n7 (fun _ _ hT => hT); have z8 := Free.sx_cell hS2 n8 (fun _ _ hT => hT); have z9 := Free.sx_cell hS2 n9 (fun _ _ hT => hT); have z10 := Free.sx_cell hS2 n10 (fun _ _ hT => hT); have z11 := Free.sx_cell hS2 n11 (fun _ _ hT => hT); have z12 := Free.sx_cell hS2 b0 (fun _ _ hT => hT); have z13 := Free.sx_cell hS2 e12 (fun _ _ hT => hT); go_simp <;> exact rfl); go_frame)))
      refine Free.cw_loud rfl rfl (fun K hK => ?_)
      go_wp2_with fail
      refine (refU_n V1 _ D1 rn hS1.out hnn (by omega)).mono ?_
      rintro e V2 ⟨v2, rfl, hC, hk⟩
      refine hK _ _ rfl (Free.KeepsP.of hk (by simp)) ?_
      clear hK K
      obtain ⟨a2, c2, rfl⟩ := hC.form
      obtain ⟨D2, hD2⟩ : ∃ x, D1 ++ encU rn = x := ⟨_, rfl⟩
      have hl2 : D2.length ≤ 9 + 100 * k + 27 := by rw [← hD2]; simp only [List.length_append]; have := encU_len (n := rn) (by omega); omega
      rw [hD2] at hC ⊢
      have hS2 := Lib.hid hC
      replace hD2 := Lib.hid hD2
      have hkc2 := Lib.hid (hkc1.out.trans hk)
      clear hC hk hS1
      (repeat (first | (apply Free.cw_pure rfl rfl; (intro w'; go_simp <;> exact rfl); go_frame) | (apply Free.cw_steady rfl rfl rfl; (intro w' hS2; have z0 := Free.sx_cell hS2 n0 (fun _ _ hT => hT); have z1 := Free.sx_cell hS2 n1 (fun _ _ hT => hT); have z2 := Free.sx_cell hS2 n2 (fun _ _ hT => hT); have z3 := Free.sx_cell hS2 n3 (fun _ _ hT => hT); have z4 := Free.sx_cell hS2 n4 (fun _ _ hT => hT); have z5 := Free.sx_cell hS2 n5 (fun _ _ hT => hT); have z6 := Free.sx_cell hS2 n6 (fun _ _ hT => hT); have z7 := Free.sx_cell hS2 n7 (fun _ _ hT => hT); have z8 := Free.sx_cell hS2 n8 (fun _ _ hT => hT); have z9 := Free.sx_cell hS2 n9 (fun _ _ hT => hT); have z10 := Free.sx_cell hS2 n10 (fun _ _ hT => hT); have z11 := Free.sx_cell hS2 n11 (fun _ _ hT => hT); have z12 := Free.sx_cell hS2 b0 (fun _ _ hT => hT); have z13 := Free.sx_cell hS2 e12 (fun _ _ hT => hT); go_simp <;> exact rfl); go_frame)))
      refine Free.cw_loud rfl rfl (fun K hK => ?_)
      go_wp2_with fail
      refine (refI_c V2 _ D2 rim ris (by omega) (by omega) hS2.out (by omega)).mono ?_
      rintro e V3 ⟨v3, rfl, hC, hk⟩
      refine hK _ _ rfl (Free.KeepsP.of hk (by simp)) ?_
      clear hK K
      obtain ⟨a3, c3, rfl⟩ := hC.form
      obtain ⟨D3, hD3⟩ : ∃ x, D2 ++ encU rim.toNat ++ encU ris.toNat = x := ⟨_, rfl⟩
      have hl3 : D3.length ≤ 9 + 100 * k + 45 := by rw [← hD3]; simp only [List.length_append]; have := encU_len (n := rim.toNat) (by omega); have := encU_len (n := ris.toNat) (by omega); omega
      rw [hD3] at hC ⊢
      have hS3 := Lib.hid hC
      replace hD3 := Lib.hid hD3
      have hkc3 := Lib.hid (hkc2.out.trans hk)
      clear hC hk hS2
      (repeat (first | (apply Free.cw_pure rfl rfl; (intro w'; go_simp <;> exact rfl); go_frame) | (apply Free.cw_steady rfl rfl rfl; (intro w' hS2; have z0 := Free.sx_cell hS2 n0 (fun _ _ hT => hT); have z1 := Free.sx_cell hS2 n1 (fun _ _ hT => hT); have z2 := Free.sx_cell hS2 n2 (fun _ _ hT => hT); have z3 := Free.sx_cell hS2 n3 (fun _ _ hT => hT); have z4 := Free.sx_cell hS2 n4 (fun _ _ hT => hT); have z5 := Free.sx_cell hS2 n5 (fun _ _ hT => hT); have z6 := Free.sx_cell hS2 n6 (fun _ _ hT => hT); have z7 := Free.sx_cell hS2 n7 (fun _ _ hT => hT); have z8 := Free.sx_cell hS2 n8 (fun _ _ hT => hT); have z9 := Free.sx_cell hS2 n9 (fun _ _ hT => hT); have z10 := Free.sx_cell hS2 n10 (fun _ _ hT => hT); have z11 := Free.sx_cell hS2 n11 (fun _ _ hT => hT); have z12 := Free.sx_cell hS2 b0 (fun _ _ hT => hT); have z13 := Free.sx_cell hS2 e12 (fun _ _ hT => hT); go_simp <;> exact rfl); go_frame)))
      refine Free.cw_nil ?_
      have hbZ_ := Lib.hid ((hkc3.out.block Z (lt_of_blk hbZ.out) (by simp)).trans hbZ.out)
      have hbX_ := Lib.hid ((hkc3.out.block X (lt_of_blk hbX.out) (by simp)).trans hbX.out)
      have e12_ := hkc3.out.val e12
      have hkz_ := Lib.hid (hkz.out.trans hkc3.out)
      clear hbZ hbX e12 hkz hgl n0 n1 n2 n3 n4 n5 n6 n7 n8 n9 n10 n11 b0 hkc3
      have hbZ := hbZ_
      have hbX := hbX_
      have e12 := e12_
      have hkz := hkz_
      have hgl := lt_of_cell e12
      clear hbZ_ hbX_ e12_ hkz_
      obtain ⟨n0, n1, n2, n3, n4, n5, n6, n7, n8, n9, n10, n11, _⟩ := cells12 hbZ.out
      have b0 := cells1 hbX.out
      go_wp2
      refine Free.wp_region_chain (fun i => i == 4 || i == 8 || i == 12) (fun i => true) (fun _ _ => False) (by kernel_rfl) (by kernel_rfl) (by kernel_rfl) ?_
      (repeat (first | (apply Free.cw_pure rfl rfl; (intro w'; go_simp <;> exact rfl); go_frame) | (apply Free.cw_steady rfl rfl rfl; (intro w' hS2; have z0 := Free.sx_cell hS2 n0 (fun _ _ hT => hT); have z1 := Free.sx_cell hS2 n1 (fun _ _ hT => hT); have z2 := Free.sx_cell hS2 n2 (fun _ _ hT => hT); have z3 := Free.sx_cell hS2 n3 (fun _ _ hT => hT); have z4 := Free.sx_cell hS2 n4 (fun _ _ hT => hT); have z5 := Free.sx_cell hS2 n5 (fun _ _ hT => hT); have z6 := Free.sx_cell hS2 n6 (fun _ _ hT => hT); have z7 := Free.sx_cell hS2 n7 (fun _ _ hT => hT); have z8 := Free.sx_cell hS2 n8 (fun _ _ hT => hT); have z9 := Free.sx_cell hS2 n9 (fun _ _ hT => hT); have z10 := Free.sx_cell hS2 n10 (fun _ _ hT => hT); have z11 := Free.sx_cell hS2 n11 (fun _ _ hT => hT); have z12 := Free.sx_cell hS2 b0 (fun _ _ hT => hT); have z13 := Free.sx_cell hS2 e12 (fun _ _ hT => hT); go_simp <;> exact rfl); go_frame)))
      refine Free.cw_loud rfl rfl (fun K hK => ?_)
      go_wp2_with fail
      refine (refU_i V3.drew _ D3 ro (by omega) (by omega) (hS3.out.keeps (Keeps.refl [] _).drew) (by omega)).mono ?_
      rintro e V4 ⟨v4, rfl, hC, hk⟩
      refine hK _ _ rfl (Free.KeepsP.of hk (by simp)) ?_
      clear hK K
      obtain ⟨a4, c4, rfl⟩ := hC.form
      obtain ⟨D4, hD4⟩ : ∃ x, D3 ++ encU ro.toNat = x := ⟨_, rfl⟩
      have hl4 : D4.length ≤ 9 + 100 * k + 54 := by rw [← hD4]; simp only [List.length_append]; have := encU_len (n := ro.toNat) (by omega); omega
      rw [hD4] at hC ⊢
      have hS4 := Lib.hid hC
      replace hD4 := Lib.hid hD4
      have hkc4 := Lib.hid ((Keeps.refl [] V3).drew.trans hk)
      clear hC hk hS3
      (repeat (first | (apply Free.cw_pure rfl rfl; (intro w'; go_simp <;> exact rfl); go_frame) | (apply Free.cw_steady rfl rfl rfl; (intro w' hS2; have z0 := Free.sx_cell hS2 n0 (fun _ _ hT => hT); have z1 := Free.sx_cell hS2 n1 (fun _ _ hT => hT); have z2 := Free.sx_cell hS2 n2 (fun _ _ hT => hT); have z3 := Free.sx_cell hS2 n3 (fun _ _ hT => hT); have z4 := Free.sx_cell hS2 n4 (fun _ _ hT => hT); have z5 := Free.sx_cell hS2 n5 (fun _ _ hT => hT); have z6 := Free.sx_cell hS2 n6 (fun _ _ hT => hT); have z7 := Free.sx_cell hS2 n7 (fun _ _ hT => hT); have z8 := Free.sx_cell hS2 n8 (fun _ _ hT => hT); have z9 := Free.sx_cell hS2 n9 (fun _ _ hT => hT); have z10 := Free.sx_cell hS2 n10 (fun _ _ hT => hT); have z11 := Free.sx_cell hS2 n11 (fun _ _ hT => hT); have z12 := Free.sx_cell hS2 b0 (fun _ _ hT => hT); have z13 := Free.sx_cell hS2 e12 (fun _ _ hT => hT); go_simp <;> exact rfl); go_frame)))
      refine Free.cw_loud rfl rfl (fun K hK => ?_)
      go_wp2_with fail
      refine (refU_i V4 _ D4 ri (by omega) (by omega) hS4.out (by omega)).mono ?_
      rintro e V5 ⟨v5, rfl, hC, hk⟩
      refine hK _ _ rfl (Free.KeepsP.of hk (by simp)) ?_
      clear hK K
      obtain ⟨a5, c5, rfl⟩ := hC.form
      obtain ⟨D5, hD5⟩ : ∃ x, D4 ++ encU ri.toNat = x := ⟨_, rfl⟩
      have hl5 : D5.length ≤ 9 + 100 * k + 63 := by rw [← hD5]; simp only [List.length_append]; have := encU_len (n := ri.toNat) (by omega); omega
      rw [hD5] at hC ⊢
      have hS5 := Lib.hid hC
      replace hD5 := Lib.hid hD5
      have hkc5 := Lib.hid (hkc4.out.trans hk)
      clear hC hk hS4
      (repeat (first | (apply Free.cw_pure rfl rfl; (intro w'; go_simp <;> exact rfl); go_frame) | (apply Free.cw_steady rfl rfl rfl; (intro w' hS2; have z0 := Free.sx_cell hS2 n0 (fun _ _ hT => hT); have z1 := Free.sx_cell hS2 n1 (fun _ _ hT => hT); have z2 := Free.sx_cell hS2 n2 (fun _ _ hT => hT); have z3 := Free.sx_cell hS2 n3 (fun _ _ hT => hT); have z4 := Free.sx_cell hS2 n4 (fun _ _ hT => hT); have z5 := Free.sx_cell hS2 n5 (fun _ _ hT => hT); have z6 := Free.sx_cell hS2 n6 (fun _ _ hT => hT); have z7 := Free.sx_cell hS2 n7 (fun _ _ hT => hT); have z8 := Free.sx_cell hS2 n8 (fun _ _ hT => hT); have z9 := Free.sx_cell hS2 n9 (fun _ _ hT => hT); have z10 := Free.sx_cell hS2 n10 (fun _ _ hT => hT); have z11 := Free.sx_cell hS2 n11 (fun _ _ hT => hT); have z12 := Free.sx_cell hS2 b0 (fun _ _ hT => hT); have z13 := Free.sx_cell hS2 e12 (fun _ _ hT => hT); go_simp <;> exact rfl); go_frame)))
      refine Free.cw_loud rfl rfl (fun K hK => ?_)
      go_wp2_with fail
      refine (refU_i V5 _ D5 rd (by omega) (by omega) hS5.out (by omega)).mono ?_
      rintro e V6 ⟨v6, rfl, hC, hk⟩
      refine hK _ _ rfl (Free.KeepsP.of hk (by simp)) ?_
      clear hK K
      obtain ⟨a6, c6, rfl⟩ := hC.form
      obtain ⟨D6, hD6⟩ : ∃ x, D5 ++ encU rd.toNat = x := ⟨_, rfl⟩
      have hl6 : D6.length ≤ 9 + 100 * k + 72 := by rw [← hD6]; simp only [List.length_append]; have := encU_len (n := rd.toNat) (by omega); omega
      rw [hD6] at hC ⊢
      have hS6 := Lib.hid hC
      replace hD6 := Lib.hid hD6
      have hkc6 := Lib.hid (hkc5.out.trans hk)
      clear hC hk hS5
      (repeat (first | (apply Free.cw_pure rfl rfl; (intro w'; go_simp <;> exact rfl); go_frame) | (apply Free.cw_steady rfl rfl rfl; (intro w' hS2; have z0 := Free.sx_cell hS2 n0 (fun _ _ hT => hT); have z1 := Free.sx_cell hS2 n1 (fun _ _ hT => hT); have z2 := Free.sx_cell hS2 n2 (fun _ _ hT => hT); have z3 := Free.sx_cell hS2 n3 (fun _ _ hT => hT); have z4 := Free.sx_cell hS2 n4 (fun _ _ hT => hT); have z5 := Free.sx_cell hS2 n5 (fun _ _ hT => hT); have z6 := Free.sx_cell hS2 n6 (fun _ _ hT => hT); have z7 := Free.sx_cell hS2 n7 (fun _ _ hT => hT); have z8 := Free.sx_cell hS2 n8 (fun _ _ hT => hT); have z9 := Free.sx_cell hS2 n9 (fun _ _ hT => hT); have z10 := Free.sx_cell hS2 n10 (fun _ _ hT => hT); have z11 := Free.sx_cell hS2 n11 (fun _ _ hT => hT); have z12 := Free.sx_cell hS2 b0 (fun _ _ hT => hT); have z13 := Free.sx_cell hS2 e12 (fun _ _ hT => hT); go_simp <;> exact rfl); go_frame)))
      refine Free.cw_nil ?_
      have hbZ_ := Lib.hid ((hkc6.out.block Z (lt_of_blk hbZ.out) (by simp)).trans hbZ.out)
      have hbX_ := Lib.hid ((hkc6.out.block X (lt_of_blk hbX.out) (by simp)).trans hbX.out)
      have e12_ := hkc6.out.val e12
      have hkz_ := Lib.hid (hkz.out.trans hkc6.out)
      clear hbZ hbX e12 hkz hgl n0 n1 n2 n3 n4 n5 n6 n7 n8 n9 n10 n11 b0 hkc6
      have hbZ := hbZ_
      have hbX := hbX_
      have e12 := e12_
      have hkz := hkz_
      have hgl := lt_of_cell e12
      clear hbZ_ hbX_ e12_ hkz_
      obtain ⟨n0, n1, n2, n3, n4, n5, n6, n7, n8, n9, n10, n11, _⟩ := cells12 hbZ.out
      have b0 := cells1 hbX.out
      go_wp2
      refine Free.wp_region_chain (fun i => i == 3 || i == 6 || i == 9) (fun i => true) (fun _ _ => False) (by kernel_rfl) (by kernel_rfl) (by kernel_rfl) ?_
      (repeat (first | (apply Free.cw_pure rfl rfl; (intro w'; go_simp <;> exact rfl); go_frame) | (apply Free.cw_steady rfl rfl rfl; (intro w' hS2; have z0 := Free.sx_cell hS2 n0 (fun _ _ hT => hT); have z1 := Free.sx_cell hS2 n1 (fun _ _ hT => hT); have z2 := Free.sx_cell hS2 n2 (fun _ _ hT => hT); have z3 := Free.sx_cell hS2 n3 (fun _ _ hT => hT); have z4 := Free.sx_cell hS2 n4 (fun _ _ hT => hT); have z5 := Free.sx_cell hS2 n5 (fun _ _ hT => hT); have z6 := Free.sx_cell hS2 n6 (fun _ _ hT => hT); have z7 := Free.sx_cell hS2 n7 (fun _ _ hT => hT); have z8 := Free.sx_cell hS2 n8 (fun _ _ hT => hT); have z9 := Free.sx_cell hS2 n9 (fun _ _ hT => hT); have z10 := Free.sx_cell hS2 n10 (fun _ _ hT => hT); have z11 := Free.sx_cell hS2 n11 (fun _ _ hT => hT); have z12 := Free.sx_cell hS2 b0 (fun _ _ hT => hT); have z13 := Free.sx_cell hS2 e12 (fun _ _ hT => hT); go_simp <;> exact rfl); go_frame)))
      refine Free.cw_loud rfl rfl (fun K hK => ?_)
      go_wp2_with fail
      refine (refB_c V6.drew _ D6 rtc (hS6.out.keeps (Keeps.refl [] _).drew) (by omega)).mono ?_
      rintro e V7 ⟨v7, rfl, hC, hk⟩
      refine hK _ _ rfl (Free.KeepsP.of hk (by simp)) ?_
      clear hK K
      obtain ⟨a7, c7, rfl⟩ := hC.form
      obtain ⟨D7, hD7⟩ : ∃ x, D6 ++ encB rtc = x := ⟨_, rfl⟩
      have hl7 : D7.length ≤ 9 + 100 * k + 73 := by rw [← hD7]; simp only [List.length_append]; simp only [encB, List.length_singleton]; omega
      rw [hD7] at hC ⊢
      have hS7 := Lib.hid hC
      replace hD7 := Lib.hid hD7
      have hkc7 := Lib.hid ((Keeps.refl [] V6).drew.trans hk)
      clear hC hk hS6
      (repeat (first | (apply Free.cw_pure rfl rfl; (intro w'; go_simp <;> exact rfl); go_frame) | (apply Free.cw_steady rfl rfl rfl; (intro w' hS2; have z0 := Free.sx_cell hS2 n0 (fun _ _ hT => hT); have z1 := Free.sx_cell hS2 n1 (fun _ _ hT => hT); have z2 := Free.sx_cell hS2 n2 (fun _ _ hT => hT); have z3 := Free.sx_cell hS2 n3 (fun _ _ hT => hT); have z4 := Free.sx_cell hS2 n4 (fun _ _ hT => hT); have z5 := Free.sx_cell hS2 n5 (fun _ _ hT => hT); have z6 := Free.sx_cell hS2 n6 (fun _ _ hT => hT); have z7 := Free.sx_cell hS2 n7 (fun _ _ hT => hT); have z8 := Free.sx_cell hS2 n8 (fun _ _ hT => hT); have z9 := Free.sx_cell hS2 n9 (fun _ _ hT => hT); have z10 := Free.sx_cell hS2 n10 (fun _ _ hT => hT); have z11 := Free.sx_cell hS2 n11 (fun _ _ hT => hT); have z12 := Free.sx_cell hS2 b0 (fun _ _ hT => hT); have z13 := Free.sx_cell hS2 e12 (fun _ _ hT => hT); go_simp <;> exact rfl); go_frame)))
      refine Free.cw_loud rfl rfl (fun K hK => ?_)
      go_wp2_with fail
      refine (refB_c V7 _ D7 rwk hS7.out (by omega)).mono ?_
      rintro e V8 ⟨v8, rfl, hC, hk⟩
      refine hK _ _ rfl (Free.KeepsP.of hk (by simp)) ?_
      clear hK K
      obtain ⟨a8, c8, rfl⟩ := hC.form
      obtain ⟨D8, hD8⟩ : ∃ x, D7 ++ encB rwk = x := ⟨_, rfl⟩
      have hl8 : D8.length ≤ 9 + 100 * k + 74 := by rw [← hD8]; simp only [List.length_append]; simp only [encB, List.length_singleton]; omega
      rw [hD8] at hC ⊢
      have hS8 := Lib.hid hC
      replace hD8 := Lib.hid hD8
      have hkc8 := Lib.hid (hkc7.out.trans hk)
      clear hC hk hS7
      (repeat (first | (apply Free.cw_pure rfl rfl; (intro w'; go_simp <;> exact rfl); go_frame) | (apply Free.cw_steady rfl rfl rfl; (intro w' hS2; have z0 := Free.sx_cell hS2 n0 (fun _ _ hT => hT); have z1 := Free.sx_cell hS2 n1 (fun _ _ hT => hT); have z2 := Free.sx_cell hS2 n2 (fun _ _ hT => hT); have z3 := Free.sx_cell hS2 n3 (fun _ _ hT => hT); have z4 := Free.sx_cell hS2 n4 (fun _ _ hT => hT); have z5 := Free.sx_cell hS2 n5 (fun _ _ hT => hT); have z6 := Free.sx_cell hS2 n6 (fun _ _ hT => hT); have z7 := Free.sx_cell hS2 n7 (fun _ _ hT => hT); have z8 := Free.sx_cell hS2 n8 (fun _ _ hT => hT); have z9 := Free.sx_cell hS2 n9 (fun _ _ hT => hT); have z10 := Free.sx_cell hS2 n10 (fun _ _ hT => hT); have z11 := Free.sx_cell hS2 n11 (fun _ _ hT => hT); have z12 := Free.sx_cell hS2 b0 (fun _ _ hT => hT); have z13 := Free.sx_cell hS2 e12 (fun _ _ hT => hT); go_simp <;> exact rfl); go_frame)))
      refine Free.cw_loud rfl rfl (fun K hK => ?_)
      go_wp2_with fail
      refine (refB_c V8 _ D8 rgb hS8.out (by omega)).mono ?_
      rintro e V9 ⟨v9, rfl, hC, hk⟩
      refine hK _ _ rfl (Free.KeepsP.of hk (by simp)) ?_
      clear hK K
      obtain ⟨a9, c9, rfl⟩ := hC.form
      obtain ⟨D9, hD9⟩ : ∃ x, D8 ++ encB rgb = x := ⟨_, rfl⟩
      have hl9 : D9.length ≤ 9 + 100 * k + 75 := by rw [← hD9]; simp only [List.length_append]; simp only [encB, List.length_singleton]; omega
      rw [hD9] at hC ⊢
      have hS9 := Lib.hid hC
      replace hD9 := Lib.hid hD9
      have hkc9 := Lib.hid (hkc8.out.trans hk)
      clear hC hk hS8
      (repeat (first | (apply Free.cw_pure rfl rfl; (intro w'; go_simp <;> exact rfl); go_frame) | (apply Free.cw_steady rfl rfl rfl; (intro w' hS2; have z0 := Free.sx_cell hS2 n0 (fun _ _ hT => hT); have z1 := Free.sx_cell hS2 n1 (fun _ _ hT => hT); have z2 := Free.sx_cell hS2 n2 (fun _ _ hT => hT); have z3 := Free.sx_cell hS2 n3 (fun _ _ hT => hT); have z4 := Free.sx_cell hS2 n4 (fun _ _ hT => hT); have z5 := Free.sx_cell hS2 n5 (fun _ _ hT => hT); have z6 := Free.sx_cell hS2 n6 (fun _ _ hT => hT); have z7 := Free.sx_cell hS2 n7 (fun _ _ hT => hT); have z8 := Free.sx_cell hS2 n8 (fun _ _ hT => hT); have z9 := Free.sx_cell hS2 n9 (fun _ _ hT => hT); have z10 := Free.sx_cell hS2 n10 (fun _ _ hT => hT); have z11 := Free.sx_cell hS2 n11 (fun _ _ hT => hT); have z12 := Free.sx_cell hS2 b0 (fun _ _ hT => hT); have z13 := Free.sx_cell hS2 e12 (fun _ _ hT => hT); go_simp <;> exact rfl); go_frame)))
      refine Free.cw_nil ?_
      have hbZ_ := Lib.hid ((hkc9.out.block Z (lt_of_blk hbZ.out) (by simp)).trans hbZ.out)
      have hbX_ := Lib.hid ((hkc9.out.block X (lt_of_blk hbX.out) (by simp)).trans hbX.out)
      have e12_ := hkc9.out.val e12
      have hkz_ := Lib.hid (hkz.out.trans hkc9.out)
      clear hbZ hbX e12 hkz hgl n0 n1 n2 n3 n4 n5 n6 n7 n8 n9 n10 n11 b0 hkc9
      have hbZ := hbZ_
      have hbX := hbX_
      have e12 := e12_
      have hkz := hkz_
      have hgl := lt_of_cell e12
      clear hbZ_ hbX_ e12_ hkz_
      obtain ⟨n0, n1, n2, n3, n4, n5, n6, n7, n8, n9, n10, n11, _⟩ := cells12 hbZ.out
      have b0 := cells1 hbX.out
      go_wp2
      refine Free.wp_region_chain (fun i => i == 8 || i == 16) (fun i => true) (fun _ _ => False) (by kernel_rfl) (by kernel_rfl) (by kernel_rfl) ?_
      (repeat (first | (apply Free.cw_pure rfl rfl; (intro w'; go_simp <;> exact rfl); go_frame) | (apply Free.cw_steady rfl rfl rfl; (intro w' hS2; have z0 := Free.sx_cell hS2 n0 (fun _ _ hT => hT); have z1 := Free.sx_cell hS2 n1 (fun _ _ hT => hT); have z2 := Free.sx_cell hS2 n2 (fun _ _ hT => hT); have z3 := Free.sx_cell hS2 n3 (fun _ _ hT => hT); have z4 := Free.sx_cell hS2 n4 (fun _ _ hT => hT); have z5 := Free.sx_cell hS2 n5 (fun _ _ hT => hT); have z6 := Free.sx_cell hS2 n6 (fun _ _ hT => hT); have z7 := Free.sx_cell hS2 n7 (fun _ _ hT => hT); have z8 := Free.sx_cell hS2 n8 (fun _ _ hT => hT); have z9 := Free.sx_cell hS2 n9 (fun _ _ hT => hT); have z10 := Free.sx_cell hS2 n10 (fun _ _ hT => hT); have z11 := Free.sx_cell hS2 n11 (fun _ _ hT => hT); have z12 := Free.sx_cell hS2 b0 (fun _ _ hT => hT); have z13 := Free.sx_cell hS2 e12 (fun _ _ hT => hT); go_simp <;> exact rfl); go_frame)))
      refine Free.cw_loud rfl rfl (fun K hK => ?_)
      go_wp2_with fail
      refine (refI_c V9.drew _ D9 rlm rls (by omega) (by omega) (hS9.out.keeps (Keeps.refl [] _).drew) (by omega)).mono ?_
      rintro e V10 ⟨v10, rfl, hC, hk⟩
      refine hK _ _ rfl (Free.KeepsP.of hk (by simp)) ?_
      clear hK K
      obtain ⟨a10, c10, rfl⟩ := hC.form
      obtain ⟨D10, hD10⟩ : ∃ x, D9 ++ encU rlm.toNat ++ encU rls.toNat = x := ⟨_, rfl⟩
      have hl10 : D10.length ≤ 9 + 100 * k + 93 := by rw [← hD10]; simp only [List.length_append]; have := encU_len (n := rlm.toNat) (by omega); have := encU_len (n := rls.toNat) (by omega); omega
      rw [hD10] at hC ⊢
      have hS10 := Lib.hid hC
      replace hD10 := Lib.hid hD10
      have hkc10 := Lib.hid ((Keeps.refl [] V9).drew.trans hk)
      clear hC hk hS9
      (repeat (first | (apply Free.cw_pure rfl rfl; (intro w'; go_simp <;> exact rfl); go_frame) | (apply Free.cw_steady rfl rfl rfl; (intro w' hS2; have z0 := Free.sx_cell hS2 n0 (fun _ _ hT => hT); have z1 := Free.sx_cell hS2 n1 (fun _ _ hT => hT); have z2 := Free.sx_cell hS2 n2 (fun _ _ hT => hT); have z3 := Free.sx_cell hS2 n3 (fun _ _ hT => hT); have z4 := Free.sx_cell hS2 n4 (fun _ _ hT => hT); have z5 := Free.sx_cell hS2 n5 (fun _ _ hT => hT); have z6 := Free.sx_cell hS2 n6 (fun _ _ hT => hT); have z7 := Free.sx_cell hS2 n7 (fun _ _ hT => hT); have z8 := Free.sx_cell hS2 n8 (fun _ _ hT => hT); have z9 := Free.sx_cell hS2 n9 (fun _ _ hT => hT); have z10 := Free.sx_cell hS2 n10 (fun _ _ hT => hT); have z11 := Free.sx_cell hS2 n11 (fun _ _ hT => hT); have z12 := Free.sx_cell hS2 b0 (fun _ _ hT => hT); have z13 := Free.sx_cell hS2 e12 (fun _ _ hT => hT); go_simp <;> exact rfl); go_frame)))
      refine Free.cw_loud rfl rfl (fun K hK => ?_)
      go_wp2_with fail
      refine (refU_i V10 _ D10 rh (by omega) (by omega) hS10.out (by omega)).mono ?_
      rintro e V11 ⟨v11, rfl, hC, hk⟩
      refine hK _ _ rfl (Free.KeepsP.of hk (by simp)) ?_
      clear hK K
      obtain ⟨a11, c11, rfl⟩ := hC.form
      obtain ⟨D11, hD11⟩ : ∃ x, D10 ++ encU rh.toNat = x := ⟨_, rfl⟩
      have hl11 : D11.length ≤ 9 + 100 * k + 102 := by rw [← hD11]; simp only [List.length_append]; have := encU_len (n := rh.toNat) (by omega); omega
      rw [hD11] at hC ⊢
      have hS11 := Lib.hid hC
      replace hD11 := Lib.hid hD11
      have hkc11 := Lib.hid (hkc10.out.trans hk)
      clear hC hk hS10
      (repeat (first | (apply Free.cw_pure rfl rfl; (intro w'; go_simp <;> exact rfl); go_frame) | (apply Free.cw_steady rfl rfl rfl; (intro w' hS2; have z0 := Free.sx_cell hS2 n0 (fun _ _ hT => hT); have z1 := Free.sx_cell hS2 n1 (fun _ _ hT => hT); have z2 := Free.sx_cell hS2 n2 (fun _ _ hT => hT); have z3 := Free.sx_cell hS2 n3 (fun _ _ hT => hT); have z4 := Free.sx_cell hS2 n4 (fun _ _ hT => hT); have z5 := Free.sx_cell hS2 n5 (fun _ _ hT => hT); have z6 := Free.sx_cell hS2 n6 (fun _ _ hT => hT); have z7 := Free.sx_cell hS2 n7 (fun _ _ hT => hT); have z8 := Free.sx_cell hS2 n8 (fun _ _ hT => hT); have z9 := Free.sx_cell hS2 n9 (fun _ _ hT => hT); have z10 := Free.sx_cell hS2 n10 (fun _ _ hT => hT); have z11 := Free.sx_cell hS2 n11 (fun _ _ hT => hT); have z12 := Free.sx_cell hS2 b0 (fun _ _ hT => hT); have z13 := Free.sx_cell hS2 e12 (fun _ _ hT => hT); go_simp <;> exact rfl); go_frame)))
      refine Free.cw_nil ?_
      have hkz2 := Lib.hid (hkz.out.trans hkc11.out)
      have hbX2 := Lib.hid ((hkc11.out.block X (lt_of_blk hbX.out) (by simp)).trans hbX.out)
      have hEq : D11 = E0 ++ encL (T.take (k + 1)) := by
        rw [hst.out, ← List.append_assoc, hD0.out, ← hD11.out, ← hD10.out, ← hD9.out, ← hD8.out, ← hD7.out, ← hD6.out, ← hD5.out, ← hD4.out, ← hD3.out, ← hD2.out, ← hD1.out]
        simp only [encR, List.append_assoc]
      replace hEq := Lib.hid hEq
      clear n0 n1 n2 n3 n4 n5 n6 n7 n8 n9 n10 n11 b0 e12 hgl hbZ hbX
      go_wp2
      go_roundw
      case rel => exact ⟨k + 1, rfl, by omega, by rw [← hEq.out]; exact hS11.out, hkz2, hbX2⟩
      case measure => simp [intOf]; omega
    · have hkM : k = M := by omega
      subst hkM
      rw [List.take_of_length_le (by have := hM.out; omega)] at hBr
      have hfin : E0 ++ encL T = encS T := by rw [← hE0.out]; unfold encS; rw [hM.out]
      have b0 := cells1 hbXr.out
      rw [List.take_of_length_le (by have := hM.out; omega)]
      obtain ⟨Df, hDf⟩ : ∃ x, E0 ++ encL T = x := ⟨_, rfl⟩
      rw [hDf] at hBr hfin ⊢
      replace hfin := Lib.hid hfin
      replace hBr := Lib.hid hBr
      clear hDf
      go_wp2
      go_ret
      exact ⟨_, rfl, by rw [← hfin.out]; exact hBr.out, hkw.out⟩
end Go.Proofs.YtblaaafpglomnaaGreat

namespace Go.Proofs.YtblaaafpglomnaaGreat
open Go Go.RowKit
attribute [local go_sem] Oper.semAt_some

/-- The facts of a line's operations. -/
def EnF (L : List En) (B : List UInt8) (i : Nat) (v : Value) (w : World) : Prop := (i = 3 → SlB w v B) ∧ (i = 16 ∨ i = 18 → shE.R w v L) ∧ (i = 19 → v = .bool true)
theorem EnF.keep {L : List En} {B : List UInt8} {i : Nat} {v : Value} {w w' : World} (h : EnF L B i v w) (hk : Free.KeepsP (fun _ => False) w w') : EnF L B i v w' :=
  have k : Keeps [] w w' := hk.to (Keeps.refl [] w) (fun _ h => h.elim)
  ⟨fun e => (h.1 e).keeps k, fun e => (h.2.1 e).keeps k, h.2.2⟩
theorem EnF.s {L : List En} {B : List UInt8} {v : Value} {w : World} (h : SlB w v B) : EnF L B 3 v w := ⟨fun _ => h, fun e => by omega, fun e => by omega⟩
theorem EnF.l {L : List En} {B : List UInt8} {i : Nat} {v : Value} {w : World} (hi : i = 16 ∨ i = 18) (h : shE.R w v L) : EnF L B i v w := ⟨fun e => by omega, fun _ => h, fun e => by omega⟩
theorem EnF.b {L : List En} {B : List UInt8} {w : World} : EnF L B 19 (.bool true) w := ⟨fun e => by omega, fun e => by omega, fun _ => rfl⟩
set_option maxRecDepth 100000 in
set_option maxHeartbeats 16000000 in
theorem encoding_c (w : World) (v0 : Value) (l : List OpT) (h : shO.R w v0 l) (hok : ∀ o ∈ l, o.ok) :
    Calls Tryz.prog 4 #[v0] w fun e w' => e = .returned (.bool true) ∧ Keeps [] w w' := by
  obtain ⟨a0, c0, rfl, hlc, hcm, _⟩ := h.form
  obtain ⟨M, hM⟩ : ∃ N, l.length = N := ⟨_, rfl⟩
  rw [hM] at hlc h ⊢
  have hMx : M ≤ 9223372036854775807 := by unfold Go.maxLen at hcm; omega
  have haw := fun W => awake_c W
  replace hM := Lib.hid hM
  replace h := Lib.hid h
  replace hok := Lib.hid hok
  replace haw := Lib.hid haw
  by_cases hbig : 40 < M
  · have hb2 : (40 : Int) < M := by omega
    go_enter Tryz.func4, Tryz.ntmps4
    go_wp2_with fail
    refine (haw.out _).mono ?_
    rintro e w1 ⟨rfl, hk1⟩
    replace hk1 := Lib.hid hk1
    go_wp2
    go_ret
    exact ⟨rfl, hk1.out⟩
  have hb2 : decide ((40 : Int) < M) = false := by simp; omega
  have hgS := runS_good hok.out
  have hlS := runS_len l
  rw [hM.out] at hlS
  have hrc := run_c w _ l h.out hok.out (by rw [hM.out]; omega)
  obtain ⟨S, hSe⟩ : ∃ S, runS l = S := ⟨_, rfl⟩
  rw [hSe] at hgS hlS hrc
  have hdec := enc_dec hgS
  have hSn : (lst S).length ≤ 100 := by simp only [lst, List.length_map]; omega
  have hBn : (encS S).length ≤ 100000 := by
    have h1 := encL_len (S := S) (fun r hr => hgS.num hr)
    have h2 := encU_len (n := S.length) (by omega)
    unfold encS
    rw [List.length_append]; omega
  have hec := fun W bt bm t => encode_c W bt bm S t hgS
  have hdc := fun W v (h : SlB W v (encS S)) => (decode_c W v (encS S) h (by omega)).mono (R' := fun e w' => ∃ bt bm, e = .returned (.tuple #[.pointer (some ⟨bt, 0, none⟩), .int .i64 0]) ∧ TM w' bt bm S ∧ Keeps [] W w') (fun e w' hp => by
    rcases hp with ⟨h1, _⟩ | ⟨S9, bt, bm, h1, h2, h3, _, h4, _⟩
    · rw [hdec] at h1; cases h1
    · rw [hdec] at h1; cases h1; exact ⟨bt, bm, h2, h3, h4⟩)
  replace hrc := Lib.hid hrc
  replace hec := Lib.hid hec
  replace hdc := Lib.hid hdc
  replace hgS := Lib.hid hgS
  clear hSe hlS hdec
  go_enter Tryz.func4, Tryz.ntmps4
  go_wp2_with fail
  refine hrc.out.mono ?_
  rintro e w1 ⟨bt, bm, v1, rfl, t1, hR1, k1, hb1, hb2'⟩
  obtain ⟨a1, c1, rfl, _⟩ := hR1.form
  obtain ⟨SL, hSL⟩ : ∃ n, S.length = n := ⟨_, rfl⟩
  rw [hSL] at hR1 ⊢
  have hkB : Keeps [] w1 (w1.alloc (.cells #[.slice a1 SL c1] tTb)) := (Keeps.refl _ _).alloc _
  have t2 := Lib.hid (t1.keeps hkB)
  have hR2 := Lib.hid (hR1.keeps hkB)
  have hk2 := Lib.hid (k1.trans hkB)
  have hbY2 := heap_alloc_new w1 (.cells #[.slice a1 SL c1] tTb)
  obtain ⟨Y, hY⟩ : ∃ Y, w1.heap.size = Y := ⟨_, rfl⟩
  rw [hY] at hbY2
  replace hbY2 := Lib.hid hbY2
  replace hSL := Lib.hid hSL
  clear hrc t1 hR1 k1 hkB hb1 hb2'
  go_wp2_with fail
  refine (hec.out _ bt bm t2.out).mono ?_
  rintro e w3 ⟨vb, rfl, hB3, k3⟩
  have hSb3 := hB3.slB
  obtain ⟨LB, hLB⟩ : ∃ n, (encS S).length = n := ⟨_, rfl⟩
  obtain ⟨ab, cb, rfl⟩ := hSb3.form
  rw [hLB] at hSb3 ⊢
  have t3 := Lib.hid (t2.out.keeps k3)
  have hR3 := Lib.hid (hR2.out.keeps k3)
  have hk3 := Lib.hid (hk2.out.trans k3)
  have hbY3 := Lib.hid ((k3.block Y (lt_of_blk hbY2.out) (by simp)).trans hbY2.out)
  replace hSb3 := Lib.hid hSb3
  replace hLB := Lib.hid hLB
  clear hB3 k3 t2 hR2 hk2 hbY2 hec
  go_wp2_with fail
  refine (hdc.out w3 _ hSb3.out).mono ?_
  rintro e W ⟨bt2, bm2, rfl, tu, k4⟩
  have tt := Lib.hid (t3.out.keeps k4)
  have hRT := hR3.out.keeps k4
  have hkW := Lib.hid (hk3.out.trans k4)
  have hbY := (k4.block Y (lt_of_blk hbY3.out) (by simp)).trans hbY3.out
  have hSb := Lib.hid (hSb3.out.keeps k4)
  have y0 := cells1 hbY
  obtain ⟨LE, hLE⟩ : ∃ L, lst S = L := ⟨_, rfl⟩
  obtain ⟨BE, hBE⟩ : ∃ L, encS S = L := ⟨_, rfl⟩
  obtain ⟨sb, hsb⟩ : ∃ s, Hid (str BE = s) := ⟨_, Lib.hid rfl⟩
  have hen := fun W' (hk : Keeps [] W W') => encodeR_c W' _ S (hRT.keeps hk) hgS.out
  have hlu := fun W' (hk : Keeps [] W W') => list_c W' bt2 bm2 S (tu.keeps hk) hgS.out
  have hlt := fun W' (hk : Keeps [] W W') => list_c W' bt bm S (tt.out.keeps hk) hgS.out
  rw [hBE] at hSb
  simp only [hBE, tbV] at hen
  simp only [hLE] at hlu hlt
  have hfx := fun c m (hk : kOk (c, m)) W' (k : Keeps [] W W') => find_c W' bt bm S c m (tt.out.keeps k) hk
  have hfy := fun c m (hk : kOk (c, m)) W' (k : Keeps [] W W') => find_c W' bt2 bm2 S c m (tu.keeps k) hk
  have hmem : ∀ x ∈ LE, kOk x.key := by
    intro x hx
    rw [← hLE] at hx
    obtain ⟨r, hr, rfl⟩ := List.mem_map.1 hx
    exact hgS.out.key hr
  have hln : LE.length ≤ 100 := by rw [← hLE]; exact hSn
  replace hen := Lib.hid hen
  replace hlu := Lib.hid hlu
  replace hlt := Lib.hid hlt
  replace hfx := Lib.hid hfx
  replace hfy := Lib.hid hfy
  replace hmem := Lib.hid hmem
  clear t3 hR3 hk3 hbY3 hSb3 k4 tu hRT hbY hLE hBE hSn hBn
  go_wp2
  refine Free.wp_region_free (by kernel_rfl) (by kernel_rfl) (fun i => i == 3 || i == 16 || i == 18 || i == 19) (EnF LE BE) (fun _ _ => False) (fun _ _ => false) (fun i k v w w2 _ _ _ _ hF hk => hF.keep hk) ?_
  (apply Free.walk_quiet rfl rfl; (intro w' hg hf; clear hf; go_simp <;> exact rfl))
  go_frame
  refine Free.walk_quiet (c := .string sb) rfl rfl ?_ ?_
  · intro w' hg hf
    have hkw : Keeps [] W w' := hg.to ((Keeps.refl [] W).drew) (fun b h => by obtain ⟨_, _, _, h⟩ := h; exact h.elim)
    clear hf hg
    have hrs := run_str (hSb.out.keeps hkw)
    rw [hsb.out] at hrs
    go_simp <;> exact rfl
  go_frame
  apply Free.walk_quiet rfl rfl
  · intro w' hg hf; clear hf
    have r0 := (hg.cell _ _ (lt_of_cell y0) (fun h => by obtain ⟨_, _, _, h⟩ := h; exact h.elim)).trans y0
    go_simp <;> exact rfl
  go_frame
  apply Free.walk_loud rfl rfl
  · intro w' hg hf
    have hkw : Keeps [] W w' := hg.to ((Keeps.refl [] W).drew) (fun b h => by obtain ⟨_, _, _, h⟩ := h; exact h.elim)
    clear hf hg
    go_simp
    refine (hen.out w' hkw).mono ?_
    rintro e w2 ⟨v, rfl, hO, k2⟩
    exact ⟨_, rfl, EnF.s hO, Free.KeepsP.of k2 (by simp)⟩
  intro v3
  go_frame
  refine Free.walk_quiet (c := .string sb) rfl rfl ?_ ?_
  · intro w' hg hf
    have h3 : EnF LE BE 3 v3 w' := by simpa using hf 3 (by decide) (by kernel_rfl)
    have hrs := run_str (h3.1 rfl)
    clear hf hg h3
    rw [hsb.out] at hrs
    go_simp <;> exact rfl
  go_frame
  refine Free.walk_quiet (c := .bool false) rfl rfl ?_ ?_
  · intro w' hg hf; clear hf
    go_simp <;> exact rfl
  go_frame
  (apply Free.walk_quiet rfl rfl; (intro w' hg hf; clear hf; go_simp <;> exact rfl))
  go_frame
  (apply Free.walk_quiet rfl rfl; (intro w' hg hf; clear hf; go_simp <;> exact rfl))
  go_frame
  (apply Free.walk_quiet rfl rfl; (intro w' hg hf; clear hf; go_simp <;> exact rfl))
  go_frame
  (apply Free.walk_quiet rfl rfl; (intro w' hg hf; clear hf; go_simp <;> exact rfl))
  go_frame
  (apply Free.walk_quiet rfl rfl; (intro w' hg hf; clear hf; go_simp <;> exact rfl))
  go_frame
  (apply Free.walk_quiet rfl rfl; (intro w' hg hf; clear hf; go_simp <;> exact rfl))
  go_frame
  (apply Free.walk_quiet rfl rfl; (intro w' hg hf; clear hf; go_simp <;> exact rfl))
  go_frame
  (apply Free.walk_quiet rfl rfl; (intro w' hg hf; clear hf; go_simp <;> exact rfl))
  go_frame
  (apply Free.walk_quiet rfl rfl; (intro w' hg hf; clear hf; go_simp <;> exact rfl))
  go_frame
  (apply Free.walk_quiet rfl rfl; (intro w' hg hf; clear hf; go_simp <;> exact rfl))
  go_frame
  apply Free.walk_loud rfl rfl
  · intro w' hg hf
    have hkw : Keeps [] W w' := hg.to ((Keeps.refl [] W).drew) (fun b h => by obtain ⟨_, _, _, h⟩ := h; exact h.elim)
    clear hf hg
    go_simp
    refine (hlu.out w' hkw).mono ?_
    rintro e w2 ⟨v, rfl, hO, k2⟩
    exact ⟨_, rfl, EnF.l (.inl rfl) hO.r, Free.KeepsP.of k2 (by simp)⟩
  intro v16
  go_frame
  (apply Free.walk_quiet rfl rfl; (intro w' hg hf; clear hf; go_simp <;> exact rfl))
  go_frame
  apply Free.walk_loud rfl rfl
  · intro w' hg hf
    have hkw : Keeps [] W w' := hg.to ((Keeps.refl [] W).drew) (fun b h => by obtain ⟨_, _, _, h⟩ := h; exact h.elim)
    clear hf hg
    go_simp
    refine (hlt.out w' hkw).mono ?_
    rintro e w2 ⟨v, rfl, hO, k2⟩
    exact ⟨_, rfl, EnF.l (.inr rfl) hO.r, Free.KeepsP.of k2 (by simp)⟩
  intro v18
  go_frame
  apply Free.walk_loud rfl rfl
  · intro w' hg hf
    have hkw : Keeps [] W w' := hg.to ((Keeps.refl [] W).drew) (fun b h => by obtain ⟨_, _, _, h⟩ := h; exact h.elim)
    have h16 : EnF LE BE 16 v16 w' := by simpa using hf 16 (by decide) (by kernel_rfl)
    have h18 : EnF LE BE 18 v18 w' := by simpa using hf 18 (by decide) (by kernel_rfl)
    clear hf hg
    go_simp
    refine (sameE_c w' _ _ LE LE (h16.2.1 (.inl rfl)) (h18.2.1 (.inr rfl))).mono ?_
    rw [decide_eq_true rfl]
    rintro e w2 ⟨rfl, k2⟩
    exact ⟨_, rfl, EnF.b, Free.KeepsP.of k2 (by simp)⟩
  intro v19
  go_frame
  refine Free.walk_quiet (c := .bool false) rfl rfl ?_ ?_
  · intro w' hg hf
    have h19 : EnF LE BE 19 v19 w' := by simpa using hf 19 (by decide) (by kernel_rfl)
    have e19 := h19.2.2 rfl
    clear hf h19
    subst e19
    go_simp <;> exact rfl
  go_frame
  (apply Free.walk_quiet rfl rfl; (intro w' hg hf; clear hf; go_simp <;> exact rfl))
  refine Free.walk_nil ?_
  intro wF hg hf
  have hkF := Lib.hid (hg.to (S := []) ((Keeps.refl [] W).drew) (fun b h => by obtain ⟨_, h⟩ := h; exact h.elim))
  clear hf hg
  have hlist := Lib.hid (hlt.out wF hkF.out)
  clear hen hlu hlt y0
  go_frame
  go_wp2_with fail
  refine hlist.out.mono ?_
  rintro e w9 ⟨v9, rfl, hO9, k9⟩
  have hR9 := hO9.r
  obtain ⟨a9, c9, rfl⟩ := hO9.form
  obtain ⟨N, hN⟩ : ∃ n, LE.length = n := ⟨_, rfl⟩
  rw [hN] at hR9 hln ⊢
  have hkW9 := Lib.hid (hkF.out.trans k9)
  replace hR9 := Lib.hid hR9
  replace hN := Lib.hid hN
  have hfx9 := Lib.hid (fun c m (hk : kOk (c, m)) W' (k : Keeps [] w9 W') => hfx.out c m hk W' (hkW9.out.trans k))
  have hfy9 := Lib.hid (fun c m (hk : kOk (c, m)) W' (k : Keeps [] w9 W') => hfy.out c m hk W' (hkW9.out.trans k))
  clear hO9 k9 hkF hlist hfx hfy
  go_wp2
  go_loopw [61] (fun iv wr => ∃ k : Nat, iv = .int .i64 k ∧ k ≤ N ∧ Hid (Keeps [] w9 wr)) (fun iv _ => N - (intOf iv).toNat)
  case atStart => exact ⟨0, rfl, by omega, Lib.hid (Keeps.refl _ _)⟩
  case round =>
    obtain ⟨k, rfl, hk, hkw⟩ := hrel
    by_cases hlt : k < N
    · have hk2 : k < LE.length := by rw [hN.out]; exact hlt
      have hlt2 : (k : Int) < N := by omega
      obtain ⟨g, o, d, hv, hel⟩ := (hR9.out.keeps hkw.out).elem hk2
      rw [hN.out] at hv
      cases hv
      have hxo := hmem.out _ (List.getElem_mem hk2)
      obtain ⟨⟨x0, x1, x2, x3, x4, x5, x6, x7, x8, x9, x10, x11⟩, hx⟩ : ∃ x, LE[k] = x := ⟨_, rfl⟩
      rw [hx] at hel hxo
      have f0 := hel 0 _ rfl
      have f1 := hel 1 _ rfl
      have f2 := hel 2 _ rfl
      have f3 := hel 3 _ rfl
      have f4 := hel 4 _ rfl
      have f5 := hel 5 _ rfl
      have f6 := hel 6 _ rfl
      have f7 := hel 7 _ rfl
      have f8 := hel 8 _ rfl
      have f9 := hel 9 _ rfl
      have f10 := hel 10 _ rfl
      have f11 := hel 11 _ rfl
      simp only [shE, En.cs, Nat.add_zero] at f0 f1 f2 f3 f4 f5 f6 f7 f8 f9 f10 f11
      have hgx := lt_of_cell f0
      have hkA := (Keeps.refl [] wr).alloc (.cells #[.int .i64 x0, .int .u64 x1, .int .i64 x2, .int .i64 x3, .int .i64 x4, .int .i64 x5, .int .i64 x6, .bool x7, .bool x8, .bool x9, .int .i64 x10, .int .i64 x11] tE)
      have hbO := heap_alloc_new wr (.cells #[.int .i64 x0, .int .u64 x1, .int .i64 x2, .int .i64 x3, .int .i64 x4, .int .i64 x5, .int .i64 x6, .bool x7, .bool x8, .bool x9, .int .i64 x10, .int .i64 x11] tE)
      obtain ⟨Z, hZ⟩ : ∃ Z, wr.heap.size = Z := ⟨_, rfl⟩
      rw [hZ] at hbO
      have hf1 := hfx9.out x0 x1 hxo
      have hf2 := hfy9.out x0 x1 hxo
      obtain ⟨⟨⟨a0, a1, a2, a3, a4, a5, a6, a7, a8, a9, a10, a11⟩, ah⟩, hA⟩ : ∃ r, (fnd (x0, x1) S).getD (.zero, 0) = r := ⟨_, rfl⟩
      obtain ⟨ab2, hAb⟩ : ∃ r, (fnd (x0, x1) S).isSome = r := ⟨_, rfl⟩
      simp only [hA, hAb, enV] at hf1 hf2
      have hkA1 := hkw.out.trans hkA
      replace hf1 := Lib.hid hf1
      replace hf2 := Lib.hid hf2
      replace hkA1 := Lib.hid hkA1
      replace hbO := Lib.hid hbO
      clear hel hx hA hAb hxo hkA
      go_wp2_with fail
      refine (hf1.out _ hkA1.out).mono ?_
      rintro e w15 ⟨rfl, k15⟩
      have hkN : Keeps [] w15 (w15.alloc (.cells #[.int .i64 a0, .int .u64 a1, .int .i64 a2, .int .i64 a3, .int .i64 a4, .int .i64 a5, .int .i64 a6, .bool a7, .bool a8, .bool a9, .int .i64 a10, .int .i64 a11] tE)) := (Keeps.refl _ _).alloc _
      have hbO_ := ((k15.trans hkN).block Z (lt_of_blk hbO.out) (by simp)).trans hbO.out
      clear hbO
      have hbO := Lib.hid hbO_
      clear hbO_
      have hkx15 := Lib.hid (hkA1.out.trans (k15.trans hkN))
      clear hkN k15 hf1
      obtain ⟨o0, o1, o2, o3, o4, o5, o6, o7, o8, o9, o10, o11, _⟩ := cells12 hbO.out
      go_wp2_with fail
      clear o0 o1 o2 o3 o4 o5 o6 o7 o8 o9 o10 o11
      refine (hf2.out _ hkx15.out).mono ?_
      rintro e w16 ⟨rfl, k16⟩
      have hkN : Keeps [] w16 (w16.alloc (.cells #[.int .i64 a0, .int .u64 a1, .int .i64 a2, .int .i64 a3, .int .i64 a4, .int .i64 a5, .int .i64 a6, .bool a7, .bool a8, .bool a9, .int .i64 a10, .int .i64 a11] tE)) := (Keeps.refl _ _).alloc _
      have hbO_ := ((k16.trans hkN).block Z (lt_of_blk hbO.out) (by simp)).trans hbO.out
      clear hbO
      have hbO := Lib.hid hbO_
      clear hbO_
      have hkx16 := Lib.hid (hkx15.out.trans (k16.trans hkN))
      clear hkN k16 hf2
      obtain ⟨o0, o1, o2, o3, o4, o5, o6, o7, o8, o9, o10, o11, _⟩ := cells12 hbO.out
      go_wp2
      go_roundw
      case rel => exact ⟨k + 1, rfl, by omega, Lib.hid hkx16.out⟩
      case measure => simp [intOf]; omega
    · have hkN : k = N := by omega
      have hlt2 : decide ((k : Int) < N) = false := by simp; omega
      replace hkN := Lib.hid hkN
      go_wp2_with fail
      refine (haw.out _).mono ?_
      rintro e w7 ⟨rfl, hk7⟩
      replace hk7 := Lib.hid hk7
      go_wp2
      go_ret
      exact ⟨rfl, ((hkW.out.trans hkW9.out).trans hkw.out).trans hk7.out⟩
end Go.Proofs.YtblaaafpglomnaaGreat

namespace Go.Proofs.YtblaaafpglomnaaGreat
open Go Go.ChangeShapes Go.WideShapes Go.ChangeAt Go.RowKit

theorem w64_wf {x : Int} (h : (Lit.int .i64 x).wf = true) : W64 x := h
theorem u64_nat {x : Int} (h : (Lit.int .u64 x).wf = true) : ∃ n : Nat, x = n ∧ n < 18446744073709551616 := by
  have hb : 0 ≤ x ∧ x ≤ 18446744073709551615 := by simpa [Lit.wf, IntKind.min, IntKind.max, IntKind.signed, IntKind.bits] using h
  exact ⟨x.toNat, by omega, by omega⟩
set_option maxRecDepth 100000 in
set_option maxHeartbeats 1000000 in
theorem cs_id {w : World} {cs : List Value} (h : Gen.Cs Tryz.prog w 45 cs) : ∃ m s : Int, cs = [.int .i64 m, .int .i64 s] ∧ W64 m ∧ W64 s := by
  obtain ⟨hl, hall⟩ := Gen.Cs.struct Tryz.underlying45 h
  rw [show Tryz.prog.cellsOf 45 = 2 by kernel_rfl] at hl
  obtain ⟨a, b, rfl⟩ : ∃ a b, cs = [a, b] := by
    match cs, hl with
    | [a, b], _ => exact ⟨a, b, rfl⟩
  have h0 := hall 0 _ rfl
  have h1 := hall 1 _ rfl
  replace h0 : Gen.Cs Tryz.prog w 3 (([a, b].drop 0).take (Tryz.prog.cellsOf 3)) := h0
  replace h1 : Gen.Cs Tryz.prog w 3 (([a, b].drop 1).take (Tryz.prog.cellsOf 3)) := h1
  rw [show Tryz.prog.cellsOf 3 = 1 by kernel_rfl] at h0 h1
  obtain ⟨m, hm, wm⟩ := Gen.Cs.int Tryz.underlying3 h0
  obtain ⟨s, hs, ws⟩ := Gen.Cs.int Tryz.underlying3 h1
  simp at hm hs
  subst hm hs
  exact ⟨m, s, rfl, w64_wf wm, w64_wf ws⟩
set_option maxRecDepth 100000 in
set_option maxHeartbeats 1000000 in
theorem cs_tid {w : World} {cs : List Value} (h : Gen.Cs Tryz.prog w 46 cs) : ∃ m s : Int, cs = [.int .i64 m, .int .i64 s] ∧ W64 m ∧ W64 s := by
  obtain ⟨hl, hall⟩ := Gen.Cs.struct Tryz.underlying46 h
  rw [show Tryz.prog.cellsOf 46 = 2 by kernel_rfl] at hl
  obtain ⟨a, b, rfl⟩ : ∃ a b, cs = [a, b] := by
    match cs, hl with
    | [a, b], _ => exact ⟨a, b, rfl⟩
  have h0 := hall 0 _ rfl
  have h1 := hall 1 _ rfl
  replace h0 : Gen.Cs Tryz.prog w 3 (([a, b].drop 0).take (Tryz.prog.cellsOf 3)) := h0
  replace h1 : Gen.Cs Tryz.prog w 3 (([a, b].drop 1).take (Tryz.prog.cellsOf 3)) := h1
  rw [show Tryz.prog.cellsOf 3 = 1 by kernel_rfl] at h0 h1
  obtain ⟨m, hm, wm⟩ := Gen.Cs.int Tryz.underlying3 h0
  obtain ⟨s, hs, ws⟩ := Gen.Cs.int Tryz.underlying3 h1
  simp at hm hs
  subst hm hs
  exact ⟨m, s, rfl, w64_wf wm, w64_wf ws⟩
set_option maxRecDepth 100000 in
set_option maxHeartbeats 1000000 in
theorem cs_ent {w : World} {cs : List Value} (h : Gen.Cs Tryz.prog w 48 cs) : ∃ e : En, cs = e.cs ∧ e.ok := by
  obtain ⟨hl, hall⟩ := Gen.Cs.struct Tryz.underlying48 h
  rw [show Tryz.prog.cellsOf 48 = 12 by kernel_rfl] at hl
  obtain ⟨a0, a1, a2, a3, a4, a5, a6, a7, a8, a9, a10, a11, rfl⟩ : ∃ a0 a1 a2 a3 a4 a5 a6 a7 a8 a9 a10 a11, cs = [a0, a1, a2, a3, a4, a5, a6, a7, a8, a9, a10, a11] := by
    match cs, hl with
    | [a0, a1, a2, a3, a4, a5, a6, a7, a8, a9, a10, a11], _ => exact ⟨a0, a1, a2, a3, a4, a5, a6, a7, a8, a9, a10, a11, rfl⟩
  have h0 := hall 0 _ rfl
  replace h0 : Gen.Cs Tryz.prog w 3 (([a0, a1, a2, a3, a4, a5, a6, a7, a8, a9, a10, a11].drop 0).take (Tryz.prog.cellsOf 3)) := h0
  rw [show Tryz.prog.cellsOf 3 = 1 by kernel_rfl] at h0
  have h1 := hall 1 _ rfl
  replace h1 : Gen.Cs Tryz.prog w 43 (([a0, a1, a2, a3, a4, a5, a6, a7, a8, a9, a10, a11].drop 1).take (Tryz.prog.cellsOf 43)) := h1
  rw [show Tryz.prog.cellsOf 43 = 1 by kernel_rfl] at h1
  have h2 := hall 2 _ rfl
  replace h2 : Gen.Cs Tryz.prog w 45 (([a0, a1, a2, a3, a4, a5, a6, a7, a8, a9, a10, a11].drop 2).take (Tryz.prog.cellsOf 45)) := h2
  rw [show Tryz.prog.cellsOf 45 = 2 by kernel_rfl] at h2
  have h3 := hall 3 _ rfl
  replace h3 : Gen.Cs Tryz.prog w 3 (([a0, a1, a2, a3, a4, a5, a6, a7, a8, a9, a10, a11].drop 4).take (Tryz.prog.cellsOf 3)) := h3
  rw [show Tryz.prog.cellsOf 3 = 1 by kernel_rfl] at h3
  have h4 := hall 4 _ rfl
  replace h4 : Gen.Cs Tryz.prog w 3 (([a0, a1, a2, a3, a4, a5, a6, a7, a8, a9, a10, a11].drop 5).take (Tryz.prog.cellsOf 3)) := h4
  rw [show Tryz.prog.cellsOf 3 = 1 by kernel_rfl] at h4
  have h5 := hall 5 _ rfl
  replace h5 : Gen.Cs Tryz.prog w 3 (([a0, a1, a2, a3, a4, a5, a6, a7, a8, a9, a10, a11].drop 6).take (Tryz.prog.cellsOf 3)) := h5
  rw [show Tryz.prog.cellsOf 3 = 1 by kernel_rfl] at h5
  have h6 := hall 6 _ rfl
  replace h6 : Gen.Cs Tryz.prog w 4 (([a0, a1, a2, a3, a4, a5, a6, a7, a8, a9, a10, a11].drop 7).take (Tryz.prog.cellsOf 4)) := h6
  rw [show Tryz.prog.cellsOf 4 = 1 by kernel_rfl] at h6
  have h7 := hall 7 _ rfl
  replace h7 : Gen.Cs Tryz.prog w 4 (([a0, a1, a2, a3, a4, a5, a6, a7, a8, a9, a10, a11].drop 8).take (Tryz.prog.cellsOf 4)) := h7
  rw [show Tryz.prog.cellsOf 4 = 1 by kernel_rfl] at h7
  have h8 := hall 8 _ rfl
  replace h8 : Gen.Cs Tryz.prog w 4 (([a0, a1, a2, a3, a4, a5, a6, a7, a8, a9, a10, a11].drop 9).take (Tryz.prog.cellsOf 4)) := h8
  rw [show Tryz.prog.cellsOf 4 = 1 by kernel_rfl] at h8
  have h9 := hall 9 _ rfl
  replace h9 : Gen.Cs Tryz.prog w 46 (([a0, a1, a2, a3, a4, a5, a6, a7, a8, a9, a10, a11].drop 10).take (Tryz.prog.cellsOf 46)) := h9
  rw [show Tryz.prog.cellsOf 46 = 2 by kernel_rfl] at h9
  obtain ⟨x0, e0, w0⟩ := Gen.Cs.int Tryz.underlying3 h0
  obtain ⟨x1, e1, w1⟩ := Gen.Cs.int Tryz.underlying43 h1
  obtain ⟨x2, y2, e2, w2, v2⟩ := cs_id h2
  obtain ⟨x3, e3, w3⟩ := Gen.Cs.int Tryz.underlying3 h3
  obtain ⟨x4, e4, w4⟩ := Gen.Cs.int Tryz.underlying3 h4
  obtain ⟨x5, e5, w5⟩ := Gen.Cs.int Tryz.underlying3 h5
  obtain ⟨x6, e6⟩ := Gen.Cs.bool Tryz.underlying4 h6
  obtain ⟨x7, e7⟩ := Gen.Cs.bool Tryz.underlying4 h7
  obtain ⟨x8, e8⟩ := Gen.Cs.bool Tryz.underlying4 h8
  obtain ⟨x9, y9, e9, w9, v9⟩ := cs_tid h9
  simp at e0 e1 e2 e3 e4 e5 e6 e7 e8 e9
  obtain ⟨e2a, e2b⟩ := e2
  obtain ⟨e9a, e9b⟩ := e9
  subst e0 e1 e2a e2b e3 e4 e5 e6 e7 e8 e9a e9b
  obtain ⟨n, rfl, hn⟩ := u64_nat w1
  exact ⟨⟨x0, n, x2, y2, x3, x4, x5, x6, x7, x8, x9, y9⟩, rfl, ⟨w64_wf w0, hn, w2, v2, w64_wf w3, w64_wf w4, w64_wf w5, w9, v9⟩⟩
def OpRel (w : World) (cs : List Value) (x : OpT) : Prop := cs = shO.cf x ∧ x.ok
set_option maxRecDepth 100000 in
set_option maxHeartbeats 1000000 in
theorem cs_op {w : World} {cs : List Value} (h : Gen.Cs Tryz.prog w 61 cs) : ∃ x, OpRel w cs x := by
  obtain ⟨hl, hall⟩ := Gen.Cs.struct Tryz.underlying61 h
  rw [show Tryz.prog.cellsOf 61 = 14 by kernel_rfl] at hl
  obtain ⟨k0, a0, a1, a2, a3, a4, a5, a6, a7, a8, a9, a10, a11, hh, rfl⟩ : ∃ k0 a0 a1 a2 a3 a4 a5 a6 a7 a8 a9 a10 a11 hh, cs = [k0, a0, a1, a2, a3, a4, a5, a6, a7, a8, a9, a10, a11, hh] := by
    match cs, hl with
    | [k0, a0, a1, a2, a3, a4, a5, a6, a7, a8, a9, a10, a11, hh], _ => exact ⟨k0, a0, a1, a2, a3, a4, a5, a6, a7, a8, a9, a10, a11, hh, rfl⟩
  have h0 := hall 0 _ rfl
  have h1 := hall 1 _ rfl
  have h2 := hall 2 _ rfl
  replace h0 : Gen.Cs Tryz.prog w 5 (([k0, a0, a1, a2, a3, a4, a5, a6, a7, a8, a9, a10, a11, hh].drop 0).take (Tryz.prog.cellsOf 5)) := h0
  replace h1 : Gen.Cs Tryz.prog w 48 (([k0, a0, a1, a2, a3, a4, a5, a6, a7, a8, a9, a10, a11, hh].drop 1).take (Tryz.prog.cellsOf 48)) := h1
  replace h2 : Gen.Cs Tryz.prog w 3 (([k0, a0, a1, a2, a3, a4, a5, a6, a7, a8, a9, a10, a11, hh].drop 13).take (Tryz.prog.cellsOf 3)) := h2
  rw [show Tryz.prog.cellsOf 5 = 1 by kernel_rfl] at h0
  rw [show Tryz.prog.cellsOf 48 = 12 by kernel_rfl] at h1
  rw [show Tryz.prog.cellsOf 3 = 1 by kernel_rfl] at h2
  obtain ⟨k, hk, wk⟩ := Gen.Cs.int Tryz.underlying5 h0
  obtain ⟨e, he, hok⟩ := cs_ent h1
  obtain ⟨B, hB, wB⟩ := Gen.Cs.int Tryz.underlying3 h2
  simp at hk hB
  simp [En.cs] at he
  obtain ⟨e0, e1, e2, e3, e4, e5, e6, e7, e8, e9, e10, e11⟩ := he
  subst hk hB e0 e1 e2 e3 e4 e5 e6 e7 e8 e9 e10 e11
  have hb : 0 ≤ k ∧ k ≤ 255 := by simpa [Lit.wf, IntKind.min, IntKind.max, IntKind.signed, IntKind.bits] using wk
  obtain ⟨m, rfl⟩ : ∃ m : Nat, k = m := ⟨k.toNat, by omega⟩
  exact ⟨⟨m, e, B⟩, rfl, by show m < 256; omega, hok, w64_wf wB⟩
set_option maxRecDepth 100000 in
set_option maxHeartbeats 1000000 in
theorem open_ops {H : Type} {enc : TypeId × Value → H} {W : World} {base : Nat} {r : Reach} {v : Value} {d : DataW H} {ps : List MemPlace} (hv : Value.okWide Tryz.prog W r base 39 v)
    (h : DataW.Trod enc Tryz.prog W 0 (fun _ => true) true 39 v d ps) : ∃ L, shO.R W v L ∧ ∀ o ∈ L, o.ok := by
  obtain ⟨a0, n0, c0, rfl⟩ := okWide_slice Tryz.underlying39 hv
  obtain ⟨L, hL, _⟩ := Gen.SlR.open (R := OpRel) Tryz.underlying39 (show Tryz.prog.cellsOf 61 = 14 by kernel_rfl) (by decide) (fun cs hcs => cs_op hcs) (Gen.Cs.of_trod rfl h)
  refine ⟨L, Sh.R.of_slR (fun _ _ h => h.1) hL, fun o ho => ?_⟩
  obtain ⟨cs, _, h2⟩ := hL
  obtain ⟨k, hk, rfl⟩ := List.mem_iff_getElem.1 ho
  exact (h2 k hk).2
end Go.Proofs.YtblaaafpglomnaaGreat

namespace Go.Proofs.YtblaaafpglomnaaGreat
open Go.RowKit

/-- What the reference's `number` gives. -/
def numR (l : List UInt8) : Int × Int := match readU l with | some (x, r) => (x, (l.length : Int) - r.length) | none => (0, -1)
theorem numR_none {l : List UInt8} (h : readU l = none) : numR l = (0, -1) := by simp [numR, h]

set_option maxRecDepth 100000 in
set_option maxHeartbeats 2000000 in
theorem number_bad (w : World) (v0 : Value) (l : List UInt8) (h : SlB w v0 l) (hr : readU l = none) :
    Calls Tryz.prog 63 #[v0] w fun e w' => e = .returned (.tuple #[.int .u64 0, .int .i64 (-1)]) ∧ Keeps [] w w' := by
  rcases h.cases with ⟨rfl, a, cp, rfl, _, _⟩ | ⟨g, o, cp, rfl, hn, hm, hp, hg, hc⟩
  · clear h hr
    go_enter Tryz.func63, Tryz.ntmps63
    go_wp2
    go_ret2
    exact ⟨rfl, Keeps.refl _ _⟩
  · obtain ⟨k, t, rfl⟩ : ∃ k t, l = k :: t := by cases l with | nil => simp at hp | cons k t => exact ⟨k, t, rfl⟩
    have k0 := hc 0 (by simp)
    have k1 : 0 < t.length → w.cell? ⟨g, o + 1, none⟩ = some (.int .u8 ((t.headD 1).toNat : Int)) := fun ht => by
      have := hc 1 (by simp; omega)
      rw [this]; cases t with | nil => simp at ht | cons a b => rfl
    simp only [Nat.add_zero, List.getElem_cons_zero] at k0
    have hcond : ¬ (k.toNat ≤ 8 ∧ k.toNat ≤ t.length ∧ (0 < k.toNat → t.headD 1 ≠ 0)) := fun e => by rw [readU, if_pos e] at hr; cases hr
    have hk : k.toNat ≤ 255 := by have := k.toNat_lt; omega
    clear h hc hp hr
    simp only [List.length_cons] at *
    obtain ⟨t0, htt0⟩ : ∃ t0, t.headD 1 = t0 := ⟨_, rfl⟩
    rw [htt0] at k1 hcond
    clear htt0
    obtain ⟨kk, hkk⟩ : ∃ kk, k.toNat = kk := ⟨_, rfl⟩
    rw [hkk] at k0 hcond hk
    clear hkk
    obtain ⟨N, hNt⟩ : ∃ N, t.length = N := ⟨_, rfl⟩
    rw [hNt] at hcond k1 hn ⊢
    clear hNt
    have hNN : (N : Int) + 1 ≤ 9223372036854775807 := by unfold maxLen at hm; omega
    have wk : IntKind.i64.wrap (kk : Int) = kk := IntWalk.i64_in _ (by omega)
    have nz : ((N : Int) + 1 == 0) = false := by simp; omega
    by_cases h8 : 8 < kk
    · clear hcond k1
      have d8 : (8 : Int) < kk := by omega
      go_enter Tryz.func63, Tryz.ntmps63
      go_wp2
      go_ret2
      exact ⟨rfl, Keeps.refl _ _⟩
    · by_cases hNk : N < kk
      · clear hcond k1
        have d8 : decide ((8 : Int) < (kk : Int)) = false := by simp; omega
        have dN : (N : Int) + 1 < 1 + kk := by omega
        go_enter Tryz.func63, Tryz.ntmps63
        go_wp2
        go_ret2
        exact ⟨rfl, Keeps.refl _ _⟩
      · have hk0 : 0 < kk := by
          rcases Nat.eq_zero_or_pos kk with e | e
          · exact absurd ⟨by omega, by omega, fun h => by omega⟩ hcond
          · exact e
        have ht0 : t0 = 0 := by
          rcases Classical.em (t0 = 0) with e | e
          · exact e
          · exact absurd ⟨by omega, by omega, fun _ => e⟩ hcond
        have k1' := k1 (by omega)
        rw [ht0] at k1'
        have k1'' : w.cell? ⟨g, o + 1, none⟩ = some (.int .u8 0) := k1'
        have hki : (0 : Int) < kk := by omega
        have d8 : decide ((8 : Int) < (kk : Int)) = false := by simp; omega
        have dN : decide ((N : Int) + 1 < 1 + (kk : Int)) = false := by simp; omega
        clear hcond k1 k1' ht0
        go_enter Tryz.func63, Tryz.ntmps63
        go_wp2
        go_ret2
        exact ⟨rfl, Keeps.refl _ _⟩

set_option maxRecDepth 100000 in
set_option maxHeartbeats 4000000 in
theorem number_ok (w : World) (v0 : Value) (l rest : List UInt8) (x : Nat) (h : SlB w v0 l) (hr : readU l = some (x, rest)) :
    Calls Tryz.prog 63 #[v0] w fun e w' => (∃ j : Nat, 0 < j ∧ j ≤ l.length ∧ rest = l.drop j ∧ e = .returned (.tuple #[.int .u64 x, .int .i64 j])) ∧ Keeps [] w w' := by
  rcases h.cases with ⟨rfl, a, cp, rfl, _, _⟩ | ⟨g, o, cp, rfl, hn, hm, hp, hg, hc⟩
  · cases hr
  · obtain ⟨k, t, rfl⟩ : ∃ k t, l = k :: t := by cases l with | nil => simp at hp | cons k t => exact ⟨k, t, rfl⟩
    have k0 := hc 0 (by simp)
    have k1 : 0 < t.length → w.cell? ⟨g, o + 1, none⟩ = some (.int .u8 ((t.headD 1).toNat : Int)) := fun ht => by
      have := hc 1 (by simp; omega)
      rw [this]; cases t with | nil => simp at ht | cons a b => rfl
    have kj : ∀ j (hj : j < t.length), w.cell? ⟨g, o + 1 + j, none⟩ = some (.int .u8 (t[j].toNat : Int)) := fun j hj => by
      have := hc (j + 1) (by simp; omega)
      rw [show o + 1 + j = o + (j + 1) by omega, this]; rfl
    simp only [Nat.add_zero, List.getElem_cons_zero] at k0
    have hcond : k.toNat ≤ 8 ∧ k.toNat ≤ t.length ∧ (0 < k.toNat → t.headD 1 ≠ 0) := by
      rcases Classical.em (k.toNat ≤ 8 ∧ k.toNat ≤ t.length ∧ (0 < k.toNat → t.headD 1 ≠ 0)) with e | e
      · exact e
      · rw [readU, if_neg e] at hr; cases hr
    rw [readU, if_pos hcond] at hr
    simp only [Option.some.injEq, Prod.mk.injEq] at hr
    obtain ⟨h8, hN, ht0⟩ := hcond
    obtain ⟨hx, hrest⟩ := hr
    have hk : k.toNat ≤ 255 := by have := k.toNat_lt; omega
    clear h hc hp
    simp only [List.length_cons] at *
    replace hx := Lib.hid hx
    replace hrest := Lib.hid hrest
    replace kj := Lib.hid kj
    obtain ⟨t0, htt0⟩ : ∃ t0, t.headD 1 = t0 := ⟨_, rfl⟩
    rw [htt0] at k1 ht0
    clear htt0
    obtain ⟨kk, hkk⟩ : ∃ kk, k.toNat = kk := ⟨_, rfl⟩
    rw [hkk] at k0 h8 hN ht0 hk hx hrest
    clear hkk
    obtain ⟨N, hNt⟩ : ∃ N, t.length = N := ⟨_, rfl⟩
    rw [hNt] at hN k1 hn ⊢
    replace hNt := Lib.hid hNt
    have hNN : (N : Int) + 1 ≤ 9223372036854775807 := by unfold maxLen at hm; omega
    have d8 : decide ((8 : Int) < (kk : Int)) = false := by simp; omega
    have nz : ((N : Int) + 1 == 0) = false := by simp; omega
    have wk : IntKind.i64.wrap (kk : Int) = kk := IntWalk.i64_in _ (by omega)
    have dN : decide ((N : Int) + 1 < 1 + (kk : Int)) = false := by simp; omega
    have hfacts : (∃ _ : (0 : Int) < (kk : Int), 0 < kk ∧ w.cell? ⟨g, o + 1, none⟩ = some (.int .u8 (t0.toNat : Int)) ∧ ((t0.toNat : Int) == 0) = false) ∨ (decide ((0 : Int) < (kk : Int)) = false ∧ decide (0 < kk) = false) := by
      by_cases hk0 : 0 < kk
      · refine .inl ⟨by omega, hk0, k1 (by omega), ?_⟩
        have := ht0 hk0
        have h9 : t0.toNat ≠ 0 := fun e => this (UInt8.toNat_inj.1 (by simpa using e))
        simp; omega
      · exact .inr ⟨by simp; omega, by simp; omega⟩
    clear ht0 k1
    rcases hfacts with ⟨dk, hk0, k1', t0n⟩ | ⟨dk, dk2⟩
    all_goals
      go_enter Tryz.func63, Tryz.ntmps63
      go_wp2
      go_loopw [4, 5] (fun n i wr => ∃ j : Nat, j ≤ kk ∧ i = .int .i64 j ∧ n = .int .u64 (valU (t.take j)) ∧ Keeps [] w wr) (fun _ i _ => kk - (intOf i).toNat)
      case atStart => exact ⟨0, by omega, rfl, rfl, Keeps.refl _ _⟩
      case round =>
        obtain ⟨j, hj, rfl, rfl, hkw⟩ := hrel
        have q0 := hkw.val k0
        have hvl := valU_lt j (t.take j) (by rw [List.length_take]; have := hNt.out; omega)
        by_cases hlt3 : j < kk
        · have hjt : j < t.length := by have := hNt.out; omega
          have hcj := hkw.val (kj.out j hjt)
          rw [show o + 1 + j = o + (1 + j) by omega] at hcj
          have hb8 : (t[j].toNat : Int) ≤ 255 := by have := t[j].toNat_lt; omega
          have hstep : Hid (valU (t.take (j + 1)) = valU (t.take j) * 256 + t[j].toNat) := by show _ = _; rw [List.take_succ_eq_append_getElem hjt, valU_snoc]
          have hvb : (valU (t.take j) : Int) < 72057594037927936 := by
            have : (256 : Nat) ^ j ≤ 256 ^ 7 := Nat.pow_le_pow_right (by omega) (by omega)
            omega
          clear hvl
          generalize t[j].toNat = y at *
          generalize hvv : valU (t.take j) = vv at *
          replace hkw := Lib.hid hkw
          replace hvv := Lib.hid hvv
          go_wp2
          go_roundw
          case rel => exact ⟨j + 1, by omega, by go_num, by rw [hstep.out]; go_num, hkw.out⟩
          case measure => simp [intOf]; omega
        · have hjk : j = kk := by omega
          subst hjk
          clear hvl
          rw [hx.out]
          replace hkw := Lib.hid hkw
          go_wp2
          (refine wp_region_quiet_lit (by kernel_rfl) (by kernel_rfl) ?_; (repeat (first | go_big_quiet_step (fail) | quiet_step (fail))); with_reducible refine wpQuiet_nil ?_; intro _ hw'; obtain ⟨nq, hw''⟩ := hw'; subst hw'')
          (repeat go_step)
          go_ret2
          exact ⟨⟨1 + j, by omega, by omega, by rw [← hrest.out, Nat.add_comm 1 j]; rfl, rfl⟩, hkw.out.drewN _⟩
end Go.Proofs.YtblaaafpglomnaaGreat

namespace Go.Proofs.YtblaaafpglomnaaGreat
open Go.RowKit

/-- The reference's reader in memory. -/
def RdR (w : World) (br : Nat) (v : Value) (l : List UInt8) (e : Int) : Prop := w.heap[br]? = some (.cells #[v, .int .i64 e] 83 (0, 0)) ∧ SlB w v l
theorem RdR.keeps {w w' : World} {br : Nat} {v : Value} {l : List UInt8} {e : Int} (h : RdR w br v l e) (hk : Keeps [] w w') : RdR w' br v l e :=
  ⟨(hk.block br (cell2_of h.1).2.2.2.2 (by simp)).trans h.1, h.2.keeps hk⟩
set_option maxRecDepth 100000 in
set_option maxHeartbeats 1000000 in
theorem failR_c (w : World) (br : Nat) (v : Value) (l : List UInt8) (e x : Int) (h : RdR w br v l e) :
    Calls Tryz.prog 62 #[.pointer (some ⟨br, 0, none⟩), .int .i64 x] w fun en w' => en = .returned (.tuple #[]) ∧ RdR w' br (.slice none 0 0) [] x ∧ Keeps [br] w w' := by
  obtain ⟨c0, c1, f0, f1, hlt⟩ := cell2_of h.1
  replace h := Lib.hid h
  go_enter Tryz.func62, Tryz.ntmps62
  go_wp2
  go_end0
  exact ⟨rfl, ⟨set2_1 (set2_0 h.out.1 _) _, SlB.nil _⟩, ((Keeps.refl _ _).setCell (.inr (by simp)) _).setCell (.inr (by simp)) _⟩
set_option maxRecDepth 100000 in
set_option maxHeartbeats 2000000 in
theorem uintR_c (w : World) (br : Nat) (v : Value) (l : List UInt8) (h : RdR w br v l 0) :
    Calls Tryz.prog 36 #[.pointer (some ⟨br, 0, none⟩)] w fun en w' => en = .returned (.int .u64 (rdU l).1) ∧ (∃ v', RdR w' br v' (rdU l).2.1 (rdU l).2.2) ∧ Keeps [br] w w' := by
  cases hr : readU l with
  | none =>
    have e : rdU l = (0, [], 11) := by simp [rdU, hr]
    rw [e]
    obtain ⟨c0, c1, f0, f1, hlt⟩ := cell2_of h.1
    replace h := Lib.hid h
    replace hr := Lib.hid hr
    clear e f0 f1
    go_enter Tryz.func36, Tryz.ntmps36
    go_wp2_with fail
    refine (number_bad _ _ _ h.out.2 hr.out).mono ?_
    rintro e w1 ⟨rfl, hk1⟩
    replace hk1 := Lib.hid hk1
    go_wp2_with fail
    refine (failR_c _ br v l 0 11 (h.out.keeps hk1.out)).mono ?_
    rintro e w2 ⟨rfl, hR, hk2⟩
    replace hR := Lib.hid hR
    have hk3 : Hid (Keeps [br] w w2) := hk1.out.of_nil.trans hk2
    clear hk2
    go_wp2
    go_ret
    exact ⟨rfl, ⟨_, hR.out⟩, hk3.out⟩
  | some p =>
    obtain ⟨x, r⟩ := p
    have e : rdU l = (x, r, 0) := by simp [rdU, hr]
    rw [e]
    obtain ⟨c0, c1, f0, f1, hlt⟩ := cell2_of h.1
    rcases h.2.cases with ⟨rfl, a, cp, rfl, _, _⟩ | ⟨g, o, cp, rfl, hn, hm, hp, hg, _⟩
    · cases hr
    · have htl := fun j (hj : j ≤ l.length) => h.2.tail j hj
      obtain ⟨N, hN⟩ : ∃ N, l.length = N := ⟨_, rfl⟩
      simp only [hN] at hn hp c0 htl
      replace h := Lib.hid h
      replace hr := Lib.hid hr
      replace htl := Lib.hid htl
      replace hN := Lib.hid hN
      clear e f1
      go_enter Tryz.func36, Tryz.ntmps36
      go_wp2_with fail
      refine (number_ok _ _ _ _ _ (by have := h.out.2; rw [hN.out] at this; exact this) hr.out).mono ?_
      rintro e w1 ⟨⟨j, hj0, hjl, hrest, rfl⟩, hk1⟩
      rw [hN.out] at hjl
      have hR1 := h.out.keeps hk1
      have c01 := hk1.val c0
      have f01 := (cell2_of hR1.1).2.2.1
      have hlt1 := (cell2_of hR1.1).2.2.2.2
      have hs1 := (htl.out j hjl).keeps hk1
      rw [← hrest] at hs1
      replace hk1 := Lib.hid hk1
      replace hR1 := Lib.hid hR1
      replace hs1 := Lib.hid hs1
      clear hrest
      have hj2 : ¬ ((j : Int) < 0) := by omega
      by_cases hcj : cp = j
      · have hs := hs1.out
        rw [if_pos hcj] at hs
        subst hcj
        rw [Nat.sub_self, show N - cp = 0 by omega] at hs
        replace hs := Lib.hid hs
        clear hs1
        go_wp2
        go_ret
        exact ⟨rfl, ⟨_, set2_0 hR1.out.1 _, hs.out.kb (KB.setCell w1 _ c01 (by simp))⟩, hk1.out.of_nil.setCell (.inr (by simp)) _⟩
      · go_wp2
        go_ret
        have hs := hs1.out
        rw [if_neg hcj] at hs
        exact ⟨rfl, ⟨_, set2_0 hR1.out.1 _, hs.kb (KB.setCell w1 _ c01 (by simp))⟩, hk1.out.of_nil.setCell (.inr (by simp)) _⟩
end Go.Proofs.YtblaaafpglomnaaGreat

namespace Go.Proofs.YtblaaafpglomnaaGreat
open Go.RowKit

def RrS (w : World) (br : Nat) (s : RS) : Prop := ∃ v, RdR w br v s.1 s.2
theorem RrS.keeps {w w' : World} {br : Nat} {s : RS} (h : RrS w br s) (hk : Keeps [] w w') : RrS w' br s := by obtain ⟨v, h⟩ := h; exact ⟨v, h.keeps hk⟩
theorem RrS.lt {w : World} {br : Nat} {s : RS} (h : RrS w br s) : br < w.heap.size := by obtain ⟨v, h⟩ := h; exact (cell2_of h.1).2.2.2.2
set_option maxRecDepth 100000 in
set_option maxHeartbeats 1000000 in
theorem uintR_err (w : World) (br : Nat) (v : Value) (l : List UInt8) (e : Int) (h : RdR w br v l e) (he : e ≠ 0) :
    Calls Tryz.prog 36 #[.pointer (some ⟨br, 0, none⟩)] w fun en w' => en = .returned (.int .u64 0) ∧ w = w' := by
  obtain ⟨c0, c1, f0, f1, hlt⟩ := cell2_of h.1
  have he2 : (e == 0) = false := by simp [he]
  clear h he
  go_enter Tryz.func36, Tryz.ntmps36
  go_wp2
  go_ret
  exact ⟨rfl, rfl⟩
theorem uintRS_c (w : World) (br : Nat) (s : RS) (h : RrS w br s) :
    Calls Tryz.prog 36 #[.pointer (some ⟨br, 0, none⟩)] w fun en w' => en = .returned (.int .u64 (rU s).1) ∧ RrS w' br (rU s).2 ∧ Keeps [br] w w' := by
  obtain ⟨l, e⟩ := s
  obtain ⟨v, h⟩ := h
  by_cases he : e = 0
  · subst he
    refine (uintR_c w br v l h).mono fun en w' ⟨h1, h2, h3⟩ => ?_
    have : rU (l, 0) = ((rdU l).1, ((rdU l).2.1, (rdU l).2.2)) := by
      cases hx : readU l with
      | none => simp [rU, rdU, hx]
      | some p => obtain ⟨x, r⟩ := p; simp [rU, rdU, hx]
    rw [this]
    exact ⟨h1, h2, h3⟩
  · refine (uintR_err w br v l e h he).mono fun en w' ⟨h1, h2⟩ => ?_
    subst h2
    rw [show rU (l, e) = (0, (l, e)) by unfold rU; rw [if_neg he]]
    exact ⟨h1, ⟨v, h⟩, Keeps.refl _ _⟩
set_option maxRecDepth 100000 in
set_option maxHeartbeats 1000000 in
theorem boolR_err (w : World) (br : Nat) (v : Value) (l : List UInt8) (e : Int) (h : RdR w br v l e) (he : e ≠ 0) :
    Calls Tryz.prog 38 #[.pointer (some ⟨br, 0, none⟩)] w fun en w' => en = .returned (.bool false) ∧ w = w' := by
  obtain ⟨c0, c1, f0, f1, hlt⟩ := cell2_of h.1
  have he2 : (e == 0) = false := by simp [he]
  clear h he
  go_enter Tryz.func38, Tryz.ntmps38
  go_wp2
  go_ret
  exact ⟨rfl, rfl⟩
set_option maxRecDepth 100000 in
set_option maxHeartbeats 2000000 in
theorem boolR_bad (w : World) (br : Nat) (v : Value) (l : List UInt8) (h : RdR w br v l 0) (hr : readB l = none) :
    Calls Tryz.prog 38 #[.pointer (some ⟨br, 0, none⟩)] w fun en w' => en = .returned (.bool false) ∧ RdR w' br (.slice none 0 0) [] 11 ∧ Keeps [br] w w' := by
  obtain ⟨c0, c1, f0, f1, hlt⟩ := cell2_of h.1
  have hh := Lib.hid h
  rcases h.2.cases with ⟨rfl, a, cp, rfl, _, _⟩ | ⟨g, o, cp, rfl, hn, hm, hp, hg, hc⟩
  · clear h hr
    go_enter Tryz.func38, Tryz.ntmps38
    go_wp2_with fail
    refine (failR_c w br _ _ 0 11 hh.out).mono ?_
    rintro e w1 ⟨rfl, hR1, hk1⟩
    replace hR1 := Lib.hid hR1
    replace hk1 := Lib.hid hk1
    go_wp2
    go_ret
    exact ⟨rfl, hR1.out, hk1.out⟩
  · obtain ⟨k, t, rfl⟩ : ∃ k t, l = k :: t := by cases l with | nil => simp at hp | cons k t => exact ⟨k, t, rfl⟩
    have k0 := hc 0 (by simp)
    simp only [Nat.add_zero, List.getElem_cons_zero] at k0
    have hk1 : 1 < k.toNat := by
      rcases Nat.lt_or_ge 1 k.toNat with e | e
      · exact e
      · rw [readB, if_pos e] at hr; cases hr
    clear h hc hp hr
    have hk := k.toNat_lt
    simp only [List.length_cons] at *
    have hF : Calls Tryz.prog 62 #[.pointer (some ⟨br, 0, none⟩), .int .i64 11] w fun en w' => en = .returned (.tuple #[]) ∧ RdR w' br (.slice none 0 0) [] 11 ∧ Keeps [br] w w' := failR_c w br _ _ 0 11 hh.out
    clear hh
    generalize k.toNat = kk at *
    generalize t.length = N at *
    have hNN : (N : Int) + 1 ≤ 9223372036854775807 := by unfold maxLen at hm; omega
    have nz : ((N : Int) + 1 == 0) = false := by simp; omega
    have d1 : (1 : Int) < (kk : Int) := by omega
    replace hF := Lib.hid hF
    go_enter Tryz.func38, Tryz.ntmps38
    go_wp2_with fail
    refine hF.out.mono ?_
    rintro e w1 ⟨rfl, hR1, hk1⟩
    replace hR1 := Lib.hid hR1
    replace hk1 := Lib.hid hk1
    go_wp2
    go_ret
    exact ⟨rfl, hR1.out, hk1.out⟩
set_option maxRecDepth 100000 in
set_option maxHeartbeats 2000000 in
theorem boolR_ok (w : World) (br : Nat) (v : Value) (l rest : List UInt8) (x : Bool) (h : RdR w br v l 0) (hr : readB l = some (x, rest)) :
    Calls Tryz.prog 38 #[.pointer (some ⟨br, 0, none⟩)] w fun en w' => en = .returned (.bool x) ∧ (∃ v', RdR w' br v' rest 0) ∧ Keeps [br] w w' := by
  obtain ⟨c0, c1, f0, f1, hlt⟩ := cell2_of h.1
  rcases h.2.cases with ⟨rfl, a, cp, rfl, _, _⟩ | ⟨g, o, cp, rfl, hn, hm, hp, hg, hc⟩
  · cases hr
  · obtain ⟨k, t, rfl⟩ : ∃ k t, l = k :: t := by cases l with | nil => simp at hp | cons k t => exact ⟨k, t, rfl⟩
    have k0 := hc 0 (by simp)
    simp only [Nat.add_zero, List.getElem_cons_zero] at k0
    have hk1 : k.toNat ≤ 1 := by
      rcases Nat.lt_or_ge 1 k.toNat with e | e
      · rw [readB, if_neg (by omega)] at hr; cases hr
      · exact e
    rw [readB, if_pos hk1] at hr
    simp only [Option.some.injEq, Prod.mk.injEq] at hr
    obtain ⟨hx, rfl⟩ := hr
    have htl := SlB.tail h.2 1 (by simp)
    simp only [List.length_cons, List.drop_succ_cons, List.drop_zero, Nat.add_sub_cancel] at htl
    simp only [List.length_cons] at *
    have hh := Lib.hid h.1
    clear h hc hp
    generalize hkk : k.toNat = kk at *
    generalize t.length = N at *
    have hNN : (N : Int) + 1 ≤ 9223372036854775807 := by unfold maxLen at hm; omega
    have nz : ((N : Int) + 1 == 0) = false := by simp; omega
    have d1 : decide ((1 : Int) < (kk : Int)) = false := by simp; omega
    have h1N : (1 : Int) ≤ (N : Int) + 1 := by omega
    have hxx : ((kk : Int) == 1) = x := by rw [← hx, Bool.eq_iff_iff]; simp; omega
    replace hkk := Lib.hid hkk
    clear hx
    by_cases hcj : cp = 1
    · subst hcj
      obtain rfl : N = 0 := by omega
      rw [if_pos rfl, Nat.sub_self] at htl
      replace htl := Lib.hid htl
      go_enter Tryz.func38, Tryz.ntmps38
      go_wp2
      go_ret
      exact ⟨rfl, ⟨_, set2_0 hh.out _, htl.out.kb (KB.setCell w _ c0 (by simp))⟩, (Keeps.refl _ _).setCell (.inr (by simp)) _⟩
    · rw [if_neg hcj] at htl
      replace htl := Lib.hid htl
      go_enter Tryz.func38, Tryz.ntmps38
      go_wp2
      go_ret
      exact ⟨rfl, ⟨_, set2_0 hh.out _, htl.out.kb (KB.setCell w _ c0 (by simp))⟩, (Keeps.refl _ _).setCell (.inr (by simp)) _⟩
theorem boolRS_c (w : World) (br : Nat) (s : RS) (h : RrS w br s) :
    Calls Tryz.prog 38 #[.pointer (some ⟨br, 0, none⟩)] w fun en w' => en = .returned (.bool (rB s).1) ∧ RrS w' br (rB s).2 ∧ Keeps [br] w w' := by
  obtain ⟨l, e⟩ := s
  obtain ⟨v, h⟩ := h
  by_cases he : e = 0
  · subst he
    cases hr : readB l with
    | none =>
      rw [show rB (l, 0) = (false, ([], 11)) by unfold rB; rw [if_pos rfl]; simp only [hr]]
      exact (boolR_bad w br v l h hr).mono fun _ _ ⟨h1, h2, h3⟩ => ⟨h1, ⟨_, h2⟩, h3⟩
    | some p =>
      obtain ⟨x, r⟩ := p
      rw [show rB (l, 0) = (x, (r, 0)) by unfold rB; rw [if_pos rfl]; simp only [hr]]
      exact boolR_ok w br v l r x h hr
  · refine (boolR_err w br v l e h he).mono fun en w' ⟨h1, h2⟩ => ?_
    subst h2
    rw [show rB (l, e) = (false, (l, e)) by unfold rB; rw [if_neg he]]
    exact ⟨h1, ⟨v, h⟩, Keeps.refl _ _⟩
set_option maxRecDepth 100000 in
set_option maxHeartbeats 2000000 in
theorem countRS_c (w : World) (br : Nat) (l : List UInt8) (h : RrS w br (l, 0)) :
    Calls Tryz.prog 34 #[.pointer (some ⟨br, 0, none⟩), .int .i64 1024] w fun en w' => en = .returned (.int .i64 (rCK 1024 l).1) ∧ RrS w' br (rCK 1024 l).2 ∧ Keeps [br] w w' := by
  replace h := Lib.hid h
  cases hr : readU l with
  | none =>
    rw [show rCK 1024 l = (0, ([], 11)) by unfold rCK; simp only [hr]]
    have hu : rU (l, 0) = (0, ([], 11)) := by unfold rU; rw [if_pos rfl]; simp only [hr]
    replace hu := Lib.hid hu
    clear hr
    go_enter Tryz.func34, Tryz.ntmps34
    go_wp2_with fail
    refine (uintRS_c w br _ h.out).mono ?_
    rintro e w1 ⟨rfl, hR1, hk1⟩
    rw [show (rU (l, 0)).2 = ([], 11) from by rw [hu.out]] at hR1
    rw [show (rU (l, 0)).1 = 0 from by rw [hu.out]]
    replace hR1 : ∃ v, RdR w1 br v [] 11 := hR1
    obtain ⟨v1, hR1⟩ := hR1
    obtain ⟨c0, c1, f0, f1, hlt⟩ := cell2_of hR1.1
    replace hR1 := Lib.hid hR1
    replace hk1 := Lib.hid hk1
    go_wp2
    go_ret
    exact ⟨rfl, ⟨_, hR1.out⟩, hk1.out⟩
  | some p =>
    obtain ⟨n, r⟩ := p
    have hrc : rCK 1024 l = if cEK 1024 n r = 0 then (n, (r, 0)) else (0, ([], cEK 1024 n r)) := by unfold rCK; simp only [hr]
    have hu : rU (l, 0) = (n, (r, 0)) := by unfold rU; rw [if_pos rfl]; simp only [hr]
    have hn := readU_lt hr
    replace hu := Lib.hid hu
    replace hrc := Lib.hid hrc
    clear hr
    go_enter Tryz.func34, Tryz.ntmps34
    go_wp2_with fail
    refine (uintRS_c w br _ h.out).mono ?_
    rintro e w1 ⟨rfl, hR1, hk1⟩
    rw [show (rU (l, 0)).2 = (r, 0) from by rw [hu.out]] at hR1
    rw [show (rU (l, 0)).1 = n from by rw [hu.out]]
    replace hR1 : ∃ v, RdR w1 br v r 0 := hR1
    obtain ⟨v1, hR1⟩ := hR1
    obtain ⟨c0, c1, f0, f1, hlt⟩ := cell2_of hR1.1
    obtain ⟨a1, cp1, rfl⟩ := hR1.2.form
    have hmx := hR1.2.cap
    have hF := fun x => failR_c w1 br _ _ 0 x hR1
    have hcE : cEK 1024 n r = if 1024 < n then 8 else if r.length < n then 11 else 0 := rfl
    obtain ⟨N, hN⟩ : ∃ N, r.length = N := ⟨_, rfl⟩
    rw [hN] at c0 hmx hcE
    have hNN : (N : Int) ≤ 9223372036854775807 := by unfold maxLen at hmx; omega
    have hwr : IntKind.u64.wrap (N : Int) = N := by rw [IntKind.wrap_u64]; omega
    replace hN := Lib.hid hN
    replace hcE := Lib.hid hcE
    replace hF := Lib.hid hF
    replace hR1 := Lib.hid hR1
    replace hk1 := Lib.hid hk1
    by_cases hbig : 1024 < n
    · have hd : (1024 : Int) < (n : Int) := by omega
      go_wp2_with fail
      refine (hF.out 8).mono ?_
      rintro e w2 ⟨rfl, hR2, hk2⟩
      replace hk2 := hk1.out.trans hk2
      replace hR2 := Lib.hid hR2
      replace hk2 := Lib.hid hk2
      go_wp2
      go_ret
      rw [hrc.out, hcE.out, if_pos hbig, if_neg (by decide)]
      exact ⟨rfl, ⟨_, hR2.out⟩, hk2.out⟩
    · have hd : decide ((1024 : Int) < (n : Int)) = false := by simp; omega
      by_cases hb2 : N < n
      · have hd2 : (N : Int) < (n : Int) := by omega
        go_wp2_with fail
        refine (hF.out 11).mono ?_
        rintro e w2 ⟨rfl, hR2, hk2⟩
        replace hk2 := hk1.out.trans hk2
        replace hR2 := Lib.hid hR2
        replace hk2 := Lib.hid hk2
        go_wp2
        go_ret
        rw [hrc.out, hcE.out, if_neg hbig, if_pos hb2, if_neg (by decide)]
        exact ⟨rfl, ⟨_, hR2.out⟩, hk2.out⟩
      · have hd2 : decide ((N : Int) < (n : Int)) = false := by simp; omega
        go_wp2
        go_ret
        rw [hrc.out, hcE.out, if_neg hbig, if_neg hb2, if_pos rfl]
        exact ⟨rfl, ⟨_, hR1.out⟩, hk1.out⟩
end Go.Proofs.YtblaaafpglomnaaGreat

namespace Go.Proofs.YtblaaafpglomnaaGreat
open Go Go.RowKit

theorem RdR.setX {w : World} {br X : Nat} {v : Value} {l : List UInt8} {e a b : Int} {t : TypeId} (h : RdR w br v l e) (hX : w.heap[X]? = some (.cells #[.int .i64 a, .int .i64 b] t (0, 0))) (hne : X ≠ br) (x y : Int) :
    RdR ((w.setCell ⟨X, 0, none⟩ (.int .i64 x)).setCell ⟨X, 1, none⟩ (.int .i64 y)) br v l e := by
  obtain ⟨p0, p1, _⟩ := cells2 hX
  have h1 := setCs hX 0 (.int .i64 x)
  have p1' : (w.setCell ⟨X, 0, none⟩ (.int .i64 x)).cell? ⟨X, 1, none⟩ = some (.int .i64 b) := (cells2 (by simpa using h1)).2.1
  exact ⟨(setO hne.symm 1 _).trans ((setO hne.symm 0 _).trans h.1), h.2.kb ((KB.setCell w _ p0 (by simp)).trans (KB.setCell _ _ p1' (by simp)))⟩
set_option maxRecDepth 100000 in
set_option maxHeartbeats 4000000 in
theorem idRS_c (w : World) (br : Nat) (s : RS) (h : RrS w br s) :
    Calls Tryz.prog 37 #[.pointer (some ⟨br, 0, none⟩)] w fun en w' => en = .returned (idV (rI s).1.1 (rI s).1.2) ∧ RrS w' br (rI s).2 ∧ Keeps [br] w w' := by
  have hlt := h.lt
  have hkA : Keeps [] w (w.alloc (.cells #[.int .i64 0, .int .i64 0] tID)) := (Keeps.refl _ _).alloc _
  have hbA := heap_alloc_new w (.cells #[.int .i64 0, .int .i64 0] tID)
  have hRA := h.keeps hkA
  obtain ⟨X, hX⟩ : ∃ X, w.heap.size = X := ⟨_, rfl⟩
  have hzA : (w.alloc (.cells #[.int .i64 0, .int .i64 0] tID)).heap.size = X + 1 := by simp [hX]
  rw [hX] at hlt hbA
  have hrI : rI s = if (rU (rU s).2).2.2 = 0 then (if okID (rU s).1 (rU (rU s).2).1 = true then (((rU s).1, (rU (rU s).2).1), (rU (rU s).2).2) else ((0, 0), ([], 11))) else ((0, 0), (rU (rU s).2).2) := rfl
  obtain ⟨R, hR⟩ : ∃ R, rI s = R := ⟨_, rfl⟩
  rw [hR] at hrI ⊢
  replace hkA := Lib.hid hkA
  replace hbA := Lib.hid hbA
  replace hRA := Lib.hid hRA
  replace hrI := Lib.hid hrI
  clear h hR
  go_enter Tryz.func37, Tryz.ntmps37
  go_wp2_with fail
  refine (uintRS_c _ br s hRA.out).mono ?_
  rintro e w1 ⟨rfl, hR1, hk1⟩
  have hk01 := hkA.out.of_nil.trans hk1
  have hb1 := (hk1.block X (by omega) (by simp; omega)).trans hbA.out
  have hz1 := hk1.size
  rw [hzA] at hz1
  obtain ⟨n, hn⟩ : ∃ n, (rU s).1 = n := ⟨_, rfl⟩
  have hrI2 := hrI.out
  rw [hn] at hrI2 ⊢
  replace hR1 := Lib.hid hR1
  replace hk01 := Lib.hid hk01
  replace hb1 := Lib.hid hb1
  clear hk1 hbA hRA hkA hrI hn
  go_wp2_with fail
  refine (uintRS_c _ br _ hR1.out).mono ?_
  rintro e w2 ⟨rfl, hR2, hk2⟩
  have hk02 := hk01.out.trans hk2
  have hb2 := (hk2.block X (by omega) (by simp; omega)).trans hb1.out
  have hz2 := hk2.size
  obtain ⟨m, hm⟩ : ∃ n, (rU (rU s).2).1 = n := ⟨_, rfl⟩
  obtain ⟨⟨l2, e2⟩, hs2⟩ : ∃ n, (rU (rU s).2).2 = n := ⟨_, rfl⟩
  rw [hm, hs2] at hrI2
  rw [hs2] at hR2
  rw [hm]
  simp only at hrI2
  obtain ⟨v2, hR2⟩ : ∃ v, RdR w2 br v l2 e2 := hR2
  obtain ⟨c0, c1, f0, f1, hlt2⟩ := cell2_of hR2.1
  obtain ⟨a2, k2, rfl⟩ := hR2.2.form
  have hfX := frz hb2
  obtain ⟨p0, p1, _⟩ := cells2 hb2
  have hXb : X ≠ br := by omega
  obtain ⟨L2, hL2⟩ : ∃ n, l2.length = n := ⟨_, rfl⟩
  rw [hL2] at c0 hR2
  replace hL2 := Lib.hid hL2
  replace hR2 := Lib.hid hR2
  replace hb2 := Lib.hid hb2
  replace hk02 := Lib.hid hk02
  clear hk2 hb1 hR1 hk01 hm hs2
  by_cases he : e2 = 0
  case neg =>
    rw [if_neg he] at hrI2
    subst hrI2
    have he2 : (e2 == 0) = false := by simpa using he
    go_wp2
    have hst := st2 (x0 := .int .i64 0) (x1 := .int .i64 0) hb2.out
    refine bodyPost_ret (results_cell_row rfl _ _ _ _ _ _ _ rfl hst.1 Tryz.underlying45 rfl (by kernel_rfl)) rfl ?_
    exact ⟨rfl, ⟨_, hR2.out.setX hb2.out hXb 0 0⟩, hk02.out.fresh hst.2 (fun b hb => .inr (by simp at hb; omega))⟩
  case pos =>
    subst he
    rw [if_pos rfl] at hrI2
    by_cases hz : n = 0 ∧ m = 0
    case pos =>
      obtain ⟨rfl, rfl⟩ := hz
      rw [if_pos (by decide)] at hrI2
      subst hrI2
      go_wp2
      have hst := st2 (x0 := .int .i64 0) (x1 := .int .i64 0) hb2.out
      refine bodyPost_ret (results_cell_row rfl _ _ _ _ _ _ _ rfl hst.1 Tryz.underlying45 rfl (by kernel_rfl)) rfl ?_
      exact ⟨rfl, ⟨_, hR2.out.setX hb2.out hXb 0 0⟩, hk02.out.fresh hst.2 (fun b hb => .inr (by simp at hb; omega))⟩
    case neg =>
      have hnz : ((n : Int) == 0 && (m : Int) == 0) = false := by
        rw [Bool.and_eq_false_iff]
        by_cases h : n = 0
        · right; simp; omega
        · left; simp; omega
      by_cases h1 : n < 1
      case pos =>
        obtain rfl : n = 0 := by omega
        have hm0 : ((m : Int) == 0) = false := by simp; omega
        rw [if_neg (by simp [okID]; omega)] at hrI2
        subst hrI2
        clear hnz
        have q1 : (0 : Int) < 1 := by decide
        go_wp2_with fail
        refine (failR_c w2 br _ _ 0 11 hR2.out).mono ?_
        rintro e w3 ⟨rfl, hR3, hk3⟩
        have hb3 := (hk3.block X (by omega) (by simp; omega)).trans hb2.out
        obtain ⟨p0, p1, _⟩ := cells2 hb3
        have hfX := frz hb3
        have hk03 := Lib.hid (hk02.out.trans hk3)
        replace hR3 := Lib.hid hR3
        replace hb3 := Lib.hid hb3
        clear hk3 hR2 hb2 hk02
        go_wp2
        have hst := st2 (x0 := .int .i64 0) (x1 := .int .i64 0) hb3.out
        refine bodyPost_ret (results_cell_row rfl _ _ _ _ _ _ _ rfl hst.1 Tryz.underlying45 rfl (by kernel_rfl)) rfl ?_
        exact ⟨rfl, ⟨_, hR3.out.setX hb3.out hXb 0 0⟩, hk03.out.fresh hst.2 (fun b hb => .inr (by simp at hb; omega))⟩
      case neg =>
        have hn0 : ((n : Int) == 0) = false := by simp; omega
        clear hnz
        by_cases h2 : 8 < n
        case pos =>
          rw [if_neg (by simp [okID]; omega)] at hrI2
          subst hrI2
          have q1 : decide ((n : Int) < 1) = false := by simp; omega
          have q2 : (8 : Int) < n := by omega
          go_wp2_with fail
          refine (failR_c w2 br _ _ 0 11 hR2.out).mono ?_
          rintro e w3 ⟨rfl, hR3, hk3⟩
          have hb3 := (hk3.block X (by omega) (by simp; omega)).trans hb2.out
          obtain ⟨p0, p1, _⟩ := cells2 hb3
          have hfX := frz hb3
          have hk03 := Lib.hid (hk02.out.trans hk3)
          replace hR3 := Lib.hid hR3
          replace hb3 := Lib.hid hb3
          clear hk3 hR2 hb2 hk02
          go_wp2
          have hst := st2 (x0 := .int .i64 0) (x1 := .int .i64 0) hb3.out
          refine bodyPost_ret (results_cell_row rfl _ _ _ _ _ _ _ rfl hst.1 Tryz.underlying45 rfl (by kernel_rfl)) rfl ?_
          exact ⟨rfl, ⟨_, hR3.out.setX hb3.out hXb 0 0⟩, hk03.out.fresh hst.2 (fun b hb => .inr (by simp at hb; omega))⟩
        case neg =>
          by_cases h3 : m < 1
          case pos =>
            rw [if_neg (by simp [okID]; omega)] at hrI2
            subst hrI2
            have q1 : decide ((n : Int) < 1) = false := by simp; omega
            have q2 : decide ((8 : Int) < n) = false := by simp; omega
            have q3 : (m : Int) < 1 := by omega
            go_wp2_with fail
            refine (failR_c w2 br _ _ 0 11 hR2.out).mono ?_
            rintro e w3 ⟨rfl, hR3, hk3⟩
            have hb3 := (hk3.block X (by omega) (by simp; omega)).trans hb2.out
            obtain ⟨p0, p1, _⟩ := cells2 hb3
            have hfX := frz hb3
            have hk03 := Lib.hid (hk02.out.trans hk3)
            replace hR3 := Lib.hid hR3
            replace hb3 := Lib.hid hb3
            clear hk3 hR2 hb2 hk02
            go_wp2
            have hst := st2 (x0 := .int .i64 0) (x1 := .int .i64 0) hb3.out
            refine bodyPost_ret (results_cell_row rfl _ _ _ _ _ _ _ rfl hst.1 Tryz.underlying45 rfl (by kernel_rfl)) rfl ?_
            exact ⟨rfl, ⟨_, hR3.out.setX hb3.out hXb 0 0⟩, hk03.out.fresh hst.2 (fun b hb => .inr (by simp at hb; omega))⟩
          case neg =>
            by_cases h4 : 1099511627775 < m
            case pos =>
              rw [if_neg (by simp [okID]; omega)] at hrI2
              subst hrI2
              have q1 : decide ((n : Int) < 1) = false := by simp; omega
              have q2 : decide ((8 : Int) < n) = false := by simp; omega
              have q3 : decide ((m : Int) < 1) = false := by simp; omega
              have q4 : (1099511627775 : Int) < m := by omega
              go_wp2_with fail
              refine (failR_c w2 br _ _ 0 11 hR2.out).mono ?_
              rintro e w3 ⟨rfl, hR3, hk3⟩
              have hb3 := (hk3.block X (by omega) (by simp; omega)).trans hb2.out
              obtain ⟨p0, p1, _⟩ := cells2 hb3
              have hfX := frz hb3
              have hk03 := Lib.hid (hk02.out.trans hk3)
              replace hR3 := Lib.hid hR3
              replace hb3 := Lib.hid hb3
              clear hk3 hR2 hb2 hk02
              go_wp2
              have hst := st2 (x0 := .int .i64 0) (x1 := .int .i64 0) hb3.out
              refine bodyPost_ret (results_cell_row rfl _ _ _ _ _ _ _ rfl hst.1 Tryz.underlying45 rfl (by kernel_rfl)) rfl ?_
              exact ⟨rfl, ⟨_, hR3.out.setX hb3.out hXb 0 0⟩, hk03.out.fresh hst.2 (fun b hb => .inr (by simp at hb; omega))⟩
            case neg =>
              rw [if_pos (by simp [okID]; omega)] at hrI2
              subst hrI2
              have q1 : decide ((n : Int) < 1) = false := by simp; omega
              have q2 : decide ((8 : Int) < n) = false := by simp; omega
              have q3 : decide ((m : Int) < 1) = false := by simp; omega
              have q4 : decide ((1099511627775 : Int) < m) = false := by simp; omega
              have hwn : IntKind.i64.wrap (n : Int) = n := IntWalk.i64_in _ (by omega)
              have hwm : IntKind.i64.wrap (m : Int) = m := IntWalk.i64_in _ (by omega)
              go_wp2
              have hst := st2 (x0 := .int .i64 n) (x1 := .int .i64 m) hb2.out
              refine bodyPost_ret (results_cell_row rfl _ _ _ _ _ _ _ rfl hst.1 Tryz.underlying45 rfl (by kernel_rfl)) rfl ?_
              exact ⟨rfl, ⟨_, hR2.out.setX hb2.out hXb n m⟩, hk02.out.fresh hst.2 (fun b hb => .inr (by simp at hb; omega))⟩
def smI (n : Nat) : Int := if 9223372036854775807 < n then -1 else n
set_option maxRecDepth 100000 in
set_option maxHeartbeats 4000000 in
theorem small_c (w : World) (br : Nat) (s : RS) (h : RrS w br s) :
    Calls Tryz.prog 35 #[.pointer (some ⟨br, 0, none⟩)] w fun en w' => en = .returned (.int .i64 (smI (rU s).1)) ∧ RrS w' br (rU s).2 ∧ Keeps [br] w w' := by
  replace h := Lib.hid h
  go_enter Tryz.func35, Tryz.ntmps35
  go_wp2_with fail
  refine (uintRS_c _ br s h.out).mono ?_
  rintro e w1 ⟨rfl, hR1, hk1⟩
  obtain ⟨n, hn⟩ : ∃ n, (rU s).1 = n := ⟨_, rfl⟩
  rw [hn]
  replace hR1 := Lib.hid hR1
  replace hk1 := Lib.hid hk1
  replace hn := Lib.hid hn
  by_cases hb : 9223372036854775807 < n
  · have q : (9223372036854775807 : Int) < n := by omega
    go_wp2
    go_ret
    exact ⟨congrArg (fun x => Ending.returned (Value.int IntKind.i64 x)) (show (-1 : Int) = smI (rU s).1 by rw [hn.out, smI, if_pos hb]), hR1.out, hk1.out⟩
  · have q : decide ((9223372036854775807 : Int) < n) = false := by simp; omega
    have hw : IntKind.i64.wrap (n : Int) = n := IntWalk.i64_in _ (by omega)
    go_wp2
    go_ret
    exact ⟨congrArg (fun x => Ending.returned (Value.int IntKind.i64 x)) (show (n : Int) = smI (rU s).1 by rw [hn.out, smI, if_neg hb]), hR1.out, hk1.out⟩
end Go.Proofs.YtblaaafpglomnaaGreat

namespace Go.Proofs.YtblaaafpglomnaaGreat
open Go Go.RowKit

theorem encU_readU {l r : List UInt8} {x : Nat} (h : readU l = some (x, r)) : l = encU x ++ r := by
  cases l with
  | nil => cases h
  | cons k t =>
    rcases Classical.em (k.toNat ≤ 8 ∧ k.toNat ≤ t.length ∧ (0 < k.toNat → t.headD 1 ≠ 0)) with hc | hc
    · rw [readU, if_pos hc] at h
      simp only [Option.some.injEq, Prod.mk.injEq] at h
      obtain ⟨rfl, rfl⟩ := h
      have hl : (t.take k.toNat).length = k.toNat := by rw [List.length_take]; omega
      have hd := digs_valU k.toNat (t.take k.toNat) hl (fun b hb => by
        rw [List.getElem?_take] at hb
        split at hb
        · rename_i h0
          have := hc.2.2 (by omega)
          cases t with
          | nil => cases hb
          | cons a u => simp at hb this; rw [← hb]; exact this
        · cases hb)
      unfold encU
      rw [hd, hl]
      simp
    · rw [readU, if_neg hc] at h; cases h
theorem encB_readB {l r : List UInt8} {b : Bool} (h : readB l = some (b, r)) : l = encB b ++ r := by
  cases l with
  | nil => cases h
  | cons k t =>
    rcases Nat.lt_or_ge 1 k.toNat with e | e
    · rw [readB, if_neg (by omega)] at h; cases h
    · rw [readB, if_pos e] at h
      simp only [Option.some.injEq, Prod.mk.injEq] at h
      obtain ⟨rfl, rfl⟩ := h
      have hk : k = 0 ∨ k = 1 := by
        rcases (show k.toNat = 0 ∨ k.toNat = 1 by omega) with h | h
        · exact .inl (UInt8.toNat_inj.1 (by simpa using h))
        · exact .inr (UInt8.toNat_inj.1 (by simpa using h))
      rcases hk with rfl | rfl <;> rfl
theorem rU_inv {s s' : RS} {n : Nat} (h : rU s = (n, s')) (h0 : s'.2 = 0) : s = (encU n ++ s'.1, 0) ∧ s' = (s'.1, 0) ∧ n < 18446744073709551616 := by
  obtain ⟨l, e⟩ := s
  unfold rU at h
  split at h
  · rename_i he
    simp only at he
    subst he
    split at h
    · rename_i x r hr
      cases h
      simp only
      exact ⟨by rw [show l = _ from encU_readU hr], trivial, readU_lt hr⟩
    · cases h; cases h0
  · rename_i he
    cases h; exact absurd h0 he
theorem rB_inv {s s' : RS} {n : Bool} (h : rB s = (n, s')) (h0 : s'.2 = 0) : s = (encB n ++ s'.1, 0) ∧ s' = (s'.1, 0) := by
  obtain ⟨l, e⟩ := s
  unfold rB at h
  split at h
  · rename_i he
    simp only at he
    subst he
    split at h
    · rename_i x r hr
      cases h
      simp only
      exact ⟨by rw [show l = _ from encB_readB hr], trivial⟩
    · cases h; cases h0
  · rename_i he
    cases h; exact absurd h0 he
theorem rI_inv {s s' : RS} {a b : Nat} (h : rI s = ((a, b), s')) (h0 : s'.2 = 0) : s = (encU a ++ (encU b ++ s'.1), 0) ∧ s' = (s'.1, 0) ∧ okID a b = true := by
  unfold rI at h
  cases h1 : rU s with
  | mk n s1 =>
    cases h2 : rU s1 with
    | mk m s2 =>
      rw [h1] at h
      simp only at h
      rw [h2] at h
      simp only at h
      split at h
      · rename_i he
        split at h
        · rename_i hok
          cases h
          obtain ⟨e2, e3, _⟩ := rU_inv h2 he
          obtain ⟨e1, _, _⟩ := rU_inv h1 (by rw [e2])
          refine ⟨?_, e3, hok⟩
          rw [e1, e2]
        · cases h; cases h0
      · rename_i he
        cases h; exact absurd h0 he
def rRowR (s0 : RS) : Rw × RS :=
  ((⟨smI (rU s0).1, (rU (rU s0).2).1, (rI (rU (rU s0).2).2).1.1, (rI (rU (rU s0).2).2).1.2, smI (rU (rI (rU (rU s0).2).2).2).1, smI (rU (rU (rI (rU (rU s0).2).2).2).2).1, smI (rU (rU (rU (rI (rU (rU s0).2).2).2).2).2).1,
    (rB (rU (rU (rU (rI (rU (rU s0).2).2).2).2).2).2).1, (rB (rB (rU (rU (rU (rI (rU (rU s0).2).2).2).2).2).2).2).1, (rB (rB (rB (rU (rU (rU (rI (rU (rU s0).2).2).2).2).2).2).2).2).1,
    (rI (rB (rB (rB (rU (rU (rU (rI (rU (rU s0).2).2).2).2).2).2).2).2).2).1.1, (rI (rB (rB (rB (rU (rU (rU (rI (rU (rU s0).2).2).2).2).2).2).2).2).2).1.2⟩,
    smI (rU (rI (rB (rB (rB (rU (rU (rU (rI (rU (rU s0).2).2).2).2).2).2).2).2).2).2).1), (rU (rI (rB (rB (rB (rU (rU (rU (rI (rU (rU s0).2).2).2).2).2).2).2).2).2).2).2)
theorem rRowR_eq {s0 s1 s2 s3 s4 s5 s6 s7 s8 s9 s10 s : RS} {a b d e f k : Nat} {c1 c2 j1 j2 : Nat} {g h i : Bool} (h1 : rU s0 = (a, s1)) (h2 : rU s1 = (b, s2)) (h3 : rI s2 = ((c1, c2), s3)) (h4 : rU s3 = (d, s4)) (h5 : rU s4 = (e, s5)) (h6 : rU s5 = (f, s6)) (h7 : rB s6 = (g, s7)) (h8 : rB s7 = (h, s8)) (h9 : rB s8 = (i, s9)) (h10 : rI s9 = ((j1, j2), s10)) (h11 : rU s10 = (k, s)) :
    rRowR s0 = ((⟨smI a, b, c1, c2, smI d, smI e, smI f, g, h, i, j1, j2⟩, smI k), s) := by
  unfold rRowR
  simp only [h1, h2, h3, h4, h5, h6, h7, h8, h9, h10, h11]
theorem smI_w64 (n : Nat) : W64 (smI n) := by
  rw [w64_iff]
  unfold smI
  split <;> omega
theorem rRowR_ok (s : RS) : (rRowR s).1.1.ok ∧ W64 (rRowR s).1.2 := by
  have h1 := fun s => rI_le s
  have h2 := fun s => rU_lt s
  have h3 := fun n => smI_w64 n
  refine ⟨⟨h3 _, h2 _, ?_, ?_, h3 _, h3 _, h3 _, ?_, ?_⟩, h3 _⟩ <;> (rw [w64_iff]; simp only [rRowR])
  · have := (h1 (rU (rU s).2).2).1; omega
  · have := (h1 (rU (rU s).2).2).2; omega
  · have := (h1 (rB (rB (rB (rU (rU (rU (rI (rU (rU s).2).2).2).2).2).2).2).2).2).1; omega
  · have := (h1 (rB (rB (rB (rU (rU (rU (rI (rU (rU s).2).2).2).2).2).2).2).2).2).2; omega
theorem smI_in {n : Nat} (h : n < 9223372036854775808) : smI n = n := by unfold smI; rw [if_neg (by omega)]
theorem wi_pos {n : Nat} (h : n < 18446744073709551616) (h0 : 0 ≤ wi n) : wi n = n := by
  unfold wi at h0 ⊢
  rw [IntKind.wrap_i64] at h0 ⊢
  omega
theorem rowR_enc {r : Rw} (hv : r.1.val = true) (hn : RwN r) (l : List UInt8) : rRowR (encR r ++ l, 0) = (r, (l, 0)) := by
  obtain ⟨⟨cl, n, im, is, o, i, d, tc, wk, gb, lm, ls⟩, h⟩ := r
  obtain ⟨g1, g2, g3, g4, g5, g6, g7, g8, g9, g10⟩ := hn
  obtain ⟨v1, v2, v3, v4, v5, v6⟩ := val_iff.1 hv
  simp only at g1 g2 g3 g4 g5 g6 g7 g8 g9 g10 v1 v2 v3 v4 v5 v6
  have e0 : encR (⟨cl, n, im, is, o, i, d, tc, wk, gb, lm, ls⟩, h) ++ l = encU cl.toNat ++ (encU n ++ (encU im.toNat ++ (encU is.toNat ++ (encU o.toNat ++ (encU i.toNat ++ (encU d.toNat ++ (encB tc ++ (encB wk ++ (encB gb ++ (encU lm.toNat ++ (encU ls.toNat ++ (encU h.toNat ++ l)))))))))))) := by
    simp only [encR, List.append_assoc]
  rw [e0, rRowR_eq (rU_enc _ _ (by omega)) (rU_enc _ _ g2) (rI_enc _ _ _ (okID_of v2)) (rU_enc _ _ (by omega)) (rU_enc _ _ (by omega)) (rU_enc _ _ (by omega)) (rB_enc _ _) (rB_enc _ _) (rB_enc _ _) (rI_enc _ _ _ (okID_of v6)) (rU_enc _ _ (by omega))]
  rw [smI_in (by omega), smI_in (by omega), smI_in (by omega), smI_in (by omega), smI_in (by omega)]
  simp only [Prod.mk.injEq, En.mk.injEq, and_true, true_and]
  omega
/-- What a row was read from. -/
theorem row_inv {s s' : RS} {r : Rw} (h : rRow s = (r, s')) (h0 : s'.2 = 0) (hv : r.1.val = true) (hh : 1 ≤ r.2) : s = (encR r ++ s'.1, 0) ∧ s' = (s'.1, 0) := by
  cases h1 : rU s with
  | mk a s1 =>
  cases h2 : rU s1 with
  | mk b s2 =>
  cases h3 : rI s2 with
  | mk c s3 =>
  obtain ⟨c1, c2⟩ := c
  cases h4 : rU s3 with
  | mk d s4 =>
  cases h5 : rU s4 with
  | mk e s5 =>
  cases h6 : rU s5 with
  | mk f s6 =>
  cases h7 : rB s6 with
  | mk g s7 =>
  cases h8 : rB s7 with
  | mk hb s8 =>
  cases h9 : rB s8 with
  | mk i s9 =>
  cases h10 : rI s9 with
  | mk j s10 =>
  obtain ⟨j1, j2⟩ := j
  cases h11 : rU s10 with
  | mk k s11 =>
  rw [rRow_eq h1 h2 h3 h4 h5 h6 h7 h8 h9 h10 h11] at h
  cases h
  obtain ⟨v1, v2, v3, v4, v5, v6⟩ := val_iff.1 hv
  simp only at v1 v2 v3 v4 v5 v6 hh
  obtain ⟨e11, e12, n11⟩ := rU_inv h11 h0
  obtain ⟨e10, _, _⟩ := rI_inv h10 (by rw [e11])
  obtain ⟨e9, _⟩ := rB_inv h9 (by rw [e10])
  obtain ⟨e8, _⟩ := rB_inv h8 (by rw [e9])
  obtain ⟨e7, _⟩ := rB_inv h7 (by rw [e8])
  obtain ⟨e6, _, n6⟩ := rU_inv h6 (by rw [e7])
  obtain ⟨e5, _, n5⟩ := rU_inv h5 (by rw [e6])
  obtain ⟨e4, _, n4⟩ := rU_inv h4 (by rw [e5])
  obtain ⟨e3, _, _⟩ := rI_inv h3 (by rw [e4])
  obtain ⟨e2, _, n2⟩ := rU_inv h2 (by rw [e3])
  obtain ⟨e1, _, n1⟩ := rU_inv h1 (by rw [e2])
  refine ⟨?_, e12⟩
  rw [e1, e2, e3, e4, e5, e6, e7, e8, e9, e10, e11]
  have w1 := wi_pos n1 (by omega)
  have w4 := wi_pos n4 v3
  have w5 := wi_pos n5 v4
  have w6 := wi_pos n6 v5
  have w11 := wi_pos n11 (by omega)
  simp only [encR, w1, w4, w5, w6, w11, Int.toNat_natCast, List.append_assoc]
theorem wd_inv : ∀ (n : Nat) (last : Ky) (s : RS) (acc L : List Rw) (s' : RS), AccOk last acc → wd n last s acc = some (L, s') → s'.2 = 0 → ∃ L2, L = acc ++ L2 ∧ s = (encL L2 ++ s'.1, 0) ∧ s' = (s'.1, 0) ∧ L2.length = n ∧ Good L
  | 0, last, s, acc, L, s', hA, h, h0 => by
    simp only [wd, Option.some.injEq, Prod.mk.injEq] at h
    obtain ⟨rfl, rfl⟩ := h
    obtain ⟨a, b⟩ := s
    simp only at h0
    subst h0
    exact ⟨[], by simp, by simp [encL], rfl, rfl, hA.good⟩
  | n + 1, last, s, acc, L, s', hA, h, h0 => by
    rw [wd_succ] at h
    split at h
    · cases h
    · rename_i hk
      split at h
      · cases h
      · rename_i ha
        have ha : (addS (rRow s).1.1 (rRow s).1.2 acc).1 = 0 := Classical.not_not.1 ha
        obtain ⟨e1, e2, e3, _⟩ := addS_end hA hk ha
        obtain ⟨L2, f1, f2, f3, f4, f5⟩ := wd_inv n _ _ _ L s' (hA.step hk ha) h h0
        rw [e1] at f1
        obtain ⟨g1, g2⟩ := row_inv (s := s) (s' := (rRow s).2) (r := (rRow s).1) rfl (by rw [f2]) e2 e3
        refine ⟨(rRow s).1 :: L2, by rw [f1]; simp, ?_, f3, by simp [f4], f5⟩
        have g3 : (encR (rRow s).1 ++ (rRow s).2.1, (0 : Int)) = (encL ((rRow s).1 :: L2) ++ s'.1, 0) := by
          rw [show (rRow s).2.1 = encL L2 ++ s'.1 from by rw [f2], encL_cons, List.append_assoc]
        exact g1.trans g3
theorem rCK_cases (l : List UInt8) : (∃ n r, readU l = some (n, r) ∧ n ≤ 1024 ∧ rCK 1024 l = (n, (r, 0))) ∨ (∃ e, e ≠ 0 ∧ rCK 1024 l = (0, ([], e))) := by
  unfold rCK
  cases hr : readU l with
  | none => exact .inr ⟨11, by decide, rfl⟩
  | some p =>
    obtain ⟨n, r⟩ := p
    simp only
    split
    · rename_i h
      refine .inl ⟨n, r, rfl, ?_, rfl⟩
      unfold cEK at h
      split at h
      · cases h
      · omega
    · rename_i h; exact .inr ⟨_, h, rfl⟩
/-- What is decoded was encoded so. -/
theorem dec_enc {l : List UInt8} {S : List Rw} (h : sdec l = some S) : Good S ∧ encS S = l := by
  unfold sdec at h
  rcases rCK_cases l with ⟨n, r, h1, h2, h3⟩ | ⟨e, h1, h2⟩
  · rw [h3] at h
    simp only at h
    cases hw : wd n (0, 0) (r, 0) [] with
    | none => rw [hw] at h; cases h
    | some p =>
      obtain ⟨L, s'⟩ := p
      rw [hw] at h
      simp only [outS] at h
      split at h
      · rename_i hd
        cases h
        have hs0 : s'.2 = 0 ∧ s'.1 = [] := by
          unfold doneE at hd
          split at hd
          · cases hd
          · rename_i hn
            refine ⟨hd, ?_⟩
            by_cases he : s'.1 = []
            · exact he
            · exact absurd ⟨hd, he⟩ hn
        obtain ⟨L2, f1, f2, f3, f4, f5⟩ := wd_inv n (0, 0) (r, 0) [] S s' AccOk.nil hw hs0.1
        rw [List.nil_append] at f1
        subst f1
        refine ⟨f5, ?_⟩
        unfold encS
        rw [encU_readU h1, f4]
        have := congrArg Prod.fst f2
        simp only [hs0.2, List.append_nil] at this
        rw [this]
      · cases h
  · rw [h2] at h
    have hd : doneE ([] : List UInt8) e ≠ 0 := by
      unfold doneE
      rw [if_neg (fun h => h1 h.1)]; exact h1
    simp only [wd, outS] at h
    rw [if_neg hd] at h
    cases h
/-- The specification's loop. -/
def dR : Nat → RS → List Rw → Option (List Rw × RS)
  | 0, s, T => some (T, s)
  | n + 1, s, T => if s.2 ≠ 0 then some (T, s) else if (addS (rRowR s).1.1 (rRowR s).1.2 T).1 ≠ 0 then none else dR n (rRowR s).2 (addS (rRowR s).1.1 (rRowR s).1.2 T).2
def outR (l : List UInt8) : Option (List Rw × RS) → Option (List Rw)
  | none => none
  | some (T, s) => if s.2 = 0 ∧ encS T = l then some T else none
def sdecR (l : List UInt8) : Option (List Rw) := outR l (dR (rCK 1024 l).1 (rCK 1024 l).2 [])
theorem dR_good : ∀ (n : Nat) (s : RS) (T L : List Rw) (s' : RS), Good T → dR n s T = some (L, s') → Good L
  | 0, s, T, L, s', g, h => by
    simp only [dR, Option.some.injEq, Prod.mk.injEq] at h
    rw [← h.1]; exact g
  | n + 1, s, T, L, s', g, h => by
    unfold dR at h
    split at h
    · simp only [Option.some.injEq, Prod.mk.injEq] at h
      rw [← h.1]; exact g
    · split at h
      · cases h
      · exact dR_good n _ _ L s' (g.add (rRowR_ok s).1 (rRowR_ok s).2) h
theorem dR_enc : ∀ (T acc : List Rw), (∀ r ∈ T, r.1.val = true ∧ 1 ≤ r.2 ∧ RwN r) → SortedS (acc ++ T) → acc.length + T.length ≤ 1024 → dR T.length (encL T, 0) acc = some (acc ++ T, ([], 0))
  | [], acc, _, _, _ => by simp [dR, encL]
  | r :: T, acc, hr, hs, hl => by
    obtain ⟨h1, h2, h3⟩ := hr r (by simp)
    have hss := List.pairwise_append.1 hs
    have hlt : ∀ x ∈ acc, klt x.1.key r.1.key := fun x hx => hss.2.2 x hx r (by simp)
    have hadd : addS r.1 r.2 acc = (0, acc ++ [r]) := addS_app (acc := acc) h1 h2 hlt (by simp at hl; omega)
    rw [encL_cons, List.length_cons]
    unfold dR
    rw [rowR_enc h1 h3]
    simp only [ne_eq, not_true_eq_false, if_false]
    rw [hadd]
    simp only [ne_eq, not_true_eq_false, if_false]
    rw [dR_enc T (acc ++ [r]) (fun q hq => hr q (by simp [hq])) (by simpa using hs) (by simp at hl ⊢; omega)]
    simp
theorem sdecR_inv {l : List UInt8} {T : List Rw} (h : sdecR l = some T) : Good T ∧ encS T = l := by
  unfold sdecR at h
  cases hd : dR (rCK 1024 l).1 (rCK 1024 l).2 [] with
  | none => rw [hd] at h; cases h
  | some p =>
    obtain ⟨L, s'⟩ := p
    rw [hd] at h
    simp only [outR] at h
    split at h
    · rename_i hh
      cases h
      exact ⟨dR_good _ _ _ _ _ Good.nil hd, hh.2⟩
    · cases h
theorem sdecR_enc {S : List Rw} (g : Good S) : sdecR (encS S) = some S := by
  have hl := g.len
  have hr : readU (encS S) = some (S.length, encL S) := readU_encU' _ _ (by omega)
  have hc : rCK 1024 (encS S) = (S.length, (encL S, 0)) := by
    have hcE : cEK 1024 S.length (encL S) = 0 := by
      unfold cEK
      rw [if_neg (by omega), if_neg (by have := encL_ge S; omega)]
    unfold rCK
    simp only [hr]
    rw [if_pos hcE]
  unfold sdecR
  rw [hc]
  have := dR_enc S [] (fun r hr => ⟨(g.ok r hr).2.1, (g.ok r hr).2.2.1, g.num hr⟩) (by simpa using g.srt) (by simpa using hl)
  show outR _ (dR S.length (encL S, 0) []) = _
  rw [this]
  simp [outR]
theorem dec_agree (l : List UInt8) : sdec l = sdecR l := by
  cases h : sdec l with
  | some S =>
    obtain ⟨g, e⟩ := dec_enc h
    rw [← e, sdecR_enc g]
  | none =>
    cases h2 : sdecR l with
    | none => rfl
    | some T =>
      obtain ⟨g, e⟩ := sdecR_inv h2
      rw [← e, enc_dec g] at h
      cases h
end Go.Proofs.YtblaaafpglomnaaGreat
