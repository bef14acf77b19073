/- Texts that the laws lean on, in the order in which they build. Trace.Encode. (Printed by mktrenc.py.) A run of operations (plain): what it leaves as it was. The specification's comparison of byte strings. The contracts of package wire's reader of bytes. The closure that reads a number, where it fails. The closure that reads a number, where it succeeds. The contracts of package wire's reader of numbers, and the reference's. wire's reader in whatever state: Uint, Bool. wire's reader: Count with whatever bound. The reader: Int, Count in whatever state; bytes.Equal. -/
import Derived.Test.YthfdngjbcgkkfaaGreatQ12
import Derived.Lib.Hide
set_option linter.unusedVariables false
set_option linter.unusedSimpArgs false
namespace Go.Proofs.YthfdngjbcgkkfaaGreat
open Go.RowKit Go.ChangeShapes

set_option maxRecDepth 100000 in
set_option maxHeartbeats 20000000 in
theorem encode_c (w : World) (B bt bm : Nat) (vo vh vg : Value) (t : Tr) (tn : Nat) (h : TrM w B bt bm vo vh vg t) (hN : t.Num) (ht : t.told = tn) (htn : tn ≤ 100000) (hh : t.hist.length ≤ 1000) (hi5 : ∀ a ∈ t.hist, a.ins.length ≤ 1000) (hg : t.ag.length ≤ 100000) :
    Calls Tryz.prog 10 #[.pointer (some ⟨bt, 0, none⟩)] w fun e w' => ∃ v, e = .returned v ∧ Buf w' w.heap.size v (encT t) ∧ Keeps [] w w' := by
  obtain ⟨n0, n1, n2, n3, n4⟩ := hN
  have hlt := h.lt.1
  obtain ⟨XH, hXH, hLH⟩ := h.hi
  have hHok := h.inv.hi
  obtain ⟨ah, ch, rfl⟩ := hXH.form
  obtain ⟨_, _, _, hlh, hcm, _⟩ := hXH.r.form
  have hel := fun k hk => hXH.r.elem (k := k) hk
  obtain ⟨ag, cg, rfl⟩ := h.ag.form
  have htr := fun (W : World) (hk : Keeps [] w W) => (h.keeps hk).cells
  have hXl := hLH.1
  obtain ⟨im, is, ⟨s0, s1, s2⟩, qs, told, hist, state, agl, rf⟩ := t
  simp only at n0 n1 n2 n3 n4 hHok ht hh hi5 hg htr hXl hLH
  obtain ⟨N8, hN8⟩ : ∃ n, XH.length = n := ⟨_, rfl⟩
  obtain ⟨NG, hNG⟩ : ∃ n, agl.length = n := ⟨_, rfl⟩
  rw [hN8] at hXl
  rw [hNG] at hg
  simp only [hN8, hNG] at htr
  rw [← hXl] at hh
  subst ht
  have hwt : IntKind.u64.wrap (tn : Int) = tn := by rw [IntKind.wrap_u64]; omega
  have hw8 : IntKind.u64.wrap (N8 : Int) = N8 := by rw [IntKind.wrap_u64]; omega
  have hwg : IntKind.u64.wrap (NG : Int) = NG := by rw [IntKind.wrap_u64]; omega
  have hHl : ∀ a ∈ hist, a.Ok ∧ a.ins.length ≤ 1000 := fun a ha => ⟨hHok a ha, hi5 a ha⟩
  have hfin : ∀ l : List UInt8, l = encI im ++ encI is ++ encI s0 ++ encU s1 ++ encI s2 ++ encU tn ++ encU N8 ++ encH hist ++ encU NG ++ encB rf → l = encT ⟨im, is, (s0, s1, s2), qs, tn, hist, state, agl, rf⟩ := fun l e => by
    rw [e]
    unfold encT encT0
    simp only [hNG, ← hXl, Int.toNat_natCast]
  have hE := EB.new w
  obtain ⟨BB, hBB⟩ : ∃ b, w.heap.size = b := ⟨_, rfl⟩
  have hE' : EB w (w.alloc (.cells #[.slice none 0 0] tBs)) BB [] := by rw [← hBB]; exact hE
  have hfr : bt < BB := by omega
  have hge : BB ≤ BB := Nat.le_refl _
  replace hE := Lib.hid hE'
  replace hLH := Lib.hid hLH
  replace hHl := Lib.hid hHl
  replace hel := Lib.hid hel
  replace htr := Lib.hid htr
  replace hN8 := Lib.hid hN8
  replace hNG := Lib.hid hNG
  replace hXl := Lib.hid hXl
  replace hfin := Lib.hid hfin
  clear hE' hHok hi5 h hXH hlh
  go_enter Tryz.func10, Tryz.ntmps10
  go_wp2
  try rw [hBB]
  replace hBB := Lib.hid hBB
  obtain ⟨d0, d1, d2, d3, d4, d5, d6, d7, d8, d9, d10, d11⟩ := htr.out _ hE.out.k
  generalize (w.alloc (.cells #[.slice none 0 0] tBs)) = W1 at *
  have hxl : (flatI [im, is, s0]).length ≤ 27 := flatI_len (L := [im, is, s0]) (by simp only [List.mem_cons, List.not_mem_nil, or_false]; rintro z (rfl | rfl | rfl) <;> assumption)
  have hED := hE.out.keeps (Keeps.refl [] W1).drew
  have hc := ints_c w (W1.drew.alloc (.cells #[.int .i64 im, .int .i64 is, .int .i64 s0] 3)) BB ([] : List UInt8) _ [im, is, s0] (hED.keeps ((Keeps.refl [] W1.drew).alloc (.cells #[.int .i64 im, .int .i64 is, .int .i64 s0] 3))) (made_ints W1.drew [im, is, s0] #[.int .i64 im, .int .i64 is, .int .i64 s0] 3 rfl rfl (by omega)) (by simp only [List.mem_cons, List.not_mem_nil, or_false]; rintro z (rfl | rfl | rfl) <;> assumption) (by simp) (by simp)
  rw [List.nil_append] at hc
  have hED2 := Lib.hid (hED.keeps ((Keeps.refl [] W1.drew).alloc (.cells #[.int .i64 im, .int .i64 is, .int .i64 s0] 3)))
  replace hED := Lib.hid hED
  replace hc := Lib.hid hc
  refine Free.wp_region_chain (fun i => i == 16 || i == 17) (fun i => true) (fun j b => BB ≤ b) (by kernel_rfl) (by kernel_rfl) (by kernel_rfl) ?_
  (repeat (first | (apply Free.cw_pure rfl rfl; (intro w'; go_simp <;> exact rfl); go_frame) | (apply Free.cw_steady rfl rfl rfl; (intro w' hS; have q0 := Free.sx_cell hS d0 (fun _ _ hT => by have := hT; omega); have q1 := Free.sx_cell hS d1 (fun _ _ hT => by have := hT; omega); have q2 := Free.sx_cell hS d2 (fun _ _ hT => by have := hT; omega); go_simp <;> exact rfl); go_frame) | (refine Free.cw_skip rfl ?_; go_frame)))
  refine Free.cw_loud rfl rfl (fun K hK => ?_)
  go_wp2
  refine hK _ _ rfl (Free.KeepsP.alloc _ _ _) ?_
  clear hK K
  (repeat (apply Free.cw_pure rfl rfl; (intro w'; go_simp <;> exact rfl); go_frame))
  refine Free.cw_loud rfl rfl (fun K hK => ?_)
  go_wp2_with fail
  refine hc.out.mono ?_
  rintro e w2 ⟨rfl, hE2, hK2⟩
  refine hK _ _ rfl ?_ ?_
  · have := hED2.out.kp hE2 hK2.sz
    rw [hBB.out] at this
    exact this
  clear hK K hc
  (repeat (apply Free.cw_pure rfl rfl; (intro w'; go_simp <;> exact rfl); go_frame))
  refine Free.cw_nil ?_
  replace hE := Lib.hid hE2
  clear hED hED2 hE2 hK2
  obtain ⟨l1, hl1⟩ : ∃ y, flatI [im, is, s0] = y := ⟨_, rfl⟩
  rw [hl1] at hE hxl
  replace hl1 := Lib.hid hl1
  clear d0 d1 d2 d3 d4 d5 d6 d7 d8 d9 d10 d11
  obtain ⟨d0, d1, d2, d3, d4, d5, d6, d7, d8, d9, d10, d11⟩ := htr.out _ hE.out.k
  go_upto_region 4 with fail
  obtain ⟨av1, Nv1, cv1, hbb, hB⟩ := hE.out.open
  obtain ⟨b0, bf, bl⟩ := cl1 hbb
  replace hbb := Lib.hid hbb
  replace hB := Lib.hid hB
  have hED := hE.out.keeps (Keeps.refl [] w2).drew
  have hbbD : w2.drew.heap[BB]? = _ := hbb.out
  have hBD := hB.out.keep (Keeps.refl [] w2).drew
  have hc := hED.call hbbD hBD (appU_c w2.drew w.heap.size (Value.slice av1 Nv1 cv1) l1 s1 hBD n3 (by omega) hED.k.size)
  have hlow := EPost.low hBD hED
  rw [hBB.out] at hlow
  have hxl : (encU s1).length ≤ 9 := encU_len n3
  obtain ⟨l2, hl2⟩ : ∃ y, l1 ++ encU s1 = y := ⟨_, rfl⟩
  have hn2 : l2.length ≤ l1.length + 9 := by rw [← hl2, List.length_append]; omega
  rw [hl2] at hc
  replace hc := Lib.hid hc
  replace hl2 := Lib.hid hl2
  replace hlow := Lib.hid hlow
  clear hxl hED hbbD hBD
  refine Free.wp_region_chain (fun i => i == 6 || i == 7) (fun i => true) (fun j b => (j = 6 ∨ j = 7) ∧ BB ≤ b) (by kernel_rfl) (by kernel_rfl) (by kernel_rfl) ?_
  (repeat (first | (apply Free.cw_pure rfl rfl; (intro w'; go_simp <;> exact rfl); go_frame) | (apply Free.cw_steady rfl rfl rfl; (intro w' hS; have q0 := Free.sx_cell hS b0 (fun j hp hT => by rcases hT.1 with rfl | rfl <;> exact Bool.false_ne_true (hp.symm.trans (by kernel_rfl))); have q1 := Free.sx_cell hS d3 (fun _ _ hT => by have := hT.2; omega); go_simp <;> exact rfl); go_frame) | (refine Free.cw_skip rfl ?_; go_frame)))
  refine Free.cw_loud rfl rfl (fun K hK => ?_)
  go_wp2_with fail
  refine hc.out.mono ?_
  rintro e w2 ⟨a2, N2, c2, rfl, hb2, hE2, hK2, hbb2, hB2, hkp⟩
  refine hK _ _ rfl (hkp.out.mono (fun b hb => ⟨.inl trivial, hlow.out b hb⟩)) ?_
  clear hK K hc hlow hkp b0 bf bl hbb hB hE
  obtain ⟨g0, gf, gl⟩ := cl1 hb2.out
  (repeat (apply Free.cw_pure rfl rfl; (intro w'; go_simp <;> exact rfl); go_frame))
  refine Free.cw_loud rfl rfl (fun K hK => ?_)
  go_wp2
  refine hK _ _ rfl (Free.KeepsP.setCell _ ⟨.inr trivial, hge⟩ _) ?_
  clear hK K
  (repeat (apply Free.cw_pure rfl rfl; (intro w'; go_simp <;> exact rfl); go_frame))
  refine Free.cw_nil ?_
  clear g0 gf gl hb2
  clear hK2
  generalize (w2.setCell ⟨BB, 0, none⟩ (.slice a2 N2 c2)) = W2 at *
  have hE := hE2
  have hbb := hbb2
  have hB := hB2
  clear hE2 hbb2 hB2
  obtain ⟨b0, bf, bl⟩ := cl1 hbb.out
  clear d0 d1 d2 d3 d4 d5 d6 d7 d8 d9 d10 d11
  obtain ⟨d0, d1, d2, d3, d4, d5, d6, d7, d8, d9, d10, d11⟩ := htr.out _ hE.out.k
  go_upto_region 5 with fail
  clear d0 d1 d2 d3 d4 d5 d6 d7 d8 d9 d10 d11
  obtain ⟨d0, d1, d2, d3, d4, d5, d6, d7, d8, d9, d10, d11⟩ := htr.out _ hE.out.k
  have hxl : (flatI [s2]).length ≤ 9 := flatI_len (L := [s2]) (by simp only [List.mem_cons, List.mem_singleton, List.not_mem_nil, or_false]; rintro z rfl <;> assumption)
  have hc := ints_c w (W2.alloc (.cells #[.int .i64 s2] 3)) BB l2 _ [s2] (hE.out.keeps ((Keeps.refl [] W2).alloc (.cells #[.int .i64 s2] 3))) (made_ints W2 [s2] #[.int .i64 s2] 1 rfl rfl (by omega)) (by simp only [List.mem_cons, List.mem_singleton, List.not_mem_nil, or_false]; rintro z rfl <;> assumption) (by simp) (by omega)
  have hkm := ((Keeps.refl [] W2).alloc (.cells #[.int .i64 s2] 3)).kb8
  obtain ⟨l3, hl3⟩ : ∃ y, l2 ++ flatI [s2] = y := ⟨_, rfl⟩
  have hn3 : l3.length ≤ l2.length + 9 := by rw [← hl3, List.length_append]; omega
  rw [hl3] at hc
  replace hc := Lib.hid hc
  replace hl3 := Lib.hid hl3
  replace hkm := Lib.hid hkm
  clear hxl
  go_wp2_with fail
  refine hc.out.mono ?_
  rintro e w3 ⟨rfl, hE2, hK2⟩
  replace hK2 := Lib.hid (hkm.out.trans hK2)
  replace hE := Lib.hid hE2
  clear hc b0 bf bl hbb hB hE2 hkm
  go_upto_region 6 with fail
  clear hK2
  obtain ⟨av4, Nv4, cv4, hbb, hB⟩ := hE.out.open
  obtain ⟨b0, bf, bl⟩ := cl1 hbb
  replace hbb := Lib.hid hbb
  replace hB := Lib.hid hB
  clear d0 d1 d2 d3 d4 d5 d6 d7 d8 d9 d10 d11
  obtain ⟨d0, d1, d2, d3, d4, d5, d6, d7, d8, d9, d10, d11⟩ := htr.out _ hE.out.k
  have hED := hE.out.keeps (Keeps.refl [] w3).drew
  have hbbD : w3.drew.heap[BB]? = _ := hbb.out
  have hBD := hB.out.keep (Keeps.refl [] w3).drew
  have hxl : (encU tn).length ≤ 9 := encU_len (by omega)
  have hc := appU_c w3.drew w.heap.size (Value.slice av4 Nv4 cv4) l3 tn hBD (by omega) (by omega) hED.k.size
  have hlow := EPost.low hBD hED
  rw [hBB.out] at hlow
  have hsT : (Value.slice av4 Nv4 cv4).ownBlock ≠ some bt := fun e => by have := (hBD.tagB e).1; have := hBB.out; omega
  have hsB : (Value.slice av4 Nv4 cv4).ownBlock ≠ some BB := hBD.sep hbbD (by decide)
  replace hc := Lib.hid hc
  replace hlow := Lib.hid hlow
  replace hsT := Lib.hid hsT
  replace hsB := Lib.hid hsB
  replace hED := Lib.hid hED
  replace hBD := Lib.hid hBD
  clear hbbD
  refine Free.wp_region_chain (fun i => i == 6 || i == 13 || i == 14) (fun i => true) (fun j b => ((j = 6 ∨ j = 13) ∧ ((Value.slice av4 Nv4 cv4).ownBlock = some b ∨ w3.heap.size ≤ b)) ∨ (j = 14 ∧ b = BB)) (by kernel_rfl) (by kernel_rfl) (by kernel_rfl) ?_
  (repeat (first | (apply Free.cw_pure rfl rfl; (intro w'; go_simp <;> exact rfl); go_frame) | (apply Free.cw_steady rfl rfl rfl; (intro w' hS; have q0 := Free.sx_cell hS b0 (fun j hp hT => by rcases hT with ⟨_, hT | hT⟩ | ⟨rfl, _⟩; exact hsB.out hT; omega; exact Bool.false_ne_true (hp.symm.trans (by kernel_rfl))); have q1 := Free.sx_cell hS d6 (fun _ _ hT => by rcases hT with ⟨_, hT | hT⟩ | ⟨_, hT⟩; exact hsT.out hT; omega; omega); have q2 := Free.sx_cell hS d8 (fun _ _ hT => by rcases hT with ⟨_, hT | hT⟩ | ⟨_, hT⟩; exact hsT.out hT; omega; omega); go_simp <;> exact rfl); go_frame) | (refine Free.cw_skip rfl ?_; go_frame)))
  refine Free.cw_loud rfl rfl (fun K hK => ?_)
  go_wp2_with fail
  refine hc.out.mono ?_
  rintro e wA ⟨v1, rfl, hB1, hG1⟩
  have hkp : Free.KeepsP (fun b => ((Value.slice av4 Nv4 cv4)).ownBlock = some b ∨ w3.heap.size ≤ b) w3.drew wA := Free.KeepsP.of hG1.keepsO (fun b hb => .inl (by simpa using hb))
  refine hK _ _ rfl (hkp.mono (fun b hb => .inl ⟨.inl trivial, hb⟩)) ?_
  clear hK K hkp hc
  have hs1 : w3.heap.size ≤ wA.heap.size := hG1.keepsO.size
  have hsw : w.heap.size ≤ w3.heap.size := hED.out.k.size
  have hxl2 : (encU N8).length ≤ 9 := encU_len (by omega)
  have hlv : (l3 ++ encU tn).length ≤ 140737488355000 := by rw [List.length_append]; omega
  have hc := appU_c wA w.heap.size v1 (l3 ++ encU tn) N8 hB1 (by omega) hlv (Nat.le_trans hsw hs1)
  replace hc := Lib.hid hc
  replace hB1 := Lib.hid hB1
  replace hG1 := Lib.hid hG1
  (repeat (first | (apply Free.cw_pure rfl rfl; (intro w'; go_simp <;> exact rfl); go_frame) | (apply Free.cw_steady rfl rfl rfl; (intro w' hS; have q0 := Free.sx_cell hS b0 (fun j hp hT => by rcases hT with ⟨_, hT | hT⟩ | ⟨rfl, _⟩; exact hsB.out hT; omega; exact Bool.false_ne_true (hp.symm.trans (by kernel_rfl))); have q1 := Free.sx_cell hS d6 (fun _ _ hT => by rcases hT with ⟨_, hT | hT⟩ | ⟨_, hT⟩; exact hsT.out hT; omega; omega); have q2 := Free.sx_cell hS d8 (fun _ _ hT => by rcases hT with ⟨_, hT | hT⟩ | ⟨_, hT⟩; exact hsT.out hT; omega; omega); go_simp <;> exact rfl); go_frame) | (refine Free.cw_skip rfl ?_; go_frame)))
  refine Free.cw_loud rfl rfl (fun K hK => ?_)
  go_wp2_with fail
  refine hc.out.mono ?_
  rintro e w5 ⟨v2, rfl, hB2, hG2⟩
  have hkp : Free.KeepsP (fun b => ((Value.slice av4 Nv4 cv4)).ownBlock = some b ∨ w3.heap.size ≤ b) wA w5 := Free.KeepsP.of hG2.keepsO (fun b hb => by
      rcases hG1.out.own with e | ⟨q, e, hq⟩
      · rw [e] at hb; exact .inl (by simpa using hb)
      · rw [e] at hb; simp at hb; subst hb; exact .inr hq)
  refine hK _ _ rfl (hkp.mono (fun b hb => .inl ⟨.inr trivial, hb⟩)) ?_
  clear hK K hkp hc
  have hEP := hED.out.post (w := w3.drew) hbb.out hBD.out hB2 (hG1.out.trans hG2)
  obtain ⟨a5, N5, c5, he, hb2, hE2, hK2, hbb2, hB3, -⟩ := hEP
  cases he
  obtain ⟨l5, hl5⟩ : ∃ y, l3 ++ encU tn ++ encU N8 = y := ⟨_, rfl⟩
  have hn5 : l5.length ≤ l3.length + 18 := by rw [← hl5, List.length_append, List.length_append]; omega
  rw [hl5] at hE2 hB2 hB3
  replace hB2 := hB3
  clear hB3 hG1 hG2 hB1 hED hBD hlow hsT hsB b0 bf bl hbb hB hE hs1 hsw hlv hxl hxl2
  replace hl5 := Lib.hid hl5
  obtain ⟨g0, gf, gl⟩ := cl1 hb2.out
  (repeat (apply Free.cw_pure rfl rfl; (intro w'; go_simp <;> exact rfl); go_frame))
  refine Free.cw_loud rfl rfl (fun K hK => ?_)
  go_wp2
  refine hK _ _ rfl (Free.KeepsP.setCell _ (.inr ⟨trivial, rfl⟩) _) ?_
  clear hK K
  (repeat (apply Free.cw_pure rfl rfl; (intro w'; go_simp <;> exact rfl); go_frame))
  refine Free.cw_nil ?_
  clear g0 gf gl hb2
  clear hK2
  generalize (w5.setCell ⟨BB, 0, none⟩ (.slice a5 N5 c5)) = W5 at *
  have hE := hE2
  have hbb := hbb2
  have hB := hB2
  clear hE2 hbb2 hB2
  obtain ⟨b0, bf, bl⟩ := cl1 hbb.out
  clear d0 d1 d2 d3 d4 d5 d6 d7 d8 d9 d10 d11
  obtain ⟨d0, d1, d2, d3, d4, d5, d6, d7, d8, d9, d10, d11⟩ := htr.out _ hE.out.k
  go_wp2
  have hHl0 := hHl
  have hP : l5.length ≤ 1000 := by omega
  go_loopw [62] (fun iv wr => ∃ k : Nat, iv = .int .i64 k ∧ k ≤ N8 ∧ Hid (EB w wr BB (l5 ++ encH (hist.take k)))) (fun iv _ => N8 - (intOf iv).toNat)
  case atStart => exact ⟨0, rfl, by omega, by rw [show encH (hist.take 0) = [] from rfl, List.append_nil]; exact hE⟩
  case round =>
    obtain ⟨k, rfl, hk, hEr⟩ := hrel
    clear hE hbb hB b0 bf bl d0 d1 d2 d3 d4 d5 d6 d7 d8 d9 d10 d11
    have hE := hEr
    clear hEr
    obtain ⟨d0, d1, d2, d3, d4, d5, d6, d7, d8, d9, d10, d11⟩ := htr.out _ hE.out.k
    have hlenr : (l5 ++ encH (hist.take k)).length ≤ 30000000 := by
      have h1 := encH_len (L := hist.take k) (fun a ha => hHl.out a (List.mem_of_mem_take ha))
      rw [List.length_append]
      rw [List.length_take] at h1
      have : 27100 * min k hist.length ≤ 27100 * 1000 := Nat.mul_le_mul_left _ (by omega)
      omega
    by_cases hlt : k < N8
    · skip
      have hlt2 : (k : Int) < N8 := by omega
      have hkX : k < XH.length := by rw [hN8.out]; exact hlt
      have hkH : k < hist.length := by rw [← hXl.out]; exact hlt
      obtain ⟨g, of, c', hv, he⟩ := hel.out k hkX
      rw [hN8.out] at hv
      cases hv
      have hIA := hLH.out.2 k _ _ (List.getElem?_eq_getElem hkX) (List.getElem?_eq_getElem hkH)
      have hOk := hHl.out _ (List.getElem_mem hkH)
      obtain ⟨a, ha⟩ : ∃ a, hist[k] = a := ⟨_, rfl⟩
      rw [ha] at hIA hOk
      obtain ⟨⟨e0, e1, e2, e3, e4, e5, e6, e7, e8, e9⟩, hx⟩ : ∃ x, XH[k] = x := ⟨_, rfl⟩
      rw [hx] at hIA he
      obtain ⟨i1, i2, i3, i4, i5, i6, i7, hI⟩ := hIA
      simp only [AnV.v] at i1 i2 i3 i4 i5 i6 i7 hI
      obtain ⟨ia, ic, hvi, hic1, hic2, _⟩ := hI.r.form
      have heli := fun j hj => hI.r.elem (k := j) hj
      obtain ⟨NI, hNI⟩ : ∃ n, a.ins.length = n := ⟨_, rfl⟩
      rw [hNI] at hvi hic1
      have hNI2 : NI ≤ 1000 := by rw [← hNI]; exact hOk.2
      obtain ⟨rfl, rfl, rfl⟩ : e7 = ia ∧ e8 = NI ∧ e9 = ic := by simpa using hvi
      have hwi : IntKind.u64.wrap (e8 : Int) = e8 := by rw [IntKind.wrap_u64]; omega
      have z0 := hOk.1.q.1
      have z1 := hOk.1.q.2.1
      have z2 := hOk.1.q.2.2
      have z3 := hOk.1.ep
      have z6 := hOk.1.lu
      simp only [Ans.q] at z0 z1 z2
      rw [← i1] at z0
      rw [← i2] at z1
      rw [← i3] at z2
      rw [← i4] at z3
      rw [← i7] at z6
      have hAe : encA a = encI e0 ++ encI e1 ++ encU e2 ++ encI e3 ++ encB e4 ++ encB e5 ++ encI e6 ++ encU e8 ++ encXs a.ins := by unfold encA encA0; rw [i1, i2, i3, i4, i5, i6, i7, hNI]
      have f0 := hE.out.k.val (he 0 _ rfl)
      have f1 := hE.out.k.val (he 1 _ rfl)
      have f2 := hE.out.k.val (he 2 _ rfl)
      have f3 := hE.out.k.val (he 3 _ rfl)
      have f4 := hE.out.k.val (he 4 _ rfl)
      have f5 := hE.out.k.val (he 5 _ rfl)
      have f6 := hE.out.k.val (he 6 _ rfl)
      have f7 := hE.out.k.val (he 7 _ rfl)
      simp only [shA, AnV.v, Nat.add_zero] at f0 f1 f2 f3 f4 f5 f6 f7
      have hkM := (Keeps.refl [] wr).alloc (.cells #[.int .i64 e0, .int .i64 e1, .int .u64 e2, .int .i64 e3, .bool e4, .bool e5, .int .i64 e6, .slice e7 e8 e9] tA)
      have hA := heap_alloc_new wr (.cells #[.int .i64 e0, .int .i64 e1, .int .u64 e2, .int .i64 e3, .bool e4, .bool e5, .int .i64 e6, .slice e7 e8 e9] tA)
      have hEM := hE.out.keeps hkM
      replace hE := Lib.hid hEM
      replace hA := Lib.hid hA
      replace ha := Lib.hid ha
      replace hx := Lib.hid hx
      replace hAe := Lib.hid hAe
      replace hOk := Lib.hid hOk
      replace heli := Lib.hid heli
      replace hNI := Lib.hid hNI
      have hxn := hI
      replace hI := Lib.hid hI
      clear hxn hkM hEM he hvi i1 i2 i3 i4 i5 i6 i7
      go_upto_region 10 with fail
      generalize (wr.alloc (.cells #[.int .i64 e0, .int .i64 e1, .int .u64 e2, .int .i64 e3, .bool e4, .bool e5, .int .i64 e6, .slice e7 e8 e9] tA)) = W0 at *
      obtain ⟨XA, hXA⟩ : ∃ X, wr.heap.size = X := ⟨_, rfl⟩
      rw [hXA] at hA ⊢
      replace hXA := Lib.hid hXA
      clear f0 f1 f2 f3 f4 f5 f6 f7
      obtain ⟨k0, k1, k2, k3, k4, k5, k6, k7, kf, kl⟩ := cl8 hA.out
      clear d0 d1 d2 d3 d4 d5 d6 d7 d8 d9 d10 d11
      obtain ⟨d0, d1, d2, d3, d4, d5, d6, d7, d8, d9, d10, d11⟩ := htr.out _ hE.out.k
      obtain ⟨av6, Nv6, cv6, hbb, hB⟩ := hE.out.open
      obtain ⟨b0, bf, bl⟩ := cl1 hbb
      replace hbb := Lib.hid hbb
      replace hB := Lib.hid hB
      have hxl : (flatI [e0, e1]).length ≤ 18 := flatI_len (L := [e0, e1]) (by simp only [List.mem_cons, List.mem_singleton, List.not_mem_nil, or_false]; rintro z (rfl | rfl) <;> assumption)
      have hc := ints_c w (W0.alloc (.cells #[.int .i64 e0, .int .i64 e1] 3)) BB (l5 ++ encH (hist.take k)) _ [e0, e1] (hE.out.keeps ((Keeps.refl [] W0).alloc (.cells #[.int .i64 e0, .int .i64 e1] 3))) (made_ints W0 [e0, e1] #[.int .i64 e0, .int .i64 e1] 2 rfl rfl (by omega)) (by simp only [List.mem_cons, List.mem_singleton, List.not_mem_nil, or_false]; rintro z (rfl | rfl) <;> assumption) (by simp) (by omega)
      have hkm := ((Keeps.refl [] W0).alloc (.cells #[.int .i64 e0, .int .i64 e1] 3)).kb8
      obtain ⟨l7, hl7⟩ : ∃ y, (l5 ++ encH (hist.take k)) ++ flatI [e0, e1] = y := ⟨_, rfl⟩
      have hn7 : l7.length ≤ (l5 ++ encH (hist.take k)).length + 18 := by rw [← hl7, List.length_append]; omega
      rw [hl7] at hc
      replace hc := Lib.hid hc
      replace hl7 := Lib.hid hl7
      replace hkm := Lib.hid hkm
      clear hxl
      go_wp2_with fail
      refine hc.out.mono ?_
      rintro e w7 ⟨rfl, hE2, hK2⟩
      replace hK2 := Lib.hid (hkm.out.trans hK2)
      replace hE := Lib.hid hE2
      clear hc b0 bf bl hbb hB hE2 hkm
      replace hA := Lib.hid (hK2.out.b _ _ _ _ hA.out (by decide) (by decide))
      clear k0 k1 k2 k3 k4 k5 k6 k7 kf kl
      obtain ⟨k0, k1, k2, k3, k4, k5, k6, k7, kf, kl⟩ := cl8 hA.out
      go_upto_region 11 with fail
      clear hK2
      obtain ⟨av8, Nv8, cv8, hbb, hB⟩ := hE.out.open
      obtain ⟨b0, bf, bl⟩ := cl1 hbb
      replace hbb := Lib.hid hbb
      replace hB := Lib.hid hB
      clear d0 d1 d2 d3 d4 d5 d6 d7 d8 d9 d10 d11
      obtain ⟨d0, d1, d2, d3, d4, d5, d6, d7, d8, d9, d10, d11⟩ := htr.out _ hE.out.k
      have hxl : (encU e2).length ≤ 9 := encU_len z2
      have hc := hE.out.call hbb.out hB.out (appU_c w7 w.heap.size (Value.slice av8 Nv8 cv8) l7 e2 hB.out z2 (by omega) hE.out.k.size)
      obtain ⟨l9, hl9⟩ : ∃ y, l7 ++ encU e2 = y := ⟨_, rfl⟩
      have hn9 : l9.length ≤ l7.length + 9 := by rw [← hl9, List.length_append]; omega
      rw [hl9] at hc
      replace hc := Lib.hid hc
      replace hl9 := Lib.hid hl9
      clear hxl
      go_wp2_with fail
      refine hc.out.mono ?_
      rintro e w9 ⟨a9, N9, c9, rfl, hb2, hE2, hK2, hbb2, hB2, -⟩
      clear hc b0 bf bl hbb hB hE
      obtain ⟨d0, df, dl⟩ := cl1 hb2.out
      replace hA := Lib.hid (hK2.out.b _ _ _ _ hA.out (by decide) (by decide))
      clear k0 k1 k2 k3 k4 k5 k6 k7 kf kl
      obtain ⟨k0, k1, k2, k3, k4, k5, k6, k7, kf, kl⟩ := cl8 hA.out
      go_upto_region 12 with fail
      clear d0 df dl hb2 hK2
      generalize (w9.setCell ⟨BB, 0, none⟩ (.slice a9 N9 c9)) = W9 at *
      have hE := hE2
      have hbb := hbb2
      have hB := hB2
      clear hE2 hbb2 hB2
      obtain ⟨b0, bf, bl⟩ := cl1 hbb.out
      clear d0 d1 d2 d3 d4 d5 d6 d7 d8 d9 d10 d11
      obtain ⟨d0, d1, d2, d3, d4, d5, d6, d7, d8, d9, d10, d11⟩ := htr.out _ hE.out.k
      have hxl : (flatI [e3]).length ≤ 9 := flatI_len (L := [e3]) (by simp only [List.mem_cons, List.mem_singleton, List.not_mem_nil, or_false]; rintro z rfl <;> assumption)
      have hc := ints_c w (W9.alloc (.cells #[.int .i64 e3] 3)) BB l9 _ [e3] (hE.out.keeps ((Keeps.refl [] W9).alloc (.cells #[.int .i64 e3] 3))) (made_ints W9 [e3] #[.int .i64 e3] 1 rfl rfl (by omega)) (by simp only [List.mem_cons, List.mem_singleton, List.not_mem_nil, or_false]; rintro z rfl <;> assumption) (by simp) (by omega)
      have hkm := ((Keeps.refl [] W9).alloc (.cells #[.int .i64 e3] 3)).kb8
      obtain ⟨l10, hl10⟩ : ∃ y, l9 ++ flatI [e3] = y := ⟨_, rfl⟩
      have hn10 : l10.length ≤ l9.length + 9 := by rw [← hl10, List.length_append]; omega
      rw [hl10] at hc
      replace hc := Lib.hid hc
      replace hl10 := Lib.hid hl10
      replace hkm := Lib.hid hkm
      clear hxl
      go_wp2_with fail
      refine hc.out.mono ?_
      rintro e w10 ⟨rfl, hE2, hK2⟩
      replace hK2 := Lib.hid (hkm.out.trans hK2)
      replace hE := Lib.hid hE2
      clear hc b0 bf bl hbb hB hE2 hkm
      replace hA := Lib.hid (hK2.out.b _ _ _ _ hA.out (by decide) (by decide))
      clear k0 k1 k2 k3 k4 k5 k6 k7 kf kl
      obtain ⟨k0, k1, k2, k3, k4, k5, k6, k7, kf, kl⟩ := cl8 hA.out
      go_upto_region 13 with fail
      clear hK2
      obtain ⟨av11, Nv11, cv11, hbb, hB⟩ := hE.out.open
      obtain ⟨b0, bf, bl⟩ := cl1 hbb
      replace hbb := Lib.hid hbb
      replace hB := Lib.hid hB
      clear d0 d1 d2 d3 d4 d5 d6 d7 d8 d9 d10 d11
      obtain ⟨d0, d1, d2, d3, d4, d5, d6, d7, d8, d9, d10, d11⟩ := htr.out _ hE.out.k
      have hED := hE.out.keeps (Keeps.refl [] w10).drew
      have hbbD : w10.drew.heap[BB]? = _ := hbb.out
      have hBD := hB.out.keep (Keeps.refl [] w10).drew
      have hxl : (encB e4).length ≤ 9 := (by simp [encB])
      have hc := appB_c w10.drew w.heap.size (Value.slice av11 Nv11 cv11) l10 e4 hBD  (by omega) hED.k.size
      have hlow := EPost.low hBD hED
      rw [hBB.out] at hlow
      have hsA : (Value.slice av11 Nv11 cv11).ownBlock ≠ some XA := hBD.sep (w := w10.drew) hA.out (by decide)
      have hsT : (Value.slice av11 Nv11 cv11).ownBlock ≠ some bt := fun e => by have := (hBD.tagB e).1; have := hBB.out; omega
      have hsB : (Value.slice av11 Nv11 cv11).ownBlock ≠ some BB := hBD.sep hbbD (by decide)
      have hAB : XA ≠ BB := tag_ne hA.out hbb.out (by decide)
      replace hc := Lib.hid hc
      replace hlow := Lib.hid hlow
      replace hsT := Lib.hid hsT
      replace hsB := Lib.hid hsB
      replace hED := Lib.hid hED
      replace hBD := Lib.hid hBD
      replace hsA := Lib.hid hsA
      clear hbbD
      refine Free.wp_region_chain (fun i => i == 3 || i == 6 || i == 7) (fun i => true) (fun j b => ((j = 3 ∨ j = 6) ∧ ((Value.slice av11 Nv11 cv11).ownBlock = some b ∨ w10.heap.size ≤ b)) ∨ (j = 7 ∧ b = BB)) (by kernel_rfl) (by kernel_rfl) (by kernel_rfl) ?_
      (repeat (first | (apply Free.cw_pure rfl rfl; (intro w'; go_simp <;> exact rfl); go_frame) | (apply Free.cw_steady rfl rfl rfl; (intro w' hS; have q0 := Free.sx_cell hS b0 (fun j hp hT => by rcases hT with ⟨_, hT | hT⟩ | ⟨rfl, _⟩; exact hsB.out hT; omega; exact Bool.false_ne_true (hp.symm.trans (by kernel_rfl))); have q1 := Free.sx_cell hS k4 (fun _ _ hT => by rcases hT with ⟨_, hT | hT⟩ | ⟨_, hT⟩; exact hsA.out hT; omega; omega); have q2 := Free.sx_cell hS k5 (fun _ _ hT => by rcases hT with ⟨_, hT | hT⟩ | ⟨_, hT⟩; exact hsA.out hT; omega; omega); go_simp <;> exact rfl); go_frame) | (refine Free.cw_skip rfl ?_; go_frame)))
      refine Free.cw_loud rfl rfl (fun K hK => ?_)
      go_wp2_with fail
      refine hc.out.mono ?_
      rintro e wA ⟨v1, rfl, hB1, hG1⟩
      have hkp : Free.KeepsP (fun b => ((Value.slice av11 Nv11 cv11)).ownBlock = some b ∨ w10.heap.size ≤ b) w10.drew wA := Free.KeepsP.of hG1.keepsO (fun b hb => .inl (by simpa using hb))
      refine hK _ _ rfl (hkp.mono (fun b hb => .inl ⟨.inl trivial, hb⟩)) ?_
      clear hK K hkp hc
      have hs1 : w10.heap.size ≤ wA.heap.size := hG1.keepsO.size
      have hsw : w.heap.size ≤ w10.heap.size := hED.out.k.size
      have hxl2 : (encB e5).length ≤ 9 := (by simp [encB])
      have hlv : (l10 ++ encB e4).length ≤ 140737488355000 := by rw [List.length_append]; omega
      have hc := appB_c wA w.heap.size v1 (l10 ++ encB e4) e5 hB1  hlv (Nat.le_trans hsw hs1)
      replace hc := Lib.hid hc
      replace hB1 := Lib.hid hB1
      replace hG1 := Lib.hid hG1
      (repeat (first | (apply Free.cw_pure rfl rfl; (intro w'; go_simp <;> exact rfl); go_frame) | (apply Free.cw_steady rfl rfl rfl; (intro w' hS; have q0 := Free.sx_cell hS b0 (fun j hp hT => by rcases hT with ⟨_, hT | hT⟩ | ⟨rfl, _⟩; exact hsB.out hT; omega; exact Bool.false_ne_true (hp.symm.trans (by kernel_rfl))); have q1 := Free.sx_cell hS k4 (fun _ _ hT => by rcases hT with ⟨_, hT | hT⟩ | ⟨_, hT⟩; exact hsA.out hT; omega; omega); have q2 := Free.sx_cell hS k5 (fun _ _ hT => by rcases hT with ⟨_, hT | hT⟩ | ⟨_, hT⟩; exact hsA.out hT; omega; omega); go_simp <;> exact rfl); go_frame) | (refine Free.cw_skip rfl ?_; go_frame)))
      refine Free.cw_loud rfl rfl (fun K hK => ?_)
      go_wp2_with fail
      refine hc.out.mono ?_
      rintro e w12 ⟨v2, rfl, hB2, hG2⟩
      have hkp : Free.KeepsP (fun b => ((Value.slice av11 Nv11 cv11)).ownBlock = some b ∨ w10.heap.size ≤ b) wA w12 := Free.KeepsP.of hG2.keepsO (fun b hb => by
          rcases hG1.out.own with e | ⟨q, e, hq⟩
          · rw [e] at hb; exact .inl (by simpa using hb)
          · rw [e] at hb; simp at hb; subst hb; exact .inr hq)
      refine hK _ _ rfl (hkp.mono (fun b hb => .inl ⟨.inr trivial, hb⟩)) ?_
      clear hK K hkp hc
      have hEP := hED.out.post (w := w10.drew) hbb.out hBD.out hB2 (hG1.out.trans hG2)
      obtain ⟨a12, N12, c12, he, hb2, hE2, hK2, hbb2, hB3, -⟩ := hEP
      cases he
      obtain ⟨l12, hl12⟩ : ∃ y, l10 ++ encB e4 ++ encB e5 = y := ⟨_, rfl⟩
      have hn12 : l12.length ≤ l10.length + 18 := by rw [← hl12, List.length_append, List.length_append]; omega
      rw [hl12] at hE2 hB2 hB3
      replace hB2 := hB3
      clear hB3 hG1 hG2 hB1 hED hBD hlow hsT hsB b0 bf bl hbb hB hE hs1 hsw hlv hxl hxl2 hsA
      replace hl12 := Lib.hid hl12
      obtain ⟨g0, gf, gl⟩ := cl1 hb2.out
      (repeat (apply Free.cw_pure rfl rfl; (intro w'; go_simp <;> exact rfl); go_frame))
      refine Free.cw_loud rfl rfl (fun K hK => ?_)
      go_wp2
      refine hK _ _ rfl (Free.KeepsP.setCell _ (.inr ⟨trivial, rfl⟩) _) ?_
      clear hK K
      (repeat (apply Free.cw_pure rfl rfl; (intro w'; go_simp <;> exact rfl); go_frame))
      refine Free.cw_nil ?_
      clear g0 gf gl hb2
      replace hA := Lib.hid (hK2.out.b _ _ _ _ hA.out (by decide) (by decide))
      clear k0 k1 k2 k3 k4 k5 k6 k7 kf kl
      obtain ⟨k0, k1, k2, k3, k4, k5, k6, k7, kf, kl⟩ := cl8 hA.out
      clear hK2
      generalize (w12.setCell ⟨BB, 0, none⟩ (.slice a12 N12 c12)) = W12 at *
      have hE := hE2
      have hbb := hbb2
      have hB := hB2
      clear hE2 hbb2 hB2
      obtain ⟨b0, bf, bl⟩ := cl1 hbb.out
      clear d0 d1 d2 d3 d4 d5 d6 d7 d8 d9 d10 d11
      obtain ⟨d0, d1, d2, d3, d4, d5, d6, d7, d8, d9, d10, d11⟩ := htr.out _ hE.out.k
      go_upto_region 14 with fail
      have hxl : (flatI [e6]).length ≤ 9 := flatI_len (L := [e6]) (by simp only [List.mem_cons, List.mem_singleton, List.not_mem_nil, or_false]; rintro z rfl <;> assumption)
      have hc := ints_c w (W12.alloc (.cells #[.int .i64 e6] 3)) BB l12 _ [e6] (hE.out.keeps ((Keeps.refl [] W12).alloc (.cells #[.int .i64 e6] 3))) (made_ints W12 [e6] #[.int .i64 e6] 1 rfl rfl (by omega)) (by simp only [List.mem_cons, List.mem_singleton, List.not_mem_nil, or_false]; rintro z rfl <;> assumption) (by simp) (by omega)
      have hkm := ((Keeps.refl [] W12).alloc (.cells #[.int .i64 e6] 3)).kb8
      obtain ⟨l13, hl13⟩ : ∃ y, l12 ++ flatI [e6] = y := ⟨_, rfl⟩
      have hn13 : l13.length ≤ l12.length + 9 := by rw [← hl13, List.length_append]; omega
      rw [hl13] at hc
      replace hc := Lib.hid hc
      replace hl13 := Lib.hid hl13
      replace hkm := Lib.hid hkm
      clear hxl
      go_wp2_with fail
      refine hc.out.mono ?_
      rintro e w13 ⟨rfl, hE2, hK2⟩
      replace hK2 := Lib.hid (hkm.out.trans hK2)
      replace hE := Lib.hid hE2
      clear hc b0 bf bl hbb hB hE2 hkm
      replace hA := Lib.hid (hK2.out.b _ _ _ _ hA.out (by decide) (by decide))
      clear k0 k1 k2 k3 k4 k5 k6 k7 kf kl
      obtain ⟨k0, k1, k2, k3, k4, k5, k6, k7, kf, kl⟩ := cl8 hA.out
      go_upto_region 15 with fail
      clear hK2
      obtain ⟨av14, Nv14, cv14, hbb, hB⟩ := hE.out.open
      obtain ⟨b0, bf, bl⟩ := cl1 hbb
      replace hbb := Lib.hid hbb
      replace hB := Lib.hid hB
      clear d0 d1 d2 d3 d4 d5 d6 d7 d8 d9 d10 d11
      obtain ⟨d0, d1, d2, d3, d4, d5, d6, d7, d8, d9, d10, d11⟩ := htr.out _ hE.out.k
      have hxl : (encU e8).length ≤ 9 := encU_len (by omega)
      have hc := hE.out.call hbb.out hB.out (appU_c w13 w.heap.size (Value.slice av14 Nv14 cv14) l13 e8 hB.out (by omega) (by omega) hE.out.k.size)
      obtain ⟨l15, hl15⟩ : ∃ y, l13 ++ encU e8 = y := ⟨_, rfl⟩
      have hn15 : l15.length ≤ l13.length + 9 := by rw [← hl15, List.length_append]; omega
      rw [hl15] at hc
      replace hc := Lib.hid hc
      replace hl15 := Lib.hid hl15
      clear hxl
      go_wp2_with fail
      refine hc.out.mono ?_
      rintro e w15 ⟨a15, N15, c15, rfl, hb2, hE2, hK2, hbb2, hB2, -⟩
      clear hc b0 bf bl hbb hB hE
      obtain ⟨d0, df, dl⟩ := cl1 hb2.out
      replace hA := Lib.hid (hK2.out.b _ _ _ _ hA.out (by decide) (by decide))
      clear k0 k1 k2 k3 k4 k5 k6 k7 kf kl
      obtain ⟨k0, k1, k2, k3, k4, k5, k6, k7, kf, kl⟩ := cl8 hA.out
      go_upto_region 16 with fail
      clear d0 df dl hb2 hK2
      generalize (w15.setCell ⟨BB, 0, none⟩ (.slice a15 N15 c15)) = W15 at *
      have hE := hE2
      have hbb := hbb2
      have hB := hB2
      clear hE2 hbb2 hB2
      obtain ⟨b0, bf, bl⟩ := cl1 hbb.out
      clear d0 d1 d2 d3 d4 d5 d6 d7 d8 d9 d10 d11
      obtain ⟨d0, d1, d2, d3, d4, d5, d6, d7, d8, d9, d10, d11⟩ := htr.out _ hE.out.k
      have hQ : l15.length ≤ 40000000 := by omega
      go_wp2
      clear hB hbb b0 bf bl d0 d1 d2 d3 d4 d5 d6 d7 d8 d9 d10 d11
      clear k0 k1 k2 k3 k4 k5 k6 k7 kf kl
      go_loopw [103] (fun iv wr2 => ∃ j : Nat, iv = .int .i64 j ∧ j ≤ e8 ∧ Hid (EB w wr2 BB (l15 ++ encXs (a.ins.take j))) ∧ Hid (wr2.heap[XA]? = some (.cells #[.int .i64 e0, .int .i64 e1, .int .u64 e2, .int .i64 e3, .bool e4, .bool e5, .int .i64 e6, .slice e7 e8 e9] tA))) (fun iv _ => e8 - (intOf iv).toNat)
      case atStart => exact ⟨0, rfl, by omega, by rw [show encXs (a.ins.take 0) = [] from rfl, List.append_nil]; exact hE, hA⟩
      case round =>
        clear hE hA
        obtain ⟨j, rfl, hj, hE, hA⟩ := hrel
        obtain ⟨k0, k1, k2, k3, k4, k5, k6, k7, kf, kl⟩ := cl8 hA.out
        obtain ⟨d0, d1, d2, d3, d4, d5, d6, d7, d8, d9, d10, d11⟩ := htr.out _ hE.out.k
        by_cases hlj : j < e8
        · skip
          have hlj2 : (j : Int) < e8 := by omega
          have hjI : j < a.ins.length := by rw [hNI.out]; exact hlj
          have hfit := (hOk.out.1.fitI) _ (List.getElem_mem hjI)
          have hlenq : (l15 ++ encXs (a.ins.take j)).length ≤ 50000000 := by
            have h1 := encXs_len (L := a.ins.take j) (fun x hx => hOk.out.1.fitI x (List.mem_of_mem_take hx))
            rw [List.length_append]
            rw [List.length_take] at h1
            have h3 := hNI.out
            omega
          obtain ⟨g2, of2, c2', hv, he⟩ := heli.out j hjI
          rw [hNI.out] at hv
          cases hv
          obtain ⟨⟨y0, y1, y2⟩, hy⟩ : ∃ x, a.ins[j] = x := ⟨_, rfl⟩
          rw [hy] at hfit he
          obtain ⟨v0, v1, v2⟩ := hfit
          simp only at v0 v1 v2
          have f0 := hE.out.k.val (he 0 _ rfl)
          have f1 := hE.out.k.val (he 1 _ rfl)
          have f2 := hE.out.k.val (he 2 _ rfl)
          simp only [shT, Nat.add_zero] at f0 f1 f2
          have hkM := (Keeps.refl [] wr).alloc (.cells #[.int .i64 y0, .int .u64 y1, .int .i64 y2] tI)
          have hX := heap_alloc_new wr (.cells #[.int .i64 y0, .int .u64 y1, .int .i64 y2] tI)
          replace hA := Lib.hid ((hkM.block _ kl (by simp)).trans hA.out)
          replace hE := Lib.hid (hE.out.keeps hkM)
          replace hX := Lib.hid hX
          replace hy := Lib.hid hy
          clear hkM he
          clear k0 k1 k2 k3 k4 k5 k6 k7 kf kl
          go_upto_region 19 with fail
          generalize (wr.alloc (.cells #[.int .i64 y0, .int .u64 y1, .int .i64 y2] tI)) = W0 at *
          obtain ⟨XX, hXX⟩ : ∃ X, wr.heap.size = X := ⟨_, rfl⟩
          rw [hXX] at hX ⊢
          replace hXX := Lib.hid hXX
          clear f0 f1 f2
          obtain ⟨k0, k1, k2, k3, k4, k5, k6, k7, kf, kl⟩ := cl8 hA.out
          obtain ⟨m0, m1, m2, mf, ml⟩ := cl3 hX.out
          clear d0 d1 d2 d3 d4 d5 d6 d7 d8 d9 d10 d11
          obtain ⟨d0, d1, d2, d3, d4, d5, d6, d7, d8, d9, d10, d11⟩ := htr.out _ hE.out.k
          obtain ⟨av16, Nv16, cv16, hbb, hB⟩ := hE.out.open
          obtain ⟨b0, bf, bl⟩ := cl1 hbb
          replace hbb := Lib.hid hbb
          replace hB := Lib.hid hB
          have hxl : (flatI [y0]).length ≤ 9 := flatI_len (L := [y0]) (by simp only [List.mem_cons, List.mem_singleton, List.not_mem_nil, or_false]; rintro z rfl <;> assumption)
          have hc := ints_c w (W0.alloc (.cells #[.int .i64 y0] 3)) BB (l15 ++ encXs (a.ins.take j)) _ [y0] (hE.out.keeps ((Keeps.refl [] W0).alloc (.cells #[.int .i64 y0] 3))) (made_ints W0 [y0] #[.int .i64 y0] 1 rfl rfl (by omega)) (by simp only [List.mem_cons, List.mem_singleton, List.not_mem_nil, or_false]; rintro z rfl <;> assumption) (by simp) (by omega)
          have hkm := ((Keeps.refl [] W0).alloc (.cells #[.int .i64 y0] 3)).kb8
          obtain ⟨l17, hl17⟩ : ∃ y, (l15 ++ encXs (a.ins.take j)) ++ flatI [y0] = y := ⟨_, rfl⟩
          have hn17 : l17.length ≤ (l15 ++ encXs (a.ins.take j)).length + 9 := by rw [← hl17, List.length_append]; omega
          rw [hl17] at hc
          replace hc := Lib.hid hc
          replace hl17 := Lib.hid hl17
          replace hkm := Lib.hid hkm
          clear hxl
          go_wp2_with fail
          refine hc.out.mono ?_
          rintro e w17 ⟨rfl, hE2, hK2⟩
          replace hK2 := Lib.hid (hkm.out.trans hK2)
          replace hE := Lib.hid hE2
          clear hc b0 bf bl hbb hB hE2 hkm
          replace hA := Lib.hid (hK2.out.b _ _ _ _ hA.out (by decide) (by decide))
          clear k0 k1 k2 k3 k4 k5 k6 k7 kf kl
          obtain ⟨k0, k1, k2, k3, k4, k5, k6, k7, kf, kl⟩ := cl8 hA.out
          replace hX := Lib.hid (hK2.out.b _ _ _ _ hX.out (by decide) (by decide))
          clear m0 m1 m2 mf ml
          obtain ⟨m0, m1, m2, mf, ml⟩ := cl3 hX.out
          go_upto_region 20 with fail
          clear hK2
          obtain ⟨av18, Nv18, cv18, hbb, hB⟩ := hE.out.open
          obtain ⟨b0, bf, bl⟩ := cl1 hbb
          replace hbb := Lib.hid hbb
          replace hB := Lib.hid hB
          clear d0 d1 d2 d3 d4 d5 d6 d7 d8 d9 d10 d11
          obtain ⟨d0, d1, d2, d3, d4, d5, d6, d7, d8, d9, d10, d11⟩ := htr.out _ hE.out.k
          have hxl : (encU y1).length ≤ 9 := encU_len v1
          have hc := hE.out.call hbb.out hB.out (appU_c w17 w.heap.size (Value.slice av18 Nv18 cv18) l17 y1 hB.out v1 (by omega) hE.out.k.size)
          obtain ⟨l19, hl19⟩ : ∃ y, l17 ++ encU y1 = y := ⟨_, rfl⟩
          have hn19 : l19.length ≤ l17.length + 9 := by rw [← hl19, List.length_append]; omega
          rw [hl19] at hc
          replace hc := Lib.hid hc
          replace hl19 := Lib.hid hl19
          clear hxl
          go_wp2_with fail
          refine hc.out.mono ?_
          rintro e w19 ⟨a19, N19, c19, rfl, hb2, hE2, hK2, hbb2, hB2, -⟩
          clear hc b0 bf bl hbb hB hE
          obtain ⟨d0, df, dl⟩ := cl1 hb2.out
          replace hA := Lib.hid (hK2.out.b _ _ _ _ hA.out (by decide) (by decide))
          clear k0 k1 k2 k3 k4 k5 k6 k7 kf kl
          obtain ⟨k0, k1, k2, k3, k4, k5, k6, k7, kf, kl⟩ := cl8 hA.out
          replace hX := Lib.hid (hK2.out.b _ _ _ _ hX.out (by decide) (by decide))
          clear m0 m1 m2 mf ml
          obtain ⟨m0, m1, m2, mf, ml⟩ := cl3 hX.out
          go_upto_region 21 with fail
          clear d0 df dl hb2 hK2
          generalize (w19.setCell ⟨BB, 0, none⟩ (.slice a19 N19 c19)) = W19 at *
          have hE := hE2
          have hbb := hbb2
          have hB := hB2
          clear hE2 hbb2 hB2
          obtain ⟨b0, bf, bl⟩ := cl1 hbb.out
          clear d0 d1 d2 d3 d4 d5 d6 d7 d8 d9 d10 d11
          obtain ⟨d0, d1, d2, d3, d4, d5, d6, d7, d8, d9, d10, d11⟩ := htr.out _ hE.out.k
          have hxl : (flatI [y2]).length ≤ 9 := flatI_len (L := [y2]) (by simp only [List.mem_cons, List.mem_singleton, List.not_mem_nil, or_false]; rintro z rfl <;> assumption)
          have hc := ints_c w (W19.alloc (.cells #[.int .i64 y2] 3)) BB l19 _ [y2] (hE.out.keeps ((Keeps.refl [] W19).alloc (.cells #[.int .i64 y2] 3))) (made_ints W19 [y2] #[.int .i64 y2] 1 rfl rfl (by omega)) (by simp only [List.mem_cons, List.mem_singleton, List.not_mem_nil, or_false]; rintro z rfl <;> assumption) (by simp) (by omega)
          have hkm := ((Keeps.refl [] W19).alloc (.cells #[.int .i64 y2] 3)).kb8
          obtain ⟨l20, hl20⟩ : ∃ y, l19 ++ flatI [y2] = y := ⟨_, rfl⟩
          have hn20 : l20.length ≤ l19.length + 9 := by rw [← hl20, List.length_append]; omega
          rw [hl20] at hc
          replace hc := Lib.hid hc
          replace hl20 := Lib.hid hl20
          replace hkm := Lib.hid hkm
          clear hxl
          go_wp2_with fail
          refine hc.out.mono ?_
          rintro e w20 ⟨rfl, hE2, hK2⟩
          replace hK2 := Lib.hid (hkm.out.trans hK2)
          replace hE := Lib.hid hE2
          clear hc b0 bf bl hbb hB hE2 hkm
          replace hA := Lib.hid (hK2.out.b _ _ _ _ hA.out (by decide) (by decide))
          clear k0 k1 k2 k3 k4 k5 k6 k7 kf kl
          obtain ⟨k0, k1, k2, k3, k4, k5, k6, k7, kf, kl⟩ := cl8 hA.out
          replace hX := Lib.hid (hK2.out.b _ _ _ _ hX.out (by decide) (by decide))
          clear m0 m1 m2 mf ml
          obtain ⟨m0, m1, m2, mf, ml⟩ := cl3 hX.out
          skip
          clear hK2
          obtain ⟨av21, Nv21, cv21, hbb, hB⟩ := hE.out.open
          obtain ⟨b0, bf, bl⟩ := cl1 hbb
          replace hbb := Lib.hid hbb
          replace hB := Lib.hid hB
          have hEn : EB w w20 BB (l15 ++ encXs (a.ins.take (j + 1))) := by
            have e := hE.out
            rw [← hl20.out, ← hl19.out, ← hl17.out] at e
            rw [encXs_take _ _ hjI, hy.out]
            simpa [flatI, encX, List.append_assoc] using e
          replace hEn := Lib.hid hEn
          go_wp2
          go_roundw
          case rel => exact ⟨j + 1, rfl, by omega, hEn, hA⟩
          case measure => simp [intOf]; omega
        · skip
          have hlj2 : ¬ ((j : Int) < e8) := by omega
          have hEn : EB w wr BB (l5 ++ encH (hist.take (k + 1))) := by
            have e := hE.out
            rw [List.take_of_length_le (by have := hNI.out; omega), ← hl15.out, ← hl13.out, ← hl12.out, ← hl10.out, ← hl9.out, ← hl7.out] at e
            rw [encH_take _ _ hkH, ha.out, hAe.out]
            simpa [flatI, List.append_assoc] using e
          replace hEn := Lib.hid hEn
          go_wp2
          go_roundw
          case rel => exact ⟨k + 1, rfl, by omega, hEn⟩
          case measure => simp [intOf]; omega
    · skip
      have hlt2 : ¬ ((k : Int) < N8) := by omega
      have hkN : k = hist.length := by have := hXl.out; omega
      rw [hkN, List.take_length] at hE hlenr
      obtain ⟨le, hle⟩ : ∃ y, l5 ++ encH hist = y := ⟨_, rfl⟩
      rw [hle] at hE hlenr
      replace hle := Lib.hid hle
      replace hkN := Lib.hid hkN
      obtain ⟨av22, Nv22, cv22, hbb, hB⟩ := hE.out.open
      obtain ⟨b0, bf, bl⟩ := cl1 hbb
      replace hbb := Lib.hid hbb
      replace hB := Lib.hid hB
      have hge2 := hBB.out
      go_upto_region 24 with fail
      have hED := hE.out.keeps (Keeps.refl [] wr).drew
      have hbbD : wr.drew.heap[BB]? = _ := hbb.out
      have hBD := hB.out.keep (Keeps.refl [] wr).drew
      have hxl : (encU NG).length ≤ 9 := encU_len (by omega)
      have hc := appU_c wr.drew w.heap.size (Value.slice av22 Nv22 cv22) le NG hBD (by omega) (by omega) hED.k.size
      have hlow := EPost.low hBD hED
      rw [hBB.out] at hlow
      have hsT : (Value.slice av22 Nv22 cv22).ownBlock ≠ some bt := fun e => by have := (hBD.tagB e).1; have := hBB.out; omega
      have hsB : (Value.slice av22 Nv22 cv22).ownBlock ≠ some BB := hBD.sep hbbD (by decide)
      replace hc := Lib.hid hc
      replace hlow := Lib.hid hlow
      replace hsT := Lib.hid hsT
      replace hsB := Lib.hid hsB
      replace hED := Lib.hid hED
      replace hBD := Lib.hid hBD
      clear hbbD
      refine Free.wp_region_chain (fun i => i == 7 || i == 12) (fun i => true) (fun j b => (j = 7 ∨ j = 12) ∧ ((Value.slice av22 Nv22 cv22).ownBlock = some b ∨ wr.heap.size ≤ b)) (by kernel_rfl) (by kernel_rfl) (by kernel_rfl) ?_
      (repeat (first | (apply Free.cw_pure rfl rfl; (intro w'; go_simp <;> exact rfl); go_frame) | (apply Free.cw_steady rfl rfl rfl; (intro w' hS; have q0 := Free.sx_cell hS b0 (fun j hp hT => by rcases hT with ⟨_, hT | hT⟩; exact hsB.out hT; omega); have q1 := Free.sx_cell hS d10 (fun _ _ hT => by rcases hT with ⟨_, hT | hT⟩; exact hsT.out hT; omega); have q2 := Free.sx_cell hS d11 (fun _ _ hT => by rcases hT with ⟨_, hT | hT⟩; exact hsT.out hT; omega); go_simp <;> exact rfl); go_frame) | (refine Free.cw_skip rfl ?_; go_frame)))
      refine Free.cw_loud rfl rfl (fun K hK => ?_)
      go_wp2_with fail
      refine hc.out.mono ?_
      rintro e wA ⟨v1, rfl, hB1, hG1⟩
      have hkp : Free.KeepsP (fun b => ((Value.slice av22 Nv22 cv22)).ownBlock = some b ∨ wr.heap.size ≤ b) wr.drew wA := Free.KeepsP.of hG1.keepsO (fun b hb => .inl (by simpa using hb))
      refine hK _ _ rfl (hkp.mono (fun b hb => ⟨.inl trivial, hb⟩)) ?_
      clear hK K hkp hc
      have hs1 : wr.heap.size ≤ wA.heap.size := hG1.keepsO.size
      have hsw : w.heap.size ≤ wr.heap.size := hED.out.k.size
      have hxl2 : (encB rf).length ≤ 9 := (by simp [encB])
      have hlv : (le ++ encU NG).length ≤ 140737488355000 := by rw [List.length_append]; omega
      have hc := appB_c wA w.heap.size v1 (le ++ encU NG) rf hB1  hlv (Nat.le_trans hsw hs1)
      replace hc := Lib.hid hc
      replace hB1 := Lib.hid hB1
      replace hG1 := Lib.hid hG1
      (repeat (first | (apply Free.cw_pure rfl rfl; (intro w'; go_simp <;> exact rfl); go_frame) | (apply Free.cw_steady rfl rfl rfl; (intro w' hS; have q0 := Free.sx_cell hS b0 (fun j hp hT => by rcases hT with ⟨_, hT | hT⟩; exact hsB.out hT; omega); have q1 := Free.sx_cell hS d10 (fun _ _ hT => by rcases hT with ⟨_, hT | hT⟩; exact hsT.out hT; omega); have q2 := Free.sx_cell hS d11 (fun _ _ hT => by rcases hT with ⟨_, hT | hT⟩; exact hsT.out hT; omega); go_simp <;> exact rfl); go_frame) | (refine Free.cw_skip rfl ?_; go_frame)))
      refine Free.cw_loud rfl rfl (fun K hK => ?_)
      go_wp2_with fail
      refine hc.out.mono ?_
      rintro e w23 ⟨v2, rfl, hB2, hG2⟩
      have hkp : Free.KeepsP (fun b => ((Value.slice av22 Nv22 cv22)).ownBlock = some b ∨ wr.heap.size ≤ b) wA w23 := Free.KeepsP.of hG2.keepsO (fun b hb => by
          rcases hG1.out.own with e | ⟨q, e, hq⟩
          · rw [e] at hb; exact .inl (by simpa using hb)
          · rw [e] at hb; simp at hb; subst hb; exact .inr hq)
      refine hK _ _ rfl (hkp.mono (fun b hb => ⟨.inr trivial, hb⟩)) ?_
      clear hK K hkp hc
      have hEP := hED.out.post (w := wr.drew) hbb.out hBD.out hB2 (hG1.out.trans hG2)
      obtain ⟨a23, N23, c23, he, hb2, hE2, hK2, hbb2, hB3, -⟩ := hEP
      cases he
      obtain ⟨l23, hl23⟩ : ∃ y, le ++ encU NG ++ encB rf = y := ⟨_, rfl⟩
      have hn23 : l23.length ≤ le.length + 18 := by rw [← hl23, List.length_append, List.length_append]; omega
      rw [hl23] at hE2 hB2 hB3
      have hkf := Lib.hid (hED.out.k.fresh ((hG1.out.trans hG2).keepsO) (fun b hm => .inr (hBD.out.tagB (by simpa using hm)).1))
      replace hB2 := Lib.hid hB2
      clear hB3 hb2 hE2 hK2 hbb2 hG1 hG2 hB1 hED hBD hlow hsT hsB b0 bf bl hbb hB hE hs1 hsw hlv hxl hxl2
      replace hl23 := Lib.hid hl23
      (repeat (apply Free.cw_pure rfl rfl; (intro w'; go_simp <;> exact rfl); go_frame))
      refine Free.cw_nil ?_
      go_wp2
      go_ret
      refine ⟨_, rfl, ?_, hkf.out⟩
      rw [← hfin.out l23 (by rw [← hl23.out, ← hle.out]; rw [← hl5.out, ← hl3.out, ← hl2.out, ← hl1.out]; simp [flatI, List.append_assoc])]
      exact hB2.out
end Go.Proofs.YthfdngjbcgkkfaaGreat

namespace Go.Proofs.YthfdngjbcgkkfaaGreat
open Go.RowKit

theorem Op3.step_id (o : Op3) (t : Tr) : (o.step t).im = t.im ∧ (o.step t).is = t.is ∧ (o.step t).st = t.st := by
  have ha : ∀ a : Ans, (t.answer a).1.im = t.im ∧ (t.answer a).1.is = t.is ∧ (t.answer a).1.st = t.st := fun a => by
    unfold Tr.answer
    split
    · exact ⟨rfl, rfl, rfl⟩
    split
    · exact ⟨rfl, rfl, rfl⟩
    split
    · exact ⟨rfl, rfl, rfl⟩
    split
    · exact ⟨rfl, rfl, rfl⟩
    split
    · exact ⟨rfl, rfl, rfl⟩
    unfold Tr.close
    split <;> exact ⟨rfl, rfl, rfl⟩
  unfold Op3.step
  split
  · exact ha _
  split
  · unfold Tr.queries; split <;> exact ⟨rfl, rfl, rfl⟩
  split
  · unfold Tr.agreeT
    split
    · exact ⟨rfl, rfl, rfl⟩
    split
    · split <;> exact ⟨rfl, rfl, rfl⟩
    · exact ⟨rfl, rfl, rfl⟩
  split
  · unfold Tr.refuseT
    split
    · exact ⟨rfl, rfl, rfl⟩
    split
    · split <;> exact ⟨rfl, rfl, rfl⟩
    · exact ⟨rfl, rfl, rfl⟩
  · exact ⟨rfl, rfl, rfl⟩
theorem Tr.Num.step {t : Tr} (h : t.Num) (o : Op3) : (o.step t).Num := by
  obtain ⟨e1, e2, e3⟩ := o.step_id t
  exact ⟨e1 ▸ h.im, e2 ▸ h.is, by rw [e3]; exact h.s0, by rw [e3]; exact h.s1, by rw [e3]; exact h.s2⟩
end Go.Proofs.YthfdngjbcgkkfaaGreat

namespace Go.Proofs.YthfdngjbcgkkfaaGreat
open Go.RowKit Go.ChangeShapes

set_option maxRecDepth 100000 in
set_option maxHeartbeats 1000000 in
theorem bsame_c (w : World) (va vb : Value) (l m : List UInt8) (ha : SlB w va l) (hb : SlB w vb m) :
    Calls Tryz.prog 12 #[va, vb] w fun e w' => e = .returned (.bool (decide (l = m))) ∧ w = w' := by
  have h1 := run_str ha
  have h2 := run_str hb
  obtain ⟨a0, c0, rfl⟩ := ha.form
  obtain ⟨a1, c1, rfl⟩ := hb.form
  clear ha hb
  generalize hx : str l = x at *
  generalize hy : str m = y at *
  replace hx := Lib.hid hx
  replace hy := Lib.hid hy
  go_enter Tryz.func12, Tryz.ntmps12
  go_wp2
  go_ret
  refine ⟨?_, rfl⟩
  show Ending.returned (Value.bool (x.toList == y.toList)) = _
  rw [← hx.out, ← hy.out]
  have : (l == m) = decide (l = m) := by rw [Bool.eq_iff_iff]; simp
  simp [str, this]
end Go.Proofs.YthfdngjbcgkkfaaGreat

namespace Go.Proofs.YthfdngjbcgkkfaaGreat
open Go.RowKit

/-- What a number's encoding at the head of `l` gives: the number and the rest. -/
def readU : List UInt8 → Option (Nat × List UInt8)
  | [] => none
  | k :: t => if k.toNat ≤ 8 ∧ k.toNat ≤ t.length ∧ (0 < k.toNat → t.headD 1 ≠ 0) then some (valU (t.take k.toNat), t.drop k.toNat) else none
/-- Bytes kept, and the tags of blocks of bytes. -/
def KV (w w' : World) : Prop := KB w w' ∧ ∀ (b : Nat) (cs : Array Value), w.heap[b]? = some (Obj.cells cs tB (0, 0)) → ∃ cs' : Array Value, w'.heap[b]? = some (Obj.cells cs' tB (0, 0))
theorem KV.trans {a b c : World} (h : KV a b) (k : KV b c) : KV a c := ⟨h.1.trans k.1, fun x cs hx => by obtain ⟨cs', h'⟩ := h.2 x cs hx; exact k.2 x cs' h'⟩
theorem KV.drew (w : World) : KV w w.drew := ⟨KB.drew w, fun _ cs h => ⟨cs, h⟩⟩
theorem KV.setCell (w : World) {b o : Nat} {u : Value} (v : Value) (h : w.cell? ⟨b, o, none⟩ = some u) (hu : ∀ x, u ≠ .int .u8 x) : KV w (w.setCell ⟨b, o, none⟩ v) :=
  ⟨KB.setCell w v h hu, fun x cs hx => by
    by_cases e : x = b
    · subst e
      obtain ⟨hlt, hk⟩ := Array.getElem?_eq_some_iff.1 hx
      simp [World.setCell, Array.getElem?_modify, hx]
    · exact ⟨cs, by
        rw [← hx]
        simp [World.setCell, Array.getElem?_modify, Ne.symm e]⟩⟩
theorem Keeps.kv {S : List Nat} {w w' : World} (h : Keeps S w w') (hS : ∀ b ∈ S, ∀ o x, w.cell? ⟨b, o, none⟩ ≠ some (.int .u8 x)) (hT : ∀ b ∈ S, ∀ cs : Array Value, w.heap[b]? ≠ some (Obj.cells cs tB (0, 0))) : KV w w' :=
  ⟨h.kb hS, fun b cs hb => ⟨cs, (h.block b (Array.getElem?_eq_some_iff.1 hb).1 (fun hm => hT b hm cs hb)).trans hb⟩⟩
theorem Keeps.kv0 {w w' : World} (h : Keeps [] w w') : KV w w' := h.kv (by simp) (by simp)
/-- A slice of bytes that lies in a block of bytes. -/
structure SlV (w : World) (v : Value) (l : List UInt8) : Prop where
  b : SlB w v l
  t : ∀ g : Nat, v.ownBlock = some g → ∃ cs : Array Value, w.heap[g]? = some (Obj.cells cs tB (0, 0))
namespace SlV
variable {w w' : World} {v : Value} {l : List UInt8}
theorem form (h : SlV w v l) : ∃ a cap, v = .slice a l.length cap := h.b.form
theorem cap (h : SlV w v l) : l.length ≤ maxLen := h.b.cap
theorem cases (h : SlV w v l) :
    (l = [] ∧ ∃ a cap, v = .slice a 0 cap ∧ cap ≤ maxLen ∧ (a = none → cap = 0)) ∨
    ∃ g o cap, v = .slice (some ⟨g, o, none⟩) l.length cap ∧ l.length ≤ cap ∧ cap ≤ maxLen ∧ 0 < l.length ∧ g < w.heap.size ∧ ∀ k (hk : k < l.length), w.cell? ⟨g, o + k, none⟩ = some (.int .u8 (l[k].toNat : Int)) := h.b.cases
theorem kv (h : SlV w v l) (hk : KV w w') : SlV w' v l := ⟨h.b.kb hk.1, fun g hg => by obtain ⟨cs, hc⟩ := h.t g hg; exact hk.2 g cs hc⟩
theorem keeps (h : SlV w v l) (hk : Keeps [] w w') : SlV w' v l := h.kv hk.kv0
theorem kb (h : SlV w v l) (hk : KV w w') : SlV w' v l := h.kv hk
theorem nil (w : World) : SlV w (.slice none 0 0) [] := ⟨SlB.nil w, fun g hg => by cases hg⟩
theorem tail {g o n cap : Nat} (h : SlV w (.slice (some ⟨g, o, none⟩) n cap) l) (a : Nat) (ha : a ≤ l.length) :
    SlV w (.slice (if cap = a then some ⟨g, o, none⟩ else some ⟨g, o + a, none⟩) (l.length - a) (cap - a)) (l.drop a) :=
  ⟨h.b.tail a ha, fun x hx => h.t x (by split at hx <;> exact hx)⟩
end SlV
theorem Buf.slV {w : World} {base : Nat} {v : Value} {l : List UInt8} (h : Buf w base v l) : SlV w v l := ⟨h.slB, fun _ hg => (h.tagB hg).2⟩
/-- The reader at block `br`: what is left is the slice `v`, which reads as `l`; its error is `e`. -/
def Rd (w : World) (br : Nat) (v : Value) (l : List UInt8) (e : Int) : Prop := w.heap[br]? = some (.cells #[v, .int .i64 e] 103 (0, 0)) ∧ SlV w v l

theorem cell2_of {w : World} {b : Nat} {u v : Value} {t : TypeId} (h : w.heap[b]? = some (.cells #[u, v] t (0, 0))) : w.cell? ⟨b, 0, none⟩ = some u ∧ w.cell? ⟨b, 1, none⟩ = some v ∧ w.frozen? ⟨b, 0, none⟩ = false ∧ w.frozen? ⟨b, 1, none⟩ = false ∧ b < w.heap.size := by
  refine ⟨by simp [World.cell?, h], by simp [World.cell?, h], by simp [World.frozen?, h], by simp [World.frozen?, h], (Array.getElem?_eq_some_iff.1 h).1⟩

set_option maxRecDepth 100000 in
set_option maxHeartbeats 1000000 in
theorem newReader_c (w : World) (v0 : Value) (l : List UInt8) (h : SlB w v0 l) (hl : l.length ≤ 140737488355328) :
    Calls Tryz.prog 27 #[v0] w fun e w' => ∃ br v', e = .returned (.pointer (some ⟨br, 0, none⟩)) ∧ w.heap.size ≤ br ∧ Rd w' br v' l 0 ∧ Keeps [] w w' := by
  obtain ⟨a0, c0, rfl⟩ := h.form
  replace h := Lib.hid h
  go_enter Tryz.func27, Tryz.ntmps27
  go_wp2_with fail
  refine (clone_c _ _ l h.out hl).mono ?_
  rintro e w1 ⟨v1, rfl, hB1, hk1⟩
  obtain ⟨a1, c1, rfl⟩ := hB1.form
  have hsz := hk1.size
  replace hB1 := Lib.hid hB1
  replace hk1 := Lib.hid hk1
  go_wp2
  go_ret
  refine ⟨w1.heap.size, .slice a1 l.length c1, rfl, hsz, ⟨heap_alloc_new _ _, (hB1.out.keep ((Keeps.refl [] w1).alloc _)).slV⟩, hk1.out.alloc _⟩

/-- The error of a reader at the end. -/
def doneE (l : List UInt8) (e : Int) : Int := if e = 0 ∧ l ≠ [] then 11 else e
set_option maxRecDepth 100000 in
set_option maxHeartbeats 1000000 in
theorem done_c (w : World) (br : Nat) (v : Value) (l : List UInt8) (e : Int) (h : Rd w br v l e) :
    Calls Tryz.prog 33 #[.pointer (some ⟨br, 0, none⟩)] w fun en w' => en = .returned (.int .i64 (doneE l e)) ∧ w = w' := by
  obtain ⟨c0, c1, f0, f1, hlt⟩ := cell2_of h.1
  obtain ⟨a0, cap0, rfl⟩ := h.2.form
  clear h
  by_cases he : e = 0
  · subst he
    by_cases hl : l = []
    · subst hl
      go_enter Tryz.func33, Tryz.ntmps33
      go_wp2
      go_ret
      exact ⟨by simp [doneE], rfl⟩
    · have hp : 0 < l.length := List.length_pos_iff.2 hl
      replace hl := Lib.hid hl
      go_enter Tryz.func33, Tryz.ntmps33
      go_wp2
      go_ret
      exact ⟨by simp [doneE, hl.out], rfl⟩
  · have he2 : (e == 0) = false := by simp [he]
    replace he := Lib.hid he
    go_enter Tryz.func33, Tryz.ntmps33
    go_wp2
    go_ret
    exact ⟨by simp [doneE, he.out], rfl⟩

theorem cell1_of {w : World} {b : Nat} {u : Value} {t : TypeId} (h : w.heap[b]? = some (.cells #[u] t (0, 0))) : w.cell? ⟨b, 0, none⟩ = some u ∧ w.frozen? ⟨b, 0, none⟩ = false ∧ b < w.heap.size := by
  refine ⟨by simp [World.cell?, h], by simp [World.frozen?, h], (Array.getElem?_eq_some_iff.1 h).1⟩

end Go.Proofs.YthfdngjbcgkkfaaGreat

namespace Go.Proofs.YthfdngjbcgkkfaaGreat
open Go.RowKit

set_option maxRecDepth 100000 in
set_option maxHeartbeats 2000000 in
theorem uint1_bad (w : World) (br b1 b2 : Nat) (v : Value) (l : List UInt8) (h : Rd w br v l 0) (h1 : w.cell? ⟨b1, 0, none⟩ = some (.pointer (some ⟨br, 0, none⟩))) (hr : readU l = none) :
    Calls Tryz.prog 52 #[.pointer (some ⟨b1, 0, none⟩), .pointer (some ⟨b2, 0, none⟩)] w fun en w' => en = .returned (.int .i64 11) ∧ Keeps [] w w' := by
  obtain ⟨c0, c1, f0, f1, hlt⟩ := cell2_of h.1
  rcases h.2.cases with ⟨rfl, a, cp, rfl, _, _⟩ | ⟨g, o, cp, rfl, hn, hm, hp, hg, hc⟩
  · clear h hr
    go_enter Tryz.func52, Tryz.ntmps52
    go_wp2
    (refine wp_region_quiet_lit (by kernel_rfl) (by kernel_rfl) ?_; (repeat (first | go_big_quiet_step (fail) | quiet_step (fail))); with_reducible refine wpQuiet_nil ?_; intro _ hw'; obtain ⟨nq, hw''⟩ := hw'; subst hw'')
    go_wp2
    go_ret
    exact ⟨rfl, (Keeps.refl _ _).drewN _⟩
  · obtain ⟨k, t, rfl⟩ : ∃ k t, l = k :: t := by cases l with | nil => simp at hp | cons k t => exact ⟨k, t, rfl⟩
    have k0 := hc 0 (by simp)
    have k1 : 0 < t.length → w.cell? ⟨g, o + 1, none⟩ = some (.int .u8 ((t.headD 1).toNat : Int)) := fun ht => by
      have := hc 1 (by simp; omega)
      rw [this]; cases t with | nil => simp at ht | cons a b => rfl
    simp only [Nat.add_zero, List.getElem_cons_zero] at k0
    clear hc h hp
    have hcond : ¬ (k.toNat ≤ 8 ∧ k.toNat ≤ t.length ∧ (0 < k.toNat → t.headD 1 ≠ 0)) := fun hh => by
      rw [readU, if_pos hh] at hr; cases hr
    clear hr
    have hk := k.toNat_lt
    simp only [List.length_cons] at *
    generalize (t.headD 1) = t0 at *
    generalize k.toNat = kk at *
    generalize t.length = N at *
    have hNN : (N : Int) + 1 ≤ 9223372036854775807 := by unfold maxLen at hm; omega
    by_cases h8 : kk ≤ 8
    · have d8 : decide ((8 : Int) < (kk : Int)) = false := by simp; omega
      by_cases hN : kk ≤ N
      · have dN : decide ((N : Int) + 1 ≤ (kk : Int)) = false := by simp; omega
        have hk0 : 0 < kk := by
          rcases Nat.eq_zero_or_pos kk with e | e
          · exact absurd ⟨h8, hN, fun h => by omega⟩ hcond
          · exact e
        have dk : (0 : Int) < (kk : Int) := by omega
        have ht0 : t0 = 0 := by
          rcases Classical.em (t0 = 0) with e | e
          · exact e
          · exact absurd ⟨h8, hN, fun _ => e⟩ hcond
        subst ht0
        have k1' := k1 (by omega)
        simp at k1'
        clear hcond k1
        go_enter Tryz.func52, Tryz.ntmps52
        go_wp2
        (refine wp_region_quiet_lit (by kernel_rfl) (by kernel_rfl) ?_; (repeat (first | go_big_quiet_step (fail) | quiet_step (fail))); with_reducible refine wpQuiet_nil ?_; intro _ hw'; obtain ⟨nq, hw''⟩ := hw'; subst hw'')
        go_wp2
        go_ret
        exact ⟨rfl, (Keeps.refl _ _).drewN _⟩
      · have dN : (N : Int) + 1 ≤ (kk : Int) := by omega
        clear hcond k1
        go_enter Tryz.func52, Tryz.ntmps52
        go_wp2
        (refine wp_region_quiet_lit (by kernel_rfl) (by kernel_rfl) ?_; (repeat (first | go_big_quiet_step (fail) | quiet_step (fail))); with_reducible refine wpQuiet_nil ?_; intro _ hw'; obtain ⟨nq, hw''⟩ := hw'; subst hw'')
        go_wp2
        go_ret
        exact ⟨rfl, (Keeps.refl _ _).drewN _⟩
    · have d8 : (8 : Int) < (kk : Int) := by omega
      clear hcond k1
      go_enter Tryz.func52, Tryz.ntmps52
      go_wp2
      (refine wp_region_quiet_lit (by kernel_rfl) (by kernel_rfl) ?_; (repeat (first | go_big_quiet_step (fail) | quiet_step (fail))); with_reducible refine wpQuiet_nil ?_; intro _ hw'; obtain ⟨nq, hw''⟩ := hw'; subst hw'')
      go_wp2
      go_ret
      exact ⟨rfl, (Keeps.refl _ _).drewN _⟩

end Go.Proofs.YthfdngjbcgkkfaaGreat

namespace Go.Proofs.YthfdngjbcgkkfaaGreat
open Go.RowKit

theorem set2_0 {w : World} {b : Nat} {u v : Value} {t : TypeId} (h : w.heap[b]? = some (.cells #[u, v] t (0, 0))) (u' : Value) : (w.setCell ⟨b, 0, none⟩ u').heap[b]? = some (.cells #[u', v] t (0, 0)) := by
  obtain ⟨hlt, hk⟩ := Array.getElem?_eq_some_iff.1 h
  simp [World.setCell, Array.getElem?_modify, h]
theorem set2_1 {w : World} {b : Nat} {u v : Value} {t : TypeId} (h : w.heap[b]? = some (.cells #[u, v] t (0, 0))) (v' : Value) : (w.setCell ⟨b, 1, none⟩ v').heap[b]? = some (.cells #[u, v'] t (0, 0)) := by
  obtain ⟨hlt, hk⟩ := Array.getElem?_eq_some_iff.1 h
  simp [World.setCell, Array.getElem?_modify, h]
/-- One byte more, as the machine reckons it. -/
theorem or_byte (x y : Nat) (hx : (x : Int) < 72057594037927936) (hy : (y : Int) ≤ 255) : bits .or .u64 ((x : Int) * 256) (y : Int) = ((x * 256 + y : Nat) : Int) := by
  have h := u64_or_nat (x * 256) y (by omega) (by omega)
  have h2 : x * 256 + y = x * 256 ||| y := by
    have := Nat.shiftLeft_add_eq_or_of_lt (i := 8) (b := y) (by omega) x
    simpa [Nat.shiftLeft_eq] using this
  rw [h2, ← h]; simp

theorem rd_nobyte {w : World} {br : Nat} {v : Value} {l : List UInt8} {e : Int} (h : Rd w br v l e) : ∀ o x, w.cell? ⟨br, o, none⟩ ≠ some (.int .u8 x) := by
  obtain ⟨a, c, rfl⟩ := h.2.form
  exact no_byte h.1 (by simp)
theorem rd_tail (w wr : World) (br b2 g o N cp : Nat) (k : UInt8) (t : List UInt8) (j : Nat) (h : Rd w br (.slice (some ⟨g, o, none⟩) (t.length + 1) cp) (k :: t) 0) (hk : Keeps [b2] w wr)
    (hb : wr.heap[b2]? = some (.cells #[.int .u64 (valU (t.take j))] 24 (0, 0))) (hb0 : w.heap[b2]? = some (.cells #[.int .u64 0] 24 (0, 0))) (hN : t.length = N) (hj : j ≤ N) (hbr : br ≠ b2) :
    (wr.setCell ⟨br, 0, none⟩ (.slice (if cp = 1 + j then some ⟨g, o, none⟩ else some ⟨g, o + (1 + j), none⟩) (N + 1 - (1 + j)) (cp - (1 + j)))).drew.heap[b2]? = some (.cells #[.int .u64 (valU (t.take j))] 24 (0, 0)) ∧
    (∃ v', Rd (wr.setCell ⟨br, 0, none⟩ (.slice (if cp = 1 + j then some ⟨g, o, none⟩ else some ⟨g, o + (1 + j), none⟩) (N + 1 - (1 + j)) (cp - (1 + j)))).drew br v' (t.drop j) 0) ∧
    Keeps [br, b2] w (wr.setCell ⟨br, 0, none⟩ (.slice (if cp = 1 + j then some ⟨g, o, none⟩ else some ⟨g, o + (1 + j), none⟩) (N + 1 - (1 + j)) (cp - (1 + j)))).drew := by
  subst hN
  obtain ⟨q0, _, _, _, hlt⟩ := cell2_of h.1
  have hbr' := (hk.block br hlt (by simp; omega)).trans h.1
  have htl := SlV.tail h.2 (1 + j) (by simp; omega)
  have hk2 : Keeps [br, b2] w wr := hk.mono (fun x hx => by simp at hx; simp [hx])
  have hkb : KV w wr := hk.kv (by intro b hb; simp at hb; subst hb; exact no_byte hb0 (by simp)) (by intro b hb cs hc; simp at hb; subst hb; rw [hb0] at hc; simp only [Option.some.injEq, Obj.cells.injEq] at hc; exact absurd hc.2.1 (by decide))
  refine ⟨?_, ⟨_, ⟨set2_0 hbr' _, ?_⟩⟩, (hk2.setCell (.inr (by simp)) _).drew⟩
  · exact (Below.heap_setCell _ _ _ _ (by simp; omega)).trans hb
  · simp only [List.length_cons, Nat.add_comm 1 j, List.drop_succ_cons] at htl ⊢
    exact htl.kv (hkb.trans ((KV.setCell wr _ (cell2_of hbr').1 (by simp)).trans (KV.drew _)))

set_option maxRecDepth 100000 in
set_option maxHeartbeats 2000000 in
theorem uint1_ok (w : World) (br b1 b2 : Nat) (v : Value) (l rest : List UInt8) (x : Nat) (h : Rd w br v l 0) (h1 : w.cell? ⟨b1, 0, none⟩ = some (.pointer (some ⟨br, 0, none⟩))) (h2 : w.heap[b2]? = some (.cells #[.int .u64 0] 24 (0, 0)))
    (hne : b1 ≠ b2 ∧ br ≠ b2) (hr : readU l = some (x, rest)) :
    Calls Tryz.prog 52 #[.pointer (some ⟨b1, 0, none⟩), .pointer (some ⟨b2, 0, none⟩)] w fun en w' => en = .returned (.int .i64 0) ∧ w'.heap[b2]? = some (.cells #[.int .u64 x] 24 (0, 0)) ∧ (∃ v', Rd w' br v' rest 0) ∧ Keeps [br, b2] w w' := by
  obtain ⟨c0, c1, f0, f1, hlt⟩ := cell2_of h.1
  obtain ⟨e0, fe0, hlt2⟩ := cell1_of h2
  rcases h.2.cases with ⟨rfl, a, cp, rfl, _, _⟩ | ⟨g, o, cp, rfl, hn, hm, hp, hg, hc⟩
  · cases hr
  · obtain ⟨k, t, rfl⟩ : ∃ k t, l = k :: t := by cases l with | nil => simp at hp | cons k t => exact ⟨k, t, rfl⟩
    have k0 := hc 0 (by simp)
    have hgb : g ≠ b2 := fun e => by subst e; exact no_byte h2 (by simp) _ _ k0
    have k1 : 0 < t.length → w.cell? ⟨g, o + 1, none⟩ = some (.int .u8 ((t.headD 1).toNat : Int)) := fun ht => by
      have := hc 1 (by simp; omega)
      rw [this]; cases t with | nil => simp at ht | cons a b => rfl
    have kj : ∀ j (hj : j < t.length), w.cell? ⟨g, o + 1 + j, none⟩ = some (.int .u8 (t[j].toNat : Int)) := fun j hj => by
      have := hc (j + 1) (by simp; omega)
      rw [show o + 1 + j = o + (j + 1) by omega, this]; rfl
    simp only [Nat.add_zero, List.getElem_cons_zero] at k0
    clear hc hp
    have hcond : k.toNat ≤ 8 ∧ k.toNat ≤ t.length ∧ (0 < k.toNat → t.headD 1 ≠ 0) := by
      rcases Classical.em (k.toNat ≤ 8 ∧ k.toNat ≤ t.length ∧ (0 < k.toNat → t.headD 1 ≠ 0)) with e | e
      · exact e
      · rw [readU, if_neg e] at hr; cases hr
    rw [readU, if_pos hcond] at hr
    simp only [Option.some.injEq, Prod.mk.injEq] at hr
    obtain ⟨h8, hN, ht0⟩ := hcond
    obtain ⟨hx, hrest⟩ := hr
    have hk : k.toNat ≤ 255 := by have := k.toNat_lt; omega
    have hh := Lib.hid h
    have hh2 := Lib.hid h2
    replace hx := Lib.hid hx
    replace hrest := Lib.hid hrest
    replace kj := Lib.hid kj
    clear h h2
    simp only [List.length_cons] at *
    obtain ⟨t0, htt0⟩ : ∃ t0, t.headD 1 = t0 := ⟨_, rfl⟩
    rw [htt0] at k1 ht0
    clear htt0
    obtain ⟨kk, hkk⟩ : ∃ kk, k.toNat = kk := ⟨_, rfl⟩
    rw [hkk] at k0 h8 hN ht0 hk hx hrest
    clear hkk
    obtain ⟨N, hNt⟩ : ∃ N, t.length = N := ⟨_, rfl⟩
    rw [hNt] at hN k1 hn c0
    replace hNt := Lib.hid hNt
    have hNN : (N : Int) + 1 ≤ 9223372036854775807 := by unfold maxLen at hm; omega
    have d8 : decide ((8 : Int) < (kk : Int)) = false := by simp; omega
    have nz : ((N : Int) + 1 == 0) = false := by simp; omega
    have wk : IntKind.i64.wrap (kk : Int) = kk := IntWalk.i64_in _ (by omega)
    have dN : decide ((N : Int) + 1 ≤ (kk : Int)) = false := by simp; omega
    have hfacts : (∃ _ : (0 : Int) < (kk : Int), 0 < kk ∧ w.cell? ⟨g, o + 1, none⟩ = some (.int .u8 (t0.toNat : Int)) ∧ ((t0.toNat : Int) == 0) = false) ∨ (decide ((0 : Int) < (kk : Int)) = false ∧ decide (0 < kk) = false) := by
      by_cases hk0 : 0 < kk
      · refine .inl ⟨by omega, hk0, k1 (by omega), ?_⟩
        have := ht0 hk0
        have h9 : t0.toNat ≠ 0 := fun e => this (UInt8.toNat_inj.1 (by simpa using e))
        simp; omega
      · exact .inr ⟨by simp; omega, by simp; omega⟩
    clear ht0 k1
    have hcp : 1 < cp ∨ (cp = 1 ∧ N = 0 ∧ kk = 0) := by omega
    rcases hcp with hcp | ⟨hcp1, hcp2, hcp3⟩
    · rcases hfacts with ⟨dk, hk0, k1', t0n⟩ | ⟨dk, dk2⟩
      all_goals
        go_enter Tryz.func52, Tryz.ntmps52
        go_wp2
        (refine wp_region_quiet_lit (by kernel_rfl) (by kernel_rfl) ?_; (repeat (first | go_big_quiet_step (fail) | quiet_step (fail))); with_reducible refine wpQuiet_nil ?_; intro _ hw'; obtain ⟨nq, hw''⟩ := hw'; subst hw'')
        go_wp2
        go_loopw [5, 69] (fun _ i wr => ∃ j : Nat, j ≤ kk ∧ i = .int .i64 j ∧ wr.heap[b2]? = some (.cells #[.int .u64 (valU (t.take j))] 24 (0, 0)) ∧ Keeps [b2] w wr) (fun _ i _ => kk - (intOf i).toNat)
        case atStart => exact ⟨0, by omega, rfl, hh2.out, (Keeps.refl _ w).drewN _⟩
        case round =>
          obtain ⟨j, hj, rfl, hb2, hkw⟩ := hrel
          obtain ⟨eb, fb, lb⟩ := cell1_of hb2
          have q0 := (hkw.cell br 0 hlt (by simp; omega)).trans c0
          have q1 := (hkw.frozen br 0 hlt (by simp; omega)).trans f0
          have q2 := (hkw.cell b1 0 (lt_of_cell h1) (by simp; omega)).trans h1
          have hvl := valU_lt j (t.take j) (by rw [List.length_take]; have := hNt.out; omega)
          by_cases hlt3 : j < kk
          · have hjt : j < t.length := by have := hNt.out; omega
            have hcj := (hkw.cell g (o + 1 + j) hg (by simp; omega)).trans (kj.out j hjt)
            have hb8 : (t[j].toNat : Int) ≤ 255 := by have := t[j].toNat_lt; omega
            have hstep : Hid (valU (t.take (j + 1)) = valU (t.take j) * 256 + t[j].toNat) := by show _ = _; rw [List.take_succ_eq_append_getElem hjt, valU_snoc]
            have hvb : (valU (t.take j) : Int) < 72057594037927936 := by
              have : (256 : Nat) ^ j ≤ 256 ^ 7 := Nat.pow_le_pow_right (by omega) (by omega)
              omega
            clear hvl
            generalize t[j].toNat = y at *
            generalize hvv : valU (t.take j) = vv at *
            replace hb2 := Lib.hid hb2
            replace hkw := Lib.hid hkw
            replace hvv := Lib.hid hvv
            go_wp2
            go_roundw
            case rel => exact ⟨j + 1, by omega, by go_num, by rw [or_byte _ _ hvb hb8, hstep.out]; exact one_setCell hb2.out, hkw.out.setCell (.inr (by simp)) _⟩
            case measure => simp [intOf]; omega
          · have hjk : j = kk := by omega
            subst hjk
            replace hb2 := Lib.hid hb2
            replace hkw := Lib.hid hkw
            clear hvl
            go_wp2
            go_region
            have hfin := rd_tail w wr br b2 g o N cp k t j hh.out hkw.out hb2.out hh2.out hNt.out hN (by omega)
            rw [hx.out, hrest.out] at hfin
            generalize hW : (wr.setCell ⟨br, 0, none⟩ (.slice (if cp = 1 + j then some ⟨g, o, none⟩ else some ⟨g, o + (1 + j), none⟩) (N + 1 - (1 + j)) (cp - (1 + j)))).drew = W at *
            replace hfin := Lib.hid hfin
            clear hW
            (repeat go_step)
            go_ret
            exact ⟨rfl, hfin.out⟩
    · clear hfacts
      subst hcp1 hcp2 hcp3
      have k0' : w.cell? ⟨g, o, none⟩ = some (.int .u8 0) := by simpa using k0
      simp only [Nat.zero_add] at c0
      have c0' : w.cell? ⟨br, 0, none⟩ = some (.slice (some ⟨g, o, none⟩) 1 1) := c0
      clear hk h8 k0 d8 dN wk c0 nz hm hn hN hNN
      go_enter Tryz.func52, Tryz.ntmps52
      go_wp2
      (refine wp_region_quiet_lit (by kernel_rfl) (by kernel_rfl) ?_; (repeat (first | go_big_quiet_step (fail) | quiet_step (fail))); with_reducible refine wpQuiet_nil ?_; intro _ hw'; obtain ⟨nq, hw''⟩ := hw'; subst hw'')
      go_wp2
      go_loopw [5, 69] (fun _ i wr => i = .int .i64 0 ∧ ∃ n, wr = w.drewN n) (fun _ i _ => 0)
      case atStart => exact ⟨rfl, _, rfl⟩
      case round =>
        obtain ⟨rfl, n, rfl⟩ := hrel
        have hkw : Keeps [b2] w (w.drewN n) := (Keeps.refl _ w).drewN n
        have hfin := rd_tail w (w.drewN n) br b2 g o 0 1 k t 0 hh.out hkw (by simpa [valU] using hh2.out) hh2.out hNt.out (by omega) hne.2
        rw [hx.out, hrest.out] at hfin
        simp only [Nat.add_zero, if_true, Nat.zero_add, Nat.sub_self] at hfin
        clear hkw
        replace hfin := Lib.hid hfin
        go_wp2
        go_region
        (repeat go_step)
        go_ret
        exact ⟨rfl, hfin.out⟩
end Go.Proofs.YthfdngjbcgkkfaaGreat

namespace Go.Proofs.YthfdngjbcgkkfaaGreat
open Go.RowKit

theorem Rd.keeps {w w' : World} {br : Nat} {v : Value} {l : List UInt8} {e : Int} (h : Rd w br v l e) (hk : Keeps [] w w') : Rd w' br v l e :=
  ⟨(hk.block br (cell2_of h.1).2.2.2.2 (by simp)).trans h.1, h.2.keeps hk⟩

theorem two_boxes (w : World) (p : Value) : ((w.alloc (.cells #[p] 79)).alloc (.cells #[.int .u64 0] 24)).heap[w.heap.size + 1]? = some (.cells #[.int .u64 0] 24 (0, 0)) := by
  have := heap_alloc_new (w.alloc (.cells #[p] 79)) (.cells #[.int .u64 0] 24)
  simpa using this
theorem Keeps.back {S : List Nat} {a b c : World} (h : Keeps [] a b) (k : Keeps S b c) {T : List Nat} (hT : ∀ x ∈ S, x ∈ T ∨ a.heap.size ≤ x) : Keeps T a c :=
  (h.of_nil (T := T)).trans' k hT
theorem rd_set_ok {w : World} {br : Nat} {v : Value} {l : List UInt8} {e : Int} (h : Rd w br v l e) (e' : Int) : Rd (w.setCell ⟨br, 1, none⟩ (.int .i64 e')) br v l e' :=
  ⟨set2_1 h.1 _, h.2.kv (KV.setCell w _ (cell2_of h.1).2.1 (by simp))⟩
theorem rd_set_bad {w : World} {br : Nat} {v : Value} {l : List UInt8} {e : Int} (h : Rd w br v l e) (e' : Int) : Rd ((w.setCell ⟨br, 1, none⟩ (.int .i64 e')).setCell ⟨br, 0, none⟩ (.slice none 0 0)) br (.slice none 0 0) [] e' :=
  ⟨set2_0 (set2_1 h.1 _) _, SlV.nil _⟩
set_option maxRecDepth 100000 in
set_option maxHeartbeats 2000000 in
theorem uint_ok (w : World) (br : Nat) (v : Value) (l rest : List UInt8) (x : Nat) (h : Rd w br v l 0) (hr : readU l = some (x, rest)) :
    Calls Tryz.prog 29 #[.pointer (some ⟨br, 0, none⟩)] w fun en w' => en = .returned (.int .u64 x) ∧ (∃ v', Rd w' br v' rest 0) ∧ Keeps [br] w w' := by
  obtain ⟨c0, c1, f0, f1, hlt⟩ := cell2_of h.1
  have hne : ¬ w.heap.size = br := by omega
  have hne2 : ¬ w.heap.size + 1 = br := by omega
  obtain ⟨a0, cp0, rfl⟩ := h.2.form
  have hkA : Keeps [] w ((w.alloc (.cells #[.pointer (some ⟨br, 0, none⟩)] 79)).alloc (.cells #[.int .u64 0] 24)) := ((Keeps.refl [] w).alloc _).alloc _
  have hc := uint1_ok _ br w.heap.size (w.heap.size + 1) _ l rest x (h.keeps hkA) (by simp) (two_boxes w _) ⟨by omega, by omega⟩ hr
  replace h := Lib.hid h
  replace hkA := Lib.hid hkA
  replace hc := Lib.hid hc
  replace hr := Lib.hid hr
  clear c0
  go_enter Tryz.func29, Tryz.ntmps29
  go_wp2_with (first
    | (go_at_call 52; refine hc.out.mono ?_; rintro e w3 ⟨rfl, hb2, ⟨v3, hR3⟩, hk3⟩; obtain ⟨d0, d1, g0, g1, hlt3⟩ := cell2_of hR3.1; obtain ⟨e0, _, hlt4⟩ := cell1_of hb2; have hk4 := Lib.hid hk3; have hR4 := Lib.hid hR3; clear hk3 hR3 hb2)
    | go_in)
  go_ret
  exact ⟨rfl, ⟨v3, rd_set_ok hR4.out 0⟩, (hkA.out.of_nil.trans' hk4.out (by simp)).setCell (.inr (by simp)) _⟩

set_option maxRecDepth 100000 in
set_option maxHeartbeats 2000000 in
theorem uint_bad (w : World) (br : Nat) (v : Value) (l : List UInt8) (h : Rd w br v l 0) (hr : readU l = none) :
    Calls Tryz.prog 29 #[.pointer (some ⟨br, 0, none⟩)] w fun en w' => en = .returned (.int .u64 0) ∧ Rd w' br (.slice none 0 0) [] 11 ∧ Keeps [br] w w' := by
  obtain ⟨c0, c1, f0, f1, hlt⟩ := cell2_of h.1
  have hne : ¬ w.heap.size = br := by omega
  have hne2 : ¬ w.heap.size + 1 = br := by omega
  obtain ⟨a0, cp0, rfl⟩ := h.2.form
  have hkA : Keeps [] w ((w.alloc (.cells #[.pointer (some ⟨br, 0, none⟩)] 79)).alloc (.cells #[.int .u64 0] 24)) := ((Keeps.refl [] w).alloc _).alloc _
  have hc := uint1_bad _ br w.heap.size (w.heap.size + 1) _ l (h.keeps hkA) (by simp) hr
  have h2 := two_boxes w (.pointer (some ⟨br, 0, none⟩))
  replace h2 := Lib.hid h2
  replace h := Lib.hid h
  replace hkA := Lib.hid hkA
  replace hc := Lib.hid hc
  replace hr := Lib.hid hr
  clear c0
  go_enter Tryz.func29, Tryz.ntmps29
  go_wp2_with (first
    | (go_at_call 52; refine hc.out.mono ?_; rintro e w3 ⟨rfl, hk3⟩; have hR3 := (h.out.keeps hkA.out).keeps hk3; obtain ⟨d0, d1, g0, g1, hlt3⟩ := cell2_of hR3.1; have hk4 := Lib.hid hk3; have hR4 := Lib.hid hR3; have h22 := Lib.hid ((hk3.block _ (by simp) (by simp)).trans h2.out); obtain ⟨e0, _, hlt4⟩ := cell1_of h22.out; clear hk3 hR3)
    | go_in)
  go_ret
  exact ⟨rfl, rd_set_bad hR4.out 11, (((hkA.out.trans hk4.out).of_nil).setCell (.inr (by simp)) _).setCell (.inr (by simp)) _⟩

/-- Both in one: what a number's reading gives and leaves. -/
def rdU (l : List UInt8) : Nat × List UInt8 × Int := match readU l with | some (x, r) => (x, r, 0) | none => (0, [], 11)
theorem uint_c (w : World) (br : Nat) (v : Value) (l : List UInt8) (h : Rd w br v l 0) :
    Calls Tryz.prog 29 #[.pointer (some ⟨br, 0, none⟩)] w fun en w' => en = .returned (.int .u64 (rdU l).1) ∧ (∃ v', Rd w' br v' (rdU l).2.1 (rdU l).2.2) ∧ Keeps [br] w w' := by
  cases hr : readU l with
  | none =>
    have e : rdU l = (0, [], 11) := by simp [rdU, hr]
    rw [e]
    exact (uint_bad w br v l h hr).mono fun _ _ ⟨h1, h2, h3⟩ => ⟨h1, ⟨_, h2⟩, h3⟩
  | some p =>
    obtain ⟨x, r⟩ := p
    have e : rdU l = (x, r, 0) := by simp [rdU, hr]
    rw [e]
    exact uint_ok w br v l r x h hr
end Go.Proofs.YthfdngjbcgkkfaaGreat

namespace Go.Proofs.YthfdngjbcgkkfaaGreat
open Go.RowKit

/-- A reader's state: what is left, and the error. -/
abbrev RS := List UInt8 × Int
def rU (s : RS) : Nat × RS := if s.2 = 0 then (match readU s.1 with | some (x, r) => (x, (r, 0)) | none => (0, ([], 11))) else (0, s)
def readB : List UInt8 → Option (Bool × List UInt8)
  | [] => none
  | k :: t => if k.toNat ≤ 1 then some (k.toNat == 1, t) else none
def rB (s : RS) : Bool × RS := if s.2 = 0 then (match readB s.1 with | some (x, r) => (x, (r, 0)) | none => (false, ([], 11))) else (false, s)
/-- The reader in memory, in a state. -/
def RdS (w : World) (br : Nat) (s : RS) : Prop := ∃ v, Rd w br v s.1 s.2
theorem RdS.keeps {w w' : World} {br : Nat} {s : RS} (h : RdS w br s) (hk : Keeps [] w w') : RdS w' br s := by obtain ⟨v, h⟩ := h; exact ⟨v, h.keeps hk⟩
theorem RdS.lt {w : World} {br : Nat} {s : RS} (h : RdS w br s) : br < w.heap.size := by obtain ⟨v, h⟩ := h; exact (cell2_of h.1).2.2.2.2
set_option maxRecDepth 100000 in
set_option maxHeartbeats 2000000 in
theorem uint_err (w : World) (br : Nat) (v : Value) (l : List UInt8) (e : Int) (h : Rd w br v l e) (he : e ≠ 0) :
    Calls Tryz.prog 29 #[.pointer (some ⟨br, 0, none⟩)] w fun en w' => en = .returned (.int .u64 0) ∧ Keeps [] w w' := by
  obtain ⟨c0, c1, f0, f1, hlt⟩ := cell2_of h.1
  have hne : ¬ w.heap.size = br := by omega
  have hne2 : ¬ w.heap.size + 1 = br := by omega
  have he2 : (e == 0) = false := by simp [he]
  obtain ⟨a0, cp0, rfl⟩ := h.2.form
  have hkA : Keeps [] w ((w.alloc (.cells #[.pointer (some ⟨br, 0, none⟩)] 79)).alloc (.cells #[.int .u64 0] 24)) := ((Keeps.refl [] w).alloc _).alloc _
  clear h c0 he
  go_enter Tryz.func29, Tryz.ntmps29
  go_wp2_with (first | go_in)
  go_ret
  exact ⟨rfl, hkA⟩
theorem uintS_c (w : World) (br : Nat) (s : RS) (h : RdS w br s) :
    Calls Tryz.prog 29 #[.pointer (some ⟨br, 0, none⟩)] w fun en w' => en = .returned (.int .u64 (rU s).1) ∧ RdS w' br (rU s).2 ∧ Keeps [br] w w' := by
  obtain ⟨l, e⟩ := s
  obtain ⟨v, h⟩ := h
  by_cases he : e = 0
  · subst he
    refine (uint_c w br v l h).mono fun en w' ⟨h1, h2, h3⟩ => ?_
    have : rU (l, 0) = ((rdU l).1, ((rdU l).2.1, (rdU l).2.2)) := by
      cases hx : readU l with
      | none => simp [rU, rdU, hx]
      | some p => obtain ⟨x, r⟩ := p; simp [rU, rdU, hx]
    rw [this]
    exact ⟨h1, h2, h3⟩
  · refine (uint_err w br v l e h he).mono fun en w' ⟨h1, h2⟩ => ?_
    rw [show rU (l, e) = (0, (l, e)) by unfold rU; rw [if_neg he]]
    exact ⟨h1, ⟨v, h.keeps h2⟩, h2.of_nil⟩
theorem two_boxesB (w : World) (p : Value) : ((w.alloc (.cells #[p] 79)).alloc (.cells #[.bool false] 4)).heap[w.heap.size + 1]? = some (.cells #[.bool false] 4 (0, 0)) := by
  have := heap_alloc_new (w.alloc (.cells #[p] 79)) (.cells #[.bool false] 4)
  simpa using this
set_option maxRecDepth 100000 in
set_option maxHeartbeats 2000000 in
theorem bool1_bad (w : World) (br b1 b2 : Nat) (v : Value) (l : List UInt8) (h : Rd w br v l 0) (h1 : w.cell? ⟨b1, 0, none⟩ = some (.pointer (some ⟨br, 0, none⟩))) (hr : readB l = none) :
    Calls Tryz.prog 54 #[.pointer (some ⟨b1, 0, none⟩), .pointer (some ⟨b2, 0, none⟩)] w fun en w' => en = .returned (.int .i64 11) ∧ Keeps [] w w' := by
  obtain ⟨c0, c1, f0, f1, hlt⟩ := cell2_of h.1
  rcases h.2.cases with ⟨rfl, a, cp, rfl, _, _⟩ | ⟨g, o, cp, rfl, hn, hm, hp, hg, hc⟩
  · clear h hr
    go_enter Tryz.func54, Tryz.ntmps54
    go_wp2
    go_ret
    exact ⟨rfl, Keeps.refl _ _⟩
  · obtain ⟨k, t, rfl⟩ : ∃ k t, l = k :: t := by cases l with | nil => simp at hp | cons k t => exact ⟨k, t, rfl⟩
    have k0 := hc 0 (by simp)
    simp only [Nat.add_zero, List.getElem_cons_zero] at k0
    have hk1 : 1 < k.toNat := by
      rcases Nat.lt_or_ge 1 k.toNat with e | e
      · exact e
      · rw [readB, if_pos e] at hr; cases hr
    clear h hc hp hr
    have hk := k.toNat_lt
    simp only [List.length_cons] at *
    generalize k.toNat = kk at *
    generalize t.length = N at *
    have hNN : (N : Int) + 1 ≤ 9223372036854775807 := by unfold maxLen at hm; omega
    have nz : ((N : Int) + 1 == 0) = false := by simp; omega
    have d1 : (1 : Int) < (kk : Int) := by omega
    go_enter Tryz.func54, Tryz.ntmps54
    go_wp2
    go_ret
    exact ⟨rfl, Keeps.refl _ _⟩
set_option maxRecDepth 100000 in
set_option maxHeartbeats 2000000 in
theorem bool1_ok (w : World) (br b1 b2 : Nat) (v : Value) (l rest : List UInt8) (x : Bool) (h : Rd w br v l 0) (h1 : w.cell? ⟨b1, 0, none⟩ = some (.pointer (some ⟨br, 0, none⟩))) (h2 : w.heap[b2]? = some (.cells #[.bool false] 4 (0, 0)))
    (hne : b1 ≠ b2 ∧ br ≠ b2 ∧ b1 ≠ br) (hr : readB l = some (x, rest)) :
    Calls Tryz.prog 54 #[.pointer (some ⟨b1, 0, none⟩), .pointer (some ⟨b2, 0, none⟩)] w fun en w' => en = .returned (.int .i64 0) ∧ w'.heap[b2]? = some (.cells #[.bool x] 4 (0, 0)) ∧ (∃ v', Rd w' br v' rest 0) ∧ Keeps [br, b2] w w' := by
  obtain ⟨c0, c1, f0, f1, hlt⟩ := cell2_of h.1
  obtain ⟨e0, fe0, hlt2⟩ := cell1_of h2
  rcases h.2.cases with ⟨rfl, a, cp, rfl, _, _⟩ | ⟨g, o, cp, rfl, hn, hm, hp, hg, hc⟩
  · cases hr
  · obtain ⟨k, t, rfl⟩ : ∃ k t, l = k :: t := by cases l with | nil => simp at hp | cons k t => exact ⟨k, t, rfl⟩
    have k0 := hc 0 (by simp)
    simp only [Nat.add_zero, List.getElem_cons_zero] at k0
    have hgb : g ≠ b2 := fun e => by subst e; exact no_byte h2 (by simp) _ _ k0
    have hgr : g ≠ br := fun e => by subst e; exact no_byte h.1 (by simp) _ _ k0
    have hk1 : k.toNat ≤ 1 := by
      rcases Nat.lt_or_ge 1 k.toNat with e | e
      · rw [readB, if_neg (by omega)] at hr; cases hr
      · exact e
    rw [readB, if_pos hk1] at hr
    simp only [Option.some.injEq, Prod.mk.injEq] at hr
    obtain ⟨hx, rfl⟩ := hr
    have htl := SlV.tail h.2 1 (by simp)
    simp only [List.length_cons, List.drop_succ_cons, List.drop_zero, Nat.add_sub_cancel] at htl
    simp only [List.length_cons] at *
    have hh := Lib.hid h
    have hh2 := Lib.hid h2
    clear h h2 hc hp
    generalize hkk : k.toNat = kk at *
    obtain ⟨N, hNt⟩ : ∃ N, t.length = N := ⟨_, rfl⟩
    rw [hNt] at hn c0 htl
    have hhN : Hid (Rd w br (.slice (some ⟨g, o, none⟩) (N + 1) cp) (k :: t) 0) := by rw [← hNt]; exact hh
    clear hNt hh
    have hNN : (N : Int) + 1 ≤ 9223372036854775807 := by unfold maxLen at hm; omega
    have nz : ((N : Int) + 1 == 0) = false := by simp; omega
    have d1 : decide ((1 : Int) < (kk : Int)) = false := by simp; omega
    have h1N : (1 : Int) ≤ (N : Int) + 1 := by omega
    have hxx : ((kk : Int) == 1) = x := by rw [← hx, Bool.eq_iff_iff]; simp; omega
    obtain ⟨vt, hvt⟩ : ∃ vt, (if cp = 1 then some (⟨g, o, none⟩ : Addr) else some ⟨g, o + 1, none⟩) = vt := ⟨_, rfl⟩
    rw [hvt] at htl
    replace htl := Lib.hid htl
    replace hvt := Lib.hid hvt
    replace hkk := Lib.hid hkk
    clear hx
    go_enter Tryz.func54, Tryz.ntmps54
    go_wp2
    refine Free.wp_region_chain (fun i => i == 13 || i == 16) (fun i => true) (fun j b => (j = 13 ∧ b = b2) ∨ (j = 16 ∧ b = br)) (by kernel_rfl) (by kernel_rfl) (by kernel_rfl) ?_
    (repeat (first | (apply Free.cw_pure rfl rfl; (intro w'; go_simp <;> exact rfl); go_frame) | (apply Free.cw_steady rfl rfl rfl; (intro w' hS; have q0 := Free.sx_cell hS h1 (fun _ _ hT => Or.elim hT (fun h => hne.1 h.2) (fun h => hne.2.2 h.2)); have q1 := Free.sx_cell hS k0 (fun _ _ hT => Or.elim hT (fun h => hgb h.2) (fun h => hgr h.2)); have q2 := Free.sx_cell hS c0 (fun j hp hT => Or.elim hT (fun h => hne.2.1 h.2) (fun h => by obtain ⟨rfl, _⟩ := h; exact absurd hp (by decide +kernel))); go_simp <;> exact rfl); go_frame) | (refine Free.cw_skip rfl ?_; go_frame)))
    clear hxx d1 nz hk1
    rw [hvt.out]
    refine Free.cw_loud rfl rfl (fun K hK => ?_)
    go_wp2
    refine hK _ _ rfl (Free.KeepsP.setCell _ (.inl ⟨trivial, rfl⟩) _) ?_
    clear hK K
    (repeat (first | (apply Free.cw_pure rfl rfl; (intro w'; go_simp <;> exact rfl); go_frame) | (apply Free.cw_steady rfl rfl rfl; (intro w' hS; have q0 := Free.sx_cell hS h1 (fun _ _ hT => Or.elim hT (fun h => hne.1 h.2) (fun h => hne.2.2 h.2)); have q1 := Free.sx_cell hS k0 (fun _ _ hT => Or.elim hT (fun h => hgb h.2) (fun h => hgr h.2)); have q2 := Free.sx_cell hS c0 (fun j hp hT => Or.elim hT (fun h => hne.2.1 h.2) (fun h => by obtain ⟨rfl, _⟩ := h; exact absurd hp (by decide +kernel))); go_simp <;> exact rfl); go_frame) | (refine Free.cw_skip rfl ?_; go_frame)))
    refine Free.cw_loud rfl rfl (fun K hK => ?_)
    go_wp2
    refine hK _ _ rfl (Free.KeepsP.setCell _ (.inr ⟨trivial, rfl⟩) _) ?_
    clear hK K
    (repeat (first | (apply Free.cw_pure rfl rfl; (intro w'; go_simp <;> exact rfl); go_frame) | (apply Free.cw_steady rfl rfl rfl; (intro w' hS; have q0 := Free.sx_cell hS h1 (fun _ _ hT => Or.elim hT (fun h => hne.1 h.2) (fun h => hne.2.2 h.2)); go_simp <;> exact rfl); go_frame) | (refine Free.cw_skip rfl ?_; go_frame)))
    refine Free.cw_nil ?_
    go_wp2
    go_ret
    have hbr1 : (w.setCell ⟨b2, 0, none⟩ (.bool x)).heap[br]? = some (.cells #[.slice (some ⟨g, o, none⟩) (N + 1) cp, .int .i64 0] 103 (0, 0)) := (Below.heap_setCell _ _ _ _ (by simp; omega)).trans hhN.out.1
    have hb21 : (w.setCell ⟨b2, 0, none⟩ (.bool x)).heap[b2]? = some (.cells #[.bool x] 4 (0, 0)) := one_setCell hh2.out
    refine ⟨rfl, (Below.heap_setCell _ _ _ _ (by simp; omega)).trans hb21, ⟨_, set2_0 hbr1 _, htl.out.kv ((KV.setCell w _ e0 (by simp)).trans ((KV.setCell _ _ (cell2_of hbr1).1 (by simp)).trans (KV.drew _)))⟩, (((Keeps.refl _ w).setCell (.inr (by simp)) _).setCell (.inr (by simp)) _).drew⟩
set_option maxRecDepth 100000 in
set_option maxHeartbeats 2000000 in
theorem bool_ok (w : World) (br : Nat) (v : Value) (l rest : List UInt8) (x : Bool) (h : Rd w br v l 0) (hr : readB l = some (x, rest)) :
    Calls Tryz.prog 31 #[.pointer (some ⟨br, 0, none⟩)] w fun en w' => en = .returned (.bool x) ∧ (∃ v', Rd w' br v' rest 0) ∧ Keeps [br] w w' := by
  obtain ⟨c0, c1, f0, f1, hlt⟩ := cell2_of h.1
  have hne : ¬ w.heap.size = br := by omega
  have hne2 : ¬ w.heap.size + 1 = br := by omega
  obtain ⟨a0, cp0, rfl⟩ := h.2.form
  have hkA : Keeps [] w ((w.alloc (.cells #[.pointer (some ⟨br, 0, none⟩)] 79)).alloc (.cells #[.bool false] 4)) := ((Keeps.refl [] w).alloc _).alloc _
  have hc := bool1_ok _ br w.heap.size (w.heap.size + 1) _ l rest x (h.keeps hkA) (by simp) (two_boxesB w _) ⟨by omega, by omega, by omega⟩ hr
  replace h := Lib.hid h
  replace hkA := Lib.hid hkA
  replace hc := Lib.hid hc
  replace hr := Lib.hid hr
  clear c0
  go_enter Tryz.func31, Tryz.ntmps31
  go_wp2_with (first
    | (go_at_call 54; refine hc.out.mono ?_; rintro e w3 ⟨rfl, hb2, ⟨v3, hR3⟩, hk3⟩; obtain ⟨d0, d1, g0, g1, hlt3⟩ := cell2_of hR3.1; obtain ⟨e0, _, hlt4⟩ := cell1_of hb2; have hk4 := Lib.hid hk3; have hR4 := Lib.hid hR3; clear hk3 hR3 hb2)
    | go_in)
  go_ret
  exact ⟨rfl, ⟨v3, rd_set_ok hR4.out 0⟩, (hkA.out.of_nil.trans' hk4.out (by simp)).setCell (.inr (by simp)) _⟩
set_option maxRecDepth 100000 in
set_option maxHeartbeats 2000000 in
theorem bool_bad (w : World) (br : Nat) (v : Value) (l : List UInt8) (h : Rd w br v l 0) (hr : readB l = none) :
    Calls Tryz.prog 31 #[.pointer (some ⟨br, 0, none⟩)] w fun en w' => en = .returned (.bool false) ∧ Rd w' br (.slice none 0 0) [] 11 ∧ Keeps [br] w w' := by
  obtain ⟨c0, c1, f0, f1, hlt⟩ := cell2_of h.1
  have hne : ¬ w.heap.size = br := by omega
  have hne2 : ¬ w.heap.size + 1 = br := by omega
  obtain ⟨a0, cp0, rfl⟩ := h.2.form
  have hkA : Keeps [] w ((w.alloc (.cells #[.pointer (some ⟨br, 0, none⟩)] 79)).alloc (.cells #[.bool false] 4)) := ((Keeps.refl [] w).alloc _).alloc _
  have hc := bool1_bad _ br w.heap.size (w.heap.size + 1) _ l (h.keeps hkA) (by simp) hr
  have h2 := two_boxesB w (.pointer (some ⟨br, 0, none⟩))
  replace h2 := Lib.hid h2
  replace h := Lib.hid h
  replace hkA := Lib.hid hkA
  replace hc := Lib.hid hc
  replace hr := Lib.hid hr
  clear c0
  go_enter Tryz.func31, Tryz.ntmps31
  go_wp2_with (first
    | (go_at_call 54; refine hc.out.mono ?_; rintro e w3 ⟨rfl, hk3⟩; have hR3 := (h.out.keeps hkA.out).keeps hk3; obtain ⟨d0, d1, g0, g1, hlt3⟩ := cell2_of hR3.1; have hk4 := Lib.hid hk3; have hR4 := Lib.hid hR3; have h22 := Lib.hid ((hk3.block _ (by simp) (by simp)).trans h2.out); obtain ⟨e0, _, hlt4⟩ := cell1_of h22.out; clear hk3 hR3)
    | go_in)
  go_ret
  exact ⟨rfl, rd_set_bad hR4.out 11, (((hkA.out.trans hk4.out).of_nil).setCell (.inr (by simp)) _).setCell (.inr (by simp)) _⟩
set_option maxRecDepth 100000 in
set_option maxHeartbeats 2000000 in
theorem bool_err (w : World) (br : Nat) (v : Value) (l : List UInt8) (e : Int) (h : Rd w br v l e) (he : e ≠ 0) :
    Calls Tryz.prog 31 #[.pointer (some ⟨br, 0, none⟩)] w fun en w' => en = .returned (.bool false) ∧ Keeps [] w w' := by
  obtain ⟨c0, c1, f0, f1, hlt⟩ := cell2_of h.1
  have hne : ¬ w.heap.size = br := by omega
  have hne2 : ¬ w.heap.size + 1 = br := by omega
  have he2 : (e == 0) = false := by simp [he]
  obtain ⟨a0, cp0, rfl⟩ := h.2.form
  have hkA : Keeps [] w ((w.alloc (.cells #[.pointer (some ⟨br, 0, none⟩)] 79)).alloc (.cells #[.bool false] 4)) := ((Keeps.refl [] w).alloc _).alloc _
  clear h c0 he
  go_enter Tryz.func31, Tryz.ntmps31
  go_wp2_with (first | go_in)
  go_ret
  exact ⟨rfl, hkA⟩
theorem boolS_c (w : World) (br : Nat) (s : RS) (h : RdS w br s) :
    Calls Tryz.prog 31 #[.pointer (some ⟨br, 0, none⟩)] w fun en w' => en = .returned (.bool (rB s).1) ∧ RdS w' br (rB s).2 ∧ Keeps [br] w w' := by
  obtain ⟨l, e⟩ := s
  obtain ⟨v, h⟩ := h
  by_cases he : e = 0
  · subst he
    cases hr : readB l with
    | none =>
      rw [show rB (l, 0) = (false, ([], 11)) by unfold rB; rw [if_pos rfl]; simp only [hr]]
      exact (bool_bad w br v l h hr).mono fun _ _ ⟨h1, h2, h3⟩ => ⟨h1, ⟨_, h2⟩, h3⟩
    | some p =>
      obtain ⟨x, r⟩ := p
      rw [show rB (l, 0) = (x, (r, 0)) by unfold rB; rw [if_pos rfl]; simp only [hr]]
      exact bool_ok w br v l r x h hr
  · refine (bool_err w br v l e h he).mono fun en w' ⟨h1, h2⟩ => ?_
    rw [show rB (l, e) = (false, (l, e)) by unfold rB; rw [if_neg he]]
    exact ⟨h1, ⟨v, h.keeps h2⟩, h2.of_nil⟩
end Go.Proofs.YthfdngjbcgkkfaaGreat

namespace Go.Proofs.YthfdngjbcgkkfaaGreat
open Go.RowKit

def cEK (K n : Nat) (l : List UInt8) : Int := if K < n then 8 else if l.length < n then 11 else 0
def rCK (K : Nat) (l : List UInt8) : Nat × RS := match readU l with | some (n, r) => if cEK K n r = 0 then (n, (r, 0)) else (0, ([], cEK K n r)) | none => (0, ([], 11))
theorem rCK_le (K : Nat) (l : List UInt8) : (rCK K l).1 ≤ K := by
  unfold rCK
  split
  · rename_i n r _
    split
    · rename_i h
      unfold cEK at h
      split at h
      · cases h
      · show n ≤ K
        omega
    · simp
  · simp
set_option maxRecDepth 100000 in
set_option maxHeartbeats 2000000 in
theorem countG1_c (K : Nat) (hK : K ≤ 1099511627776) (w : World) (br b1 b2 b3 : Nat) (v : Value) (l : List UInt8) (n : Nat) (h : Rd w br v l 0) (h1 : w.cell? ⟨b1, 0, none⟩ = some (.int .i64 (K : Nat))) (h2 : w.cell? ⟨b2, 0, none⟩ = some (.int .u64 n)) (h3 : w.cell? ⟨b3, 0, none⟩ = some (.pointer (some ⟨br, 0, none⟩))) :
    Calls Tryz.prog 53 #[.pointer (some ⟨b1, 0, none⟩), .pointer (some ⟨b2, 0, none⟩), .pointer (some ⟨b3, 0, none⟩)] w fun en w' => en = .returned (.int .i64 (cEK K n l)) ∧ Keeps [] w w' := by
  obtain ⟨c0, c1, f0, f1, hlt⟩ := cell2_of h.1
  obtain ⟨a0, cp0, rfl⟩ := h.2.form
  have hmx := h.2.cap
  clear h
  obtain ⟨N, hN⟩ : ∃ N, l.length = N := ⟨_, rfl⟩
  rw [hN] at c0 hmx
  have hNN : (N : Int) ≤ 9223372036854775807 := by unfold maxLen at hmx; omega
  replace hN := Lib.hid hN
  have hKw : IntKind.u64.wrap (K : Int) = K := by rw [IntKind.wrap_u64]; omega
  have hK0 : decide ((K : Int) < 0) = false := by simp
  have hwr : IntKind.u64.wrap (N : Int) = N := by rw [IntKind.wrap_u64]; omega
  by_cases hbig : K < n
  · have hd : (K : Int) < (n : Int) := by omega
    go_enter Tryz.func53, Tryz.ntmps53
    go_wp2
    go_ret
    exact ⟨by unfold cEK; rw [if_pos hbig]; rfl, Keeps.refl _ _⟩
  · have hd : decide ((K : Int) < (n : Int)) = false := by simp; omega
    by_cases hb2 : N < n
    · have hd2 : (N : Int) < (n : Int) := by omega
      go_enter Tryz.func53, Tryz.ntmps53
      go_wp2
      (refine wp_region_quiet_lit (by kernel_rfl) (by kernel_rfl) ?_; (repeat (first | go_big_quiet_step (fail) | quiet_step (fail))); with_reducible refine wpQuiet_nil ?_; intro _ hw'; obtain ⟨nq, hw''⟩ := hw'; subst hw'')
      go_wp2
      go_ret
      exact ⟨by unfold cEK; rw [if_neg hbig, hN.out, if_pos hb2]; rfl, (Keeps.refl _ _).drewN _⟩
    · have hd2 : decide ((N : Int) < (n : Int)) = false := by simp; omega
      go_enter Tryz.func53, Tryz.ntmps53
      go_wp2
      (refine wp_region_quiet_lit (by kernel_rfl) (by kernel_rfl) ?_; (repeat (first | go_big_quiet_step (fail) | quiet_step (fail))); with_reducible refine wpQuiet_nil ?_; intro _ hw'; obtain ⟨nq, hw''⟩ := hw'; subst hw'')
      go_wp2
      go_ret
      exact ⟨by unfold cEK; rw [if_neg hbig, hN.out, if_neg hb2]; rfl, (Keeps.refl _ _).drewN _⟩
set_option maxRecDepth 100000 in
set_option maxHeartbeats 2000000 in
theorem countG_bad (K : Nat) (hK : K ≤ 1099511627776) (w : World) (br : Nat) (v : Value) (l : List UInt8) (h : Rd w br v l 0) (hr : readU l = none) :
    Calls Tryz.prog 30 #[.pointer (some ⟨br, 0, none⟩), .int .i64 (K : Nat)] w fun en w' => en = .returned (.int .i64 0) ∧ Rd w' br (.slice none 0 0) [] 11 ∧ Keeps [br] w w' := by
  have hlt := (cell2_of h.1).2.2.2.2
  have hne : ¬ w.heap.size = br := by omega
  have hne2 : ¬ w.heap.size + 1 = br := by omega
  have hkA : Keeps [] w ((w.alloc (.cells #[.pointer (some ⟨br, 0, none⟩)] 79)).alloc (.cells #[.int .i64 (K : Nat)] 3)) := ((Keeps.refl [] w).alloc _).alloc _
  have hx1 := heap_alloc_new w (.cells #[.pointer (some ⟨br, 0, none⟩)] 79)
  have hx2 := (((Keeps.refl [] (w.alloc (.cells #[.pointer (some ⟨br, 0, none⟩)] 79))).alloc (.cells #[.int .i64 (K : Nat)] 3)).block _ (lt_of_block hx1) (by simp)).trans hx1
  have hRA := h.keeps hkA
  replace hRA := Lib.hid hRA
  replace hkA := Lib.hid hkA
  replace hr := Lib.hid hr
  clear h hx1
  go_enter Tryz.func30, Tryz.ntmps30
  go_wp2_with fail
  refine (uint_bad _ br v l hRA.out hr.out).mono ?_
  rintro e w1 ⟨rfl, hR1, hk1⟩
  have hx3 := (hk1.block _ (lt_of_block hx2) (by simpa using hne)).trans hx2
  obtain ⟨z0, zf, zlt⟩ := cell1_of hx3
  have hk01 := Lib.hid (hkA.out.of_nil.trans hk1)
  obtain ⟨c0, c1, f0, f1, hlt1⟩ := cell2_of hR1.1
  have hkB : Keeps [] w1 (w1.alloc (.cells #[.int .u64 0] 24)) := (Keeps.refl [] w1).alloc _
  have hne3 : ¬ w1.heap.size = br := by omega
  have hne4 : ¬ w1.heap.size = w.heap.size := by omega
  replace hR1 := Lib.hid hR1
  replace hkB := Lib.hid hkB
  clear hk1 hx2 hx3
  go_wp2_with (first | go_in)
  go_ret
  exact ⟨rfl, hR1.out.keeps hkB.out, hk01.out.trans hkB.out.of_nil⟩
set_option maxRecDepth 100000 in
set_option maxHeartbeats 4000000 in
theorem countG_ok (K : Nat) (hK : K ≤ 1099511627776) (w : World) (br : Nat) (v : Value) (l r : List UInt8) (n : Nat) (h : Rd w br v l 0) (hr : readU l = some (n, r)) (hn : n < 18446744073709551616) :
    Calls Tryz.prog 30 #[.pointer (some ⟨br, 0, none⟩), .int .i64 (K : Nat)] w fun en w' => en = .returned (.int .i64 (rCK K l).1) ∧ RdS w' br (rCK K l).2 ∧ Keeps [br] w w' := by
  have hrc : rCK K l = if cEK K n r = 0 then (n, (r, 0)) else (0, ([], cEK K n r)) := by unfold rCK; simp only [hr]
  have hlt := (cell2_of h.1).2.2.2.2
  have hne : ¬ w.heap.size = br := by omega
  have hne2 : ¬ w.heap.size + 1 = br := by omega
  have hkA : Keeps [] w ((w.alloc (.cells #[.pointer (some ⟨br, 0, none⟩)] 79)).alloc (.cells #[.int .i64 (K : Nat)] 3)) := ((Keeps.refl [] w).alloc _).alloc _
  have hx1 := heap_alloc_new w (.cells #[.pointer (some ⟨br, 0, none⟩)] 79)
  have hx2 := (((Keeps.refl [] (w.alloc (.cells #[.pointer (some ⟨br, 0, none⟩)] 79))).alloc (.cells #[.int .i64 (K : Nat)] 3)).block _ (lt_of_block hx1) (by simp)).trans hx1
  have hm2 := heap_alloc_new (w.alloc (.cells #[.pointer (some ⟨br, 0, none⟩)] 79)) (.cells #[.int .i64 (K : Nat)] 3)
  rw [show (w.alloc (.cells #[.pointer (some ⟨br, 0, none⟩)] 79)).heap.size = w.heap.size + 1 by simp] at hm2
  have hRA := h.keeps hkA
  replace hRA := Lib.hid hRA
  replace hkA := Lib.hid hkA
  replace hr := Lib.hid hr
  replace hrc := Lib.hid hrc
  clear h hx1
  go_enter Tryz.func30, Tryz.ntmps30
  go_wp2_with fail
  refine (uint_ok _ br v l r n hRA.out hr.out).mono ?_
  rintro e w1 ⟨rfl, ⟨v1, hR1⟩, hk1⟩
  have hx3 := (hk1.block _ (lt_of_block hx2) (by simpa using hne)).trans hx2
  have hm3 := (hk1.block _ (lt_of_block hm2) (by simpa using hne2)).trans hm2
  have hkB : Keeps [] w1 (w1.alloc (.cells #[.int .u64 n] 24)) := (Keeps.refl [] w1).alloc _
  have hx4 := (hkB.block _ (lt_of_block hx3) (by simp)).trans hx3
  have hm4 := (hkB.block _ (lt_of_block hm3) (by simp)).trans hm3
  have hn4 := heap_alloc_new w1 (.cells #[.int .u64 n] 24)
  have hR2 := hR1.keeps hkB
  have hk02 := hkA.out.of_nil.trans (hk1.trans hkB.of_nil)
  obtain ⟨z0, zf, zlt⟩ := cell1_of hx3
  obtain ⟨q0, qf, qlt⟩ := cell1_of hn4
  obtain ⟨c0, c1, f0, f1, hlt1⟩ := cell2_of hR1.1
  have hne3 : ¬ w1.heap.size = br := by omega
  have hne4 : ¬ w1.heap.size = w.heap.size := by omega
  have hc := countG1_c K hK _ br (w.heap.size + 1) w1.heap.size w.heap.size v1 r n hR2 (cell1_of hm4).1 q0 (cell1_of hx4).1
  obtain ⟨E, hE⟩ : ∃ E, cEK K n r = E := ⟨_, rfl⟩
  obtain ⟨a1, cp1, rfl⟩ := hR1.2.form
  rw [hE] at hc
  by_cases hE0 : E = 0
  · subst hE0
    have hn63 : (n : Int) ≤ K := by
      unfold cEK at hE
      split at hE
      · cases hE
      · omega
    replace hE := Lib.hid hE
    replace hR1 := Lib.hid hR1
    replace hR2 := Lib.hid hR2
    replace hkB := Lib.hid hkB
    replace hk02 := Lib.hid hk02
    replace hc := Lib.hid hc
    replace hn4 := Lib.hid hn4
    clear hk1 hx2 hx3 hx4 hm2 hm3 hm4 c0 q0 qf qlt
    go_wp2_with (first
      | (go_at_call 53; refine hc.out.mono ?_; rintro e w3 ⟨rfl, hk3⟩; have hR3 := hR2.out.keeps hk3; obtain ⟨d0, d1, g0, g1, hlt3⟩ := cell2_of hR3.1; have hk4 := Lib.hid hk3; have hR4 := Lib.hid hR3; have hn5 := Lib.hid ((hk3.block _ (lt_of_block hn4.out) (by simp)).trans hn4.out); obtain ⟨e0, _, hlt4⟩ := cell1_of hn5.out; clear hk3 hR3)
      | go_in)
    go_ret
    rw [hrc.out, if_pos hE.out]
    exact ⟨rfl, ⟨_, rd_set_ok hR4.out 0⟩, (hk02.out.trans hk4.out.of_nil).setCell (.inr (by simp)) _⟩
  · have hEb : (E == 0) = false := by simp [hE0]
    replace hE0 := Lib.hid hE0
    replace hE := Lib.hid hE
    replace hR1 := Lib.hid hR1
    replace hR2 := Lib.hid hR2
    replace hkB := Lib.hid hkB
    replace hk02 := Lib.hid hk02
    replace hc := Lib.hid hc
    replace hn4 := Lib.hid hn4
    clear hk1 hx2 hx3 hx4 hm2 hm3 hm4 c0 q0 qf qlt
    go_wp2_with (first
      | (go_at_call 53; refine hc.out.mono ?_; rintro e w3 ⟨rfl, hk3⟩; have hR3 := hR2.out.keeps hk3; obtain ⟨d0, d1, g0, g1, hlt3⟩ := cell2_of hR3.1; have hk4 := Lib.hid hk3; have hR4 := Lib.hid hR3; have hn5 := Lib.hid ((hk3.block _ (lt_of_block hn4.out) (by simp)).trans hn4.out); obtain ⟨e0, _, hlt4⟩ := cell1_of hn5.out; clear hk3 hR3)
      | go_in)
    go_ret
    rw [hrc.out, if_neg (by rw [hE.out]; exact hE0.out)]
    refine ⟨rfl, ⟨.slice none 0 0, ?_⟩, ((hk02.out.trans hk4.out.of_nil).setCell (.inr (by simp)) _).setCell (.inr (by simp)) _⟩
    rw [hE.out]
    exact rd_set_bad hR4.out E
theorem readU_lt {l r : List UInt8} {n : Nat} (h : readU l = some (n, r)) : n < 18446744073709551616 := by
  cases l with
  | nil => cases h
  | cons k t =>
    rcases Classical.em (k.toNat ≤ 8 ∧ k.toNat ≤ t.length ∧ (0 < k.toNat → t.headD 1 ≠ 0)) with hc | hc
    · rw [readU, if_pos hc] at h
      simp only [Option.some.injEq, Prod.mk.injEq] at h
      rw [← h.1]
      have := valU_lt k.toNat (t.take k.toNat) (by rw [List.length_take]; omega)
      have h2 : (256 : Nat) ^ k.toNat ≤ 256 ^ 8 := Nat.pow_le_pow_right (by omega) hc.1
      omega
    · rw [readU, if_neg hc] at h; cases h
theorem countG_c (K : Nat) (hK : K ≤ 1099511627776) (w : World) (br : Nat) (l : List UInt8) (h : RdS w br (l, 0)) :
    Calls Tryz.prog 30 #[.pointer (some ⟨br, 0, none⟩), .int .i64 (K : Nat)] w fun en w' => en = .returned (.int .i64 (rCK K l).1) ∧ RdS w' br (rCK K l).2 ∧ Keeps [br] w w' := by
  obtain ⟨v, h⟩ := h
  cases hr : readU l with
  | none =>
    rw [show rCK K l = (0, ([], 11)) by unfold rCK; simp only [hr]]
    exact (countG_bad K hK w br v l h hr).mono fun _ _ ⟨h1, h2, h3⟩ => ⟨h1, ⟨_, h2⟩, h3⟩
  | some p =>
    obtain ⟨n, r⟩ := p
    exact countG_ok K hK w br v l r n h hr (readU_lt hr)
theorem doneS_c (w : World) (br : Nat) (s : RS) (h : RdS w br s) :
    Calls Tryz.prog 33 #[.pointer (some ⟨br, 0, none⟩)] w fun en w' => en = .returned (.int .i64 (doneE s.1 s.2)) ∧ w = w' := by
  obtain ⟨v, h⟩ := h
  exact done_c w br v s.1 s.2 h
end Go.Proofs.YthfdngjbcgkkfaaGreat

namespace Go.Proofs.YthfdngjbcgkkfaaGreat
open Go.RowKit Go.ChangeShapes

/-- The integer that a number on the wire stands for. -/
def uzig (n : Nat) : Int := if n % 2 = 0 then ((n / 2 : Nat) : Int) else -((n / 2 : Nat) : Int) - 1
theorem uzig_zig (n : Int) : uzig (zig n) = n := by unfold uzig zig; split <;> split <;> omega
theorem uzig_fit {n : Nat} (h : n < 18446744073709551616) : W64 (uzig n) := by
  unfold uzig
  split <;> exact w64_iff.2 ⟨by omega, by omega⟩
def rI (s : RS) : Int × RS := (uzig (rU s).1, (rU s).2)
theorem rU_lt (s : RS) : (rU s).1 < 18446744073709551616 := by
  unfold rU
  split
  · split
    · rename_i x r h; exact readU_lt h
    · show (0 : Nat) < _; decide
  · show (0 : Nat) < _; decide
theorem rI_fit (s : RS) : W64 (rI s).1 := uzig_fit (rU_lt s)
theorem xor_zero (k : Nat) (hk : k < 9223372036854775808) : bits .xor .i64 (k : Int) 0 = k := by
  show IntKind.i64.wrap ((BitVec.ofInt 64 (k : Int) ^^^ BitVec.ofInt 64 0).toNat : Int) = _
  have h2 : (BitVec.ofInt 64 (k : Int)).toNat = k := by
    rw [BitVec.ofInt_natCast, BitVec.toNat_ofNat]; exact Nat.mod_eq_of_lt (by omega)
  have h3 : (BitVec.ofInt 64 0).toNat = 0 := by decide
  rw [BitVec.toNat_xor, h2, h3, Nat.xor_zero, IntKind.wrap_i64]
  omega
theorem xor_ones (k : Nat) (hk : k < 9223372036854775808) : bits .xor .i64 (k : Int) (-1) = -(k : Int) - 1 := by
  have h := Go.Lib.i64_not k hk
  rw [← h]
  simp only [bits, BitVec.xor_comm]
set_option maxRecDepth 100000 in
set_option maxHeartbeats 2000000 in
theorem intS_c (w : World) (br : Nat) (s : RS) (h : RdS w br s) :
    Calls Tryz.prog 28 #[.pointer (some ⟨br, 0, none⟩)] w fun en w' => en = .returned (.int .i64 (rI s).1) ∧ RdS w' br (rI s).2 ∧ Keeps [br] w w' := by
  have hc := uintS_c w br s h
  have hx := rU_lt s
  unfold rI
  simp only
  generalize (rU s).1 = n at *
  generalize (rU s).2 = s2 at *
  replace hc := Lib.hid hc
  clear h
  by_cases h0 : n % 2 = 0
  · obtain ⟨k, rfl⟩ : ∃ k, n = 2 * k := ⟨n / 2, by omega⟩
    have hu : uzig (2 * k) = k := by unfold uzig; rw [if_pos h0]; omega
    have hb : bits .and .u64 (2 * (k : Int)) 1 = 0 := by rw [Go.Lib.u64_and1 _ (by omega) (by omega)]; omega
    have hb2 : bits .xor .i64 (k : Int) 0 = k := xor_zero k (by omega)
    rw [hu]
    go_enter Tryz.func28, Tryz.ntmps28
    go_wp2_with fail
    refine hc.out.mono ?_
    rintro e w' ⟨rfl, hR, hk⟩
    replace hR := Lib.hid hR
    replace hk := Lib.hid hk
    go_wp2
    go_ret
    exact ⟨rfl, hR.out, hk.out⟩
  · obtain ⟨k, rfl⟩ : ∃ k, n = 2 * k + 1 := ⟨n / 2, by omega⟩
    have hu : uzig (2 * k + 1) = -(k : Int) - 1 := by unfold uzig; rw [if_neg h0]; omega
    have hb : bits .and .u64 (2 * (k : Int) + 1) 1 = 1 := by rw [Go.Lib.u64_and1 _ (by omega) (by omega)]; omega
    have hb2 : bits .xor .i64 ((2 * (k : Int) + 1) / 2) (-1) = -(k : Int) - 1 := by
      rw [show (2 * (k : Int) + 1) / 2 = k by omega]
      exact xor_ones k (by omega)
    rw [hu]
    go_enter Tryz.func28, Tryz.ntmps28
    go_wp2_with fail
    refine hc.out.mono ?_
    rintro e w' ⟨rfl, hR, hk⟩
    replace hR := Lib.hid hR
    replace hk := Lib.hid hk
    go_wp2
    go_ret
    exact ⟨rfl, hR.out, hk.out⟩
def rCS (K : Nat) (s : RS) : Nat × RS := if s.2 = 0 then rCK K s.1 else (0, s)
theorem rCS_le (K : Nat) (s : RS) : (rCS K s).1 ≤ K := by
  unfold rCS
  split
  · exact rCK_le K s.1
  · simp
set_option maxRecDepth 100000 in
set_option maxHeartbeats 2000000 in
theorem countG_err (K : Nat) (w : World) (br : Nat) (v : Value) (l : List UInt8) (e : Int) (h : Rd w br v l e) (he : e ≠ 0) :
    Calls Tryz.prog 30 #[.pointer (some ⟨br, 0, none⟩), .int .i64 (K : Nat)] w fun en w' => en = .returned (.int .i64 0) ∧ Keeps [] w w' := by
  have hlt := (cell2_of h.1).2.2.2.2
  have hne : ¬ w.heap.size = br := by omega
  have hne2 : ¬ w.heap.size + 1 = br := by omega
  have he2 : (e == 0) = false := by simp [he]
  obtain ⟨a0, cp0, rfl⟩ := h.2.form
  have hkA : Keeps [] w ((w.alloc (.cells #[.pointer (some ⟨br, 0, none⟩)] 79)).alloc (.cells #[.int .i64 (K : Nat)] 3)) := ((Keeps.refl [] w).alloc _).alloc _
  have hx1 := heap_alloc_new w (.cells #[.pointer (some ⟨br, 0, none⟩)] 79)
  have hx2 := (((Keeps.refl [] (w.alloc (.cells #[.pointer (some ⟨br, 0, none⟩)] 79))).alloc (.cells #[.int .i64 (K : Nat)] 3)).block _ (lt_of_block hx1) (by simp)).trans hx1
  have hRA := h.keeps hkA
  replace hRA := Lib.hid hRA
  replace hkA := Lib.hid hkA
  replace he := Lib.hid he
  clear h hx1
  go_enter Tryz.func30, Tryz.ntmps30
  go_wp2_with fail
  refine (uint_err _ br _ l e hRA.out he.out).mono ?_
  rintro en w1 ⟨rfl, hk1⟩
  have hR1 := hRA.out.keeps hk1
  have hx3 := (hk1.block _ (lt_of_block hx2) (by simp)).trans hx2
  obtain ⟨z0, zf, zlt⟩ := cell1_of hx3
  have hk01 := Lib.hid (hkA.out.trans hk1)
  obtain ⟨c0, c1, f0, f1, hlt1⟩ := cell2_of hR1.1
  have hkB : Keeps [] w1 (w1.alloc (.cells #[.int .u64 0] 24)) := (Keeps.refl [] w1).alloc _
  have hne3 : ¬ w1.heap.size = br := by omega
  have hne4 : ¬ w1.heap.size = w.heap.size := by omega
  replace hkB := Lib.hid hkB
  clear hk1 hx2 hx3 hR1 hRA
  go_wp2_with (first | go_in)
  go_ret
  exact ⟨rfl, hk01.out.trans hkB.out⟩
theorem countS_c (K : Nat) (hK : K ≤ 1099511627776) (w : World) (br : Nat) (s : RS) (h : RdS w br s) :
    Calls Tryz.prog 30 #[.pointer (some ⟨br, 0, none⟩), .int .i64 (K : Nat)] w fun en w' => en = .returned (.int .i64 (rCS K s).1) ∧ RdS w' br (rCS K s).2 ∧ Keeps [br] w w' := by
  obtain ⟨l, e⟩ := s
  by_cases he : e = 0
  · subst he
    rw [show rCS K (l, 0) = rCK K l from if_pos rfl]
    exact countG_c K hK w br l h
  · obtain ⟨v, h⟩ := h
    rw [show rCS K (l, e) = (0, (l, e)) from if_neg he]
    exact (countG_err K w br v l e h he).mono fun en w' ⟨h1, h2⟩ => ⟨h1, ⟨v, h.keeps h2⟩, h2.of_nil⟩
set_option maxRecDepth 100000 in
set_option maxHeartbeats 1000000 in
theorem beq_c (w : World) (va vb : Value) (l m : List UInt8) (ha : SlB w va l) (hb : SlB w vb m) :
    Calls Tryz.prog 34 #[va, vb] w fun e w' => e = .returned (.bool (decide (l = m))) ∧ w = w' := by
  have h1 := run_str ha
  have h2 := run_str hb
  obtain ⟨a0, c0, rfl⟩ := ha.form
  obtain ⟨a1, c1, rfl⟩ := hb.form
  clear ha hb
  generalize hx : str l = x at *
  generalize hy : str m = y at *
  replace hx := Lib.hid hx
  replace hy := Lib.hid hy
  go_enter Tryz.func34, Tryz.ntmps34
  go_wp2
  go_ret
  refine ⟨?_, rfl⟩
  show Ending.returned (Value.bool (x.toList == y.toList)) = _
  rw [← hx.out, ← hy.out]
  have : (l == m) = decide (l = m) := by rw [Bool.eq_iff_iff]; simp
  simp [str, this]
end Go.Proofs.YthfdngjbcgkkfaaGreat
