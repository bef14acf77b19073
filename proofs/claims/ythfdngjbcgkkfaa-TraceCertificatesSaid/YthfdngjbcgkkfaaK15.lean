/- Texts that the laws lean on, in the order in which they build. Trace.Encode. (Printed by mktrenc.py.) The specification's Encode of a trace. (Printed by mktrencr.py.) A run of operations (plain): what it leaves as it was. The specification's comparison of byte strings. TraceOperations: the walk. (Printed by mktrops.py.) -/
import Derived.Test.YthfdngjbcgkkfaaK14
import Derived.Lib.Hide
set_option linter.unusedVariables false
set_option linter.unusedSimpArgs false
namespace Go.Proofs.Ythfdngjbcgkkfaa
open Go.RowKit Go.ChangeShapes

set_option maxRecDepth 100000 in
set_option maxHeartbeats 20000000 in
theorem encode_c (w : World) (B bt bm : Nat) (vo vh vg : Value) (t : Tr) (tn : Nat) (h : TrM w B bt bm vo vh vg t) (hN : t.Num) (ht : t.told = tn) (htn : tn ≤ 100000) (hh : t.hist.length ≤ 1000) (hi5 : ∀ a ∈ t.hist, a.ins.length ≤ 1000) (hg : t.ag.length ≤ 100000) :
    Calls Try.prog 27 #[.pointer (some ⟨bt, 0, none⟩)] w fun e w' => ∃ v, e = .returned v ∧ Buf w' w.heap.size v (encT t) ∧ Keeps [] w w' := by
  obtain ⟨n0, n1, n2, n3, n4⟩ := hN
  have hlt := h.lt.1
  obtain ⟨XH, hXH, hLH⟩ := h.hi
  have hHok := h.inv.hi
  obtain ⟨ah, ch, rfl⟩ := hXH.form
  obtain ⟨_, _, _, hlh, hcm, _⟩ := hXH.r.form
  have hel := fun k hk => hXH.r.elem (k := k) hk
  obtain ⟨ag, cg, rfl⟩ := h.ag.form
  have htr := fun (W : World) (hk : Keeps [] w W) => (h.keeps hk).cells
  have hXl := hLH.1
  obtain ⟨im, is, ⟨s0, s1, s2⟩, qs, told, hist, state, agl, rf⟩ := t
  simp only at n0 n1 n2 n3 n4 hHok ht hh hi5 hg htr hXl hLH
  obtain ⟨N8, hN8⟩ : ∃ n, XH.length = n := ⟨_, rfl⟩
  obtain ⟨NG, hNG⟩ : ∃ n, agl.length = n := ⟨_, rfl⟩
  rw [hN8] at hXl
  rw [hNG] at hg
  simp only [hN8, hNG] at htr
  rw [← hXl] at hh
  subst ht
  have hwt : IntKind.u64.wrap (tn : Int) = tn := by rw [IntKind.wrap_u64]; omega
  have hw8 : IntKind.u64.wrap (N8 : Int) = N8 := by rw [IntKind.wrap_u64]; omega
  have hwg : IntKind.u64.wrap (NG : Int) = NG := by rw [IntKind.wrap_u64]; omega
  have hHl : ∀ a ∈ hist, a.Ok ∧ a.ins.length ≤ 1000 := fun a ha => ⟨hHok a ha, hi5 a ha⟩
  have hfin : ∀ l : List UInt8, l = encI im ++ encI is ++ encI s0 ++ encU s1 ++ encI s2 ++ encU tn ++ encU N8 ++ encH hist ++ encU NG ++ encB rf → l = encT ⟨im, is, (s0, s1, s2), qs, tn, hist, state, agl, rf⟩ := fun l e => by
    rw [e]
    unfold encT encT0
    simp only [hNG, ← hXl, Int.toNat_natCast]
  have hE := EB.new w
  obtain ⟨BB, hBB⟩ : ∃ b, w.heap.size = b := ⟨_, rfl⟩
  have hE' : EB w (w.alloc (.cells #[.slice none 0 0] tBs)) BB [] := by rw [← hBB]; exact hE
  have hfr : bt < BB := by omega
  have hge : BB ≤ BB := Nat.le_refl _
  replace hE := Lib.hid hE'
  replace hLH := Lib.hid hLH
  replace hHl := Lib.hid hHl
  replace hel := Lib.hid hel
  replace htr := Lib.hid htr
  replace hN8 := Lib.hid hN8
  replace hNG := Lib.hid hNG
  replace hXl := Lib.hid hXl
  replace hfin := Lib.hid hfin
  clear hE' hHok hi5 h hXH hlh
  go_enter Try.func27, Try.ntmps27
  go_wp2
  try rw [hBB]
  replace hBB := Lib.hid hBB
  obtain ⟨d0, d1, d2, d3, d4, d5, d6, d7, d8, d9, d10, d11⟩ := htr.out _ hE.out.k
  generalize (w.alloc (.cells #[.slice none 0 0] tBs)) = W1 at *
  have hxl : (flatI [im, is, s0]).length ≤ 27 := flatI_len (L := [im, is, s0]) (by simp only [List.mem_cons, List.not_mem_nil, or_false]; rintro z (rfl | rfl | rfl) <;> assumption)
  have hED := hE.out.keeps (Keeps.refl [] W1).drew
  have hc := ints_c w (W1.drew.alloc (.cells #[.int .i64 im, .int .i64 is, .int .i64 s0] 3)) BB ([] : List UInt8) _ [im, is, s0] (hED.keeps ((Keeps.refl [] W1.drew).alloc (.cells #[.int .i64 im, .int .i64 is, .int .i64 s0] 3))) (made_ints W1.drew [im, is, s0] #[.int .i64 im, .int .i64 is, .int .i64 s0] 3 rfl rfl (by omega)) (by simp only [List.mem_cons, List.not_mem_nil, or_false]; rintro z (rfl | rfl | rfl) <;> assumption) (by simp) (by simp)
  rw [List.nil_append] at hc
  have hED2 := Lib.hid (hED.keeps ((Keeps.refl [] W1.drew).alloc (.cells #[.int .i64 im, .int .i64 is, .int .i64 s0] 3)))
  replace hED := Lib.hid hED
  replace hc := Lib.hid hc
  refine Free.wp_region_chain (fun i => i == 16 || i == 17) (fun i => true) (fun j b => BB ≤ b) (by kernel_rfl) (by kernel_rfl) (by kernel_rfl) ?_
  (repeat (first | (apply Free.cw_pure rfl rfl; (intro w'; go_simp <;> exact rfl); go_frame) | (apply Free.cw_steady rfl rfl rfl; (intro w' hS; have q0 := Free.sx_cell hS d0 (fun _ _ hT => by have := hT; omega); have q1 := Free.sx_cell hS d1 (fun _ _ hT => by have := hT; omega); have q2 := Free.sx_cell hS d2 (fun _ _ hT => by have := hT; omega); go_simp <;> exact rfl); go_frame) | (refine Free.cw_skip rfl ?_; go_frame)))
  refine Free.cw_loud rfl rfl (fun K hK => ?_)
  go_wp2
  refine hK _ _ rfl (Free.KeepsP.alloc _ _ _) ?_
  clear hK K
  (repeat (apply Free.cw_pure rfl rfl; (intro w'; go_simp <;> exact rfl); go_frame))
  refine Free.cw_loud rfl rfl (fun K hK => ?_)
  go_wp2_with fail
  refine hc.out.mono ?_
  rintro e w2 ⟨rfl, hE2, hK2⟩
  refine hK _ _ rfl ?_ ?_
  · have := hED2.out.kp hE2 hK2.sz
    rw [hBB.out] at this
    exact this
  clear hK K hc
  (repeat (apply Free.cw_pure rfl rfl; (intro w'; go_simp <;> exact rfl); go_frame))
  refine Free.cw_nil ?_
  replace hE := Lib.hid hE2
  clear hED hED2 hE2 hK2
  obtain ⟨l1, hl1⟩ : ∃ y, flatI [im, is, s0] = y := ⟨_, rfl⟩
  rw [hl1] at hE hxl
  replace hl1 := Lib.hid hl1
  clear d0 d1 d2 d3 d4 d5 d6 d7 d8 d9 d10 d11
  obtain ⟨d0, d1, d2, d3, d4, d5, d6, d7, d8, d9, d10, d11⟩ := htr.out _ hE.out.k
  go_upto_region 4 with fail
  obtain ⟨av1, Nv1, cv1, hbb, hB⟩ := hE.out.open
  obtain ⟨b0, bf, bl⟩ := cl1 hbb
  replace hbb := Lib.hid hbb
  replace hB := Lib.hid hB
  have hED := hE.out.keeps (Keeps.refl [] w2).drew
  have hbbD : w2.drew.heap[BB]? = _ := hbb.out
  have hBD := hB.out.keep (Keeps.refl [] w2).drew
  have hc := hED.call hbbD hBD (appU_c w2.drew w.heap.size (Value.slice av1 Nv1 cv1) l1 s1 hBD n3 (by omega) hED.k.size)
  have hlow := EPost.low hBD hED
  rw [hBB.out] at hlow
  have hxl : (encU s1).length ≤ 9 := encU_len n3
  obtain ⟨l2, hl2⟩ : ∃ y, l1 ++ encU s1 = y := ⟨_, rfl⟩
  have hn2 : l2.length ≤ l1.length + 9 := by rw [← hl2, List.length_append]; omega
  rw [hl2] at hc
  replace hc := Lib.hid hc
  replace hl2 := Lib.hid hl2
  replace hlow := Lib.hid hlow
  clear hxl hED hbbD hBD
  refine Free.wp_region_chain (fun i => i == 6 || i == 7) (fun i => true) (fun j b => (j = 6 ∨ j = 7) ∧ BB ≤ b) (by kernel_rfl) (by kernel_rfl) (by kernel_rfl) ?_
  (repeat (first | (apply Free.cw_pure rfl rfl; (intro w'; go_simp <;> exact rfl); go_frame) | (apply Free.cw_steady rfl rfl rfl; (intro w' hS; have q0 := Free.sx_cell hS b0 (fun j hp hT => by rcases hT.1 with rfl | rfl <;> exact Bool.false_ne_true (hp.symm.trans (by kernel_rfl))); have q1 := Free.sx_cell hS d3 (fun _ _ hT => by have := hT.2; omega); go_simp <;> exact rfl); go_frame) | (refine Free.cw_skip rfl ?_; go_frame)))
  refine Free.cw_loud rfl rfl (fun K hK => ?_)
  go_wp2_with fail
  refine hc.out.mono ?_
  rintro e w2 ⟨a2, N2, c2, rfl, hb2, hE2, hK2, hbb2, hB2, hkp⟩
  refine hK _ _ rfl (hkp.out.mono (fun b hb => ⟨.inl trivial, hlow.out b hb⟩)) ?_
  clear hK K hc hlow hkp b0 bf bl hbb hB hE
  obtain ⟨g0, gf, gl⟩ := cl1 hb2.out
  (repeat (apply Free.cw_pure rfl rfl; (intro w'; go_simp <;> exact rfl); go_frame))
  refine Free.cw_loud rfl rfl (fun K hK => ?_)
  go_wp2
  refine hK _ _ rfl (Free.KeepsP.setCell _ ⟨.inr trivial, hge⟩ _) ?_
  clear hK K
  (repeat (apply Free.cw_pure rfl rfl; (intro w'; go_simp <;> exact rfl); go_frame))
  refine Free.cw_nil ?_
  clear g0 gf gl hb2
  clear hK2
  generalize (w2.setCell ⟨BB, 0, none⟩ (.slice a2 N2 c2)) = W2 at *
  have hE := hE2
  have hbb := hbb2
  have hB := hB2
  clear hE2 hbb2 hB2
  obtain ⟨b0, bf, bl⟩ := cl1 hbb.out
  clear d0 d1 d2 d3 d4 d5 d6 d7 d8 d9 d10 d11
  obtain ⟨d0, d1, d2, d3, d4, d5, d6, d7, d8, d9, d10, d11⟩ := htr.out _ hE.out.k
  go_upto_region 5 with fail
  clear d0 d1 d2 d3 d4 d5 d6 d7 d8 d9 d10 d11
  obtain ⟨d0, d1, d2, d3, d4, d5, d6, d7, d8, d9, d10, d11⟩ := htr.out _ hE.out.k
  have hxl : (flatI [s2]).length ≤ 9 := flatI_len (L := [s2]) (by simp only [List.mem_cons, List.mem_singleton, List.not_mem_nil, or_false]; rintro z rfl <;> assumption)
  have hc := ints_c w (W2.alloc (.cells #[.int .i64 s2] 3)) BB l2 _ [s2] (hE.out.keeps ((Keeps.refl [] W2).alloc (.cells #[.int .i64 s2] 3))) (made_ints W2 [s2] #[.int .i64 s2] 1 rfl rfl (by omega)) (by simp only [List.mem_cons, List.mem_singleton, List.not_mem_nil, or_false]; rintro z rfl <;> assumption) (by simp) (by omega)
  have hkm := ((Keeps.refl [] W2).alloc (.cells #[.int .i64 s2] 3)).kb8
  obtain ⟨l3, hl3⟩ : ∃ y, l2 ++ flatI [s2] = y := ⟨_, rfl⟩
  have hn3 : l3.length ≤ l2.length + 9 := by rw [← hl3, List.length_append]; omega
  rw [hl3] at hc
  replace hc := Lib.hid hc
  replace hl3 := Lib.hid hl3
  replace hkm := Lib.hid hkm
  clear hxl
  go_wp2_with fail
  refine hc.out.mono ?_
  rintro e w3 ⟨rfl, hE2, hK2⟩
  replace hK2 := Lib.hid (hkm.out.trans hK2)
  replace hE := Lib.hid hE2
  clear hc b0 bf bl hbb hB hE2 hkm
  go_upto_region 6 with fail
  clear hK2
  obtain ⟨av4, Nv4, cv4, hbb, hB⟩ := hE.out.open
  obtain ⟨b0, bf, bl⟩ := cl1 hbb
  replace hbb := Lib.hid hbb
  replace hB := Lib.hid hB
  clear d0 d1 d2 d3 d4 d5 d6 d7 d8 d9 d10 d11
  obtain ⟨d0, d1, d2, d3, d4, d5, d6, d7, d8, d9, d10, d11⟩ := htr.out _ hE.out.k
  have hED := hE.out.keeps (Keeps.refl [] w3).drew
  have hbbD : w3.drew.heap[BB]? = _ := hbb.out
  have hBD := hB.out.keep (Keeps.refl [] w3).drew
  have hxl : (encU tn).length ≤ 9 := encU_len (by omega)
  have hc := appU_c w3.drew w.heap.size (Value.slice av4 Nv4 cv4) l3 tn hBD (by omega) (by omega) hED.k.size
  have hlow := EPost.low hBD hED
  rw [hBB.out] at hlow
  have hsT : (Value.slice av4 Nv4 cv4).ownBlock ≠ some bt := fun e => by have := (hBD.tagB e).1; have := hBB.out; omega
  have hsB : (Value.slice av4 Nv4 cv4).ownBlock ≠ some BB := hBD.sep hbbD (by decide)
  replace hc := Lib.hid hc
  replace hlow := Lib.hid hlow
  replace hsT := Lib.hid hsT
  replace hsB := Lib.hid hsB
  replace hED := Lib.hid hED
  replace hBD := Lib.hid hBD
  clear hbbD
  refine Free.wp_region_chain (fun i => i == 6 || i == 13 || i == 14) (fun i => true) (fun j b => ((j = 6 ∨ j = 13) ∧ ((Value.slice av4 Nv4 cv4).ownBlock = some b ∨ w3.heap.size ≤ b)) ∨ (j = 14 ∧ b = BB)) (by kernel_rfl) (by kernel_rfl) (by kernel_rfl) ?_
  (repeat (first | (apply Free.cw_pure rfl rfl; (intro w'; go_simp <;> exact rfl); go_frame) | (apply Free.cw_steady rfl rfl rfl; (intro w' hS; have q0 := Free.sx_cell hS b0 (fun j hp hT => by rcases hT with ⟨_, hT | hT⟩ | ⟨rfl, _⟩; exact hsB.out hT; omega; exact Bool.false_ne_true (hp.symm.trans (by kernel_rfl))); have q1 := Free.sx_cell hS d6 (fun _ _ hT => by rcases hT with ⟨_, hT | hT⟩ | ⟨_, hT⟩; exact hsT.out hT; omega; omega); have q2 := Free.sx_cell hS d8 (fun _ _ hT => by rcases hT with ⟨_, hT | hT⟩ | ⟨_, hT⟩; exact hsT.out hT; omega; omega); go_simp <;> exact rfl); go_frame) | (refine Free.cw_skip rfl ?_; go_frame)))
  refine Free.cw_loud rfl rfl (fun K hK => ?_)
  go_wp2_with fail
  refine hc.out.mono ?_
  rintro e wA ⟨v1, rfl, hB1, hG1⟩
  have hkp : Free.KeepsP (fun b => ((Value.slice av4 Nv4 cv4)).ownBlock = some b ∨ w3.heap.size ≤ b) w3.drew wA := Free.KeepsP.of hG1.keepsO (fun b hb => .inl (by simpa using hb))
  refine hK _ _ rfl (hkp.mono (fun b hb => .inl ⟨.inl trivial, hb⟩)) ?_
  clear hK K hkp hc
  have hs1 : w3.heap.size ≤ wA.heap.size := hG1.keepsO.size
  have hsw : w.heap.size ≤ w3.heap.size := hED.out.k.size
  have hxl2 : (encU N8).length ≤ 9 := encU_len (by omega)
  have hlv : (l3 ++ encU tn).length ≤ 140737488355000 := by rw [List.length_append]; omega
  have hc := appU_c wA w.heap.size v1 (l3 ++ encU tn) N8 hB1 (by omega) hlv (Nat.le_trans hsw hs1)
  replace hc := Lib.hid hc
  replace hB1 := Lib.hid hB1
  replace hG1 := Lib.hid hG1
  (repeat (first | (apply Free.cw_pure rfl rfl; (intro w'; go_simp <;> exact rfl); go_frame) | (apply Free.cw_steady rfl rfl rfl; (intro w' hS; have q0 := Free.sx_cell hS b0 (fun j hp hT => by rcases hT with ⟨_, hT | hT⟩ | ⟨rfl, _⟩; exact hsB.out hT; omega; exact Bool.false_ne_true (hp.symm.trans (by kernel_rfl))); have q1 := Free.sx_cell hS d6 (fun _ _ hT => by rcases hT with ⟨_, hT | hT⟩ | ⟨_, hT⟩; exact hsT.out hT; omega; omega); have q2 := Free.sx_cell hS d8 (fun _ _ hT => by rcases hT with ⟨_, hT | hT⟩ | ⟨_, hT⟩; exact hsT.out hT; omega; omega); go_simp <;> exact rfl); go_frame) | (refine Free.cw_skip rfl ?_; go_frame)))
  refine Free.cw_loud rfl rfl (fun K hK => ?_)
  go_wp2_with fail
  refine hc.out.mono ?_
  rintro e w5 ⟨v2, rfl, hB2, hG2⟩
  have hkp : Free.KeepsP (fun b => ((Value.slice av4 Nv4 cv4)).ownBlock = some b ∨ w3.heap.size ≤ b) wA w5 := Free.KeepsP.of hG2.keepsO (fun b hb => by
      rcases hG1.out.own with e | ⟨q, e, hq⟩
      · rw [e] at hb; exact .inl (by simpa using hb)
      · rw [e] at hb; simp at hb; subst hb; exact .inr hq)
  refine hK _ _ rfl (hkp.mono (fun b hb => .inl ⟨.inr trivial, hb⟩)) ?_
  clear hK K hkp hc
  have hEP := hED.out.post (w := w3.drew) hbb.out hBD.out hB2 (hG1.out.trans hG2)
  obtain ⟨a5, N5, c5, he, hb2, hE2, hK2, hbb2, hB3, -⟩ := hEP
  cases he
  obtain ⟨l5, hl5⟩ : ∃ y, l3 ++ encU tn ++ encU N8 = y := ⟨_, rfl⟩
  have hn5 : l5.length ≤ l3.length + 18 := by rw [← hl5, List.length_append, List.length_append]; omega
  rw [hl5] at hE2 hB2 hB3
  replace hB2 := hB3
  clear hB3 hG1 hG2 hB1 hED hBD hlow hsT hsB b0 bf bl hbb hB hE hs1 hsw hlv hxl hxl2
  replace hl5 := Lib.hid hl5
  obtain ⟨g0, gf, gl⟩ := cl1 hb2.out
  (repeat (apply Free.cw_pure rfl rfl; (intro w'; go_simp <;> exact rfl); go_frame))
  refine Free.cw_loud rfl rfl (fun K hK => ?_)
  go_wp2
  refine hK _ _ rfl (Free.KeepsP.setCell _ (.inr ⟨trivial, rfl⟩) _) ?_
  clear hK K
  (repeat (apply Free.cw_pure rfl rfl; (intro w'; go_simp <;> exact rfl); go_frame))
  refine Free.cw_nil ?_
  clear g0 gf gl hb2
  clear hK2
  generalize (w5.setCell ⟨BB, 0, none⟩ (.slice a5 N5 c5)) = W5 at *
  have hE := hE2
  have hbb := hbb2
  have hB := hB2
  clear hE2 hbb2 hB2
  obtain ⟨b0, bf, bl⟩ := cl1 hbb.out
  clear d0 d1 d2 d3 d4 d5 d6 d7 d8 d9 d10 d11
  obtain ⟨d0, d1, d2, d3, d4, d5, d6, d7, d8, d9, d10, d11⟩ := htr.out _ hE.out.k
  go_wp2
  have hHl0 := hHl
  have hP : l5.length ≤ 1000 := by omega
  go_loopw [62] (fun iv wr => ∃ k : Nat, iv = .int .i64 k ∧ k ≤ N8 ∧ Hid (EB w wr BB (l5 ++ encH (hist.take k)))) (fun iv _ => N8 - (intOf iv).toNat)
  case atStart => exact ⟨0, rfl, by omega, by rw [show encH (hist.take 0) = [] from rfl, List.append_nil]; exact hE⟩
  case round =>
    obtain ⟨k, rfl, hk, hEr⟩ := hrel
    clear hE hbb hB b0 bf bl d0 d1 d2 d3 d4 d5 d6 d7 d8 d9 d10 d11
    have hE := hEr
    clear hEr
    obtain ⟨d0, d1, d2, d3, d4, d5, d6, d7, d8, d9, d10, d11⟩ := htr.out _ hE.out.k
    have hlenr : (l5 ++ encH (hist.take k)).length ≤ 30000000 := by
      have h1 := encH_len (L := hist.take k) (fun a ha => hHl.out a (List.mem_of_mem_take ha))
      rw [List.length_append]
      rw [List.length_take] at h1
      have : 27100 * min k hist.length ≤ 27100 * 1000 := Nat.mul_le_mul_left _ (by omega)
      omega
    by_cases hlt : k < N8
    · skip
      have hlt2 : (k : Int) < N8 := by omega
      have hkX : k < XH.length := by rw [hN8.out]; exact hlt
      have hkH : k < hist.length := by rw [← hXl.out]; exact hlt
      obtain ⟨g, of, c', hv, he⟩ := hel.out k hkX
      rw [hN8.out] at hv
      cases hv
      have hIA := hLH.out.2 k _ _ (List.getElem?_eq_getElem hkX) (List.getElem?_eq_getElem hkH)
      have hOk := hHl.out _ (List.getElem_mem hkH)
      obtain ⟨a, ha⟩ : ∃ a, hist[k] = a := ⟨_, rfl⟩
      rw [ha] at hIA hOk
      obtain ⟨⟨e0, e1, e2, e3, e4, e5, e6, e7, e8, e9⟩, hx⟩ : ∃ x, XH[k] = x := ⟨_, rfl⟩
      rw [hx] at hIA he
      obtain ⟨i1, i2, i3, i4, i5, i6, i7, hI⟩ := hIA
      simp only [AnV.v] at i1 i2 i3 i4 i5 i6 i7 hI
      obtain ⟨ia, ic, hvi, hic1, hic2, _⟩ := hI.r.form
      have heli := fun j hj => hI.r.elem (k := j) hj
      obtain ⟨NI, hNI⟩ : ∃ n, a.ins.length = n := ⟨_, rfl⟩
      rw [hNI] at hvi hic1
      have hNI2 : NI ≤ 1000 := by rw [← hNI]; exact hOk.2
      obtain ⟨rfl, rfl, rfl⟩ : e7 = ia ∧ e8 = NI ∧ e9 = ic := by simpa using hvi
      have hwi : IntKind.u64.wrap (e8 : Int) = e8 := by rw [IntKind.wrap_u64]; omega
      have z0 := hOk.1.q.1
      have z1 := hOk.1.q.2.1
      have z2 := hOk.1.q.2.2
      have z3 := hOk.1.ep
      have z6 := hOk.1.lu
      simp only [Ans.q] at z0 z1 z2
      rw [← i1] at z0
      rw [← i2] at z1
      rw [← i3] at z2
      rw [← i4] at z3
      rw [← i7] at z6
      have hAe : encA a = encI e0 ++ encI e1 ++ encU e2 ++ encI e3 ++ encB e4 ++ encB e5 ++ encI e6 ++ encU e8 ++ encXs a.ins := by unfold encA encA0; rw [i1, i2, i3, i4, i5, i6, i7, hNI]
      have f0 := hE.out.k.val (he 0 _ rfl)
      have f1 := hE.out.k.val (he 1 _ rfl)
      have f2 := hE.out.k.val (he 2 _ rfl)
      have f3 := hE.out.k.val (he 3 _ rfl)
      have f4 := hE.out.k.val (he 4 _ rfl)
      have f5 := hE.out.k.val (he 5 _ rfl)
      have f6 := hE.out.k.val (he 6 _ rfl)
      have f7 := hE.out.k.val (he 7 _ rfl)
      simp only [shA, AnV.v, Nat.add_zero] at f0 f1 f2 f3 f4 f5 f6 f7
      have hkM := (Keeps.refl [] wr).alloc (.cells #[.int .i64 e0, .int .i64 e1, .int .u64 e2, .int .i64 e3, .bool e4, .bool e5, .int .i64 e6, .slice e7 e8 e9] tA)
      have hA := heap_alloc_new wr (.cells #[.int .i64 e0, .int .i64 e1, .int .u64 e2, .int .i64 e3, .bool e4, .bool e5, .int .i64 e6, .slice e7 e8 e9] tA)
      have hEM := hE.out.keeps hkM
      replace hE := Lib.hid hEM
      replace hA := Lib.hid hA
      replace ha := Lib.hid ha
      replace hx := Lib.hid hx
      replace hAe := Lib.hid hAe
      replace hOk := Lib.hid hOk
      replace heli := Lib.hid heli
      replace hNI := Lib.hid hNI
      have hxn := hI
      replace hI := Lib.hid hI
      clear hxn hkM hEM he hvi i1 i2 i3 i4 i5 i6 i7
      go_upto_region 10 with fail
      generalize (wr.alloc (.cells #[.int .i64 e0, .int .i64 e1, .int .u64 e2, .int .i64 e3, .bool e4, .bool e5, .int .i64 e6, .slice e7 e8 e9] tA)) = W0 at *
      obtain ⟨XA, hXA⟩ : ∃ X, wr.heap.size = X := ⟨_, rfl⟩
      rw [hXA] at hA ⊢
      replace hXA := Lib.hid hXA
      clear f0 f1 f2 f3 f4 f5 f6 f7
      obtain ⟨k0, k1, k2, k3, k4, k5, k6, k7, kf, kl⟩ := cl8 hA.out
      clear d0 d1 d2 d3 d4 d5 d6 d7 d8 d9 d10 d11
      obtain ⟨d0, d1, d2, d3, d4, d5, d6, d7, d8, d9, d10, d11⟩ := htr.out _ hE.out.k
      obtain ⟨av6, Nv6, cv6, hbb, hB⟩ := hE.out.open
      obtain ⟨b0, bf, bl⟩ := cl1 hbb
      replace hbb := Lib.hid hbb
      replace hB := Lib.hid hB
      have hxl : (flatI [e0, e1]).length ≤ 18 := flatI_len (L := [e0, e1]) (by simp only [List.mem_cons, List.mem_singleton, List.not_mem_nil, or_false]; rintro z (rfl | rfl) <;> assumption)
      have hc := ints_c w (W0.alloc (.cells #[.int .i64 e0, .int .i64 e1] 3)) BB (l5 ++ encH (hist.take k)) _ [e0, e1] (hE.out.keeps ((Keeps.refl [] W0).alloc (.cells #[.int .i64 e0, .int .i64 e1] 3))) (made_ints W0 [e0, e1] #[.int .i64 e0, .int .i64 e1] 2 rfl rfl (by omega)) (by simp only [List.mem_cons, List.mem_singleton, List.not_mem_nil, or_false]; rintro z (rfl | rfl) <;> assumption) (by simp) (by omega)
      have hkm := ((Keeps.refl [] W0).alloc (.cells #[.int .i64 e0, .int .i64 e1] 3)).kb8
      obtain ⟨l7, hl7⟩ : ∃ y, (l5 ++ encH (hist.take k)) ++ flatI [e0, e1] = y := ⟨_, rfl⟩
      have hn7 : l7.length ≤ (l5 ++ encH (hist.take k)).length + 18 := by rw [← hl7, List.length_append]; omega
      rw [hl7] at hc
      replace hc := Lib.hid hc
      replace hl7 := Lib.hid hl7
      replace hkm := Lib.hid hkm
      clear hxl
      go_wp2_with fail
      refine hc.out.mono ?_
      rintro e w7 ⟨rfl, hE2, hK2⟩
      replace hK2 := Lib.hid (hkm.out.trans hK2)
      replace hE := Lib.hid hE2
      clear hc b0 bf bl hbb hB hE2 hkm
      replace hA := Lib.hid (hK2.out.b _ _ _ _ hA.out (by decide) (by decide))
      clear k0 k1 k2 k3 k4 k5 k6 k7 kf kl
      obtain ⟨k0, k1, k2, k3, k4, k5, k6, k7, kf, kl⟩ := cl8 hA.out
      go_upto_region 11 with fail
      clear hK2
      obtain ⟨av8, Nv8, cv8, hbb, hB⟩ := hE.out.open
      obtain ⟨b0, bf, bl⟩ := cl1 hbb
      replace hbb := Lib.hid hbb
      replace hB := Lib.hid hB
      clear d0 d1 d2 d3 d4 d5 d6 d7 d8 d9 d10 d11
      obtain ⟨d0, d1, d2, d3, d4, d5, d6, d7, d8, d9, d10, d11⟩ := htr.out _ hE.out.k
      have hxl : (encU e2).length ≤ 9 := encU_len z2
      have hc := hE.out.call hbb.out hB.out (appU_c w7 w.heap.size (Value.slice av8 Nv8 cv8) l7 e2 hB.out z2 (by omega) hE.out.k.size)
      obtain ⟨l9, hl9⟩ : ∃ y, l7 ++ encU e2 = y := ⟨_, rfl⟩
      have hn9 : l9.length ≤ l7.length + 9 := by rw [← hl9, List.length_append]; omega
      rw [hl9] at hc
      replace hc := Lib.hid hc
      replace hl9 := Lib.hid hl9
      clear hxl
      go_wp2_with fail
      refine hc.out.mono ?_
      rintro e w9 ⟨a9, N9, c9, rfl, hb2, hE2, hK2, hbb2, hB2, -⟩
      clear hc b0 bf bl hbb hB hE
      obtain ⟨d0, df, dl⟩ := cl1 hb2.out
      replace hA := Lib.hid (hK2.out.b _ _ _ _ hA.out (by decide) (by decide))
      clear k0 k1 k2 k3 k4 k5 k6 k7 kf kl
      obtain ⟨k0, k1, k2, k3, k4, k5, k6, k7, kf, kl⟩ := cl8 hA.out
      go_upto_region 12 with fail
      clear d0 df dl hb2 hK2
      generalize (w9.setCell ⟨BB, 0, none⟩ (.slice a9 N9 c9)) = W9 at *
      have hE := hE2
      have hbb := hbb2
      have hB := hB2
      clear hE2 hbb2 hB2
      obtain ⟨b0, bf, bl⟩ := cl1 hbb.out
      clear d0 d1 d2 d3 d4 d5 d6 d7 d8 d9 d10 d11
      obtain ⟨d0, d1, d2, d3, d4, d5, d6, d7, d8, d9, d10, d11⟩ := htr.out _ hE.out.k
      have hxl : (flatI [e3]).length ≤ 9 := flatI_len (L := [e3]) (by simp only [List.mem_cons, List.mem_singleton, List.not_mem_nil, or_false]; rintro z rfl <;> assumption)
      have hc := ints_c w (W9.alloc (.cells #[.int .i64 e3] 3)) BB l9 _ [e3] (hE.out.keeps ((Keeps.refl [] W9).alloc (.cells #[.int .i64 e3] 3))) (made_ints W9 [e3] #[.int .i64 e3] 1 rfl rfl (by omega)) (by simp only [List.mem_cons, List.mem_singleton, List.not_mem_nil, or_false]; rintro z rfl <;> assumption) (by simp) (by omega)
      have hkm := ((Keeps.refl [] W9).alloc (.cells #[.int .i64 e3] 3)).kb8
      obtain ⟨l10, hl10⟩ : ∃ y, l9 ++ flatI [e3] = y := ⟨_, rfl⟩
      have hn10 : l10.length ≤ l9.length + 9 := by rw [← hl10, List.length_append]; omega
      rw [hl10] at hc
      replace hc := Lib.hid hc
      replace hl10 := Lib.hid hl10
      replace hkm := Lib.hid hkm
      clear hxl
      go_wp2_with fail
      refine hc.out.mono ?_
      rintro e w10 ⟨rfl, hE2, hK2⟩
      replace hK2 := Lib.hid (hkm.out.trans hK2)
      replace hE := Lib.hid hE2
      clear hc b0 bf bl hbb hB hE2 hkm
      replace hA := Lib.hid (hK2.out.b _ _ _ _ hA.out (by decide) (by decide))
      clear k0 k1 k2 k3 k4 k5 k6 k7 kf kl
      obtain ⟨k0, k1, k2, k3, k4, k5, k6, k7, kf, kl⟩ := cl8 hA.out
      go_upto_region 13 with fail
      clear hK2
      obtain ⟨av11, Nv11, cv11, hbb, hB⟩ := hE.out.open
      obtain ⟨b0, bf, bl⟩ := cl1 hbb
      replace hbb := Lib.hid hbb
      replace hB := Lib.hid hB
      clear d0 d1 d2 d3 d4 d5 d6 d7 d8 d9 d10 d11
      obtain ⟨d0, d1, d2, d3, d4, d5, d6, d7, d8, d9, d10, d11⟩ := htr.out _ hE.out.k
      have hED := hE.out.keeps (Keeps.refl [] w10).drew
      have hbbD : w10.drew.heap[BB]? = _ := hbb.out
      have hBD := hB.out.keep (Keeps.refl [] w10).drew
      have hxl : (encB e4).length ≤ 9 := (by simp [encB])
      have hc := appB_c w10.drew w.heap.size (Value.slice av11 Nv11 cv11) l10 e4 hBD  (by omega) hED.k.size
      have hlow := EPost.low hBD hED
      rw [hBB.out] at hlow
      have hsA : (Value.slice av11 Nv11 cv11).ownBlock ≠ some XA := hBD.sep (w := w10.drew) hA.out (by decide)
      have hsT : (Value.slice av11 Nv11 cv11).ownBlock ≠ some bt := fun e => by have := (hBD.tagB e).1; have := hBB.out; omega
      have hsB : (Value.slice av11 Nv11 cv11).ownBlock ≠ some BB := hBD.sep hbbD (by decide)
      have hAB : XA ≠ BB := tag_ne hA.out hbb.out (by decide)
      replace hc := Lib.hid hc
      replace hlow := Lib.hid hlow
      replace hsT := Lib.hid hsT
      replace hsB := Lib.hid hsB
      replace hED := Lib.hid hED
      replace hBD := Lib.hid hBD
      replace hsA := Lib.hid hsA
      clear hbbD
      refine Free.wp_region_chain (fun i => i == 3 || i == 6 || i == 7) (fun i => true) (fun j b => ((j = 3 ∨ j = 6) ∧ ((Value.slice av11 Nv11 cv11).ownBlock = some b ∨ w10.heap.size ≤ b)) ∨ (j = 7 ∧ b = BB)) (by kernel_rfl) (by kernel_rfl) (by kernel_rfl) ?_
      (repeat (first | (apply Free.cw_pure rfl rfl; (intro w'; go_simp <;> exact rfl); go_frame) | (apply Free.cw_steady rfl rfl rfl; (intro w' hS; have q0 := Free.sx_cell hS b0 (fun j hp hT => by rcases hT with ⟨_, hT | hT⟩ | ⟨rfl, _⟩; exact hsB.out hT; omega; exact Bool.false_ne_true (hp.symm.trans (by kernel_rfl))); have q1 := Free.sx_cell hS k4 (fun _ _ hT => by rcases hT with ⟨_, hT | hT⟩ | ⟨_, hT⟩; exact hsA.out hT; omega; omega); have q2 := Free.sx_cell hS k5 (fun _ _ hT => by rcases hT with ⟨_, hT | hT⟩ | ⟨_, hT⟩; exact hsA.out hT; omega; omega); go_simp <;> exact rfl); go_frame) | (refine Free.cw_skip rfl ?_; go_frame)))
      refine Free.cw_loud rfl rfl (fun K hK => ?_)
      go_wp2_with fail
      refine hc.out.mono ?_
      rintro e wA ⟨v1, rfl, hB1, hG1⟩
      have hkp : Free.KeepsP (fun b => ((Value.slice av11 Nv11 cv11)).ownBlock = some b ∨ w10.heap.size ≤ b) w10.drew wA := Free.KeepsP.of hG1.keepsO (fun b hb => .inl (by simpa using hb))
      refine hK _ _ rfl (hkp.mono (fun b hb => .inl ⟨.inl trivial, hb⟩)) ?_
      clear hK K hkp hc
      have hs1 : w10.heap.size ≤ wA.heap.size := hG1.keepsO.size
      have hsw : w.heap.size ≤ w10.heap.size := hED.out.k.size
      have hxl2 : (encB e5).length ≤ 9 := (by simp [encB])
      have hlv : (l10 ++ encB e4).length ≤ 140737488355000 := by rw [List.length_append]; omega
      have hc := appB_c wA w.heap.size v1 (l10 ++ encB e4) e5 hB1  hlv (Nat.le_trans hsw hs1)
      replace hc := Lib.hid hc
      replace hB1 := Lib.hid hB1
      replace hG1 := Lib.hid hG1
      (repeat (first | (apply Free.cw_pure rfl rfl; (intro w'; go_simp <;> exact rfl); go_frame) | (apply Free.cw_steady rfl rfl rfl; (intro w' hS; have q0 := Free.sx_cell hS b0 (fun j hp hT => by rcases hT with ⟨_, hT | hT⟩ | ⟨rfl, _⟩; exact hsB.out hT; omega; exact Bool.false_ne_true (hp.symm.trans (by kernel_rfl))); have q1 := Free.sx_cell hS k4 (fun _ _ hT => by rcases hT with ⟨_, hT | hT⟩ | ⟨_, hT⟩; exact hsA.out hT; omega; omega); have q2 := Free.sx_cell hS k5 (fun _ _ hT => by rcases hT with ⟨_, hT | hT⟩ | ⟨_, hT⟩; exact hsA.out hT; omega; omega); go_simp <;> exact rfl); go_frame) | (refine Free.cw_skip rfl ?_; go_frame)))
      refine Free.cw_loud rfl rfl (fun K hK => ?_)
      go_wp2_with fail
      refine hc.out.mono ?_
      rintro e w12 ⟨v2, rfl, hB2, hG2⟩
      have hkp : Free.KeepsP (fun b => ((Value.slice av11 Nv11 cv11)).ownBlock = some b ∨ w10.heap.size ≤ b) wA w12 := Free.KeepsP.of hG2.keepsO (fun b hb => by
          rcases hG1.out.own with e | ⟨q, e, hq⟩
          · rw [e] at hb; exact .inl (by simpa using hb)
          · rw [e] at hb; simp at hb; subst hb; exact .inr hq)
      refine hK _ _ rfl (hkp.mono (fun b hb => .inl ⟨.inr trivial, hb⟩)) ?_
      clear hK K hkp hc
      have hEP := hED.out.post (w := w10.drew) hbb.out hBD.out hB2 (hG1.out.trans hG2)
      obtain ⟨a12, N12, c12, he, hb2, hE2, hK2, hbb2, hB3, -⟩ := hEP
      cases he
      obtain ⟨l12, hl12⟩ : ∃ y, l10 ++ encB e4 ++ encB e5 = y := ⟨_, rfl⟩
      have hn12 : l12.length ≤ l10.length + 18 := by rw [← hl12, List.length_append, List.length_append]; omega
      rw [hl12] at hE2 hB2 hB3
      replace hB2 := hB3
      clear hB3 hG1 hG2 hB1 hED hBD hlow hsT hsB b0 bf bl hbb hB hE hs1 hsw hlv hxl hxl2 hsA
      replace hl12 := Lib.hid hl12
      obtain ⟨g0, gf, gl⟩ := cl1 hb2.out
      (repeat (apply Free.cw_pure rfl rfl; (intro w'; go_simp <;> exact rfl); go_frame))
      refine Free.cw_loud rfl rfl (fun K hK => ?_)
      go_wp2
      refine hK _ _ rfl (Free.KeepsP.setCell _ (.inr ⟨trivial, rfl⟩) _) ?_
      clear hK K
      (repeat (apply Free.cw_pure rfl rfl; (intro w'; go_simp <;> exact rfl); go_frame))
      refine Free.cw_nil ?_
      clear g0 gf gl hb2
      replace hA := Lib.hid (hK2.out.b _ _ _ _ hA.out (by decide) (by decide))
      clear k0 k1 k2 k3 k4 k5 k6 k7 kf kl
      obtain ⟨k0, k1, k2, k3, k4, k5, k6, k7, kf, kl⟩ := cl8 hA.out
      clear hK2
      generalize (w12.setCell ⟨BB, 0, none⟩ (.slice a12 N12 c12)) = W12 at *
      have hE := hE2
      have hbb := hbb2
      have hB := hB2
      clear hE2 hbb2 hB2
      obtain ⟨b0, bf, bl⟩ := cl1 hbb.out
      clear d0 d1 d2 d3 d4 d5 d6 d7 d8 d9 d10 d11
      obtain ⟨d0, d1, d2, d3, d4, d5, d6, d7, d8, d9, d10, d11⟩ := htr.out _ hE.out.k
      go_upto_region 14 with fail
      have hxl : (flatI [e6]).length ≤ 9 := flatI_len (L := [e6]) (by simp only [List.mem_cons, List.mem_singleton, List.not_mem_nil, or_false]; rintro z rfl <;> assumption)
      have hc := ints_c w (W12.alloc (.cells #[.int .i64 e6] 3)) BB l12 _ [e6] (hE.out.keeps ((Keeps.refl [] W12).alloc (.cells #[.int .i64 e6] 3))) (made_ints W12 [e6] #[.int .i64 e6] 1 rfl rfl (by omega)) (by simp only [List.mem_cons, List.mem_singleton, List.not_mem_nil, or_false]; rintro z rfl <;> assumption) (by simp) (by omega)
      have hkm := ((Keeps.refl [] W12).alloc (.cells #[.int .i64 e6] 3)).kb8
      obtain ⟨l13, hl13⟩ : ∃ y, l12 ++ flatI [e6] = y := ⟨_, rfl⟩
      have hn13 : l13.length ≤ l12.length + 9 := by rw [← hl13, List.length_append]; omega
      rw [hl13] at hc
      replace hc := Lib.hid hc
      replace hl13 := Lib.hid hl13
      replace hkm := Lib.hid hkm
      clear hxl
      go_wp2_with fail
      refine hc.out.mono ?_
      rintro e w13 ⟨rfl, hE2, hK2⟩
      replace hK2 := Lib.hid (hkm.out.trans hK2)
      replace hE := Lib.hid hE2
      clear hc b0 bf bl hbb hB hE2 hkm
      replace hA := Lib.hid (hK2.out.b _ _ _ _ hA.out (by decide) (by decide))
      clear k0 k1 k2 k3 k4 k5 k6 k7 kf kl
      obtain ⟨k0, k1, k2, k3, k4, k5, k6, k7, kf, kl⟩ := cl8 hA.out
      go_upto_region 15 with fail
      clear hK2
      obtain ⟨av14, Nv14, cv14, hbb, hB⟩ := hE.out.open
      obtain ⟨b0, bf, bl⟩ := cl1 hbb
      replace hbb := Lib.hid hbb
      replace hB := Lib.hid hB
      clear d0 d1 d2 d3 d4 d5 d6 d7 d8 d9 d10 d11
      obtain ⟨d0, d1, d2, d3, d4, d5, d6, d7, d8, d9, d10, d11⟩ := htr.out _ hE.out.k
      have hxl : (encU e8).length ≤ 9 := encU_len (by omega)
      have hc := hE.out.call hbb.out hB.out (appU_c w13 w.heap.size (Value.slice av14 Nv14 cv14) l13 e8 hB.out (by omega) (by omega) hE.out.k.size)
      obtain ⟨l15, hl15⟩ : ∃ y, l13 ++ encU e8 = y := ⟨_, rfl⟩
      have hn15 : l15.length ≤ l13.length + 9 := by rw [← hl15, List.length_append]; omega
      rw [hl15] at hc
      replace hc := Lib.hid hc
      replace hl15 := Lib.hid hl15
      clear hxl
      go_wp2_with fail
      refine hc.out.mono ?_
      rintro e w15 ⟨a15, N15, c15, rfl, hb2, hE2, hK2, hbb2, hB2, -⟩
      clear hc b0 bf bl hbb hB hE
      obtain ⟨d0, df, dl⟩ := cl1 hb2.out
      replace hA := Lib.hid (hK2.out.b _ _ _ _ hA.out (by decide) (by decide))
      clear k0 k1 k2 k3 k4 k5 k6 k7 kf kl
      obtain ⟨k0, k1, k2, k3, k4, k5, k6, k7, kf, kl⟩ := cl8 hA.out
      go_upto_region 16 with fail
      clear d0 df dl hb2 hK2
      generalize (w15.setCell ⟨BB, 0, none⟩ (.slice a15 N15 c15)) = W15 at *
      have hE := hE2
      have hbb := hbb2
      have hB := hB2
      clear hE2 hbb2 hB2
      obtain ⟨b0, bf, bl⟩ := cl1 hbb.out
      clear d0 d1 d2 d3 d4 d5 d6 d7 d8 d9 d10 d11
      obtain ⟨d0, d1, d2, d3, d4, d5, d6, d7, d8, d9, d10, d11⟩ := htr.out _ hE.out.k
      have hQ : l15.length ≤ 40000000 := by omega
      go_wp2
      clear hB hbb b0 bf bl d0 d1 d2 d3 d4 d5 d6 d7 d8 d9 d10 d11
      clear k0 k1 k2 k3 k4 k5 k6 k7 kf kl
      go_loopw [103] (fun iv wr2 => ∃ j : Nat, iv = .int .i64 j ∧ j ≤ e8 ∧ Hid (EB w wr2 BB (l15 ++ encXs (a.ins.take j))) ∧ Hid (wr2.heap[XA]? = some (.cells #[.int .i64 e0, .int .i64 e1, .int .u64 e2, .int .i64 e3, .bool e4, .bool e5, .int .i64 e6, .slice e7 e8 e9] tA))) (fun iv _ => e8 - (intOf iv).toNat)
      case atStart => exact ⟨0, rfl, by omega, by rw [show encXs (a.ins.take 0) = [] from rfl, List.append_nil]; exact hE, hA⟩
      case round =>
        clear hE hA
        obtain ⟨j, rfl, hj, hE, hA⟩ := hrel
        obtain ⟨k0, k1, k2, k3, k4, k5, k6, k7, kf, kl⟩ := cl8 hA.out
        obtain ⟨d0, d1, d2, d3, d4, d5, d6, d7, d8, d9, d10, d11⟩ := htr.out _ hE.out.k
        by_cases hlj : j < e8
        · skip
          have hlj2 : (j : Int) < e8 := by omega
          have hjI : j < a.ins.length := by rw [hNI.out]; exact hlj
          have hfit := (hOk.out.1.fitI) _ (List.getElem_mem hjI)
          have hlenq : (l15 ++ encXs (a.ins.take j)).length ≤ 50000000 := by
            have h1 := encXs_len (L := a.ins.take j) (fun x hx => hOk.out.1.fitI x (List.mem_of_mem_take hx))
            rw [List.length_append]
            rw [List.length_take] at h1
            have h3 := hNI.out
            omega
          obtain ⟨g2, of2, c2', hv, he⟩ := heli.out j hjI
          rw [hNI.out] at hv
          cases hv
          obtain ⟨⟨y0, y1, y2⟩, hy⟩ : ∃ x, a.ins[j] = x := ⟨_, rfl⟩
          rw [hy] at hfit he
          obtain ⟨v0, v1, v2⟩ := hfit
          simp only at v0 v1 v2
          have f0 := hE.out.k.val (he 0 _ rfl)
          have f1 := hE.out.k.val (he 1 _ rfl)
          have f2 := hE.out.k.val (he 2 _ rfl)
          simp only [shT, Nat.add_zero] at f0 f1 f2
          have hkM := (Keeps.refl [] wr).alloc (.cells #[.int .i64 y0, .int .u64 y1, .int .i64 y2] tI)
          have hX := heap_alloc_new wr (.cells #[.int .i64 y0, .int .u64 y1, .int .i64 y2] tI)
          replace hA := Lib.hid ((hkM.block _ kl (by simp)).trans hA.out)
          replace hE := Lib.hid (hE.out.keeps hkM)
          replace hX := Lib.hid hX
          replace hy := Lib.hid hy
          clear hkM he
          clear k0 k1 k2 k3 k4 k5 k6 k7 kf kl
          go_upto_region 19 with fail
          generalize (wr.alloc (.cells #[.int .i64 y0, .int .u64 y1, .int .i64 y2] tI)) = W0 at *
          obtain ⟨XX, hXX⟩ : ∃ X, wr.heap.size = X := ⟨_, rfl⟩
          rw [hXX] at hX ⊢
          replace hXX := Lib.hid hXX
          clear f0 f1 f2
          obtain ⟨k0, k1, k2, k3, k4, k5, k6, k7, kf, kl⟩ := cl8 hA.out
          obtain ⟨m0, m1, m2, mf, ml⟩ := cl3 hX.out
          clear d0 d1 d2 d3 d4 d5 d6 d7 d8 d9 d10 d11
          obtain ⟨d0, d1, d2, d3, d4, d5, d6, d7, d8, d9, d10, d11⟩ := htr.out _ hE.out.k
          obtain ⟨av16, Nv16, cv16, hbb, hB⟩ := hE.out.open
          obtain ⟨b0, bf, bl⟩ := cl1 hbb
          replace hbb := Lib.hid hbb
          replace hB := Lib.hid hB
          have hxl : (flatI [y0]).length ≤ 9 := flatI_len (L := [y0]) (by simp only [List.mem_cons, List.mem_singleton, List.not_mem_nil, or_false]; rintro z rfl <;> assumption)
          have hc := ints_c w (W0.alloc (.cells #[.int .i64 y0] 3)) BB (l15 ++ encXs (a.ins.take j)) _ [y0] (hE.out.keeps ((Keeps.refl [] W0).alloc (.cells #[.int .i64 y0] 3))) (made_ints W0 [y0] #[.int .i64 y0] 1 rfl rfl (by omega)) (by simp only [List.mem_cons, List.mem_singleton, List.not_mem_nil, or_false]; rintro z rfl <;> assumption) (by simp) (by omega)
          have hkm := ((Keeps.refl [] W0).alloc (.cells #[.int .i64 y0] 3)).kb8
          obtain ⟨l17, hl17⟩ : ∃ y, (l15 ++ encXs (a.ins.take j)) ++ flatI [y0] = y := ⟨_, rfl⟩
          have hn17 : l17.length ≤ (l15 ++ encXs (a.ins.take j)).length + 9 := by rw [← hl17, List.length_append]; omega
          rw [hl17] at hc
          replace hc := Lib.hid hc
          replace hl17 := Lib.hid hl17
          replace hkm := Lib.hid hkm
          clear hxl
          go_wp2_with fail
          refine hc.out.mono ?_
          rintro e w17 ⟨rfl, hE2, hK2⟩
          replace hK2 := Lib.hid (hkm.out.trans hK2)
          replace hE := Lib.hid hE2
          clear hc b0 bf bl hbb hB hE2 hkm
          replace hA := Lib.hid (hK2.out.b _ _ _ _ hA.out (by decide) (by decide))
          clear k0 k1 k2 k3 k4 k5 k6 k7 kf kl
          obtain ⟨k0, k1, k2, k3, k4, k5, k6, k7, kf, kl⟩ := cl8 hA.out
          replace hX := Lib.hid (hK2.out.b _ _ _ _ hX.out (by decide) (by decide))
          clear m0 m1 m2 mf ml
          obtain ⟨m0, m1, m2, mf, ml⟩ := cl3 hX.out
          go_upto_region 20 with fail
          clear hK2
          obtain ⟨av18, Nv18, cv18, hbb, hB⟩ := hE.out.open
          obtain ⟨b0, bf, bl⟩ := cl1 hbb
          replace hbb := Lib.hid hbb
          replace hB := Lib.hid hB
          clear d0 d1 d2 d3 d4 d5 d6 d7 d8 d9 d10 d11
          obtain ⟨d0, d1, d2, d3, d4, d5, d6, d7, d8, d9, d10, d11⟩ := htr.out _ hE.out.k
          have hxl : (encU y1).length ≤ 9 := encU_len v1
          have hc := hE.out.call hbb.out hB.out (appU_c w17 w.heap.size (Value.slice av18 Nv18 cv18) l17 y1 hB.out v1 (by omega) hE.out.k.size)
          obtain ⟨l19, hl19⟩ : ∃ y, l17 ++ encU y1 = y := ⟨_, rfl⟩
          have hn19 : l19.length ≤ l17.length + 9 := by rw [← hl19, List.length_append]; omega
          rw [hl19] at hc
          replace hc := Lib.hid hc
          replace hl19 := Lib.hid hl19
          clear hxl
          go_wp2_with fail
          refine hc.out.mono ?_
          rintro e w19 ⟨a19, N19, c19, rfl, hb2, hE2, hK2, hbb2, hB2, -⟩
          clear hc b0 bf bl hbb hB hE
          obtain ⟨d0, df, dl⟩ := cl1 hb2.out
          replace hA := Lib.hid (hK2.out.b _ _ _ _ hA.out (by decide) (by decide))
          clear k0 k1 k2 k3 k4 k5 k6 k7 kf kl
          obtain ⟨k0, k1, k2, k3, k4, k5, k6, k7, kf, kl⟩ := cl8 hA.out
          replace hX := Lib.hid (hK2.out.b _ _ _ _ hX.out (by decide) (by decide))
          clear m0 m1 m2 mf ml
          obtain ⟨m0, m1, m2, mf, ml⟩ := cl3 hX.out
          go_upto_region 21 with fail
          clear d0 df dl hb2 hK2
          generalize (w19.setCell ⟨BB, 0, none⟩ (.slice a19 N19 c19)) = W19 at *
          have hE := hE2
          have hbb := hbb2
          have hB := hB2
          clear hE2 hbb2 hB2
          obtain ⟨b0, bf, bl⟩ := cl1 hbb.out
          clear d0 d1 d2 d3 d4 d5 d6 d7 d8 d9 d10 d11
          obtain ⟨d0, d1, d2, d3, d4, d5, d6, d7, d8, d9, d10, d11⟩ := htr.out _ hE.out.k
          have hxl : (flatI [y2]).length ≤ 9 := flatI_len (L := [y2]) (by simp only [List.mem_cons, List.mem_singleton, List.not_mem_nil, or_false]; rintro z rfl <;> assumption)
          have hc := ints_c w (W19.alloc (.cells #[.int .i64 y2] 3)) BB l19 _ [y2] (hE.out.keeps ((Keeps.refl [] W19).alloc (.cells #[.int .i64 y2] 3))) (made_ints W19 [y2] #[.int .i64 y2] 1 rfl rfl (by omega)) (by simp only [List.mem_cons, List.mem_singleton, List.not_mem_nil, or_false]; rintro z rfl <;> assumption) (by simp) (by omega)
          have hkm := ((Keeps.refl [] W19).alloc (.cells #[.int .i64 y2] 3)).kb8
          obtain ⟨l20, hl20⟩ : ∃ y, l19 ++ flatI [y2] = y := ⟨_, rfl⟩
          have hn20 : l20.length ≤ l19.length + 9 := by rw [← hl20, List.length_append]; omega
          rw [hl20] at hc
          replace hc := Lib.hid hc
          replace hl20 := Lib.hid hl20
          replace hkm := Lib.hid hkm
          clear hxl
          go_wp2_with fail
          refine hc.out.mono ?_
          rintro e w20 ⟨rfl, hE2, hK2⟩
          replace hK2 := Lib.hid (hkm.out.trans hK2)
          replace hE := Lib.hid hE2
          clear hc b0 bf bl hbb hB hE2 hkm
          replace hA := Lib.hid (hK2.out.b _ _ _ _ hA.out (by decide) (by decide))
          clear k0 k1 k2 k3 k4 k5 k6 k7 kf kl
          obtain ⟨k0, k1, k2, k3, k4, k5, k6, k7, kf, kl⟩ := cl8 hA.out
          replace hX := Lib.hid (hK2.out.b _ _ _ _ hX.out (by decide) (by decide))
          clear m0 m1 m2 mf ml
          obtain ⟨m0, m1, m2, mf, ml⟩ := cl3 hX.out
          skip
          clear hK2
          obtain ⟨av21, Nv21, cv21, hbb, hB⟩ := hE.out.open
          obtain ⟨b0, bf, bl⟩ := cl1 hbb
          replace hbb := Lib.hid hbb
          replace hB := Lib.hid hB
          have hEn : EB w w20 BB (l15 ++ encXs (a.ins.take (j + 1))) := by
            have e := hE.out
            rw [← hl20.out, ← hl19.out, ← hl17.out] at e
            rw [encXs_take _ _ hjI, hy.out]
            simpa [flatI, encX, List.append_assoc] using e
          replace hEn := Lib.hid hEn
          go_wp2
          go_roundw
          case rel => exact ⟨j + 1, rfl, by omega, hEn, hA⟩
          case measure => simp [intOf]; omega
        · skip
          have hlj2 : ¬ ((j : Int) < e8) := by omega
          have hEn : EB w wr BB (l5 ++ encH (hist.take (k + 1))) := by
            have e := hE.out
            rw [List.take_of_length_le (by have := hNI.out; omega), ← hl15.out, ← hl13.out, ← hl12.out, ← hl10.out, ← hl9.out, ← hl7.out] at e
            rw [encH_take _ _ hkH, ha.out, hAe.out]
            simpa [flatI, List.append_assoc] using e
          replace hEn := Lib.hid hEn
          go_wp2
          go_roundw
          case rel => exact ⟨k + 1, rfl, by omega, hEn⟩
          case measure => simp [intOf]; omega
    · skip
      have hlt2 : ¬ ((k : Int) < N8) := by omega
      have hkN : k = hist.length := by have := hXl.out; omega
      rw [hkN, List.take_length] at hE hlenr
      obtain ⟨le, hle⟩ : ∃ y, l5 ++ encH hist = y := ⟨_, rfl⟩
      rw [hle] at hE hlenr
      replace hle := Lib.hid hle
      replace hkN := Lib.hid hkN
      obtain ⟨av22, Nv22, cv22, hbb, hB⟩ := hE.out.open
      obtain ⟨b0, bf, bl⟩ := cl1 hbb
      replace hbb := Lib.hid hbb
      replace hB := Lib.hid hB
      have hge2 := hBB.out
      go_upto_region 24 with fail
      have hED := hE.out.keeps (Keeps.refl [] wr).drew
      have hbbD : wr.drew.heap[BB]? = _ := hbb.out
      have hBD := hB.out.keep (Keeps.refl [] wr).drew
      have hxl : (encU NG).length ≤ 9 := encU_len (by omega)
      have hc := appU_c wr.drew w.heap.size (Value.slice av22 Nv22 cv22) le NG hBD (by omega) (by omega) hED.k.size
      have hlow := EPost.low hBD hED
      rw [hBB.out] at hlow
      have hsT : (Value.slice av22 Nv22 cv22).ownBlock ≠ some bt := fun e => by have := (hBD.tagB e).1; have := hBB.out; omega
      have hsB : (Value.slice av22 Nv22 cv22).ownBlock ≠ some BB := hBD.sep hbbD (by decide)
      replace hc := Lib.hid hc
      replace hlow := Lib.hid hlow
      replace hsT := Lib.hid hsT
      replace hsB := Lib.hid hsB
      replace hED := Lib.hid hED
      replace hBD := Lib.hid hBD
      clear hbbD
      refine Free.wp_region_chain (fun i => i == 7 || i == 12) (fun i => true) (fun j b => (j = 7 ∨ j = 12) ∧ ((Value.slice av22 Nv22 cv22).ownBlock = some b ∨ wr.heap.size ≤ b)) (by kernel_rfl) (by kernel_rfl) (by kernel_rfl) ?_
      (repeat (first | (apply Free.cw_pure rfl rfl; (intro w'; go_simp <;> exact rfl); go_frame) | (apply Free.cw_steady rfl rfl rfl; (intro w' hS; have q0 := Free.sx_cell hS b0 (fun j hp hT => by rcases hT with ⟨_, hT | hT⟩; exact hsB.out hT; omega); have q1 := Free.sx_cell hS d10 (fun _ _ hT => by rcases hT with ⟨_, hT | hT⟩; exact hsT.out hT; omega); have q2 := Free.sx_cell hS d11 (fun _ _ hT => by rcases hT with ⟨_, hT | hT⟩; exact hsT.out hT; omega); go_simp <;> exact rfl); go_frame) | (refine Free.cw_skip rfl ?_; go_frame)))
      refine Free.cw_loud rfl rfl (fun K hK => ?_)
      go_wp2_with fail
      refine hc.out.mono ?_
      rintro e wA ⟨v1, rfl, hB1, hG1⟩
      have hkp : Free.KeepsP (fun b => ((Value.slice av22 Nv22 cv22)).ownBlock = some b ∨ wr.heap.size ≤ b) wr.drew wA := Free.KeepsP.of hG1.keepsO (fun b hb => .inl (by simpa using hb))
      refine hK _ _ rfl (hkp.mono (fun b hb => ⟨.inl trivial, hb⟩)) ?_
      clear hK K hkp hc
      have hs1 : wr.heap.size ≤ wA.heap.size := hG1.keepsO.size
      have hsw : w.heap.size ≤ wr.heap.size := hED.out.k.size
      have hxl2 : (encB rf).length ≤ 9 := (by simp [encB])
      have hlv : (le ++ encU NG).length ≤ 140737488355000 := by rw [List.length_append]; omega
      have hc := appB_c wA w.heap.size v1 (le ++ encU NG) rf hB1  hlv (Nat.le_trans hsw hs1)
      replace hc := Lib.hid hc
      replace hB1 := Lib.hid hB1
      replace hG1 := Lib.hid hG1
      (repeat (first | (apply Free.cw_pure rfl rfl; (intro w'; go_simp <;> exact rfl); go_frame) | (apply Free.cw_steady rfl rfl rfl; (intro w' hS; have q0 := Free.sx_cell hS b0 (fun j hp hT => by rcases hT with ⟨_, hT | hT⟩; exact hsB.out hT; omega); have q1 := Free.sx_cell hS d10 (fun _ _ hT => by rcases hT with ⟨_, hT | hT⟩; exact hsT.out hT; omega); have q2 := Free.sx_cell hS d11 (fun _ _ hT => by rcases hT with ⟨_, hT | hT⟩; exact hsT.out hT; omega); go_simp <;> exact rfl); go_frame) | (refine Free.cw_skip rfl ?_; go_frame)))
      refine Free.cw_loud rfl rfl (fun K hK => ?_)
      go_wp2_with fail
      refine hc.out.mono ?_
      rintro e w23 ⟨v2, rfl, hB2, hG2⟩
      have hkp : Free.KeepsP (fun b => ((Value.slice av22 Nv22 cv22)).ownBlock = some b ∨ wr.heap.size ≤ b) wA w23 := Free.KeepsP.of hG2.keepsO (fun b hb => by
          rcases hG1.out.own with e | ⟨q, e, hq⟩
          · rw [e] at hb; exact .inl (by simpa using hb)
          · rw [e] at hb; simp at hb; subst hb; exact .inr hq)
      refine hK _ _ rfl (hkp.mono (fun b hb => ⟨.inr trivial, hb⟩)) ?_
      clear hK K hkp hc
      have hEP := hED.out.post (w := wr.drew) hbb.out hBD.out hB2 (hG1.out.trans hG2)
      obtain ⟨a23, N23, c23, he, hb2, hE2, hK2, hbb2, hB3, -⟩ := hEP
      cases he
      obtain ⟨l23, hl23⟩ : ∃ y, le ++ encU NG ++ encB rf = y := ⟨_, rfl⟩
      have hn23 : l23.length ≤ le.length + 18 := by rw [← hl23, List.length_append, List.length_append]; omega
      rw [hl23] at hE2 hB2 hB3
      have hkf := Lib.hid (hED.out.k.fresh ((hG1.out.trans hG2).keepsO) (fun b hm => .inr (hBD.out.tagB (by simpa using hm)).1))
      replace hB2 := Lib.hid hB2
      clear hB3 hb2 hE2 hK2 hbb2 hG1 hG2 hB1 hED hBD hlow hsT hsB b0 bf bl hbb hB hE hs1 hsw hlv hxl hxl2
      replace hl23 := Lib.hid hl23
      (repeat (apply Free.cw_pure rfl rfl; (intro w'; go_simp <;> exact rfl); go_frame))
      refine Free.cw_nil ?_
      go_wp2
      go_ret
      refine ⟨_, rfl, ?_, hkf.out⟩
      rw [← hfin.out l23 (by rw [← hl23.out, ← hle.out]; rw [← hl5.out, ← hl3.out, ← hl2.out, ← hl1.out]; simp [flatI, List.append_assoc])]
      exact hB2.out
end Go.Proofs.Ythfdngjbcgkkfaa

namespace Go.Proofs.Ythfdngjbcgkkfaa
open Go.RowKit Go.ChangeShapes

set_option maxRecDepth 100000 in
set_option maxHeartbeats 20000000 in
theorem encodeR_c (w : World) (x : RfV) (t : Tr) (tn : Nat) (h : RfR w x t) (hi : t.Inv) (hN : t.Num) (ht : t.told = tn) (htn : tn ≤ 100000) (hh : t.hist.length ≤ 1000) (hi5 : ∀ a ∈ t.hist, a.ins.length ≤ 1000) (hg : t.ag.length ≤ 100000) :
    Calls Try.prog 28 #[rfV x] w fun e w' => ∃ v, e = .returned v ∧ SlB w' v (encT t) ∧ Keeps [] w w' := by
  obtain ⟨n0, n1, n2, n3, n4⟩ := hN
  obtain ⟨j0, j1, j2, j3, j4, j5, j6, j7, hO, hAn, hAg, XH, hXH, hLH⟩ := h
  have hHok := hi.hi
  obtain ⟨x0, x1, x2, x3, x4, x5, ⟨x6, x7, x8⟩, ⟨x9, x10, x11⟩, x12, ⟨x13, x14, x15⟩, x16, ⟨x17, x18, x19⟩⟩ := x
  simp only [slv, rfV] at j0 j1 j2 j3 j4 j5 j6 j7 hXH hAg ⊢
  obtain ⟨_, _, eh, hlh, hcm, _⟩ := hXH.form
  obtain ⟨_, _, eg, hlg, _, _⟩ := hAg.form
  have hel := fun k hk => hXH.elem (k := k) hk
  have hXl := hLH.1
  obtain ⟨im, is, ⟨s0, s1, s2⟩, qs, told, hist, state, agl, rf⟩ := t
  simp only at n0 n1 n2 n3 n4 hHok ht hh hi5 hg hXl hLH j0 j1 j2 j3 j4 j5 j6 j7 eg
  subst j0 j1 j2 j3 j4 j5 j6 j7 ht
  obtain ⟨N8, hN8⟩ : ∃ n, XH.length = n := ⟨_, rfl⟩
  obtain ⟨NG, hNG⟩ : ∃ n, agl.length = n := ⟨_, rfl⟩
  rw [hN8] at hXl eh hlh
  rw [hNG] at hg eg
  simp only [Value.slice.injEq] at eh eg
  obtain ⟨-, eh, -⟩ := eh
  obtain ⟨-, eg, -⟩ := eg
  subst eh eg
  rw [← hXl] at hh
  have hwt : IntKind.u64.wrap (tn : Int) = tn := by rw [IntKind.wrap_u64]; omega
  have hw8 : IntKind.u64.wrap (x18 : Int) = x18 := by rw [IntKind.wrap_u64]; omega
  have hwg : IntKind.u64.wrap (x14 : Int) = x14 := by rw [IntKind.wrap_u64]; omega
  have hHl : ∀ a ∈ hist, a.Ok ∧ a.ins.length ≤ 1000 := fun a ha => ⟨hHok a ha, hi5 a ha⟩
  have hfin : ∀ l : List UInt8, l = encI x0 ++ encI x1 ++ encI x2 ++ encU x3 ++ encI x4 ++ encU tn ++ encU x18 ++ encH hist ++ encU x14 ++ encB x16 → l = encT ⟨x0, x1, (x2, x3, x4), qs, tn, hist, x5, agl, x16⟩ := fun l e => by
    rw [e]
    unfold encT encT0
    simp only [hNG, ← hXl, Int.toNat_natCast]
  have hX := heap_alloc_new w (.cells #[.int .i64 x0, .int .i64 x1, .int .i64 x2, .int .u64 x3, .int .i64 x4, .int .i64 x5, .slice x6 x7 x8, .slice x9 x10 x11, .int .i64 tn, .slice x13 x14 x15, .bool x16, .slice x17 x18 x19] tR)
  have hkA : Keeps [] w (w.alloc (.cells #[.int .i64 x0, .int .i64 x1, .int .i64 x2, .int .u64 x3, .int .i64 x4, .int .i64 x5, .slice x6 x7 x8, .slice x9 x10 x11, .int .i64 tn, .slice x13 x14 x15, .bool x16, .slice x17 x18 x19] tR)) := (Keeps.refl _ _).alloc _
  have hB : SlB (w.alloc (.cells #[.int .i64 x0, .int .i64 x1, .int .i64 x2, .int .u64 x3, .int .i64 x4, .int .i64 x5, .slice x6 x7 x8, .slice x9 x10 x11, .int .i64 tn, .slice x13 x14 x15, .bool x16, .slice x17 x18 x19] tR)) (.slice none 0 0) [] := Sl.nil _ _
  obtain ⟨W, hW⟩ : ∃ W, (w.alloc (.cells #[.int .i64 x0, .int .i64 x1, .int .i64 x2, .int .u64 x3, .int .i64 x4, .int .i64 x5, .slice x6 x7 x8, .slice x9 x10 x11, .int .i64 tn, .slice x13 x14 x15, .bool x16, .slice x17 x18 x19] tR)) = W := ⟨_, rfl⟩
  rw [hW] at hX hkA hB
  obtain ⟨XX, hXX⟩ : ∃ b, w.heap.size = b := ⟨_, rfl⟩
  rw [hXX] at hX
  replace hX := Lib.hid hX
  replace hkA := Lib.hid hkA
  replace hW := Lib.hid hW
  replace hB := Lib.hid hB
  replace hLH := Lib.hid hLH
  replace hHl := Lib.hid hHl
  replace hel := Lib.hid hel
  replace hN8 := Lib.hid hN8
  replace hNG := Lib.hid hNG
  replace hXl := Lib.hid hXl
  replace hfin := Lib.hid hfin
  obtain ⟨z0, z1, z2, z3, z4, z5, z6, z7, z8, z9, z10, z11, zf, zl⟩ := cl12 hX.out
  clear hO hAn hAg hXH hHok hi5 hi hlg
  go_enter Try.func28, Try.ntmps28
  have hnil : ([] : List UInt8).length = 0 := rfl
  go_upto_region 1 with fail
  rw [hW.out]
  try rw [hXX]
  replace hXX := Lib.hid hXX
  have hxl : (encI x0).length ≤ 9 := encI_len n0
  have hc := refInt_c W (.slice none 0 0) ([] : List UInt8) x0 hB.out (w64_iff.1 n0) (by omega)
  obtain ⟨l1, hl1⟩ : ∃ y, ([] : List UInt8) ++ encI x0 = y := ⟨_, rfl⟩
  have hn1 : l1.length ≤ (([] : List UInt8)).length + 9 := by rw [← hl1, List.length_append]; omega
  rw [hl1] at hc
  replace hc := Lib.hid hc
  replace hl1 := Lib.hid hl1
  clear hxl
  go_wp2_with fail
  refine hc.out.mono ?_
  rintro e w1 ⟨v1, rfl, hB2, hk2⟩
  clear hc hB
  have hB := Lib.hid hB2
  clear hB2
  replace hX := Lib.hid ((hk2.block _ (lt_of_blk hX.out) (by simp)).trans hX.out)
  clear z0 z1 z2 z3 z4 z5 z6 z7 z8 z9 z10 z11 zf zl
  obtain ⟨z0, z1, z2, z3, z4, z5, z6, z7, z8, z9, z10, z11, zf, zl⟩ := cl12 hX.out
  replace hkA := Lib.hid (hkA.out.trans hk2)
  clear hk2
  have hxl : (encI x1).length ≤ 9 := encI_len n1
  have hc := refInt_c w1 v1 l1 x1 hB.out (w64_iff.1 n1) (by omega)
  obtain ⟨l2, hl2⟩ : ∃ y, l1 ++ encI x1 = y := ⟨_, rfl⟩
  have hn2 : l2.length ≤ (l1).length + 9 := by rw [← hl2, List.length_append]; omega
  rw [hl2] at hc
  replace hc := Lib.hid hc
  replace hl2 := Lib.hid hl2
  clear hxl
  go_wp2_with fail
  refine hc.out.mono ?_
  rintro e w2 ⟨v2, rfl, hB2, hk2⟩
  clear hc hB
  have hB := Lib.hid hB2
  clear hB2
  replace hX := Lib.hid ((hk2.block _ (lt_of_blk hX.out) (by simp)).trans hX.out)
  clear z0 z1 z2 z3 z4 z5 z6 z7 z8 z9 z10 z11 zf zl
  obtain ⟨z0, z1, z2, z3, z4, z5, z6, z7, z8, z9, z10, z11, zf, zl⟩ := cl12 hX.out
  replace hkA := Lib.hid (hkA.out.trans hk2)
  clear hk2
  have hxl : (encI x2).length ≤ 9 := encI_len n2
  have hc := refInt_c w2 v2 l2 x2 hB.out (w64_iff.1 n2) (by omega)
  obtain ⟨l3, hl3⟩ : ∃ y, l2 ++ encI x2 = y := ⟨_, rfl⟩
  have hn3 : l3.length ≤ (l2).length + 9 := by rw [← hl3, List.length_append]; omega
  rw [hl3] at hc
  replace hc := Lib.hid hc
  replace hl3 := Lib.hid hl3
  clear hxl
  go_wp2_with fail
  refine hc.out.mono ?_
  rintro e w3 ⟨v3, rfl, hB2, hk2⟩
  clear hc hB
  have hB := Lib.hid hB2
  clear hB2
  replace hX := Lib.hid ((hk2.block _ (lt_of_blk hX.out) (by simp)).trans hX.out)
  clear z0 z1 z2 z3 z4 z5 z6 z7 z8 z9 z10 z11 zf zl
  obtain ⟨z0, z1, z2, z3, z4, z5, z6, z7, z8, z9, z10, z11, zf, zl⟩ := cl12 hX.out
  replace hkA := Lib.hid (hkA.out.trans hk2)
  clear hk2
  have hxl : (encU x3).length ≤ 9 := encU_len n3
  have hc := refU_c w3 v3 l3 x3 hB.out n3 (by omega)
  obtain ⟨l4, hl4⟩ : ∃ y, l3 ++ encU x3 = y := ⟨_, rfl⟩
  have hn4 : l4.length ≤ (l3).length + 9 := by rw [← hl4, List.length_append]; omega
  rw [hl4] at hc
  replace hc := Lib.hid hc
  replace hl4 := Lib.hid hl4
  clear hxl
  go_wp2_with fail
  refine hc.out.mono ?_
  rintro e w4 ⟨v4, rfl, hB2, hk2⟩
  clear hc hB
  have hB := Lib.hid hB2.slB
  clear hB2
  replace hX := Lib.hid ((hk2.block _ (lt_of_blk hX.out) (by simp)).trans hX.out)
  clear z0 z1 z2 z3 z4 z5 z6 z7 z8 z9 z10 z11 zf zl
  obtain ⟨z0, z1, z2, z3, z4, z5, z6, z7, z8, z9, z10, z11, zf, zl⟩ := cl12 hX.out
  replace hkA := Lib.hid (hkA.out.trans hk2)
  clear hk2
  have hxl : (encI x4).length ≤ 9 := encI_len n4
  have hc := refInt_c w4 v4 l4 x4 hB.out (w64_iff.1 n4) (by omega)
  obtain ⟨l5, hl5⟩ : ∃ y, l4 ++ encI x4 = y := ⟨_, rfl⟩
  have hn5 : l5.length ≤ (l4).length + 9 := by rw [← hl5, List.length_append]; omega
  rw [hl5] at hc
  replace hc := Lib.hid hc
  replace hl5 := Lib.hid hl5
  clear hxl
  go_wp2_with fail
  refine hc.out.mono ?_
  rintro e w5 ⟨v5, rfl, hB2, hk2⟩
  clear hc hB
  have hB := Lib.hid hB2
  clear hB2
  replace hX := Lib.hid ((hk2.block _ (lt_of_blk hX.out) (by simp)).trans hX.out)
  clear z0 z1 z2 z3 z4 z5 z6 z7 z8 z9 z10 z11 zf zl
  obtain ⟨z0, z1, z2, z3, z4, z5, z6, z7, z8, z9, z10, z11, zf, zl⟩ := cl12 hX.out
  replace hkA := Lib.hid (hkA.out.trans hk2)
  clear hk2
  have hxl : (encU tn).length ≤ 9 := encU_len (by omega)
  have hc := refU_c w5 v5 l5 tn hB.out (by omega) (by omega)
  obtain ⟨l6, hl6⟩ : ∃ y, l5 ++ encU tn = y := ⟨_, rfl⟩
  have hn6 : l6.length ≤ (l5).length + 9 := by rw [← hl6, List.length_append]; omega
  rw [hl6] at hc
  replace hc := Lib.hid hc
  replace hl6 := Lib.hid hl6
  clear hxl
  go_wp2_with fail
  refine hc.out.mono ?_
  rintro e w6 ⟨v6, rfl, hB2, hk2⟩
  clear hc hB
  have hB := Lib.hid hB2.slB
  clear hB2
  replace hX := Lib.hid ((hk2.block _ (lt_of_blk hX.out) (by simp)).trans hX.out)
  clear z0 z1 z2 z3 z4 z5 z6 z7 z8 z9 z10 z11 zf zl
  obtain ⟨z0, z1, z2, z3, z4, z5, z6, z7, z8, z9, z10, z11, zf, zl⟩ := cl12 hX.out
  replace hkA := Lib.hid (hkA.out.trans hk2)
  clear hk2
  have hxl : (encU x18).length ≤ 9 := encU_len (by omega)
  have hc := refU_c w6 v6 l6 x18 hB.out (by omega) (by omega)
  obtain ⟨l7, hl7⟩ : ∃ y, l6 ++ encU x18 = y := ⟨_, rfl⟩
  have hn7 : l7.length ≤ (l6).length + 9 := by rw [← hl7, List.length_append]; omega
  rw [hl7] at hc
  replace hc := Lib.hid hc
  replace hl7 := Lib.hid hl7
  clear hxl
  go_wp2_with fail
  refine hc.out.mono ?_
  rintro e w7 ⟨v7, rfl, hB2, hk2⟩
  clear hc hB
  have hB := Lib.hid hB2.slB
  clear hB2
  replace hX := Lib.hid ((hk2.block _ (lt_of_blk hX.out) (by simp)).trans hX.out)
  clear z0 z1 z2 z3 z4 z5 z6 z7 z8 z9 z10 z11 zf zl
  obtain ⟨z0, z1, z2, z3, z4, z5, z6, z7, z8, z9, z10, z11, zf, zl⟩ := cl12 hX.out
  replace hkA := Lib.hid (hkA.out.trans hk2)
  clear hk2
  have hP : l7.length ≤ 1000 := by omega
  go_wp2
  obtain ⟨WP, hWP⟩ : ∃ y, y = w7 := ⟨_, rfl⟩
  rw [← hWP] at hX hkA hB
  rw [← hWP]
  clear z0 z1 z2 z3 z4 z5 z6 z7 z8 z9 z10 z11 zf zl
  go_loopw [4, 3] (fun iv bv wr => ∃ k : Nat, iv = .int .i64 k ∧ k ≤ x18 ∧ Hid (SlB wr bv (l7 ++ encH (hist.take k))) ∧ Hid (Keeps [] w wr) ∧ Hid (wr.heap[XX]? = some (.cells #[.int .i64 x0, .int .i64 x1, .int .i64 x2, .int .u64 x3, .int .i64 x4, .int .i64 x5, .slice x6 x7 x8, .slice x9 x10 x11, .int .i64 tn, .slice x13 x14 x15, .bool x16, .slice x17 x18 x19] tR))) (fun iv _ _ => x18 - (intOf iv).toNat)
  case atStart => exact ⟨0, rfl, by omega, by rw [show encH (hist.take 0) = [] from rfl, List.append_nil]; exact hB, hkA, hX⟩
  case round =>
    clear hB hkA hX
    obtain ⟨k, rfl, hk, hB, hkA, hX⟩ := hrel
    obtain ⟨bv, hbv⟩ : ∃ b, b = u3 := ⟨_, rfl⟩
    rw [← hbv] at hB ⊢
    clear hbv
    obtain ⟨z0, z1, z2, z3, z4, z5, z6, z7, z8, z9, z10, z11, zf, zl⟩ := cl12 hX.out
    have hlenr : (l7 ++ encH (hist.take k)).length ≤ 30000000 := by
      have h1 := encH_len (L := hist.take k) (fun a ha => hHl.out a (List.mem_of_mem_take ha))
      rw [List.length_append]
      rw [List.length_take] at h1
      have : 27100 * min k hist.length ≤ 27100 * 1000 := Nat.mul_le_mul_left _ (by omega)
      omega
    by_cases hlt : k < x18
    · skip
      have hlt2 : (k : Int) < x18 := by omega
      have hkX : k < XH.length := by rw [hN8.out]; exact hlt
      have hkH : k < hist.length := by rw [← hXl.out]; exact hlt
      obtain ⟨g, of, c', hv, he⟩ := hel.out k hkX
      rw [hN8.out] at hv
      cases hv
      have hIA := hLH.out.2 k _ _ (List.getElem?_eq_getElem hkX) (List.getElem?_eq_getElem hkH)
      have hOk := hHl.out _ (List.getElem_mem hkH)
      obtain ⟨a, ha⟩ : ∃ a, hist[k] = a := ⟨_, rfl⟩
      rw [ha] at hIA hOk
      obtain ⟨⟨e0, e1, e2, e3, e4, e5, e6, e7, e8, e9⟩, hx⟩ : ∃ x, XH[k] = x := ⟨_, rfl⟩
      rw [hx] at hIA he
      obtain ⟨i1, i2, i3, i4, i5, i6, i7, hI⟩ := hIA
      simp only [AnV.v] at i1 i2 i3 i4 i5 i6 i7 hI
      obtain ⟨ia, ic, hvi, hic1, hic2, _⟩ := hI.r.form
      have heli := fun j hj => hI.r.elem (k := j) hj
      obtain ⟨NI, hNI⟩ : ∃ n, a.ins.length = n := ⟨_, rfl⟩
      rw [hNI] at hvi hic1
      have hNI2 : NI ≤ 1000 := by rw [← hNI]; exact hOk.2
      obtain ⟨rfl, rfl, rfl⟩ : e7 = ia ∧ e8 = NI ∧ e9 = ic := by simpa using hvi
      have hwi : IntKind.u64.wrap (e8 : Int) = e8 := by rw [IntKind.wrap_u64]; omega
      have t0 := hOk.1.q.1
      have t1 := hOk.1.q.2.1
      have t2 := hOk.1.q.2.2
      have t3 := hOk.1.ep
      have t6 := hOk.1.lu
      simp only [Ans.q] at t0 t1 t2
      rw [← i1] at t0
      rw [← i2] at t1
      rw [← i3] at t2
      rw [← i4] at t3
      rw [← i7] at t6
      have hAe : encA a = encI e0 ++ encI e1 ++ encU e2 ++ encI e3 ++ encB e4 ++ encB e5 ++ encI e6 ++ encU e8 ++ encXs a.ins := by unfold encA encA0; rw [i1, i2, i3, i4, i5, i6, i7, hNI]
      have f0 := hkA.out.val (he 0 _ rfl)
      have f1 := hkA.out.val (he 1 _ rfl)
      have f2 := hkA.out.val (he 2 _ rfl)
      have f3 := hkA.out.val (he 3 _ rfl)
      have f4 := hkA.out.val (he 4 _ rfl)
      have f5 := hkA.out.val (he 5 _ rfl)
      have f6 := hkA.out.val (he 6 _ rfl)
      have f7 := hkA.out.val (he 7 _ rfl)
      simp only [shA, AnV.v, Nat.add_zero] at f0 f1 f2 f3 f4 f5 f6 f7
      have hkM := (Keeps.refl [] wr).alloc (.cells #[.int .i64 e0, .int .i64 e1, .int .u64 e2, .int .i64 e3, .bool e4, .bool e5, .int .i64 e6, .slice e7 e8 e9] tA)
      have hA := heap_alloc_new wr (.cells #[.int .i64 e0, .int .i64 e1, .int .u64 e2, .int .i64 e3, .bool e4, .bool e5, .int .i64 e6, .slice e7 e8 e9] tA)
      have hBM := hB.out.keeps hkM
      have hkAM := hkA.out.trans hkM
      have hXM := (hkM.block _ zl (by simp)).trans hX.out
      clear hB hkA
      have hB := Lib.hid hBM
      have hkA := Lib.hid hkAM
      replace hXM := Lib.hid hXM
      replace hA := Lib.hid hA
      replace ha := Lib.hid ha
      replace hx := Lib.hid hx
      replace hAe := Lib.hid hAe
      replace hOk := Lib.hid hOk
      replace heli := Lib.hid heli
      replace hNI := Lib.hid hNI
      replace hI := Lib.hid hI
      clear hkM he hvi i1 i2 i3 i4 i5 i6 i7 hBM hkAM
      go_upto_region 12 with fail
      generalize (wr.alloc (.cells #[.int .i64 e0, .int .i64 e1, .int .u64 e2, .int .i64 e3, .bool e4, .bool e5, .int .i64 e6, .slice e7 e8 e9] tA)) = W0 at *
      obtain ⟨XA, hXA⟩ : ∃ X, wr.heap.size = X := ⟨_, rfl⟩
      rw [hXA] at hA ⊢
      replace hXA := Lib.hid hXA
      clear f0 f1 f2 f3 f4 f5 f6 f7 hX
      have hX := hXM
      clear hXM
      clear z0 z1 z2 z3 z4 z5 z6 z7 z8 z9 z10 z11 zf zl
      obtain ⟨z0, z1, z2, z3, z4, z5, z6, z7, z8, z9, z10, z11, zf, zl⟩ := cl12 hX.out
      obtain ⟨k0, k1, k2, k3, k4, k5, k6, k7, kf, kl⟩ := cl8 hA.out
      have hxl : (encI e0).length ≤ 9 := encI_len t0
      have hc := refInt_c W0 bv (l7 ++ encH (hist.take k)) e0 hB.out (w64_iff.1 t0) (by omega)
      obtain ⟨l8, hl8⟩ : ∃ y, (l7 ++ encH (hist.take k)) ++ encI e0 = y := ⟨_, rfl⟩
      have hn8 : l8.length ≤ ((l7 ++ encH (hist.take k))).length + 9 := by rw [← hl8, List.length_append]; omega
      rw [hl8] at hc
      replace hc := Lib.hid hc
      replace hl8 := Lib.hid hl8
      clear hxl
      go_wp2_with fail
      refine hc.out.mono ?_
      rintro e w8 ⟨v8, rfl, hB2, hk2⟩
      clear hc hB
      have hB := Lib.hid hB2
      clear hB2
      replace hX := Lib.hid ((hk2.block _ (lt_of_blk hX.out) (by simp)).trans hX.out)
      clear z0 z1 z2 z3 z4 z5 z6 z7 z8 z9 z10 z11 zf zl
      obtain ⟨z0, z1, z2, z3, z4, z5, z6, z7, z8, z9, z10, z11, zf, zl⟩ := cl12 hX.out
      replace hA := Lib.hid ((hk2.block _ (lt_of_blk hA.out) (by simp)).trans hA.out)
      clear k0 k1 k2 k3 k4 k5 k6 k7 kf kl
      obtain ⟨k0, k1, k2, k3, k4, k5, k6, k7, kf, kl⟩ := cl8 hA.out
      replace hkA := Lib.hid (hkA.out.trans hk2)
      clear hk2
      have hxl : (encI e1).length ≤ 9 := encI_len t1
      have hc := refInt_c w8 v8 l8 e1 hB.out (w64_iff.1 t1) (by omega)
      obtain ⟨l9, hl9⟩ : ∃ y, l8 ++ encI e1 = y := ⟨_, rfl⟩
      have hn9 : l9.length ≤ (l8).length + 9 := by rw [← hl9, List.length_append]; omega
      rw [hl9] at hc
      replace hc := Lib.hid hc
      replace hl9 := Lib.hid hl9
      clear hxl
      go_wp2_with fail
      refine hc.out.mono ?_
      rintro e w9 ⟨v9, rfl, hB2, hk2⟩
      clear hc hB
      have hB := Lib.hid hB2
      clear hB2
      replace hX := Lib.hid ((hk2.block _ (lt_of_blk hX.out) (by simp)).trans hX.out)
      clear z0 z1 z2 z3 z4 z5 z6 z7 z8 z9 z10 z11 zf zl
      obtain ⟨z0, z1, z2, z3, z4, z5, z6, z7, z8, z9, z10, z11, zf, zl⟩ := cl12 hX.out
      replace hA := Lib.hid ((hk2.block _ (lt_of_blk hA.out) (by simp)).trans hA.out)
      clear k0 k1 k2 k3 k4 k5 k6 k7 kf kl
      obtain ⟨k0, k1, k2, k3, k4, k5, k6, k7, kf, kl⟩ := cl8 hA.out
      replace hkA := Lib.hid (hkA.out.trans hk2)
      clear hk2
      have hxl : (encU e2).length ≤ 9 := encU_len t2
      have hc := refU_c w9 v9 l9 e2 hB.out t2 (by omega)
      obtain ⟨l10, hl10⟩ : ∃ y, l9 ++ encU e2 = y := ⟨_, rfl⟩
      have hn10 : l10.length ≤ (l9).length + 9 := by rw [← hl10, List.length_append]; omega
      rw [hl10] at hc
      replace hc := Lib.hid hc
      replace hl10 := Lib.hid hl10
      clear hxl
      go_wp2_with fail
      refine hc.out.mono ?_
      rintro e w10 ⟨v10, rfl, hB2, hk2⟩
      clear hc hB
      have hB := Lib.hid hB2.slB
      clear hB2
      replace hX := Lib.hid ((hk2.block _ (lt_of_blk hX.out) (by simp)).trans hX.out)
      clear z0 z1 z2 z3 z4 z5 z6 z7 z8 z9 z10 z11 zf zl
      obtain ⟨z0, z1, z2, z3, z4, z5, z6, z7, z8, z9, z10, z11, zf, zl⟩ := cl12 hX.out
      replace hA := Lib.hid ((hk2.block _ (lt_of_blk hA.out) (by simp)).trans hA.out)
      clear k0 k1 k2 k3 k4 k5 k6 k7 kf kl
      obtain ⟨k0, k1, k2, k3, k4, k5, k6, k7, kf, kl⟩ := cl8 hA.out
      replace hkA := Lib.hid (hkA.out.trans hk2)
      clear hk2
      have hxl : (encI e3).length ≤ 9 := encI_len t3
      have hc := refInt_c w10 v10 l10 e3 hB.out (w64_iff.1 t3) (by omega)
      obtain ⟨l11, hl11⟩ : ∃ y, l10 ++ encI e3 = y := ⟨_, rfl⟩
      have hn11 : l11.length ≤ (l10).length + 9 := by rw [← hl11, List.length_append]; omega
      rw [hl11] at hc
      replace hc := Lib.hid hc
      replace hl11 := Lib.hid hl11
      clear hxl
      go_wp2_with fail
      refine hc.out.mono ?_
      rintro e w11 ⟨v11, rfl, hB2, hk2⟩
      clear hc hB
      have hB := Lib.hid hB2
      clear hB2
      replace hX := Lib.hid ((hk2.block _ (lt_of_blk hX.out) (by simp)).trans hX.out)
      clear z0 z1 z2 z3 z4 z5 z6 z7 z8 z9 z10 z11 zf zl
      obtain ⟨z0, z1, z2, z3, z4, z5, z6, z7, z8, z9, z10, z11, zf, zl⟩ := cl12 hX.out
      replace hA := Lib.hid ((hk2.block _ (lt_of_blk hA.out) (by simp)).trans hA.out)
      clear k0 k1 k2 k3 k4 k5 k6 k7 kf kl
      obtain ⟨k0, k1, k2, k3, k4, k5, k6, k7, kf, kl⟩ := cl8 hA.out
      replace hkA := Lib.hid (hkA.out.trans hk2)
      clear hk2
      have hxl : (encB e4).length ≤ 9 := (by simp [encB])
      have hc := refB_c w11 v11 l11 e4 hB.out  (by omega)
      obtain ⟨l12, hl12⟩ : ∃ y, l11 ++ encB e4 = y := ⟨_, rfl⟩
      have hn12 : l12.length ≤ (l11).length + 9 := by rw [← hl12, List.length_append]; omega
      rw [hl12] at hc
      replace hc := Lib.hid hc
      replace hl12 := Lib.hid hl12
      clear hxl
      go_wp2_with fail
      refine hc.out.mono ?_
      rintro e w12 ⟨v12, rfl, hB2, hk2⟩
      clear hc hB
      have hB := Lib.hid hB2
      clear hB2
      replace hX := Lib.hid ((hk2.block _ (lt_of_blk hX.out) (by simp)).trans hX.out)
      clear z0 z1 z2 z3 z4 z5 z6 z7 z8 z9 z10 z11 zf zl
      obtain ⟨z0, z1, z2, z3, z4, z5, z6, z7, z8, z9, z10, z11, zf, zl⟩ := cl12 hX.out
      replace hA := Lib.hid ((hk2.block _ (lt_of_blk hA.out) (by simp)).trans hA.out)
      clear k0 k1 k2 k3 k4 k5 k6 k7 kf kl
      obtain ⟨k0, k1, k2, k3, k4, k5, k6, k7, kf, kl⟩ := cl8 hA.out
      replace hkA := Lib.hid (hkA.out.trans hk2)
      clear hk2
      have hxl : (encB e5).length ≤ 9 := (by simp [encB])
      have hc := refB_c w12 v12 l12 e5 hB.out  (by omega)
      obtain ⟨l13, hl13⟩ : ∃ y, l12 ++ encB e5 = y := ⟨_, rfl⟩
      have hn13 : l13.length ≤ (l12).length + 9 := by rw [← hl13, List.length_append]; omega
      rw [hl13] at hc
      replace hc := Lib.hid hc
      replace hl13 := Lib.hid hl13
      clear hxl
      go_wp2_with fail
      refine hc.out.mono ?_
      rintro e w13 ⟨v13, rfl, hB2, hk2⟩
      clear hc hB
      have hB := Lib.hid hB2
      clear hB2
      replace hX := Lib.hid ((hk2.block _ (lt_of_blk hX.out) (by simp)).trans hX.out)
      clear z0 z1 z2 z3 z4 z5 z6 z7 z8 z9 z10 z11 zf zl
      obtain ⟨z0, z1, z2, z3, z4, z5, z6, z7, z8, z9, z10, z11, zf, zl⟩ := cl12 hX.out
      replace hA := Lib.hid ((hk2.block _ (lt_of_blk hA.out) (by simp)).trans hA.out)
      clear k0 k1 k2 k3 k4 k5 k6 k7 kf kl
      obtain ⟨k0, k1, k2, k3, k4, k5, k6, k7, kf, kl⟩ := cl8 hA.out
      replace hkA := Lib.hid (hkA.out.trans hk2)
      clear hk2
      have hxl : (encI e6).length ≤ 9 := encI_len t6
      have hc := refInt_c w13 v13 l13 e6 hB.out (w64_iff.1 t6) (by omega)
      obtain ⟨l14, hl14⟩ : ∃ y, l13 ++ encI e6 = y := ⟨_, rfl⟩
      have hn14 : l14.length ≤ (l13).length + 9 := by rw [← hl14, List.length_append]; omega
      rw [hl14] at hc
      replace hc := Lib.hid hc
      replace hl14 := Lib.hid hl14
      clear hxl
      go_wp2_with fail
      refine hc.out.mono ?_
      rintro e w14 ⟨v14, rfl, hB2, hk2⟩
      clear hc hB
      have hB := Lib.hid hB2
      clear hB2
      replace hX := Lib.hid ((hk2.block _ (lt_of_blk hX.out) (by simp)).trans hX.out)
      clear z0 z1 z2 z3 z4 z5 z6 z7 z8 z9 z10 z11 zf zl
      obtain ⟨z0, z1, z2, z3, z4, z5, z6, z7, z8, z9, z10, z11, zf, zl⟩ := cl12 hX.out
      replace hA := Lib.hid ((hk2.block _ (lt_of_blk hA.out) (by simp)).trans hA.out)
      clear k0 k1 k2 k3 k4 k5 k6 k7 kf kl
      obtain ⟨k0, k1, k2, k3, k4, k5, k6, k7, kf, kl⟩ := cl8 hA.out
      replace hkA := Lib.hid (hkA.out.trans hk2)
      clear hk2
      have hxl : (encU e8).length ≤ 9 := encU_len (by omega)
      have hc := refU_c w14 v14 l14 e8 hB.out (by omega) (by omega)
      obtain ⟨l15, hl15⟩ : ∃ y, l14 ++ encU e8 = y := ⟨_, rfl⟩
      have hn15 : l15.length ≤ (l14).length + 9 := by rw [← hl15, List.length_append]; omega
      rw [hl15] at hc
      replace hc := Lib.hid hc
      replace hl15 := Lib.hid hl15
      clear hxl
      go_wp2_with fail
      refine hc.out.mono ?_
      rintro e w15 ⟨v15, rfl, hB2, hk2⟩
      clear hc hB
      have hB := Lib.hid hB2.slB
      clear hB2
      replace hX := Lib.hid ((hk2.block _ (lt_of_blk hX.out) (by simp)).trans hX.out)
      clear z0 z1 z2 z3 z4 z5 z6 z7 z8 z9 z10 z11 zf zl
      obtain ⟨z0, z1, z2, z3, z4, z5, z6, z7, z8, z9, z10, z11, zf, zl⟩ := cl12 hX.out
      replace hA := Lib.hid ((hk2.block _ (lt_of_blk hA.out) (by simp)).trans hA.out)
      clear k0 k1 k2 k3 k4 k5 k6 k7 kf kl
      obtain ⟨k0, k1, k2, k3, k4, k5, k6, k7, kf, kl⟩ := cl8 hA.out
      replace hkA := Lib.hid (hkA.out.trans hk2)
      clear hk2
      have hQ : l15.length ≤ 40000000 := by omega
      go_wp2
      obtain ⟨WQ, hWQ⟩ : ∃ y, y = w15 := ⟨_, rfl⟩
      rw [← hWQ] at hX hkA hB hA
      rw [← hWQ]
      clear z0 z1 z2 z3 z4 z5 z6 z7 z8 z9 z10 z11 zf zl
      clear k0 k1 k2 k3 k4 k5 k6 k7 kf kl
      go_loopw [6, 3] (fun iv bv wr => ∃ j : Nat, iv = .int .i64 j ∧ j ≤ e8 ∧ Hid (SlB wr bv (l15 ++ encXs (a.ins.take j))) ∧ Hid (Keeps [] w wr) ∧ Hid (wr.heap[XX]? = some (.cells #[.int .i64 x0, .int .i64 x1, .int .i64 x2, .int .u64 x3, .int .i64 x4, .int .i64 x5, .slice x6 x7 x8, .slice x9 x10 x11, .int .i64 tn, .slice x13 x14 x15, .bool x16, .slice (some ⟨g, of, none⟩) x18 x19] tR)) ∧ Hid (wr.heap[XA]? = some (.cells #[.int .i64 e0, .int .i64 e1, .int .u64 e2, .int .i64 e3, .bool e4, .bool e5, .int .i64 e6, .slice e7 e8 e9] tA))) (fun iv _ _ => e8 - (intOf iv).toNat)
      case atStart => exact ⟨0, rfl, by omega, by rw [show encXs (a.ins.take 0) = [] from rfl, List.append_nil]; exact hB, hkA, hX, hA⟩
      case round =>
        clear hB hkA hX hA
        obtain ⟨j, rfl, hj, hB, hkA, hX, hA⟩ := hrel
        obtain ⟨bv2, hbv⟩ : ∃ b, b = u3 := ⟨_, rfl⟩
        rw [← hbv] at hB ⊢
        clear hbv
        obtain ⟨z0, z1, z2, z3, z4, z5, z6, z7, z8, z9, z10, z11, zf, zl⟩ := cl12 hX.out
        obtain ⟨k0, k1, k2, k3, k4, k5, k6, k7, kf, kl⟩ := cl8 hA.out
        by_cases hlj : j < e8
        · skip
          have hlj2 : (j : Int) < e8 := by omega
          have hjI : j < a.ins.length := by rw [hNI.out]; exact hlj
          have hfit := (hOk.out.1.fitI) _ (List.getElem_mem hjI)
          have hlenq : (l15 ++ encXs (a.ins.take j)).length ≤ 50000000 := by
            have h1 := encXs_len (L := a.ins.take j) (fun x hx => hOk.out.1.fitI x (List.mem_of_mem_take hx))
            rw [List.length_append]
            rw [List.length_take] at h1
            have h3 := hNI.out
            omega
          obtain ⟨g2, of2, c2', hv, he⟩ := heli.out j hjI
          rw [hNI.out] at hv
          cases hv
          obtain ⟨⟨y0, y1, y2⟩, hy⟩ : ∃ x, a.ins[j] = x := ⟨_, rfl⟩
          rw [hy] at hfit he
          obtain ⟨r0, r1, r2⟩ := hfit
          simp only at r0 r1 r2
          replace he := Lib.hid he
          replace hy := Lib.hid hy
          have f0 := hkA.out.val (he.out 0 _ rfl)
          have f1 := hkA.out.val (he.out 1 _ rfl)
          have f2 := hkA.out.val (he.out 2 _ rfl)
          simp only [shT, Nat.add_zero] at f0 f1 f2
          have hxl : (encI y0).length ≤ 9 := encI_len r0
          have hc := refInt_c wr bv2 (l15 ++ encXs (a.ins.take j)) y0 hB.out (w64_iff.1 r0) (by omega)
          obtain ⟨l16, hl16⟩ : ∃ y, (l15 ++ encXs (a.ins.take j)) ++ encI y0 = y := ⟨_, rfl⟩
          have hn16 : l16.length ≤ ((l15 ++ encXs (a.ins.take j))).length + 9 := by rw [← hl16, List.length_append]; omega
          rw [hl16] at hc
          replace hc := Lib.hid hc
          replace hl16 := Lib.hid hl16
          clear hxl
          go_wp2_with fail
          refine hc.out.mono ?_
          rintro e w16 ⟨v16, rfl, hB2, hk2⟩
          clear hc hB
          have hB := Lib.hid hB2
          clear hB2
          replace hX := Lib.hid ((hk2.block _ (lt_of_blk hX.out) (by simp)).trans hX.out)
          clear z0 z1 z2 z3 z4 z5 z6 z7 z8 z9 z10 z11 zf zl
          obtain ⟨z0, z1, z2, z3, z4, z5, z6, z7, z8, z9, z10, z11, zf, zl⟩ := cl12 hX.out
          replace hA := Lib.hid ((hk2.block _ (lt_of_blk hA.out) (by simp)).trans hA.out)
          clear k0 k1 k2 k3 k4 k5 k6 k7 kf kl
          obtain ⟨k0, k1, k2, k3, k4, k5, k6, k7, kf, kl⟩ := cl8 hA.out
          replace hkA := Lib.hid (hkA.out.trans hk2)
          clear hk2
          clear f0 f1 f2
          have f0 := hkA.out.val (he.out 0 _ rfl)
          have f1 := hkA.out.val (he.out 1 _ rfl)
          have f2 := hkA.out.val (he.out 2 _ rfl)
          simp only [shT, Nat.add_zero] at f0 f1 f2
          have hxl : (encU y1).length ≤ 9 := encU_len r1
          have hc := refU_c w16 v16 l16 y1 hB.out r1 (by omega)
          obtain ⟨l17, hl17⟩ : ∃ y, l16 ++ encU y1 = y := ⟨_, rfl⟩
          have hn17 : l17.length ≤ (l16).length + 9 := by rw [← hl17, List.length_append]; omega
          rw [hl17] at hc
          replace hc := Lib.hid hc
          replace hl17 := Lib.hid hl17
          clear hxl
          go_wp2_with fail
          refine hc.out.mono ?_
          rintro e w17 ⟨v17, rfl, hB2, hk2⟩
          clear hc hB
          have hB := Lib.hid hB2.slB
          clear hB2
          replace hX := Lib.hid ((hk2.block _ (lt_of_blk hX.out) (by simp)).trans hX.out)
          clear z0 z1 z2 z3 z4 z5 z6 z7 z8 z9 z10 z11 zf zl
          obtain ⟨z0, z1, z2, z3, z4, z5, z6, z7, z8, z9, z10, z11, zf, zl⟩ := cl12 hX.out
          replace hA := Lib.hid ((hk2.block _ (lt_of_blk hA.out) (by simp)).trans hA.out)
          clear k0 k1 k2 k3 k4 k5 k6 k7 kf kl
          obtain ⟨k0, k1, k2, k3, k4, k5, k6, k7, kf, kl⟩ := cl8 hA.out
          replace hkA := Lib.hid (hkA.out.trans hk2)
          clear hk2
          clear f0 f1 f2
          have f0 := hkA.out.val (he.out 0 _ rfl)
          have f1 := hkA.out.val (he.out 1 _ rfl)
          have f2 := hkA.out.val (he.out 2 _ rfl)
          simp only [shT, Nat.add_zero] at f0 f1 f2
          have hxl : (encI y2).length ≤ 9 := encI_len r2
          have hc := refInt_c w17 v17 l17 y2 hB.out (w64_iff.1 r2) (by omega)
          obtain ⟨l18, hl18⟩ : ∃ y, l17 ++ encI y2 = y := ⟨_, rfl⟩
          have hn18 : l18.length ≤ (l17).length + 9 := by rw [← hl18, List.length_append]; omega
          rw [hl18] at hc
          replace hc := Lib.hid hc
          replace hl18 := Lib.hid hl18
          clear hxl
          go_wp2_with fail
          refine hc.out.mono ?_
          rintro e w18 ⟨v18, rfl, hB2, hk2⟩
          clear hc hB
          have hB := Lib.hid hB2
          clear hB2
          replace hX := Lib.hid ((hk2.block _ (lt_of_blk hX.out) (by simp)).trans hX.out)
          clear z0 z1 z2 z3 z4 z5 z6 z7 z8 z9 z10 z11 zf zl
          obtain ⟨z0, z1, z2, z3, z4, z5, z6, z7, z8, z9, z10, z11, zf, zl⟩ := cl12 hX.out
          replace hA := Lib.hid ((hk2.block _ (lt_of_blk hA.out) (by simp)).trans hA.out)
          clear k0 k1 k2 k3 k4 k5 k6 k7 kf kl
          obtain ⟨k0, k1, k2, k3, k4, k5, k6, k7, kf, kl⟩ := cl8 hA.out
          replace hkA := Lib.hid (hkA.out.trans hk2)
          clear hk2
          have hBn : SlB w18 v18 (l15 ++ encXs (a.ins.take (j + 1))) := by
            have e := hB.out
            rw [← hl18.out, ← hl17.out, ← hl16.out] at e
            rw [encXs_take _ _ hjI, hy.out]
            simpa [encX, List.append_assoc] using e
          replace hBn := Lib.hid hBn
          go_wp2
          go_roundw
          case rel => exact ⟨j + 1, rfl, by omega, hBn, hkA, hX, hA⟩
          case measure => simp [intOf]; omega
        · skip
          have hlj2 : ¬ ((j : Int) < e8) := by omega
          have hBn : SlB wr bv2 (l7 ++ encH (hist.take (k + 1))) := by
            have e := hB.out
            rw [List.take_of_length_le (by have := hNI.out; omega), ← hl15.out, ← hl14.out, ← hl13.out, ← hl12.out, ← hl11.out, ← hl10.out, ← hl9.out, ← hl8.out] at e
            rw [encH_take _ _ hkH, ha.out, hAe.out]
            simpa [List.append_assoc] using e
          replace hBn := Lib.hid hBn
          go_wp2
          go_roundw
          case rel => exact ⟨k + 1, rfl, by omega, hBn, hkA, hX⟩
          case measure => simp [intOf]; omega
    · skip
      have hlt2 : ¬ ((k : Int) < x18) := by omega
      have hkN : k = hist.length := by have := hXl.out; omega
      rw [hkN, List.take_length] at hB hlenr
      obtain ⟨le, hle⟩ : ∃ y, l7 ++ encH hist = y := ⟨_, rfl⟩
      rw [hle] at hB hlenr
      replace hle := Lib.hid hle
      replace hkN := Lib.hid hkN
      have hxl : (encU x14).length ≤ 9 := encU_len (by omega)
      have hc := refU_c wr bv le x14 hB.out (by omega) (by omega)
      obtain ⟨l19, hl19⟩ : ∃ y, le ++ encU x14 = y := ⟨_, rfl⟩
      have hn19 : l19.length ≤ (le).length + 9 := by rw [← hl19, List.length_append]; omega
      rw [hl19] at hc
      replace hc := Lib.hid hc
      replace hl19 := Lib.hid hl19
      clear hxl
      go_wp2_with fail
      refine hc.out.mono ?_
      rintro e w19 ⟨v19, rfl, hB2, hk2⟩
      clear hc hB
      have hB := Lib.hid hB2.slB
      clear hB2
      replace hX := Lib.hid ((hk2.block _ (lt_of_blk hX.out) (by simp)).trans hX.out)
      clear z0 z1 z2 z3 z4 z5 z6 z7 z8 z9 z10 z11 zf zl
      obtain ⟨z0, z1, z2, z3, z4, z5, z6, z7, z8, z9, z10, z11, zf, zl⟩ := cl12 hX.out
      replace hkA := Lib.hid (hkA.out.trans hk2)
      clear hk2
      have hxl : (encB x16).length ≤ 9 := (by simp [encB])
      have hc := refB_c w19 v19 l19 x16 hB.out  (by omega)
      obtain ⟨l20, hl20⟩ : ∃ y, l19 ++ encB x16 = y := ⟨_, rfl⟩
      have hn20 : l20.length ≤ (l19).length + 9 := by rw [← hl20, List.length_append]; omega
      rw [hl20] at hc
      replace hc := Lib.hid hc
      replace hl20 := Lib.hid hl20
      clear hxl
      go_wp2_with fail
      refine hc.out.mono ?_
      rintro e w20 ⟨v20, rfl, hB2, hk2⟩
      clear hc hB
      have hB := Lib.hid hB2
      clear hB2
      replace hX := Lib.hid ((hk2.block _ (lt_of_blk hX.out) (by simp)).trans hX.out)
      clear z0 z1 z2 z3 z4 z5 z6 z7 z8 z9 z10 z11 zf zl
      obtain ⟨z0, z1, z2, z3, z4, z5, z6, z7, z8, z9, z10, z11, zf, zl⟩ := cl12 hX.out
      replace hkA := Lib.hid (hkA.out.trans hk2)
      clear hk2
      go_wp2
      go_ret
      refine ⟨_, rfl, ?_, hkA.out⟩
      have e := hB.out
      rw [hfin.out l20 (by rw [← hl20.out, ← hl19.out, ← hle.out, ← hl7.out, ← hl6.out, ← hl5.out, ← hl4.out, ← hl3.out, ← hl2.out, ← hl1.out]; simp [List.append_assoc])] at e
      exact e
end Go.Proofs.Ythfdngjbcgkkfaa

namespace Go.Proofs.Ythfdngjbcgkkfaa
open Go.RowKit

theorem Op3.step_id (o : Op3) (t : Tr) : (o.step t).im = t.im ∧ (o.step t).is = t.is ∧ (o.step t).st = t.st := by
  have ha : ∀ a : Ans, (t.answer a).1.im = t.im ∧ (t.answer a).1.is = t.is ∧ (t.answer a).1.st = t.st := fun a => by
    unfold Tr.answer
    split
    · exact ⟨rfl, rfl, rfl⟩
    split
    · exact ⟨rfl, rfl, rfl⟩
    split
    · exact ⟨rfl, rfl, rfl⟩
    split
    · exact ⟨rfl, rfl, rfl⟩
    split
    · exact ⟨rfl, rfl, rfl⟩
    unfold Tr.close
    split <;> exact ⟨rfl, rfl, rfl⟩
  unfold Op3.step
  split
  · exact ha _
  split
  · unfold Tr.queries; split <;> exact ⟨rfl, rfl, rfl⟩
  split
  · unfold Tr.agreeT
    split
    · exact ⟨rfl, rfl, rfl⟩
    split
    · split <;> exact ⟨rfl, rfl, rfl⟩
    · exact ⟨rfl, rfl, rfl⟩
  split
  · unfold Tr.refuseT
    split
    · exact ⟨rfl, rfl, rfl⟩
    split
    · split <;> exact ⟨rfl, rfl, rfl⟩
    · exact ⟨rfl, rfl, rfl⟩
  · exact ⟨rfl, rfl, rfl⟩
theorem Tr.Num.step {t : Tr} (h : t.Num) (o : Op3) : (o.step t).Num := by
  obtain ⟨e1, e2, e3⟩ := o.step_id t
  exact ⟨e1 ▸ h.im, e2 ▸ h.is, by rw [e3]; exact h.s0, by rw [e3]; exact h.s1, by rw [e3]; exact h.s2⟩
end Go.Proofs.Ythfdngjbcgkkfaa

namespace Go.Proofs.Ythfdngjbcgkkfaa
open Go.RowKit Go.ChangeShapes

set_option maxRecDepth 100000 in
set_option maxHeartbeats 1000000 in
theorem bsame_c (w : World) (va vb : Value) (l m : List UInt8) (ha : SlB w va l) (hb : SlB w vb m) :
    Calls Try.prog 26 #[va, vb] w fun e w' => e = .returned (.bool (decide (l = m))) ∧ w = w' := by
  have h1 := run_str ha
  have h2 := run_str hb
  obtain ⟨a0, c0, rfl⟩ := ha.form
  obtain ⟨a1, c1, rfl⟩ := hb.form
  clear ha hb
  generalize hx : str l = x at *
  generalize hy : str m = y at *
  replace hx := Lib.hid hx
  replace hy := Lib.hid hy
  go_enter Try.func26, Try.ntmps26
  go_wp2
  go_ret
  refine ⟨?_, rfl⟩
  show Ending.returned (Value.bool (x.toList == y.toList)) = _
  rw [← hx.out, ← hy.out]
  have : (l == m) = decide (l = m) := by rw [Bool.eq_iff_iff]; simp
  simp [str, this]
end Go.Proofs.Ythfdngjbcgkkfaa

namespace Go.Proofs.Ythfdngjbcgkkfaa
open Go Go.RowKit

set_option maxRecDepth 100000 in
set_option maxHeartbeats 20000000 in
theorem operations_w (w : World) (im is : Int) (st : T3) (vO : Value) (L : List Op3) (h1 : W64 im) (h2 : W64 is) (hst : W64 st.1 ∧ st.2.1 < 18446744073709551616 ∧ W64 st.2.2) (hL : LO w vO L) :
    Calls Try.prog 7 #[idV im is, tV st, vO] w fun e w' => e = .returned (.bool true) ∧ Keeps [] w w' := by
  obtain ⟨ao, co, rfl, hlo, hco, _⟩ := Gen.SlR.form hL
  have hfew := fun (W : World) (hk : Keeps [] w W) => few_c W _ L (hL.keeps hk)
  have helo := fun (W : World) (hk : Keeps [] w W) (k : Nat) (hk2 : k < L.length) => (hL.keeps hk).elem hk2
  obtain ⟨NL, hNL⟩ : ∃ n, L.length = n := ⟨_, rfl⟩
  have hNm : NL ≤ 9223372036854775807 := by unfold Go.maxLen at hco; omega
  rw [hNL] at hlo hfew ⊢
  obtain ⟨s0, s1, s2⟩ := st
  obtain ⟨hb3, hb4, hkA, hzA⟩ := blks2 w (.cells #[.int .i64 im, .int .i64 is] 23) (.cells #[.int .i64 s0, .int .u64 s1, .int .i64 s2] tN)
  obtain ⟨WA, hWA⟩ : ∃ W, ((w.alloc (.cells #[.int .i64 im, .int .i64 is] 23)).alloc (.cells #[.int .i64 s0, .int .u64 s1, .int .i64 s2] tN)) = W := ⟨_, rfl⟩
  rw [hWA] at hb3 hb4 hkA hzA
  obtain ⟨fb, hfb⟩ : ∃ b, fewB L = b := ⟨_, rfl⟩
  simp only [hfb] at hfew
  replace hb3 := Lib.hid hb3
  replace hb4 := Lib.hid hb4
  replace hkA := Lib.hid hkA
  replace hzA := Lib.hid hzA
  replace hWA := Lib.hid hWA
  replace hfew := Lib.hid hfew
  replace helo := Lib.hid helo
  replace hNL := Lib.hid hNL
  replace hfb := Lib.hid hfb
  replace hst := Lib.hid hst
  replace h1 := Lib.hid h1
  replace h2 := Lib.hid h2
  replace hL := Lib.hid hL
  simp only [tV]
  go_enter Try.func7, Try.ntmps7
  go_wp2_with fail
  rw [hWA.out]
  refine (awake_c WA).mono ?_
  rintro e w1 ⟨rfl, hk1⟩
  have hkw1 := Lib.hid (hkA.out.trans hk1)
  replace hk1 := Lib.hid hk1
  go_wp2_with fail
  refine (hfew.out _ hkw1.out).mono ?_
  rintro e w2 ⟨rfl, hk2⟩
  replace hk1 := Lib.hid (hk1.out.trans hk2)
  have hkw2 := Lib.hid (hkA.out.trans hk1.out)
  clear hk2 hkw1
  cases fb with
  | false =>
    go_wp2_with fail
    refine (awake_c w2).mono ?_
    rintro e w3 ⟨rfl, hk3⟩
    have hkf := Lib.hid (hkw2.out.trans hk3)
    go_wp2
    go_ret
    exact ⟨rfl, hkf.out⟩
  | true =>
    have hb5 : (∀ j (hj : j < L.length), L[j].a.ins.length ≤ 5) ∧ NL ≤ 30 := by
      have h := hfb.out
      unfold fewB at h
      rw [Bool.and_eq_true] at h
      exact ⟨fun j hj => by have := List.all_eq_true.1 h.1 _ (List.getElem_mem hj); simpa using this, by have := h.2; rw [hNL.out] at this; simpa using this⟩
    replace hb5 := Lib.hid hb5
    clear hfew
    replace hb3 := Lib.hid ((hk1.out.block _ (lt_of_blk hb3.out) (by simp)).trans hb3.out)
    replace hb4 := Lib.hid ((hk1.out.block _ (lt_of_blk hb4.out) (by simp)).trans hb4.out)
    obtain ⟨i0, i1, if', il⟩ := cl2 hb3.out
    obtain ⟨n0, n1, n2, nf, nl⟩ := cl3 hb4.out
    go_upto_region 3 with fail
    have hb3d := Lib.hid (show w2.drew.heap[w.heap.size]? = _ from hb3.out)
    have hb4d := Lib.hid (show w2.drew.heap[w.heap.size + 1]? = _ from hb4.out)
    have hdz : w2.drew.heap.size = w2.heap.size := rfl
    refine FreeO.wp_region_free (by kernel_rfl) (by kernel_rfl) (fun i => i == 2 || i == 5 || i == 6 || i == 8) (RgF w2.drew.heap.size im is (s0, s1, s2) 8) (fun k => TR w2.drew.heap.size 8 k) RgK (RgF.agree (by kernel_rfl)) (fun i k a v w w' h1 h2 h3 _ => RgF.stable i k a v w w' h1 h2 h3 trivial) ?_
    apply FreeO.walk_quiet rfl rfl
    · intro w' hg hf
      clear hf
      have g0 := hg.cell hb3d.out (by intro h; obtain ⟨k, _, _, _, hB, _⟩ := h; omega) i0
      have g1 := hg.cell hb3d.out (by intro h; obtain ⟨k, _, _, _, hB, _⟩ := h; omega) i1
      go_simp <;> exact rfl
    apply FreeO.walk_quiet rfl rfl
    · intro w' hg hf
      clear hf
      have g0 := hg.cell hb4d.out (by intro h; obtain ⟨k, _, _, _, hB, _⟩ := h; omega) n0
      have g1 := hg.cell hb4d.out (by intro h; obtain ⟨k, _, _, _, hB, _⟩ := h; omega) n1
      have g2 := hg.cell hb4d.out (by intro h; obtain ⟨k, _, _, _, hB, _⟩ := h; omega) n2
      go_simp <;> exact rfl
    apply FreeO.walk_loud rfl rfl
    · intro w' hg hf
      have hB := hg.size
      clear hf hg
      go_simp
      refine (new_c w' im is (s0, s1, s2) h1.out hst.out.1 hst.out.2.1).mono ?_
      rintro e w3 ⟨bt, bm, vo, rfl, hT, hk⟩
      exact ⟨_, rfl, ⟨fun _ => ⟨bt, bm, vo, rfl, hT.lowB hB⟩, fun h => absurd h (by decide), fun h => absurd h (by decide), fun h => absurd h (by decide)⟩, FreeO.KeepsO.of hk (by simp)⟩
    intro v2
    apply FreeO.walk_quiet rfl rfl
    · intro w' hg hf
      clear hf
      have g0 := hg.cell hb3d.out (by intro h; obtain ⟨k, _, _, _, hB, _⟩ := h; omega) i0
      have g1 := hg.cell hb3d.out (by intro h; obtain ⟨k, _, _, _, hB, _⟩ := h; omega) i1
      go_simp <;> exact rfl
    apply FreeO.walk_quiet rfl rfl
    · intro w' hg hf
      clear hf
      have g0 := hg.cell hb4d.out (by intro h; obtain ⟨k, _, _, _, hB, _⟩ := h; omega) n0
      have g1 := hg.cell hb4d.out (by intro h; obtain ⟨k, _, _, _, hB, _⟩ := h; omega) n1
      have g2 := hg.cell hb4d.out (by intro h; obtain ⟨k, _, _, _, hB, _⟩ := h; omega) n2
      go_simp <;> exact rfl
    apply FreeO.walk_loud rfl rfl
    · intro w' hg hf
      have hB := hg.size
      clear hf hg
      go_simp
      refine (newR2_c w' im is (s0, s1, s2)).mono ?_
      rintro e w3 ⟨xo, xa, rfl, hO, hA, hk⟩
      exact ⟨_, rfl, ⟨fun h => absurd h (by decide), fun _ => ⟨xo, xa, rfl, hO.lowB hB, hA.lowB hB⟩, fun h => absurd h (by decide), fun h => absurd h (by decide)⟩, FreeO.KeepsO.of hk (by simp)⟩
    intro v5
    apply FreeO.walk_loud rfl rfl
    · intro w' hg hf
      have hB := hg.size
      have hn := heap_alloc_new w' (.cells #[.int .i64 0, .int .i64 0, .int .i64 0, .int .u64 0, .int .i64 0, .int .i64 0, .slice none 0 0, .slice none 0 0, .int .i64 0, .slice none 0 0, .bool false, .slice none 0 0] tR)
      clear hf hg
      go_simp
      exact ⟨⟨fun h => absurd h (by decide), fun h => absurd h (by decide), fun _ => ⟨_, rfl, hB, hn⟩, fun h => absurd h (by decide)⟩, FreeO.KeepsO.of ((Keeps.refl [] w').alloc _) (by simp)⟩
    intro v6
    apply FreeO.walk_quiet rfl rfl
    · intro w' hg hf
      clear hf
      go_simp <;> exact rfl
    apply FreeO.walk_loud rfl rfl
    · intro w' hg hf
      have h5 := hf 5 (by decide) (by kernel_rfl)
      have h6 := hf 6 (by decide) (by kernel_rfl)
      clear hf hg
      obtain ⟨xo, xa, e5, hO, hA⟩ := (show RgF _ _ _ _ _ 5 _ v5 w' from by simpa using h5).2.1 rfl
      obtain ⟨p, e6, hp, hp3⟩ := (show RgF _ _ _ _ _ 6 _ v6 w' from by simpa using h6).2.2.1 rfl
      clear h5 h6
      subst e5 e6
      obtain ⟨o0, o1, o2⟩ := xo
      obtain ⟨a0, a1, a2⟩ := xa
      obtain ⟨e0, e1, e2, e3, e4, e5, e6, e7, e8, e9, e10, e11, ef, el⟩ := cl12 hp3
      have hsc := sc12 (.int .i64 im) (.int .i64 is) (.int .i64 s0) (.int .u64 s1) (.int .i64 s2) (.int .i64 0) (.slice o0 o1 o2) (.slice a0 a1 a2) (.int .i64 0) (.slice none 0 0) (.bool false) (.slice none 0 0) hp3
      have hO' := hO.keepO (B := w2.drew.heap.size) (k := 8) (q := 8) (FreeO.KeepsO.of hsc.2 (fun b hb o ho => by simp only [List.mem_singleton] at hb; subst hb; rw [hp3] at ho; cases ho; exact ⟨rfl, hp, _, _, rfl⟩)) (by decide)
      have hA' := hA.keepO (B := w2.drew.heap.size) (k := 8) (q := 8) (FreeO.KeepsO.of hsc.2 (fun b hb o ho => by simp only [List.mem_singleton] at hb; subst hb; rw [hp3] at ho; cases ho; exact ⟨rfl, hp, _, _, rfl⟩)) (by decide)
      have hK' : FreeO.KeepsO (TR w2.drew.heap.size 8 8) w' _ := FreeO.KeepsO.of hsc.2 (fun b hb o ho => by simp only [List.mem_singleton] at hb; subst hb; rw [hp3] at ho; cases ho; exact ⟨rfl, hp, _, _, rfl⟩)
      have hs1 := hsc.1
      clear hsc
      replace hO' := Lib.hid hO'
      replace hA' := Lib.hid hA'
      replace hK' := Lib.hid hK'
      replace hs1 := Lib.hid hs1
      simp only [rfV, rf0, slv]
      go_simp
      exact ⟨⟨fun h => absurd h (by decide), fun h => absurd h (by decide), fun h => absurd h (by decide), fun _ => ⟨p, (o0, o1, o2), (a0, a1, a2), rfl, hp, hs1.out, hO'.out, hA'.out⟩⟩, hK'.out⟩
    intro v8
    refine FreeO.walk_nil ?_
    intro wF hg hf
    have h2' := hf 2 (by decide) (by kernel_rfl)
    have h8' := hf 8 (by decide) (by kernel_rfl)
    clear hf
    obtain ⟨bt, bm, vo, e2, hT⟩ := (show RgF _ _ _ _ _ 2 _ v2 wF from by simpa using h2').1 rfl
    obtain ⟨p, xo, xa, e8, hp, hbp, hO, hA⟩ := (show RgF _ _ _ _ _ 8 _ v8 wF from by simpa using h8').2.2.2 rfl
    simp [Act.put] at e8
    subst e2 e8
    clear h2' h8'
    have hkF : Keeps [] w2 wF := ((Keeps.refl [] w2).drew).trans (hg.to (fun b o h => by obtain ⟨k, _, h, _⟩ := h; exact h))
    clear hg
    obtain ⟨o0, o1, o2⟩ := xo
    obtain ⟨a0, a1, a2⟩ := xa
    have hB0 := Both.start hT hO hA
    have hk0 := hkw2.out.trans hkF
    have hnp : ∀ b ∈ blks (rf0 im is (s0, s1, s2) (o0, o1, o2) (a0, a1, a2)), b ≠ p := fun b hb e => by
      subst e
      rcases mem_blks.1 hb with h | h | h | h
      · obtain ⟨cs, hc⟩ := hO.tag _ h
        rw [hc] at hbp; cases hbp
      · obtain ⟨cs, hc⟩ := hA.tag _ h
        rw [hc] at hbp; cases hbp
      · simp [rf0, Value.ownBlock] at h
      · simp [rf0, Value.ownBlock] at h
    have hBs : w.heap.size ≤ w2.heap.size := hkw2.out.size
    have hpB : w2.heap.size ≤ p := hp
    replace hb3 := Lib.hid ((hkF.block _ il (by simp)).trans hb3.out)
    replace hb4 := Lib.hid ((hkF.block _ nl (by simp)).trans hb4.out)
    have hbd0 := Tr.Bnd.new im is (s0, s1, s2)
    have hnum0 : (Tr.new im is (s0, s1, s2)).Num := ⟨h1.out, h2.out, hst.out.1, hst.out.2.1, hst.out.2.2⟩
    clear i0 i1 if' il n0 n1 n2 nf nl hT hO hA hkF hp hk1 hkw2 hkA hWA hzA hdz hb3d hb4d
    generalize w2.heap.size = B at *
    simp only at hbp
    obtain ⟨e0, e1, e2, e3, e4, e5, e6, e7, e8, e9, e10, e11, ef, el⟩ := cl12 hbp
    replace hbp := Lib.hid hbp
    replace hk0 := Lib.hid hk0
    replace hB0 := Lib.hid hB0
    replace hnp := Lib.hid hnp
    replace hbd0 := Lib.hid hbd0
    replace hnum0 := Lib.hid hnum0
    go_frame
    have hsm := same_c wF B bt bm vo _ _ _ _ 0 hB0.out hbd0.out (by omega)
    simp only [rfV, rf0, slv] at hsm
    replace hsm := Lib.hid hsm
    go_wp2_with fail
    refine hsm.out.mono ?_
    rintro e w4 ⟨rfl, hk4⟩
    replace hB0 := Lib.hid (hB0.out.keeps hk4)
    replace hk0 := Lib.hid (hk0.out.trans hk4)
    replace hbp := Lib.hid ((hk4.block _ el (by simp)).trans hbp.out)
    clear hsm hk4 e0 e1 e2 e3 e4 e5 e6 e7 e8 e9 e10 e11 ef el
    go_wp2
    go_loopw [37] (fun iv wr => ∃ (k : Nat) (vo vh vg : Value) (x : RfV), iv = .int .i64 k ∧ k ≤ NL ∧ Hid (Both wr B bt bm vo vh vg x (runT (L.take k) (Tr.new im is (s0, s1, s2)))) ∧ Hid (wr.heap[p]? = some (.cells x.cs.toArray tR (0, 0))) ∧ Hid (∀ b ∈ blks x, b ≠ p) ∧ Hid ((runT (L.take k) (Tr.new im is (s0, s1, s2))).Bnd k) ∧ Hid ((runT (L.take k) (Tr.new im is (s0, s1, s2))).Num) ∧ Hid (Keeps [] w wr)) (fun iv _ => NL - (intOf iv).toNat)
    case atStart => exact ⟨0, vo, _, _, _, rfl, by omega, hB0, hbp, hnp, hbd0, hnum0, hk0⟩
    case round =>
      clear hB0 hbp hnp hbd0 hnum0 hk0
      obtain ⟨k, vo, vh, vg, x, rfl, hk, hB, hbp, hnp, hbd, hnum, hkr⟩ := hrel
      by_cases hlt : k < NL
      · skip
        have hlt2 : (k : Int) < NL := by omega
        have hNL30 : NL ≤ 30 := hb5.out.2
        have hkL : k < L.length := by rw [hNL.out]; exact hlt
        obtain ⟨g, of, c', y, hv, hIR, hFit, f0, f1, f2, f3, f4, f5, f6, f7, f8, f9, f10⟩ := hL.out.elem hkL
        rw [hNL.out] at hv
        cases hv
        have hrun := runT_take L (Tr.new im is (s0, s1, s2)) k hkL
        have h5 := hb5.out.1 k hkL
        have hin := InR.lt hIR
        obtain ⟨⟨ok, oi, on, oa⟩, ho⟩ : ∃ o, L[k] = o := ⟨_, rfl⟩
        rw [ho] at hIR hFit f0 f1 f2 hrun h5 hin
        obtain ⟨y0, y1, y2, y3, y4, y5, y6, y7, y8, y9⟩ := y
        simp only [AnV.v] at f3 f4 f5 f6 f7 f8 f9 f10 hin
        have hkw := hkr.out
        replace f0 := hkw.val f0
        replace f1 := hkw.val f1
        replace f2 := hkw.val f2
        replace f3 := hkw.val f3
        replace f4 := hkw.val f4
        replace f5 := hkw.val f5
        replace f6 := hkw.val f6
        replace f7 := hkw.val f7
        replace f8 := hkw.val f8
        replace f9 := hkw.val f9
        replace f10 := hkw.val f10
        have hbO := heap_alloc_new wr (.cells #[.int .u8 ok, .int .i64 oi, .bool on, .int .i64 y0, .int .i64 y1, .int .u64 y2, .int .i64 y3, .bool y4, .bool y5, .int .i64 y6, .slice y7 y8 y9] tOp)
        have hkM := (Keeps.refl [] wr).alloc (.cells #[.int .u8 ok, .int .i64 oi, .bool on, .int .i64 y0, .int .i64 y1, .int .u64 y2, .int .i64 y3, .bool y4, .bool y5, .int .i64 y6, .slice y7 y8 y9] tOp)
        have hBM := hB.out.keeps hkM
        have hbpM := (hkM.block _ (lt_of_blk hbp.out) (by simp)).trans hbp.out
        have hkrM := hkr.out.trans hkM
        have hst := step_c (wr.alloc (.cells #[.int .u8 ok, .int .i64 oi, .bool on, .int .i64 y0, .int .i64 y1, .int .u64 y2, .int .i64 y3, .bool y4, .bool y5, .int .i64 y6, .slice y7 y8 y9] tOp)) B bt bm vo vh vg x _ k ⟨ok, oi, on, oa⟩ ⟨y0, y1, y2, y3, y4, y5, y6, y7, y8, y9⟩ hBM hbd.out (by omega) (hIR.keeps hkrM) hFit h5 (fun b hne e => Nat.lt_of_lt_of_le (hin hne b e) hBs)
        obtain ⟨x0, x1, x2, x3, x4, x5, ⟨x6, x7, x8⟩, ⟨x9, x10, x11⟩, x12, ⟨x13, x14, x15⟩, x16, ⟨x17, x18, x19⟩⟩ := x
        simp only [rfV, slv, opV, AnV.v] at hst
        simp only [RfV.cs, slv, List.toArray] at hbp hbpM
        replace hst := Lib.hid hst
        replace hbO := Lib.hid hbO
        replace hbpM := Lib.hid hbpM
        replace hkrM := Lib.hid hkrM
        replace hrun := Lib.hid hrun
        replace ho := Lib.hid ho
        replace hBM := Lib.hid hBM
        clear hIR hFit hin h5 hkM hB hkr hkw
        obtain ⟨e0, e1, e2, e3, e4, e5, e6, e7, e8, e9, e10, e11, ef, el⟩ := cl12 hbp.out
        go_upto_region 9 with fail
        generalize (wr.alloc (.cells #[.int .u8 ok, .int .i64 oi, .bool on, .int .i64 y0, .int .i64 y1, .int .u64 y2, .int .i64 y3, .bool y4, .bool y5, .int .i64 y6, .slice y7 y8 y9] tOp)) = W1 at *
        obtain ⟨XO, hXO⟩ : ∃ X, wr.heap.size = X := ⟨_, rfl⟩
        rw [hXO] at hbO ⊢
        replace hXO := Lib.hid hXO
        clear f0 f1 f2 f3 f4 f5 f6 f7 f8 f9 f10 hbp e0 e1 e2 e3 e4 e5 e6 e7 e8 e9 e10 e11 ef el
        have hbp := hbpM
        clear hbpM
        obtain ⟨e0, e1, e2, e3, e4, e5, e6, e7, e8, e9, e10, e11, ef, el⟩ := cl12 hbp.out
        obtain ⟨r0, r1, r2, r3, r4, r5, r6, r7, r8, r9, r10, rf, rl⟩ := cl11 hbO.out
        go_wp2_with fail
        refine hst.out.mono ?_
        rintro e w5 ⟨xs, vo', vh', vg', rfl, hB5, hM5, hF5⟩
        have hown : ∀ b ∈ ownT bt bm vo vh vg, B ≤ b := fun b hb => (hBM.out.m.own_tag hb).1
        have hpo : p ∉ ownT bt bm vo vh vg := fun hm => by
          obtain ⟨_, _, ht⟩ := hBM.out.m.own_tag hm
          rcases ht with ⟨es, c, h⟩ | ⟨cs, e, h, he⟩
          · rw [hbp.out] at h; cases h
          · rw [hbp.out] at h
            cases h
            rcases he with he | he | he | he <;> exact absurd he (by decide)
        have hbp5 := (hM5.k.block _ el hpo).trans hbp.out
        have hnp5 : ∀ b ∈ blks xs, b ≠ p := fun b hb e => by
          rcases hF5 b hb with h | h
          · exact hnp.out b h e
          · omega
        have hkr5 : Keeps [] w w5 := hkrM.out.fresh hM5.k (fun b hb => .inr (Nat.le_trans hBs (hown b hb)))
        have hbd5 : (runT (L.take (k + 1)) (Tr.new im is (s0, s1, s2))).Bnd (k + 1) := by
          rw [hrun.out]
          exact Op3.step_bnd hbd.out hBM.out.m.inv hB5.m.inv (by have := hb5.out.1 k hkL; rw [ho.out] at this; exact this)
        have hnum5 : (runT (L.take (k + 1)) (Tr.new im is (s0, s1, s2))).Num := by
          rw [hrun.out]
          exact hnum.out.step _
        rw [← hrun.out] at hB5
        obtain ⟨m0, m1, m2, m3, m4, m5, ⟨m6, m7, m8⟩, ⟨m9, m10, m11⟩, m12, ⟨m13, m14, m15⟩, m16, ⟨m17, m18, m19⟩⟩ := xs
        simp only [rfV, slv]
        replace hbp5 := Lib.hid hbp5
        replace hnp5 := Lib.hid hnp5
        replace hkr5 := Lib.hid hkr5
        replace hbd5 := Lib.hid hbd5
        replace hnum5 := Lib.hid hnum5
        replace hB5 := Lib.hid hB5
        clear hst hM5 hF5 hown hpo hbp hBM hkrM hbd hnum hnp e0 e1 e2 e3 e4 e5 e6 e7 e8 e9 e10 e11 ef el r0 r1 r2 r3 r4 r5 r6 r7 r8 r9 r10 rf rl
        have hbV := heap_alloc_new w5 (.cells #[.int .i64 m0, .int .i64 m1, .int .i64 m2, .int .u64 m3, .int .i64 m4, .int .i64 m5, .slice m6 m7 m8, .slice m9 m10 m11, .int .i64 m12, .slice m13 m14 m15, .bool m16, .slice m17 m18 m19] tR)
        have hkM := (Keeps.refl [] w5).alloc (.cells #[.int .i64 m0, .int .i64 m1, .int .i64 m2, .int .u64 m3, .int .i64 m4, .int .i64 m5, .slice m6 m7 m8, .slice m9 m10 m11, .int .i64 m12, .slice m13 m14 m15, .bool m16, .slice m17 m18 m19] tR)
        replace hB5 := Lib.hid (hB5.out.keeps hkM)
        replace hbp5 := Lib.hid ((hkM.block _ (lt_of_blk hbp5.out) (by simp)).trans hbp5.out)
        replace hkr5 := Lib.hid (hkr5.out.trans hkM)
        replace hbV := Lib.hid hbV
        clear hkM
        go_upto_region 10 with fail
        generalize (w5.alloc (.cells #[.int .i64 m0, .int .i64 m1, .int .i64 m2, .int .u64 m3, .int .i64 m4, .int .i64 m5, .slice m6 m7 m8, .slice m9 m10 m11, .int .i64 m12, .slice m13 m14 m15, .bool m16, .slice m17 m18 m19] tR)) = W5 at *
        obtain ⟨XV, hXV⟩ : ∃ X, w5.heap.size = X := ⟨_, rfl⟩
        rw [hXV] at hbV ⊢
        replace hXV := Lib.hid hXV
        have hbVd : W5.drew.heap[XV]? = _ := hbV.out
        have hbpd : W5.drew.heap[p]? = _ := hbp5.out
        have hBd := hB5.out.keeps (Keeps.refl [] W5).drew
        have hkd := hkr5.out.drew
        obtain ⟨j0, j1, j2, j3, j4, j5, j6, j7, j8, j9, j10, j11, jf, jl⟩ := cl12 hbVd
        replace hbVd := Lib.hid hbVd
        replace hbpd := Lib.hid hbpd
        replace hBd := Lib.hid hBd
        replace hkd := Lib.hid hkd
        clear hbV hbp5 hB5 hkr5
        refine Free.wp_region_chain (fun i => i == 5 || i == 10 || i == 12 || i == 13) (fun i => true) (fun _ _ => False) (by kernel_rfl) (by kernel_rfl) (by kernel_rfl) ?_
        generalize W5.drew = wd at *
        obtain ⟨tn, htn1, htn2⟩ := hbd5.out.tl
        have hqs := hbd5.out.qs
        have hhl := hbd5.out.hl
        have hal := hbd5.out.ag
        have hhi : ∀ a ∈ (runT (L.take (k + 1)) (Tr.new im is (s0, s1, s2))).hist, a.ins.length ≤ 1000 := fun a ha => by have := hbd5.out.hi a ha; omega
        have hc1 := same_c wd B bt bm vo' vh' vg' _ _ (k + 1) hBd.out hbd5.out (by omega)
        have hc2 := fun (W : World) (hk : Keeps [] wd W) => encode_c W B bt bm vo' vh' vg' _ tn (hBd.out.m.keeps hk) hnum5.out htn1 (by omega) (by omega) hhi (by omega)
        have hc3 := fun (W : World) (hk : Keeps [] wd W) => encodeR_c W _ _ tn (hBd.out.r.keeps hk) hBd.out.m.inv hnum5.out htn1 (by omega) (by omega) hhi (by omega)
        simp only [rfV, slv] at hc1 hc3
        replace hc1 := Lib.hid hc1
        replace hc2 := Lib.hid hc2
        replace hc3 := Lib.hid hc3
        clear hhi hqs hhl hal htn1 htn2
        (repeat (first | (apply Free.cw_pureW rfl rfl; (intro w'; go_simp <;> exact rfl); go_frame) | (apply Free.cw_steadyW rfl rfl rfl; (intro w' hS; have q0 := Free.sx_cell hS j0 (fun _ _ hT => hT); have q1 := Free.sx_cell hS j1 (fun _ _ hT => hT); have q2 := Free.sx_cell hS j2 (fun _ _ hT => hT); have q3 := Free.sx_cell hS j3 (fun _ _ hT => hT); have q4 := Free.sx_cell hS j4 (fun _ _ hT => hT); have q5 := Free.sx_cell hS j5 (fun _ _ hT => hT); have q6 := Free.sx_cell hS j6 (fun _ _ hT => hT); have q7 := Free.sx_cell hS j7 (fun _ _ hT => hT); have q8 := Free.sx_cell hS j8 (fun _ _ hT => hT); have q9 := Free.sx_cell hS j9 (fun _ _ hT => hT); have q10 := Free.sx_cell hS j10 (fun _ _ hT => hT); have q11 := Free.sx_cell hS j11 (fun _ _ hT => hT); go_simp <;> exact rfl); go_frame) | (refine Free.cw_skip rfl ?_; go_frame)))
        refine Free.cw_loudW rfl rfl (fun K hK => ?_)
        go_wp2_with fail
        refine hc1.out.mono ?_
        rintro e w6 ⟨rfl, hk6⟩
        refine hK _ _ rfl (Free.KeepsP.of hk6 (by simp)) ?_
        clear hK K
        clear hc1
        have hk1 := hk6
        have hbVz := (hk6.block _ (lt_of_blk hbVd.out) (by simp)).trans hbVd.out
        have hbpz := (hk6.block _ (lt_of_blk hbpd.out) (by simp)).trans hbpd.out
        replace hk1 := Lib.hid hk1
        replace hbVz := Lib.hid hbVz
        replace hbpz := Lib.hid hbpz
        clear hk6
        (repeat (first | (apply Free.cw_pureW rfl rfl; (intro w'; go_simp <;> exact rfl); go_frame) | (apply Free.cw_steadyW rfl rfl rfl; (intro w' hS; have q0 := Free.sx_cell hS j0 (fun _ _ hT => hT); have q1 := Free.sx_cell hS j1 (fun _ _ hT => hT); have q2 := Free.sx_cell hS j2 (fun _ _ hT => hT); have q3 := Free.sx_cell hS j3 (fun _ _ hT => hT); have q4 := Free.sx_cell hS j4 (fun _ _ hT => hT); have q5 := Free.sx_cell hS j5 (fun _ _ hT => hT); have q6 := Free.sx_cell hS j6 (fun _ _ hT => hT); have q7 := Free.sx_cell hS j7 (fun _ _ hT => hT); have q8 := Free.sx_cell hS j8 (fun _ _ hT => hT); have q9 := Free.sx_cell hS j9 (fun _ _ hT => hT); have q10 := Free.sx_cell hS j10 (fun _ _ hT => hT); have q11 := Free.sx_cell hS j11 (fun _ _ hT => hT); go_simp <;> exact rfl); go_frame) | (refine Free.cw_skip rfl ?_; go_frame)))
        refine Free.cw_loudW rfl rfl (fun K hK => ?_)
        go_wp2_with fail
        refine (hc2.out _ hk1.out).mono ?_
        rintro e w7 ⟨v7, rfl, hB7, hk6⟩
        refine hK _ _ rfl (Free.KeepsP.of hk6 (by simp)) ?_
        clear hK K
        replace hk1 := Lib.hid (hk1.out.trans hk6)
        replace hbVz := Lib.hid ((hk6.block _ (lt_of_blk hbVz.out) (by simp)).trans hbVz.out)
        replace hbpz := Lib.hid ((hk6.block _ (lt_of_blk hbpz.out) (by simp)).trans hbpz.out)
        clear hc2
        have hb7 := hB7.slB
        clear hB7
        replace hb7 := Lib.hid hb7
        clear hk6
        (repeat (first | (apply Free.cw_pureW rfl rfl; (intro w'; go_simp <;> exact rfl); go_frame) | (apply Free.cw_steadyW rfl rfl rfl; (intro w' hS; have q0 := Free.sx_cell hS j0 (fun _ _ hT => hT); have q1 := Free.sx_cell hS j1 (fun _ _ hT => hT); have q2 := Free.sx_cell hS j2 (fun _ _ hT => hT); have q3 := Free.sx_cell hS j3 (fun _ _ hT => hT); have q4 := Free.sx_cell hS j4 (fun _ _ hT => hT); have q5 := Free.sx_cell hS j5 (fun _ _ hT => hT); have q6 := Free.sx_cell hS j6 (fun _ _ hT => hT); have q7 := Free.sx_cell hS j7 (fun _ _ hT => hT); have q8 := Free.sx_cell hS j8 (fun _ _ hT => hT); have q9 := Free.sx_cell hS j9 (fun _ _ hT => hT); have q10 := Free.sx_cell hS j10 (fun _ _ hT => hT); have q11 := Free.sx_cell hS j11 (fun _ _ hT => hT); go_simp <;> exact rfl); go_frame) | (refine Free.cw_skip rfl ?_; go_frame)))
        refine Free.cw_loudW rfl rfl (fun K hK => ?_)
        go_wp2_with fail
        refine (hc3.out _ hk1.out).mono ?_
        rintro e w8 ⟨v9, rfl, hb9, hk6⟩
        refine hK _ _ rfl (Free.KeepsP.of hk6 (by simp)) ?_
        clear hK K
        replace hk1 := Lib.hid (hk1.out.trans hk6)
        replace hbVz := Lib.hid ((hk6.block _ (lt_of_blk hbVz.out) (by simp)).trans hbVz.out)
        replace hbpz := Lib.hid ((hk6.block _ (lt_of_blk hbpz.out) (by simp)).trans hbpz.out)
        clear hc3
        replace hb7 := Lib.hid (hb7.out.keeps hk6)
        have hcm := bsame_c w8 v7 v9 _ _ hb7.out hb9
        rw [decide_eq_true rfl] at hcm
        replace hcm := Lib.hid hcm
        clear hb9
        clear hk6
        (repeat (first | (apply Free.cw_pureW rfl rfl; (intro w'; go_simp <;> exact rfl); go_frame) | (apply Free.cw_steadyW rfl rfl rfl; (intro w' hS; have q0 := Free.sx_cell hS j0 (fun _ _ hT => hT); have q1 := Free.sx_cell hS j1 (fun _ _ hT => hT); have q2 := Free.sx_cell hS j2 (fun _ _ hT => hT); have q3 := Free.sx_cell hS j3 (fun _ _ hT => hT); have q4 := Free.sx_cell hS j4 (fun _ _ hT => hT); have q5 := Free.sx_cell hS j5 (fun _ _ hT => hT); have q6 := Free.sx_cell hS j6 (fun _ _ hT => hT); have q7 := Free.sx_cell hS j7 (fun _ _ hT => hT); have q8 := Free.sx_cell hS j8 (fun _ _ hT => hT); have q9 := Free.sx_cell hS j9 (fun _ _ hT => hT); have q10 := Free.sx_cell hS j10 (fun _ _ hT => hT); have q11 := Free.sx_cell hS j11 (fun _ _ hT => hT); go_simp <;> exact rfl); go_frame) | (refine Free.cw_skip rfl ?_; go_frame)))
        refine Free.cw_loudW rfl rfl (fun K hK => ?_)
        go_wp2_with fail
        refine hcm.out.mono ?_
        rintro e w9 ⟨rfl, hw9⟩
        subst hw9
        refine hK _ _ rfl (Free.KeepsP.refl _ _) ?_
        clear hK K hcm hb7
        (repeat (first | (apply Free.cw_pureW rfl rfl; (intro w'; go_simp <;> exact rfl); go_frame) | (apply Free.cw_steadyW rfl rfl rfl; (intro w' hS; have q0 := Free.sx_cell hS j0 (fun _ _ hT => hT); have q1 := Free.sx_cell hS j1 (fun _ _ hT => hT); have q2 := Free.sx_cell hS j2 (fun _ _ hT => hT); have q3 := Free.sx_cell hS j3 (fun _ _ hT => hT); have q4 := Free.sx_cell hS j4 (fun _ _ hT => hT); have q5 := Free.sx_cell hS j5 (fun _ _ hT => hT); have q6 := Free.sx_cell hS j6 (fun _ _ hT => hT); have q7 := Free.sx_cell hS j7 (fun _ _ hT => hT); have q8 := Free.sx_cell hS j8 (fun _ _ hT => hT); have q9 := Free.sx_cell hS j9 (fun _ _ hT => hT); have q10 := Free.sx_cell hS j10 (fun _ _ hT => hT); have q11 := Free.sx_cell hS j11 (fun _ _ hT => hT); go_simp <;> exact rfl); go_frame) | (refine Free.cw_skip rfl ?_; go_frame)))
        have hBz := Lib.hid (hBd.out.keeps hk1.out)
        have hkz := Lib.hid (hkd.out.trans hk1.out)
        clear hBd hkd hk1 hbVd hbpd
        refine Free.cw_nil ?_
        obtain ⟨e0, e1, e2, e3, e4, e5, e6, e7, e8, e9, e10, e11, ef, el⟩ := cl12 hbpz.out
        obtain ⟨nj0, nj1, nj2, nj3, nj4, nj5, nj6, nj7, nj8, nj9, nj10, nj11, njf, njl⟩ := cl12 hbVz.out
        go_wp2
        obtain ⟨g1, g2⟩ := sc12 (.int .i64 m0) (.int .i64 m1) (.int .i64 m2) (.int .u64 m3) (.int .i64 m4) (.int .i64 m5) (.slice m6 m7 m8) (.slice m9 m10 m11) (.int .i64 m12) (.slice m13 m14 m15) (.bool m16) (.slice m17 m18 m19) hbpz.out
        have hnt := hnp5.out
        have hBz' := hBz.out.keep g2 (g2.ki (fun b hb cs f e => by simp only [List.mem_singleton] at hb; subst hb; rw [hbpz.out] at e; cases e)) (fun b hb => by
          simp only [List.mem_singleton] at hb
          subst hb
          refine ⟨fun hm => ?_, fun hm => hnt _ hm rfl⟩
          obtain ⟨_, _, ht⟩ := hBz.out.m.own_tag hm
          rcases ht with ⟨es, c, h⟩ | ⟨cs, e, h, he⟩
          · rw [hbpz.out] at h; cases h
          · rw [hbpz.out] at h
            cases h
            rcases he with he | he | he | he <;> exact absurd he (by decide))
        have hkf := hkz.out.fresh g2 (fun b hb => by simp only [List.mem_singleton] at hb; subst hb; exact .inr (Nat.le_trans hBs hpB))
        replace hBz' := Lib.hid hBz'
        replace hkf := Lib.hid hkf
        replace g1 := Lib.hid g1
        go_roundw
        case rel =>
          (iterate 33 (apply Exists.intro))
          exact ⟨⟨k + 1, vo', vh', vg', _, rfl, by omega, hBz', g1, hnp5, hbd5, hnum5, hkf⟩, rfl⟩
        case measure => simp [intOf]; omega
      · have hlt2 : ¬ ((k : Int) < NL) := by omega
        go_wp2
        go_ret
        exact ⟨rfl, hkr.out⟩
end Go.Proofs.Ythfdngjbcgkkfaa
