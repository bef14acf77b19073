/- Texts that the laws lean on, in the order in which they build. The program's Decode: its closures number, one, and the one of an inset. (Printed by mkdea.py.) The program's Decode: read[Need], read[Inset]. (Printed by mkdeb.py.) The program's reading and the specification's: they go wrong together, and agree where they do not. Plain. The program's Decode as a function, and the specification's: plain. The program's Decode: read[Answer], over whatever reads one answer. (Printed once from mkdeb.py's text.) The program's Decode: read[Claim], over whatever reads one claim. (Turned from XDeD.) A region that draws its order, walked once; of an acting operation the value may be known ahead. (Printed by mkfreec.py out of XFreeO.) A region with a chain of the reader's calls, an alloc that floats beside them, and the store into it: facts for FreeO. -/
import Derived.Test.YtiplgpefapeapaaGreatE11
set_option linter.unusedVariables false
set_option linter.unusedSimpArgs false
namespace Go.Proofs.YtiplgpefapeapaaGreat
open Go.RowKit

abbrev fNum (bR : Nat) : Value := .func (.func 24) #[] #[.pointer (some ⟨bR, 0, none⟩)]
abbrev fOne (bF bR : Nat) : Value := .func (.func 26) #[] #[.pointer (some ⟨bF, 0, none⟩), .pointer (some ⟨bR, 0, none⟩)]
/-- The two variables that the closures hold: the reader, and number. -/
structure DeV (w : World) (br bR bF : Nat) : Prop where
  r : w.heap[bR]? = some (.cells #[.pointer (some ⟨br, 0, none⟩)] 57 (0, 0))
  f : w.heap[bF]? = some (.cells #[fNum bR] 60 (0, 0))
  rb : bR ≠ br
  fb : bF ≠ br
theorem DeV.keep {w w' : World} {br bR bF : Nat} {S : List Nat} (h : DeV w br bR bF) (hk : Keeps S w w') (h1 : bR ∉ S) (h2 : bF ∉ S) : DeV w' br bR bF :=
  ⟨(hk.block bR (lt_of_blk h.r) h1).trans h.r, (hk.block bF (lt_of_blk h.f) h2).trans h.f, h.rb, h.fb⟩
theorem DeV.keeps {w w' : World} {br bR bF : Nat} (h : DeV w br bR bF) (hk : Keeps [] w w') : DeV w' br bR bF := h.keep hk (by simp) (by simp)
theorem DeV.rd {w w' : World} {br bR bF : Nat} (h : DeV w br bR bF) (hk : Keeps [br] w w') : DeV w' br bR bF := h.keep hk (by simpa using h.rb) (by simpa using h.fb)
theorem DeV.other {w w' : World} {br bR bF X : Nat} {cs : Array Value} {t : TypeId} (h : DeV w br bR bF) (hk : Keeps [X] w w') (hX : w.heap[X]? = some (.cells cs t (0, 0))) (ht : t ≠ 57) (hf : t ≠ 60) : DeV w' br bR bF :=
  h.keep hk (fun e => by simp only [List.mem_singleton] at e; have := h.r; rw [e, hX] at this; cases this; exact ht rfl) (fun e => by simp only [List.mem_singleton] at e; have := h.f; rw [e, hX] at this; cases this; exact hf rfl)
theorem RdS.other {w w' : World} {br : Nat} {s : RS} {X : Nat} {cs : Array Value} {t : TypeId} {f : Nat × Nat} (h : RdS w br s) (hk : Keeps [X] w w') (hX : w.heap[X]? = some (.cells cs t f)) (ht : t ≠ tRd) (hb : t ≠ tB) : RdS w' br s := by
  refine h.moved hk (fun hm => ?_) (fun b hm cs' e => ?_)
  · simp only [List.mem_singleton] at hm
    obtain ⟨c2, h2⟩ := h.tag
    rw [hm, hX] at h2
    cases h2
    exact ht rfl
  · simp only [List.mem_singleton] at hm
    rw [hm, hX] at e
    cases e
    exact hb rfl
set_option maxRecDepth 100000 in
theorem number_c (w : World) (br bR : Nat) (s : RS) (h : RdS w br s) (hb : w.heap[bR]? = some (.cells #[.pointer (some ⟨br, 0, none⟩)] 57 (0, 0))) :
    Calls Tryz.prog 24 #[.pointer (some ⟨bR, 0, none⟩)] w fun e w' => e = .returned (.int .i64 (rI s).1) ∧ RdS w' br (rI s).2 ∧ Keeps [br] w w' := by
  have hc := intS_c w br s h
  obtain ⟨c0, cf, cl⟩ := cl1 hb
  have hf := rI_fit s
  obtain ⟨p, hp⟩ : ∃ p, rI s = p := ⟨_, rfl⟩
  rw [hp] at hc hf ⊢
  replace hc := Lib.hid hc
  replace hp := Lib.hid hp
  clear h
  go_enter Tryz.func24, Tryz.ntmps24
  go_wp2_with fail
  refine hc.out.mono ?_
  rintro e w1 ⟨rfl, hR1, hk1⟩
  replace hR1 := Lib.hid hR1
  replace hk1 := Lib.hid hk1
  go_wp2
  go_ret
  exact ⟨rfl, hR1.out, hk1.out⟩
set_option maxRecDepth 100000 in
set_option maxHeartbeats 8000000 in
theorem one_c (w : World) (br bR bF : Nat) (s : RS) (h : RdS w br s) (hv : DeV w br bR bF) :
    Calls Tryz.prog 26 #[.pointer (some ⟨bF, 0, none⟩), .pointer (some ⟨bR, 0, none⟩)] w fun e w' => e = .returned (tV (rX s).1) ∧ RdS w' br (rX s).2 ∧ Keeps [br] w w' := by
  have hkZ := (Keeps.refl [] w).alloc (.cells #[.int .i64 0, .int .u64 0, .int .i64 0] tN)
  have hZ := heap_alloc_new w (.cells #[.int .i64 0, .int .u64 0, .int .i64 0] tN)
  have h1 := h.keeps hkZ
  have hv1 := hv.keeps hkZ
  have hbw := h.lt
  have hbR := lt_of_blk hv.r
  have hbF := lt_of_blk hv.f
  have hres : (rX s) = (((rI s).1, (rU (rI s).2).1, (rI (rU (rI s).2).2).1), (rI (rU (rI s).2).2).2) := rfl
  rw [hres]
  obtain ⟨p1, hp1⟩ : ∃ p, rI s = p := ⟨_, rfl⟩
  obtain ⟨n1, s1⟩ := p1
  have hc1 := fun W h hb => number_c W br bR s h hb
  rw [hp1] at hc1 ⊢
  simp only at hc1 ⊢
  obtain ⟨p2, hp2⟩ : ∃ p, rU s1 = p := ⟨_, rfl⟩
  obtain ⟨n2, s2⟩ := p2
  have hc2 := fun W h => uintS_c W br s1 h
  rw [hp2] at hc2 ⊢
  simp only at hc2 ⊢
  obtain ⟨p3, hp3⟩ : ∃ p, rI s2 = p := ⟨_, rfl⟩
  obtain ⟨n3, s3⟩ := p3
  have hc3 := fun W h hb => number_c W br bR s2 h hb
  rw [hp3] at hc3 ⊢
  simp only [tV] at hc3 ⊢
  replace hp1 := Lib.hid hp1
  replace hp2 := Lib.hid hp2
  replace hp3 := Lib.hid hp3
  replace hc1 := Lib.hid hc1
  replace hc2 := Lib.hid hc2
  replace hc3 := Lib.hid hc3
  replace hkZ := Lib.hid hkZ
  replace hZ := Lib.hid hZ
  replace hbw := Lib.hid hbw
  replace hbR := Lib.hid hbR
  replace hbF := Lib.hid hbF
  replace h1 := Lib.hid h1
  replace hv1 := Lib.hid hv1
  clear h hres hv
  go_enter Tryz.func26, Tryz.ntmps26
  go_upto_region 1 with fail
  generalize (w.alloc (.cells #[.int .i64 0, .int .u64 0, .int .i64 0] tN)) = W at *
  obtain ⟨Z, hZZ⟩ : ∃ B, w.heap.size = B := ⟨_, rfl⟩
  rw [hZZ] at hZ hbw hbR hbF ⊢
  replace hZZ := Lib.hid hZZ
  have hqR : Hid (∀ j : Nat, (((j = 1 ∨ j = 3 ∨ j = 5) ∧ bR = br) ∨ (j = 7 ∧ bR = Z)) → False) := Lib.hid (fun j h => by
    rcases h with ⟨_, h⟩ | ⟨_, h⟩
    · exact hv1.out.rb h
    · have := hbR.out; omega)
  have hqF : Hid (∀ j : Nat, (((j = 1 ∨ j = 3 ∨ j = 5) ∧ bF = br) ∨ (j = 7 ∧ bF = Z)) → False) := Lib.hid (fun j h => by
    rcases h with ⟨_, h⟩ | ⟨_, h⟩
    · exact hv1.out.fb h
    · have := hbF.out; omega)
  obtain ⟨r0, rf, rl⟩ := cl1 hv1.out.r
  obtain ⟨f0, ff, fl⟩ := cl1 hv1.out.f
  refine Free.wp_region_chain (fun i => i == 1 || i == 3 || i == 5 || i == 7) (fun i => true) (fun j b => ((j = 1 ∨ j = 3 ∨ j = 5) ∧ b = br) ∨ (j = 7 ∧ b = Z)) (by kernel_rfl) (by kernel_rfl) (by kernel_rfl) ?_
  have hd := (Keeps.refl [] W).drew
  have hR0 := Lib.hid (h1.out.keeps hd)
  have hv0 := Lib.hid (hv1.out.keeps hd)
  have hZ0 := Lib.hid ((hd.block Z (lt_of_blk hZ.out) (by simp)).trans hZ.out)
  have hk0 : Hid (Keeps [br] w W.drew) := Lib.hid (hkZ.out.trans hd).of_nil
  clear hd
  (repeat (first | (apply Free.cw_pure rfl rfl; (intro w'; go_simp <;> exact rfl); go_frame) | (apply Free.cw_steady rfl rfl rfl; (intro w' hS; have q0 := Free.sx_cell hS f0 (fun j hp hT => hqF.out j hT); have q1 := Free.sx_cell hS r0 (fun j hp hT => hqR.out j hT); go_simp <;> exact rfl); go_frame) | (refine Free.cw_skip rfl ?_; go_frame)))
  refine Free.cw_loud rfl rfl (fun K hK => ?_)
  go_wp2_with fail
  refine (hc1.out _ hR0.out hv0.out.r).mono ?_
  rintro e w1 ⟨rfl, hR1, hk1⟩
  refine hK _ _ rfl (Free.KeepsP.of hk1 (fun b hb => .inl ⟨.inl trivial, by simpa using hb⟩)) ?_
  clear hK K
  have hv1' := Lib.hid (hv0.out.rd hk1)
  have hZ1 := Lib.hid ((hk1.block Z (lt_of_blk hZ0.out) (by have := hbw.out; simp only [List.mem_singleton]; omega)).trans hZ0.out)
  have hkk1 := Lib.hid (hk0.out.trans hk1)
  replace hR1 := Lib.hid hR1
  clear hk1
  (repeat (first | (apply Free.cw_pure rfl rfl; (intro w'; go_simp <;> exact rfl); go_frame) | (apply Free.cw_steady rfl rfl rfl; (intro w' hS; have q0 := Free.sx_cell hS f0 (fun j hp hT => hqF.out j hT); have q1 := Free.sx_cell hS r0 (fun j hp hT => hqR.out j hT); go_simp <;> exact rfl); go_frame) | (refine Free.cw_skip rfl ?_; go_frame)))
  refine Free.cw_loud rfl rfl (fun K hK => ?_)
  go_wp2_with fail
  refine (hc2.out _ hR1.out).mono ?_
  rintro e w2 ⟨rfl, hR2, hk2⟩
  refine hK _ _ rfl (Free.KeepsP.of hk2 (fun b hb => .inl ⟨.inr (.inl trivial), by simpa using hb⟩)) ?_
  clear hK K
  have hv2 := Lib.hid (hv1'.out.rd hk2)
  have hZ2 := Lib.hid ((hk2.block Z (lt_of_blk hZ1.out) (by have := hbw.out; simp only [List.mem_singleton]; omega)).trans hZ1.out)
  have hkk2 := Lib.hid (hkk1.out.trans hk2)
  replace hR2 := Lib.hid hR2
  clear hk2
  (repeat (first | (apply Free.cw_pure rfl rfl; (intro w'; go_simp <;> exact rfl); go_frame) | (apply Free.cw_steady rfl rfl rfl; (intro w' hS; have q0 := Free.sx_cell hS f0 (fun j hp hT => hqF.out j hT); have q1 := Free.sx_cell hS r0 (fun j hp hT => hqR.out j hT); go_simp <;> exact rfl); go_frame) | (refine Free.cw_skip rfl ?_; go_frame)))
  refine Free.cw_loud rfl rfl (fun K hK => ?_)
  go_wp2_with fail
  refine (hc3.out _ hR2.out hv2.out.r).mono ?_
  rintro e w3 ⟨rfl, hR3, hk3⟩
  refine hK _ _ rfl (Free.KeepsP.of hk3 (fun b hb => .inl ⟨.inr (.inr trivial), by simpa using hb⟩)) ?_
  clear hK K
  have hZ3 := Lib.hid ((hk3.block Z (lt_of_blk hZ2.out) (by have := hbw.out; simp only [List.mem_singleton]; omega)).trans hZ2.out)
  have hkk3 := Lib.hid (hkk2.out.trans hk3)
  replace hR3 := Lib.hid hR3
  clear hk3 r0 rf rl f0 ff fl
  obtain ⟨z0, z1, z2, zf, zl⟩ := cl3 hZ3.out
  (repeat (apply Free.cw_pure rfl rfl; (intro w'; go_simp <;> exact rfl); go_frame))
  obtain ⟨g1, g2⟩ := sc3 (.int .i64 n1) (.int .u64 n2) (.int .i64 n3) hZ3.out
  have hg1 := Lib.hid g1
  have hg2 := Lib.hid g2
  clear g1 g2
  refine Free.cw_loud rfl rfl (fun K hK => ?_)
  go_wp2
  refine hK _ _ rfl (Free.KeepsP.of hg2.out (fun b hb => .inr ⟨trivial, by simpa using hb⟩)) ?_
  clear hK K
  (repeat (apply Free.cw_pure rfl rfl; (intro w'; go_simp <;> exact rfl); go_frame))
  refine Free.cw_nil ?_
  clear z0 z1 z2 zf zl
  have hRe := Lib.hid (hR3.out.other hg2.out hZ3.out (by decide) (by decide))
  have hke := Lib.hid (hkk3.out.fresh hg2.out (fun b hb => by simp only [List.mem_singleton] at hb; subst hb; exact .inr (Nat.le_of_eq hZZ.out)))
  clear hg2
  generalize ((w3.setCell ⟨Z, 0, none⟩ (.int .i64 n1)).setCell ⟨Z, 1, none⟩ (.int .u64 n2)).setCell ⟨Z, 2, none⟩ (.int .i64 n3) = V at *
  go_wp2
  refine bodyPost_ret (results_n3 rfl _ _ _ _ _ _ _ _ rfl hg1.out) rfl ?_
  exact ⟨rfl, hRe.out, hke.out⟩
theorem loadi3 (w : World) (g : Nat) (t : TypeId) (x0 x1 x2 : Value) (f : Nat × Nat) (hg : w.heap[g]? = some (.cells #[x0, x1, x2] t f)) : (loadVar tI ⟨g, 0, none⟩).run Tryz.prog w = .ok (.agg #[x0, x1, x2]) w :=
  run_loadVar_row w g t tI #[x0, x1, x2] f _ hg Tryz.underlying66 rfl (show (Tryz.prog.info? tI).map (·.size) = some 3 by kernel_rfl)
theorem results_i3 {fn : Func} {p : Tmp} (h : fn.results = #[.cell p tI]) (tmps : Array Value) (w : World) (g : Nat) (t : TypeId) (x0 x1 x2 : Value) (f : Nat × Nat) (hp : tmps.getD p undef = .pointer (some ⟨g, 0, none⟩))
    (hg : w.heap[g]? = some (.cells #[x0, x1, x2] t f)) : (results fn tmps).run Tryz.prog w = .ok (.agg #[x0, x1, x2]) w := by
  have hp' : tmps[p]?.getD undef = .pointer (some ⟨g, 0, none⟩) := by simpa using hp
  simp [results, h, hp', asAddr, loadi3 w g t x0 x1 x2 f hg]
set_option maxRecDepth 100000 in
set_option maxHeartbeats 8000000 in
theorem insD_c (w : World) (br bR bF : Nat) (s : RS) (h : RdS w br s) (hv : DeV w br bR bF) :
    Calls Tryz.prog 32 #[.pointer (some ⟨bF, 0, none⟩), .pointer (some ⟨bR, 0, none⟩)] w fun e w' => e = .returned (tV (rX s).1) ∧ RdS w' br (rX s).2 ∧ Keeps [br] w w' := by
  have hkZ := (Keeps.refl [] w).alloc (.cells #[.int .i64 0, .int .u64 0, .int .i64 0] tI)
  have hZ := heap_alloc_new w (.cells #[.int .i64 0, .int .u64 0, .int .i64 0] tI)
  have h1 := h.keeps hkZ
  have hv1 := hv.keeps hkZ
  have hbw := h.lt
  have hbR := lt_of_blk hv.r
  have hbF := lt_of_blk hv.f
  have hres : (rX s) = (((rI s).1, (rU (rI s).2).1, (rI (rU (rI s).2).2).1), (rI (rU (rI s).2).2).2) := rfl
  rw [hres]
  obtain ⟨p1, hp1⟩ : ∃ p, rI s = p := ⟨_, rfl⟩
  obtain ⟨n1, s1⟩ := p1
  have hc1 := fun W h hb => number_c W br bR s h hb
  rw [hp1] at hc1 ⊢
  simp only at hc1 ⊢
  obtain ⟨p2, hp2⟩ : ∃ p, rU s1 = p := ⟨_, rfl⟩
  obtain ⟨n2, s2⟩ := p2
  have hc2 := fun W h => uintS_c W br s1 h
  rw [hp2] at hc2 ⊢
  simp only at hc2 ⊢
  obtain ⟨p3, hp3⟩ : ∃ p, rI s2 = p := ⟨_, rfl⟩
  obtain ⟨n3, s3⟩ := p3
  have hc3 := fun W h hb => number_c W br bR s2 h hb
  rw [hp3] at hc3 ⊢
  simp only [tV] at hc3 ⊢
  replace hp1 := Lib.hid hp1
  replace hp2 := Lib.hid hp2
  replace hp3 := Lib.hid hp3
  replace hc1 := Lib.hid hc1
  replace hc2 := Lib.hid hc2
  replace hc3 := Lib.hid hc3
  replace hkZ := Lib.hid hkZ
  replace hZ := Lib.hid hZ
  replace hbw := Lib.hid hbw
  replace hbR := Lib.hid hbR
  replace hbF := Lib.hid hbF
  replace h1 := Lib.hid h1
  replace hv1 := Lib.hid hv1
  clear h hres hv
  go_enter Tryz.func32, Tryz.ntmps32
  go_upto_region 1 with fail
  generalize (w.alloc (.cells #[.int .i64 0, .int .u64 0, .int .i64 0] tI)) = W at *
  obtain ⟨Z, hZZ⟩ : ∃ B, w.heap.size = B := ⟨_, rfl⟩
  rw [hZZ] at hZ hbw hbR hbF ⊢
  replace hZZ := Lib.hid hZZ
  have hqR : Hid (∀ j : Nat, (((j = 1 ∨ j = 3 ∨ j = 5) ∧ bR = br) ∨ (j = 7 ∧ bR = Z)) → False) := Lib.hid (fun j h => by
    rcases h with ⟨_, h⟩ | ⟨_, h⟩
    · exact hv1.out.rb h
    · have := hbR.out; omega)
  have hqF : Hid (∀ j : Nat, (((j = 1 ∨ j = 3 ∨ j = 5) ∧ bF = br) ∨ (j = 7 ∧ bF = Z)) → False) := Lib.hid (fun j h => by
    rcases h with ⟨_, h⟩ | ⟨_, h⟩
    · exact hv1.out.fb h
    · have := hbF.out; omega)
  obtain ⟨r0, rf, rl⟩ := cl1 hv1.out.r
  obtain ⟨f0, ff, fl⟩ := cl1 hv1.out.f
  refine Free.wp_region_chain (fun i => i == 1 || i == 3 || i == 5 || i == 7) (fun i => true) (fun j b => ((j = 1 ∨ j = 3 ∨ j = 5) ∧ b = br) ∨ (j = 7 ∧ b = Z)) (by kernel_rfl) (by kernel_rfl) (by kernel_rfl) ?_
  have hd := (Keeps.refl [] W).drew
  have hR0 := Lib.hid (h1.out.keeps hd)
  have hv0 := Lib.hid (hv1.out.keeps hd)
  have hZ0 := Lib.hid ((hd.block Z (lt_of_blk hZ.out) (by simp)).trans hZ.out)
  have hk0 : Hid (Keeps [br] w W.drew) := Lib.hid (hkZ.out.trans hd).of_nil
  clear hd
  (repeat (first | (apply Free.cw_pure rfl rfl; (intro w'; go_simp <;> exact rfl); go_frame) | (apply Free.cw_steady rfl rfl rfl; (intro w' hS; have q0 := Free.sx_cell hS f0 (fun j hp hT => hqF.out j hT); have q1 := Free.sx_cell hS r0 (fun j hp hT => hqR.out j hT); go_simp <;> exact rfl); go_frame) | (refine Free.cw_skip rfl ?_; go_frame)))
  refine Free.cw_loud rfl rfl (fun K hK => ?_)
  go_wp2_with fail
  refine (hc1.out _ hR0.out hv0.out.r).mono ?_
  rintro e w1 ⟨rfl, hR1, hk1⟩
  refine hK _ _ rfl (Free.KeepsP.of hk1 (fun b hb => .inl ⟨.inl trivial, by simpa using hb⟩)) ?_
  clear hK K
  have hv1' := Lib.hid (hv0.out.rd hk1)
  have hZ1 := Lib.hid ((hk1.block Z (lt_of_blk hZ0.out) (by have := hbw.out; simp only [List.mem_singleton]; omega)).trans hZ0.out)
  have hkk1 := Lib.hid (hk0.out.trans hk1)
  replace hR1 := Lib.hid hR1
  clear hk1
  (repeat (first | (apply Free.cw_pure rfl rfl; (intro w'; go_simp <;> exact rfl); go_frame) | (apply Free.cw_steady rfl rfl rfl; (intro w' hS; have q0 := Free.sx_cell hS f0 (fun j hp hT => hqF.out j hT); have q1 := Free.sx_cell hS r0 (fun j hp hT => hqR.out j hT); go_simp <;> exact rfl); go_frame) | (refine Free.cw_skip rfl ?_; go_frame)))
  refine Free.cw_loud rfl rfl (fun K hK => ?_)
  go_wp2_with fail
  refine (hc2.out _ hR1.out).mono ?_
  rintro e w2 ⟨rfl, hR2, hk2⟩
  refine hK _ _ rfl (Free.KeepsP.of hk2 (fun b hb => .inl ⟨.inr (.inl trivial), by simpa using hb⟩)) ?_
  clear hK K
  have hv2 := Lib.hid (hv1'.out.rd hk2)
  have hZ2 := Lib.hid ((hk2.block Z (lt_of_blk hZ1.out) (by have := hbw.out; simp only [List.mem_singleton]; omega)).trans hZ1.out)
  have hkk2 := Lib.hid (hkk1.out.trans hk2)
  replace hR2 := Lib.hid hR2
  clear hk2
  (repeat (first | (apply Free.cw_pure rfl rfl; (intro w'; go_simp <;> exact rfl); go_frame) | (apply Free.cw_steady rfl rfl rfl; (intro w' hS; have q0 := Free.sx_cell hS f0 (fun j hp hT => hqF.out j hT); have q1 := Free.sx_cell hS r0 (fun j hp hT => hqR.out j hT); go_simp <;> exact rfl); go_frame) | (refine Free.cw_skip rfl ?_; go_frame)))
  refine Free.cw_loud rfl rfl (fun K hK => ?_)
  go_wp2_with fail
  refine (hc3.out _ hR2.out hv2.out.r).mono ?_
  rintro e w3 ⟨rfl, hR3, hk3⟩
  refine hK _ _ rfl (Free.KeepsP.of hk3 (fun b hb => .inl ⟨.inr (.inr trivial), by simpa using hb⟩)) ?_
  clear hK K
  have hZ3 := Lib.hid ((hk3.block Z (lt_of_blk hZ2.out) (by have := hbw.out; simp only [List.mem_singleton]; omega)).trans hZ2.out)
  have hkk3 := Lib.hid (hkk2.out.trans hk3)
  replace hR3 := Lib.hid hR3
  clear hk3 r0 rf rl f0 ff fl
  obtain ⟨z0, z1, z2, zf, zl⟩ := cl3 hZ3.out
  (repeat (apply Free.cw_pure rfl rfl; (intro w'; go_simp <;> exact rfl); go_frame))
  obtain ⟨g1, g2⟩ := sc3 (.int .i64 n1) (.int .u64 n2) (.int .i64 n3) hZ3.out
  have hg1 := Lib.hid g1
  have hg2 := Lib.hid g2
  clear g1 g2
  refine Free.cw_loud rfl rfl (fun K hK => ?_)
  go_wp2
  refine hK _ _ rfl (Free.KeepsP.of hg2.out (fun b hb => .inr ⟨trivial, by simpa using hb⟩)) ?_
  clear hK K
  (repeat (apply Free.cw_pure rfl rfl; (intro w'; go_simp <;> exact rfl); go_frame))
  refine Free.cw_nil ?_
  clear z0 z1 z2 zf zl
  have hRe := Lib.hid (hR3.out.other hg2.out hZ3.out (by decide) (by decide))
  have hke := Lib.hid (hkk3.out.fresh hg2.out (fun b hb => by simp only [List.mem_singleton] at hb; subst hb; exact .inr (Nat.le_of_eq hZZ.out)))
  clear hg2
  generalize ((w3.setCell ⟨Z, 0, none⟩ (.int .i64 n1)).setCell ⟨Z, 1, none⟩ (.int .u64 n2)).setCell ⟨Z, 2, none⟩ (.int .i64 n3) = V at *
  go_wp2
  refine bodyPost_ret (results_i3 rfl _ _ _ _ _ _ _ _ rfl hg1.out) rfl ?_
  exact ⟨rfl, hRe.out, hke.out⟩
end Go.Proofs.YtiplgpefapeapaaGreat

namespace Go.Proofs.YtiplgpefapeapaaGreat
open Go.RowKit

abbrev fIns (bF bR : Nat) : Value := .func (.func 32) #[] #[.pointer (some ⟨bF, 0, none⟩), .pointer (some ⟨bR, 0, none⟩)]
/-- Reading goes on, error or not. -/
def pXc : Nat → RS → List T3 → List T3 × RS
  | 0, s, L => (L, s)
  | n + 1, s, L => pXc n (rX s).2 (L ++ [(rX s).1])
def pNs (s : RS) : List T3 × RS := pXc (rCS 1024 s).1 (rCS 1024 s).2 []
set_option maxRecDepth 100000 in
set_option maxHeartbeats 8000000 in
theorem readN_c (w : World) (br bR bF : Nat) (s : RS) (h : RdS w br s) (hv : DeV w br bR bF) :
    Calls Tryz.prog 35 #[.pointer (some ⟨br, 0, none⟩), fOne bF bR] w fun e w' => ∃ v, e = .returned v ∧ shT.O w' w.heap.size tN v (pNs s).1 ∧ RdS w' br (pNs s).2 ∧ Keeps [br] w w' := by
  have hlt := h.lt
  have hltR := lt_of_blk hv.r
  have hltF := lt_of_blk hv.f
  unfold pNs
  have hle := rCS_le 1024 s
  have hc := countS_c 1024 (by omega) w br s h
  obtain ⟨p, hp⟩ : ∃ p, rCS 1024 s = p := ⟨_, rfl⟩
  obtain ⟨M, s0⟩ := p
  rw [hp] at hc hle ⊢
  simp only at hc hle ⊢
  obtain ⟨B, hB⟩ : ∃ B, w.heap.size = B := ⟨_, rfl⟩
  obtain ⟨r, hr⟩ : ∃ r, pXc M s0 [] = r := ⟨_, rfl⟩
  rw [hr]
  rw [hB] at hlt hltR hltF ⊢
  replace hp := Lib.hid hp
  replace hc := Lib.hid hc
  replace hr := Lib.hid hr
  replace hlt := Lib.hid hlt
  replace hltR := Lib.hid hltR
  replace hltF := Lib.hid hltF
  replace hB := Lib.hid hB
  replace hv := Lib.hid hv
  clear h
  go_enter Tryz.func35, Tryz.ntmps35
  go_wp2_with fail
  refine hc.out.mono ?_
  rintro e w1 ⟨rfl, hR1, hk1⟩
  have hv1 := Lib.hid (hv.out.rd hk1)
  replace hR1 := Lib.hid hR1
  have hk01 := Lib.hid hk1
  clear hk1 hc hv
  go_wp2
  go_loopw [5, 8] (fun lv i wr => ∃ (k : Nat) (L : List T3) (sk : RS), i = .int .i64 k ∧ k ≤ M ∧ Hid (shT.O wr B tN lv L) ∧ Hid (L.length ≤ k) ∧ Hid (pXc (M - k) sk L = r) ∧ Hid (RdS wr br sk) ∧ Hid (DeV wr br bR bF) ∧ Hid (Keeps [br] w wr)) (fun _ i _ => M - (intOf i).toNat)
  case atStart => exact ⟨0, [], s0, rfl, by omega, Lib.hid (Sh.O.nil _ _ _ _), Lib.hid (by simp), Lib.hid hr.out, hR1, hv1, hk01⟩
  case round =>
    obtain ⟨k, L, sk, rfl, hk, hO, hLk, hrk, hRr, hvk, hkw⟩ := hrel
    obtain ⟨oa, oc, hov⟩ := hO.out.form
    subst hov
    by_cases hlt2 : k < M
    · have hlt3 : (k : Int) < M := by omega
      obtain ⟨j, hj⟩ : ∃ j, M - k = j + 1 := ⟨M - k - 1, by omega⟩
      have hj2 : M - (k + 1) = j := by omega
      have hstep : pXc (M - (k + 1)) (rX sk).2 (L ++ [(rX sk).1]) = r := by
        have := hrk.out
        rw [hj] at this
        rw [hj2]
        unfold pXc at this
        exact this
      obtain ⟨z, hz⟩ : ∃ z, rX sk = z := ⟨_, rfl⟩
      obtain ⟨⟨n0, n1, n2⟩, s2⟩ := z
      have hcall := one_c wr br bR bF sk hRr.out hvk.out
      rw [hz] at hcall hstep
      simp only [tV] at hcall hstep
      obtain ⟨N, hN⟩ : ∃ N, L.length = N := ⟨_, rfl⟩
      rw [hN] at hLk hO ⊢
      have hN1 : N ≤ 1024 := by have := hLk.out; omega
      replace hz := Lib.hid hz
      replace hcall := Lib.hid hcall
      replace hstep := Lib.hid hstep
      replace hN := Lib.hid hN
      replace hj := Lib.hid hj
      replace hj2 := Lib.hid hj2
      go_wp2_with fail
      refine hcall.out.mono ?_
      rintro e w2 ⟨rfl, hR2, hk2⟩
      have hO2 := hO.out.keepS hk2 (fun b hb => by simp only [List.mem_singleton] at hb; subst hb; intro e; have h2 := hO.out.ge _ e; have h3 := hlt.out; omega)
      have hmade := Sh.R.made shT w2 [(n0, n1, n2)] #[.int .i64 n0, .int .u64 n1, .int .i64 n2] tN rfl (by simp [maxLen]) 1 rfl
      have hkM := (Keeps.refl [] w2).alloc (.cells #[.int .i64 n0, .int .u64 n1, .int .i64 n2] tN)
      have hOM := hO2.keeps hkM
      have hRM := hR2.keeps hkM
      have hvM := (hvk.out.rd hk2).keeps hkM
      have hkwM := (hkw.out.trans hk2).trans hkM.of_nil
      have hsz : B ≤ (w2.alloc (.cells #[.int .i64 n0, .int .u64 n1, .int .i64 n2] tN)).heap.size := by have := hkwM.size; have := hB.out; omega
      replace hmade := Lib.hid hmade
      replace hOM := Lib.hid hOM
      replace hRM := Lib.hid hRM
      replace hvM := Lib.hid hvM
      replace hkwM := Lib.hid hkwM
      clear hkM hO2 hR2 hk2 hcall
      go_wp2_with (first
        | (at_builtin; (refine Sh.wpl_app shT B infoN rfl Tryz.underlying42 (.slice oa N oc) (.slice (some ⟨w2.heap.size, 0, none⟩) 1 1) L [(n0, n1, n2)] rfl _ _ rfl rfl rfl hOM.out hmade.out (by rw [hN.out]; simp only [List.length_singleton]; omega) hsz ?_; intro v5 w5 hO5 hG5; have hge5 := hOM.out.ge; have hR5 := hRM.out.moved hG5.keepsO (fun hm => by have h2 := hge5 br (by simpa using hm); have h3 := hlt.out; omega) (fun b hm cs e => by obtain ⟨cs', hc⟩ := hOM.out.tag b (by simpa using hm); rw [hc] at e; cases e); have hv5 := hvM.out.keep hG5.keepsO (fun hm => by have h2 := hge5 bR (by simpa using hm); have h3 := hltR.out; omega) (fun hm => by have h2 := hge5 bF (by simpa using hm); have h3 := hltF.out; omega); have hk5 := hkwM.out.fresh hG5.keepsO (fun b hb => .inr (by have h2 := hge5 b (by simpa using hb); have h3 := hB.out; omega)); replace hO5 := Lib.hid hO5; replace hR5 := Lib.hid hR5; replace hv5 := Lib.hid hv5; replace hk5 := Lib.hid hk5; clear hG5 hge5))
        | fail)
      go_roundw
      case rel => exact ⟨k + 1, L ++ [(n0, n1, n2)], s2, rfl, by omega, hO5, Lib.hid (by rw [List.length_append, hN.out]; have := hLk.out; simp; omega), hstep, hR5, hv5, hk5⟩
      case measure => simp [intOf]; omega
    · have hlt3 : ¬ ((k : Int) < M) := by omega
      have hlt4 : decide ((k : Int) < (M : Int)) = false := by simp; omega
      have hend : r = (L, sk) := by
        have := hrk.out
        rw [show M - k = 0 by omega] at this
        exact this.symm
      replace hend := Lib.hid hend
      go_wp2
      go_ret
      exact ⟨_, rfl, by rw [hend.out]; exact hO.out, by rw [hend.out]; exact hRr.out, hkw.out⟩
set_option maxRecDepth 100000 in
set_option maxHeartbeats 8000000 in
theorem readI_c (w : World) (br bR bF : Nat) (s : RS) (h : RdS w br s) (hv : DeV w br bR bF) :
    Calls Tryz.prog 31 #[.pointer (some ⟨br, 0, none⟩), fIns bF bR] w fun e w' => ∃ v, e = .returned v ∧ shT.O w' w.heap.size tI v (pNs s).1 ∧ RdS w' br (pNs s).2 ∧ Keeps [br] w w' := by
  have hlt := h.lt
  have hltR := lt_of_blk hv.r
  have hltF := lt_of_blk hv.f
  unfold pNs
  have hle := rCS_le 1024 s
  have hc := countS_c 1024 (by omega) w br s h
  obtain ⟨p, hp⟩ : ∃ p, rCS 1024 s = p := ⟨_, rfl⟩
  obtain ⟨M, s0⟩ := p
  rw [hp] at hc hle ⊢
  simp only at hc hle ⊢
  obtain ⟨B, hB⟩ : ∃ B, w.heap.size = B := ⟨_, rfl⟩
  obtain ⟨r, hr⟩ : ∃ r, pXc M s0 [] = r := ⟨_, rfl⟩
  rw [hr]
  rw [hB] at hlt hltR hltF ⊢
  replace hp := Lib.hid hp
  replace hc := Lib.hid hc
  replace hr := Lib.hid hr
  replace hlt := Lib.hid hlt
  replace hltR := Lib.hid hltR
  replace hltF := Lib.hid hltF
  replace hB := Lib.hid hB
  replace hv := Lib.hid hv
  clear h
  go_enter Tryz.func31, Tryz.ntmps31
  go_wp2_with fail
  refine hc.out.mono ?_
  rintro e w1 ⟨rfl, hR1, hk1⟩
  have hv1 := Lib.hid (hv.out.rd hk1)
  replace hR1 := Lib.hid hR1
  have hk01 := Lib.hid hk1
  clear hk1 hc hv
  go_wp2
  go_loopw [5, 8] (fun lv i wr => ∃ (k : Nat) (L : List T3) (sk : RS), i = .int .i64 k ∧ k ≤ M ∧ Hid (shT.O wr B tI lv L) ∧ Hid (L.length ≤ k) ∧ Hid (pXc (M - k) sk L = r) ∧ Hid (RdS wr br sk) ∧ Hid (DeV wr br bR bF) ∧ Hid (Keeps [br] w wr)) (fun _ i _ => M - (intOf i).toNat)
  case atStart => exact ⟨0, [], s0, rfl, by omega, Lib.hid (Sh.O.nil _ _ _ _), Lib.hid (by simp), Lib.hid hr.out, hR1, hv1, hk01⟩
  case round =>
    obtain ⟨k, L, sk, rfl, hk, hO, hLk, hrk, hRr, hvk, hkw⟩ := hrel
    obtain ⟨oa, oc, hov⟩ := hO.out.form
    subst hov
    by_cases hlt2 : k < M
    · have hlt3 : (k : Int) < M := by omega
      obtain ⟨j, hj⟩ : ∃ j, M - k = j + 1 := ⟨M - k - 1, by omega⟩
      have hj2 : M - (k + 1) = j := by omega
      have hstep : pXc (M - (k + 1)) (rX sk).2 (L ++ [(rX sk).1]) = r := by
        have := hrk.out
        rw [hj] at this
        rw [hj2]
        unfold pXc at this
        exact this
      obtain ⟨z, hz⟩ : ∃ z, rX sk = z := ⟨_, rfl⟩
      obtain ⟨⟨n0, n1, n2⟩, s2⟩ := z
      have hcall := insD_c wr br bR bF sk hRr.out hvk.out
      rw [hz] at hcall hstep
      simp only [tV] at hcall hstep
      obtain ⟨N, hN⟩ : ∃ N, L.length = N := ⟨_, rfl⟩
      rw [hN] at hLk hO ⊢
      have hN1 : N ≤ 1024 := by have := hLk.out; omega
      replace hz := Lib.hid hz
      replace hcall := Lib.hid hcall
      replace hstep := Lib.hid hstep
      replace hN := Lib.hid hN
      replace hj := Lib.hid hj
      replace hj2 := Lib.hid hj2
      go_wp2_with fail
      refine hcall.out.mono ?_
      rintro e w2 ⟨rfl, hR2, hk2⟩
      have hO2 := hO.out.keepS hk2 (fun b hb => by simp only [List.mem_singleton] at hb; subst hb; intro e; have h2 := hO.out.ge _ e; have h3 := hlt.out; omega)
      have hmade := Sh.R.made shT w2 [(n0, n1, n2)] #[.int .i64 n0, .int .u64 n1, .int .i64 n2] tI rfl (by simp [maxLen]) 1 rfl
      have hkM := (Keeps.refl [] w2).alloc (.cells #[.int .i64 n0, .int .u64 n1, .int .i64 n2] tI)
      have hOM := hO2.keeps hkM
      have hRM := hR2.keeps hkM
      have hvM := (hvk.out.rd hk2).keeps hkM
      have hkwM := (hkw.out.trans hk2).trans hkM.of_nil
      have hsz : B ≤ (w2.alloc (.cells #[.int .i64 n0, .int .u64 n1, .int .i64 n2] tI)).heap.size := by have := hkwM.size; have := hB.out; omega
      replace hmade := Lib.hid hmade
      replace hOM := Lib.hid hOM
      replace hRM := Lib.hid hRM
      replace hvM := Lib.hid hvM
      replace hkwM := Lib.hid hkwM
      clear hkM hO2 hR2 hk2 hcall
      go_wp2_with (first
        | (at_builtin; (refine Sh.wpl_app shT B infoI rfl Tryz.underlying44 (.slice oa N oc) (.slice (some ⟨w2.heap.size, 0, none⟩) 1 1) L [(n0, n1, n2)] rfl _ _ rfl rfl rfl hOM.out hmade.out (by rw [hN.out]; simp only [List.length_singleton]; omega) hsz ?_; intro v5 w5 hO5 hG5; have hge5 := hOM.out.ge; have hR5 := hRM.out.moved hG5.keepsO (fun hm => by have h2 := hge5 br (by simpa using hm); have h3 := hlt.out; omega) (fun b hm cs e => by obtain ⟨cs', hc⟩ := hOM.out.tag b (by simpa using hm); rw [hc] at e; cases e); have hv5 := hvM.out.keep hG5.keepsO (fun hm => by have h2 := hge5 bR (by simpa using hm); have h3 := hltR.out; omega) (fun hm => by have h2 := hge5 bF (by simpa using hm); have h3 := hltF.out; omega); have hk5 := hkwM.out.fresh hG5.keepsO (fun b hb => .inr (by have h2 := hge5 b (by simpa using hb); have h3 := hB.out; omega)); replace hO5 := Lib.hid hO5; replace hR5 := Lib.hid hR5; replace hv5 := Lib.hid hv5; replace hk5 := Lib.hid hk5; clear hG5 hge5))
        | fail)
      go_roundw
      case rel => exact ⟨k + 1, L ++ [(n0, n1, n2)], s2, rfl, by omega, hO5, Lib.hid (by rw [List.length_append, hN.out]; have := hLk.out; simp; omega), hstep, hR5, hv5, hk5⟩
      case measure => simp [intOf]; omega
    · have hlt3 : ¬ ((k : Int) < M) := by omega
      have hlt4 : decide ((k : Int) < (M : Int)) = false := by simp; omega
      have hend : r = (L, sk) := by
        have := hrk.out
        rw [show M - k = 0 by omega] at this
        exact this.symm
      replace hend := Lib.hid hend
      go_wp2
      go_ret
      exact ⟨_, rfl, by rw [hend.out]; exact hO.out, by rw [hend.out]; exact hRr.out, hkw.out⟩
end Go.Proofs.YtiplgpefapeapaaGreat

namespace Go.Proofs.YtiplgpefapeapaaGreat
open Go.RowKit

theorem rU_st {s : RS} (h : s.2 ≠ 0) : (rU s).2 = s := by unfold rU; rw [if_neg h]
theorem rB_st {s : RS} (h : s.2 ≠ 0) : (rB s).2 = s := by unfold rB; rw [if_neg h]
theorem rI_st {s : RS} (h : s.2 ≠ 0) : (rI s).2 = s := by unfold rI; exact rU_st h
theorem rCS_st {s : RS} (K : Nat) (h : s.2 ≠ 0) : rCS K s = (0, s) := by unfold rCS; rw [if_neg h]
theorem rX_st {s : RS} (h : s.2 ≠ 0) : (rX s).2 = s := by
  have h1 := rI_st h
  have h2 := rU_st h
  unfold rX
  simp only [h1, h2]
theorem pXc_st (n : Nat) (s : RS) (L : List T3) (h : s.2 ≠ 0) : (pXc n s L).2 = s := by
  induction n generalizing L with
  | zero => rfl
  | succ n ih => unfold pXc; rw [rX_st h]; exact ih _
/-- Both lists of needs go wrong together, and are the same where they do not. -/
theorem pXc_eq (n : Nat) (s : RS) (L : List T3) : ((pXc n s L).2.2 = 0 → pXc n s L = rXc n s L) ∧ ((pXc n s L).2.2 ≠ 0 → (rXc n s L).2.2 ≠ 0) := by
  induction n generalizing s L with
  | zero => exact ⟨fun _ => rfl, fun h => h⟩
  | succ n ih =>
    by_cases hs : s.2 = 0
    · unfold pXc rXc
      rw [if_pos hs]
      exact ih _ _
    · have e : (pXc (n + 1) s L).2 = s := pXc_st _ _ _ hs
      rw [e]
      refine ⟨fun h => absurd h hs, fun h => ?_⟩
      unfold rXc
      rw [if_neg hs]
      exact h
theorem pNs_eq (s : RS) : ((pNs s).2.2 = 0 → pNs s = rNs s) ∧ ((pNs s).2.2 ≠ 0 → (rNs s).2.2 ≠ 0) := pXc_eq _ _ _
theorem pNs_st {s : RS} (h : s.2 ≠ 0) : (pNs s).2 = s := by
  unfold pNs
  rw [rCS_st 1024 h]
  rfl
theorem f7_st {s : RS} (h : s.2 ≠ 0) : f7 s = s := by
  have a1 := rI_st h
  have a2 := rU_st h
  have a3 := rB_st h
  unfold f7 f6 f5 f4 f3 f2 f1
  simp only [a1, a2, a3]
/-- An answer, read by the program. -/
def pAs (s : RS) : Ans × RS := ({ rA0 s with ins := (pNs (f7 s)).1 }, (pNs (f7 s)).2)
theorem pAs_eq (s : RS) : ((pAs s).2.2 = 0 → pAs s = rAs s) ∧ ((pAs s).2.2 ≠ 0 → (rAs s).2.2 ≠ 0) := by
  have h := pNs_eq (f7 s)
  refine ⟨fun h0 => ?_, fun h0 => ?_⟩
  · have := h.1 h0
    unfold pAs
    rw [this]
    rfl
  · exact h.2 h0
theorem pAs_st {s : RS} (h : s.2 ≠ 0) : (pAs s).2 = s := by
  unfold pAs
  rw [f7_st h]
  exact pNs_st h
end Go.Proofs.YtiplgpefapeapaaGreat

namespace Go.Proofs.YtiplgpefapeapaaGreat
open Go.RowKit

theorem rNs_st {s : RS} (h : s.2 ≠ 0) : (rNs s).2 = s := by
  unfold rNs
  rw [rCS_st 1024 h]
  rfl
def pPs (s : RS) : PCl × RS :=
  (⟨(rI s).1, (rI (rI s).2).1, (pNs (rI (rI s).2).2).1, (pNs (pNs (rI (rI s).2).2).2).1, (pNs (pNs (pNs (rI (rI s).2).2).2).2).1⟩, (pNs (pNs (pNs (rI (rI s).2).2).2).2).2)
theorem pPs_st {s : RS} (h : s.2 ≠ 0) : (pPs s).2 = s := by
  have a1 := rI_st h
  have a2 := pNs_st h
  unfold pPs
  simp only [a1, a2]
theorem pPs_eq (s : RS) : ((pPs s).2.2 = 0 → pPs s = rPs s) ∧ ((pPs s).2.2 ≠ 0 → (rPs s).2.2 ≠ 0) := by
  unfold pPs rPs
  obtain ⟨t, ht⟩ : ∃ t, (rI (rI s).2).2 = t := ⟨_, rfl⟩
  rw [ht]
  by_cases h1 : (pNs t).2.2 = 0
  · rw [(pNs_eq t).1 h1]
    obtain ⟨t1, ht1⟩ : ∃ x, (rNs t).2 = x := ⟨_, rfl⟩
    rw [ht1]
    by_cases h2 : (pNs t1).2.2 = 0
    · rw [(pNs_eq t1).1 h2]
      obtain ⟨t2, ht2⟩ : ∃ x, (rNs t1).2 = x := ⟨_, rfl⟩
      rw [ht2]
      refine ⟨fun h => ?_, fun h => (pNs_eq t2).2 h⟩
      have h3 : (pNs t2).2.2 = 0 := h
      rw [(pNs_eq t2).1 h3]
    · refine ⟨fun h => ?_, fun _ => ?_⟩
      · have h3 : (pNs (pNs t1).2).2.2 = 0 := h
        rw [pNs_st h2] at h3
        exact absurd h3 h2
      · show (rNs (rNs t1).2).2.2 ≠ 0
        have h3 := (pNs_eq t1).2 h2
        rw [rNs_st h3]
        exact h3
  · refine ⟨fun h => ?_, fun _ => ?_⟩
    · have h3 : (pNs (pNs (pNs t).2).2).2.2 = 0 := h
      rw [pNs_st h1, pNs_st h1] at h3
      exact absurd h3 h1
    · show (rNs (rNs (rNs t).2).2).2.2 ≠ 0
      have h3 := (pNs_eq t).2 h1
      rw [rNs_st h3, rNs_st h3]
      exact h3
def pYc : Nat → RS → List Ans → List Ans × RS
  | 0, s, L => (L, s)
  | n + 1, s, L => pYc n (pAs s).2 (L ++ [(pAs s).1])
def pPc : Nat → RS → List PCl → List PCl × RS
  | 0, s, L => (L, s)
  | n + 1, s, L => pPc n (pPs s).2 (L ++ [(pPs s).1])
theorem pYc_st (n : Nat) (s : RS) (L : List Ans) (h : s.2 ≠ 0) : (pYc n s L).2 = s := by
  induction n generalizing L with
  | zero => rfl
  | succ n ih => unfold pYc; rw [pAs_st h]; exact ih _
theorem pPc_st (n : Nat) (s : RS) (L : List PCl) (h : s.2 ≠ 0) : (pPc n s L).2 = s := by
  induction n generalizing L with
  | zero => rfl
  | succ n ih => unfold pPc; rw [pPs_st h]; exact ih _
theorem rYc_st (n : Nat) (s : RS) (L : List Ans) (h : s.2 ≠ 0) : (rYc n s L).2 = s := by
  cases n with
  | zero => rfl
  | succ n => unfold rYc; rw [if_neg h]
theorem rPc_st (n : Nat) (s : RS) (L : List PCl) (h : s.2 ≠ 0) : (rPc n s L).2 = s := by
  cases n with
  | zero => rfl
  | succ n => unfold rPc; rw [if_neg h]
theorem pYc_eq (n : Nat) (s : RS) (L : List Ans) : ((pYc n s L).2.2 = 0 → pYc n s L = rYc n s L) ∧ ((pYc n s L).2.2 ≠ 0 → (rYc n s L).2.2 ≠ 0) := by
  induction n generalizing s L with
  | zero => exact ⟨fun _ => rfl, fun h => h⟩
  | succ n ih =>
    by_cases hs : s.2 = 0
    · unfold pYc rYc
      rw [if_pos hs]
      by_cases h1 : (pAs s).2.2 = 0
      · rw [(pAs_eq s).1 h1]
        exact ih _ _
      · have h2 := (pAs_eq s).2 h1
        rw [pYc_st _ _ _ h1, rYc_st _ _ _ h2]
        exact ⟨fun h => absurd h h1, fun _ => h2⟩
    · rw [pYc_st _ _ _ hs, rYc_st _ _ _ hs]
      exact ⟨fun h => absurd h hs, fun h => h⟩
theorem pPc_eq (n : Nat) (s : RS) (L : List PCl) : ((pPc n s L).2.2 = 0 → pPc n s L = rPc n s L) ∧ ((pPc n s L).2.2 ≠ 0 → (rPc n s L).2.2 ≠ 0) := by
  induction n generalizing s L with
  | zero => exact ⟨fun _ => rfl, fun h => h⟩
  | succ n ih =>
    by_cases hs : s.2 = 0
    · unfold pPc rPc
      rw [if_pos hs]
      by_cases h1 : (pPs s).2.2 = 0
      · rw [(pPs_eq s).1 h1]
        exact ih _ _
      · have h2 := (pPs_eq s).2 h1
        rw [pPc_st _ _ _ h1, rPc_st _ _ _ h2]
        exact ⟨fun h => absurd h h1, fun _ => h2⟩
    · rw [pPc_st _ _ _ hs, rPc_st _ _ _ hs]
      exact ⟨fun h => absurd h hs, fun h => h⟩
def eY (l : List UInt8) : List Ans × RS := pYc (rCS 1024 (rX (rI (rI (l, 0)).2).2).2).1 (rCS 1024 (rX (rI (rI (l, 0)).2).2).2).2 []
def eP (l : List UInt8) : List PCl × RS := pPc (rCS 1024 (eY l).2).1 (rCS 1024 (eY l).2).2 []
def eCt (l : List UInt8) : Ct := ⟨(rI (l, 0)).1, (rI (rI (l, 0)).2).1, (rX (rI (rI (l, 0)).2).2).1, (eY l).1, (eP l).1⟩
/-- What the program's Decode gives. -/
def decE (l : List UInt8) : Option Ct := if (eP l).2.2 = 0 ∧ doneE (eP l).2.1 (eP l).2.2 = 0 then some (eCt l) else none
theorem eP_eq (l : List UInt8) : ((eP l).2.2 = 0 → eP l = dP l ∧ eY l = dY l) ∧ ((eP l).2.2 ≠ 0 → (dP l).2.2 ≠ 0) := by
  have hY : ((eY l).2.2 = 0 → eY l = dY l) ∧ ((eY l).2.2 ≠ 0 → (dY l).2.2 ≠ 0) := pYc_eq _ _ _
  by_cases h1 : (eY l).2.2 = 0
  · have e := hY.1 h1
    unfold eP dP
    rw [e]
    have hP := pPc_eq (rCS 1024 (dY l).2).1 (rCS 1024 (dY l).2).2 []
    exact ⟨fun h => ⟨hP.1 h, rfl⟩, hP.2⟩
  · have h2 := hY.2 h1
    have e1 : (eP l).2 = (eY l).2 := by unfold eP; rw [rCS_st 1024 h1]; rfl
    have e2 : (dP l).2 = (dY l).2 := by unfold dP; rw [rCS_st 1024 h2]; rfl
    rw [e1, e2]
    exact ⟨fun h => absurd h h1, fun _ => h2⟩
/-- Where the encoding of what is read is what was read, the two agree. -/
theorem decE_eq (l : List UInt8) (hc : (dP l).2.2 = 0 → doneE (dP l).2.1 (dP l).2.2 = 0 → encCt (dCt l) = l) : decE l = decS l := by
  have h := eP_eq l
  unfold decE decS
  by_cases h1 : (eP l).2.2 = 0
  · obtain ⟨e1, e2⟩ := h.1 h1
    have e3 : eCt l = dCt l := by unfold eCt dCt; rw [e1, e2]
    rw [e1, e3]
    by_cases h2 : (dP l).2.2 = 0 ∧ doneE (dP l).2.1 (dP l).2.2 = 0
    · rw [if_pos h2, if_pos ⟨h2.1, h2.2, hc h2.1 h2.2⟩]
    · rw [if_neg h2, if_neg (fun x => h2 ⟨x.1, x.2.1⟩)]
  · have h2 := h.2 h1
    rw [if_neg (fun x => h1 x.1), if_neg (fun x => h2 x.1)]
end Go.Proofs.YtiplgpefapeapaaGreat

namespace Go.Proofs.YtiplgpefapeapaaGreat
open Go.RowKit

abbrev fAns (bF bR : Nat) : Value := .func (.func 29) #[] #[.pointer (some ⟨bF, 0, none⟩), .pointer (some ⟨bR, 0, none⟩)]
def pYs (s : RS) : List Ans × RS := pYc (rCS 1024 s).1 (rCS 1024 s).2 []
/-- An answer handed back: its inset in a block of the call's own. -/
def AnsD (w : World) (br : Nat) (s : RS) (e : Ending) (w' : World) : Prop := ∃ y : AnV, e = .returned (.agg #[.int .i64 y.m, .int .i64 y.ow, .int .u64 y.n, .int .i64 y.ep, .bool y.kn, .bool y.rt, .int .i64 y.lu, y.v]) ∧ InR w' y (pAs s).1 ∧ shT.O w' w.heap.size tI y.v (pAs s).1.ins ∧ RdS w' br (pAs s).2 ∧ Keeps [br] w w'
set_option maxRecDepth 100000 in
set_option maxHeartbeats 8000000 in
theorem readA_c (w : World) (br bR bF : Nat) (s : RS) (h : RdS w br s) (hv : DeV w br bR bF)
    (hA : ∀ (W : World) (s : RS), RdS W br s → DeV W br bR bF → Calls Tryz.prog 29 #[.pointer (some ⟨bF, 0, none⟩), .pointer (some ⟨bR, 0, none⟩)] W (AnsD W br s)) :
    Calls Tryz.prog 28 #[.pointer (some ⟨br, 0, none⟩), fAns bF bR] w fun e w' => ∃ (v : Value) (XA : List AnV), e = .returned v ∧ shA.O w' w.heap.size tA v XA ∧ LA w' XA (pYs s).1 ∧ RdS w' br (pYs s).2 ∧ Keeps [br] w w' := by
  have hlt := h.lt
  have hltR := lt_of_blk hv.r
  have hltF := lt_of_blk hv.f
  unfold pYs
  have hle := rCS_le 1024 s
  have hc := countS_c 1024 (by omega) w br s h
  obtain ⟨p, hp⟩ : ∃ p, rCS 1024 s = p := ⟨_, rfl⟩
  obtain ⟨M, s0⟩ := p
  rw [hp] at hc hle ⊢
  simp only at hc hle ⊢
  obtain ⟨B, hB⟩ : ∃ B, w.heap.size = B := ⟨_, rfl⟩
  obtain ⟨r, hr⟩ : ∃ r, pYc M s0 [] = r := ⟨_, rfl⟩
  rw [hr]
  rw [hB] at hlt hltR hltF ⊢
  replace hp := Lib.hid hp
  replace hc := Lib.hid hc
  replace hr := Lib.hid hr
  replace hlt := Lib.hid hlt
  replace hltR := Lib.hid hltR
  replace hltF := Lib.hid hltF
  replace hB := Lib.hid hB
  replace hv := Lib.hid hv
  replace hA := Lib.hid hA
  clear h
  go_enter Tryz.func28, Tryz.ntmps28
  go_wp2_with fail
  refine hc.out.mono ?_
  rintro e w1 ⟨rfl, hR1, hk1⟩
  have hv1 := Lib.hid (hv.out.rd hk1)
  replace hR1 := Lib.hid hR1
  have hk01 := Lib.hid hk1
  clear hk1 hc hv
  go_wp2
  go_loopw [5, 8] (fun lv i wr => ∃ (k : Nat) (L : List AnV) (Y : List Ans) (sk : RS), i = .int .i64 k ∧ k ≤ M ∧ Hid (shA.O wr B tA lv L) ∧ Hid (LA wr L Y) ∧ Hid (L.length ≤ k) ∧ Hid (pYc (M - k) sk Y = r) ∧ Hid (RdS wr br sk) ∧ Hid (DeV wr br bR bF) ∧ Hid (Keeps [br] w wr)) (fun _ i _ => M - (intOf i).toNat)
  case atStart => exact ⟨0, [], [], s0, rfl, by omega, Lib.hid (Sh.O.nil _ _ _ _), Lib.hid (LA.nil _), Lib.hid (by simp), Lib.hid hr.out, hR1, hv1, hk01⟩
  case round =>
    obtain ⟨k, L, Y, sk, rfl, hk, hO, hLA, hLk, hrk, hRr, hvk, hkw⟩ := hrel
    obtain ⟨oa, oc, hov⟩ := hO.out.form
    subst hov
    by_cases hlt2 : k < M
    · have hlt3 : (k : Int) < M := by omega
      obtain ⟨j, hj⟩ : ∃ j, M - k = j + 1 := ⟨M - k - 1, by omega⟩
      have hj2 : M - (k + 1) = j := by omega
      have hstep : pYc (M - (k + 1)) (pAs sk).2 (Y ++ [(pAs sk).1]) = r := by
        have := hrk.out
        rw [hj] at this
        rw [hj2]
        unfold pYc at this
        exact this
      have hcall := hA.out wr sk hRr.out hvk.out
      unfold AnsD at hcall
      obtain ⟨N, hN⟩ : ∃ N, L.length = N := ⟨_, rfl⟩
      rw [hN] at hLk hO ⊢
      have hN1 : N ≤ 1024 := by have := hLk.out; omega
      replace hcall := Lib.hid hcall
      replace hstep := Lib.hid hstep
      replace hN := Lib.hid hN
      replace hj := Lib.hid hj
      replace hj2 := Lib.hid hj2
      go_wp2_with fail
      refine hcall.out.mono ?_
      rintro e w2 ⟨⟨y0, y1, y2, y3, y4, y5, y6, y7, y8, y9⟩, rfl, hy, hyO, hR2, hk2⟩
      have hLA2 := hLA.out.ki (hk2.ki (fun b hb cs f e => by simp only [List.mem_singleton] at hb; subst hb; obtain ⟨c2, h2⟩ := hRr.out.tag; rw [h2] at e; cases e))
      have hInA : InA w2 ⟨y0, y1, y2, y3, y4, y5, y6, y7, y8, y9⟩ (pAs sk).1 := ⟨hy.m, hy.ow, hy.n, hy.ep, hy.kn, hy.rt, hy.lu, ⟨_, hyO⟩⟩
      have hLA3 := hLA2.snoc hInA
      have hO2 := hO.out.keepS hk2 (fun b hb => by simp only [List.mem_singleton] at hb; subst hb; intro e; have h2 := hO.out.ge _ e; have h3 := hlt.out; omega)
      have hmade := Sh.R.made shA w2 [(⟨y0, y1, y2, y3, y4, y5, y6, y7, y8, y9⟩ : AnV)] #[.int .i64 y0, .int .i64 y1, .int .u64 y2, .int .i64 y3, .bool y4, .bool y5, .int .i64 y6, .slice y7 y8 y9] tA rfl (by simp [maxLen]) 1 rfl
      have hkM := (Keeps.refl [] w2).alloc (.cells #[.int .i64 y0, .int .i64 y1, .int .u64 y2, .int .i64 y3, .bool y4, .bool y5, .int .i64 y6, .slice y7 y8 y9] tA)
      have hOM := hO2.keeps hkM
      have hLM := hLA3.ki hkM.ki0
      have hRM := hR2.keeps hkM
      have hvM := (hvk.out.rd hk2).keeps hkM
      have hkwM := (hkw.out.trans hk2).trans hkM.of_nil
      have hsz : B ≤ (w2.alloc (.cells #[.int .i64 y0, .int .i64 y1, .int .u64 y2, .int .i64 y3, .bool y4, .bool y5, .int .i64 y6, .slice y7 y8 y9] tA)).heap.size := by have := hkwM.size; have := hB.out; omega
      replace hmade := Lib.hid hmade
      replace hOM := Lib.hid hOM
      replace hLM := Lib.hid hLM
      replace hRM := Lib.hid hRM
      replace hvM := Lib.hid hvM
      replace hkwM := Lib.hid hkwM
      clear hkM hO2 hR2 hk2 hcall hy hyO hLA2 hInA hLA3 hLA
      simp only [AnV.v]
      go_wp2_with (first
        | (at_builtin; (refine Sh.wpl_app shA B infoA rfl Tryz.underlying29 (.slice oa N oc) (.slice (some ⟨w2.heap.size, 0, none⟩) 1 1) L [(⟨y0, y1, y2, y3, y4, y5, y6, y7, y8, y9⟩ : AnV)] rfl _ _ rfl rfl rfl hOM.out hmade.out (by rw [hN.out]; simp only [List.length_singleton]; omega) hsz ?_; intro v5 w5 hO5 hG5; have hge5 := hOM.out.ge; have hR5 := hRM.out.moved hG5.keepsO (fun hm => by have h2 := hge5 br (by simpa using hm); have h3 := hlt.out; omega) (fun b hm cs e => by obtain ⟨cs', hc⟩ := hOM.out.tag b (by simpa using hm); rw [hc] at e; cases e); have hL5 := hLM.out.ki (hG5.keepsO.ki (fun b hm cs f e => by obtain ⟨cs', hc⟩ := hOM.out.tag b (by simpa using hm); rw [hc] at e; cases e)); replace hL5 := Lib.hid hL5; have hv5 := hvM.out.keep hG5.keepsO (fun hm => by have h2 := hge5 bR (by simpa using hm); have h3 := hltR.out; omega) (fun hm => by have h2 := hge5 bF (by simpa using hm); have h3 := hltF.out; omega); have hk5 := hkwM.out.fresh hG5.keepsO (fun b hb => .inr (by have h2 := hge5 b (by simpa using hb); have h3 := hB.out; omega)); replace hO5 := Lib.hid hO5; replace hR5 := Lib.hid hR5; replace hv5 := Lib.hid hv5; replace hk5 := Lib.hid hk5; clear hG5 hge5))
        | fail)
      go_roundw
      case rel => exact ⟨k + 1, L ++ [⟨y0, y1, y2, y3, y4, y5, y6, y7, y8, y9⟩], Y ++ [(pAs sk).1], (pAs sk).2, rfl, by omega, hO5, hL5, Lib.hid (by rw [List.length_append, hN.out]; have := hLk.out; simp; omega), hstep, hR5, hv5, hk5⟩
      case measure => simp [intOf]; omega
    · have hlt3 : ¬ ((k : Int) < M) := by omega
      have hlt4 : decide ((k : Int) < (M : Int)) = false := by simp; omega
      have hend : r = (Y, sk) := by
        have := hrk.out
        rw [show M - k = 0 by omega] at this
        exact this.symm
      replace hend := Lib.hid hend
      go_wp2
      go_ret
      exact ⟨_, rfl, L, hO.out, by rw [hend.out]; exact hLA.out, by rw [hend.out]; exact hRr.out, hkw.out⟩
end Go.Proofs.YtiplgpefapeapaaGreat

namespace Go.Proofs.YtiplgpefapeapaaGreat
open Go.RowKit

abbrev fClm (bF bR bO : Nat) : Value := .func (.func 34) #[] #[.pointer (some ⟨bF, 0, none⟩), .pointer (some ⟨bR, 0, none⟩), .pointer (some ⟨bO, 0, none⟩)]
def pCs (s : RS) : List PCl × RS := pPc (rCS 1024 s).1 (rCS 1024 s).2 []
/-- The three variables that the claim's closure holds. -/
structure DeV3 (w : World) (br bR bF bO : Nat) : Prop extends DeV w br bR bF where
  o : w.heap[bO]? = some (.cells #[fOne bF bR] 62 (0, 0))
  ob : bO ≠ br
theorem DeV3.keep {w w' : World} {br bR bF bO : Nat} {S : List Nat} (h : DeV3 w br bR bF bO) (hk : Keeps S w w') (h1 : bR ∉ S) (h2 : bF ∉ S) (h3 : bO ∉ S) : DeV3 w' br bR bF bO :=
  ⟨h.toDeV.keep hk h1 h2, (hk.block bO (lt_of_blk h.o) h3).trans h.o, h.ob⟩
theorem DeV3.keeps {w w' : World} {br bR bF bO : Nat} (h : DeV3 w br bR bF bO) (hk : Keeps [] w w') : DeV3 w' br bR bF bO := h.keep hk (by simp) (by simp) (by simp)
theorem DeV3.rd {w w' : World} {br bR bF bO : Nat} (h : DeV3 w br bR bF bO) (hk : Keeps [br] w w') : DeV3 w' br bR bF bO := h.keep hk (by simpa using h.rb) (by simpa using h.fb) (by simpa using h.ob)
/-- A claim handed back. -/
def ClmD (w : World) (br : Nat) (s : RS) (e : Ending) (w' : World) : Prop := ∃ y : ClV, e = .returned (.agg #[.int .i64 y.m, .int .i64 y.ep, slv y.v1, slv y.v2, slv y.v3]) ∧ CRt w' y (pPs s).1 ∧ RdS w' br (pPs s).2 ∧ Keeps [br] w w'
set_option maxRecDepth 100000 in
set_option maxHeartbeats 8000000 in
theorem readC_c (w : World) (br bR bF bO : Nat) (s : RS) (h : RdS w br s) (hv : DeV3 w br bR bF bO)
    (hA : ∀ (W : World) (s : RS), RdS W br s → DeV3 W br bR bF bO → Calls Tryz.prog 34 #[.pointer (some ⟨bF, 0, none⟩), .pointer (some ⟨bR, 0, none⟩), .pointer (some ⟨bO, 0, none⟩)] W (ClmD W br s)) :
    Calls Tryz.prog 33 #[.pointer (some ⟨br, 0, none⟩), fClm bF bR bO] w fun e w' => ∃ (v : Value) (XC : List ClV), e = .returned v ∧ shC.O w' w.heap.size tC v XC ∧ Rows' w' XC (pCs s).1 ∧ RdS w' br (pCs s).2 ∧ Keeps [br] w w' := by
  have hlt := h.lt
  have hltR := lt_of_blk hv.r
  have hltF := lt_of_blk hv.f
  have hltO := lt_of_blk hv.o
  unfold pCs
  have hle := rCS_le 1024 s
  have hc := countS_c 1024 (by omega) w br s h
  obtain ⟨p, hp⟩ : ∃ p, rCS 1024 s = p := ⟨_, rfl⟩
  obtain ⟨M, s0⟩ := p
  rw [hp] at hc hle ⊢
  simp only at hc hle ⊢
  obtain ⟨B, hB⟩ : ∃ B, w.heap.size = B := ⟨_, rfl⟩
  obtain ⟨r, hr⟩ : ∃ r, pPc M s0 [] = r := ⟨_, rfl⟩
  rw [hr]
  rw [hB] at hlt hltR hltF hltO ⊢
  replace hp := Lib.hid hp
  replace hc := Lib.hid hc
  replace hr := Lib.hid hr
  replace hlt := Lib.hid hlt
  replace hltR := Lib.hid hltR
  replace hltF := Lib.hid hltF
  replace hltO := Lib.hid hltO
  replace hB := Lib.hid hB
  replace hv := Lib.hid hv
  replace hA := Lib.hid hA
  clear h
  go_enter Tryz.func33, Tryz.ntmps33
  go_wp2_with fail
  refine hc.out.mono ?_
  rintro e w1 ⟨rfl, hR1, hk1⟩
  have hv1 := Lib.hid (hv.out.rd hk1)
  replace hR1 := Lib.hid hR1
  have hk01 := Lib.hid hk1
  clear hk1 hc hv
  go_wp2
  go_loopw [5, 8] (fun lv i wr => ∃ (k : Nat) (L : List ClV) (Y : List PCl) (sk : RS), i = .int .i64 k ∧ k ≤ M ∧ Hid (shC.O wr B tC lv L) ∧ Hid (Rows' wr L Y) ∧ Hid (L.length ≤ k) ∧ Hid (pPc (M - k) sk Y = r) ∧ Hid (RdS wr br sk) ∧ Hid (DeV3 wr br bR bF bO) ∧ Hid (Keeps [br] w wr)) (fun _ i _ => M - (intOf i).toNat)
  case atStart => exact ⟨0, [], [], s0, rfl, by omega, Lib.hid (Sh.O.nil _ _ _ _), Lib.hid (⟨rfl, fun _ _ _ h => by simp at h⟩), Lib.hid (by simp), Lib.hid hr.out, hR1, hv1, hk01⟩
  case round =>
    obtain ⟨k, L, Y, sk, rfl, hk, hO, hLA, hLk, hrk, hRr, hvk, hkw⟩ := hrel
    obtain ⟨oa, oc, hov⟩ := hO.out.form
    subst hov
    by_cases hlt2 : k < M
    · have hlt3 : (k : Int) < M := by omega
      obtain ⟨j, hj⟩ : ∃ j, M - k = j + 1 := ⟨M - k - 1, by omega⟩
      have hj2 : M - (k + 1) = j := by omega
      have hstep : pPc (M - (k + 1)) (pPs sk).2 (Y ++ [(pPs sk).1]) = r := by
        have := hrk.out
        rw [hj] at this
        rw [hj2]
        unfold pPc at this
        exact this
      have hcall := hA.out wr sk hRr.out hvk.out
      unfold ClmD at hcall
      obtain ⟨N, hN⟩ : ∃ N, L.length = N := ⟨_, rfl⟩
      rw [hN] at hLk hO ⊢
      have hN1 : N ≤ 1024 := by have := hLk.out; omega
      replace hcall := Lib.hid hcall
      replace hstep := Lib.hid hstep
      replace hN := Lib.hid hN
      replace hj := Lib.hid hj
      replace hj2 := Lib.hid hj2
      go_wp2_with fail
      refine hcall.out.mono ?_
      rintro e w2 ⟨⟨p0, p1, ⟨va1, vn1, vc1⟩, ⟨va2, vn2, vc2⟩, ⟨va3, vn3, vc3⟩⟩, rfl, hy, hR2, hk2⟩
      have hLA2 := hLA.out.keepS hk2 (fun b hb cs f e => by simp only [List.mem_singleton] at hb; subst hb; obtain ⟨c2, h2⟩ := hRr.out.tag; rw [h2] at e; cases e)
      have hInA : CRt w2 ⟨p0, p1, (va1, vn1, vc1), (va2, vn2, vc2), (va3, vn3, vc3)⟩ (pPs sk).1 := hy
      have hLA3 := hLA2.snoc hInA
      have hO2 := hO.out.keepS hk2 (fun b hb => by simp only [List.mem_singleton] at hb; subst hb; intro e; have h2 := hO.out.ge _ e; have h3 := hlt.out; omega)
      have hmade := Sh.R.made shC w2 [(⟨p0, p1, (va1, vn1, vc1), (va2, vn2, vc2), (va3, vn3, vc3)⟩ : ClV)] #[.int .i64 p0, .int .i64 p1, .slice va1 vn1 vc1, .slice va2 vn2 vc2, .slice va3 vn3 vc3] tC rfl (by simp [maxLen]) 1 rfl
      have hkM := (Keeps.refl [] w2).alloc (.cells #[.int .i64 p0, .int .i64 p1, .slice va1 vn1 vc1, .slice va2 vn2 vc2, .slice va3 vn3 vc3] tC)
      have hOM := hO2.keeps hkM
      have hLM := hLA3.keeps hkM
      have hRM := hR2.keeps hkM
      have hvM := (hvk.out.rd hk2).keeps hkM
      have hkwM := (hkw.out.trans hk2).trans hkM.of_nil
      have hsz : B ≤ (w2.alloc (.cells #[.int .i64 p0, .int .i64 p1, .slice va1 vn1 vc1, .slice va2 vn2 vc2, .slice va3 vn3 vc3] tC)).heap.size := by have := hkwM.size; have := hB.out; omega
      replace hmade := Lib.hid hmade
      replace hOM := Lib.hid hOM
      replace hLM := Lib.hid hLM
      replace hRM := Lib.hid hRM
      replace hvM := Lib.hid hvM
      replace hkwM := Lib.hid hkwM
      clear hkM hO2 hR2 hk2 hcall hy hLA2 hInA hLA3 hLA
      simp only [slv]
      go_wp2_with (first
        | (at_builtin; (refine Sh.wpl_app shC B infoC rfl Tryz.underlying30 (.slice oa N oc) (.slice (some ⟨w2.heap.size, 0, none⟩) 1 1) L [(⟨p0, p1, (va1, vn1, vc1), (va2, vn2, vc2), (va3, vn3, vc3)⟩ : ClV)] rfl _ _ rfl rfl rfl hOM.out hmade.out (by rw [hN.out]; simp only [List.length_singleton]; omega) hsz ?_; intro v5 w5 hO5 hG5; have hge5 := hOM.out.ge; have hR5 := hRM.out.moved hG5.keepsO (fun hm => by have h2 := hge5 br (by simpa using hm); have h3 := hlt.out; omega) (fun b hm cs e => by obtain ⟨cs', hc⟩ := hOM.out.tag b (by simpa using hm); rw [hc] at e; cases e); have hL5 := hLM.out.keepS hG5.keepsO (fun b hm cs f e => by obtain ⟨cs', hc⟩ := hOM.out.tag b (by simpa using hm); rw [hc] at e; cases e); replace hL5 := Lib.hid hL5; have hv5 := hvM.out.keep hG5.keepsO (fun hm => by have h2 := hge5 bR (by simpa using hm); have h3 := hltR.out; omega) (fun hm => by have h2 := hge5 bF (by simpa using hm); have h3 := hltF.out; omega) (fun hm => by have h2 := hge5 bO (by simpa using hm); have h3 := hltO.out; omega); have hk5 := hkwM.out.fresh hG5.keepsO (fun b hb => .inr (by have h2 := hge5 b (by simpa using hb); have h3 := hB.out; omega)); replace hO5 := Lib.hid hO5; replace hR5 := Lib.hid hR5; replace hv5 := Lib.hid hv5; replace hk5 := Lib.hid hk5; clear hG5 hge5))
        | fail)
      go_roundw
      case rel => exact ⟨k + 1, L ++ [⟨p0, p1, (va1, vn1, vc1), (va2, vn2, vc2), (va3, vn3, vc3)⟩], Y ++ [(pPs sk).1], (pPs sk).2, rfl, by omega, hO5, hL5, Lib.hid (by rw [List.length_append, hN.out]; have := hLk.out; simp; omega), hstep, hR5, hv5, hk5⟩
      case measure => simp [intOf]; omega
    · have hlt3 : ¬ ((k : Int) < M) := by omega
      have hlt4 : decide ((k : Int) < (M : Int)) = false := by simp; omega
      have hend : r = (Y, sk) := by
        have := hrk.out
        rw [show M - k = 0 by omega] at this
        exact this.symm
      replace hend := Lib.hid hend
      go_wp2
      go_ret
      exact ⟨_, rfl, L, hO.out, by rw [hend.out]; exact hLA.out, by rw [hend.out]; exact hRr.out, hkw.out⟩
end Go.Proofs.YtiplgpefapeapaaGreat

namespace Go.Proofs.YtiplgpefapeapaaGreat
namespace FreeC
open Go Go.RowKit Free
open FreeO (KeepsO)

theorem loud_mono {P : Program} {o : Oper} {a : Act} {w : World} {R R' : Value → World → Prop} (h : Loud P o a w R) (hR : ∀ v w', R v w' → R' v w') : Loud P o a w R' := by
  unfold Loud at h ⊢
  generalize (execOp a.eval o).run P w = r at h ⊢
  cases r with
  | halt x w' => exact h.elim
  | ok n w' =>
    cases n <;> simp only [loudUpon] at h ⊢ <;> first | exact h.elim | exact hR _ _ h | exact h.mono fun e' w'' ⟨v, h1, h2⟩ => ⟨v, h1, hR _ _ h2⟩
section
variable (P : Program) (ops : Array Oper) (w0 : World) (loud : Nat → Bool) (F : Nat → Act → Value → World → Prop) (T : Nat → Nat → Obj → Prop) (kills : Nat → Nat → Bool) (cv : Nat → Value → Value) (Q : Act → World → Prop)

/-- THE WALK, in the order of the text. -/
def walk : List Oper → Nat → (Nat → World → Prop) → Act → Prop
  | [], n, fs, a => ∀ w', KeepsO (FreeO.sa T) w0 w' → (∀ j, j < n → unk ops kills j = true → fs j w') → Q a w'
  | o :: r, i, fs, a =>
    if Region.wanted o (yielded ops a.tmps) then
      if loud i then
        (∀ w', KeepsO (FreeO.sx ops T i) w0 w' → (∀ j, j < i → av ops kills j i = true → fs j w') → Loud P o a w' (fun v w'' => cv i v = v ∧ F i a v w'' ∧ KeepsO (T i) w' w'')) ∧
        ∀ v, walk r (i + 1) (fun j => if j = i then F i a (cv i v) else fs j) (a.put o.dst (cv i v))
      else
        ∃ c, (∀ w', KeepsO (FreeO.sx ops T i) w0 w' → (∀ j, j < i → av ops kills j i = true → fs j w') → Quiet P o a w' c) ∧ walk r (i + 1) fs (a.put o.dst c)
    else walk r (i + 1) fs (a.put o.dst undef)

variable (a0 : Act)
/-- The frame ahead of operation `i`, in the order of the text. -/
def lex (u : Nat → Value) (i : Nat) : Act := fill u (fun j => decide (j < i)) ops.toList 0 a0
def want (u : Nat → Value) (i : Nat) : Bool := match ops[i]? with | some o => Region.wanted o (yielded ops (lex ops a0 u i).tmps) | none => false
def fact (u : Nat → Value) (i : Nat) (w : World) : Prop := want ops a0 u i = true → loud i = true → F i (lex ops a0 u i) (u i) w

def Step (l : Nat → Value) (u : Nat → Value) (i : Nat) (o : Oper) : Prop :=
  if Region.wanted o (yielded ops (lex ops a0 u i).tmps) then
    if loud i then u i = cv i (l i) ∧ ∀ w', KeepsO (FreeO.sx ops T i) w0 w' → (∀ j, j < i → av ops kills j i = true → fact ops loud F a0 u j w') → Loud P o (lex ops a0 u i) w' (fun v w'' => cv i v = v ∧ F i (lex ops a0 u i) v w'' ∧ KeepsO (T i) w' w'')
    else ∀ w', KeepsO (FreeO.sx ops T i) w0 w' → (∀ j, j < i → av ops kills j i = true → fact ops loud F a0 u j w') → Quiet P o (lex ops a0 u i) w' (u i)
  else u i = undef

variable {P ops w0 loud F T kills cv Q a0}

theorem lex_congr {u u' : Nat → Value} {i : Nat} (h : ∀ j, j < i → u j = u' j) : lex ops a0 u i = lex ops a0 u' i :=
  fill_congr _ 0 _ fun j _ _ => ⟨rfl, fun hj => h j (by simpa using hj)⟩
theorem want_congr {u u' : Nat → Value} {i : Nat} (h : ∀ j, j < i → u j = u' j) : want ops a0 u i = want ops a0 u' i := by
  unfold want; rw [lex_congr h]
theorem fact_congr {u u' : Nat → Value} {i : Nat} {w : World} (h : ∀ j, j ≤ i → u j = u' j) : fact ops loud F a0 u i w = fact ops loud F a0 u' i w := by
  unfold fact; rw [want_congr (fun j hj => h j (by omega)), lex_congr (fun j hj => h j (by omega)), h i (Nat.le_refl _)]
theorem step_congr {l u u' : Nat → Value} {i : Nat} {o : Oper} (h : ∀ j, j ≤ i → u j = u' j) (hs : Step P ops w0 loud F T kills cv a0 l u i o) : Step P ops w0 loud F T kills cv a0 l u' i o := by
  have hl : lex ops a0 u i = lex ops a0 u' i := lex_congr (fun j hj => h j (by omega))
  have hf : ∀ w', (∀ j, j < i → av ops kills j i = true → fact ops loud F a0 u' j w') → ∀ j, j < i → av ops kills j i = true → fact ops loud F a0 u j w' :=
    fun w' hh j hj hp => by rw [fact_congr (fun k hk => h k (by omega))]; exact hh j hj hp
  unfold Step at *
  rw [hl, h i (Nat.le_refl _)] at hs
  split
  · rename_i hw
    rw [if_pos hw] at hs
    split
    · rename_i hl2
      rw [if_pos hl2] at hs
      exact ⟨hs.1, fun w' hk hh => hs.2 w' hk (hf w' hh)⟩
    · rename_i hl2
      rw [if_neg hl2] at hs
      exact fun w' hk hh => hs w' hk (hf w' hh)
  · rename_i hw
    rw [if_neg hw] at hs
    exact hs
theorem lex_succ (hok : Ok ops) (u : Nat → Value) (i : Nat) (o : Oper) (ho : ops[i]? = some o) : lex ops a0 u (i + 1) = (lex ops a0 u i).put o.dst (u i) := by
  unfold lex
  refine fill_put (i := i) (o := o) (by simp) (by simp) (fun j hj => ?_) _ 0 _ (Nat.zero_le _) (by simpa using ho) (fun j p hp hne t ht => ?_)
  · by_cases h : j < i
    · simp [h]; omega
    · simp [h]; omega
  · exact hok.dst i o j p ho (by simpa using hp) (by omega) t ht

/-- For each choice of the loud operations' values there are values of all operations that fit. -/
theorem flat (hok : Ok ops) (l : Nat → Value) : ∀ (r : List Oper) (i : Nat) (u : Nat → Value) (fs : Nat → World → Prop), ops.toList.drop i = r →
    (∀ j o, ops[j]? = some o → j < i → Step P ops w0 loud F T kills cv a0 l u j o) → (∀ j w', j < i → fact ops loud F a0 u j w' → fs j w') → (∀ j w', i ≤ j → fs j w') →
    walk P ops w0 loud F T kills cv Q r i fs (lex ops a0 u i) →
    ∃ u' : Nat → Value, (∀ j, j < i → u' j = u j) ∧ (∀ j o, ops[j]? = some o → Step P ops w0 loud F T kills cv a0 l u' j o) ∧
      ∀ w', KeepsO (FreeO.sa T) w0 w' → (∀ j, j < ops.size → unk ops kills j = true → fact ops loud F a0 u' j w') → Q (lex ops a0 u' ops.size) w'
  | [], i, u, fs, hr, hs, hf, hge, hw => by
    have hn : ops.size ≤ i := by simpa using hr
    have hx : lex ops a0 u i = lex ops a0 u ops.size := fill_congr _ 0 _ fun j _ hj => by
      have : j < ops.size := by simpa using hj
      exact ⟨by simp [this]; omega, fun _ => rfl⟩
    refine ⟨u, fun _ _ => rfl, fun j o ho => hs j o ho (by have := (Array.getElem?_eq_some_iff.1 ho).1; omega), fun w' hk hh => ?_⟩
    rw [← hx]
    refine hw w' hk (fun j hj hun => hf j w' hj ?_)
    by_cases h : j < ops.size
    · exact hh j h hun
    · unfold fact want
      have : ops[j]? = none := by simp; omega
      simp [this]
  | o :: r, i, u, fs, hr, hs, hf, hge, hw => by
    have ho : ops[i]? = some o := by
      have := congrArg (fun x : List Oper => x[0]?) hr
      simpa using this
    have hr' : ops.toList.drop (i + 1) = r := by
      have := congrArg List.tail hr
      simpa using this
    -- the value that this operation gets
    have go : ∀ (c : Value) (fs' : Nat → World → Prop), Step P ops w0 loud F T kills cv a0 l (fun j => if j = i then c else u j) i o →
        (∀ j w', j < i → fs j w' → fs' j w') → (∀ w', fact ops loud F a0 (fun j => if j = i then c else u j) i w' → fs' i w') → (∀ j w', i + 1 ≤ j → fs' j w') → walk P ops w0 loud F T kills cv Q r (i + 1) fs' ((lex ops a0 u i).put o.dst c) →
        ∃ u' : Nat → Value, (∀ j, j < i → u' j = u j) ∧ (∀ j o, ops[j]? = some o → Step P ops w0 loud F T kills cv a0 l u' j o) ∧
          ∀ w', KeepsO (FreeO.sa T) w0 w' → (∀ j, j < ops.size → unk ops kills j = true → fact ops loud F a0 u' j w') → Q (lex ops a0 u' ops.size) w' := by
      intro c fs' hst hfs hfi hge' hwk
      have hu : ∀ j, j < i → (fun j => if j = i then c else u j) j = u j := fun j hj => by simp; intro e; omega
      have hl : lex ops a0 (fun j => if j = i then c else u j) (i + 1) = (lex ops a0 u i).put o.dst c := by
        rw [lex_succ hok _ i o ho, lex_congr hu]; simp
      obtain ⟨u', h1, h2, h3⟩ := flat hok l r (i + 1) (fun j => if j = i then c else u j) fs' hr'
        (fun j p hp hj => by
          by_cases e : j = i
          · subst e; rw [ho] at hp; cases hp; exact hst
          · exact step_congr (fun k hk => (hu k (by omega)).symm) (hs j p hp (by omega)))
        (fun j w' hj hh => by
          by_cases e : j = i
          · subst e; exact hfi w' hh
          · exact hfs j w' (by omega) (hf j w' (by omega) (by rw [← fact_congr (fun k hk => hu k (by omega))]; exact hh)))
        hge' (by rw [hl]; exact hwk)
      exact ⟨u', fun j hj => (h1 j (by omega)).trans (hu j hj), h2, h3⟩
    have hlex : ∀ c, lex ops a0 (fun j => if j = i then c else u j) i = lex ops a0 u i := fun c => lex_congr fun j hj => by simp; intro e; omega
    have hfc : ∀ c w', (∀ j, j < i → av ops kills j i = true → fact ops loud F a0 (fun j => if j = i then c else u j) j w') → ∀ j, j < i → av ops kills j i = true → fs j w' :=
      fun c w' hh j hj hp => hf j w' hj (by
        have := hh j hj hp
        rwa [fact_congr (u' := u) (fun k hk => by simp; intro e; omega)] at this)
    unfold walk at hw
    by_cases hwant : Region.wanted o (yielded ops (lex ops a0 u i).tmps) = true
    · rw [if_pos hwant] at hw
      by_cases hl : loud i = true
      · rw [if_pos hl] at hw
        refine go (cv i (l i)) (fun j => if j = i then F i (lex ops a0 u i) (cv i (l i)) else fs j) ?_ (fun j w' hj hh => by rw [if_neg (show ¬ j = i by omega)]; exact hh) ?_ (fun j w' hj => by rw [if_neg (show ¬ j = i by omega)]; exact hge j w' (by omega)) (hw.2 (l i))
        · unfold Step
          rw [hlex, if_pos hwant, if_pos hl]
          exact ⟨by simp, fun w' hk hh => hw.1 w' hk (hfc _ w' hh)⟩
        · intro w' hh
          have h1 : want ops a0 (fun j => if j = i then cv i (l i) else u j) i = true := by
            unfold want; rw [ho]; simp only; rw [hlex]; exact hwant
          have := hh h1 hl
          rw [hlex] at this
          simpa using this
      · rw [if_neg hl] at hw
        obtain ⟨c, h1, h2⟩ := hw
        refine go c fs ?_ (fun _ _ _ hh => hh) (fun w' _ => hge i w' (Nat.le_refl _)) (fun j w' hj => hge j w' (by omega)) h2
        · unfold Step
          rw [hlex, if_pos hwant, if_neg hl]
          simp only [if_true]
          exact fun w' hk hh => h1 w' hk (hfc _ w' hh)
    · rw [if_neg hwant] at hw
      refine go undef fs ?_ (fun _ _ _ hh => hh) (fun w' _ => hge i w' (Nat.le_refl _)) (fun j w' hj => hge j w' (by omega)) hw
      · unfold Step
        rw [hlex, if_neg hwant]
        simp

theorem ready_sub {ops : Array Oper} {listed : Array Bool} (hok : Ok ops) (hr : Region.ready .any ops listed = []) (hsz : listed.size = ops.size) : ∀ n i, i < n → i < ops.size → listed.getD i false = true
  | 0, _, h, _ => by omega
  | n + 1, i, h, hi => by
    have ih := fun j (hj : j < i) => ready_sub hok hr hsz n j (by omega) (by omega)
    cases hl : listed.getD i false
    · have : i ∈ Region.ready .any ops listed := mem_ready.2 ⟨by
        have h1 : i < listed.size := by omega
        simpa [Array.getD, h1] using hl, ops[i], by simp [hi], fun e he hb => ih e.on (hok.low i _ (by simp [hi]) e he hb)⟩
      rw [hr] at this
      cases this
    · rfl

def count (listed : Array Bool) (n : Nat) : Nat := (List.range n).countP fun i => !listed.getD i false
theorem count_set {listed : Array Bool} {i : Nat} (hi : i < listed.size) (hl : listed.getD i false = false) : ∀ n, i < n → count (listed.setIfInBounds i true) n + 1 = count listed n := by
  have hset : ∀ j, (listed.setIfInBounds i true).getD j false = if j = i then true else listed.getD j false := fun j => by
    simp only [Array.getD_eq_getD_getElem?, Array.getElem?_setIfInBounds]
    by_cases e : i = j
    · subst e; simp [hi]
    · simp [e]; intro h; exact absurd h.symm e
  have same : ∀ n, n ≤ i → count (listed.setIfInBounds i true) n = count listed n := by
    intro n hn
    unfold count
    refine List.countP_congr fun j hj => ?_
    have := List.mem_range.1 hj
    rw [hset, if_neg (by omega)]
  intro n
  induction n with
  | zero => intro h; omega
  | succ n ih =>
    intro hn
    unfold count at *
    rw [List.range_succ, List.countP_append, List.countP_append]
    by_cases e : n = i
    · subst e
      rw [same n (Nat.le_refl _)]
      simp only [List.countP_cons, List.countP_nil, hset, hl]
      simp
    · have := ih (by omega)
      have hx : (listed.setIfInBounds i true).getD n false = listed.getD n false := by rw [hset, if_neg e]
      simp only [List.countP_cons, List.countP_nil, hx]
      omega
theorem getD_set {listed : Array Bool} {i j : Nat} (hi : i < listed.size) : (listed.setIfInBounds i true).getD j false = (if j = i then true else listed.getD j false) := by
  simp only [Array.getD_eq_getD_getElem?, Array.getElem?_setIfInBounds]
  by_cases e : i = j
  · subst e; simp [hi]
  · simp [e]; intro h; exact absurd h.symm e

/-- What holds at every point of a run in whatever order. -/
structure Inv (P : Program) (ops : Array Oper) (w0 : World) (loud : Nat → Bool) (F : Nat → Act → Value → World → Prop) (T : Nat → Nat → Obj → Prop) (kills : Nat → Nat → Bool) (a0 : Act) (U : (Nat → Value) → Nat → Value) (listed : Array Bool) (b : Act) (w : World) : Prop where
  size : listed.size = ops.size
  closed : ∀ (i : Nat) (o : Oper), ops[i]? = some o → listed.getD i false = true → ∀ e ∈ o.after, Region.binds .any e = true → listed.getD e.on false = true
  good : KeepsO (fun b x => ∃ k, listed.getD k false = true ∧ T k b x) w0 w
  some : ∃ l, b = fill (U l) (fun j => listed.getD j false) ops.toList 0 a0 ∧ (∀ j, listed.getD j false = true → (∀ k, k < ops.size → listed.getD k false = true → kills k j = false) → fact ops loud F a0 (U l) j w) ∧
    ∀ l', (∀ j, listed.getD j false = true → l' j = l j) → ∀ j, listed.getD j false = true → U l' j = U l j

theorem closed_pre {ops : Array Oper} {listed : Array Bool} (hok : Ok ops) (hc : ∀ (i : Nat) (o : Oper), ops[i]? = some o → listed.getD i false = true → ∀ e ∈ o.after, Region.binds .any e = true → listed.getD e.on false = true) :
    ∀ n i, i < n → ∀ o, ops[i]? = some o → (∀ e ∈ o.after, Region.binds .any e = true → listed.getD e.on false = true) → ∀ j, j < ops.size → pre ops j i = true → listed.getD j false = true
  | 0, _, h, _, _, _, _, _, _ => by omega
  | n + 1, i, h, o, ho, hr, j, hj, hp => by
    obtain ⟨e, he, hb, h1⟩ := hok.road i o ho j hj hp
    have hl := hr e he hb
    rcases h1 with rfl | h1
    · exact hl
    · have hlt := hok.low i o ho e he hb
      have hi : i < ops.size := (Array.getElem?_eq_some_iff.1 ho).1
      have hoe : ops[e.on]? = some ops[e.on] := by simp [show e.on < ops.size by omega]
      exact closed_pre hok hc n e.on (by omega) _ hoe (hc e.on _ hoe hl) j hj h1

theorem pre_lt {ops : Array Oper} (hok : Ok ops) : ∀ n i, i < n → i < ops.size → ∀ j, j < ops.size → pre ops j i = true → j < i
  | 0, _, h, _, _, _, _ => by omega
  | n + 1, i, h, hi, j, hj, hp => by
    obtain ⟨e, he, hb, h1⟩ := hok.road i ops[i] (by simp [hi]) j hj hp
    have hlt := hok.low i ops[i] (by simp [hi]) e he hb
    rcases h1 with rfl | h1
    · exact hlt
    · have := pre_lt hok n e.on (by omega) (by omega) j hj h1
      omega

theorem any (hok : Ok ops) (U : (Nat → Value) → Nat → Value)
    (hU : ∀ l, (∀ j o, ops[j]? = some o → Step P ops w0 loud F T kills cv a0 l (U l) j o) ∧ ∀ w', KeepsO (FreeO.sa T) w0 w' → (∀ j, j < ops.size → unk ops kills j = true → fact ops loud F a0 (U l) j w') → Q (lex ops a0 (U l) ops.size) w')
    (hFa : ∀ i o a b, ops[i]? = some o → Agree (o.looksAt ops) a b → ∀ v w, F i a v w → F i b v w) (hst : ∀ i k a v w w', loud i = true → i ≠ k → kills k i = false → pre ops k i = false → F i a v w → KeepsO (T k) w w' → F i a v w') {Q' : Exit → Act → World → Prop} (hQ : ∀ a w, Q a w → Q' .normal a w) :
    ∀ (fuel : Nat) (listed : Array Bool) (b : Act) (w : World), Inv P ops w0 loud F T kills a0 U listed b w → count listed ops.size = fuel → wpAny P .any ops Q' fuel listed b w := by
  -- the end: all have run
  have fin : ∀ (listed : Array Bool) (b : Act) (w : World), Inv P ops w0 loud F T kills a0 U listed b w → (∀ i, i < ops.size → listed.getD i false = true) → Q' .normal b w := by
    intro listed b w hI hall
    obtain ⟨l, rfl, hf, _⟩ := hI.some
    refine hQ _ _ ?_
    have : fill (U l) (fun j => listed.getD j false) ops.toList 0 a0 = lex ops a0 (U l) ops.size := fill_congr _ 0 _ fun j _ hj => by
      have : j < ops.size := by simpa using hj
      exact ⟨by rw [hall j this]; simp [this], fun _ => rfl⟩
    rw [this]
    exact (hU l).2 w (hI.good.mono (fun b x ⟨k, _, hk⟩ => ⟨k, hk⟩)) (fun j hj hun => hf j (hall j hj) (fun k hk _ => by
      have := List.all_eq_true.1 hun k (List.mem_range.2 hk)
      simpa using this))
  intro fuel
  induction fuel with
  | zero =>
    intro listed b w hI hc
    have hall : ∀ i, i < ops.size → listed.getD i false = true := fun i hi => by
      have := List.countP_eq_zero.1 hc i (List.mem_range.2 hi)
      simpa using this
    refine ⟨?_, fin listed b w hI hall⟩
    refine List.eq_nil_iff_forall_not_mem.2 fun i hi => ?_
    obtain ⟨h1, o, ho, _⟩ := mem_ready.1 hi
    have hlt : i < ops.size := (Array.getElem?_eq_some_iff.1 ho).1
    have h2 := hall i hlt
    have hs : i < listed.size := by rw [hI.size]; exact hlt
    simp [Array.getD, hs] at h1 h2
    rw [h1] at h2
    cases h2
  | succ fuel ih =>
    intro listed b w hI hc
    refine ⟨fun hr => fin listed b w hI (fun i hi => ready_sub hok hr hI.size (i + 1) i (by omega) hi), fun i hi => ?_⟩
    obtain ⟨h1, o, ho, hedge⟩ := mem_ready.1 hi
    have hlt : i < ops.size := (Array.getElem?_eq_some_iff.1 ho).1
    have hs : i < listed.size := by rw [hI.size]; exact hlt
    have hnl : listed.getD i false = false := by simpa [Array.getD, hs] using h1
    have hcount : count (listed.setIfInBounds i true) ops.size = fuel := by
      have := count_set hs hnl ops.size hlt
      omega
    obtain ⟨l, hb, hf, hcons⟩ := hI.some
    have hpre : ∀ j, j < ops.size → pre ops j i = true → listed.getD j false = true := closed_pre hok hI.closed (i + 1) i (by omega) o ho hedge
    -- what the operation looks at is as in the order of the text
    have hagree : ∀ l', (∀ j, listed.getD j false = true → U l' j = U l j) → Agree (o.looksAt ops) (lex ops a0 (U l') i) b := by
      intro l' hl'
      have hb' : b = fill (U l') (fun j => listed.getD j false) ops.toList 0 a0 := by
        rw [hb]; exact fill_congr _ 0 _ fun j _ _ => ⟨rfl, fun hj => (hl' j hj).symm⟩
      rw [hb']
      refine fill_agree _ 0 _ _ (Agree.refl _ _) fun j p hp hne t ht => ?_
      have hp' : ops[j]? = some p := by simpa using hp
      have hj : j < ops.size := (Array.getElem?_eq_some_iff.1 hp').1
      simp only [Nat.zero_add] at hne
      have hji : i ≠ j := fun e => by
        subst e
        rw [hnl] at hne
        simp at hne
      rcases hok.apart i o j p ho hp' hji with h | h | h
      · have h2 := pre_lt hok (i + 1) i (by omega) hlt j hj h
        rw [hpre j hj h] at hne
        simp [h2] at hne
      · have h2 := pre_lt hok (j + 1) j (by omega) hj i hlt h
        have h3 : listed.getD j false = false := by
          cases h4 : listed.getD j false
          · rfl
          · have := closed_pre hok hI.closed (j + 1) j (by omega) p hp' (hI.closed j p hp' h4) i hlt h
            rw [hnl] at this
            cases this
        rw [h3] at hne
        simp at hne
        omega
      · exact (Oper.apart_spec h).1 t ht
    have hag := hagree l (fun _ _ => rfl)
    have hex := exec_agree hag (hok.sel i o ho)
    have hwa := wanted_agree (o := o) hag
    have hfacts : ∀ j, j < i → av ops kills j i = true → fact ops loud F a0 (U l) j w := fun j hj hp => hf j (hpre j (by omega) (av_pre hp)) (fun k hk hkl => by
      cases hkk : kills k j
      · rfl
      · rcases av_kill hp hk hkk with rfl | h
        · rw [hnl] at hkl; cases hkl
        · have hok' : ops[k]? = some ops[k] := by simp [hk]
          have := closed_pre hok hI.closed (k + 1) k (by omega) _ hok' (hI.closed k _ hok' hkl) i hlt h
          rw [hnl] at this; cases this)
    have hclosed' : ∀ (k : Nat) (p : Oper), ops[k]? = some p → (listed.setIfInBounds i true).getD k false = true → ∀ e ∈ p.after, Region.binds .any e = true → (listed.setIfInBounds i true).getD e.on false = true := by
      intro k p hp hk e he hb
      rw [getD_set hs] at hk ⊢
      by_cases e1 : e.on = i
      · rw [if_pos e1]
      · rw [if_neg e1]
        by_cases e2 : k = i
        · subst e2; rw [ho] at hp; cases hp; exact hedge e he hb
        · rw [if_neg e2] at hk; exact hI.closed k p hp hk e he hb
    have hprej : ∀ j, listed.getD j false = true → pre ops i j = false := fun j hj => by
      cases hpp : pre ops i j
      · rfl
      · have hj' : j < ops.size := by
          rcases Nat.lt_or_ge j listed.size with h | h
          · rw [← hI.size]; exact h
          · simp [Array.getD, Nat.not_lt.2 h] at hj
        have := closed_pre hok hI.closed (j + 1) j (by omega) ops[j] (by simp [hj']) (hI.closed j ops[j] (by simp [hj']) hj) i hlt hpp
        rw [hnl] at this; cases this
    have hgood : KeepsO (FreeO.sx ops T i) w0 w := hI.good.mono (fun b x ⟨k, hk, ht⟩ => ⟨k, (fun e => by subst e; rw [hnl] at hk; cases hk), hprej k hk, ht⟩)
    have hgood2 : KeepsO (fun b x => ∃ k, (listed.setIfInBounds i true).getD k false = true ∧ T k b x) w0 w := hI.good.mono (fun b x ⟨k, hk, ht⟩ => ⟨k, (by rw [getD_set hs]; split <;> first | rfl | exact hk), ht⟩)
    have hagsame : ∀ l1, (∀ j, listed.getD j false = true → U l1 j = U l j) → ∀ j (hj' : j < ops.size), listed.getD j false = true → Agree (ops[j].looksAt ops) (lex ops a0 (U l1) j) (lex ops a0 (U l) j) := by
      intro l1 h2 j hj' hj
      have hp' : ops[j]? = some ops[j] := by simp [hj']
      have hprej : ∀ k, k < ops.size → pre ops k j = true → listed.getD k false = true := closed_pre hok hI.closed (j + 1) j (by omega) _ hp' (hI.closed j _ hp' hj)
      -- both frames agree with the one that has the roads to j alone
      have ag : ∀ u : Nat → Value, Agree (ops[j].looksAt ops) (lex ops a0 u j) (fill u (fun k => pre ops k j && decide (k < ops.size)) ops.toList 0 a0) := by
        intro u
        refine fill_agree _ 0 _ _ (Agree.refl _ _) fun k p hp hne t ht => ?_
        have hpk : ops[k]? = some p := by simpa using hp
        have hk : k < ops.size := (Array.getElem?_eq_some_iff.1 hpk).1
        simp only [Nat.zero_add] at hne
        have hkj : j ≠ k := fun e => by
          subst e
          have : pre ops j j = false := by
            cases hpp : pre ops j j
            · rfl
            · have := pre_lt hok (j + 1) j (by omega) hj' j hj' hpp; omega
          simp [this] at hne
        rcases hok.apart j _ k p hp' hpk hkj with h | h | h
        · have := pre_lt hok (j + 1) j (by omega) hj' k hk h
          simp [this, h, hk] at hne
        · have h9 := pre_lt hok (k + 1) k (by omega) hk j hj' h
          have h10 : pre ops k j = false := by
            cases hpp : pre ops k j
            · rfl
            · have := pre_lt hok (j + 1) j (by omega) hj' k hk hpp; omega
          simp [h10] at hne
          omega
        · exact (Oper.apart_spec h).1 t ht
      have e2 : fill (U l1) (fun k => pre ops k j && decide (k < ops.size)) ops.toList 0 a0 = fill (U l) (fun k => pre ops k j && decide (k < ops.size)) ops.toList 0 a0 :=
        fill_congr _ 0 _ fun k _ _ => ⟨rfl, fun hk => by
          simp only [Bool.and_eq_true, decide_eq_true_eq] at hk
          exact h2 k (hprej k hk.2 hk.1)⟩
      have a1 := ag (U l1)
      rw [e2] at a1
      have a2 := ag (U l)
      exact ⟨a1.1.trans a2.1.symm, fun t ht => (a1.2 t ht).trans (a2.2 t ht).symm⟩
    have hwsame : ∀ l1, (∀ j, listed.getD j false = true → U l1 j = U l j) → ∀ j (hj' : j < ops.size), listed.getD j false = true → want ops a0 (U l1) j = want ops a0 (U l) j := by
      intro l1 h2 j hj' hj
      have hp' : ops[j]? = some ops[j] := by simp [hj']
      unfold want
      rw [hp']
      exact wanted_agree (ops := ops) (hagsame l1 h2 j hj' hj)
    have next : ∀ (v : Value) (w' : World) (l1 : Nat → Value), (∀ j, listed.getD j false = true → U l1 j = U l j) → U l1 i = v → KeepsO (fun b x => ∃ k, (listed.setIfInBounds i true).getD k false = true ∧ T k b x) w0 w' → (∀ j, listed.getD j false = true → (∀ k, k < ops.size → listed.getD k false = true ∨ k = i → kills k j = false) → fact ops loud F a0 (U l) j w') → fact ops loud F a0 (U l1) i w' →
        (∀ l', (∀ j, listed.getD j false = true → l' j = l1 j) → l' i = l1 i → U l' i = v ∧ ∀ j, listed.getD j false = true → U l' j = U l1 j) →
        wpAny P .any ops Q' fuel (listed.setIfInBounds i true) (b.put o.dst v) w' := by
      intro v w' l1 h2 h3 h4 h5 h6 h7
      refine ih _ _ _ ⟨by simp [hI.size], hclosed', h4, l1, ?_, ?_, ?_⟩ hcount
      · have e1 : b = fill (U l1) (fun j => listed.getD j false) ops.toList 0 a0 := by
          rw [hb]; exact fill_congr _ 0 _ fun j _ _ => ⟨rfl, fun hj => (h2 j hj).symm⟩
        rw [e1, ← h3]
        refine (fill_put (i := i) (o := o) hnl (by rw [getD_set hs, if_pos rfl]) (fun j hj => by rw [getD_set hs, if_neg hj]) _ 0 _ (Nat.zero_le _) (by simpa using ho) (fun j p hp hne t ht => ?_)).symm
        exact hok.dst i o j p ho (by simpa using hp) (by omega) t ht
      · intro j hj hkl
        rw [getD_set hs] at hj
        by_cases e : j = i
        · subst e; exact h6
        · rw [if_neg e] at hj
          intro ha hb'
          have h8 := h5 j hj (fun k hk hor => hkl k hk (by
            rw [getD_set hs]
            rcases hor with h | h
            · split <;> first | rfl | exact h
            · rw [if_pos h]))
          have hj' : j < ops.size := by
            have : j < listed.size := by
              rcases Nat.lt_or_ge j listed.size with h | h
              · exact h
              · simp [Array.getD, Nat.not_lt.2 h] at hj
            rw [← hI.size]; exact this
          rw [h2 j hj]
          refine hFa j _ _ _ (show ops[j]? = some ops[j] by simp [hj']) (hagsame l1 h2 j hj' hj).symm _ _ (h8 ?_ hb')
          rw [← hwsame l1 h2 j hj' hj]; exact ha
      · intro l' hl' j hj
        have hA : ∀ k, listed.getD k false = true → l' k = l1 k := fun k hk => hl' k (by rw [getD_set hs]; split <;> first | rfl | exact hk)
        have hB := h7 l' hA (hl' i (by rw [getD_set hs, if_pos rfl]))
        rw [getD_set hs] at hj
        by_cases e : j = i
        · subst e; rw [hB.1, h3]
        · rw [if_neg e] at hj; exact hB.2 j hj
    have hstep := (hU l).1 i o ho
    unfold wpOp
    simp only [ho]
    unfold Step at hstep
    by_cases hwant : Region.wanted o (yielded ops (lex ops a0 (U l) i).tmps) = true
    · rw [if_pos hwant] at hstep
      rw [← hwa, if_pos hwant]
      refine .inl ?_
      have hwantl : want ops a0 (U l) i = true := by unfold want; rw [ho]; exact hwant
      by_cases hl : loud i = true
      · rw [if_pos hl] at hstep
        refine wp_of_loud (hstep.2 w hgood hfacts) hex.symm fun v w' hv => ?_
        obtain ⟨hcv, hF, hK⟩ := hv
        have hgood' : KeepsO (fun b x => ∃ k, (listed.setIfInBounds i true).getD k false = true ∧ T k b x) w0 w' := (hI.good.mono (fun b x ⟨k, hk, ht⟩ => ⟨k, (by rw [getD_set hs]; split <;> first | rfl | exact hk), ht⟩)).trans (hK.mono (fun b x hb => ⟨i, (by rw [getD_set hs, if_pos rfl]), hb⟩))
        have hl1 : ∀ j, listed.getD j false = true → (fun k => if k = i then v else l k) j = l j := fun j hj => by
          have : j ≠ i := fun e => by subst e; rw [hnl] at hj; cases hj
          simp [this]
        have hsame := hcons _ hl1
        have hst1 := (hU (fun k => if k = i then v else l k)).1 i o ho
        have hag1 := hagree _ hsame
        have hw1 : Region.wanted o (yielded ops (lex ops a0 (U fun k => if k = i then v else l k) i).tmps) = true := by
          rw [wanted_agree hag1, ← hwa]; exact hwant
        unfold Step at hst1
        rw [if_pos hw1, if_pos hl] at hst1
        have hv1 : U (fun k => if k = i then v else l k) i = v := by rw [hst1.1]; simp [hcv]
        refine next v w' _ hsame hv1 hgood' (fun j hj hkl => ?_) (fun _ _ => by rw [hv1]; exact hFa i o _ _ ho ⟨hag.1.trans hag1.1.symm, fun t ht => (hag.2 t ht).trans (hag1.2 t ht).symm⟩ _ _ hF) (fun l' h2 h3 => ?_)
        · intro ha hb'
          exact hst j i _ _ _ _ hb' (fun e => by subst e; rw [hnl] at hj; cases hj) (hkl i hlt (.inr rfl)) (hprej j hj) (hf j hj (fun k hk h => hkl k hk (.inl h)) ha hb') hK
        · have h4 : ∀ j, listed.getD j false = true → l' j = l j := fun j hj => (h2 j hj).trans (hl1 j hj)
          have h5 := hcons l' h4
          refine ⟨?_, fun j hj => (h5 j hj).trans (hsame j hj).symm⟩
          have hst2 := (hU l').1 i o ho
          have hw2 : Region.wanted o (yielded ops (lex ops a0 (U l') i).tmps) = true := by
            rw [wanted_agree (hagree l' h5), ← hwa]; exact hwant
          unfold Step at hst2
          rw [if_pos hw2, if_pos hl] at hst2
          rw [hst2.1, h3]; simp [hcv]
      · rw [if_neg hl] at hstep
        have hq := hstep w hgood hfacts
        refine wp_of_quiet hq hex.symm (next _ w l (fun _ _ => rfl) rfl hgood2 (fun j hj hkl => hf j hj (fun k hk h => hkl k hk (.inl h))) (fun _ hb' => absurd hb' hl) (fun l' h2 _ => ?_))
        have h5 := hcons l' h2
        refine ⟨?_, h5⟩
        have hst2 := (hU l').1 i o ho
        have hag2 := hagree l' h5
        have hw2 : Region.wanted o (yielded ops (lex ops a0 (U l') i).tmps) = true := by
          rw [wanted_agree hag2, ← hwa]; exact hwant
        unfold Step at hst2
        rw [if_pos hw2, if_neg hl] at hst2
        have hq2 := hst2 w hgood (fun j hj hp => ?_)
        · exact quiet_one hq2 hq ((exec_agree hag2 (hok.sel i o ho)).trans hex.symm)
        · have h6 := hfacts j hj hp
          have hj' : j < ops.size := by omega
          intro ha hb'
          rw [h5 j (hpre j hj' (av_pre hp))]
          exact hFa j _ _ _ (show ops[j]? = some ops[j] by simp [hj']) (hagsame l' h5 j hj' (hpre j hj' (av_pre hp))).symm _ _ (h6 (by rw [← hwsame l' h5 j hj' (hpre j hj' (av_pre hp))]; exact ha) hb')
    · rw [if_neg hwant] at hstep
      rw [← hwa, if_neg hwant]
      have hwf : want ops a0 (U l) i = false := by unfold want; rw [ho]; simpa using hwant
      rw [← hstep]
      refine next _ w l (fun _ _ => rfl) rfl hgood2 (fun j hj hkl => hf j hj (fun k hk h => hkl k hk (.inl h))) (fun ha => by rw [hwf] at ha; cases ha) (fun l' h2 _ => ?_)
      have h5 := hcons l' h2
      refine ⟨?_, h5⟩
      have hst2 := (hU l').1 i o ho
      have hw2 : ¬ Region.wanted o (yielded ops (lex ops a0 (U l') i).tmps) = true := by
        rw [wanted_agree (hagree l' h5), ← hwa]; exact hwant
      unfold Step at hst2
      rw [if_neg hw2] at hst2
      rw [hst2, hstep]

theorem wp_region_free {id : Nat} {l : List Oper} {a : Act} {w : World} {Q' : Exit → Act → World → Prop} (hm : P.follows .mixedOrders = true) (hB : okB l.toArray = true) (loud : Nat → Bool) (F : Nat → Act → Value → World → Prop) (T : Nat → Nat → Obj → Prop) (kills : Nat → Nat → Bool) (cv : Nat → Value → Value)
    (hFa : ∀ i o a b, l.toArray[i]? = some o → Agree (o.looksAt l.toArray) a b → ∀ v w, F i a v w → F i b v w) (hst : ∀ i k a v w w', loud i = true → i ≠ k → kills k i = false → pre l.toArray k i = false → F i a v w → KeepsO (T k) w w' → F i a v w')
    (h : walk P l.toArray w.drew loud F T kills cv (fun a' w' => Q' .normal a' w') l 0 (fun _ _ => True) a) : (Code.region id l.toArray true).wp P Q' a w := by
  refine wp_region_any hm ?_
  have hok := ok_of hB
  have hlex0 : ∀ u, lex l.toArray a u 0 = a := fun u => (fill_congr (v' := u) (S' := fun _ => false) _ 0 _ (fun j _ _ => ⟨by simp, fun _ => rfl⟩)).trans (fill_none _ 0 _)
  have hfl : ∀ l' : Nat → Value, ∃ u' : Nat → Value, (∀ j o, l.toArray[j]? = some o → Step P l.toArray w.drew loud F T kills cv a l' u' j o) ∧
      ∀ w', KeepsO (FreeO.sa T) w.drew w' → (∀ j, j < l.toArray.size → unk l.toArray kills j = true → fact l.toArray loud F a u' j w') → Q' .normal (lex l.toArray a u' l.toArray.size) w' := fun l' => by
    obtain ⟨u', _, h2, h3⟩ := flat (Q := fun a' w' => Q' .normal a' w') hok l' l 0 (fun _ => undef) (fun _ _ => True) (by simp) (fun j o _ hj => by omega) (fun _ _ _ _ => trivial) (fun _ _ _ => trivial) (by rw [hlex0]; exact h)
    exact ⟨u', h2, h3⟩
  refine any (Q := fun a' w' => Q' .normal a' w') (a0 := a) hok (fun l' => Classical.choose (hfl l')) (fun l' => Classical.choose_spec (hfl l')) hFa hst (fun _ _ h => h) _ _ _ _ ?_ ?_
  · have hno : ∀ j, (Array.replicate l.toArray.size false).getD j false = false := fun j => by
      simp only [Array.getD_eq_getD_getElem?, Array.getElem?_replicate]
      split <;> rfl
    refine ⟨by simp, fun i o _ hi => ?_, KeepsO.refl _ _, fun _ => undef, ?_, fun j hj _ => ?_, fun _ _ j hj => ?_⟩
    · rw [hno] at hi; cases hi
    · refine ((fill_congr (v' := fun _ => undef) (S' := fun _ => false) _ 0 _ (fun j _ _ => ⟨by simp only [hno], fun hj => ?_⟩)).trans (fill_none _ 0 _)).symm
      simp only [hno] at hj; cases hj
    · rw [hno] at hj; cases hj
    · rw [hno] at hj; cases hj
  · unfold count
    rw [List.countP_eq_length.2 (fun i hi => ?_)]
    · simp
    · have : (Array.replicate l.toArray.size false).getD i false = false := by
        simp only [Array.getD_eq_getD_getElem?, Array.getElem?_replicate]
        split <;> rfl
      rw [this]; rfl

theorem walk_quiet {o : Oper} {r : List Oper} {i : Nat} {fs : Nat → World → Prop} {a : Act} {c : Value} (hw : Region.wanted o (yielded ops a.tmps) = true) (hl : loud i = false)
    (h1 : ∀ w', KeepsO (FreeO.sx ops T i) w0 w' → (∀ j, j < i → av ops kills j i = true → fs j w') → Quiet P o a w' c) (h2 : walk P ops w0 loud F T kills cv Q r (i + 1) fs (a.put o.dst c)) : walk P ops w0 loud F T kills cv Q (o :: r) i fs a := by
  unfold walk
  rw [if_pos hw, if_neg (by rw [hl]; simp)]
  exact ⟨c, h1, h2⟩
theorem walk_loud {o : Oper} {r : List Oper} {i : Nat} {fs : Nat → World → Prop} {a : Act} (hw : Region.wanted o (yielded ops a.tmps) = true) (hl : loud i = true)
    (h1 : ∀ w', KeepsO (FreeO.sx ops T i) w0 w' → (∀ j, j < i → av ops kills j i = true → fs j w') → Loud P o a w' (fun v w'' => F i a v w'' ∧ KeepsO (T i) w' w''))
    (hc : ∀ v, cv i v = v) (h2 : ∀ v, walk P ops w0 loud F T kills cv Q r (i + 1) (fun j => if j = i then F i a v else fs j) (a.put o.dst v)) : walk P ops w0 loud F T kills cv Q (o :: r) i fs a := by
  unfold walk
  rw [if_pos hw, if_pos hl]
  exact ⟨fun w' hk hf => loud_mono (h1 w' hk hf) (fun v w'' hh => ⟨hc v, hh⟩), fun v => by rw [hc v]; exact h2 v⟩
theorem walk_const {o : Oper} {r : List Oper} {i : Nat} {fs : Nat → World → Prop} {a : Act} (c : Value) (hw : Region.wanted o (yielded ops a.tmps) = true) (hl : loud i = true) (hc : ∀ v, cv i v = c)
    (h1 : ∀ w', KeepsO (FreeO.sx ops T i) w0 w' → (∀ j, j < i → av ops kills j i = true → fs j w') → Loud P o a w' (fun v w'' => v = c ∧ F i a c w'' ∧ KeepsO (T i) w' w''))
    (h2 : walk P ops w0 loud F T kills cv Q r (i + 1) (fun j => if j = i then F i a c else fs j) (a.put o.dst c)) : walk P ops w0 loud F T kills cv Q (o :: r) i fs a := by
  unfold walk
  rw [if_pos hw, if_pos hl]
  exact ⟨fun w' hk hf => loud_mono (h1 w' hk hf) (fun v w'' hh => by obtain ⟨rfl, h3, h4⟩ := hh; exact ⟨hc _, h3, h4⟩), fun v => by rw [hc v]; exact h2⟩
theorem walk_nil {n : Nat} {fs : Nat → World → Prop} {a : Act} (h : ∀ w', KeepsO (FreeO.sa T) w0 w' → (∀ j, j < n → unk ops kills j = true → fs j w') → Q a w') : walk P ops w0 loud F T kills cv Q [] n fs a := h
end
end FreeC
end Go.Proofs.YtiplgpefapeapaaGreat

namespace Go.Proofs.YtiplgpefapeapaaGreat
open Go Go.RowKit
open FreeO (KeepsO)

open Classical in
/-- What is told by objects, told by a list of blocks. -/
theorem FreeO.KeepsO.list {S : Nat → Obj → Prop} {w w' : World} (h : KeepsO S w w') : ∃ l : List Nat, Keeps l w w' ∧ ∀ b ∈ l, ∃ o, w.heap[b]? = some o ∧ S b o := by
  refine ⟨(List.range w.heap.size).filter (fun b => decide (w'.heap[b]? ≠ w.heap[b]?)), ⟨h.os, h.tape, h.output, h.size, fun k hk hn => ?_⟩, fun b hb => ?_⟩
  · by_cases e : w'.heap[k]? = w.heap[k]?
    · exact e
    · exact absurd (List.mem_filter.2 ⟨List.mem_range.2 hk, by simpa using e⟩) hn
  · obtain ⟨h1, h2⟩ := List.mem_filter.1 hb
    have hlt := List.mem_range.1 h1
    obtain ⟨o, ho⟩ : ∃ o, w.heap[b]? = some o := ⟨w.heap[b], by simp [hlt]⟩
    refine ⟨o, ho, ?_⟩
    by_cases hs : S b o
    · exact hs
    · have := h.block b o ho hs
      rw [ho, this] at h2
      simp at h2
theorem FreeO.KeepsO.low {S : Nat → Obj → Prop} {w w' : World} {L : List Nat} (h : KeepsO S w w') (hS : ∀ b o, w.heap[b]? = some o → S b o → b ∈ L ∨ w.heap.size ≤ b) : Keeps L w w' :=
  ⟨h.os, h.tape, h.output, h.size, fun k hk hn => by
    obtain ⟨o, ho⟩ : ∃ o, w.heap[k]? = some o := ⟨w.heap[k], by simp [hk]⟩
    rw [ho]
    exact h.block k o ho (fun hs => by rcases hS k o ho hs with h1 | h1 <;> first | exact hn h1 | omega)⟩

/-- What operation `k` may write: a call the reader's block, the store a new block with the tag `t`. -/
def CaT (B br : Nat) (ks : List Nat) (so : Nat) (t : TypeId) (k b : Nat) (o : Obj) : Prop :=
  (k ∈ ks ∧ b = br ∧ ∃ cs f, o = .cells cs tRd f) ∨ (k = so ∧ B ≤ b ∧ ∃ cs f, o = .cells cs t f)
/-- The facts: a call has left the reader in its state; the alloc has made a block; the store has filled it. -/
def CaF (B br : Nat) (cs : List (Nat × RS)) (al so ps : Nat) (Z Y : Array Value) (t : TypeId) (i : Nat) (a : Act) (v : Value) (w' : World) : Prop :=
  (∀ c ∈ cs, i = c.1 → RdS w' br c.2) ∧
  (i = al → ∃ p, v = .pointer (some ⟨p, 0, none⟩) ∧ B ≤ p ∧ w'.heap[p]? = some (.cells Z t (0, 0))) ∧
  (i = so → ∃ p, a.tmps[ps]? = some (.pointer (some ⟨p, 0, none⟩)) ∧ B ≤ p ∧ w'.heap[p]? = some (.cells Y t (0, 0)))
def CaK (ks : List Nat) (al so : Nat) (k i : Nat) : Bool := (k == so && i == al) || (ks.contains k && ks.contains i && decide (i < k))
theorem FreeO.KeepsO.rd {B br so : Nat} {ks : List Nat} {t : TypeId} {k : Nat} {w w' : World} {s : RS} (hk : KeepsO (CaT B br ks so t k) w w') (h : RdS w br s) (hn : k ∉ ks) (ht : t ≠ tRd) (hb : t ≠ tB) : RdS w' br s := by
  obtain ⟨l, hl, hS⟩ := hk.list
  refine h.moved hl (fun hm => ?_) (fun b hm cs e => ?_)
  · obtain ⟨o, ho, hs⟩ := hS _ hm
    obtain ⟨c2, h2⟩ := h.tag
    rw [h2] at ho; cases ho
    rcases hs with ⟨h1, _⟩ | ⟨_, _, x, f, e⟩
    · exact hn h1
    · cases e; exact ht rfl
  · obtain ⟨o, ho, hs⟩ := hS _ hm
    rw [e] at ho; cases ho
    rcases hs with ⟨h1, _⟩ | ⟨_, _, x, f, e2⟩
    · exact hn h1
    · cases e2; exact hb rfl
theorem CaF.stable {ops : Array Oper} {B br : Nat} {cs : List (Nat × RS)} {ks : List Nat} {al so ps : Nat} {Z Y : Array Value} {t : TypeId} (hks : cs.map (·.1) = ks) (ht : t ≠ tRd) (hb : t ≠ tB) (hso : so ∉ ks)
    (hpre : (ks.all fun k => ks.all fun i => !decide (k < i) || Free.pre ops k i) = true)
    (i k : Nat) (a : Act) (v : Value) (w w' : World) (hne : i ≠ k) (hki : CaK ks al so k i = false) (hp : Free.pre ops k i = false) (h : CaF B br cs al so ps Z Y t i a v w) (hk : KeepsO (CaT B br ks so t k) w w') : CaF B br cs al so ps Z Y t i a v w' := by
  obtain ⟨h1, h2, h3⟩ := h
  refine ⟨fun c hc e => ?_, fun e => ?_, fun e => ?_⟩
  · have hR := h1 c hc e
    refine hk.rd hR (fun hm => ?_) ht hb
    have hi : i ∈ ks := by rw [← hks, e]; exact List.mem_map.2 ⟨c, hc, rfl⟩
    rcases Nat.lt_or_ge k i with h9 | h9
    · have h8 := List.all_eq_true.1 (List.all_eq_true.1 hpre k hm) i hi
      simp [h9, hp] at h8
    · have h9' : i < k := Nat.lt_of_le_of_ne h9 hne
      simp [CaK, hm, hi, h9'] at hki
  · obtain ⟨p, e1, hB, hc⟩ := h2 e
    refine ⟨p, e1, hB, hk.block p _ hc (fun hs => ?_)⟩
    rcases hs with ⟨_, _, x, f, e2⟩ | ⟨h9, _⟩
    · cases e2; exact ht rfl
    · simp [CaK, h9, e] at hki
  · obtain ⟨p, e1, hB, hc⟩ := h3 e
    refine ⟨p, e1, hB, hk.block p _ hc (fun hs => ?_)⟩
    rcases hs with ⟨_, _, x, f, e2⟩ | ⟨h9, _⟩
    · cases e2; exact ht rfl
    · exact hne (by rw [e, h9])
theorem CaF.agree {B br : Nat} {cs : List (Nat × RS)} {al so ps : Nat} {Z Y : Array Value} {t : TypeId} {ops : Array Oper} (hps : (ops[so]?).map (fun o => (o.looksAt ops).contains ps) = some true) (i : Nat) (o : Oper) (a b : Act) (ho : ops[i]? = some o) (hag : Free.Agree (o.looksAt ops) a b) (v : Value) (w : World)
    (h : CaF B br cs al so ps Z Y t i a v w) : CaF B br cs al so ps Z Y t i b v w := by
  refine ⟨h.1, h.2.1, fun e => ?_⟩
  subst e
  rw [ho] at hps
  have hm : ps ∈ o.looksAt ops := by simpa using hps
  obtain ⟨p, e1, rest⟩ := h.2.2 rfl
  exact ⟨p, (hag.2 ps hm) ▸ e1, rest⟩
/-- The values that are known ahead. -/
def caV : List (Nat × Value) → Nat → Value → Value
  | [], _, v => v
  | (j, y) :: r, i, v => if i = j then y else caV r i v
/-- No block but the reader's and new ones is written. -/
theorem CaT.not {ops : Array Oper} {B br so : Nat} {ks : List Nat} {t : TypeId} {i b : Nat} {o : Obj} (h1 : b ≠ br) (h2 : b < B) : ¬ FreeO.sx ops (CaT B br ks so t) i b o := by
  rintro ⟨k, _, _, h | h⟩
  · exact h1 h.2.1
  · have := h.2.1; omega
theorem CaT.keeps {B br so : Nat} {ks : List Nat} {t : TypeId} {w w' : World} (h : KeepsO (FreeO.sa (CaT B br ks so t)) w w') (hB : w.heap.size ≤ B) : Keeps [br] w w' :=
  h.low (fun b o _ hs => by
    obtain ⟨k, h1 | h1⟩ := hs
    · exact .inl (by simpa using h1.2.1)
    · exact .inr (Nat.le_trans hB h1.2.1))
/-- Ahead of the first call nothing is written. -/
theorem CaT.first {ops : Array Oper} {B br so : Nat} {ks : List Nat} {t : TypeId} {i : Nat} {w w' : World} (hc : ((ks.all fun k => (k == i) || Free.pre ops i k) && Free.pre ops i so) = true) (hg : KeepsO (FreeO.sx ops (CaT B br ks so t) i) w w') : Keeps [] w w' :=
  hg.low (fun b o _ hs => by
    simp only [Bool.and_eq_true, List.all_eq_true, Bool.or_eq_true, beq_iff_eq] at hc
    obtain ⟨k, hne, hp, h1 | h1⟩ := hs
    · rcases hc.1 k h1.1 with h2 | h2
      · exact absurd h2 hne
      · rw [hp] at h2; cases h2
    · have h2 := hc.2
      rw [← h1.1, hp] at h2; cases h2)
theorem CaT.dev {ops : Array Oper} {B br so bR bF : Nat} {ks : List Nat} {t : TypeId} {i : Nat} {w w' : World} (hg : KeepsO (FreeO.sx ops (CaT B br ks so t) i) w w') (hv : DeV w br bR bF) (h1 : bR < B) (h2 : bF < B) : DeV w' br bR bF :=
  ⟨hg.block _ _ hv.r (CaT.not hv.rb h1), hg.block _ _ hv.f (CaT.not hv.fb h2), hv.rb, hv.fb⟩
theorem CaT.dev3 {ops : Array Oper} {B br so bR bF bO : Nat} {ks : List Nat} {t : TypeId} {i : Nat} {w w' : World} (hg : KeepsO (FreeO.sx ops (CaT B br ks so t) i) w w') (hv : DeV3 w br bR bF bO) (h1 : bR < B) (h2 : bF < B) (h3 : bO < B) : DeV3 w' br bR bF bO :=
  ⟨CaT.dev hg hv.toDeV h1 h2, hg.block _ _ hv.o (CaT.not hv.ob h3), hv.ob⟩
theorem CaT.rd {B br so : Nat} {ks : List Nat} {t : TypeId} {k : Nat} {w w' : World} {s : RS} (h : Keeps [br] w w') (hR : RdS w br s) (hm : k ∈ ks) : KeepsO (CaT B br ks so t k) w w' :=
  FreeO.KeepsO.of h (fun b hb o ho => by
    simp only [List.mem_singleton] at hb; subst hb
    obtain ⟨c2, h2⟩ := hR.tag
    rw [h2] at ho; cases ho
    exact .inl ⟨hm, rfl, _, _, rfl⟩)
end Go.Proofs.YtiplgpefapeapaaGreat
