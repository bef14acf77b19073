/- Texts that the laws lean on, in the order in which they build. The program's Decode: an answer. (Printed by mkdec_new.py.) The program's Decode: a claim. (Printed by mkdeg.py.) What is read is the encoding of what it gives. Plain. The program's Decode, walked. (Printed by mkdeh.py.) The specification's Same. (Printed by mkdes.py.) The law CertificateDecodes, walked. The law's few, exactly: the number of elements of all lists, where the sum may wrap. The law CertificateEncoding, walked, where few says what it should. (Printed by mkeng.py.) -/
import Derived.Test.YtiplgpefapeapaaGreatE12
import Derived.Laws.EntriesVeiled
set_option linter.unusedVariables false
set_option linter.unusedSimpArgs false
namespace Go.Proofs.YtiplgpefapeapaaGreat
open Go.RowKit


set_option maxRecDepth 100000 in
set_option maxHeartbeats 16000000 in
theorem answerD_c (w : World) (br bR bF : Nat) (s : RS) (h : RdS w br s) (hv : DeV w br bR bF) :
    Calls Tryz.prog 29 #[.pointer (some ⟨bF, 0, none⟩), .pointer (some ⟨bR, 0, none⟩)] w (AnsD w br s) := by
  have hkZ := (Keeps.refl [] w).alloc (.cells #[.int .i64 0, .int .i64 0, .int .u64 0, .int .i64 0, .bool false, .bool false, .int .i64 0, .slice none 0 0] tA)
  have hZ := heap_alloc_new w (.cells #[.int .i64 0, .int .i64 0, .int .u64 0, .int .i64 0, .bool false, .bool false, .int .i64 0, .slice none 0 0] tA)
  have h1 := h.keeps hkZ
  have hv1 := hv.keeps hkZ
  have hbw := h.lt
  have hbR := lt_of_blk hv.r
  have hbF := lt_of_blk hv.f
  obtain ⟨p1, hp1⟩ : ∃ p, rI s = p := ⟨_, rfl⟩
  obtain ⟨y0, s1⟩ := p1
  obtain ⟨p2, hp2⟩ : ∃ p, rI s1 = p := ⟨_, rfl⟩
  obtain ⟨y1, s2⟩ := p2
  obtain ⟨p3, hp3⟩ : ∃ p, rU s2 = p := ⟨_, rfl⟩
  obtain ⟨y2, s3⟩ := p3
  obtain ⟨p4, hp4⟩ : ∃ p, rI s3 = p := ⟨_, rfl⟩
  obtain ⟨y3, s4⟩ := p4
  obtain ⟨p5, hp5⟩ : ∃ p, rB s4 = p := ⟨_, rfl⟩
  obtain ⟨y4, s5⟩ := p5
  obtain ⟨p6, hp6⟩ : ∃ p, rB s5 = p := ⟨_, rfl⟩
  obtain ⟨y5, s6⟩ := p6
  obtain ⟨p7, hp7⟩ : ∃ p, rI s6 = p := ⟨_, rfl⟩
  obtain ⟨y6, s7⟩ := p7
  obtain ⟨r, hr⟩ : ∃ r, pNs s7 = r := ⟨_, rfl⟩
  have g1 : f1 s = s1 := by unfold f1; rw [hp1]
  have g2 : f2 s = s2 := by unfold f2; rw [g1, hp2]
  have g3 : f3 s = s3 := by unfold f3; rw [g2, hp3]
  have g4 : f4 s = s4 := by unfold f4; rw [g3, hp4]
  have g5 : f5 s = s5 := by unfold f5; rw [g4, hp5]
  have g6 : f6 s = s6 := by unfold f6; rw [g5, hp6]
  have g7 : f7 s = s7 := by unfold f7; rw [g6, hp7]
  have hres : pAs s = (⟨y0, y1, y2, y3, y4, y5, y6, r.1⟩, r.2) := by unfold pAs rA0; rw [g1, g2, g3, g4, g5, g6, g7, hr, hp1, hp2, hp3, hp4, hp5, hp6, hp7]
  have hc1 := fun W h hb => number_c W br bR s h hb
  rw [hp1] at hc1
  simp only at hc1
  replace hc1 := Lib.hid hc1
  have hc2 := fun W h hb => number_c W br bR s1 h hb
  rw [hp2] at hc2
  simp only at hc2
  replace hc2 := Lib.hid hc2
  have hc3 := fun W h => uintS_c W br s2 h
  rw [hp3] at hc3
  simp only at hc3
  replace hc3 := Lib.hid hc3
  have hc4 := fun W h hb => number_c W br bR s3 h hb
  rw [hp4] at hc4
  simp only at hc4
  replace hc4 := Lib.hid hc4
  have hc5 := fun W h => boolS_c W br s4 h
  rw [hp5] at hc5
  simp only at hc5
  replace hc5 := Lib.hid hc5
  have hc6 := fun W h => boolS_c W br s5 h
  rw [hp6] at hc6
  simp only at hc6
  replace hc6 := Lib.hid hc6
  have hc7 := fun W h hb => number_c W br bR s6 h hb
  rw [hp7] at hc7
  simp only at hc7
  replace hc7 := Lib.hid hc7
  have hc8 := fun W h hv => readI_c W br bR bF s7 h hv
  rw [hr] at hc8
  replace hc8 := Lib.hid hc8
  replace hp1 := Lib.hid hp1
  replace g1 := Lib.hid g1
  replace hp2 := Lib.hid hp2
  replace g2 := Lib.hid g2
  replace hp3 := Lib.hid hp3
  replace g3 := Lib.hid g3
  replace hp4 := Lib.hid hp4
  replace g4 := Lib.hid g4
  replace hp5 := Lib.hid hp5
  replace g5 := Lib.hid g5
  replace hp6 := Lib.hid hp6
  replace g6 := Lib.hid g6
  replace hp7 := Lib.hid hp7
  replace g7 := Lib.hid g7
  replace hr := Lib.hid hr
  replace hres := Lib.hid hres
  replace hkZ := Lib.hid hkZ
  replace hZ := Lib.hid hZ
  replace hbw := Lib.hid hbw
  replace hbR := Lib.hid hbR
  replace hbF := Lib.hid hbF
  replace h1 := Lib.hid h1
  replace hv1 := Lib.hid hv1
  clear h hv g1 g2 g3 g4 g5 g6 g7
  go_enter Tryz.func29, Tryz.ntmps29
  go_upto_region 1 with fail
  generalize (w.alloc (.cells #[.int .i64 0, .int .i64 0, .int .u64 0, .int .i64 0, .bool false, .bool false, .int .i64 0, .slice none 0 0] tA)) = W at *
  obtain ⟨Z, hZZ⟩ : ∃ B, w.heap.size = B := ⟨_, rfl⟩
  rw [hZZ] at hZ hbw hbR hbF ⊢
  replace hZZ := Lib.hid hZZ
  obtain ⟨WS, hWS⟩ : ∃ n, W.heap.size = n := ⟨_, rfl⟩
  have hZl : Hid (Z < WS) := Lib.hid (by rw [← hWS]; exact lt_of_blk hZ.out)
  replace hWS := Lib.hid hWS
  have hR0 := Lib.hid (h1.out.keeps (Keeps.refl [] W).drew)
  have hv0 := Lib.hid (hv1.out.keeps (Keeps.refl [] W).drew)
  have hZ0 := Lib.hid (((Keeps.refl [] W).drew.block Z (lt_of_blk hZ.out) (by simp)).trans hZ.out)
  have hk0 : Hid (Keeps [br] w W.drew) := Lib.hid (hkZ.out.trans (Keeps.refl [] W).drew).of_nil
  have hWS' : Hid (W.drew.heap.size = WS) := Lib.hid hWS.out
  have hbR9 : Hid (bR < WS) := Lib.hid (by have h1 := hbR.out; have h2 := hZl.out; omega)
  have hbF9 : Hid (bF < WS) := Lib.hid (by have h1 := hbF.out; have h2 := hZl.out; omega)
  obtain ⟨r0, rf, rl⟩ := cl1 hv0.out.r
  obtain ⟨f0, ff, fl⟩ := cl1 hv0.out.f
  refine FreeC.wp_region_free (by kernel_rfl) (by kernel_rfl) (fun i => i == 1 || i == 3 || i == 5 || i == 7 || i == 9 || i == 11 || i == 13 || i == 15 || i == 16) (CaF WS br [(1, s1), (3, s2), (5, s3), (7, s4), (9, s5), (11, s6), (13, s7)] 15 16 3 #[.int .i64 0, .int .i64 0, .int .u64 0, .int .i64 0, .bool false, .bool false, .int .i64 0, .slice none 0 0] #[.int .i64 y0, .int .i64 y1, .int .u64 y2, .int .i64 y3, .bool y4, .bool y5, .int .i64 y6, .slice none 0 0] tA) (CaT WS br [1, 3, 5, 7, 9, 11, 13] 16 tA) (CaK [1, 3, 5, 7, 9, 11, 13] 15 16) (caV [(1, .int .i64 y0), (3, .int .i64 y1), (5, .int .u64 y2), (7, .int .i64 y3), (9, .bool y4), (11, .bool y5), (13, .int .i64 y6)]) (CaF.agree (by kernel_rfl)) (fun i k a v w w' _ h2 h3 h4 h5 h6 => CaF.stable (ks := [1, 3, 5, 7, 9, 11, 13]) rfl (by decide) (by decide) (by decide) (by kernel_rfl) i k a v w w' h2 h3 h4 h5 h6) ?_
  apply FreeC.walk_quiet rfl rfl
  · intro w' hg hf
    clear hf
    have g0 := hg.cell hv0.out.f (CaT.not hv0.out.fb hbF9.out) f0
    go_simp <;> exact rfl
  refine FreeC.walk_const (.int .i64 y0) rfl rfl (fun _ => rfl) ?_ ?_
  · intro w' hg hf
    have hRp := hR0.out.keeps (CaT.first (by kernel_rfl) hg)
    have hvw := CaT.dev hg hv0.out hbR9.out hbF9.out
    clear hf hg
    go_simp
    refine (hc1.out w' hRp hvw.r).mono ?_
    rintro e w3 ⟨rfl, hR9, hk9⟩
    refine ⟨_, rfl, rfl, ⟨fun c hc e => ?_, fun h => absurd h (by decide), fun h => absurd h (by decide)⟩, CaT.rd hk9 hRp (by decide)⟩
    simp only [List.mem_cons, List.not_mem_nil, or_false] at hc
    rcases hc with rfl | rfl | rfl | rfl | rfl | rfl | rfl
    · exact hR9
    · exact absurd (show (1 : Nat) = 3 from e) (by decide)
    · exact absurd (show (1 : Nat) = 5 from e) (by decide)
    · exact absurd (show (1 : Nat) = 7 from e) (by decide)
    · exact absurd (show (1 : Nat) = 9 from e) (by decide)
    · exact absurd (show (1 : Nat) = 11 from e) (by decide)
    · exact absurd (show (1 : Nat) = 13 from e) (by decide)
  apply FreeC.walk_quiet rfl rfl
  · intro w' hg hf
    clear hf
    have g0 := hg.cell hv0.out.f (CaT.not hv0.out.fb hbF9.out) f0
    go_simp <;> exact rfl
  refine FreeC.walk_const (.int .i64 y1) rfl rfl (fun _ => rfl) ?_ ?_
  · intro w' hg hf
    have hp9 := hf 1 (by decide) (by kernel_rfl)
    have hRp : RdS w' br s1 := (show CaF WS br [(1, s1), (3, s2), (5, s3), (7, s4), (9, s5), (11, s6), (13, s7)] 15 16 3 #[.int .i64 0, .int .i64 0, .int .u64 0, .int .i64 0, .bool false, .bool false, .int .i64 0, .slice none 0 0] #[.int .i64 y0, .int .i64 y1, .int .u64 y2, .int .i64 y3, .bool y4, .bool y5, .int .i64 y6, .slice none 0 0] tA 1 _ _ w' from by simpa using hp9).1 (1, s1) (by simp) rfl
    clear hp9
    have hvw := CaT.dev hg hv0.out hbR9.out hbF9.out
    clear hf hg
    go_simp
    refine (hc2.out w' hRp hvw.r).mono ?_
    rintro e w3 ⟨rfl, hR9, hk9⟩
    refine ⟨_, rfl, rfl, ⟨fun c hc e => ?_, fun h => absurd h (by decide), fun h => absurd h (by decide)⟩, CaT.rd hk9 hRp (by decide)⟩
    simp only [List.mem_cons, List.not_mem_nil, or_false] at hc
    rcases hc with rfl | rfl | rfl | rfl | rfl | rfl | rfl
    · exact absurd (show (3 : Nat) = 1 from e) (by decide)
    · exact hR9
    · exact absurd (show (3 : Nat) = 5 from e) (by decide)
    · exact absurd (show (3 : Nat) = 7 from e) (by decide)
    · exact absurd (show (3 : Nat) = 9 from e) (by decide)
    · exact absurd (show (3 : Nat) = 11 from e) (by decide)
    · exact absurd (show (3 : Nat) = 13 from e) (by decide)
  apply FreeC.walk_quiet rfl rfl
  · intro w' hg hf
    clear hf
    have g0 := hg.cell hv0.out.r (CaT.not hv0.out.rb hbR9.out) r0
    go_simp <;> exact rfl
  refine FreeC.walk_const (.int .u64 y2) rfl rfl (fun _ => rfl) ?_ ?_
  · intro w' hg hf
    have hp9 := hf 3 (by decide) (by kernel_rfl)
    have hRp : RdS w' br s2 := (show CaF WS br [(1, s1), (3, s2), (5, s3), (7, s4), (9, s5), (11, s6), (13, s7)] 15 16 3 #[.int .i64 0, .int .i64 0, .int .u64 0, .int .i64 0, .bool false, .bool false, .int .i64 0, .slice none 0 0] #[.int .i64 y0, .int .i64 y1, .int .u64 y2, .int .i64 y3, .bool y4, .bool y5, .int .i64 y6, .slice none 0 0] tA 3 _ _ w' from by simpa using hp9).1 (3, s2) (by simp) rfl
    clear hp9
    have hvw := CaT.dev hg hv0.out hbR9.out hbF9.out
    clear hf hg
    go_simp
    refine (hc3.out w' hRp).mono ?_
    rintro e w3 ⟨rfl, hR9, hk9⟩
    refine ⟨_, rfl, rfl, ⟨fun c hc e => ?_, fun h => absurd h (by decide), fun h => absurd h (by decide)⟩, CaT.rd hk9 hRp (by decide)⟩
    simp only [List.mem_cons, List.not_mem_nil, or_false] at hc
    rcases hc with rfl | rfl | rfl | rfl | rfl | rfl | rfl
    · exact absurd (show (5 : Nat) = 1 from e) (by decide)
    · exact absurd (show (5 : Nat) = 3 from e) (by decide)
    · exact hR9
    · exact absurd (show (5 : Nat) = 7 from e) (by decide)
    · exact absurd (show (5 : Nat) = 9 from e) (by decide)
    · exact absurd (show (5 : Nat) = 11 from e) (by decide)
    · exact absurd (show (5 : Nat) = 13 from e) (by decide)
  apply FreeC.walk_quiet rfl rfl
  · intro w' hg hf
    clear hf
    have g0 := hg.cell hv0.out.f (CaT.not hv0.out.fb hbF9.out) f0
    go_simp <;> exact rfl
  refine FreeC.walk_const (.int .i64 y3) rfl rfl (fun _ => rfl) ?_ ?_
  · intro w' hg hf
    have hp9 := hf 5 (by decide) (by kernel_rfl)
    have hRp : RdS w' br s3 := (show CaF WS br [(1, s1), (3, s2), (5, s3), (7, s4), (9, s5), (11, s6), (13, s7)] 15 16 3 #[.int .i64 0, .int .i64 0, .int .u64 0, .int .i64 0, .bool false, .bool false, .int .i64 0, .slice none 0 0] #[.int .i64 y0, .int .i64 y1, .int .u64 y2, .int .i64 y3, .bool y4, .bool y5, .int .i64 y6, .slice none 0 0] tA 5 _ _ w' from by simpa using hp9).1 (5, s3) (by simp) rfl
    clear hp9
    have hvw := CaT.dev hg hv0.out hbR9.out hbF9.out
    clear hf hg
    go_simp
    refine (hc4.out w' hRp hvw.r).mono ?_
    rintro e w3 ⟨rfl, hR9, hk9⟩
    refine ⟨_, rfl, rfl, ⟨fun c hc e => ?_, fun h => absurd h (by decide), fun h => absurd h (by decide)⟩, CaT.rd hk9 hRp (by decide)⟩
    simp only [List.mem_cons, List.not_mem_nil, or_false] at hc
    rcases hc with rfl | rfl | rfl | rfl | rfl | rfl | rfl
    · exact absurd (show (7 : Nat) = 1 from e) (by decide)
    · exact absurd (show (7 : Nat) = 3 from e) (by decide)
    · exact absurd (show (7 : Nat) = 5 from e) (by decide)
    · exact hR9
    · exact absurd (show (7 : Nat) = 9 from e) (by decide)
    · exact absurd (show (7 : Nat) = 11 from e) (by decide)
    · exact absurd (show (7 : Nat) = 13 from e) (by decide)
  apply FreeC.walk_quiet rfl rfl
  · intro w' hg hf
    clear hf
    have g0 := hg.cell hv0.out.r (CaT.not hv0.out.rb hbR9.out) r0
    go_simp <;> exact rfl
  refine FreeC.walk_const (.bool y4) rfl rfl (fun _ => rfl) ?_ ?_
  · intro w' hg hf
    have hp9 := hf 7 (by decide) (by kernel_rfl)
    have hRp : RdS w' br s4 := (show CaF WS br [(1, s1), (3, s2), (5, s3), (7, s4), (9, s5), (11, s6), (13, s7)] 15 16 3 #[.int .i64 0, .int .i64 0, .int .u64 0, .int .i64 0, .bool false, .bool false, .int .i64 0, .slice none 0 0] #[.int .i64 y0, .int .i64 y1, .int .u64 y2, .int .i64 y3, .bool y4, .bool y5, .int .i64 y6, .slice none 0 0] tA 7 _ _ w' from by simpa using hp9).1 (7, s4) (by simp) rfl
    clear hp9
    have hvw := CaT.dev hg hv0.out hbR9.out hbF9.out
    clear hf hg
    go_simp
    refine (hc5.out w' hRp).mono ?_
    rintro e w3 ⟨rfl, hR9, hk9⟩
    refine ⟨_, rfl, rfl, ⟨fun c hc e => ?_, fun h => absurd h (by decide), fun h => absurd h (by decide)⟩, CaT.rd hk9 hRp (by decide)⟩
    simp only [List.mem_cons, List.not_mem_nil, or_false] at hc
    rcases hc with rfl | rfl | rfl | rfl | rfl | rfl | rfl
    · exact absurd (show (9 : Nat) = 1 from e) (by decide)
    · exact absurd (show (9 : Nat) = 3 from e) (by decide)
    · exact absurd (show (9 : Nat) = 5 from e) (by decide)
    · exact absurd (show (9 : Nat) = 7 from e) (by decide)
    · exact hR9
    · exact absurd (show (9 : Nat) = 11 from e) (by decide)
    · exact absurd (show (9 : Nat) = 13 from e) (by decide)
  apply FreeC.walk_quiet rfl rfl
  · intro w' hg hf
    clear hf
    have g0 := hg.cell hv0.out.r (CaT.not hv0.out.rb hbR9.out) r0
    go_simp <;> exact rfl
  refine FreeC.walk_const (.bool y5) rfl rfl (fun _ => rfl) ?_ ?_
  · intro w' hg hf
    have hp9 := hf 9 (by decide) (by kernel_rfl)
    have hRp : RdS w' br s5 := (show CaF WS br [(1, s1), (3, s2), (5, s3), (7, s4), (9, s5), (11, s6), (13, s7)] 15 16 3 #[.int .i64 0, .int .i64 0, .int .u64 0, .int .i64 0, .bool false, .bool false, .int .i64 0, .slice none 0 0] #[.int .i64 y0, .int .i64 y1, .int .u64 y2, .int .i64 y3, .bool y4, .bool y5, .int .i64 y6, .slice none 0 0] tA 9 _ _ w' from by simpa using hp9).1 (9, s5) (by simp) rfl
    clear hp9
    have hvw := CaT.dev hg hv0.out hbR9.out hbF9.out
    clear hf hg
    go_simp
    refine (hc6.out w' hRp).mono ?_
    rintro e w3 ⟨rfl, hR9, hk9⟩
    refine ⟨_, rfl, rfl, ⟨fun c hc e => ?_, fun h => absurd h (by decide), fun h => absurd h (by decide)⟩, CaT.rd hk9 hRp (by decide)⟩
    simp only [List.mem_cons, List.not_mem_nil, or_false] at hc
    rcases hc with rfl | rfl | rfl | rfl | rfl | rfl | rfl
    · exact absurd (show (11 : Nat) = 1 from e) (by decide)
    · exact absurd (show (11 : Nat) = 3 from e) (by decide)
    · exact absurd (show (11 : Nat) = 5 from e) (by decide)
    · exact absurd (show (11 : Nat) = 7 from e) (by decide)
    · exact absurd (show (11 : Nat) = 9 from e) (by decide)
    · exact hR9
    · exact absurd (show (11 : Nat) = 13 from e) (by decide)
  apply FreeC.walk_quiet rfl rfl
  · intro w' hg hf
    clear hf
    have g0 := hg.cell hv0.out.f (CaT.not hv0.out.fb hbF9.out) f0
    go_simp <;> exact rfl
  refine FreeC.walk_const (.int .i64 y6) rfl rfl (fun _ => rfl) ?_ ?_
  · intro w' hg hf
    have hp9 := hf 11 (by decide) (by kernel_rfl)
    have hRp : RdS w' br s6 := (show CaF WS br [(1, s1), (3, s2), (5, s3), (7, s4), (9, s5), (11, s6), (13, s7)] 15 16 3 #[.int .i64 0, .int .i64 0, .int .u64 0, .int .i64 0, .bool false, .bool false, .int .i64 0, .slice none 0 0] #[.int .i64 y0, .int .i64 y1, .int .u64 y2, .int .i64 y3, .bool y4, .bool y5, .int .i64 y6, .slice none 0 0] tA 11 _ _ w' from by simpa using hp9).1 (11, s6) (by simp) rfl
    clear hp9
    have hvw := CaT.dev hg hv0.out hbR9.out hbF9.out
    clear hf hg
    go_simp
    refine (hc7.out w' hRp hvw.r).mono ?_
    rintro e w3 ⟨rfl, hR9, hk9⟩
    refine ⟨_, rfl, rfl, ⟨fun c hc e => ?_, fun h => absurd h (by decide), fun h => absurd h (by decide)⟩, CaT.rd hk9 hRp (by decide)⟩
    simp only [List.mem_cons, List.not_mem_nil, or_false] at hc
    rcases hc with rfl | rfl | rfl | rfl | rfl | rfl | rfl
    · exact absurd (show (13 : Nat) = 1 from e) (by decide)
    · exact absurd (show (13 : Nat) = 3 from e) (by decide)
    · exact absurd (show (13 : Nat) = 5 from e) (by decide)
    · exact absurd (show (13 : Nat) = 7 from e) (by decide)
    · exact absurd (show (13 : Nat) = 9 from e) (by decide)
    · exact absurd (show (13 : Nat) = 11 from e) (by decide)
    · exact hR9
  apply FreeC.walk_quiet rfl rfl
  · intro w' hg hf
    clear hf
    go_simp <;> exact rfl
  apply FreeC.walk_loud rfl rfl
  · intro w' hg hf
    have hB := hg.size
    have hn := heap_alloc_new w' (.cells #[.int .i64 0, .int .i64 0, .int .u64 0, .int .i64 0, .bool false, .bool false, .int .i64 0, .slice none 0 0] tA)
    clear hf hg
    go_simp
    exact ⟨⟨fun c hc e => by
      simp only [List.mem_cons, List.not_mem_nil, or_false] at hc
      rcases hc with rfl | rfl | rfl | rfl | rfl | rfl | rfl
      · exact absurd (show (15 : Nat) = 1 from e) (by decide)
      · exact absurd (show (15 : Nat) = 3 from e) (by decide)
      · exact absurd (show (15 : Nat) = 5 from e) (by decide)
      · exact absurd (show (15 : Nat) = 7 from e) (by decide)
      · exact absurd (show (15 : Nat) = 9 from e) (by decide)
      · exact absurd (show (15 : Nat) = 11 from e) (by decide)
      · exact absurd (show (15 : Nat) = 13 from e) (by decide), fun _ => ⟨_, rfl, Nat.le_trans (Nat.le_of_eq hWS'.out.symm) hB, hn⟩, fun h => absurd h (by decide)⟩, FreeO.KeepsO.of ((Keeps.refl [] w').alloc _) (by simp)⟩
  · exact fun _ => rfl
  intro v15
  apply FreeC.walk_loud rfl rfl
  · intro w' hg hf
    have h6 := hf 15 (by decide) (by kernel_rfl)
    obtain ⟨p, e6, hp, hp3⟩ := (show CaF WS br [(1, s1), (3, s2), (5, s3), (7, s4), (9, s5), (11, s6), (13, s7)] 15 16 3 #[.int .i64 0, .int .i64 0, .int .u64 0, .int .i64 0, .bool false, .bool false, .int .i64 0, .slice none 0 0] #[.int .i64 y0, .int .i64 y1, .int .u64 y2, .int .i64 y3, .bool y4, .bool y5, .int .i64 y6, .slice none 0 0] tA 15 _ v15 w' from by simpa using h6).2.1 rfl
    clear h6 hg hf
    subst e6
    obtain ⟨x0, x1, x2, x3, x4, x5, x6, x7, xf, xl⟩ := cl8 hp3
    have hsc := sc8 (.int .i64 y0) (.int .i64 y1) (.int .u64 y2) (.int .i64 y3) (.bool y4) (.bool y5) (.int .i64 y6) (.slice none 0 0) hp3
    have hK' : FreeO.KeepsO (CaT WS br [1, 3, 5, 7, 9, 11, 13] 16 tA 16) w' _ := FreeO.KeepsO.of hsc.2 (fun b hb o ho => by simp only [List.mem_singleton] at hb; subst hb; rw [hp3] at ho; cases ho; exact .inr ⟨rfl, hp, _, _, rfl⟩)
    have hs1 := hsc.1
    clear hsc
    replace hK' := Lib.hid hK'
    replace hs1 := Lib.hid hs1
    go_simp
    exact ⟨⟨fun c hc e => by
      simp only [List.mem_cons, List.not_mem_nil, or_false] at hc
      rcases hc with rfl | rfl | rfl | rfl | rfl | rfl | rfl
      · exact absurd (show (16 : Nat) = 1 from e) (by decide)
      · exact absurd (show (16 : Nat) = 3 from e) (by decide)
      · exact absurd (show (16 : Nat) = 5 from e) (by decide)
      · exact absurd (show (16 : Nat) = 7 from e) (by decide)
      · exact absurd (show (16 : Nat) = 9 from e) (by decide)
      · exact absurd (show (16 : Nat) = 11 from e) (by decide)
      · exact absurd (show (16 : Nat) = 13 from e) (by decide), fun h => absurd h (by decide), fun _ => ⟨p, rfl, hp, hs1.out⟩⟩, hK'.out⟩
  · exact fun _ => rfl
  intro v16
  refine FreeC.walk_nil ?_
  intro wF hg hf
  have hpL := hf 13 (by decide) (by kernel_rfl)
  have hpS := hf 16 (by decide) (by kernel_rfl)
  clear hf
  have hRF : RdS wF br s7 := (show CaF WS br [(1, s1), (3, s2), (5, s3), (7, s4), (9, s5), (11, s6), (13, s7)] 15 16 3 #[.int .i64 0, .int .i64 0, .int .u64 0, .int .i64 0, .bool false, .bool false, .int .i64 0, .slice none 0 0] #[.int .i64 y0, .int .i64 y1, .int .u64 y2, .int .i64 y3, .bool y4, .bool y5, .int .i64 y6, .slice none 0 0] tA 13 _ _ wF from by simpa using hpL).1 (13, s7) (by simp) rfl
  obtain ⟨X, eX, hpB, hXF⟩ := (show CaF WS br [(1, s1), (3, s2), (5, s3), (7, s4), (9, s5), (11, s6), (13, s7)] 15 16 3 #[.int .i64 0, .int .i64 0, .int .u64 0, .int .i64 0, .bool false, .bool false, .int .i64 0, .slice none 0 0] #[.int .i64 y0, .int .i64 y1, .int .u64 y2, .int .i64 y3, .bool y4, .bool y5, .int .i64 y6, .slice none 0 0] tA 16 _ v16 wF from by simpa using hpS).2.2 rfl
  clear hpL hpS
  simp [Act.put] at eX
  subst eX
  have hkF := CaT.keeps hg (Nat.le_of_eq hWS'.out)
  have hZX1 : Z < X := Nat.lt_of_lt_of_le hZl.out hpB
  have hRe := hRF
  have hve := hv0.out.rd hkF
  have hZe := (hkF.block Z (lt_of_blk hZ0.out) (by have := hbw.out; simp only [List.mem_singleton]; omega)).trans hZ0.out
  have hke := Lib.hid (hk0.out.trans hkF)
  have hg1 := Lib.hid hXF
  clear hXF hRF hkF hg hZ0 hk0 hR0 hv0 hpB r0 rf rl f0 ff fl
  replace hZX1 := Lib.hid hZX1
  have hX := Lib.hid hg1.out
  have hcall := hc8.out wF hRe hve
  obtain ⟨r0, rf, rl⟩ := cl1 hve.r
  replace hcall := Lib.hid hcall
  replace hZe := Lib.hid hZe
  have hlX := Lib.hid (lt_of_blk hX.out)
  have hXbr : Hid (X ≠ br) := Lib.hid (by have h1 := hbw.out; have h2 := hZX1.out; omega)
  have hZbr : Hid (Z ≠ br) := Lib.hid (by have h1 := hbw.out; omega)
  clear hRe hve hg1
  go_wp2_with fail
  refine hcall.out.mono ?_
  rintro e u ⟨v, rfl, hO, hRu, hku⟩
  obtain ⟨oa, oc, rfl⟩ := hO.form
  clear r0 rf rl
  have hXu := (hku.block X hlX.out (by simpa using hXbr.out)).trans hX.out
  have hZu := (hku.block Z (lt_of_blk hZe.out) (by simpa using hZbr.out)).trans hZe.out
  obtain ⟨N, hN⟩ : ∃ N, r.1.length = N := ⟨_, rfl⟩
  rw [hN] at hO ⊢
  have hs : Keeps [X] u (u.setCell ⟨X, 7, none⟩ (.slice oa N oc)) := (Keeps.refl _ _).setCell (.inr (by simp)) _
  have hX2 : (u.setCell ⟨X, 7, none⟩ (.slice oa N oc)).heap[X]? = some (.cells #[.int .i64 y0, .int .i64 y1, .int .u64 y2, .int .i64 y3, .bool y4, .bool y5, .int .i64 y6, .slice oa N oc] tA (0, 0)) := by simp [World.setCell, Array.getElem?_modify, hXu]
  have hZ2 := (hs.block Z (lt_of_blk hZu) (by have := hZX1.out; simp only [List.mem_singleton]; omega)).trans hZu
  have hR2 := hRu.other hs hXu (by decide) (by decide)
  have hO2 := hO.keepS hs (fun b hb e => by simp only [List.mem_singleton] at hb; subst hb; have h2 := hO.ge _ e; have h3 := hlX.out; omega)
  have hk2 := (hke.out.trans hku).fresh hs (fun b hb => by simp only [List.mem_singleton] at hb; subst hb; have h1 := hZZ.out; have h2 := hZX1.out; exact .inr (by omega))
  obtain ⟨x0, x1, x2, x3, x4, x5, x6, x7, xf, xl⟩ := cl8 hXu
  have hX2 := Lib.hid hX2
  have hZ2 := Lib.hid hZ2
  replace hR2 := Lib.hid hR2
  have hO2 := Lib.hid hO2
  replace hk2 := Lib.hid hk2
  replace hN := Lib.hid hN
  clear hO hRu hku hXu hZu hs hX hZe hke hcall
  go_upto_region 3 with fail
  generalize (u.setCell ⟨X, 7, none⟩ (.slice oa N oc)) = u2 at *
  clear x0 x1 x2 x3 x4 x5 x6 x7 xf xl
  obtain ⟨x0, x1, x2, x3, x4, x5, x6, x7, xf, xl⟩ := cl8 hX2.out
  obtain ⟨z0, z1, z2, z3, z4, z5, z6, z7, zf, zl⟩ := cl8 hZ2.out
  go_wp2
  obtain ⟨m1, m2⟩ := sc8 (.int .i64 y0) (.int .i64 y1) (.int .u64 y2) (.int .i64 y3) (.bool y4) (.bool y5) (.int .i64 y6) (.slice oa N oc) hZ2.out
  have hOf := hO2.out.keepS m2 (fun b hb e => by simp only [List.mem_singleton] at hb; subst hb; have h2 := hO2.out.ge _ e; have h3 := hZX1.out; have h4 := hlX.out; omega)
  have hOg := hOf.lowD (B' := w.heap.size) (by have h1 := hZZ.out; have h3 := hZX1.out; have h4 := hlX.out; omega)
  refine bodyPost_ret (results_a8 rfl _ _ _ _ _ _ _ _ _ _ _ _ _ rfl m1) rfl ?_
  refine ⟨⟨y0, y1, y2, y3, y4, y5, y6, oa, N, oc⟩, rfl, ?_, ?_, ?_, ?_⟩
  · rw [hres.out]; exact ⟨rfl, rfl, rfl, rfl, rfl, rfl, rfl, hOg.r⟩
  · rw [hres.out]; exact hOg
  · rw [hres.out]; exact hR2.out.other m2 hZ2.out (by decide) (by decide)
  · exact hk2.out.fresh m2 (fun b hb => by simp only [List.mem_singleton] at hb; subst hb; exact .inr (Nat.le_of_eq hZZ.out))
end Go.Proofs.YtiplgpefapeapaaGreat

namespace Go.Proofs.YtiplgpefapeapaaGreat
open Go.RowKit

theorem loadClD (w : World) (g : Nat) (t : TypeId) (x0 x1 x2 x3 x4 : Value) (f : Nat × Nat) (hg : w.heap[g]? = some (.cells #[x0, x1, x2, x3, x4] t f)) : (loadVar tC ⟨g, 0, none⟩).run Tryz.prog w = .ok (.agg #[x0, x1, x2, x3, x4]) w :=
  run_loadVar_row w g t tC #[x0, x1, x2, x3, x4] f _ hg Tryz.underlying49 rfl (show (Tryz.prog.info? tC).map (·.size) = some 5 by kernel_rfl)
theorem results_clD {fn : Func} {p : Tmp} (h : fn.results = #[.cell p tC]) (tmps : Array Value) (w : World) (g : Nat) (t : TypeId) (x0 x1 x2 x3 x4 : Value) (f : Nat × Nat) (hp : tmps.getD p undef = .pointer (some ⟨g, 0, none⟩))
    (hg : w.heap[g]? = some (.cells #[x0, x1, x2, x3, x4] t f)) : (results fn tmps).run Tryz.prog w = .ok (.agg #[x0, x1, x2, x3, x4]) w := by
  have hp' : tmps[p]?.getD undef = .pointer (some ⟨g, 0, none⟩) := by simpa using hp
  simp [results, h, hp', asAddr, loadClD w g t x0 x1 x2 x3 x4 f hg]
set_option maxRecDepth 100000 in
set_option maxHeartbeats 16000000 in
theorem claimD_c (w : World) (br bR bF bO : Nat) (s : RS) (h : RdS w br s) (hv : DeV3 w br bR bF bO) :
    Calls Tryz.prog 34 #[.pointer (some ⟨bF, 0, none⟩), .pointer (some ⟨bR, 0, none⟩), .pointer (some ⟨bO, 0, none⟩)] w (ClmD w br s) := by
  have hkZ := (Keeps.refl [] w).alloc (.cells #[.int .i64 0, .int .i64 0, .slice none 0 0, .slice none 0 0, .slice none 0 0] tC)
  have hZ := heap_alloc_new w (.cells #[.int .i64 0, .int .i64 0, .slice none 0 0, .slice none 0 0, .slice none 0 0] tC)
  have h1 := h.keeps hkZ
  have hv1 := hv.keeps hkZ
  have hbw := h.lt
  have hbR := lt_of_blk hv.r
  have hbF := lt_of_blk hv.f
  have hbO := lt_of_blk hv.o
  obtain ⟨p1, hp1⟩ : ∃ p, rI s = p := ⟨_, rfl⟩
  obtain ⟨y0, s1⟩ := p1
  obtain ⟨p2, hp2⟩ : ∃ p, rI s1 = p := ⟨_, rfl⟩
  obtain ⟨y1, s2⟩ := p2
  obtain ⟨p3, hp3⟩ : ∃ p, pNs s2 = p := ⟨_, rfl⟩
  obtain ⟨L1, s3⟩ := p3
  obtain ⟨p4, hp4⟩ : ∃ p, pNs s3 = p := ⟨_, rfl⟩
  obtain ⟨L2, s4⟩ := p4
  obtain ⟨p5, hp5⟩ : ∃ p, pNs s4 = p := ⟨_, rfl⟩
  obtain ⟨L3, s5⟩ := p5
  have hres : pPs s = (⟨y0, y1, L1, L2, L3⟩, s5) := by unfold pPs; simp only [hp1, hp2, hp3, hp4, hp5]
  have hc1 := fun W h hb => number_c W br bR s h hb
  rw [hp1] at hc1
  simp only at hc1
  replace hc1 := Lib.hid hc1
  have hc2 := fun W h hb => number_c W br bR s1 h hb
  rw [hp2] at hc2
  simp only at hc2
  replace hc2 := Lib.hid hc2
  have hc3 := fun W h hv => readN_c W br bR bF s2 h hv
  rw [hp3] at hc3
  simp only at hc3
  replace hc3 := Lib.hid hc3
  have hc4 := fun W h hv => readN_c W br bR bF s3 h hv
  rw [hp4] at hc4
  simp only at hc4
  replace hc4 := Lib.hid hc4
  have hc5 := fun W h hv => readN_c W br bR bF s4 h hv
  rw [hp5] at hc5
  simp only at hc5
  replace hc5 := Lib.hid hc5
  replace hp1 := Lib.hid hp1
  replace hp2 := Lib.hid hp2
  replace hp3 := Lib.hid hp3
  replace hp4 := Lib.hid hp4
  replace hp5 := Lib.hid hp5
  replace hres := Lib.hid hres
  replace hkZ := Lib.hid hkZ
  replace hZ := Lib.hid hZ
  replace hbw := Lib.hid hbw
  replace hbR := Lib.hid hbR
  replace hbF := Lib.hid hbF
  replace hbO := Lib.hid hbO
  replace h1 := Lib.hid h1
  replace hv1 := Lib.hid hv1
  clear h hv
  go_enter Tryz.func34, Tryz.ntmps34
  go_upto_region 1 with fail
  generalize (w.alloc (.cells #[.int .i64 0, .int .i64 0, .slice none 0 0, .slice none 0 0, .slice none 0 0] tC)) = W at *
  obtain ⟨Z, hZZ⟩ : ∃ B, w.heap.size = B := ⟨_, rfl⟩
  rw [hZZ] at hZ hbw hbR hbF hbO ⊢
  replace hZZ := Lib.hid hZZ
  obtain ⟨WS, hWS⟩ : ∃ n, W.heap.size = n := ⟨_, rfl⟩
  have hZl : Hid (Z < WS) := Lib.hid (by rw [← hWS]; exact lt_of_blk hZ.out)
  replace hWS := Lib.hid hWS
  have hR0 := Lib.hid (h1.out.keeps (Keeps.refl [] W).drew)
  have hv0 := Lib.hid (hv1.out.keeps (Keeps.refl [] W).drew)
  have hZ0 := Lib.hid (((Keeps.refl [] W).drew.block Z (lt_of_blk hZ.out) (by simp)).trans hZ.out)
  have hk0 : Hid (Keeps [br] w W.drew) := Lib.hid (hkZ.out.trans (Keeps.refl [] W).drew).of_nil
  have hWS' : Hid (W.drew.heap.size = WS) := Lib.hid hWS.out
  have hbR9 : Hid (bR < WS) := Lib.hid (by have h1 := hbR.out; have h2 := hZl.out; omega)
  have hbF9 : Hid (bF < WS) := Lib.hid (by have h1 := hbF.out; have h2 := hZl.out; omega)
  have hbO9 : Hid (bO < WS) := Lib.hid (by have h1 := hbO.out; have h2 := hZl.out; omega)
  obtain ⟨f0, ff, fl⟩ := cl1 hv0.out.f
  refine FreeC.wp_region_free (by kernel_rfl) (by kernel_rfl) (fun i => i == 1 || i == 3 || i == 5 || i == 6) (CaF WS br [(1, s1), (3, s2)] 5 6 4 #[.int .i64 0, .int .i64 0, .slice none 0 0, .slice none 0 0, .slice none 0 0] #[.int .i64 y0, .int .i64 y1, .slice none 0 0, .slice none 0 0, .slice none 0 0] tC) (CaT WS br [1, 3] 6 tC) (CaK [1, 3] 5 6) (caV [(1, .int .i64 y0), (3, .int .i64 y1)]) (CaF.agree (by kernel_rfl)) (fun i k a v w w' _ h2 h3 h4 h5 h6 => CaF.stable (ks := [1, 3]) rfl (by decide) (by decide) (by decide) (by kernel_rfl) i k a v w w' h2 h3 h4 h5 h6) ?_
  apply FreeC.walk_quiet rfl rfl
  · intro w' hg hf
    clear hf
    have g0 := hg.cell hv0.out.f (CaT.not hv0.out.fb hbF9.out) f0
    go_simp <;> exact rfl
  refine FreeC.walk_const (.int .i64 y0) rfl rfl (fun _ => rfl) ?_ ?_
  · intro w' hg hf
    have hRp := hR0.out.keeps (CaT.first (by kernel_rfl) hg)
    have hvw := CaT.dev3 hg hv0.out hbR9.out hbF9.out hbO9.out
    clear hf hg
    go_simp
    refine (hc1.out w' hRp hvw.r).mono ?_
    rintro e w3 ⟨rfl, hR9, hk9⟩
    refine ⟨_, rfl, rfl, ⟨fun c hc e => ?_, fun h => absurd h (by decide), fun h => absurd h (by decide)⟩, CaT.rd hk9 hRp (by decide)⟩
    simp only [List.mem_cons, List.not_mem_nil, or_false] at hc
    rcases hc with rfl | rfl
    · exact hR9
    · exact absurd (show (1 : Nat) = 3 from e) (by decide)
  apply FreeC.walk_quiet rfl rfl
  · intro w' hg hf
    clear hf
    have g0 := hg.cell hv0.out.f (CaT.not hv0.out.fb hbF9.out) f0
    go_simp <;> exact rfl
  refine FreeC.walk_const (.int .i64 y1) rfl rfl (fun _ => rfl) ?_ ?_
  · intro w' hg hf
    have hp9 := hf 1 (by decide) (by kernel_rfl)
    have hRp : RdS w' br s1 := (show CaF WS br [(1, s1), (3, s2)] 5 6 4 #[.int .i64 0, .int .i64 0, .slice none 0 0, .slice none 0 0, .slice none 0 0] #[.int .i64 y0, .int .i64 y1, .slice none 0 0, .slice none 0 0, .slice none 0 0] tC 1 _ _ w' from by simpa using hp9).1 (1, s1) (by simp) rfl
    clear hp9
    have hvw := CaT.dev3 hg hv0.out hbR9.out hbF9.out hbO9.out
    clear hf hg
    go_simp
    refine (hc2.out w' hRp hvw.r).mono ?_
    rintro e w3 ⟨rfl, hR9, hk9⟩
    refine ⟨_, rfl, rfl, ⟨fun c hc e => ?_, fun h => absurd h (by decide), fun h => absurd h (by decide)⟩, CaT.rd hk9 hRp (by decide)⟩
    simp only [List.mem_cons, List.not_mem_nil, or_false] at hc
    rcases hc with rfl | rfl
    · exact absurd (show (3 : Nat) = 1 from e) (by decide)
    · exact hR9
  apply FreeC.walk_quiet rfl rfl
  · intro w' hg hf
    clear hf
    go_simp <;> exact rfl
  apply FreeC.walk_loud rfl rfl
  · intro w' hg hf
    have hB := hg.size
    have hn := heap_alloc_new w' (.cells #[.int .i64 0, .int .i64 0, .slice none 0 0, .slice none 0 0, .slice none 0 0] tC)
    clear hf hg
    go_simp
    exact ⟨⟨fun c hc e => by
      simp only [List.mem_cons, List.not_mem_nil, or_false] at hc
      rcases hc with rfl | rfl
      · exact absurd (show (5 : Nat) = 1 from e) (by decide)
      · exact absurd (show (5 : Nat) = 3 from e) (by decide), fun _ => ⟨_, rfl, Nat.le_trans (Nat.le_of_eq hWS'.out.symm) hB, hn⟩, fun h => absurd h (by decide)⟩, FreeO.KeepsO.of ((Keeps.refl [] w').alloc _) (by simp)⟩
  · exact fun _ => rfl
  intro v5
  apply FreeC.walk_loud rfl rfl
  · intro w' hg hf
    have h6 := hf 5 (by decide) (by kernel_rfl)
    obtain ⟨p, e6, hp, hp3⟩ := (show CaF WS br [(1, s1), (3, s2)] 5 6 4 #[.int .i64 0, .int .i64 0, .slice none 0 0, .slice none 0 0, .slice none 0 0] #[.int .i64 y0, .int .i64 y1, .slice none 0 0, .slice none 0 0, .slice none 0 0] tC 5 _ v5 w' from by simpa using h6).2.1 rfl
    clear h6 hg hf
    subst e6
    obtain ⟨x0, x1, x2, x3, x4, xf, xl⟩ := cl5 hp3
    have hsc := sc5 (.int .i64 y0) (.int .i64 y1) (.slice none 0 0) (.slice none 0 0) (.slice none 0 0) hp3
    have hK' : FreeO.KeepsO (CaT WS br [1, 3] 6 tC 6) w' _ := FreeO.KeepsO.of hsc.2 (fun b hb o ho => by simp only [List.mem_singleton] at hb; subst hb; rw [hp3] at ho; cases ho; exact .inr ⟨rfl, hp, _, _, rfl⟩)
    have hs1 := hsc.1
    clear hsc
    replace hK' := Lib.hid hK'
    replace hs1 := Lib.hid hs1
    go_simp
    exact ⟨⟨fun c hc e => by
      simp only [List.mem_cons, List.not_mem_nil, or_false] at hc
      rcases hc with rfl | rfl
      · exact absurd (show (6 : Nat) = 1 from e) (by decide)
      · exact absurd (show (6 : Nat) = 3 from e) (by decide), fun h => absurd h (by decide), fun _ => ⟨p, rfl, hp, hs1.out⟩⟩, hK'.out⟩
  · exact fun _ => rfl
  intro v6
  refine FreeC.walk_nil ?_
  intro wF hg hf
  have hpL := hf 3 (by decide) (by kernel_rfl)
  have hpS := hf 6 (by decide) (by kernel_rfl)
  clear hf
  have hRF : RdS wF br s2 := (show CaF WS br [(1, s1), (3, s2)] 5 6 4 #[.int .i64 0, .int .i64 0, .slice none 0 0, .slice none 0 0, .slice none 0 0] #[.int .i64 y0, .int .i64 y1, .slice none 0 0, .slice none 0 0, .slice none 0 0] tC 3 _ _ wF from by simpa using hpL).1 (3, s2) (by simp) rfl
  obtain ⟨X, eX, hpB, hXF⟩ := (show CaF WS br [(1, s1), (3, s2)] 5 6 4 #[.int .i64 0, .int .i64 0, .slice none 0 0, .slice none 0 0, .slice none 0 0] #[.int .i64 y0, .int .i64 y1, .slice none 0 0, .slice none 0 0, .slice none 0 0] tC 6 _ v6 wF from by simpa using hpS).2.2 rfl
  clear hpL hpS
  simp [Act.put] at eX
  subst eX
  have hkF := CaT.keeps hg (Nat.le_of_eq hWS'.out)
  have hZX1 : Z < X := Nat.lt_of_lt_of_le hZl.out hpB
  have hXb : ∀ k, k < WS → k ≠ X := fun k hk e => by omega
  have hv2 := Lib.hid (hv0.out.rd hkF)
  have hZ2 := Lib.hid ((hkF.block Z (lt_of_blk hZ0.out) (by have := hbw.out; simp only [List.mem_singleton]; omega)).trans hZ0.out)
  have hk2 := Lib.hid (hk0.out.trans hkF)
  have hR2 := Lib.hid hRF
  have hX2 := Lib.hid hXF
  have hXbr : Hid (X ≠ br) := Lib.hid (by have h1 := hbw.out; omega)
  have hqR : Hid (∀ j : Nat, (((j = 2 ∨ j = 5 ∨ j = 8) ∧ bR = br) ∨ ((j = 10 ∨ j = 12 ∨ j = 14) ∧ bR = X)) → False) := Lib.hid (fun j h => by
    rcases h with ⟨_, h⟩ | ⟨_, h⟩
    · exact hv2.out.rb h
    · exact hXb _ hbR9.out h)
  have hqO : Hid (∀ j : Nat, (((j = 2 ∨ j = 5 ∨ j = 8) ∧ bO = br) ∨ ((j = 10 ∨ j = 12 ∨ j = 14) ∧ bO = X)) → False) := Lib.hid (fun j h => by
    rcases h with ⟨_, h⟩ | ⟨_, h⟩
    · exact hv2.out.ob h
    · exact hXb _ hbO9.out h)
  replace hZX1 := Lib.hid hZX1
  clear hXF hRF hkF hg hZ0 hk0 hR0 hv0 hpB f0 ff fl hXb
  go_frame
  go_upto_region 2 with fail
  have hd := (Keeps.refl [] wF).drew
  replace hR2 := Lib.hid (hR2.out.keeps hd)
  replace hv2 := Lib.hid (hv2.out.keeps hd)
  replace hX2 := Lib.hid ((hd.block X (lt_of_blk hX2.out) (by simp)).trans hX2.out)
  replace hZ2 := Lib.hid ((hd.block Z (lt_of_blk hZ2.out) (by simp)).trans hZ2.out)
  replace hk2 : Hid (Keeps [br] w wF.drew) := Lib.hid (hk2.out.trans hd.of_nil)
  clear hd
  obtain ⟨r0, rf, rl⟩ := cl1 hv2.out.r
  obtain ⟨o0, of, ol⟩ := cl1 hv2.out.o
  refine Free.wp_region_chain (fun i => i == 2 || i == 5 || i == 8 || i == 10 || i == 12 || i == 14) (fun i => true) (fun j b => ((j = 2 ∨ j = 5 ∨ j = 8) ∧ b = br) ∨ ((j = 10 ∨ j = 12 ∨ j = 14) ∧ b = X)) (by kernel_rfl) (by kernel_rfl) (by kernel_rfl) ?_
  (repeat (first | (apply Free.cw_pure rfl rfl; (intro w'; go_simp <;> exact rfl); go_frame) | (apply Free.cw_steady rfl rfl rfl; (intro w' hS; have q0 := Free.sx_cell hS r0 (fun j hp hT => hqR.out j hT); have q1 := Free.sx_cell hS o0 (fun j hp hT => hqO.out j hT); go_simp <;> exact rfl); go_frame) | (refine Free.cw_skip rfl ?_; go_frame)))
  refine Free.cw_loud rfl rfl (fun K hK => ?_)
  go_wp2_with fail
  refine (hc3.out _ hR2.out hv2.out.toDeV).mono ?_
  rintro e w1 ⟨v, rfl, hO, hR9, hk9⟩
  obtain ⟨a1, c1, rfl⟩ := hO.form
  obtain ⟨N1, hN1⟩ : ∃ N, L1.length = N := ⟨_, rfl⟩
  rw [hN1] at hO ⊢
  replace hN1 := Lib.hid hN1
  refine hK _ _ rfl (Free.KeepsP.of hk9 (fun b hb => .inl ⟨.inl trivial, by simpa using hb⟩)) ?_
  clear hK K
  have hn1 : Hid (Nd w1 (.slice a1 N1 c1) L1) := Lib.hid (Nd.of_O hO)
  replace hv2 := Lib.hid (hv2.out.rd hk9)
  replace hZ2 := Lib.hid ((hk9.block Z (lt_of_blk hZ2.out) (by have := hbw.out; simp only [List.mem_singleton]; omega)).trans hZ2.out)
  replace hX2 := Lib.hid ((hk9.block X (lt_of_blk hX2.out) (by simpa using hXbr.out)).trans hX2.out)
  replace hk2 := Lib.hid (hk2.out.trans hk9)
  replace hR2 := Lib.hid hR9
  clear hk9 hR9 hO
  (repeat (first | (apply Free.cw_pure rfl rfl; (intro w'; go_simp <;> exact rfl); go_frame) | (apply Free.cw_steady rfl rfl rfl; (intro w' hS; have q0 := Free.sx_cell hS r0 (fun j hp hT => hqR.out j hT); have q1 := Free.sx_cell hS o0 (fun j hp hT => hqO.out j hT); go_simp <;> exact rfl); go_frame) | (refine Free.cw_skip rfl ?_; go_frame)))
  refine Free.cw_loud rfl rfl (fun K hK => ?_)
  go_wp2_with fail
  refine (hc4.out _ hR2.out hv2.out.toDeV).mono ?_
  rintro e w2 ⟨v, rfl, hO, hR9, hk9⟩
  obtain ⟨a2, c2, rfl⟩ := hO.form
  obtain ⟨N2, hN2⟩ : ∃ N, L2.length = N := ⟨_, rfl⟩
  rw [hN2] at hO ⊢
  replace hN2 := Lib.hid hN2
  refine hK _ _ rfl (Free.KeepsP.of hk9 (fun b hb => .inl ⟨.inr (.inl trivial), by simpa using hb⟩)) ?_
  clear hK K
  have hn2 : Hid (Nd w2 (.slice a2 N2 c2) L2) := Lib.hid (Nd.of_O hO)
  replace hn1 : Hid (Nd w2 (.slice a1 N1 c1) L1) := Lib.hid (hn1.out.keepS hk9 (fun b hb cs f e => by simp only [List.mem_singleton] at hb; subst hb; obtain ⟨c2, h2⟩ := hR2.out.tag; rw [h2] at e; cases e))
  replace hv2 := Lib.hid (hv2.out.rd hk9)
  replace hZ2 := Lib.hid ((hk9.block Z (lt_of_blk hZ2.out) (by have := hbw.out; simp only [List.mem_singleton]; omega)).trans hZ2.out)
  replace hX2 := Lib.hid ((hk9.block X (lt_of_blk hX2.out) (by simpa using hXbr.out)).trans hX2.out)
  replace hk2 := Lib.hid (hk2.out.trans hk9)
  replace hR2 := Lib.hid hR9
  clear hk9 hR9 hO
  (repeat (first | (apply Free.cw_pure rfl rfl; (intro w'; go_simp <;> exact rfl); go_frame) | (apply Free.cw_steady rfl rfl rfl; (intro w' hS; have q0 := Free.sx_cell hS r0 (fun j hp hT => hqR.out j hT); have q1 := Free.sx_cell hS o0 (fun j hp hT => hqO.out j hT); go_simp <;> exact rfl); go_frame) | (refine Free.cw_skip rfl ?_; go_frame)))
  refine Free.cw_loud rfl rfl (fun K hK => ?_)
  go_wp2_with fail
  refine (hc5.out _ hR2.out hv2.out.toDeV).mono ?_
  rintro e w3 ⟨v, rfl, hO, hR9, hk9⟩
  obtain ⟨a3, c3, rfl⟩ := hO.form
  obtain ⟨N3, hN3⟩ : ∃ N, L3.length = N := ⟨_, rfl⟩
  rw [hN3] at hO ⊢
  replace hN3 := Lib.hid hN3
  refine hK _ _ rfl (Free.KeepsP.of hk9 (fun b hb => .inl ⟨.inr (.inr trivial), by simpa using hb⟩)) ?_
  clear hK K
  have hn3 : Hid (Nd w3 (.slice a3 N3 c3) L3) := Lib.hid (Nd.of_O hO)
  replace hn1 : Hid (Nd w3 (.slice a1 N1 c1) L1) := Lib.hid (hn1.out.keepS hk9 (fun b hb cs f e => by simp only [List.mem_singleton] at hb; subst hb; obtain ⟨c2, h2⟩ := hR2.out.tag; rw [h2] at e; cases e))
  replace hn2 : Hid (Nd w3 (.slice a2 N2 c2) L2) := Lib.hid (hn2.out.keepS hk9 (fun b hb cs f e => by simp only [List.mem_singleton] at hb; subst hb; obtain ⟨c2, h2⟩ := hR2.out.tag; rw [h2] at e; cases e))
  replace hv2 := Lib.hid (hv2.out.rd hk9)
  replace hZ2 := Lib.hid ((hk9.block Z (lt_of_blk hZ2.out) (by have := hbw.out; simp only [List.mem_singleton]; omega)).trans hZ2.out)
  replace hX2 := Lib.hid ((hk9.block X (lt_of_blk hX2.out) (by simpa using hXbr.out)).trans hX2.out)
  replace hk2 := Lib.hid (hk2.out.trans hk9)
  replace hR2 := Lib.hid hR9
  clear hk9 hR9 hO
  (repeat (first | (apply Free.cw_pure rfl rfl; (intro w'; go_simp <;> exact rfl); go_frame) | (apply Free.cw_steady rfl rfl rfl; (intro w' hS; have q0 := Free.sx_cell hS r0 (fun j hp hT => hqR.out j hT); have q1 := Free.sx_cell hS o0 (fun j hp hT => hqO.out j hT); go_simp <;> exact rfl); go_frame) | (refine Free.cw_skip rfl ?_; go_frame)))
  obtain ⟨x0, x1, x2, x3, x4, xf, xl⟩ := cl5 hX2.out
  have hs : Keeps [X] w3 (w3.setCell ⟨X, 2, none⟩ (.slice a1 N1 c1)) := (Keeps.refl _ _).setCell (.inr (by simp)) _
  have hX3 : (w3.setCell ⟨X, 2, none⟩ (.slice a1 N1 c1)).heap[X]? = some (.cells #[.int .i64 y0, .int .i64 y1, .slice a1 N1 c1, .slice none 0 0, .slice none 0 0] tC (0, 0)) := by simp [World.setCell, Array.getElem?_modify, hX2.out]
  refine Free.cw_loud rfl rfl (fun K hK => ?_)
  go_wp2
  refine hK _ _ rfl (Free.KeepsP.of hs (fun b hb => .inr ⟨.inl trivial, by simpa using hb⟩)) ?_
  clear hK K
  replace hn1 := Lib.hid (hn1.out.keepS hs (fun b hb cs f e => by simp only [List.mem_singleton] at hb; subst hb; rw [hX2.out] at e; cases e))
  replace hn2 := Lib.hid (hn2.out.keepS hs (fun b hb cs f e => by simp only [List.mem_singleton] at hb; subst hb; rw [hX2.out] at e; cases e))
  replace hn3 := Lib.hid (hn3.out.keepS hs (fun b hb cs f e => by simp only [List.mem_singleton] at hb; subst hb; rw [hX2.out] at e; cases e))
  replace hZ2 := Lib.hid ((hs.block Z (lt_of_blk hZ2.out) (by have := hZX1.out; simp only [List.mem_singleton]; omega)).trans hZ2.out)
  replace hk2 := Lib.hid (hk2.out.fresh hs (fun b hb => by simp only [List.mem_singleton] at hb; subst hb; have h1 := hZZ.out; have h2 := hZX1.out; exact .inr (by omega)))
  replace hR2 := Lib.hid (hR2.out.other hs hX2.out (by decide) (by decide))
  replace hX2 := Lib.hid hX3
  clear hs hX3 x0 x1 x2 x3 x4 xf xl
  generalize (w3.setCell ⟨X, 2, none⟩ (.slice a1 N1 c1)) = ua at *
  (repeat (apply Free.cw_pure rfl rfl; (intro w'; go_simp <;> exact rfl); go_frame))
  obtain ⟨x0, x1, x2, x3, x4, xf, xl⟩ := cl5 hX2.out
  have hs : Keeps [X] ua (ua.setCell ⟨X, 3, none⟩ (.slice a2 N2 c2)) := (Keeps.refl _ _).setCell (.inr (by simp)) _
  have hX3 : (ua.setCell ⟨X, 3, none⟩ (.slice a2 N2 c2)).heap[X]? = some (.cells #[.int .i64 y0, .int .i64 y1, .slice a1 N1 c1, .slice a2 N2 c2, .slice none 0 0] tC (0, 0)) := by simp [World.setCell, Array.getElem?_modify, hX2.out]
  refine Free.cw_loud rfl rfl (fun K hK => ?_)
  go_wp2
  refine hK _ _ rfl (Free.KeepsP.of hs (fun b hb => .inr ⟨.inr (.inl trivial), by simpa using hb⟩)) ?_
  clear hK K
  replace hn1 := Lib.hid (hn1.out.keepS hs (fun b hb cs f e => by simp only [List.mem_singleton] at hb; subst hb; rw [hX2.out] at e; cases e))
  replace hn2 := Lib.hid (hn2.out.keepS hs (fun b hb cs f e => by simp only [List.mem_singleton] at hb; subst hb; rw [hX2.out] at e; cases e))
  replace hn3 := Lib.hid (hn3.out.keepS hs (fun b hb cs f e => by simp only [List.mem_singleton] at hb; subst hb; rw [hX2.out] at e; cases e))
  replace hZ2 := Lib.hid ((hs.block Z (lt_of_blk hZ2.out) (by have := hZX1.out; simp only [List.mem_singleton]; omega)).trans hZ2.out)
  replace hk2 := Lib.hid (hk2.out.fresh hs (fun b hb => by simp only [List.mem_singleton] at hb; subst hb; have h1 := hZZ.out; have h2 := hZX1.out; exact .inr (by omega)))
  replace hR2 := Lib.hid (hR2.out.other hs hX2.out (by decide) (by decide))
  replace hX2 := Lib.hid hX3
  clear hs hX3 x0 x1 x2 x3 x4 xf xl
  generalize (ua.setCell ⟨X, 3, none⟩ (.slice a2 N2 c2)) = ub at *
  (repeat (apply Free.cw_pure rfl rfl; (intro w'; go_simp <;> exact rfl); go_frame))
  obtain ⟨x0, x1, x2, x3, x4, xf, xl⟩ := cl5 hX2.out
  have hs : Keeps [X] ub (ub.setCell ⟨X, 4, none⟩ (.slice a3 N3 c3)) := (Keeps.refl _ _).setCell (.inr (by simp)) _
  have hX3 : (ub.setCell ⟨X, 4, none⟩ (.slice a3 N3 c3)).heap[X]? = some (.cells #[.int .i64 y0, .int .i64 y1, .slice a1 N1 c1, .slice a2 N2 c2, .slice a3 N3 c3] tC (0, 0)) := by simp [World.setCell, Array.getElem?_modify, hX2.out]
  refine Free.cw_loud rfl rfl (fun K hK => ?_)
  go_wp2
  refine hK _ _ rfl (Free.KeepsP.of hs (fun b hb => .inr ⟨.inr (.inr trivial), by simpa using hb⟩)) ?_
  clear hK K
  replace hn1 := Lib.hid (hn1.out.keepS hs (fun b hb cs f e => by simp only [List.mem_singleton] at hb; subst hb; rw [hX2.out] at e; cases e))
  replace hn2 := Lib.hid (hn2.out.keepS hs (fun b hb cs f e => by simp only [List.mem_singleton] at hb; subst hb; rw [hX2.out] at e; cases e))
  replace hn3 := Lib.hid (hn3.out.keepS hs (fun b hb cs f e => by simp only [List.mem_singleton] at hb; subst hb; rw [hX2.out] at e; cases e))
  replace hZ2 := Lib.hid ((hs.block Z (lt_of_blk hZ2.out) (by have := hZX1.out; simp only [List.mem_singleton]; omega)).trans hZ2.out)
  replace hk2 := Lib.hid (hk2.out.fresh hs (fun b hb => by simp only [List.mem_singleton] at hb; subst hb; have h1 := hZZ.out; have h2 := hZX1.out; exact .inr (by omega)))
  replace hR2 := Lib.hid (hR2.out.other hs hX2.out (by decide) (by decide))
  replace hX2 := Lib.hid hX3
  clear hs hX3 x0 x1 x2 x3 x4 xf xl r0 rf rl o0 of ol hv2
  generalize (ub.setCell ⟨X, 4, none⟩ (.slice a3 N3 c3)) = uc at *
  refine Free.cw_nil ?_
  obtain ⟨x0, x1, x2, x3, x4, xf, xl⟩ := cl5 hX2.out
  obtain ⟨z0, z1, z2, z3, z4, zf, zl⟩ := cl5 hZ2.out
  go_wp2
  obtain ⟨m1, m2⟩ := sc5 (.int .i64 y0) (.int .i64 y1) (.slice a1 N1 c1) (.slice a2 N2 c2) (.slice a3 N3 c3) hZ2.out
  refine bodyPost_ret (results_clD rfl _ _ _ _ _ _ _ _ _ _ rfl m1) rfl ?_
  have key : ∀ {v : Value} {L : List T3}, Nd uc v L → Nd _ v L := fun hh => hh.keepS m2 (fun b hb cs f e => by simp only [List.mem_singleton] at hb; subst hb; rw [hZ2.out] at e; cases e)
  refine ⟨⟨y0, y1, (a1, N1, c1), (a2, N2, c2), (a3, N3, c3)⟩, rfl, ?_, ?_, ?_⟩
  · rw [hres.out]; exact ⟨rfl, rfl, key hn1.out, key hn2.out, key hn3.out⟩
  · rw [hres.out]; exact hR2.out.other m2 hZ2.out (by decide) (by decide)
  · exact hk2.out.fresh m2 (fun b hb => by simp only [List.mem_singleton] at hb; subst hb; exact .inr (Nat.le_of_eq hZZ.out))
end Go.Proofs.YtiplgpefapeapaaGreat

namespace Go.Proofs.YtiplgpefapeapaaGreat
open Go.RowKit

theorem encU_readU {l r : List UInt8} {x : Nat} (h : readU l = some (x, r)) : l = encU x ++ r := by
  cases l with
  | nil => cases h
  | cons k t =>
    rcases Classical.em (k.toNat ≤ 8 ∧ k.toNat ≤ t.length ∧ (0 < k.toNat → t.headD 1 ≠ 0)) with hc | hc
    · rw [readU, if_pos hc] at h
      simp only [Option.some.injEq, Prod.mk.injEq] at h
      obtain ⟨rfl, rfl⟩ := h
      have hl : (t.take k.toNat).length = k.toNat := by rw [List.length_take]; omega
      have hd := digs_valU k.toNat (t.take k.toNat) hl (fun b hb => by
        rw [List.getElem?_take] at hb
        split at hb
        · rename_i h0
          have := hc.2.2 (by omega)
          cases t with
          | nil => cases hb
          | cons a u => simp at hb this; rw [← hb]; exact this
        · cases hb)
      unfold encU
      rw [hd, hl]
      simp
    · rw [readU, if_neg hc] at h; cases h
theorem encB_readB {l r : List UInt8} {b : Bool} (h : readB l = some (b, r)) : l = encB b ++ r := by
  cases l with
  | nil => cases h
  | cons k t =>
    rcases Nat.lt_or_ge 1 k.toNat with e | e
    · rw [readB, if_neg (by omega)] at h; cases h
    · rw [readB, if_pos e] at h
      simp only [Option.some.injEq, Prod.mk.injEq] at h
      obtain ⟨rfl, rfl⟩ := h
      have hk : k = 0 ∨ k = 1 := by
        rcases (show k.toNat = 0 ∨ k.toNat = 1 by omega) with h | h
        · exact .inl (UInt8.toNat_inj.1 (by simpa using h))
        · exact .inr (UInt8.toNat_inj.1 (by simpa using h))
      rcases hk with rfl | rfl <;> rfl

theorem zig_uzig (n : Nat) : zig (uzig n) = n := by unfold uzig zig; split <;> split <;> omega
theorem rU_cn {s : RS} (h : (rU s).2.2 = 0) : s.2 = 0 ∧ s.1 = encU (rU s).1 ++ (rU s).2.1 := by
  by_cases hs : s.2 = 0
  · refine ⟨hs, ?_⟩
    unfold rU at h ⊢
    rw [if_pos hs] at h ⊢
    cases hr : readU s.1 with
    | none => rw [hr] at h; cases h
    | some p => obtain ⟨x, r⟩ := p; exact encU_readU hr
  · rw [rU_st hs] at h; exact absurd h hs
theorem rB_cn {s : RS} (h : (rB s).2.2 = 0) : s.2 = 0 ∧ s.1 = encB (rB s).1 ++ (rB s).2.1 := by
  by_cases hs : s.2 = 0
  · refine ⟨hs, ?_⟩
    unfold rB at h ⊢
    rw [if_pos hs] at h ⊢
    cases hr : readB s.1 with
    | none => rw [hr] at h; cases h
    | some p => obtain ⟨x, r⟩ := p; exact encB_readB hr
  · rw [rB_st hs] at h; exact absurd h hs
theorem rI_cn {s : RS} (h : (rI s).2.2 = 0) : s.2 = 0 ∧ s.1 = encI (rI s).1 ++ (rI s).2.1 := by
  obtain ⟨h1, h2⟩ := rU_cn (s := s) h
  refine ⟨h1, ?_⟩
  unfold rI encI
  simp only [zig_uzig]
  exact h2
theorem rX_cn {s : RS} (h : (rX s).2.2 = 0) : s.2 = 0 ∧ s.1 = encX (rX s).1 ++ (rX s).2.1 := by
  obtain ⟨a1, a2⟩ := rI_cn (s := (rU (rI s).2).2) h
  obtain ⟨b1, b2⟩ := rU_cn a1
  obtain ⟨c1, c2⟩ := rI_cn b1
  refine ⟨c1, ?_⟩
  unfold rX encX
  simp only
  rw [c2, b2, a2]
  simp only [List.append_assoc]
theorem rCS_cn {s : RS} {K : Nat} (h : (rCS K s).2.2 = 0) : s.2 = 0 ∧ s.1 = encU (rCS K s).1 ++ (rCS K s).2.1 := by
  by_cases hs : s.2 = 0
  · refine ⟨hs, ?_⟩
    unfold rCS rCK at h ⊢
    rw [if_pos hs] at h ⊢
    cases hr : readU s.1 with
    | none => rw [hr] at h; cases h
    | some p =>
      obtain ⟨x, r⟩ := p
      rw [hr] at h
      by_cases hk : cEK K x r = 0
      · simp only [if_pos hk]; exact encU_readU hr
      · simp only [if_neg hk] at h; exact absurd h hk
  · rw [rCS_st K hs] at h; exact absurd h hs
theorem rXc_cn (n : Nat) (s : RS) (L : List T3) (h : (rXc n s L).2.2 = 0) : s.2 = 0 ∧ ∃ M : List T3, M.length = n ∧ (rXc n s L).1 = L ++ M ∧ s.1 = encXs M ++ (rXc n s L).2.1 := by
  induction n generalizing s L with
  | zero => exact ⟨h, [], rfl, by simp [rXc], by simp [rXc, encXs]⟩
  | succ n ih =>
    by_cases hs : s.2 = 0
    · unfold rXc at h ⊢
      rw [if_pos hs] at h ⊢
      obtain ⟨h1, M, h2, h3, h4⟩ := ih _ _ h
      obtain ⟨_, h5⟩ := rX_cn h1
      refine ⟨hs, (rX s).1 :: M, by simp [h2], by rw [h3]; simp, ?_⟩
      rw [h5, h4]
      simp [encXs]
    · unfold rXc at h
      rw [if_neg hs] at h
      exact absurd h hs
theorem rNs_cn {s : RS} (h : (rNs s).2.2 = 0) : s.2 = 0 ∧ s.1 = encNs (rNs s).1 ++ (rNs s).2.1 := by
  obtain ⟨h1, M, h2, h3, h4⟩ := rXc_cn _ _ _ h
  obtain ⟨h5, h6⟩ := rCS_cn h1
  refine ⟨h5, ?_⟩
  have h7 : (rNs s).1 = M := by unfold rNs; rw [h3]; rfl
  rw [h6, h4, h7]
  unfold encNs rNs
  rw [h2]
  simp only [List.append_assoc]
theorem rAs_cn {s : RS} (h : (rAs s).2.2 = 0) : s.2 = 0 ∧ s.1 = encA (rAs s).1 ++ (rAs s).2.1 := by
  obtain ⟨h1, M, h2, h3, h4⟩ := rXc_cn _ _ _ h
  obtain ⟨a0, a1⟩ := rCS_cn h1
  obtain ⟨b0, b1⟩ := rI_cn (s := f6 s) a0
  obtain ⟨c0, c1⟩ := rB_cn (s := f5 s) b0
  obtain ⟨d0, d1⟩ := rB_cn (s := f4 s) c0
  obtain ⟨e0, e1⟩ := rI_cn (s := f3 s) d0
  obtain ⟨g0, g1⟩ := rU_cn (s := f2 s) e0
  obtain ⟨i0, i1⟩ := rI_cn (s := f1 s) g0
  obtain ⟨j0, j1⟩ := rI_cn (s := s) i0
  refine ⟨j0, ?_⟩
  have h7 : (rAs s).1.ins = M := by unfold rAs; simp only; rw [h3]; rfl
  have h8 : (rAs s).1 = { rA0 s with ins := M } := by rw [← h7]; rfl
  rw [h8]
  have h9 : (rAs s).2 = (rXc (rCS 1024 (f7 s)).1 (rCS 1024 (f7 s)).2 []).2 := rfl
  rw [h9, j1]
  rw [show (rI s).2 = f1 s by rfl, i1, show (rI (f1 s)).2 = f2 s by rfl, g1, show (rU (f2 s)).2 = f3 s by rfl, e1, show (rI (f3 s)).2 = f4 s by rfl, d1, show (rB (f4 s)).2 = f5 s by rfl, c1, show (rB (f5 s)).2 = f6 s by rfl, b1, show (rI (f6 s)).2 = f7 s by rfl, a1, h4]
  unfold encA encA0 rA0
  simp only [h2, List.append_assoc]
theorem rYc_cn (n : Nat) (s : RS) (L : List Ans) (h : (rYc n s L).2.2 = 0) : s.2 = 0 ∧ ∃ M : List Ans, M.length = n ∧ (rYc n s L).1 = L ++ M ∧ s.1 = encH M ++ (rYc n s L).2.1 := by
  induction n generalizing s L with
  | zero => exact ⟨h, [], rfl, by simp [rYc], by simp [rYc, encH]⟩
  | succ n ih =>
    by_cases hs : s.2 = 0
    · unfold rYc at h ⊢
      rw [if_pos hs] at h ⊢
      obtain ⟨h1, M, h2, h3, h4⟩ := ih _ _ h
      obtain ⟨_, h5⟩ := rAs_cn h1
      refine ⟨hs, (rAs s).1 :: M, by simp [h2], by rw [h3]; simp, ?_⟩
      rw [h5, h4]
      simp [encH]
    · unfold rYc at h
      rw [if_neg hs] at h
      exact absurd h hs
theorem rPs_cn {s : RS} (h : (rPs s).2.2 = 0) : s.2 = 0 ∧ s.1 = encP (rPs s).1 ++ (rPs s).2.1 := by
  obtain ⟨a0, a1⟩ := rNs_cn (s := (rNs (rNs (rI (rI s).2).2).2).2) h
  obtain ⟨b0, b1⟩ := rNs_cn a0
  obtain ⟨c0, c1⟩ := rNs_cn b0
  obtain ⟨d0, d1⟩ := rI_cn c0
  obtain ⟨e0, e1⟩ := rI_cn d0
  refine ⟨e0, ?_⟩
  unfold rPs encP
  simp only
  rw [e1, d1, c1, b1, a1]
  simp only [List.append_assoc]
theorem rPc_cn (n : Nat) (s : RS) (L : List PCl) (h : (rPc n s L).2.2 = 0) : s.2 = 0 ∧ ∃ M : List PCl, M.length = n ∧ (rPc n s L).1 = L ++ M ∧ s.1 = encPs M ++ (rPc n s L).2.1 := by
  induction n generalizing s L with
  | zero => exact ⟨h, [], rfl, by simp [rPc], by simp [rPc, encPs]⟩
  | succ n ih =>
    by_cases hs : s.2 = 0
    · unfold rPc at h ⊢
      rw [if_pos hs] at h ⊢
      obtain ⟨h1, M, h2, h3, h4⟩ := ih _ _ h
      obtain ⟨_, h5⟩ := rPs_cn h1
      refine ⟨hs, (rPs s).1 :: M, by simp [h2], by rw [h3]; simp, ?_⟩
      rw [h5, h4]
      simp [encPs]
    · unfold rPc at h
      rw [if_neg hs] at h
      exact absurd h hs
/-- What is read whole is the encoding of what it gives. -/
theorem dCt_cn (l : List UInt8) (h : (dP l).2.2 = 0) (hd : doneE (dP l).2.1 (dP l).2.2 = 0) : encCt (dCt l) = l := by
  have hl : (dP l).2.1 = [] := by
    unfold doneE at hd
    by_cases e : (dP l).2.1 = []
    · exact e
    · rw [if_pos ⟨h, e⟩] at hd; cases hd
  obtain ⟨a0, P, a2, a3, a4⟩ := rPc_cn _ _ _ h
  obtain ⟨b0, b1⟩ := rCS_cn a0
  obtain ⟨c0, Y, c2, c3, c4⟩ := rYc_cn _ _ _ b0
  obtain ⟨d0, d1⟩ := rCS_cn c0
  obtain ⟨e0, e1⟩ := rX_cn d0
  obtain ⟨g0, g1⟩ := rI_cn e0
  obtain ⟨i0, i1⟩ := rI_cn g0
  have hP : (dP l).1 = P := by unfold dP; rw [a3]; rfl
  have hY : (dY l).1 = Y := by unfold dY; rw [c3]; rfl
  have hPe : (rPc (rCS 1024 (dY l).2).1 (rCS 1024 (dY l).2).2 []).2.1 = [] := hl
  rw [hPe] at a4
  unfold encCt dCt
  simp only
  rw [hP, hY, a2, c2]
  have i2 : l = encI (rI (l, 0)).1 ++ (rI (l, 0)).2.1 := i1
  have b2 : (rYc (rCS 1024 (rX (rI (rI (l, 0)).2).2).2).1 (rCS 1024 (rX (rI (rI (l, 0)).2).2).2).2 []).2 = (dY l).2 := rfl
  rw [b2] at c4
  conv => rhs; rw [i2, g1, e1, d1, c4, b1, a4]
  simp only [List.append_assoc, List.append_nil]
theorem decE_decS (l : List UInt8) : decE l = decS l := decE_eq l (dCt_cn l)
end Go.Proofs.YtiplgpefapeapaaGreat

namespace Go.Proofs.YtiplgpefapeapaaGreat
open Go.RowKit

set_option maxRecDepth 100000 in
set_option maxHeartbeats 16000000 in
theorem decodeD_c (w : World) (v0 : Value) (l : List UInt8) (h : SlB w v0 l) (hl : l.length ≤ 100000000000) :
    Calls Tryz.prog 7 #[v0] w (DecP w l) := by
  obtain ⟨a0, c0, rfl⟩ := h.form
  obtain ⟨ML, hML⟩ : ∃ n, l.length = n := ⟨_, rfl⟩
  have hkZ := (Keeps.refl [] w).alloc (.cells #[.int .i64 0, .int .i64 0, .int .i64 0, .int .u64 0, .int .i64 0, .slice none 0 0, .slice none 0 0] tCt)
  have hZ := heap_alloc_new w (.cells #[.int .i64 0, .int .i64 0, .int .i64 0, .int .u64 0, .int .i64 0, .slice none 0 0, .slice none 0 0] tCt)
  have h1 := h.keeps hkZ
  obtain ⟨p1, hp1⟩ : ∃ p, rI (l, 0) = p := ⟨_, rfl⟩
  obtain ⟨y0, s1⟩ := p1
  obtain ⟨p2, hp2⟩ : ∃ p, rI s1 = p := ⟨_, rfl⟩
  obtain ⟨y1, s2⟩ := p2
  obtain ⟨p3, hp3⟩ : ∃ p, rX s2 = p := ⟨_, rfl⟩
  obtain ⟨⟨n0, n1, n2⟩, s3⟩ := p3
  obtain ⟨p4, hp4⟩ : ∃ p, pYs s3 = p := ⟨_, rfl⟩
  obtain ⟨YY, s4⟩ := p4
  obtain ⟨p5, hp5⟩ : ∃ p, pCs s4 = p := ⟨_, rfl⟩
  obtain ⟨PP, s5⟩ := p5
  have eYl : eY l = (YY, s4) := by
    have : eY l = pYs (rX (rI (rI (l, 0)).2).2).2 := rfl
    rw [this, hp1]; simp only; rw [hp2]; simp only; rw [hp3]; simp only; rw [hp4]
  have ePl : eP l = (PP, s5) := by
    have : eP l = pCs (eY l).2 := rfl
    rw [this, eYl]; simp only; rw [hp5]
  have hdec : decS l = if s5.2 = 0 ∧ doneE s5.1 s5.2 = 0 then some ⟨y0, y1, (n0, n1, n2), YY, PP⟩ else none := by
    rw [← decE_decS]
    unfold decE eCt
    rw [ePl, eYl, hp1]
    simp only
    rw [hp2]
    simp only
    rw [hp3]
  have hc1 := fun W br bR h hb => number_c W br bR (l, 0) h hb
  rw [hp1] at hc1
  simp only at hc1
  replace hc1 := Lib.hid hc1
  have hc2 := fun W br bR h hb => number_c W br bR s1 h hb
  rw [hp2] at hc2
  simp only at hc2
  replace hc2 := Lib.hid hc2
  have hc3 := fun W br bR bF h hv => one_c W br bR bF s2 h hv
  rw [hp3] at hc3
  simp only [tV] at hc3
  replace hc3 := Lib.hid hc3
  have hc4 := fun W br bR bF h hv => readA_c W br bR bF s3 h hv (fun W s h hv => answerD_c W br bR bF s h hv)
  rw [hp4] at hc4
  simp only at hc4
  replace hc4 := Lib.hid hc4
  have hc5 := fun W br bR bF bO h hv => readC_c W br bR bF bO s4 h hv (fun W s h hv => claimD_c W br bR bF bO s h hv)
  rw [hp5] at hc5
  simp only at hc5
  replace hc5 := Lib.hid hc5
  replace hp1 := Lib.hid hp1
  replace hp2 := Lib.hid hp2
  replace hp3 := Lib.hid hp3
  replace hp4 := Lib.hid hp4
  replace hp5 := Lib.hid hp5
  replace hdec := Lib.hid hdec
  replace hkZ := Lib.hid hkZ
  replace hZ := Lib.hid hZ
  replace h1 := Lib.hid h1
  replace eYl := Lib.hid eYl
  replace ePl := Lib.hid ePl
  clear h
  rw [hML] at hl h1 ⊢
  replace hML := Lib.hid hML
  replace hl := Lib.hid hl
  go_enter Tryz.func7, Tryz.ntmps7
  go_wp2_with fail
  refine (newReader_c _ _ l h1.out (by rw [hML.out]; have := hl.out; omega)).mono ?_
  rintro e w1 ⟨br, v1, rfl, hbr, hR1, hk1⟩
  have hRa : RdS w1 br (l, 0) := ⟨v1, hR1⟩
  have hbl := hRa.lt
  obtain ⟨Z, hZZ⟩ : ∃ B, w.heap.size = B := ⟨_, rfl⟩
  have hZ1 := (hk1.block _ (lt_of_blk hZ.out) (by simp)).trans hZ.out
  have hk01 := hkZ.out.trans hk1
  have hbZ : Z < br := by rw [← hZZ]; exact Nat.lt_of_lt_of_le (lt_of_blk hZ.out) hbr
  rw [hZZ] at hZ1
  rw [hZZ]
  replace hZZ := Lib.hid hZZ
  have hkA := (Keeps.refl [] w1).alloc (.cells #[.pointer (some ⟨br, 0, none⟩)] 57)
  have hbR := heap_alloc_new w1 (.cells #[.pointer (some ⟨br, 0, none⟩)] 57)
  have hR0 := Lib.hid (hRa.keeps hkA)
  have hZ2 := Lib.hid ((hkA.block _ (lt_of_blk hZ1) (by simp)).trans hZ1)
  have hk2 := Lib.hid (hk01.trans hkA)
  replace hbl := Lib.hid hbl
  replace hbZ := Lib.hid hbZ
  replace hbR := Lib.hid hbR
  clear hR1 hRa hk1 hk01 hkA hZ1 hbr hkZ hZ h1
  go_upto_region 2 with fail
  generalize (w1.alloc (.cells #[.pointer (some ⟨br, 0, none⟩)] 57)) = W1 at *
  obtain ⟨bR, hbRe⟩ : ∃ B, w1.heap.size = B := ⟨_, rfl⟩
  rw [hbRe] at hbR hbl ⊢
  clear hbRe
  have hlR := lt_of_blk hbR.out
  have hkA := (Keeps.refl [] W1).alloc (.cells #[fNum bR] 60)
  have hbF := heap_alloc_new W1 (.cells #[fNum bR] 60)
  replace hR0 := Lib.hid (hR0.out.keeps hkA)
  replace hZ2 := Lib.hid ((hkA.block _ (lt_of_blk hZ2.out) (by simp)).trans hZ2.out)
  replace hk2 := Lib.hid (hk2.out.trans hkA)
  replace hbR := Lib.hid ((hkA.block _ (lt_of_blk hbR.out) (by simp)).trans hbR.out)
  replace hbF := Lib.hid hbF
  replace hlR := Lib.hid hlR
  clear hkA
  go_upto_region 3 with fail
  generalize (W1.alloc (.cells #[fNum bR] 60)) = W2 at *
  obtain ⟨bF, hbFe⟩ : ∃ B, W1.heap.size = B := ⟨_, rfl⟩
  rw [hbFe] at hbF hlR ⊢
  clear hbFe
  have hlF := lt_of_blk hbF.out
  have hkA := (Keeps.refl [] W2).alloc (.cells #[fOne bF bR] 62)
  have hbO := heap_alloc_new W2 (.cells #[fOne bF bR] 62)
  replace hR0 := Lib.hid (hR0.out.keeps hkA)
  replace hZ2 := Lib.hid ((hkA.block _ (lt_of_blk hZ2.out) (by simp)).trans hZ2.out)
  replace hk2 := Lib.hid (hk2.out.trans hkA)
  replace hbR := Lib.hid ((hkA.block _ (lt_of_blk hbR.out) (by simp)).trans hbR.out)
  replace hbF := Lib.hid ((hkA.block _ (lt_of_blk hbF.out) (by simp)).trans hbF.out)
  replace hbO := Lib.hid hbO
  replace hlF := Lib.hid hlF
  clear hkA
  go_upto_region 4 with fail
  generalize (W2.alloc (.cells #[fOne bF bR] 62)) = W at *
  obtain ⟨bO, hbOe⟩ : ∃ B, W2.heap.size = B := ⟨_, rfl⟩
  rw [hbOe] at hbO hlF ⊢
  clear hbOe
  have hbRF : Hid (bR < bF ∧ bF < bO ∧ br < bR) := Lib.hid ⟨hlR.out, hlF.out, hbl.out⟩
  have hd := (Keeps.refl [] W).drew
  have hv0 : Hid (DeV3 W.drew br bR bF bO) := Lib.hid (DeV3.keeps (w := W) ⟨⟨hbR.out, hbF.out, by have := hbRF.out; omega, by have := hbRF.out; omega⟩, hbO.out, by have := hbRF.out; omega⟩ hd)
  replace hR0 := Lib.hid (hR0.out.keeps hd)
  have hZ0 := Lib.hid ((hd.block Z (lt_of_blk hZ2.out) (by simp)).trans hZ2.out)
  have hk0 : Hid (Keeps [] w W.drew) := Lib.hid (hk2.out.trans hd)
  obtain ⟨WS, hWS⟩ : ∃ n, W.drew.heap.size = n := ⟨_, rfl⟩
  have hbR9 : Hid (bR < WS) := Lib.hid (by rw [← hWS]; exact lt_of_blk hv0.out.r)
  have hbF9 : Hid (bF < WS) := Lib.hid (by rw [← hWS]; exact lt_of_blk hv0.out.f)
  have hbO9 : Hid (bO < WS) := Lib.hid (by rw [← hWS]; exact lt_of_blk hv0.out.o)
  replace hWS := Lib.hid hWS
  clear hd hZ2 hk2 hbR hbF hbO hlR hlF
  obtain ⟨f0, ff, fl⟩ := cl1 hv0.out.f
  obtain ⟨o0, of, ol⟩ := cl1 hv0.out.o
  refine FreeC.wp_region_free (by kernel_rfl) (by kernel_rfl) (fun i => i == 1 || i == 3 || i == 6 || i == 8 || i == 9) (CaF WS br [(1, s1), (3, s2), (6, s3)] 8 9 7 #[.int .i64 0, .int .i64 0, .int .i64 0, .int .u64 0, .int .i64 0, .slice none 0 0, .slice none 0 0] #[.int .i64 y0, .int .i64 y1, .int .i64 n0, .int .u64 n1, .int .i64 n2, .slice none 0 0, .slice none 0 0] tCt) (CaT WS br [1, 3, 6] 9 tCt) (CaK [1, 3, 6] 8 9) (caV [(1, .int .i64 y0), (3, .int .i64 y1), (6, .agg #[.int .i64 n0, .int .u64 n1, .int .i64 n2])]) (CaF.agree (by kernel_rfl)) (fun i k a v w w' _ h2 h3 h4 h5 h6 => CaF.stable (ks := [1, 3, 6]) rfl (by decide) (by decide) (by decide) (by kernel_rfl) i k a v w w' h2 h3 h4 h5 h6) ?_
  apply FreeC.walk_quiet rfl rfl
  · intro w' hg hf
    clear hf
    have g0 := hg.cell hv0.out.f (CaT.not hv0.out.fb hbF9.out) f0
    go_simp <;> exact rfl
  refine FreeC.walk_const (.int .i64 y0) rfl rfl (fun _ => rfl) ?_ ?_
  · intro w' hg hf
    have hRp := hR0.out.keeps (CaT.first (by kernel_rfl) hg)
    have hvw := CaT.dev3 hg hv0.out hbR9.out hbF9.out hbO9.out
    clear hf hg
    go_simp
    refine (hc1.out w' br bR hRp hvw.r).mono ?_
    rintro e w3 ⟨rfl, hR9, hk9⟩
    refine ⟨_, rfl, rfl, ⟨fun c hc e => ?_, fun h => absurd h (by decide), fun h => absurd h (by decide)⟩, CaT.rd hk9 hRp (by decide)⟩
    simp only [List.mem_cons, List.not_mem_nil, or_false] at hc
    rcases hc with rfl | rfl | rfl
    · exact hR9
    · exact absurd (show (1 : Nat) = 3 from e) (by decide)
    · exact absurd (show (1 : Nat) = 6 from e) (by decide)
  apply FreeC.walk_quiet rfl rfl
  · intro w' hg hf
    clear hf
    have g0 := hg.cell hv0.out.f (CaT.not hv0.out.fb hbF9.out) f0
    go_simp <;> exact rfl
  refine FreeC.walk_const (.int .i64 y1) rfl rfl (fun _ => rfl) ?_ ?_
  · intro w' hg hf
    have hp9 := hf 1 (by decide) (by kernel_rfl)
    have hRp : RdS w' br s1 := (show CaF WS br [(1, s1), (3, s2), (6, s3)] 8 9 7 #[.int .i64 0, .int .i64 0, .int .i64 0, .int .u64 0, .int .i64 0, .slice none 0 0, .slice none 0 0] #[.int .i64 y0, .int .i64 y1, .int .i64 n0, .int .u64 n1, .int .i64 n2, .slice none 0 0, .slice none 0 0] tCt 1 _ _ w' from by simpa using hp9).1 (1, s1) (by simp) rfl
    clear hp9
    have hvw := CaT.dev3 hg hv0.out hbR9.out hbF9.out hbO9.out
    clear hf hg
    go_simp
    refine (hc2.out w' br bR hRp hvw.r).mono ?_
    rintro e w3 ⟨rfl, hR9, hk9⟩
    refine ⟨_, rfl, rfl, ⟨fun c hc e => ?_, fun h => absurd h (by decide), fun h => absurd h (by decide)⟩, CaT.rd hk9 hRp (by decide)⟩
    simp only [List.mem_cons, List.not_mem_nil, or_false] at hc
    rcases hc with rfl | rfl | rfl
    · exact absurd (show (3 : Nat) = 1 from e) (by decide)
    · exact hR9
    · exact absurd (show (3 : Nat) = 6 from e) (by decide)
  apply FreeC.walk_quiet rfl rfl
  · intro w' hg hf
    clear hf
    go_simp <;> exact rfl
  apply FreeC.walk_quiet rfl rfl
  · intro w' hg hf
    clear hf
    have g0 := hg.cell hv0.out.o (CaT.not hv0.out.ob hbO9.out) o0
    go_simp <;> exact rfl
  refine FreeC.walk_const (.agg #[.int .i64 n0, .int .u64 n1, .int .i64 n2]) rfl rfl (fun _ => rfl) ?_ ?_
  · intro w' hg hf
    have hp9 := hf 3 (by decide) (by kernel_rfl)
    have hRp : RdS w' br s2 := (show CaF WS br [(1, s1), (3, s2), (6, s3)] 8 9 7 #[.int .i64 0, .int .i64 0, .int .i64 0, .int .u64 0, .int .i64 0, .slice none 0 0, .slice none 0 0] #[.int .i64 y0, .int .i64 y1, .int .i64 n0, .int .u64 n1, .int .i64 n2, .slice none 0 0, .slice none 0 0] tCt 3 _ _ w' from by simpa using hp9).1 (3, s2) (by simp) rfl
    clear hp9
    have hvw := CaT.dev3 hg hv0.out hbR9.out hbF9.out hbO9.out
    clear hf hg
    go_simp
    refine (hc3.out w' br bR bF hRp hvw.toDeV).mono ?_
    rintro e w3 ⟨rfl, hR9, hk9⟩
    refine ⟨_, rfl, rfl, ⟨fun c hc e => ?_, fun h => absurd h (by decide), fun h => absurd h (by decide)⟩, CaT.rd hk9 hRp (by decide)⟩
    simp only [List.mem_cons, List.not_mem_nil, or_false] at hc
    rcases hc with rfl | rfl | rfl
    · exact absurd (show (6 : Nat) = 1 from e) (by decide)
    · exact absurd (show (6 : Nat) = 3 from e) (by decide)
    · exact hR9
  apply FreeC.walk_quiet rfl rfl
  · intro w' hg hf
    clear hf
    go_simp <;> exact rfl
  apply FreeC.walk_loud rfl rfl
  · intro w' hg hf
    have hB := hg.size
    have hn := heap_alloc_new w' (.cells #[.int .i64 0, .int .i64 0, .int .i64 0, .int .u64 0, .int .i64 0, .slice none 0 0, .slice none 0 0] tCt)
    clear hf hg
    go_simp
    exact ⟨⟨fun c hc e => by
      simp only [List.mem_cons, List.not_mem_nil, or_false] at hc
      rcases hc with rfl | rfl | rfl
      · exact absurd (show (8 : Nat) = 1 from e) (by decide)
      · exact absurd (show (8 : Nat) = 3 from e) (by decide)
      · exact absurd (show (8 : Nat) = 6 from e) (by decide), fun _ => ⟨_, rfl, Nat.le_trans (Nat.le_of_eq hWS.out.symm) hB, hn⟩, fun h => absurd h (by decide)⟩, FreeO.KeepsO.of ((Keeps.refl [] w').alloc _) (by simp)⟩
  · exact fun _ => rfl
  intro v8
  apply FreeC.walk_loud rfl rfl
  · intro w' hg hf
    have h6 := hf 8 (by decide) (by kernel_rfl)
    obtain ⟨p, e6, hp, hp3⟩ := (show CaF WS br [(1, s1), (3, s2), (6, s3)] 8 9 7 #[.int .i64 0, .int .i64 0, .int .i64 0, .int .u64 0, .int .i64 0, .slice none 0 0, .slice none 0 0] #[.int .i64 y0, .int .i64 y1, .int .i64 n0, .int .u64 n1, .int .i64 n2, .slice none 0 0, .slice none 0 0] tCt 8 _ v8 w' from by simpa using h6).2.1 rfl
    clear h6 hg hf
    subst e6
    obtain ⟨x0, x1, x2, x3, x4, x5, x6, xf, xl⟩ := cl7 hp3
    have hsc := sc7 (.int .i64 y0) (.int .i64 y1) (.int .i64 n0) (.int .u64 n1) (.int .i64 n2) (.slice none 0 0) (.slice none 0 0) hp3
    have hK' : FreeO.KeepsO (CaT WS br [1, 3, 6] 9 tCt 9) w' _ := FreeO.KeepsO.of hsc.2 (fun b hb o ho => by simp only [List.mem_singleton] at hb; subst hb; rw [hp3] at ho; cases ho; exact .inr ⟨rfl, hp, _, _, rfl⟩)
    have hs1 := hsc.1
    clear hsc
    replace hK' := Lib.hid hK'
    replace hs1 := Lib.hid hs1
    go_simp
    exact ⟨⟨fun c hc e => by
      simp only [List.mem_cons, List.not_mem_nil, or_false] at hc
      rcases hc with rfl | rfl | rfl
      · exact absurd (show (9 : Nat) = 1 from e) (by decide)
      · exact absurd (show (9 : Nat) = 3 from e) (by decide)
      · exact absurd (show (9 : Nat) = 6 from e) (by decide), fun h => absurd h (by decide), fun _ => ⟨p, rfl, hp, hs1.out⟩⟩, hK'.out⟩
  · exact fun _ => rfl
  intro v9
  refine FreeC.walk_nil ?_
  intro wF hg hf
  have hpL := hf 6 (by decide) (by kernel_rfl)
  have hpS := hf 9 (by decide) (by kernel_rfl)
  clear hf
  have hRF : RdS wF br s3 := (show CaF WS br [(1, s1), (3, s2), (6, s3)] 8 9 7 #[.int .i64 0, .int .i64 0, .int .i64 0, .int .u64 0, .int .i64 0, .slice none 0 0, .slice none 0 0] #[.int .i64 y0, .int .i64 y1, .int .i64 n0, .int .u64 n1, .int .i64 n2, .slice none 0 0, .slice none 0 0] tCt 6 _ _ wF from by simpa using hpL).1 (6, s3) (by simp) rfl
  obtain ⟨X, eX, hpB, hXF⟩ := (show CaF WS br [(1, s1), (3, s2), (6, s3)] 8 9 7 #[.int .i64 0, .int .i64 0, .int .i64 0, .int .u64 0, .int .i64 0, .slice none 0 0, .slice none 0 0] #[.int .i64 y0, .int .i64 y1, .int .i64 n0, .int .u64 n1, .int .i64 n2, .slice none 0 0, .slice none 0 0] tCt 9 _ v9 wF from by simpa using hpS).2.2 rfl
  clear hpL hpS
  simp [Act.put] at eX
  subst eX
  have hkF := CaT.keeps hg (Nat.le_of_eq hWS.out)
  have hXb : bO < X := Nat.lt_of_lt_of_le hbO9.out hpB
  have hWZ : w.heap.size ≤ Z := Nat.le_of_eq hZZ.out
  have hv2 := Lib.hid (hv0.out.rd hkF)
  have hbZ1 := hbZ.out
  have hZ2 := Lib.hid ((hkF.block Z (lt_of_blk hZ0.out) (by simp only [List.mem_singleton]; omega)).trans hZ0.out)
  have hk2 : Hid (Keeps [] w wF) := Lib.hid (hk0.out.fresh hkF (fun b hb => by simp only [List.mem_singleton] at hb; subst hb; exact .inr (by omega)))
  have hR2 := Lib.hid hRF
  have hX2 := Lib.hid hXF
  have hall : Hid (Z < br ∧ br < bR ∧ bR < bF ∧ bF < bO ∧ bO < X) := Lib.hid ⟨hbZ1, hbRF.out.2.2, hbRF.out.1, hbRF.out.2.1, hXb⟩
  replace hWZ := Lib.hid hWZ
  clear hXF hRF hkF hg hZ0 hk0 hR0 hv0 hpB f0 ff fl o0 of ol hXb hbZ1 hbZ hbl hbRF hbR9 hbF9 hbO9
  go_frame
  obtain ⟨r0, rf, rl⟩ := cl1 hv2.out.r
  have hca := hc4.out wF br bR bF hR2.out hv2.out.toDeV
  replace hca := Lib.hid hca
  go_wp2_with fail
  refine hca.out.mono ?_
  rintro e w5 ⟨v, XA, rfl, hO, hLA, hR9, hk9⟩
  obtain ⟨aa, ac, rfl⟩ := hO.form
  obtain ⟨NA, hNA⟩ : ∃ n, XA.length = n := ⟨_, rfl⟩
  rw [hNA] at hO ⊢
  replace hNA := Lib.hid hNA
  have hX5 := (hk9.block X (lt_of_blk hX2.out) (by have := hall.out; simp only [List.mem_singleton]; omega)).trans hX2.out
  have hZ5 := (hk9.block Z (lt_of_blk hZ2.out) (by have := hall.out; simp only [List.mem_singleton]; omega)).trans hZ2.out
  have hv5 := hv2.out.rd hk9
  have hk5 : Keeps [] w w5 := hk2.out.fresh hk9 (fun b hb => by simp only [List.mem_singleton] at hb; subst hb; have h1 := hall.out; have h2 := hWZ.out; exact .inr (by omega))
  have hs : Keeps [X] w5 (w5.setCell ⟨X, 5, none⟩ (.slice aa NA ac)) := (Keeps.refl _ _).setCell (.inr (by simp)) _
  have hX6 : (w5.setCell ⟨X, 5, none⟩ (.slice aa NA ac)).heap[X]? = some (.cells #[.int .i64 y0, .int .i64 y1, .int .i64 n0, .int .u64 n1, .int .i64 n2, .slice aa NA ac, .slice none 0 0] tCt (0, 0)) := by simp [World.setCell, Array.getElem?_modify, hX5]
  have hZ6 := (hs.block Z (lt_of_blk hZ5) (by have := hall.out; simp only [List.mem_singleton]; omega)).trans hZ5
  have hv6 := hv5.keep hs (by have := hall.out; simp only [List.mem_singleton]; omega) (by have := hall.out; simp only [List.mem_singleton]; omega) (by have := hall.out; simp only [List.mem_singleton]; omega)
  have hk6 : Keeps [] w (w5.setCell ⟨X, 5, none⟩ (.slice aa NA ac)) := hk5.fresh hs (fun b hb => by simp only [List.mem_singleton] at hb; subst hb; have h1 := hall.out; have h2 := hWZ.out; exact .inr (by omega))
  have hR6 := hR9.other hs hX5 (by decide) (by decide)
  have hO6 := hO.keepS hs (fun b hb e => by simp only [List.mem_singleton] at hb; subst hb; obtain ⟨cs, hc⟩ := hO.tag _ e; rw [hX5] at hc; cases hc)
  have hLA6 := hLA.ki (hs.ki (fun b hb cs f e => by simp only [List.mem_singleton] at hb; subst hb; rw [hX5] at e; cases e))
  obtain ⟨x0, x1, x2, x3, x4, x5, x6, xf, xl⟩ := cl7 hX5
  have hsz : w.heap.size ≤ wF.heap.size := hk2.out.size
  replace hX6 := Lib.hid hX6
  replace hZ6 := Lib.hid hZ6
  replace hv6 := Lib.hid hv6
  replace hk6 := Lib.hid hk6
  replace hR6 := Lib.hid hR6
  replace hO6 := Lib.hid (hO6.lowD hsz)
  replace hLA6 := Lib.hid hLA6
  clear hO hLA hR9 hk9 hZ5 hv5 hk5 hs hX2 hZ2 hv2 hk2 hR2 hca r0 rf rl hsz
  go_upto_region 6 with fail
  clear x0 x1 x2 x3 x4 x5 x6 xf xl
  generalize (w5.setCell ⟨X, 5, none⟩ (.slice aa NA ac)) = w6 at *
  clear hX5
  obtain ⟨r0, rf, rl⟩ := cl1 hv6.out.r
  have hca := hc5.out w6 br bR bF bO hR6.out hv6.out
  replace hca := Lib.hid hca
  go_wp2_with fail
  refine hca.out.mono ?_
  rintro e w7 ⟨v, XC, rfl, hO, hRC, hR9, hk9⟩
  obtain ⟨ca, cc, rfl⟩ := hO.form
  obtain ⟨NC, hNC⟩ : ∃ n, XC.length = n := ⟨_, rfl⟩
  rw [hNC] at hO ⊢
  replace hNC := Lib.hid hNC
  have hX7 := (hk9.block X (lt_of_blk hX6.out) (by have := hall.out; simp only [List.mem_singleton]; omega)).trans hX6.out
  have hZ7 := (hk9.block Z (lt_of_blk hZ6.out) (by have := hall.out; simp only [List.mem_singleton]; omega)).trans hZ6.out
  have hv7 := hv6.out.rd hk9
  have hk7 : Keeps [] w w7 := hk6.out.fresh hk9 (fun b hb => by simp only [List.mem_singleton] at hb; subst hb; have h1 := hall.out; have h2 := hWZ.out; exact .inr (by omega))
  have hO7 := hO6.out.keepS hk9 (fun b hb e => by simp only [List.mem_singleton] at hb; subst hb; obtain ⟨cs, hc⟩ := hO6.out.tag _ e; obtain ⟨c2, h2⟩ := hR6.out.tag; rw [h2] at hc; cases hc)
  have hLA7 := hLA6.out.ki (hk9.ki (fun b hb cs f e => by simp only [List.mem_singleton] at hb; subst hb; obtain ⟨c2, h2⟩ := hR6.out.tag; rw [h2] at e; cases e))
  have hs : Keeps [X] w7 (w7.setCell ⟨X, 6, none⟩ (.slice ca NC cc)) := (Keeps.refl _ _).setCell (.inr (by simp)) _
  have hX8 : (w7.setCell ⟨X, 6, none⟩ (.slice ca NC cc)).heap[X]? = some (.cells #[.int .i64 y0, .int .i64 y1, .int .i64 n0, .int .u64 n1, .int .i64 n2, .slice aa NA ac, .slice ca NC cc] tCt (0, 0)) := by simp [World.setCell, Array.getElem?_modify, hX7]
  have hZ8 := (hs.block Z (lt_of_blk hZ7) (by have := hall.out; simp only [List.mem_singleton]; omega)).trans hZ7
  have hv8 := hv7.keep hs (by have := hall.out; simp only [List.mem_singleton]; omega) (by have := hall.out; simp only [List.mem_singleton]; omega) (by have := hall.out; simp only [List.mem_singleton]; omega)
  have hk8 : Keeps [] w (w7.setCell ⟨X, 6, none⟩ (.slice ca NC cc)) := hk7.fresh hs (fun b hb => by simp only [List.mem_singleton] at hb; subst hb; have h1 := hall.out; have h2 := hWZ.out; exact .inr (by omega))
  have hR8 := hR9.other hs hX7 (by decide) (by decide)
  have hO8 := hO7.keepS hs (fun b hb e => by simp only [List.mem_singleton] at hb; subst hb; obtain ⟨cs, hc⟩ := hO7.tag _ e; rw [hX7] at hc; cases hc)
  have hLA8 := hLA7.ki (hs.ki (fun b hb cs f e => by simp only [List.mem_singleton] at hb; subst hb; rw [hX7] at e; cases e))
  have hC8 := hO.keepS hs (fun b hb e => by simp only [List.mem_singleton] at hb; subst hb; obtain ⟨cs, hc⟩ := hO.tag _ e; rw [hX7] at hc; cases hc)
  have hRC8 := hRC.keepS hs (fun b hb cs f e => by simp only [List.mem_singleton] at hb; subst hb; rw [hX7] at e; cases e)
  obtain ⟨x0, x1, x2, x3, x4, x5, x6, xf, xl⟩ := cl7 hX7
  have hsz : w.heap.size ≤ w6.heap.size := hk6.out.size
  replace hX8 := Lib.hid hX8
  replace hZ8 := Lib.hid hZ8
  replace hv8 := Lib.hid hv8
  replace hk8 := Lib.hid hk8
  replace hR8 := Lib.hid hR8
  replace hO8 := Lib.hid hO8
  replace hLA8 := Lib.hid hLA8
  replace hC8 := Lib.hid (hC8.lowD hsz)
  replace hRC8 := Lib.hid hRC8
  clear hO hRC hR9 hk9 hZ7 hv7 hk7 hO7 hLA7 hs hX6 hZ6 hv6 hk6 hR6 hO6 hLA6 hca r0 rf rl hsz
  go_upto_region 7 with fail
  clear x0 x1 x2 x3 x4 x5 x6 xf xl
  generalize (w7.setCell ⟨X, 6, none⟩ (.slice ca NC cc)) = w8 at *
  clear hX7
  obtain ⟨r0, rf, rl⟩ := cl1 hv8.out.r
  obtain ⟨x0, x1, x2, x3, x4, x5, x6, xf, xl⟩ := cl7 hX8.out
  obtain ⟨z0, z1, z2, z3, z4, z5, z6, zf, zl⟩ := cl7 hZ8.out
  have hcD := doneS_c w8 br s5 hR8.out
  obtain ⟨dn, hdn⟩ : ∃ n, doneE s5.1 s5.2 = n := ⟨_, rfl⟩
  rw [hdn] at hcD hdec
  have hd5 : dn = 0 → s5.2 = 0 := fun e => by
    rw [e] at hdn
    unfold doneE at hdn
    split at hdn
    · cases hdn
    · exact hdn
  replace hcD := Lib.hid hcD
  replace hdn := Lib.hid hdn
  by_cases hd0 : dn = 0
  case neg =>
    have hdb : (dn != 0) = true := by simpa using hd0
    have hnone : Hid (decS l = none) := Lib.hid (by rw [hdec.out, if_neg (fun h => hd0 h.2)])
    replace hd0 := Lib.hid hd0
    go_wp2_with fail
    refine hcD.out.mono ?_
    rintro e w9 ⟨rfl, rfl⟩
    go_wp2
    obtain ⟨m1, m2⟩ := sc7 (.int .i64 0) (.int .i64 0) (.int .i64 0) (.int .u64 0) (.int .i64 0) (.slice none 0 0) (.slice none 0 0) hZ8.out
    refine bodyPost_ret (results_ct7 rfl _ _ _ _ _ _ _ _ _ _ _ _ rfl m1) rfl ?_
    exact .inl ⟨hnone.out, rfl, hk8.out.fresh m2 (fun b hb => by simp only [List.mem_singleton] at hb; subst hb; exact .inr hWZ.out)⟩
  case pos =>
    have hs5 := hd5 hd0
    have hsome : Hid (decS l = some ⟨y0, y1, (n0, n1, n2), YY, PP⟩) := Lib.hid (by rw [hdec.out, if_pos ⟨hs5, hd0⟩])
    have hdb : (dn != 0) = false := by simpa using hd0
    replace hd0 := Lib.hid hd0
    clear hs5 hd5
    go_wp2_with fail
    refine hcD.out.mono ?_
    rintro e w9 ⟨rfl, rfl⟩
    go_wp2
    obtain ⟨m1, m2⟩ := sc7 (.int .i64 y0) (.int .i64 y1) (.int .i64 n0) (.int .u64 n1) (.int .i64 n2) (.slice aa NA ac) (.slice ca NC cc) hZ8.out
    have hOf := hO8.out.keepS m2 (fun b hb e => by simp only [List.mem_singleton] at hb; subst hb; obtain ⟨cs, hc⟩ := hO8.out.tag _ e; rw [hZ8.out] at hc; cases hc)
    have hLf := hLA8.out.ki (m2.ki (fun b hb cs f e => by simp only [List.mem_singleton] at hb; subst hb; rw [hZ8.out] at e; cases e))
    have hCf := hC8.out.keepS m2 (fun b hb e => by simp only [List.mem_singleton] at hb; subst hb; obtain ⟨cs, hc⟩ := hC8.out.tag _ e; rw [hZ8.out] at hc; cases hc)
    have hRf := hRC8.out.keepS m2 (fun b hb cs f e => by simp only [List.mem_singleton] at hb; subst hb; rw [hZ8.out] at e; cases e)
    have hkf := hk8.out.fresh m2 (fun b hb => by simp only [List.mem_singleton] at hb; subst hb; exact .inr hWZ.out)
    refine bodyPost_ret (results_ct7 rfl _ _ _ _ _ _ _ _ _ _ _ _ rfl m1) rfl ?_
    refine .inr ⟨⟨y0, y1, n0, n1, n2, (aa, NA, ac), (ca, NC, cc)⟩, _, XA, XC, hsome.out, rfl, ⟨rfl, rfl, rfl, rfl, rfl, ?_, ?_, ?_, ?_⟩, hkf⟩
    · exact hOf
    · exact hLf
    · exact hCf
    · exact hRf
end Go.Proofs.YtiplgpefapeapaaGreat

namespace Go.Proofs.YtiplgpefapeapaaGreat
open Go Go.RowKit
attribute [local go_sem] Oper.semAt_some
/-- The facts of the calls: bytes. -/
def SmF (B : List UInt8) (i : Nat) (v : Value) (w : World) : Prop := i = 1 ∨ i = 4 → SlB w v B
theorem SmF.keep {B : List UInt8} {i : Nat} {v : Value} {w w' : World} (h : SmF B i v w) (hk : Free.KeepsP (fun _ => False) w w') : SmF B i v w' :=
  have k : Keeps [] w w' := hk.to (Keeps.refl [] w) (fun _ h => h.elim)
  fun e => (h e).keeps k
set_option maxRecDepth 100000 in
set_option maxHeartbeats 8000000 in
theorem sameCt_c (w : World) (x y : CtV) (c : Ct) (hx : CtW w x c) (hy : CtW w y c) (hf : c.Fit) (hw : c.wt ≤ 140737488354000) :
    Calls Tryz.prog 9 #[ctV x, ctV y] w fun e w' => e = .returned (.bool true) ∧ Keeps [] w w' := by
  have hex := fun W (hk : Keeps [] w W) => encodeS_c W x c (hx.keeps hk) hf hw
  have hey := fun W (hk : Keeps [] w W) => encodeS_c W y c (hy.keeps hk) hf hw
  obtain ⟨BE, hBE⟩ : ∃ L, encCt c = L := ⟨_, rfl⟩
  obtain ⟨sb, hsb⟩ : ∃ s, Hid (str BE = s) := ⟨_, Lib.hid rfl⟩
  obtain ⟨x0, x1, x2, x3, x4, ⟨x5, x6, x7⟩, ⟨x8, x9, x10⟩⟩ := x
  obtain ⟨y0, y1, y2, y3, y4, ⟨y5, y6, y7⟩, ⟨y8, y9, y10⟩⟩ := y
  simp only [ctV, slv, hBE] at hex hey ⊢
  obtain ⟨hbx, hby, hkA, hzA⟩ := blks2 w (.cells #[.int .i64 x0, .int .i64 x1, .int .i64 x2, .int .u64 x3, .int .i64 x4, .slice x5 x6 x7, .slice x8 x9 x10] tCt) (.cells #[.int .i64 y0, .int .i64 y1, .int .i64 y2, .int .u64 y3, .int .i64 y4, .slice y5 y6 y7, .slice y8 y9 y10] tCt)
  replace hex := Lib.hid hex
  replace hey := Lib.hid hey
  replace hbx := Lib.hid hbx
  replace hby := Lib.hid hby
  replace hkA := Lib.hid hkA
  clear hx hy hzA hBE
  go_enter Tryz.func9, Tryz.ntmps9
  go_upto_region 1 with fail
  generalize ((w.alloc (.cells #[.int .i64 x0, .int .i64 x1, .int .i64 x2, .int .u64 x3, .int .i64 x4, .slice x5 x6 x7, .slice x8 x9 x10] tCt)).alloc (.cells #[.int .i64 y0, .int .i64 y1, .int .i64 y2, .int .u64 y3, .int .i64 y4, .slice y5 y6 y7, .slice y8 y9 y10] tCt)) = W at *
  obtain ⟨p0, p1, p2, p3, p4, p5, p6, pf, pl⟩ := cl7 hbx.out
  obtain ⟨q0, q1, q2, q3, q4, q5, q6, qf, ql⟩ := cl7 hby.out
  refine Free.wp_region_free (by kernel_rfl) (by kernel_rfl) (fun i => i == 1 || i == 4) (SmF BE) (fun _ _ => False) (fun _ _ => false) (fun i k v w w2 _ _ _ _ hF hk => hF.keep hk) ?_
  apply Free.walk_quiet rfl rfl
  · intro w' hg hf; clear hf
    have r0 := (hg.cell _ _ (lt_of_cell p0) (fun h => by obtain ⟨_, _, _, h⟩ := h; exact h.elim)).trans p0
    have r1 := (hg.cell _ _ (lt_of_cell p1) (fun h => by obtain ⟨_, _, _, h⟩ := h; exact h.elim)).trans p1
    have r2 := (hg.cell _ _ (lt_of_cell p2) (fun h => by obtain ⟨_, _, _, h⟩ := h; exact h.elim)).trans p2
    have r3 := (hg.cell _ _ (lt_of_cell p3) (fun h => by obtain ⟨_, _, _, h⟩ := h; exact h.elim)).trans p3
    have r4 := (hg.cell _ _ (lt_of_cell p4) (fun h => by obtain ⟨_, _, _, h⟩ := h; exact h.elim)).trans p4
    have r5 := (hg.cell _ _ (lt_of_cell p5) (fun h => by obtain ⟨_, _, _, h⟩ := h; exact h.elim)).trans p5
    have r6 := (hg.cell _ _ (lt_of_cell p6) (fun h => by obtain ⟨_, _, _, h⟩ := h; exact h.elim)).trans p6
    go_simp <;> exact rfl
  go_frame
  apply Free.walk_loud rfl rfl
  · intro w' hg hf
    have hkw : Keeps [] W w' := hg.to ((Keeps.refl [] W).drew) (fun b h => by obtain ⟨_, _, _, h⟩ := h; exact h.elim)
    clear hf hg
    go_simp
    refine (hex.out w' (hkA.out.trans hkw)).mono ?_
    rintro e w2 ⟨v, rfl, hO, k2⟩
    exact ⟨_, rfl, fun _ => hO, Free.KeepsP.of k2 (by simp)⟩
  intro v1
  go_frame
  refine Free.walk_quiet (c := .string sb) rfl rfl ?_ ?_
  · intro w' hg hf
    have h3 : SmF BE 1 v1 w' := by simpa using hf 1 (by decide) (by kernel_rfl)
    have hrs := run_str (h3 (.inl rfl))
    clear hf hg h3
    rw [hsb.out] at hrs
    go_simp <;> exact rfl
  go_frame
  apply Free.walk_quiet rfl rfl
  · intro w' hg hf; clear hf
    have r0 := (hg.cell _ _ (lt_of_cell q0) (fun h => by obtain ⟨_, _, _, h⟩ := h; exact h.elim)).trans q0
    have r1 := (hg.cell _ _ (lt_of_cell q1) (fun h => by obtain ⟨_, _, _, h⟩ := h; exact h.elim)).trans q1
    have r2 := (hg.cell _ _ (lt_of_cell q2) (fun h => by obtain ⟨_, _, _, h⟩ := h; exact h.elim)).trans q2
    have r3 := (hg.cell _ _ (lt_of_cell q3) (fun h => by obtain ⟨_, _, _, h⟩ := h; exact h.elim)).trans q3
    have r4 := (hg.cell _ _ (lt_of_cell q4) (fun h => by obtain ⟨_, _, _, h⟩ := h; exact h.elim)).trans q4
    have r5 := (hg.cell _ _ (lt_of_cell q5) (fun h => by obtain ⟨_, _, _, h⟩ := h; exact h.elim)).trans q5
    have r6 := (hg.cell _ _ (lt_of_cell q6) (fun h => by obtain ⟨_, _, _, h⟩ := h; exact h.elim)).trans q6
    go_simp <;> exact rfl
  go_frame
  apply Free.walk_loud rfl rfl
  · intro w' hg hf
    have hkw : Keeps [] W w' := hg.to ((Keeps.refl [] W).drew) (fun b h => by obtain ⟨_, _, _, h⟩ := h; exact h.elim)
    clear hf hg
    go_simp
    refine (hey.out w' (hkA.out.trans hkw)).mono ?_
    rintro e w2 ⟨v, rfl, hO, k2⟩
    exact ⟨_, rfl, fun _ => hO, Free.KeepsP.of k2 (by simp)⟩
  intro v4
  go_frame
  refine Free.walk_quiet (c := .string sb) rfl rfl ?_ ?_
  · intro w' hg hf
    have h3 : SmF BE 4 v4 w' := by simpa using hf 4 (by decide) (by kernel_rfl)
    have hrs := run_str (h3 (.inr rfl))
    clear hf hg h3
    rw [hsb.out] at hrs
    go_simp <;> exact rfl
  go_frame
  refine Free.walk_quiet (c := .bool true) rfl rfl ?_ ?_
  · intro w' hg hf; clear hf
    go_simp <;> exact rfl
  go_frame
  (apply Free.walk_quiet rfl rfl; (intro w' hg hf; clear hf; go_simp <;> exact rfl))
  refine Free.walk_nil ?_
  intro wF hg hf
  have hkF := Lib.hid (hkA.out.trans (hg.to (S := []) ((Keeps.refl [] W).drew) (fun b h => by obtain ⟨_, h⟩ := h; exact h.elim)))
  clear hf hg p0 p1 p2 p3 p4 p5 p6 pf pl q0 q1 q2 q3 q4 q5 q6 qf ql
  go_frame
  go_wp2
  go_ret
  exact ⟨rfl, hkF.out⟩
end Go.Proofs.YtiplgpefapeapaaGreat

namespace Go.Proofs.YtiplgpefapeapaaGreat
open Go Go.RowKit

def ctZ : Ct := ⟨0, 0, (0, 0, 0), [], []⟩
/-- What both Decodes give: a certificate and an error. -/
def rcD (l : List UInt8) : Ct := (decS l).getD ctZ
def rnD (l : List UInt8) : Int := if (decS l).isSome then 0 else 11
theorem ctZ_w (w : World) : CtW w zeroCt ctZ := ⟨rfl, rfl, rfl, rfl, rfl, ⟨[], Sh.R.nil _ _, rfl, fun k x y h => by simp at h⟩, LC.nil _⟩
theorem DecP.w {w w' : World} {l : List UInt8} {e : Ending} (h : DecP w l e w') : ∃ x, e = .returned (.tuple #[ctV x, .int .i64 (rnD l)]) ∧ CtW w' x (rcD l) ∧ Keeps [] w w' := by
  unfold rcD rnD
  rcases h with ⟨h1, h2, h3⟩ | ⟨x, c, XA, XC, h1, h2, h3, h4⟩
  · rw [h1]; exact ⟨zeroCt, h2, ctZ_w _, h3⟩
  · rw [h1]; exact ⟨x, h2, h3.w, h4⟩
end Go.Proofs.YtiplgpefapeapaaGreat

namespace Go.Proofs.YtiplgpefapeapaaGreat
open Go.RowKit

def few0 (c : Ct) : Int := wrap64 ((c.an.length : Int) + c.cl.length)
def few1 (Y : List Ans) (z : Int) : Int := Y.foldl (fun z a => wrap64 (z + (a.ins.length : Nat))) z
def few2 (P : List PCl) (z : Int) : Int := P.foldl (fun z p => wrap64 (z + wrap64 (wrap64 ((p.st.length : Nat) + (p.sc.length : Nat)) + (p.ch.length : Nat)))) z
def fewV (c : Ct) : Bool := decide (few2 c.cl (few1 c.an (few0 c)) ≤ 100)
theorem few1_succ (Y : List Ans) (z : Int) (k : Nat) (h : k < Y.length) : few1 (Y.take (k + 1)) z = wrap64 (few1 (Y.take k) z + (Y[k].ins.length : Nat)) := by
  unfold few1
  rw [List.take_succ_eq_append_getElem h, List.foldl_append, List.foldl_cons, List.foldl_nil]
theorem few2_succ (P : List PCl) (z : Int) (k : Nat) (h : k < P.length) : few2 (P.take (k + 1)) z = wrap64 (few2 (P.take k) z + wrap64 (wrap64 ((P[k].st.length : Nat) + (P[k].sc.length : Nat)) + (P[k].ch.length : Nat))) := by
  unfold few2
  rw [List.take_succ_eq_append_getElem h, List.foldl_append, List.foldl_cons, List.foldl_nil]
theorem few1_zero (Y : List Ans) (z : Int) : few1 (Y.take 0) z = z := by unfold few1; rw [List.take_zero, List.foldl_nil]
theorem few2_zero (P : List PCl) (z : Int) : few2 (P.take 0) z = z := by unfold few2; rw [List.take_zero, List.foldl_nil]
set_option maxRecDepth 100000 in
set_option maxHeartbeats 4000000 in
theorem fewX_c (w : World) (x : CtV) (c : Ct) (h : CtW w x c) :
    Calls Tryz.prog 10 #[ctV x] w fun e w' => e = .returned (.bool (fewV c)) ∧ Keeps [] w w' := by
  obtain ⟨x0, x1, x2, x3, x4, ⟨x5, x6, x7⟩, ⟨x8, x9, x10⟩⟩ := x
  have han := h.an
  have hcl := h.cl
  simp only [slv] at han hcl
  obtain ⟨_, _, e1, hla, hca⟩ := han.form
  obtain ⟨_, _, e2, hlc, hcc⟩ := hcl.form
  simp only [Value.slice.injEq] at e1 e2
  obtain ⟨-, e1, -⟩ := e1
  obtain ⟨-, e2, -⟩ := e2
  rw [← e1] at hla
  rw [← e2] at hlc
  have hA := heap_alloc_new w (.cells #[.int .i64 x0, .int .i64 x1, .int .i64 x2, .int .u64 x3, .int .i64 x4, .slice x5 x6 x7, .slice x8 x9 x10] tCt)
  have hkA := (Keeps.refl [] w).alloc (.cells #[.int .i64 x0, .int .i64 x1, .int .i64 x2, .int .u64 x3, .int .i64 x4, .slice x5 x6 x7, .slice x8 x9 x10] tCt)
  have han1 := han.keeps hkA
  have hcl1 := hcl.keeps hkA
  obtain ⟨W, hW⟩ : ∃ W, w.alloc (.cells #[.int .i64 x0, .int .i64 x1, .int .i64 x2, .int .u64 x3, .int .i64 x4, .slice x5 x6 x7, .slice x8 x9 x10] tCt) = W := ⟨_, rfl⟩
  obtain ⟨B, hB⟩ : ∃ B, w.heap.size = B := ⟨_, rfl⟩
  have hx6m : x6 ≤ 9223372036854775807 := by unfold maxLen at hca; omega
  have hx9m : x9 ≤ 9223372036854775807 := by unfold maxLen at hcc; omega
  obtain ⟨z0, hz0⟩ : ∃ z, wrap64 ((x6 : Int) + x9) = z := ⟨_, rfl⟩
  have hz0f : z0 = few0 c := by
    unfold few0
    rw [← hz0, e1, e2]
  rw [hW] at han1 hcl1 hA hkA
  rw [hB] at hA
  replace han1 := Lib.hid han1
  replace hcl1 := Lib.hid hcl1
  replace hkA := Lib.hid hkA
  replace hW := Lib.hid hW
  replace hB := Lib.hid hB
  replace e1 := Lib.hid e1
  replace e2 := Lib.hid e2
  replace hA := Lib.hid hA
  replace hz0 := Lib.hid hz0
  replace hz0f := Lib.hid hz0f
  clear h han hcl
  simp only [ctV, slv]
  go_enter Tryz.func10, Tryz.ntmps10
  go_upto_region 1 with fail
  rw [hW.out, hB.out]
  obtain ⟨i0, i1, i2, i3, i4, i5, i6, if', il⟩ := cl7 hA.out
  go_wp2
  simp only [hz0.out]
  go_loopw [3, 18] (fun n i wr => ∃ (k : Nat) (z : Int), n = .int .i64 z ∧ i = .int .i64 k ∧ k ≤ x6 ∧ Hid (z = few1 (c.an.take k) (few0 c)) ∧ Hid (Keeps [] W wr)) (fun _ i _ => x6 - (intOf i).toNat)
  case atStart => exact ⟨0, z0, rfl, rfl, by omega, Lib.hid (by rw [few1_zero]; exact hz0f.out), Lib.hid (Keeps.refl _ _)⟩
  case round =>
    clear i0 i1 i2 i3 i4 i5 i6 if' il
    obtain ⟨k, z, rfl, rfl, hk, hno, hkw⟩ := hrel
    by_cases hlt : k < x6
    · have hlt2 : (k : Int) < x6 := by omega
      have hkl : k < c.an.length := by rw [← e1.out]; exact hlt
      obtain ⟨g, o, c', x, hv, hx, he⟩ := (han1.out.keeps hkw.out).elem hkl
      rw [← e1.out] at hv
      cases hv
      obtain ⟨_, _, ev, _⟩ := hx.ins.form
      obtain ⟨y0, y1, y2, y3, y4, y5, y6, y7, y8, y9⟩ := x
      simp only [AnV.v, Value.slice.injEq] at ev
      obtain ⟨-, ev, -⟩ := ev
      have g0 := he 0 _ rfl
      have g1 := he 1 _ rfl
      have g2 := he 2 _ rfl
      have g3 := he 3 _ rfl
      have g4 := he 4 _ rfl
      have g5 := he 5 _ rfl
      have g6 := he 6 _ rfl
      have g7 := he 7 _ rfl
      simp only [AnV.v, Nat.add_zero] at g0 g1 g2 g3 g4 g5 g6 g7
      replace ev := Lib.hid ev
      have hkn := Lib.hid (hkw.out.trans ((Keeps.refl [] wr).alloc (.cells #[.int .i64 y0, .int .i64 y1, .int .u64 y2, .int .i64 y3, .bool y4, .bool y5, .int .i64 y6, .slice y7 y8 y9] tA)))
      have hno2 : Hid (wrap64 (z + y8) = few1 (c.an.take (k + 1)) (few0 c)) := Lib.hid (by
        rw [few1_succ _ _ _ hkl, hno.out, ev.out])
      clear he hx
      go_wp2
      go_roundw
      case rel => exact ⟨k + 1, _, rfl, rfl, by omega, hno2, hkn⟩
      case measure => simp [intOf]; omega
    · have hlt2 : ¬ ((k : Int) < x6) := by omega
      have hAr := (hkw.out.block _ (lt_of_blk hA.out) (by simp)).trans hA.out
      obtain ⟨i0, i1, i2, i3, i4, i5, i6, if', il⟩ := cl7 hAr
      have hno3 : Hid (z = few1 c.an (few0 c)) := Lib.hid (by
        have := hno.out
        have hkx : k = c.an.length := by have := e1.out; omega
        rw [hkx, List.take_length] at this
        exact this)
      clear hno
      go_wp2
      generalize wr = W2 at *
      go_loopw [3, 31] (fun n i wr => ∃ (k : Nat) (z : Int), n = .int .i64 z ∧ i = .int .i64 k ∧ k ≤ x9 ∧ Hid (z = few2 (c.cl.take k) (few1 c.an (few0 c))) ∧ Hid (Keeps [] W wr)) (fun _ i _ => x9 - (intOf i).toNat)
      case atStart => exact ⟨0, z, rfl, rfl, by omega, Lib.hid (by rw [few2_zero]; exact hno3.out), hkw⟩
      case round =>
        clear i0 i1 i2 i3 i4 i5 i6 if' il
        obtain ⟨k, z, rfl, rfl, hk, hnoc, hkw⟩ := hrel
        by_cases hlt : k < x9
        · have hlt2 : (k : Int) < x9 := by omega
          have hkl : k < c.cl.length := by rw [← e2.out]; exact hlt
          obtain ⟨g, o, c', x, hv, hx, g0, g1, g2, g3, g4⟩ := (hcl1.out.keeps hkw.out).elem hkl
          rw [← e2.out] at hv
          cases hv
          obtain ⟨_, _, ev1, _⟩ := hx.st.form
          obtain ⟨_, _, ev2, _⟩ := hx.sc.form
          obtain ⟨_, _, ev3, _⟩ := hx.ch.form
          obtain ⟨y0, y1, ⟨y2, y3, y4⟩, ⟨y5, y6, y7⟩, ⟨y8, y9, y10⟩⟩ := x
          simp only [slv, Value.slice.injEq] at ev1 ev2 ev3
          simp only [slv] at g0 g1 g2 g3 g4
          obtain ⟨-, ev1, -⟩ := ev1
          obtain ⟨-, ev2, -⟩ := ev2
          obtain ⟨-, ev3, -⟩ := ev3
          replace ev1 := Lib.hid ev1
          replace ev2 := Lib.hid ev2
          replace ev3 := Lib.hid ev3
          have hkn := Lib.hid (hkw.out.trans ((Keeps.refl [] wr).alloc (.cells #[.int .i64 y0, .int .i64 y1, .slice y2 y3 y4, .slice y5 y6 y7, .slice y8 y9 y10] tC)))
          have hno2 : Hid (wrap64 (z + wrap64 (wrap64 (y3 + y6) + y9)) = few2 (c.cl.take (k + 1)) (few1 c.an (few0 c))) := Lib.hid (by
            rw [few2_succ _ _ _ hkl, hnoc.out, ev1.out, ev2.out, ev3.out])
          clear hx
          go_wp2
          go_roundw
          case rel => exact ⟨k + 1, _, rfl, rfl, by omega, hno2, hkn⟩
          case measure => simp [intOf]; omega
        · have hlt2 : ¬ ((k : Int) < x9) := by omega
          have hend : Hid (decide (z ≤ 100) = fewV c) := Lib.hid (by
            have hn := hnoc.out
            have hkx : k = c.cl.length := by have := e2.out; omega
            rw [hkx, List.take_length] at hn
            unfold fewV
            rw [hn])
          go_wp2
          go_ret
          exact ⟨by rw [hend.out]; rfl, hkA.out.trans hkw.out⟩
end Go.Proofs.YtiplgpefapeapaaGreat

namespace Go.Proofs.YtiplgpefapeapaaGreat
open Go Go.RowKit
attribute [local go_sem] Oper.semAt_some
/-- The facts of the last line's calls. -/
def EgF (B : List UInt8) (i : Nat) (v : Value) (w : World) : Prop := (i = 3 → SlB w v B) ∧ (i = 13 ∨ i = 16 → v = .bool true)
theorem EgF.keep {B : List UInt8} {i : Nat} {v : Value} {w w' : World} (h : EgF B i v w) (hk : Free.KeepsP (fun _ => False) w w') : EgF B i v w' :=
  have k : Keeps [] w w' := hk.to (Keeps.refl [] w) (fun _ h => h.elim)
  ⟨fun e => (h.1 e).keeps k, h.2⟩
set_option maxRecDepth 100000 in
set_option maxHeartbeats 16000000 in
theorem certEncoding_c (w : World) (x : CtV) (c : Ct) (h : CtW w x c) (hfit : c.Fit) (hfew : fewV c = true → c.Few) :
    Calls Tryz.prog 4 #[ctV x] w fun e w' => e = .returned (.bool true) ∧ Keeps [] w w' := by
  have haw := fun W => awake_c W
  have hfx := fun W (hk : Keeps [] w W) => fewX_c W x c (h.keeps hk)
  have hen := fun W (hk : Keeps [] w W) (hF : c.Few) => encodeE_c W x c (h.keeps hk) hfit hF
  have her := fun W (hk : Keeps [] w W) (hF : c.Few) => encodeS_c W x c (h.keeps hk) hfit (by have := hF.f24.wt; omega)
  have hdc := fun (W : World) (v0 : Value) (hv : SlB W v0 (encCt c)) (hF : c.Few) => (decodeD_c W v0 (encCt c) hv (by have := encCt_len hF.f24 hfit; omega)).mono fun e w' hh => (show ∃ y : CtV, e = .returned (.tuple #[ctV y, .int .i64 0]) ∧ CtW w' y c ∧ Keeps [] W w' from by
    rcases hh with ⟨h1, _⟩ | ⟨y, d, XA, XC, h1, h2, h3, h4⟩
    · rw [decS_enc hF.f24 hfit] at h1; cases h1
    · rw [decS_enc hF.f24 hfit] at h1; cases h1; exact ⟨y, h2, h3.w, h4⟩)
  have hsm := fun W (y : CtV) (hk : Keeps [] w W) (hy : CtW W y c) (hF : c.Few) => sameCt_c W x y c (h.keeps hk) hy hfit (by have := hF.f24.wt; omega)
  obtain ⟨x0, x1, x2, x3, x4, ⟨x5, x6, x7⟩, ⟨x8, x9, x10⟩⟩ := x
  have hkA := (Keeps.refl [] w).alloc (.cells #[.int .i64 x0, .int .i64 x1, .int .i64 x2, .int .u64 x3, .int .i64 x4, .slice x5 x6 x7, .slice x8 x9 x10] tCt)
  have hA := heap_alloc_new w (.cells #[.int .i64 x0, .int .i64 x1, .int .i64 x2, .int .u64 x3, .int .i64 x4, .slice x5 x6 x7, .slice x8 x9 x10] tCt)
  simp only [ctV, slv] at hfx hen her hsm ⊢
  replace haw := Lib.hid haw
  replace hfx := Lib.hid hfx
  replace hen := Lib.hid hen
  replace her := Lib.hid her
  replace hdc := Lib.hid hdc
  replace hsm := Lib.hid hsm
  replace hA := Lib.hid hA
  replace hkA := Lib.hid hkA
  clear h
  obtain ⟨fb, hfb⟩ : ∃ b, fewV c = b := ⟨_, rfl⟩
  simp only [hfb] at hfx hfew
  replace hfb := Lib.hid hfb
  go_enter Tryz.func4, Tryz.ntmps4
  go_upto_region 1 with fail
  generalize (w.alloc (.cells #[.int .i64 x0, .int .i64 x1, .int .i64 x2, .int .u64 x3, .int .i64 x4, .slice x5 x6 x7, .slice x8 x9 x10] tCt)) = W at *
  obtain ⟨X, hXX⟩ : ∃ B, w.heap.size = B := ⟨_, rfl⟩
  rw [hXX] at hA ⊢
  replace hXX := Lib.hid hXX
  obtain ⟨p0, p1, p2, p3, p4, p5, p6, pf, pl⟩ := cl7 hA.out
  go_wp2_with fail
  refine (hfx.out W hkA.out).mono ?_
  rintro e w1 ⟨rfl, k1⟩
  have hk1 := Lib.hid (hkA.out.trans k1)
  have hA1 := Lib.hid ((k1.block _ (lt_of_blk hA.out) (by simp)).trans hA.out)
  clear k1 hA hkA hfx p0 p1 p2 p3 p4 p5 p6 pf pl
  cases fb with
  | false =>
    go_wp2_with fail
    refine (haw.out _).mono ?_
    rintro e w2 ⟨rfl, k2⟩
    have hk2 := Lib.hid (hk1.out.trans k2)
    clear k2
    go_wp2
    go_ret
    exact ⟨rfl, hk2.out⟩
  | true =>
    have hF := hfew rfl
    have he := hen.out w1 hk1.out hF
    have hEl := encCt_len hF.f24 hfit
    clear hen hfew
    obtain ⟨BE, hBE⟩ : ∃ L, encCt c = L := ⟨_, rfl⟩
    rw [hBE] at he hEl
    simp only [hBE] at her hdc
    obtain ⟨sb, hsb⟩ : ∃ s, Hid (str BE = s) := ⟨_, Lib.hid rfl⟩
    replace he := Lib.hid he
    replace hF := Lib.hid hF
    clear hBE
    obtain ⟨p0, p1, p2, p3, p4, p5, p6, pf, pl⟩ := cl7 hA1.out
    go_wp2_with fail
    refine he.out.mono ?_
    rintro e w2 ⟨vb, rfl, hB2, k2⟩
    have hSb := hB2.slB
    obtain ⟨ab, cb, rfl⟩ := hSb.form
    obtain ⟨NB, hNB⟩ : ∃ n, BE.length = n := ⟨_, rfl⟩
    rw [hNB] at hSb hEl ⊢
    replace hNB := Lib.hid hNB
    have hk2 := Lib.hid (hk1.out.trans k2)
    have hA2 := Lib.hid ((k2.block _ (lt_of_blk hA1.out) (by simp)).trans hA1.out)
    replace hSb := Lib.hid hSb
    clear k2 hB2 hA1 hk1 he p0 p1 p2 p3 p4 p5 p6 pf pl
    have hd := hdc.out w2 _ hSb.out hF.out
    replace hd := Lib.hid hd
    clear hdc
    go_wp2_with fail
    refine hd.out.mono ?_
    rintro e w3 ⟨⟨y0, y1, y2, y3, y4, ⟨y5, y6, y7⟩, ⟨y8, y9, y10⟩⟩, rfl, hW3, k3⟩
    have hkY := (Keeps.refl [] w3).alloc (.cells #[.int .i64 y0, .int .i64 y1, .int .i64 y2, .int .u64 y3, .int .i64 y4, .slice y5 y6 y7, .slice y8 y9 y10] tCt)
    have hY := heap_alloc_new w3 (.cells #[.int .i64 y0, .int .i64 y1, .int .i64 y2, .int .u64 y3, .int .i64 y4, .slice y5 y6 y7, .slice y8 y9 y10] tCt)
    have hW4 := Lib.hid (hW3.keeps hkY)
    have hk4 := Lib.hid ((hk2.out.trans k3).trans hkY)
    have hA4 := Lib.hid (((k3.trans hkY).block _ (lt_of_blk hA2.out) (by simp)).trans hA2.out)
    have hSb4 := Lib.hid ((hSb.out.keeps k3).keeps hkY)
    replace hY := Lib.hid hY
    simp only [ctV, slv]
    clear hd hW3 k3 hkY hk2 hA2 hSb
    go_upto_region 5 with fail
    generalize (w3.alloc (.cells #[.int .i64 y0, .int .i64 y1, .int .i64 y2, .int .u64 y3, .int .i64 y4, .slice y5 y6 y7, .slice y8 y9 y10] tCt)) = W4 at *
    obtain ⟨Y, hYY⟩ : ∃ Y, w3.heap.size = Y := ⟨_, rfl⟩
    rw [hYY] at hY ⊢
    clear hYY
    obtain ⟨p0, p1, p2, p3, p4, p5, p6, pf, pl⟩ := cl7 hA4.out
    obtain ⟨q0, q1, q2, q3, q4, q5, q6, qf, ql⟩ := cl7 hY.out
    refine Free.wp_region_free (by kernel_rfl) (by kernel_rfl) (fun i => i == 3 || i == 13 || i == 16) (EgF BE) (fun _ _ => False) (fun _ _ => false) (fun i k v w w2 _ _ _ _ hF hk => hF.keep hk) ?_
    (apply Free.walk_quiet rfl rfl; (intro w' hg hf; clear hf; go_simp <;> exact rfl))
    go_frame
    refine Free.walk_quiet (c := .string sb) rfl rfl ?_ ?_
    · intro w' hg hf
      have hkw : Keeps [] W4 w' := hg.to ((Keeps.refl [] W4).drew) (fun b h => by obtain ⟨_, _, _, h⟩ := h; exact h.elim)
      clear hf hg
      have hrs := run_str (hSb4.out.keeps hkw)
      rw [hsb.out] at hrs
      go_simp <;> exact rfl
    go_frame
    apply Free.walk_quiet rfl rfl
    · intro w' hg hf; clear hf
      have r0 := (hg.cell _ _ (lt_of_cell p0) (fun h => by obtain ⟨_, _, _, h⟩ := h; exact h.elim)).trans p0
      have r1 := (hg.cell _ _ (lt_of_cell p1) (fun h => by obtain ⟨_, _, _, h⟩ := h; exact h.elim)).trans p1
      have r2 := (hg.cell _ _ (lt_of_cell p2) (fun h => by obtain ⟨_, _, _, h⟩ := h; exact h.elim)).trans p2
      have r3 := (hg.cell _ _ (lt_of_cell p3) (fun h => by obtain ⟨_, _, _, h⟩ := h; exact h.elim)).trans p3
      have r4 := (hg.cell _ _ (lt_of_cell p4) (fun h => by obtain ⟨_, _, _, h⟩ := h; exact h.elim)).trans p4
      have r5 := (hg.cell _ _ (lt_of_cell p5) (fun h => by obtain ⟨_, _, _, h⟩ := h; exact h.elim)).trans p5
      have r6 := (hg.cell _ _ (lt_of_cell p6) (fun h => by obtain ⟨_, _, _, h⟩ := h; exact h.elim)).trans p6
      go_simp <;> exact rfl
    go_frame
    apply Free.walk_loud rfl rfl
    · intro w' hg hf
      have hkw : Keeps [] W4 w' := hg.to ((Keeps.refl [] W4).drew) (fun b h => by obtain ⟨_, _, _, h⟩ := h; exact h.elim)
      clear hf hg
      go_simp
      refine (her.out w' (hk4.out.trans hkw) hF.out).mono ?_
      rintro e w2 ⟨v, rfl, hO, k2⟩
      exact ⟨_, rfl, ⟨fun _ => hO, fun e => by omega⟩, Free.KeepsP.of k2 (by simp)⟩
    intro v3
    go_frame
    refine Free.walk_quiet (c := .string sb) rfl rfl ?_ ?_
    · intro w' hg hf
      have h3 : EgF BE 3 v3 w' := by simpa using hf 3 (by decide) (by kernel_rfl)
      have hrs := run_str (h3.1 rfl)
      clear hf hg h3
      rw [hsb.out] at hrs
      go_simp <;> exact rfl
    go_frame
    refine Free.walk_quiet (c := .bool true) rfl rfl ?_ ?_
    · intro w' hg hf; clear hf
      go_simp <;> exact rfl
    go_frame
    (apply Free.walk_quiet rfl rfl; (intro w' hg hf; clear hf; go_simp <;> exact rfl))
    go_frame
    (apply Free.walk_quiet rfl rfl; (intro w' hg hf; clear hf; go_simp <;> exact rfl))
    go_frame
    (apply Free.walk_quiet rfl rfl; (intro w' hg hf; clear hf; go_simp <;> exact rfl))
    go_frame
    (apply Free.walk_quiet rfl rfl; (intro w' hg hf; clear hf; go_simp <;> exact rfl))
    go_frame
    (apply Free.walk_quiet rfl rfl; (intro w' hg hf; clear hf; go_simp <;> exact rfl))
    go_frame
    apply Free.walk_quiet rfl rfl
    · intro w' hg hf; clear hf
      have r0 := (hg.cell _ _ (lt_of_cell p0) (fun h => by obtain ⟨_, _, _, h⟩ := h; exact h.elim)).trans p0
      have r1 := (hg.cell _ _ (lt_of_cell p1) (fun h => by obtain ⟨_, _, _, h⟩ := h; exact h.elim)).trans p1
      have r2 := (hg.cell _ _ (lt_of_cell p2) (fun h => by obtain ⟨_, _, _, h⟩ := h; exact h.elim)).trans p2
      have r3 := (hg.cell _ _ (lt_of_cell p3) (fun h => by obtain ⟨_, _, _, h⟩ := h; exact h.elim)).trans p3
      have r4 := (hg.cell _ _ (lt_of_cell p4) (fun h => by obtain ⟨_, _, _, h⟩ := h; exact h.elim)).trans p4
      have r5 := (hg.cell _ _ (lt_of_cell p5) (fun h => by obtain ⟨_, _, _, h⟩ := h; exact h.elim)).trans p5
      have r6 := (hg.cell _ _ (lt_of_cell p6) (fun h => by obtain ⟨_, _, _, h⟩ := h; exact h.elim)).trans p6
      go_simp <;> exact rfl
    go_frame
    apply Free.walk_quiet rfl rfl
    · intro w' hg hf; clear hf
      have r0 := (hg.cell _ _ (lt_of_cell q0) (fun h => by obtain ⟨_, _, _, h⟩ := h; exact h.elim)).trans q0
      have r1 := (hg.cell _ _ (lt_of_cell q1) (fun h => by obtain ⟨_, _, _, h⟩ := h; exact h.elim)).trans q1
      have r2 := (hg.cell _ _ (lt_of_cell q2) (fun h => by obtain ⟨_, _, _, h⟩ := h; exact h.elim)).trans q2
      have r3 := (hg.cell _ _ (lt_of_cell q3) (fun h => by obtain ⟨_, _, _, h⟩ := h; exact h.elim)).trans q3
      have r4 := (hg.cell _ _ (lt_of_cell q4) (fun h => by obtain ⟨_, _, _, h⟩ := h; exact h.elim)).trans q4
      have r5 := (hg.cell _ _ (lt_of_cell q5) (fun h => by obtain ⟨_, _, _, h⟩ := h; exact h.elim)).trans q5
      have r6 := (hg.cell _ _ (lt_of_cell q6) (fun h => by obtain ⟨_, _, _, h⟩ := h; exact h.elim)).trans q6
      go_simp <;> exact rfl
    go_frame
    apply Free.walk_loud rfl rfl
    · intro w' hg hf
      have hkw : Keeps [] W4 w' := hg.to ((Keeps.refl [] W4).drew) (fun b h => by obtain ⟨_, _, _, h⟩ := h; exact h.elim)
      clear hf hg
      go_simp
      refine (hsm.out w' ⟨y0, y1, y2, y3, y4, (y5, y6, y7), (y8, y9, y10)⟩ (hk4.out.trans hkw) (hW4.out.keeps hkw) hF.out).mono ?_
      rintro e w2 ⟨rfl, k2⟩
      exact ⟨_, rfl, ⟨fun e => by omega, fun _ => rfl⟩, Free.KeepsP.of k2 (by simp)⟩
    intro v13
    go_frame
    refine Free.walk_quiet (c := .bool true) rfl rfl ?_ ?_
    · intro w' hg hf
      have h13 : EgF BE 13 v13 w' := by simpa using hf 13 (by decide) (by kernel_rfl)
      have e13 := h13.2 (.inl rfl)
      clear hf h13
      subst e13
      go_simp <;> exact rfl
    go_frame
    (apply Free.walk_quiet rfl rfl; (intro w' hg hf; clear hf; go_simp <;> exact rfl))
    go_frame
    apply Free.walk_loud rfl rfl
    · intro w' hg hf
      clear hf hg
      go_simp
      refine (haw.out w').mono ?_
      rintro e w2 ⟨rfl, k2⟩
      exact ⟨_, rfl, ⟨fun e => by omega, fun _ => rfl⟩, Free.KeepsP.of k2 (by simp)⟩
    intro v16
    go_frame
    refine Free.walk_quiet (c := .bool true) rfl rfl ?_ ?_
    · intro w' hg hf
      have h16 : EgF BE 16 v16 w' := by simpa using hf 16 (by decide) (by kernel_rfl)
      have e16 := h16.2 (.inr rfl)
      clear hf h16
      subst e16
      go_simp <;> exact rfl
    go_frame
    (apply Free.walk_quiet rfl rfl; (intro w' hg hf; clear hf; go_simp <;> exact rfl))
    refine Free.walk_nil ?_
    intro wF hg hf
    have hkF := Lib.hid (hk4.out.trans (hg.to (S := []) ((Keeps.refl [] W4).drew) (fun b h => by obtain ⟨_, h⟩ := h; exact h.elim)))
    clear hf hg p0 p1 p2 p3 p4 p5 p6 pf pl q0 q1 q2 q3 q4 q5 q6 qf ql
    go_frame
    go_wp2
    go_ret
    exact ⟨rfl, hkF.out⟩
end Go.Proofs.YtiplgpefapeapaaGreat
