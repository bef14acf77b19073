/- Texts that the laws lean on, in the order in which they build. The program's Encode of a certificate: a need, an inset, and lists of them. (Printed by mkenb.py.) The program's Encode of a certificate: lists of needs and of insets. (Printed by mkenc2.py.) The program's Encode of a certificate: an answer, and a list of them. (Printed by mkend2.py.) The program's Encode of a certificate: a claim, a list of them, the whole. (Printed by mkene.py.) The program's Encode of a certificate, walked. (Printed by mkenf.py.) The reference's reader: Uint. The reference's reader in whatever state: Uint, Bool, Count, Done. The specification reads needs. The specification reads an answer. (Printed by mkcvc.py.) The specification's Decode of a certificate. (Printed by mkcvd.py.) A trace that came about by operations is decoded from its encoding (plain). A certificate is read from its encoding (plain). -/
import Derived.Test.YtiplgpefapeapaaGreatE10
set_option linter.unusedVariables false
set_option linter.unusedSimpArgs false
namespace Go.Proofs.YtiplgpefapeapaaGreat
open Go Go.RowKit

set_option maxRecDepth 100000 in
set_option maxHeartbeats 4000000 in
theorem needE_c (w0 w : World) (v : Value) (l : List UInt8) (x : T3) (h : Buf w w0.heap.size v l) (k0 : Keeps [] w0 w) (hx : T3.Fit x) (hl : l.length ≤ 110000000000000) :
    Calls Tryz.prog 43 #[v, tV x] w (EP w0 w l (encX x)) := by
  obtain ⟨x0, x1, x2⟩ := x
  obtain ⟨hx0, hx1, hx2⟩ := hx
  simp only at hx0 hx1 hx2
  have hkA := (Keeps.refl [] w).alloc (.cells #[.int .i64 x0, .int .u64 x1, .int .i64 x2] tN)
  have hA := heap_alloc_new w (.cells #[.int .i64 x0, .int .u64 x1, .int .i64 x2] tN)
  obtain ⟨l1, hl1⟩ : ∃ y, l ++ flatI [x0] = y := ⟨_, rfl⟩
  obtain ⟨l2, hl2⟩ : ∃ y, l1 ++ encU x1 = y := ⟨_, rfl⟩
  obtain ⟨l3, hl3⟩ : ∃ y, l2 ++ flatI [x2] = y := ⟨_, rfl⟩
  have hres : l3 = l ++ encX (x0, x1, x2) := by rw [← hl3, ← hl2, ← hl1]; simp [encX, flatI, List.append_assoc]
  have hn1 : l1.length ≤ 115000000000000 := by
    have := flatI_len (L := [x0]) (by simp only [List.mem_cons, List.not_mem_nil, or_false]; rintro z rfl; exact hx0)
    rw [← hl1]
    simp only [List.length_append, List.length_cons, List.length_nil] at this ⊢; omega
  have hn2 : l2.length ≤ 120000000000000 := by
    have := encU_len hx1
    rw [← hl2, List.length_append]; omega
  have hB0 := Lib.hid ((h.keep hkA).keep (Keeps.refl [] _).drew)
  have hk0 := Lib.hid ((k0.trans hkA).trans (Keeps.refl [] _).drew)
  have hA0 := Lib.hid (((Keeps.refl [] _).drew.block _ (lt_of_blk hA) (by simp)).trans hA)
  have hkA2 := Lib.hid (hkA.trans (Keeps.refl [] _).drew)
  obtain ⟨a0, c0, rfl⟩ := h.form
  obtain ⟨ML, hML⟩ : ∃ n, l.length = n := ⟨_, rfl⟩
  rw [hML] at hB0 ⊢
  replace hML := Lib.hid hML
  replace hres := Lib.hid hres
  replace hl1 := Lib.hid hl1
  replace hl2 := Lib.hid hl2
  replace hl3 := Lib.hid hl3
  replace hn1 := Lib.hid hn1
  replace hn2 := Lib.hid hn2
  clear hkA hA h k0
  simp only [tV]
  go_enter Tryz.func43, Tryz.ntmps43
  go_upto_region 1 with fail
  generalize (w.alloc (.cells #[.int .i64 x0, .int .u64 x1, .int .i64 x2] tN)) = W at *
  obtain ⟨X, hXX⟩ : ∃ B, w.heap.size = B := ⟨_, rfl⟩
  rw [hXX] at hA0 ⊢
  replace hXX := Lib.hid hXX
  obtain ⟨i0, i1, i2, if', il⟩ := cl3 hA0.out
  refine FreeO.wp_region_free (by kernel_rfl) (by kernel_rfl) (fun i => i == 3 || i == 4 || i == 7 || i == 10 || i == 11) (EnF w0.heap.size (fun i => if i = 4 then some (l1) else if i = 7 then some (l2) else if i = 11 then some (l3) else none) (fun i => if i = 3 then some [x0] else if i = 10 then some [x2] else none)) (fun k => EnT w0.heap.size [4, 7, 11] k) (EnK [4, 7, 11]) (fun _ _ _ _ _ _ _ _ h => h) (fun i k a v w w' _ h2 h3 h4 h5 h6 => EnF.stable (ks := [4, 7, 11]) (fun i h => by simp only [List.mem_cons, List.not_mem_nil, or_false]; by_cases h4 : i = 4; (subst h4; decide); by_cases h7 : i = 7; (subst h7; decide); by_cases h11 : i = 11; (subst h11; decide); simp [h4, h7, h11] at h) (by kernel_rfl) i k a v w w' h2 h3 h4 h5 h6) ?_
  apply FreeO.walk_quiet rfl rfl
  · intro w' hg hf
    clear hf
    go_simp <;> exact rfl
  apply FreeO.walk_quiet rfl rfl
  · intro w' hg hf
    clear hf
    go_simp <;> exact rfl
  apply FreeO.walk_quiet rfl rfl
  · intro w' hg hf
    clear hf
    have g0 := hg.cell hA0.out (EnT.not (by decide)) i0
    have g1 := hg.cell hA0.out (EnT.not (by decide)) i1
    have g2 := hg.cell hA0.out (EnT.not (by decide)) i2
    go_simp <;> exact rfl
  apply FreeO.walk_loud rfl rfl
  · intro w' hg hf
    have hn := heap_alloc_new w' (.cells #[.int .i64 x0] 3)
    clear hf hg
    go_simp
    exact ⟨⟨fun y h => (by have h : (none : Option (List UInt8)) = some y := h; cases h), fun z h => (by have h : some [x0] = some z := h; cases h; exact ⟨_, rfl, _, rfl, hn⟩)⟩, FreeO.KeepsO.of ((Keeps.refl [] w').alloc _) (by simp)⟩
  intro v3
  apply FreeO.walk_loud rfl rfl
  · intro w' hg hf
    have hkw := KY.old hk0.out (EnT.ky hg)
    have hBb := hB0.out.keep (EnT.first (by kernel_rfl) hg)
    obtain ⟨p, e8, xs, hxs, hp⟩ := (show EnF w0.heap.size (fun i => if i = 4 then some (l1) else if i = 7 then some (l2) else if i = 11 then some (l3) else none) (fun i => if i = 3 then some [x0] else if i = 10 then some [x2] else none) 3 _ v3 w' from by simpa using hf 3 (by decide) (by kernel_rfl)).2 [x0] rfl
    clear hf hg
    subst e8
    simp only [List.length_cons, List.length_nil, Nat.zero_add, Nat.reduceAdd]
    go_simp
    refine (intsE_c w0 w' _ (l) _ [x0] hBb hkw (fun w2 h2 => shZ_blk hxs rfl (by simp) (h2.blk hp (by decide))) (by simp only [List.mem_cons, List.not_mem_nil, or_false]; rintro z rfl; exact hx0) (by simp) (by have := hML.out; omega)).mono ?_
    rintro e w3 ⟨v', rfl, hB3, hK3⟩
    rw [hl1.out] at hB3
    refine ⟨_, rfl, ⟨fun y h => ?_, fun z h => ?_⟩, EnT.of hK3 (by decide)⟩
    · have h : some (l1) = some y := h
      cases h
      exact hB3
    · have h : (none : Option (List Int)) = some z := h
      cases h
  intro v4
  apply FreeO.walk_quiet rfl rfl
  · intro w' hg hf
    clear hf
    go_simp <;> exact rfl
  apply FreeO.walk_quiet rfl rfl
  · intro w' hg hf
    clear hf
    have g0 := hg.cell hA0.out (EnT.not (by decide)) i0
    have g1 := hg.cell hA0.out (EnT.not (by decide)) i1
    have g2 := hg.cell hA0.out (EnT.not (by decide)) i2
    go_simp <;> exact rfl
  apply FreeO.walk_loud rfl rfl
  · intro w' hg hf
    have hkw := KY.old hk0.out (EnT.ky hg)
    have hBb := (show EnF w0.heap.size (fun i => if i = 4 then some (l1) else if i = 7 then some (l2) else if i = 11 then some (l3) else none) (fun i => if i = 3 then some [x0] else if i = 10 then some [x2] else none) 4 _ v4 w' from by simpa using hf 4 (by decide) (by kernel_rfl)).1 (l1) rfl
    clear hf hg
    go_simp
    refine (appUE w0 w' _ l1 x1 hBb hkw hx1 (by have := hn1.out; omega)).mono ?_
    rintro e w3 ⟨v', rfl, hB3, hK3⟩
    rw [hl2.out] at hB3
    refine ⟨_, rfl, ⟨fun y h => ?_, fun z h => ?_⟩, EnT.of hK3 (by decide)⟩
    · have h : some (l2) = some y := h
      cases h
      exact hB3
    · have h : (none : Option (List Int)) = some z := h
      cases h
  intro v7
  apply FreeO.walk_quiet rfl rfl
  · intro w' hg hf
    clear hf
    go_simp <;> exact rfl
  apply FreeO.walk_quiet rfl rfl
  · intro w' hg hf
    clear hf
    have g0 := hg.cell hA0.out (EnT.not (by decide)) i0
    have g1 := hg.cell hA0.out (EnT.not (by decide)) i1
    have g2 := hg.cell hA0.out (EnT.not (by decide)) i2
    go_simp <;> exact rfl
  apply FreeO.walk_loud rfl rfl
  · intro w' hg hf
    have hn := heap_alloc_new w' (.cells #[.int .i64 x2] 3)
    clear hf hg
    go_simp
    exact ⟨⟨fun y h => (by have h : (none : Option (List UInt8)) = some y := h; cases h), fun z h => (by have h : some [x2] = some z := h; cases h; exact ⟨_, rfl, _, rfl, hn⟩)⟩, FreeO.KeepsO.of ((Keeps.refl [] w').alloc _) (by simp)⟩
  intro v10
  apply FreeO.walk_loud rfl rfl
  · intro w' hg hf
    have hkw := KY.old hk0.out (EnT.ky hg)
    have hBb := (show EnF w0.heap.size (fun i => if i = 4 then some (l1) else if i = 7 then some (l2) else if i = 11 then some (l3) else none) (fun i => if i = 3 then some [x0] else if i = 10 then some [x2] else none) 7 _ v7 w' from by simpa using hf 7 (by decide) (by kernel_rfl)).1 (l2) rfl
    obtain ⟨p, e8, xs, hxs, hp⟩ := (show EnF w0.heap.size (fun i => if i = 4 then some (l1) else if i = 7 then some (l2) else if i = 11 then some (l3) else none) (fun i => if i = 3 then some [x0] else if i = 10 then some [x2] else none) 10 _ v10 w' from by simpa using hf 10 (by decide) (by kernel_rfl)).2 [x2] rfl
    clear hf hg
    subst e8
    simp only [List.length_cons, List.length_nil, Nat.zero_add, Nat.reduceAdd]
    go_simp
    refine (intsE_c w0 w' _ (l2) _ [x2] hBb hkw (fun w2 h2 => shZ_blk hxs rfl (by simp) (h2.blk hp (by decide))) (by simp only [List.mem_cons, List.not_mem_nil, or_false]; rintro z rfl; exact hx2) (by simp) hn2.out).mono ?_
    rintro e w3 ⟨v', rfl, hB3, hK3⟩
    rw [hl3.out] at hB3
    refine ⟨_, rfl, ⟨fun y h => ?_, fun z h => ?_⟩, EnT.of hK3 (by decide)⟩
    · have h : some (l3) = some y := h
      cases h
      exact hB3
    · have h : (none : Option (List Int)) = some z := h
      cases h
  intro v11
  apply FreeO.walk_quiet rfl rfl
  · intro w' hg hf
    clear hf
    go_simp <;> exact rfl
  refine FreeO.walk_nil ?_
  intro wF hg hf
  have hBF := (show EnF w0.heap.size (fun i => if i = 4 then some (l1) else if i = 7 then some (l2) else if i = 11 then some (l3) else none) (fun i => if i = 3 then some [x0] else if i = 10 then some [x2] else none) 11 _ v11 wF from by simpa using hf 11 (by decide) (by kernel_rfl)).1 (l3) rfl
  have hKF := EnT.kyA hg
  clear hf hg
  rw [hres.out] at hBF
  have hEP : EP w0 w l (encX (x0, x1, x2)) (.returned v11) wF := ⟨_, rfl, hBF, (KY.of hkA2.out).trans hKF⟩
  replace hEP := Lib.hid hEP
  clear hBF hKF i0 i1 i2 if' il
  go_frame
  go_wp2
  go_ret
  exact hEP.out
set_option maxRecDepth 100000 in
set_option maxHeartbeats 4000000 in
theorem insE_c (w0 w : World) (v : Value) (l : List UInt8) (x : T3) (h : Buf w w0.heap.size v l) (k0 : Keeps [] w0 w) (hx : T3.Fit x) (hl : l.length ≤ 110000000000000) :
    Calls Tryz.prog 50 #[v, tV x] w (EP w0 w l (encX x)) := by
  obtain ⟨x0, x1, x2⟩ := x
  obtain ⟨hx0, hx1, hx2⟩ := hx
  simp only at hx0 hx1 hx2
  have hkA := (Keeps.refl [] w).alloc (.cells #[.int .i64 x0, .int .u64 x1, .int .i64 x2] tI)
  have hA := heap_alloc_new w (.cells #[.int .i64 x0, .int .u64 x1, .int .i64 x2] tI)
  obtain ⟨l1, hl1⟩ : ∃ y, l ++ flatI [x0] = y := ⟨_, rfl⟩
  obtain ⟨l2, hl2⟩ : ∃ y, l1 ++ encU x1 = y := ⟨_, rfl⟩
  obtain ⟨l3, hl3⟩ : ∃ y, l2 ++ flatI [x2] = y := ⟨_, rfl⟩
  have hres : l3 = l ++ encX (x0, x1, x2) := by rw [← hl3, ← hl2, ← hl1]; simp [encX, flatI, List.append_assoc]
  have hn1 : l1.length ≤ 115000000000000 := by
    have := flatI_len (L := [x0]) (by simp only [List.mem_cons, List.not_mem_nil, or_false]; rintro z rfl; exact hx0)
    rw [← hl1]
    simp only [List.length_append, List.length_cons, List.length_nil] at this ⊢; omega
  have hn2 : l2.length ≤ 120000000000000 := by
    have := encU_len hx1
    rw [← hl2, List.length_append]; omega
  have hB0 := Lib.hid ((h.keep hkA).keep (Keeps.refl [] _).drew)
  have hk0 := Lib.hid ((k0.trans hkA).trans (Keeps.refl [] _).drew)
  have hA0 := Lib.hid (((Keeps.refl [] _).drew.block _ (lt_of_blk hA) (by simp)).trans hA)
  have hkA2 := Lib.hid (hkA.trans (Keeps.refl [] _).drew)
  obtain ⟨a0, c0, rfl⟩ := h.form
  obtain ⟨ML, hML⟩ : ∃ n, l.length = n := ⟨_, rfl⟩
  rw [hML] at hB0 ⊢
  replace hML := Lib.hid hML
  replace hres := Lib.hid hres
  replace hl1 := Lib.hid hl1
  replace hl2 := Lib.hid hl2
  replace hl3 := Lib.hid hl3
  replace hn1 := Lib.hid hn1
  replace hn2 := Lib.hid hn2
  clear hkA hA h k0
  simp only [tV]
  go_enter Tryz.func50, Tryz.ntmps50
  go_upto_region 1 with fail
  generalize (w.alloc (.cells #[.int .i64 x0, .int .u64 x1, .int .i64 x2] tI)) = W at *
  obtain ⟨X, hXX⟩ : ∃ B, w.heap.size = B := ⟨_, rfl⟩
  rw [hXX] at hA0 ⊢
  replace hXX := Lib.hid hXX
  obtain ⟨i0, i1, i2, if', il⟩ := cl3 hA0.out
  refine FreeO.wp_region_free (by kernel_rfl) (by kernel_rfl) (fun i => i == 3 || i == 4 || i == 7 || i == 10 || i == 11) (EnF w0.heap.size (fun i => if i = 4 then some (l1) else if i = 7 then some (l2) else if i = 11 then some (l3) else none) (fun i => if i = 3 then some [x0] else if i = 10 then some [x2] else none)) (fun k => EnT w0.heap.size [4, 7, 11] k) (EnK [4, 7, 11]) (fun _ _ _ _ _ _ _ _ h => h) (fun i k a v w w' _ h2 h3 h4 h5 h6 => EnF.stable (ks := [4, 7, 11]) (fun i h => by simp only [List.mem_cons, List.not_mem_nil, or_false]; by_cases h4 : i = 4; (subst h4; decide); by_cases h7 : i = 7; (subst h7; decide); by_cases h11 : i = 11; (subst h11; decide); simp [h4, h7, h11] at h) (by kernel_rfl) i k a v w w' h2 h3 h4 h5 h6) ?_
  apply FreeO.walk_quiet rfl rfl
  · intro w' hg hf
    clear hf
    go_simp <;> exact rfl
  apply FreeO.walk_quiet rfl rfl
  · intro w' hg hf
    clear hf
    go_simp <;> exact rfl
  apply FreeO.walk_quiet rfl rfl
  · intro w' hg hf
    clear hf
    have g0 := hg.cell hA0.out (EnT.not (by decide)) i0
    have g1 := hg.cell hA0.out (EnT.not (by decide)) i1
    have g2 := hg.cell hA0.out (EnT.not (by decide)) i2
    go_simp <;> exact rfl
  apply FreeO.walk_loud rfl rfl
  · intro w' hg hf
    have hn := heap_alloc_new w' (.cells #[.int .i64 x0] 3)
    clear hf hg
    go_simp
    exact ⟨⟨fun y h => (by have h : (none : Option (List UInt8)) = some y := h; cases h), fun z h => (by have h : some [x0] = some z := h; cases h; exact ⟨_, rfl, _, rfl, hn⟩)⟩, FreeO.KeepsO.of ((Keeps.refl [] w').alloc _) (by simp)⟩
  intro v3
  apply FreeO.walk_loud rfl rfl
  · intro w' hg hf
    have hkw := KY.old hk0.out (EnT.ky hg)
    have hBb := hB0.out.keep (EnT.first (by kernel_rfl) hg)
    obtain ⟨p, e8, xs, hxs, hp⟩ := (show EnF w0.heap.size (fun i => if i = 4 then some (l1) else if i = 7 then some (l2) else if i = 11 then some (l3) else none) (fun i => if i = 3 then some [x0] else if i = 10 then some [x2] else none) 3 _ v3 w' from by simpa using hf 3 (by decide) (by kernel_rfl)).2 [x0] rfl
    clear hf hg
    subst e8
    simp only [List.length_cons, List.length_nil, Nat.zero_add, Nat.reduceAdd]
    go_simp
    refine (intsE_c w0 w' _ (l) _ [x0] hBb hkw (fun w2 h2 => shZ_blk hxs rfl (by simp) (h2.blk hp (by decide))) (by simp only [List.mem_cons, List.not_mem_nil, or_false]; rintro z rfl; exact hx0) (by simp) (by have := hML.out; omega)).mono ?_
    rintro e w3 ⟨v', rfl, hB3, hK3⟩
    rw [hl1.out] at hB3
    refine ⟨_, rfl, ⟨fun y h => ?_, fun z h => ?_⟩, EnT.of hK3 (by decide)⟩
    · have h : some (l1) = some y := h
      cases h
      exact hB3
    · have h : (none : Option (List Int)) = some z := h
      cases h
  intro v4
  apply FreeO.walk_quiet rfl rfl
  · intro w' hg hf
    clear hf
    go_simp <;> exact rfl
  apply FreeO.walk_quiet rfl rfl
  · intro w' hg hf
    clear hf
    have g0 := hg.cell hA0.out (EnT.not (by decide)) i0
    have g1 := hg.cell hA0.out (EnT.not (by decide)) i1
    have g2 := hg.cell hA0.out (EnT.not (by decide)) i2
    go_simp <;> exact rfl
  apply FreeO.walk_loud rfl rfl
  · intro w' hg hf
    have hkw := KY.old hk0.out (EnT.ky hg)
    have hBb := (show EnF w0.heap.size (fun i => if i = 4 then some (l1) else if i = 7 then some (l2) else if i = 11 then some (l3) else none) (fun i => if i = 3 then some [x0] else if i = 10 then some [x2] else none) 4 _ v4 w' from by simpa using hf 4 (by decide) (by kernel_rfl)).1 (l1) rfl
    clear hf hg
    go_simp
    refine (appUE w0 w' _ l1 x1 hBb hkw hx1 (by have := hn1.out; omega)).mono ?_
    rintro e w3 ⟨v', rfl, hB3, hK3⟩
    rw [hl2.out] at hB3
    refine ⟨_, rfl, ⟨fun y h => ?_, fun z h => ?_⟩, EnT.of hK3 (by decide)⟩
    · have h : some (l2) = some y := h
      cases h
      exact hB3
    · have h : (none : Option (List Int)) = some z := h
      cases h
  intro v7
  apply FreeO.walk_quiet rfl rfl
  · intro w' hg hf
    clear hf
    go_simp <;> exact rfl
  apply FreeO.walk_quiet rfl rfl
  · intro w' hg hf
    clear hf
    have g0 := hg.cell hA0.out (EnT.not (by decide)) i0
    have g1 := hg.cell hA0.out (EnT.not (by decide)) i1
    have g2 := hg.cell hA0.out (EnT.not (by decide)) i2
    go_simp <;> exact rfl
  apply FreeO.walk_loud rfl rfl
  · intro w' hg hf
    have hn := heap_alloc_new w' (.cells #[.int .i64 x2] 3)
    clear hf hg
    go_simp
    exact ⟨⟨fun y h => (by have h : (none : Option (List UInt8)) = some y := h; cases h), fun z h => (by have h : some [x2] = some z := h; cases h; exact ⟨_, rfl, _, rfl, hn⟩)⟩, FreeO.KeepsO.of ((Keeps.refl [] w').alloc _) (by simp)⟩
  intro v10
  apply FreeO.walk_loud rfl rfl
  · intro w' hg hf
    have hkw := KY.old hk0.out (EnT.ky hg)
    have hBb := (show EnF w0.heap.size (fun i => if i = 4 then some (l1) else if i = 7 then some (l2) else if i = 11 then some (l3) else none) (fun i => if i = 3 then some [x0] else if i = 10 then some [x2] else none) 7 _ v7 w' from by simpa using hf 7 (by decide) (by kernel_rfl)).1 (l2) rfl
    obtain ⟨p, e8, xs, hxs, hp⟩ := (show EnF w0.heap.size (fun i => if i = 4 then some (l1) else if i = 7 then some (l2) else if i = 11 then some (l3) else none) (fun i => if i = 3 then some [x0] else if i = 10 then some [x2] else none) 10 _ v10 w' from by simpa using hf 10 (by decide) (by kernel_rfl)).2 [x2] rfl
    clear hf hg
    subst e8
    simp only [List.length_cons, List.length_nil, Nat.zero_add, Nat.reduceAdd]
    go_simp
    refine (intsE_c w0 w' _ (l2) _ [x2] hBb hkw (fun w2 h2 => shZ_blk hxs rfl (by simp) (h2.blk hp (by decide))) (by simp only [List.mem_cons, List.not_mem_nil, or_false]; rintro z rfl; exact hx2) (by simp) hn2.out).mono ?_
    rintro e w3 ⟨v', rfl, hB3, hK3⟩
    rw [hl3.out] at hB3
    refine ⟨_, rfl, ⟨fun y h => ?_, fun z h => ?_⟩, EnT.of hK3 (by decide)⟩
    · have h : some (l3) = some y := h
      cases h
      exact hB3
    · have h : (none : Option (List Int)) = some z := h
      cases h
  intro v11
  apply FreeO.walk_quiet rfl rfl
  · intro w' hg hf
    clear hf
    go_simp <;> exact rfl
  refine FreeO.walk_nil ?_
  intro wF hg hf
  have hBF := (show EnF w0.heap.size (fun i => if i = 4 then some (l1) else if i = 7 then some (l2) else if i = 11 then some (l3) else none) (fun i => if i = 3 then some [x0] else if i = 10 then some [x2] else none) 11 _ v11 wF from by simpa using hf 11 (by decide) (by kernel_rfl)).1 (l3) rfl
  have hKF := EnT.kyA hg
  clear hf hg
  rw [hres.out] at hBF
  have hEP : EP w0 w l (encX (x0, x1, x2)) (.returned v11) wF := ⟨_, rfl, hBF, (KY.of hkA2.out).trans hKF⟩
  replace hEP := Lib.hid hEP
  clear hBF hKF i0 i1 i2 if' il
  go_frame
  go_wp2
  go_ret
  exact hEP.out
end Go.Proofs.YtiplgpefapeapaaGreat

namespace Go.Proofs.YtiplgpefapeapaaGreat
open Go Go.RowKit

set_option maxRecDepth 100000 in
set_option maxHeartbeats 4000000 in
theorem listNE_c (w0 w : World) (v : Value) (l : List UInt8) (vl : Value) (L : List T3) (h : Buf w w0.heap.size v l) (k0 : Keeps [] w0 w) (hR : shT.R w0 vl L) (hf : ∀ x ∈ L, T3.Fit x) (hn : L.length ≤ 1000) (hl : l.length ≤ 100000000000000) :
    Calls Tryz.prog 53 #[v, vl, .func (.func 43) #[] #[]] w (EP w0 w l (encNs L)) := by
  obtain ⟨a, c, rfl, hlc, hcm, _⟩ := hR.form
  obtain ⟨M, hM⟩ : ∃ N, L.length = N := ⟨_, rfl⟩
  rw [hM] at hlc hR hn ⊢
  have hMm : M ≤ 9223372036854775807 := by omega
  have hwM : IntKind.u64.wrap (M : Int) = M := by rw [IntKind.wrap_u64]; omega
  have hc := appUE w0 w v l M h k0 (by omega) (by omega)
  obtain ⟨la, hla⟩ : ∃ y, l ++ encU M = y := ⟨_, rfl⟩
  have hna : la.length ≤ l.length + 9 := by rw [← hla, List.length_append]; have := encU_len (n := M) (by omega); omega
  unfold EP at hc
  rw [hla] at hc
  replace hc := Lib.hid hc
  replace hla := Lib.hid hla
  replace hM := Lib.hid hM
  replace hR := Lib.hid hR
  replace hf := Lib.hid hf
  replace k0 := Lib.hid k0
  clear h
  go_enter Tryz.func53, Tryz.ntmps53
  go_wp2_with fail
  refine hc.out.mono ?_
  rintro e wa ⟨va, rfl, hBa, hka⟩
  have hB := Lib.hid hBa
  have hKa := Lib.hid hka
  clear hc hBa hka
  go_wp2
  go_loopw [0, 16] (fun bv i wr => ∃ (k : Nat) (lk : List UInt8), i = .int .i64 k ∧ k ≤ M ∧ Hid (Buf wr w0.heap.size bv lk) ∧ Hid (lk = la ++ encXs (L.take k)) ∧ Hid (lk.length ≤ la.length + 27 * k) ∧ Hid (KY w0.heap.size w wr)) (fun _ i _ => M - (intOf i).toNat)
  case atStart => exact ⟨0, la, rfl, by omega, hB, Lib.hid (by simp [encXs]), Lib.hid (by omega), hKa⟩
  case round =>
    clear hB hKa
    obtain ⟨k, lk, rfl, hk, hB, hlk, hlen, hkw⟩ := hrel
    obtain ⟨b1, b2, rfl⟩ := hB.out.form
    obtain ⟨NB, hNB⟩ : ∃ n, lk.length = n := ⟨_, rfl⟩
    rw [hNB] at hB hlen ⊢
    replace hNB := Lib.hid hNB
    by_cases hlt : k < M
    · have hlt2 : (k : Int) < M := by omega
      have hkl : k < L.length := by rw [hM.out]; exact hlt
      obtain ⟨g, o, c', hv, he⟩ := (hR.out.keeps (KY.old k0.out hkw.out)).elem hkl
      rw [hM.out] at hv
      cases hv
      have hfx := hf.out _ (List.getElem_mem hkl)
      have hsucc := encXs_take L k hkl
      obtain ⟨⟨n0, n1, n2⟩, hz⟩ : ∃ z, L[k] = z := ⟨_, rfl⟩
      rw [hz] at he hfx hsucc
      have t0 := he 0 _ rfl
      have t1 := he 1 _ rfl
      have t2 := he 2 _ rfl
      simp only [shT, Nat.add_zero] at t0 t1 t2
      have hlen2 := hlen.out
      have hkA := (Keeps.refl [] wr).alloc (.cells #[.int .i64 n0, .int .u64 n1, .int .i64 n2] tN)
      have hkw1 := hkw.out.trans (KY.of hkA)
      have hc := needE_c w0 _ _ lk (n0, n1, n2) (hB.out.keep hkA) (KY.old k0.out hkw1) hfx (by rw [hNB.out]; omega)
      unfold EP at hc
      obtain ⟨lb, hlb⟩ : ∃ y, lk ++ encX (n0, n1, n2) = y := ⟨_, rfl⟩
      rw [hlb] at hc
      have hnb : lb.length ≤ lk.length + 27 := by rw [← hlb, List.length_append]; have := encX_len hfx.ins; omega
      rw [hNB.out] at hnb
      simp only [tV] at hc
      replace hc := Lib.hid hc
      replace hlb := Lib.hid hlb
      replace hkw1 := Lib.hid hkw1
      replace hsucc := Lib.hid hsucc
      clear he hkA hz hfx
      go_wp2_with fail
      refine hc.out.mono ?_
      rintro e wb ⟨vb, rfl, hBb, hkb⟩
      have hB2 := Lib.hid hBb
      have hkz := Lib.hid (hkw1.out.trans hkb)
      clear hc hBb hkb
      have hlb2 : Hid (lb = la ++ encXs (L.take (k + 1))) := Lib.hid (by rw [← hlb.out, hlk.out, hsucc.out, List.append_assoc])
      have hlb3 : Hid (lb.length ≤ la.length + 27 * (k + 1)) := Lib.hid (by omega)
      go_wp2
      go_roundw
      case rel => exact ⟨k + 1, lb, rfl, by omega, hB2, hlb2, hlb3, hkz⟩
      case measure => simp [intOf]; omega
    · have hlt2 : ¬ ((k : Int) < M) := by omega
      have hkM : k = L.length := by have := hM.out; omega
      have hres : Hid (lk = l ++ encNs L) := Lib.hid (by rw [hlk.out, ← hla.out, hkM, List.take_length]; unfold encNs; rw [hM.out, List.append_assoc])
      replace hkM := Lib.hid hkM
      go_wp2
      go_ret
      exact ⟨_, rfl, by rw [← hres.out]; exact hB.out, hkw.out⟩
set_option maxRecDepth 100000 in
set_option maxHeartbeats 4000000 in
theorem listIE_c (w0 w : World) (v : Value) (l : List UInt8) (vl : Value) (L : List T3) (h : Buf w w0.heap.size v l) (k0 : Keeps [] w0 w) (hR : shT.R w0 vl L) (hf : ∀ x ∈ L, T3.Fit x) (hn : L.length ≤ 1000) (hl : l.length ≤ 100000000000000) :
    Calls Tryz.prog 49 #[v, vl, .func (.func 50) #[] #[]] w (EP w0 w l (encNs L)) := by
  obtain ⟨a, c, rfl, hlc, hcm, _⟩ := hR.form
  obtain ⟨M, hM⟩ : ∃ N, L.length = N := ⟨_, rfl⟩
  rw [hM] at hlc hR hn ⊢
  have hMm : M ≤ 9223372036854775807 := by omega
  have hwM : IntKind.u64.wrap (M : Int) = M := by rw [IntKind.wrap_u64]; omega
  have hc := appUE w0 w v l M h k0 (by omega) (by omega)
  obtain ⟨la, hla⟩ : ∃ y, l ++ encU M = y := ⟨_, rfl⟩
  have hna : la.length ≤ l.length + 9 := by rw [← hla, List.length_append]; have := encU_len (n := M) (by omega); omega
  unfold EP at hc
  rw [hla] at hc
  replace hc := Lib.hid hc
  replace hla := Lib.hid hla
  replace hM := Lib.hid hM
  replace hR := Lib.hid hR
  replace hf := Lib.hid hf
  replace k0 := Lib.hid k0
  clear h
  go_enter Tryz.func49, Tryz.ntmps49
  go_wp2_with fail
  refine hc.out.mono ?_
  rintro e wa ⟨va, rfl, hBa, hka⟩
  have hB := Lib.hid hBa
  have hKa := Lib.hid hka
  clear hc hBa hka
  go_wp2
  go_loopw [0, 16] (fun bv i wr => ∃ (k : Nat) (lk : List UInt8), i = .int .i64 k ∧ k ≤ M ∧ Hid (Buf wr w0.heap.size bv lk) ∧ Hid (lk = la ++ encXs (L.take k)) ∧ Hid (lk.length ≤ la.length + 27 * k) ∧ Hid (KY w0.heap.size w wr)) (fun _ i _ => M - (intOf i).toNat)
  case atStart => exact ⟨0, la, rfl, by omega, hB, Lib.hid (by simp [encXs]), Lib.hid (by omega), hKa⟩
  case round =>
    clear hB hKa
    obtain ⟨k, lk, rfl, hk, hB, hlk, hlen, hkw⟩ := hrel
    obtain ⟨b1, b2, rfl⟩ := hB.out.form
    obtain ⟨NB, hNB⟩ : ∃ n, lk.length = n := ⟨_, rfl⟩
    rw [hNB] at hB hlen ⊢
    replace hNB := Lib.hid hNB
    by_cases hlt : k < M
    · have hlt2 : (k : Int) < M := by omega
      have hkl : k < L.length := by rw [hM.out]; exact hlt
      obtain ⟨g, o, c', hv, he⟩ := (hR.out.keeps (KY.old k0.out hkw.out)).elem hkl
      rw [hM.out] at hv
      cases hv
      have hfx := hf.out _ (List.getElem_mem hkl)
      have hsucc := encXs_take L k hkl
      obtain ⟨⟨n0, n1, n2⟩, hz⟩ : ∃ z, L[k] = z := ⟨_, rfl⟩
      rw [hz] at he hfx hsucc
      have t0 := he 0 _ rfl
      have t1 := he 1 _ rfl
      have t2 := he 2 _ rfl
      simp only [shT, Nat.add_zero] at t0 t1 t2
      have hlen2 := hlen.out
      have hkA := (Keeps.refl [] wr).alloc (.cells #[.int .i64 n0, .int .u64 n1, .int .i64 n2] tI)
      have hkw1 := hkw.out.trans (KY.of hkA)
      have hc := insE_c w0 _ _ lk (n0, n1, n2) (hB.out.keep hkA) (KY.old k0.out hkw1) hfx (by rw [hNB.out]; omega)
      unfold EP at hc
      obtain ⟨lb, hlb⟩ : ∃ y, lk ++ encX (n0, n1, n2) = y := ⟨_, rfl⟩
      rw [hlb] at hc
      have hnb : lb.length ≤ lk.length + 27 := by rw [← hlb, List.length_append]; have := encX_len hfx.ins; omega
      rw [hNB.out] at hnb
      simp only [tV] at hc
      replace hc := Lib.hid hc
      replace hlb := Lib.hid hlb
      replace hkw1 := Lib.hid hkw1
      replace hsucc := Lib.hid hsucc
      clear he hkA hz hfx
      go_wp2_with fail
      refine hc.out.mono ?_
      rintro e wb ⟨vb, rfl, hBb, hkb⟩
      have hB2 := Lib.hid hBb
      have hkz := Lib.hid (hkw1.out.trans hkb)
      clear hc hBb hkb
      have hlb2 : Hid (lb = la ++ encXs (L.take (k + 1))) := Lib.hid (by rw [← hlb.out, hlk.out, hsucc.out, List.append_assoc])
      have hlb3 : Hid (lb.length ≤ la.length + 27 * (k + 1)) := Lib.hid (by omega)
      go_wp2
      go_roundw
      case rel => exact ⟨k + 1, lb, rfl, by omega, hB2, hlb2, hlb3, hkz⟩
      case measure => simp [intOf]; omega
    · have hlt2 : ¬ ((k : Int) < M) := by omega
      have hkM : k = L.length := by have := hM.out; omega
      have hres : Hid (lk = l ++ encNs L) := Lib.hid (by rw [hlk.out, ← hla.out, hkM, List.take_length]; unfold encNs; rw [hM.out, List.append_assoc])
      replace hkM := Lib.hid hkM
      go_wp2
      go_ret
      exact ⟨_, rfl, by rw [← hres.out]; exact hB.out, hkw.out⟩
end Go.Proofs.YtiplgpefapeapaaGreat

namespace Go.Proofs.YtiplgpefapeapaaGreat
open Go Go.RowKit

set_option maxRecDepth 100000 in
set_option maxHeartbeats 8000000 in
theorem ansE_c (w0 w : World) (v : Value) (l : List UInt8) (x : AnV) (y : Ans) (h : Buf w w0.heap.size v l) (k0 : Keeps [] w0 w) (hy : InR w0 x y) (hf : y.Fit) (hi : y.ins.length ≤ 1000) (hl : l.length ≤ 90000000000000) :
    Calls Tryz.prog 46 #[v, aV x] w (EP w0 w l (encA y)) := by
  obtain ⟨_, _, ev, hl1, hl2, _⟩ := hy.ins.form
  have hins := hy.ins
  have m0 := hy.m
  have m1 := hy.ow
  have m2 := hy.n
  have m3 := hy.ep
  have m4 := hy.kn
  have m5 := hy.rt
  have m6 := hy.lu
  have ha0 := hf.q.1
  have ha1 := hf.q.2.1
  have ha2 := hf.q.2.2
  have ha3 := hf.ep
  have ha6 := hf.lu
  have hfi := hf.ins
  obtain ⟨y0, y1, y2, y3, y4, y5, y6, y7, y8, y9⟩ := x
  simp only [AnV.v] at ev hins
  simp only at m0 m1 m2 m3 m4 m5 m6
  simp only [Value.slice.injEq] at ev
  obtain ⟨-, ev, -⟩ := ev
  simp only [Ans.q] at ha0 ha1 ha2
  rw [← m0] at ha0
  rw [← m1] at ha1
  rw [← m2] at ha2
  rw [← m3] at ha3
  rw [← m6] at ha6
  have henA : encA y = encI y0 ++ encI y1 ++ encU y2 ++ encI y3 ++ encB y4 ++ encB y5 ++ encI y6 ++ encNs y.ins := by unfold encA encA0 encNs; rw [m0, m1, m2, m3, m4, m5, m6]; simp only [List.append_assoc]
  obtain ⟨l1, hl1⟩ : ∃ z, l ++ flatI [y0, y1] = z := ⟨_, rfl⟩
  obtain ⟨l2, hl2⟩ : ∃ z, l1 ++ encU y2 = z := ⟨_, rfl⟩
  obtain ⟨l3, hl3⟩ : ∃ z, l2 ++ flatI [y3] = z := ⟨_, rfl⟩
  obtain ⟨l4, hl4⟩ : ∃ z, l3 ++ encB y4 = z := ⟨_, rfl⟩
  obtain ⟨l5, hl5⟩ : ∃ z, l4 ++ encB y5 = z := ⟨_, rfl⟩
  obtain ⟨l6, hl6⟩ : ∃ z, l5 ++ flatI [y6] = z := ⟨_, rfl⟩
  have hres : l6 ++ encNs y.ins = l ++ encA y := by rw [← hl6, ← hl5, ← hl4, ← hl3, ← hl2, ← hl1, henA]; simp [flatI, List.append_assoc]
  have hn1 : l1.length ≤ l.length + 18 := by
    have := flatI_len (L := [y0, y1]) (by simp only [List.mem_cons, List.not_mem_nil, or_false]; rintro z (rfl | rfl); exact ha0; exact ha1)
    rw [← hl1]
    simp only [List.length_append, List.length_cons, List.length_nil] at this ⊢; omega
  have hn2 : l2.length ≤ l1.length + 9 := by rw [← hl2, List.length_append]; have := encU_len ha2; omega
  have hn3 : l3.length ≤ l2.length + 9 := by
    have := flatI_len (L := [y3]) (by simp only [List.mem_cons, List.not_mem_nil, or_false]; rintro z rfl; exact ha3)
    rw [← hl3]
    simp only [List.length_append, List.length_cons, List.length_nil] at this ⊢; omega
  have hn4 : l4.length ≤ l3.length + 1 := by rw [← hl4, List.length_append]; have := encB_len y4; omega
  have hn5 : l5.length ≤ l4.length + 1 := by rw [← hl5, List.length_append]; have := encB_len y5; omega
  have hn6 : l6.length ≤ l5.length + 9 := by
    have := flatI_len (L := [y6]) (by simp only [List.mem_cons, List.not_mem_nil, or_false]; rintro z rfl; exact ha6)
    rw [← hl6]
    simp only [List.length_append, List.length_cons, List.length_nil] at this ⊢; omega
  have hkA := (Keeps.refl [] w).alloc (.cells #[.int .i64 y0, .int .i64 y1, .int .u64 y2, .int .i64 y3, .bool y4, .bool y5, .int .i64 y6, .slice y7 y8 y9] tA)
  have hA := heap_alloc_new w (.cells #[.int .i64 y0, .int .i64 y1, .int .u64 y2, .int .i64 y3, .bool y4, .bool y5, .int .i64 y6, .slice y7 y8 y9] tA)
  have hB0 := Lib.hid ((h.keep hkA).keep (Keeps.refl [] _).drew)
  have hk0 := Lib.hid ((k0.trans hkA).trans (Keeps.refl [] _).drew)
  have hA0 := Lib.hid (((Keeps.refl [] _).drew.block _ (lt_of_blk hA) (by simp)).trans hA)
  have hK0 := Lib.hid (KY.of (B := w0.heap.size) (hkA.trans (Keeps.refl [] _).drew))
  obtain ⟨a0, c0, rfl⟩ := h.form
  obtain ⟨ML, hML⟩ : ∃ n, l.length = n := ⟨_, rfl⟩
  rw [hML] at hB0 hn1 hl ⊢
  replace hML := Lib.hid hML
  replace hres := Lib.hid hres
  replace hl1 := Lib.hid hl1
  replace hl2 := Lib.hid hl2
  replace hl3 := Lib.hid hl3
  replace hl4 := Lib.hid hl4
  replace hl5 := Lib.hid hl5
  replace hl6 := Lib.hid hl6
  replace ha0 := Lib.hid ha0
  replace ha1 := Lib.hid ha1
  replace ha2 := Lib.hid ha2
  replace ha3 := Lib.hid ha3
  replace ha6 := Lib.hid ha6
  replace hins := Lib.hid hins
  replace hfi := Lib.hid hfi
  replace hi := Lib.hid hi
  clear hkA hA h k0 m0 m1 m2 m3 m4 m5 m6 hy hf henA ev
  simp only [aV, AnV.v]
  go_enter Tryz.func46, Tryz.ntmps46
  go_upto_region 1 with fail
  generalize (w.alloc (.cells #[.int .i64 y0, .int .i64 y1, .int .u64 y2, .int .i64 y3, .bool y4, .bool y5, .int .i64 y6, .slice y7 y8 y9] tA)) = W at *
  obtain ⟨X, hXX⟩ : ∃ B, w.heap.size = B := ⟨_, rfl⟩
  rw [hXX] at hA0 ⊢
  replace hXX := Lib.hid hXX
  obtain ⟨i0, i1, i2, i3, i4, i5, i6, i7, if', il⟩ := cl8 hA0.out
  refine FreeO.wp_region_free (by kernel_rfl) (by kernel_rfl) (fun i => i == 5 || i == 6 || i == 9 || i == 12 || i == 13) (EnF w0.heap.size (fun i => if i = 6 then some (l1) else if i = 9 then some (l2) else if i = 13 then some (l3) else none) (fun i => if i = 5 then some [y0, y1] else if i = 12 then some [y3] else none)) (fun k => EnT w0.heap.size [6, 9, 13] k) (EnK [6, 9, 13]) (fun _ _ _ _ _ _ _ _ h => h) (fun i k a v w w' _ h2 h3 h4 h5 h6 => EnF.stable (ks := [6, 9, 13]) (fun i h => by simp only [List.mem_cons, List.not_mem_nil, or_false]; by_cases h6 : i = 6; (subst h6; decide); by_cases h9 : i = 9; (subst h9; decide); by_cases h13 : i = 13; (subst h13; decide); simp [h6, h9, h13] at h) (by kernel_rfl) i k a v w w' h2 h3 h4 h5 h6) ?_
  apply FreeO.walk_quiet rfl rfl
  · intro w' hg hf
    clear hf
    go_simp <;> exact rfl
  apply FreeO.walk_quiet rfl rfl
  · intro w' hg hf
    clear hf
    go_simp <;> exact rfl
  apply FreeO.walk_quiet rfl rfl
  · intro w' hg hf
    clear hf
    have g0 := hg.cell hA0.out (EnT.not (by decide)) i0
    have g1 := hg.cell hA0.out (EnT.not (by decide)) i1
    have g2 := hg.cell hA0.out (EnT.not (by decide)) i2
    have g3 := hg.cell hA0.out (EnT.not (by decide)) i3
    have g4 := hg.cell hA0.out (EnT.not (by decide)) i4
    have g5 := hg.cell hA0.out (EnT.not (by decide)) i5
    have g6 := hg.cell hA0.out (EnT.not (by decide)) i6
    have g7 := hg.cell hA0.out (EnT.not (by decide)) i7
    go_simp <;> exact rfl
  apply FreeO.walk_quiet rfl rfl
  · intro w' hg hf
    clear hf
    go_simp <;> exact rfl
  apply FreeO.walk_quiet rfl rfl
  · intro w' hg hf
    clear hf
    have g0 := hg.cell hA0.out (EnT.not (by decide)) i0
    have g1 := hg.cell hA0.out (EnT.not (by decide)) i1
    have g2 := hg.cell hA0.out (EnT.not (by decide)) i2
    have g3 := hg.cell hA0.out (EnT.not (by decide)) i3
    have g4 := hg.cell hA0.out (EnT.not (by decide)) i4
    have g5 := hg.cell hA0.out (EnT.not (by decide)) i5
    have g6 := hg.cell hA0.out (EnT.not (by decide)) i6
    have g7 := hg.cell hA0.out (EnT.not (by decide)) i7
    go_simp <;> exact rfl
  apply FreeO.walk_loud rfl rfl
  · intro w' hg hf
    have hn := heap_alloc_new w' (.cells #[.int .i64 y0, .int .i64 y1] 3)
    clear hf hg
    go_simp
    exact ⟨⟨fun y h => (by have h : (none : Option (List UInt8)) = some y := h; cases h), fun z h => (by have h : some [y0, y1] = some z := h; cases h; exact ⟨_, rfl, _, rfl, hn⟩)⟩, FreeO.KeepsO.of ((Keeps.refl [] w').alloc _) (by simp)⟩
  intro v5
  apply FreeO.walk_loud rfl rfl
  · intro w' hg hf
    have hkw := KY.old hk0.out (EnT.ky hg)
    have hBb := hB0.out.keep (EnT.first (by kernel_rfl) hg)
    obtain ⟨p, e8, xs, hxs, hp⟩ := (show EnF w0.heap.size (fun i => if i = 6 then some (l1) else if i = 9 then some (l2) else if i = 13 then some (l3) else none) (fun i => if i = 5 then some [y0, y1] else if i = 12 then some [y3] else none) 5 _ v5 w' from by simpa using hf 5 (by decide) (by kernel_rfl)).2 [y0, y1] rfl
    clear hf hg
    subst e8
    simp only [List.length_cons, List.length_nil, Nat.zero_add, Nat.reduceAdd]
    go_simp
    refine (intsE_c w0 w' _ (l) _ [y0, y1] hBb hkw (fun w2 h2 => shZ_blk hxs rfl (by simp) (h2.blk hp (by decide))) (by simp only [List.mem_cons, List.not_mem_nil, or_false]; rintro z (rfl | rfl); exact ha0.out; exact ha1.out) (by simp) (by have := hML.out; omega)).mono ?_
    rintro e w3 ⟨v', rfl, hB3, hK3⟩
    rw [hl1.out] at hB3
    refine ⟨_, rfl, ⟨fun y h => ?_, fun z h => ?_⟩, EnT.of hK3 (by decide)⟩
    · have h : some (l1) = some y := h
      cases h
      exact hB3
    · have h : (none : Option (List Int)) = some z := h
      cases h
  intro v6
  apply FreeO.walk_quiet rfl rfl
  · intro w' hg hf
    clear hf
    go_simp <;> exact rfl
  apply FreeO.walk_quiet rfl rfl
  · intro w' hg hf
    clear hf
    have g0 := hg.cell hA0.out (EnT.not (by decide)) i0
    have g1 := hg.cell hA0.out (EnT.not (by decide)) i1
    have g2 := hg.cell hA0.out (EnT.not (by decide)) i2
    have g3 := hg.cell hA0.out (EnT.not (by decide)) i3
    have g4 := hg.cell hA0.out (EnT.not (by decide)) i4
    have g5 := hg.cell hA0.out (EnT.not (by decide)) i5
    have g6 := hg.cell hA0.out (EnT.not (by decide)) i6
    have g7 := hg.cell hA0.out (EnT.not (by decide)) i7
    go_simp <;> exact rfl
  apply FreeO.walk_loud rfl rfl
  · intro w' hg hf
    have hkw := KY.old hk0.out (EnT.ky hg)
    have hBb := (show EnF w0.heap.size (fun i => if i = 6 then some (l1) else if i = 9 then some (l2) else if i = 13 then some (l3) else none) (fun i => if i = 5 then some [y0, y1] else if i = 12 then some [y3] else none) 6 _ v6 w' from by simpa using hf 6 (by decide) (by kernel_rfl)).1 (l1) rfl
    clear hf hg
    go_simp
    refine (appUE w0 w' _ l1 y2 hBb hkw ha2.out (by omega)).mono ?_
    rintro e w3 ⟨v', rfl, hB3, hK3⟩
    rw [hl2.out] at hB3
    refine ⟨_, rfl, ⟨fun y h => ?_, fun z h => ?_⟩, EnT.of hK3 (by decide)⟩
    · have h : some (l2) = some y := h
      cases h
      exact hB3
    · have h : (none : Option (List Int)) = some z := h
      cases h
  intro v9
  apply FreeO.walk_quiet rfl rfl
  · intro w' hg hf
    clear hf
    go_simp <;> exact rfl
  apply FreeO.walk_quiet rfl rfl
  · intro w' hg hf
    clear hf
    have g0 := hg.cell hA0.out (EnT.not (by decide)) i0
    have g1 := hg.cell hA0.out (EnT.not (by decide)) i1
    have g2 := hg.cell hA0.out (EnT.not (by decide)) i2
    have g3 := hg.cell hA0.out (EnT.not (by decide)) i3
    have g4 := hg.cell hA0.out (EnT.not (by decide)) i4
    have g5 := hg.cell hA0.out (EnT.not (by decide)) i5
    have g6 := hg.cell hA0.out (EnT.not (by decide)) i6
    have g7 := hg.cell hA0.out (EnT.not (by decide)) i7
    go_simp <;> exact rfl
  apply FreeO.walk_loud rfl rfl
  · intro w' hg hf
    have hn := heap_alloc_new w' (.cells #[.int .i64 y3] 3)
    clear hf hg
    go_simp
    exact ⟨⟨fun y h => (by have h : (none : Option (List UInt8)) = some y := h; cases h), fun z h => (by have h : some [y3] = some z := h; cases h; exact ⟨_, rfl, _, rfl, hn⟩)⟩, FreeO.KeepsO.of ((Keeps.refl [] w').alloc _) (by simp)⟩
  intro v12
  apply FreeO.walk_loud rfl rfl
  · intro w' hg hf
    have hkw := KY.old hk0.out (EnT.ky hg)
    have hBb := (show EnF w0.heap.size (fun i => if i = 6 then some (l1) else if i = 9 then some (l2) else if i = 13 then some (l3) else none) (fun i => if i = 5 then some [y0, y1] else if i = 12 then some [y3] else none) 9 _ v9 w' from by simpa using hf 9 (by decide) (by kernel_rfl)).1 (l2) rfl
    obtain ⟨p, e8, xs, hxs, hp⟩ := (show EnF w0.heap.size (fun i => if i = 6 then some (l1) else if i = 9 then some (l2) else if i = 13 then some (l3) else none) (fun i => if i = 5 then some [y0, y1] else if i = 12 then some [y3] else none) 12 _ v12 w' from by simpa using hf 12 (by decide) (by kernel_rfl)).2 [y3] rfl
    clear hf hg
    subst e8
    simp only [List.length_cons, List.length_nil, Nat.zero_add, Nat.reduceAdd]
    go_simp
    refine (intsE_c w0 w' _ (l2) _ [y3] hBb hkw (fun w2 h2 => shZ_blk hxs rfl (by simp) (h2.blk hp (by decide))) (by simp only [List.mem_cons, List.not_mem_nil, or_false]; rintro z rfl; exact ha3.out) (by simp) (by omega)).mono ?_
    rintro e w3 ⟨v', rfl, hB3, hK3⟩
    rw [hl3.out] at hB3
    refine ⟨_, rfl, ⟨fun y h => ?_, fun z h => ?_⟩, EnT.of hK3 (by decide)⟩
    · have h : some (l3) = some y := h
      cases h
      exact hB3
    · have h : (none : Option (List Int)) = some z := h
      cases h
  intro v13
  apply FreeO.walk_quiet rfl rfl
  · intro w' hg hf
    clear hf
    go_simp <;> exact rfl
  refine FreeO.walk_nil ?_
  intro wF hg hf
  have hBF := (show EnF w0.heap.size (fun i => if i = 6 then some (l1) else if i = 9 then some (l2) else if i = 13 then some (l3) else none) (fun i => if i = 5 then some [y0, y1] else if i = 12 then some [y3] else none) 13 _ v13 wF from by simpa using hf 13 (by decide) (by kernel_rfl)).1 (l3) rfl
  have hKF := EnT.kyA hg
  clear hf hg
  obtain ⟨a1, c1, rfl⟩ := hBF.form
  obtain ⟨N1, hN1⟩ : ∃ n, l3.length = n := ⟨_, rfl⟩
  rw [hN1] at hBF ⊢
  replace hN1 := Lib.hid hN1
  have hd := (Keeps.refl [] wF).drew
  replace hB0 := Lib.hid (hBF.keep hd)
  replace hk0 := Lib.hid ((KY.old hk0.out hKF).trans hd)
  replace hA0 := Lib.hid ((hd.block X (lt_of_blk (hKF.blk hA0.out (by decide))) (by simp)).trans (hKF.blk hA0.out (by decide)))
  replace hK0 := Lib.hid ((hK0.out.trans hKF).trans (KY.of hd))
  clear hBF hKF hd i0 i1 i2 i3 i4 i5 i6 i7 if' il
  obtain ⟨i0, i1, i2, i3, i4, i5, i6, i7, if', il⟩ := cl8 hA0.out
  go_frame
  go_upto_region 2 with fail
  refine FreeO.wp_region_free (by kernel_rfl) (by kernel_rfl) (fun i => i == 3 || i == 6 || i == 9 || i == 10) (EnF w0.heap.size (fun i => if i = 3 then some (l4) else if i = 6 then some (l5) else if i = 10 then some (l6) else none) (fun i => if i = 9 then some [y6] else none)) (fun k => EnT w0.heap.size [3, 6, 10] k) (EnK [3, 6, 10]) (fun _ _ _ _ _ _ _ _ h => h) (fun i k a v w w' _ h2 h3 h4 h5 h6 => EnF.stable (ks := [3, 6, 10]) (fun i h => by simp only [List.mem_cons, List.not_mem_nil, or_false]; by_cases h3 : i = 3; (subst h3; decide); by_cases h6 : i = 6; (subst h6; decide); by_cases h10 : i = 10; (subst h10; decide); simp [h3, h6, h10] at h) (by kernel_rfl) i k a v w w' h2 h3 h4 h5 h6) ?_
  apply FreeO.walk_quiet rfl rfl
  · intro w' hg hf
    clear hf
    go_simp <;> exact rfl
  apply FreeO.walk_quiet rfl rfl
  · intro w' hg hf
    clear hf
    go_simp <;> exact rfl
  apply FreeO.walk_quiet rfl rfl
  · intro w' hg hf
    clear hf
    have g0 := hg.cell hA0.out (EnT.not (by decide)) i0
    have g1 := hg.cell hA0.out (EnT.not (by decide)) i1
    have g2 := hg.cell hA0.out (EnT.not (by decide)) i2
    have g3 := hg.cell hA0.out (EnT.not (by decide)) i3
    have g4 := hg.cell hA0.out (EnT.not (by decide)) i4
    have g5 := hg.cell hA0.out (EnT.not (by decide)) i5
    have g6 := hg.cell hA0.out (EnT.not (by decide)) i6
    have g7 := hg.cell hA0.out (EnT.not (by decide)) i7
    go_simp <;> exact rfl
  apply FreeO.walk_loud rfl rfl
  · intro w' hg hf
    have hkw := KY.old hk0.out (EnT.ky hg)
    have hBb := hB0.out.keep (EnT.first (by kernel_rfl) hg)
    clear hf hg
    go_simp
    refine (appBE w0 w' _ l3 y4 hBb hkw (by have := hN1.out; omega)).mono ?_
    rintro e w3 ⟨v', rfl, hB3, hK3⟩
    rw [hl4.out] at hB3
    refine ⟨_, rfl, ⟨fun y h => ?_, fun z h => ?_⟩, EnT.of hK3 (by decide)⟩
    · have h : some (l4) = some y := h
      cases h
      exact hB3
    · have h : (none : Option (List Int)) = some z := h
      cases h
  intro v3
  apply FreeO.walk_quiet rfl rfl
  · intro w' hg hf
    clear hf
    go_simp <;> exact rfl
  apply FreeO.walk_quiet rfl rfl
  · intro w' hg hf
    clear hf
    have g0 := hg.cell hA0.out (EnT.not (by decide)) i0
    have g1 := hg.cell hA0.out (EnT.not (by decide)) i1
    have g2 := hg.cell hA0.out (EnT.not (by decide)) i2
    have g3 := hg.cell hA0.out (EnT.not (by decide)) i3
    have g4 := hg.cell hA0.out (EnT.not (by decide)) i4
    have g5 := hg.cell hA0.out (EnT.not (by decide)) i5
    have g6 := hg.cell hA0.out (EnT.not (by decide)) i6
    have g7 := hg.cell hA0.out (EnT.not (by decide)) i7
    go_simp <;> exact rfl
  apply FreeO.walk_loud rfl rfl
  · intro w' hg hf
    have hkw := KY.old hk0.out (EnT.ky hg)
    have hBb := (show EnF w0.heap.size (fun i => if i = 3 then some (l4) else if i = 6 then some (l5) else if i = 10 then some (l6) else none) (fun i => if i = 9 then some [y6] else none) 3 _ v3 w' from by simpa using hf 3 (by decide) (by kernel_rfl)).1 (l4) rfl
    clear hf hg
    go_simp
    refine (appBE w0 w' _ l4 y5 hBb hkw (by have := hN1.out; omega)).mono ?_
    rintro e w3 ⟨v', rfl, hB3, hK3⟩
    rw [hl5.out] at hB3
    refine ⟨_, rfl, ⟨fun y h => ?_, fun z h => ?_⟩, EnT.of hK3 (by decide)⟩
    · have h : some (l5) = some y := h
      cases h
      exact hB3
    · have h : (none : Option (List Int)) = some z := h
      cases h
  intro v6
  apply FreeO.walk_quiet rfl rfl
  · intro w' hg hf
    clear hf
    go_simp <;> exact rfl
  apply FreeO.walk_quiet rfl rfl
  · intro w' hg hf
    clear hf
    have g0 := hg.cell hA0.out (EnT.not (by decide)) i0
    have g1 := hg.cell hA0.out (EnT.not (by decide)) i1
    have g2 := hg.cell hA0.out (EnT.not (by decide)) i2
    have g3 := hg.cell hA0.out (EnT.not (by decide)) i3
    have g4 := hg.cell hA0.out (EnT.not (by decide)) i4
    have g5 := hg.cell hA0.out (EnT.not (by decide)) i5
    have g6 := hg.cell hA0.out (EnT.not (by decide)) i6
    have g7 := hg.cell hA0.out (EnT.not (by decide)) i7
    go_simp <;> exact rfl
  apply FreeO.walk_loud rfl rfl
  · intro w' hg hf
    have hn := heap_alloc_new w' (.cells #[.int .i64 y6] 3)
    clear hf hg
    go_simp
    exact ⟨⟨fun y h => (by have h : (none : Option (List UInt8)) = some y := h; cases h), fun z h => (by have h : some [y6] = some z := h; cases h; exact ⟨_, rfl, _, rfl, hn⟩)⟩, FreeO.KeepsO.of ((Keeps.refl [] w').alloc _) (by simp)⟩
  intro v9
  apply FreeO.walk_loud rfl rfl
  · intro w' hg hf
    have hkw := KY.old hk0.out (EnT.ky hg)
    have hBb := (show EnF w0.heap.size (fun i => if i = 3 then some (l4) else if i = 6 then some (l5) else if i = 10 then some (l6) else none) (fun i => if i = 9 then some [y6] else none) 6 _ v6 w' from by simpa using hf 6 (by decide) (by kernel_rfl)).1 (l5) rfl
    obtain ⟨p, e8, xs, hxs, hp⟩ := (show EnF w0.heap.size (fun i => if i = 3 then some (l4) else if i = 6 then some (l5) else if i = 10 then some (l6) else none) (fun i => if i = 9 then some [y6] else none) 9 _ v9 w' from by simpa using hf 9 (by decide) (by kernel_rfl)).2 [y6] rfl
    clear hf hg
    subst e8
    simp only [List.length_cons, List.length_nil, Nat.zero_add, Nat.reduceAdd]
    go_simp
    refine (intsE_c w0 w' _ (l5) _ [y6] hBb hkw (fun w2 h2 => shZ_blk hxs rfl (by simp) (h2.blk hp (by decide))) (by simp only [List.mem_cons, List.not_mem_nil, or_false]; rintro z rfl; exact ha6.out) (by simp) (by have := hN1.out; omega)).mono ?_
    rintro e w3 ⟨v', rfl, hB3, hK3⟩
    rw [hl6.out] at hB3
    refine ⟨_, rfl, ⟨fun y h => ?_, fun z h => ?_⟩, EnT.of hK3 (by decide)⟩
    · have h : some (l6) = some y := h
      cases h
      exact hB3
    · have h : (none : Option (List Int)) = some z := h
      cases h
  intro v10
  apply FreeO.walk_quiet rfl rfl
  · intro w' hg hf
    clear hf
    go_simp <;> exact rfl
  refine FreeO.walk_nil ?_
  intro wF hg hf
  have hBF := (show EnF w0.heap.size (fun i => if i = 3 then some (l4) else if i = 6 then some (l5) else if i = 10 then some (l6) else none) (fun i => if i = 9 then some [y6] else none) 10 _ v10 wF from by simpa using hf 10 (by decide) (by kernel_rfl)).1 (l6) rfl
  have hKF := EnT.kyA hg
  clear hf hg
  obtain ⟨a2, c2, rfl⟩ := hBF.form
  obtain ⟨N2, hN2⟩ : ∃ n, l6.length = n := ⟨_, rfl⟩
  have hc := listIE_c w0 wF _ l6 _ y.ins hBF (KY.old hk0.out hKF) hins.out hfi.out hi.out (by omega)
  unfold EP at hc
  rw [hres.out] at hc
  rw [hN2] at hc ⊢
  replace hN2 := Lib.hid hN2
  have hA1 := hKF.blk hA0.out (by decide)
  replace hK0 := Lib.hid (hK0.out.trans hKF)
  clear hBF hKF i0 i1 i2 i3 i4 i5 i6 i7 if' il
  obtain ⟨i0, i1, i2, i3, i4, i5, i6, i7, if', il⟩ := cl8 hA1
  replace hc := Lib.hid hc
  go_frame
  go_wp2_with fail
  refine hc.out.mono ?_
  rintro e w3 ⟨v', rfl, hB3, hK3⟩
  have hEP : EP w0 w l (encA y) (.returned v') w3 := ⟨_, rfl, hB3, hK0.out.trans hK3⟩
  replace hEP := Lib.hid hEP
  clear hB3 hK3
  go_wp2
  go_ret
  exact hEP.out
set_option maxRecDepth 100000 in
set_option maxHeartbeats 8000000 in
theorem listAE_c (w0 w : World) (v : Value) (l : List UInt8) (vl : Value) (L : List Ans) (h : Buf w w0.heap.size v l) (k0 : Keeps [] w0 w) (hR : RdA w0 vl L) (hf : ∀ x ∈ L, x.Fit ∧ x.ins.length ≤ 1000) (hn : L.length ≤ 1000) (hl : l.length ≤ 80000000000000) :
    Calls Tryz.prog 45 #[v, vl, .func (.func 46) #[] #[]] w (EP w0 w l (encU L.length ++ encH L)) := by
  obtain ⟨a, c, rfl, hlc, hcm⟩ := hR.form
  obtain ⟨M, hM⟩ : ∃ N, L.length = N := ⟨_, rfl⟩
  rw [hM] at hlc hn ⊢
  have hMm : M ≤ 9223372036854775807 := by omega
  have hwM : IntKind.u64.wrap (M : Int) = M := by rw [IntKind.wrap_u64]; omega
  have hc := appUE w0 w v l M h k0 (by omega) (by omega)
  obtain ⟨la, hla⟩ : ∃ y, l ++ encU M = y := ⟨_, rfl⟩
  have hna : la.length ≤ l.length + 9 := by rw [← hla, List.length_append]; have := encU_len (n := M) (by omega); omega
  unfold EP at hc
  rw [hla] at hc
  replace hc := Lib.hid hc
  replace hla := Lib.hid hla
  replace hM := Lib.hid hM
  replace hR := Lib.hid hR
  replace hf := Lib.hid hf
  replace k0 := Lib.hid k0
  clear h
  go_enter Tryz.func45, Tryz.ntmps45
  go_wp2_with fail
  refine hc.out.mono ?_
  rintro e wa ⟨va, rfl, hBa, hka⟩
  have hB := Lib.hid hBa
  have hKa := Lib.hid hka
  clear hc hBa hka
  go_wp2
  go_loopw [0, 16] (fun bv i wr => ∃ (k : Nat) (lk : List UInt8), i = .int .i64 k ∧ k ≤ M ∧ Hid (Buf wr w0.heap.size bv lk) ∧ Hid (lk = la ++ encH (L.take k)) ∧ Hid (lk.length ≤ la.length + 27100 * k) ∧ Hid (KY w0.heap.size w wr)) (fun _ i _ => M - (intOf i).toNat)
  case atStart => exact ⟨0, la, rfl, by omega, hB, Lib.hid (by simp [encH]), Lib.hid (by omega), hKa⟩
  case round =>
    clear hB hKa
    obtain ⟨k, lk, rfl, hk, hB, hlk, hlen, hkw⟩ := hrel
    obtain ⟨b1, b2, rfl⟩ := hB.out.form
    obtain ⟨NB, hNB⟩ : ∃ n, lk.length = n := ⟨_, rfl⟩
    rw [hNB] at hB hlen ⊢
    replace hNB := Lib.hid hNB
    by_cases hlt : k < M
    · have hlt2 : (k : Int) < M := by omega
      have hkl : k < L.length := by rw [hM.out]; exact hlt
      have hkF := KY.old k0.out hkw.out
      obtain ⟨g, o, c', y, hv, hy, he⟩ := hR.out.elem hkl
      rw [hM.out] at hv
      cases hv
      have hfx := hf.out _ (List.getElem_mem hkl)
      have hsucc := encH_take L k hkl
      obtain ⟨x, hz⟩ : ∃ z, L[k] = z := ⟨_, rfl⟩
      rw [hz] at hy hfx hsucc
      obtain ⟨y0, y1, y2, y3, y4, y5, y6, y7, y8, y9⟩ := y
      have e0 := hkF.val (he 0 _ rfl)
      have e1 := hkF.val (he 1 _ rfl)
      have e2 := hkF.val (he 2 _ rfl)
      have e3 := hkF.val (he 3 _ rfl)
      have e4 := hkF.val (he 4 _ rfl)
      have e5 := hkF.val (he 5 _ rfl)
      have e6 := hkF.val (he 6 _ rfl)
      have e7 := hkF.val (he 7 _ rfl)
      simp only [AnV.v, Nat.add_zero] at e0 e1 e2 e3 e4 e5 e6 e7
      have hlen2 := hlen.out
      have hkA := (Keeps.refl [] wr).alloc (.cells #[.int .i64 y0, .int .i64 y1, .int .u64 y2, .int .i64 y3, .bool y4, .bool y5, .int .i64 y6, .slice y7 y8 y9] tA)
      have hkw1 := hkw.out.trans (KY.of hkA)
      have hc := ansE_c w0 _ _ lk ⟨y0, y1, y2, y3, y4, y5, y6, y7, y8, y9⟩ x (hB.out.keep hkA) (KY.old k0.out hkw1) hy hfx.1 hfx.2 (by rw [hNB.out]; omega)
      unfold EP at hc
      obtain ⟨lb, hlb⟩ : ∃ y, lk ++ encA x = y := ⟨_, rfl⟩
      rw [hlb] at hc
      have hnb : lb.length ≤ lk.length + 27100 := by rw [← hlb, List.length_append]; have := encA_len (hfx.1.ok (by have := hfx.2; omega)) hfx.2; omega
      rw [hNB.out] at hnb
      simp only [aV, AnV.v] at hc
      replace hc := Lib.hid hc
      replace hlb := Lib.hid hlb
      replace hkw1 := Lib.hid hkw1
      replace hsucc := Lib.hid hsucc
      clear he hkA hz hfx hy hkF
      go_wp2_with fail
      refine hc.out.mono ?_
      rintro e wb ⟨vb, rfl, hBb, hkb⟩
      have hB2 := Lib.hid hBb
      have hkz := Lib.hid (hkw1.out.trans hkb)
      clear hc hBb hkb
      have hlb2 : Hid (lb = la ++ encH (L.take (k + 1))) := Lib.hid (by rw [← hlb.out, hlk.out, hsucc.out, List.append_assoc])
      have hlb3 : Hid (lb.length ≤ la.length + 27100 * (k + 1)) := Lib.hid (by omega)
      go_wp2
      go_roundw
      case rel => exact ⟨k + 1, lb, rfl, by omega, hB2, hlb2, hlb3, hkz⟩
      case measure => simp [intOf]; omega
    · have hlt2 : ¬ ((k : Int) < M) := by omega
      have hkM : k = L.length := by have := hM.out; omega
      have hres : Hid (lk = l ++ (encU M ++ encH L)) := Lib.hid (by rw [hlk.out, ← hla.out, hkM, List.take_length, List.append_assoc])
      replace hkM := Lib.hid hkM
      go_wp2
      go_ret
      exact ⟨_, rfl, by rw [← hres.out]; exact hB.out, hkw.out⟩
end Go.Proofs.YtiplgpefapeapaaGreat

namespace Go.Proofs.YtiplgpefapeapaaGreat
open Go Go.RowKit

def preP (p : PCl) (k : Nat) : List UInt8 := ([encNs p.st, encNs p.sc, encNs p.ch].take k).flatten
theorem preP_len (p : PCl) (hf : p.Fit) (hs : p.st.length ≤ 1000 ∧ p.sc.length ≤ 1000 ∧ p.ch.length ≤ 1000) (k : Nat) : (preP p k).length ≤ 100000 := by
  have h1 := encNs_len hf.st (by omega)
  have h2 := encNs_len hf.sc (by omega)
  have h3 := encNs_len hf.ch (by omega)
  unfold preP
  rcases k with _ | _ | _ | k <;> simp <;> omega
set_option maxRecDepth 100000 in
set_option maxHeartbeats 8000000 in
theorem clmE_c (w0 w : World) (v : Value) (l : List UInt8) (x : ClV) (p : PCl) (h : Buf w w0.heap.size v l) (k0 : Keeps [] w0 w) (hC : CR w0 x p) (hf : p.Fit) (hs : p.st.length ≤ 1000 ∧ p.sc.length ≤ 1000 ∧ p.ch.length ≤ 1000) (hl : l.length ≤ 90000000000000) :
    Calls Tryz.prog 52 #[v, clV x] w (EP w0 w l (encP p)) := by
  have hr1 := hC.st
  have hr2 := hC.sc
  have hr3 := hC.ch
  have m0 := hC.m
  have m1 := hC.ep
  have ha0 := hf.m
  have ha1 := hf.ep
  have hpl := preP_len p hf hs
  obtain ⟨y0, y1, ⟨v0, v1, v2⟩, ⟨v3, v4, v5⟩, ⟨v6, v7, v8⟩⟩ := x
  simp only [slv] at hr1 hr2 hr3
  simp only at m0 m1
  rw [← m0] at ha0
  rw [← m1] at ha1
  obtain ⟨l1, hl1⟩ : ∃ z, l ++ flatI [y0, y1] = z := ⟨_, rfl⟩
  have hn1 : l1.length ≤ l.length + 18 := by
    have := flatI_len (L := [y0, y1]) (by simp only [List.mem_cons, List.not_mem_nil, or_false]; rintro z (rfl | rfl); exact ha0; exact ha1)
    rw [← hl1]
    simp only [List.length_append, List.length_cons, List.length_nil] at this ⊢; omega
  have hres : l1 ++ preP p 3 = l ++ encP p := by rw [← hl1]; unfold encP preP; rw [m0, m1]; simp [flatI, List.append_assoc]
  have hpre : ∀ (W : World) (LB k : Nat), W.heap[LB]? = some (.cells #[.slice v0 v1 v2, .slice v3 v4 v5, .slice v6 v7 v8] 42 (0, 0)) → k < 3 → ∃ (q0 : Option Addr) (q1 q2 : Nat) (X : List T3), W.cell? ⟨LB, k, none⟩ = some (.slice q0 q1 q2) ∧ shT.R w0 (.slice q0 q1 q2) X ∧ (∀ x ∈ X, T3.Fit x) ∧ X.length ≤ 1000 ∧ preP p (k + 1) = preP p k ++ encNs X := by
    intro W LB k hb hk
    rcases k with _ | _ | _ | k
    · exact ⟨v0, v1, v2, p.st, by simp [World.cell?, hb], hr1, hf.st, hs.1, by simp [preP]⟩
    · exact ⟨v3, v4, v5, p.sc, by simp [World.cell?, hb], hr2, hf.sc, hs.2.1, by simp [preP]⟩
    · exact ⟨v6, v7, v8, p.ch, by simp [World.cell?, hb], hr3, hf.ch, hs.2.2, by simp [preP]⟩
    · omega
  have hkA := (Keeps.refl [] w).alloc (.cells #[.int .i64 y0, .int .i64 y1, .slice v0 v1 v2, .slice v3 v4 v5, .slice v6 v7 v8] tC)
  have hA := heap_alloc_new w (.cells #[.int .i64 y0, .int .i64 y1, .slice v0 v1 v2, .slice v3 v4 v5, .slice v6 v7 v8] tC)
  have hBA := Lib.hid (h.keep hkA)
  have hKA := Lib.hid (KY.of (B := w0.heap.size) hkA)
  have kA := Lib.hid (k0.trans hkA)
  have ha01 : ∀ z ∈ [y0, y1], W64 z := by simp only [List.mem_cons, List.not_mem_nil, or_false]; rintro z (rfl | rfl); exact ha0; exact ha1
  replace ha01 := Lib.hid ha01
  have hA1 := hA
  replace hA1 := Lib.hid hA1
  replace hl1 := Lib.hid hl1
  replace hres := Lib.hid hres
  replace hpre := Lib.hid hpre
  replace hpl := Lib.hid hpl
  replace k0 := Lib.hid k0
  clear hkA hA hC hr1 hr2 hr3 m0 m1 hf hs ha0 ha1
  obtain ⟨a0, c0, rfl⟩ := h.form
  obtain ⟨ML, hML⟩ : ∃ n, l.length = n := ⟨_, rfl⟩
  rw [hML] at hBA hn1 hl ⊢
  replace hML := Lib.hid hML
  clear h
  simp only [clV, slv]
  go_enter Tryz.func52, Tryz.ntmps52
  go_upto_region 1 with fail
  generalize (w.alloc (.cells #[.int .i64 y0, .int .i64 y1, .slice v0 v1 v2, .slice v3 v4 v5, .slice v6 v7 v8] tC)) = W at *
  obtain ⟨X, hXX⟩ : ∃ B, w.heap.size = B := ⟨_, rfl⟩
  rw [hXX] at hA1 ⊢
  replace hXX := Lib.hid hXX
  obtain ⟨i0, i1, i2, i3, i4, if', il⟩ := cl5 hA1.out
  have hkI := (Keeps.refl [] W).alloc (.cells #[.int .i64 y0, .int .i64 y1] 3)
  have hI := heap_alloc_new W (.cells #[.int .i64 y0, .int .i64 y1] 3)
  have hA3 := Lib.hid ((hkI.block _ (lt_of_blk hA1.out) (by simp)).trans hA1.out)
  have hK0 := Lib.hid (hKA.out.trans (KY.of hkI))
  have hc := intsE_c w0 _ _ l _ [y0, y1] (hBA.out.keep hkI) (kA.out.trans hkI) (fun w2 h2 => shZ_blk (n := 2) (xs := #[.int .i64 y0, .int .i64 y1]) rfl rfl (by simp) (h2.blk hI (by decide))) ha01.out (by simp) (by have := hML.out; omega)
  unfold EP at hc
  rw [hl1.out] at hc
  replace hc := Lib.hid hc
  clear hkI hI hA1 hBA hKA kA
  go_wp2_with fail
  refine hc.out.mono ?_
  rintro e w3 ⟨va, rfl, hBa, hKa⟩
  obtain ⟨a1, c1, rfl⟩ := hBa.form
  obtain ⟨N1, hN1⟩ : ∃ n, l1.length = n := ⟨_, rfl⟩
  rw [hN1] at hBa hn1 ⊢
  replace hN1 := Lib.hid hN1
  have hA2 := hKa.blk hA3.out (by decide)
  clear i0 i1 i2 i3 i4 if' il
  obtain ⟨i0, i1, i2, i3, i4, if', il⟩ := cl5 hA2
  have hkL := (Keeps.refl [] w3).alloc (.cells #[.slice v0 v1 v2, .slice v3 v4 v5, .slice v6 v7 v8] 42)
  have hLB := heap_alloc_new w3 (.cells #[.slice v0 v1 v2, .slice v3 v4 v5, .slice v6 v7 v8] 42)
  have hB := Lib.hid (hBa.keep hkL)
  have hKz := Lib.hid ((hK0.out.trans hKa).trans (KY.of hkL))
  have hLB0 := Lib.hid hLB
  clear hBa hKa hA3 hc hA2 hkL hLB hK0
  go_wp2
  clear i0 i1 i2 i3 i4 if' il
  go_loopw [0, 22] (fun bv i wr => ∃ (k : Nat) (lk : List UInt8), i = .int .i64 k ∧ k ≤ 3 ∧ Hid (Buf wr w0.heap.size bv lk) ∧ Hid (lk = l1 ++ preP p k) ∧ Hid (wr.heap[w3.heap.size]? = some (.cells #[.slice v0 v1 v2, .slice v3 v4 v5, .slice v6 v7 v8] 42 (0, 0))) ∧ Hid (KY w0.heap.size w wr)) (fun _ i _ => 3 - (intOf i).toNat)
  case atStart => exact ⟨0, l1, rfl, by omega, hB, Lib.hid (by simp [preP]), hLB0, hKz⟩
  case round =>
    clear hB hKz hLB0
    obtain ⟨k, lk, rfl, hk, hB, hlk, hLr, hkw⟩ := hrel
    obtain ⟨b1, b2, rfl⟩ := hB.out.form
    have hlen : lk.length ≤ 95000000000000 := by rw [hlk.out, List.length_append, hN1.out]; have := hpl.out k; omega
    obtain ⟨NB, hNB⟩ : ∃ n, lk.length = n := ⟨_, rfl⟩
    rw [hNB] at hB hlen ⊢
    replace hNB := Lib.hid hNB
    by_cases hlt : k < 3
    · have hlt2 : (k : Int) < 3 := by omega
      obtain ⟨q0, q1, q2, XS, hcell, hRX, hfX, hnX, hpk⟩ := hpre.out wr _ k hLr.out hlt
      have hc := listNE_c w0 wr _ lk _ XS hB.out (KY.old k0.out hkw.out) hRX hfX hnX (by rw [hNB.out]; omega)
      unfold EP at hc
      obtain ⟨lb, hlb⟩ : ∃ y, lk ++ encNs XS = y := ⟨_, rfl⟩
      rw [hlb] at hc
      replace hc := Lib.hid hc
      replace hlb := Lib.hid hlb
      replace hpk := Lib.hid hpk
      clear hRX hfX hnX
      go_wp2_with fail
      refine hc.out.mono ?_
      rintro e wb ⟨vb, rfl, hBb, hkb⟩
      have hB2 := Lib.hid hBb
      have hkz := Lib.hid (hkw.out.trans hkb)
      have hLz := Lib.hid (hkb.blk hLr.out (by decide))
      clear hc hBb hkb hcell
      have hlb2 : Hid (lb = l1 ++ preP p (k + 1)) := Lib.hid (by rw [← hlb.out, hlk.out, hpk.out, List.append_assoc])
      go_wp2
      go_roundw
      case rel => exact ⟨k + 1, lb, rfl, by omega, hB2, hlb2, hLz, hkz⟩
      case measure => simp [intOf]; omega
    · have hlt2 : ¬ ((k : Int) < 3) := by omega
      have hkM : k = 3 := by omega
      have hres2 : Hid (lk = l ++ encP p) := Lib.hid (by rw [hlk.out, hkM, hres.out])
      replace hkM := Lib.hid hkM
      go_wp2
      go_ret
      exact ⟨_, rfl, by rw [← hres2.out]; exact hB.out, hkw.out⟩
theorem encP_len {p : PCl} (hf : p.Fit) (hs : p.st.length ≤ 1000 ∧ p.sc.length ≤ 1000 ∧ p.ch.length ≤ 1000) : (encP p).length ≤ 200000 := by
  have h1 := preP_len p hf hs 3
  have h2 := encI_len hf.m
  have h3 := encI_len hf.ep
  have e : encP p = encI p.m ++ encI p.ep ++ preP p 3 := by unfold encP preP; simp
  rw [e]
  simp only [List.length_append]
  omega
set_option maxRecDepth 100000 in
set_option maxHeartbeats 8000000 in
theorem listCE_c (w0 w : World) (v : Value) (l : List UInt8) (vl : Value) (L : List PCl) (h : Buf w w0.heap.size v l) (k0 : Keeps [] w0 w) (hR : LC w0 vl L) (hf : ∀ x ∈ L, x.Fit ∧ x.st.length ≤ 1000 ∧ x.sc.length ≤ 1000 ∧ x.ch.length ≤ 1000) (hn : L.length ≤ 1000) (hl : l.length ≤ 80000000000000) :
    Calls Tryz.prog 51 #[v, vl, .func (.func 52) #[] #[]] w (EP w0 w l (encU L.length ++ encPs L)) := by
  obtain ⟨a, c, rfl, hlc, hcm⟩ := hR.form
  obtain ⟨M, hM⟩ : ∃ N, L.length = N := ⟨_, rfl⟩
  rw [hM] at hlc hn ⊢
  have hMm : M ≤ 9223372036854775807 := by omega
  have hwM : IntKind.u64.wrap (M : Int) = M := by rw [IntKind.wrap_u64]; omega
  have hc := appUE w0 w v l M h k0 (by omega) (by omega)
  obtain ⟨la, hla⟩ : ∃ y, l ++ encU M = y := ⟨_, rfl⟩
  have hna : la.length ≤ l.length + 9 := by rw [← hla, List.length_append]; have := encU_len (n := M) (by omega); omega
  unfold EP at hc
  rw [hla] at hc
  replace hc := Lib.hid hc
  replace hla := Lib.hid hla
  replace hM := Lib.hid hM
  replace hR := Lib.hid hR
  replace hf := Lib.hid hf
  replace k0 := Lib.hid k0
  clear h
  go_enter Tryz.func51, Tryz.ntmps51
  go_wp2_with fail
  refine hc.out.mono ?_
  rintro e wa ⟨va, rfl, hBa, hka⟩
  have hB := Lib.hid hBa
  have hKa := Lib.hid hka
  clear hc hBa hka
  go_wp2
  go_loopw [0, 16] (fun bv i wr => ∃ (k : Nat) (lk : List UInt8), i = .int .i64 k ∧ k ≤ M ∧ Hid (Buf wr w0.heap.size bv lk) ∧ Hid (lk = la ++ encPs (L.take k)) ∧ Hid (lk.length ≤ la.length + 200000 * k) ∧ Hid (KY w0.heap.size w wr)) (fun _ i _ => M - (intOf i).toNat)
  case atStart => exact ⟨0, la, rfl, by omega, hB, Lib.hid (by simp [encPs]), Lib.hid (by omega), hKa⟩
  case round =>
    clear hB hKa
    obtain ⟨k, lk, rfl, hk, hB, hlk, hlen, hkw⟩ := hrel
    obtain ⟨b1, b2, rfl⟩ := hB.out.form
    obtain ⟨NB, hNB⟩ : ∃ n, lk.length = n := ⟨_, rfl⟩
    rw [hNB] at hB hlen ⊢
    replace hNB := Lib.hid hNB
    by_cases hlt : k < M
    · have hlt2 : (k : Int) < M := by omega
      have hkl : k < L.length := by rw [hM.out]; exact hlt
      have hkF := KY.old k0.out hkw.out
      obtain ⟨g, o, c', y, hv, hy, e0, e1, e2, e3, e4⟩ := hR.out.elem hkl
      rw [hM.out] at hv
      cases hv
      have hfx := hf.out _ (List.getElem_mem hkl)
      have hsucc := encPs_take L k hkl
      obtain ⟨x, hz⟩ : ∃ z, L[k] = z := ⟨_, rfl⟩
      rw [hz] at hy hfx hsucc
      obtain ⟨y0, y1, ⟨v0, v1, v2⟩, ⟨v3, v4, v5⟩, ⟨v6, v7, v8⟩⟩ := y
      replace e0 := hkF.val e0
      replace e1 := hkF.val e1
      replace e2 := hkF.val e2
      replace e3 := hkF.val e3
      replace e4 := hkF.val e4
      simp only [slv] at e2 e3 e4
      have hlen2 := hlen.out
      have hkA := (Keeps.refl [] wr).alloc (.cells #[.int .i64 y0, .int .i64 y1, .slice v0 v1 v2, .slice v3 v4 v5, .slice v6 v7 v8] tC)
      have hkw1 := hkw.out.trans (KY.of hkA)
      have hc := clmE_c w0 _ _ lk ⟨y0, y1, (v0, v1, v2), (v3, v4, v5), (v6, v7, v8)⟩ x (hB.out.keep hkA) (KY.old k0.out hkw1) hy hfx.1 hfx.2 (by rw [hNB.out]; omega)
      unfold EP at hc
      obtain ⟨lb, hlb⟩ : ∃ y, lk ++ encP x = y := ⟨_, rfl⟩
      rw [hlb] at hc
      have hnb : lb.length ≤ lk.length + 200000 := by rw [← hlb, List.length_append]; have := encP_len hfx.1 hfx.2; omega
      rw [hNB.out] at hnb
      simp only [clV, slv] at hc
      replace hc := Lib.hid hc
      replace hlb := Lib.hid hlb
      replace hkw1 := Lib.hid hkw1
      replace hsucc := Lib.hid hsucc
      clear hkA hz hfx hy hkF
      go_wp2_with fail
      refine hc.out.mono ?_
      rintro e wb ⟨vb, rfl, hBb, hkb⟩
      have hB2 := Lib.hid hBb
      have hkz := Lib.hid (hkw1.out.trans hkb)
      clear hc hBb hkb
      have hlb2 : Hid (lb = la ++ encPs (L.take (k + 1))) := Lib.hid (by rw [← hlb.out, hlk.out, hsucc.out, List.append_assoc])
      have hlb3 : Hid (lb.length ≤ la.length + 200000 * (k + 1)) := Lib.hid (Nat.le_trans hnb (by rw [Nat.mul_succ, ← Nat.add_assoc]; exact Nat.add_le_add_right hlen2 _))
      go_wp2
      go_roundw
      case rel => exact ⟨k + 1, lb, rfl, by omega, hB2, hlb2, hlb3, hkz⟩
      case measure => simp [intOf]; omega
    · have hlt2 : ¬ ((k : Int) < M) := by omega
      have hkM : k = L.length := by have := hM.out; omega
      have hres : Hid (lk = l ++ (encU M ++ encPs L)) := Lib.hid (by rw [hlk.out, ← hla.out, hkM, List.take_length, List.append_assoc])
      replace hkM := Lib.hid hkM
      go_wp2
      go_ret
      exact ⟨_, rfl, by rw [← hres.out]; exact hB.out, hkw.out⟩
end Go.Proofs.YtiplgpefapeapaaGreat

namespace Go.Proofs.YtiplgpefapeapaaGreat
open Go Go.RowKit

set_option maxRecDepth 100000 in
set_option maxHeartbeats 8000000 in
theorem encodeE_c (w0 : World) (x : CtV) (c : Ct) (h : CtW w0 x c) (hf : c.Fit) (hw : c.Few) :
    Calls Tryz.prog 11 #[ctV x] w0 fun e w' => ∃ v, e = .returned v ∧ Buf w' w0.heap.size v (encCt c) ∧ Keeps [] w0 w' := by
  have hf0 := hf.im
  have hf1 := hf.is
  have hf2 := hf.st
  have him := h.im
  have his := h.is
  have hs0 := h.s0
  have hs1 := h.s1
  have hs2 := h.s2
  have han := h.an
  have hcl := h.cl
  have hfa : ∀ y ∈ c.an, y.Fit ∧ y.ins.length ≤ 1000 := fun y hy => ⟨hf.an y hy, hw.ins y hy⟩
  have hfc : ∀ y ∈ c.cl, y.Fit ∧ y.st.length ≤ 1000 ∧ y.sc.length ≤ 1000 ∧ y.ch.length ≤ 1000 := fun y hy => ⟨hf.cl y hy, hw.ns y hy⟩
  have hna := hw.an
  have hnc := hw.cl
  obtain ⟨x0, x1, x2, x3, x4, ⟨x5, x6, x7⟩, ⟨x8, x9, x10⟩⟩ := x
  simp only [slv] at han hcl
  simp only at him his hs0 hs1 hs2
  have hst : c.st = (x2, x3, x4) := Prod.ext hs0.symm (Prod.ext hs1.symm hs2.symm)
  rw [← him] at hf0
  rw [← his] at hf1
  rw [hst] at hf2
  have henc : encCt c = encI x0 ++ encI x1 ++ encX (x2, x3, x4) ++ (encU c.an.length ++ encH c.an) ++ (encU c.cl.length ++ encPs c.cl) := by unfold encCt; rw [him, his, hst]; simp only [List.append_assoc]
  obtain ⟨l1, hl1⟩ : ∃ z, ([] : List UInt8) ++ flatI [x0, x1] = z := ⟨_, rfl⟩
  obtain ⟨l2, hl2⟩ : ∃ z, l1 ++ encX (x2, x3, x4) = z := ⟨_, rfl⟩
  obtain ⟨l3, hl3⟩ : ∃ z, l2 ++ (encU c.an.length ++ encH c.an) = z := ⟨_, rfl⟩
  obtain ⟨l4, hl4⟩ : ∃ z, l3 ++ (encU c.cl.length ++ encPs c.cl) = z := ⟨_, rfl⟩
  have hres : l4 = encCt c := by rw [← hl4, ← hl3, ← hl2, ← hl1, henc]; simp [flatI, List.append_assoc]
  have hn1 : l1.length ≤ 18 := by
    have := flatI_len (L := [x0, x1]) (by simp only [List.mem_cons, List.not_mem_nil, or_false]; rintro z (rfl | rfl); exact hf0; exact hf1)
    rw [← hl1]
    simp only [List.length_append, List.length_cons, List.length_nil] at this ⊢; omega
  have hn2 : l2.length ≤ 100 := by rw [← hl2, List.length_append]; have := encX_len hf2.ins; omega
  have hn3 : l3.length ≤ 80000000000 := by
    have h1 := encU_len (n := c.an.length) (by omega)
    have h2 := encH_len (L := c.an) (fun a ha => ⟨(hfa a ha).1.ok (by have := (hfa a ha).2; omega), (hfa a ha).2⟩)
    rw [← hl3]
    simp only [List.length_append]
    omega
  have hkA := (Keeps.refl [] w0).alloc (.cells #[.int .i64 x0, .int .i64 x1, .int .i64 x2, .int .u64 x3, .int .i64 x4, .slice x5 x6 x7, .slice x8 x9 x10] tCt)
  have hA := heap_alloc_new w0 (.cells #[.int .i64 x0, .int .i64 x1, .int .i64 x2, .int .u64 x3, .int .i64 x4, .slice x5 x6 x7, .slice x8 x9 x10] tCt)
  have hB0 : Hid (Buf (w0.alloc (.cells #[.int .i64 x0, .int .i64 x1, .int .i64 x2, .int .u64 x3, .int .i64 x4, .slice x5 x6 x7, .slice x8 x9 x10] tCt)).drew w0.heap.size (.slice none 0 0) []) := Lib.hid (Buf.nil _ _)
  have hk0 := Lib.hid (hkA.trans (Keeps.refl [] _).drew)
  have hA0 := Lib.hid (((Keeps.refl [] _).drew.block _ (lt_of_blk hA) (by simp)).trans hA)
  replace hres := Lib.hid hres
  replace hl1 := Lib.hid hl1
  replace hl2 := Lib.hid hl2
  replace hl3 := Lib.hid hl3
  replace hl4 := Lib.hid hl4
  replace hf0 := Lib.hid hf0
  replace hf1 := Lib.hid hf1
  replace hf2 := Lib.hid hf2
  replace han := Lib.hid han
  replace hcl := Lib.hid hcl
  replace hfa := Lib.hid hfa
  replace hfc := Lib.hid hfc
  replace hna := Lib.hid hna
  replace hnc := Lib.hid hnc
  replace hn3 := Lib.hid hn3
  clear hkA hA h him his hs0 hs1 hs2 hst henc hf hw
  simp only [ctV, slv]
  go_enter Tryz.func11, Tryz.ntmps11
  go_upto_region 1 with fail
  generalize (w0.alloc (.cells #[.int .i64 x0, .int .i64 x1, .int .i64 x2, .int .u64 x3, .int .i64 x4, .slice x5 x6 x7, .slice x8 x9 x10] tCt)) = W at *
  obtain ⟨X, hXX⟩ : ∃ B, w0.heap.size = B ∧ Hid (w0.heap.size = B) := ⟨_, rfl, Lib.hid rfl⟩
  rw [hXX.1] at hA0
  have hsl : (Value.pointer (some ⟨w0.heap.size, 0, none⟩)) = Value.pointer (some ⟨X, 0, none⟩) := by rw [hXX.1]
  rw [hsl]
  clear hsl
  replace hXX := hXX.2
  obtain ⟨i0, i1, i2, i3, i4, i5, i6, if', il⟩ := cl7 hA0.out
  refine FreeO.wp_region_free (by kernel_rfl) (by kernel_rfl) (fun i => i == 6 || i == 7 || i == 10) (EnF w0.heap.size (fun i => if i = 7 then some (l1) else if i = 10 then some (l2) else none) (fun i => if i = 6 then some [x0, x1] else none)) (fun k => EnT w0.heap.size [7, 10] k) (EnK [7, 10]) (fun _ _ _ _ _ _ _ _ h => h) (fun i k a v w w' _ h2 h3 h4 h5 h6 => EnF.stable (ks := [7, 10]) (fun i h => by simp only [List.mem_cons, List.not_mem_nil, or_false]; by_cases h7 : i = 7; (subst h7; decide); by_cases h10 : i = 10; (subst h10; decide); simp [h7, h10] at h) (by kernel_rfl) i k a v w w' h2 h3 h4 h5 h6) ?_
  apply FreeO.walk_quiet rfl rfl
  · intro w' hg hf
    clear hf
    go_simp <;> exact rfl
  apply FreeO.walk_quiet rfl rfl
  · intro w' hg hf
    clear hf
    go_simp <;> exact rfl
  apply FreeO.walk_quiet rfl rfl
  · intro w' hg hf
    clear hf
    have g0 := hg.cell hA0.out (EnT.not (by decide)) i0
    have g1 := hg.cell hA0.out (EnT.not (by decide)) i1
    have g2 := hg.cell hA0.out (EnT.not (by decide)) i2
    have g3 := hg.cell hA0.out (EnT.not (by decide)) i3
    have g4 := hg.cell hA0.out (EnT.not (by decide)) i4
    have g5 := hg.cell hA0.out (EnT.not (by decide)) i5
    have g6 := hg.cell hA0.out (EnT.not (by decide)) i6
    go_simp <;> exact rfl
  apply FreeO.walk_quiet rfl rfl
  · intro w' hg hf
    clear hf
    go_simp <;> exact rfl
  apply FreeO.walk_quiet rfl rfl
  · intro w' hg hf
    clear hf
    go_simp <;> exact rfl
  apply FreeO.walk_quiet rfl rfl
  · intro w' hg hf
    clear hf
    have g0 := hg.cell hA0.out (EnT.not (by decide)) i0
    have g1 := hg.cell hA0.out (EnT.not (by decide)) i1
    have g2 := hg.cell hA0.out (EnT.not (by decide)) i2
    have g3 := hg.cell hA0.out (EnT.not (by decide)) i3
    have g4 := hg.cell hA0.out (EnT.not (by decide)) i4
    have g5 := hg.cell hA0.out (EnT.not (by decide)) i5
    have g6 := hg.cell hA0.out (EnT.not (by decide)) i6
    go_simp <;> exact rfl
  apply FreeO.walk_loud rfl rfl
  · intro w' hg hf
    have hn := heap_alloc_new w' (.cells #[.int .i64 x0, .int .i64 x1] 3)
    clear hf hg
    go_simp
    exact ⟨⟨fun y h => (by have h : (none : Option (List UInt8)) = some y := h; cases h), fun z h => (by have h : some [x0, x1] = some z := h; cases h; exact ⟨_, rfl, _, rfl, hn⟩)⟩, FreeO.KeepsO.of ((Keeps.refl [] w').alloc _) (by simp)⟩
  intro v6
  apply FreeO.walk_loud rfl rfl
  · intro w' hg hf
    have hkw := KY.old hk0.out (EnT.ky hg)
    have hBb := hB0.out.keep (EnT.first (by kernel_rfl) hg)
    obtain ⟨p, e8, xs, hxs, hp⟩ := (show EnF w0.heap.size (fun i => if i = 7 then some (l1) else if i = 10 then some (l2) else none) (fun i => if i = 6 then some [x0, x1] else none) 6 _ v6 w' from by simpa using hf 6 (by decide) (by kernel_rfl)).2 [x0, x1] rfl
    clear hf hg
    subst e8
    simp only [List.length_cons, List.length_nil, Nat.zero_add, Nat.reduceAdd]
    go_simp
    refine (intsE_c w0 w' _ (([] : List UInt8)) _ [x0, x1] hBb hkw (fun w2 h2 => shZ_blk hxs rfl (by simp) (h2.blk hp (by decide))) (by simp only [List.mem_cons, List.not_mem_nil, or_false]; rintro z (rfl | rfl); exact hf0.out; exact hf1.out) (by simp) (by simp)).mono ?_
    rintro e w3 ⟨v', rfl, hB3, hK3⟩
    rw [hl1.out] at hB3
    refine ⟨_, rfl, ⟨fun y h => ?_, fun z h => ?_⟩, EnT.of hK3 (by decide)⟩
    · have h : some (l1) = some y := h
      cases h
      exact hB3
    · have h : (none : Option (List Int)) = some z := h
      cases h
  intro v7
  apply FreeO.walk_quiet rfl rfl
  · intro w' hg hf
    clear hf
    go_simp <;> exact rfl
  apply FreeO.walk_quiet rfl rfl
  · intro w' hg hf
    clear hf
    have g0 := hg.cell hA0.out (EnT.not (by decide)) i0
    have g1 := hg.cell hA0.out (EnT.not (by decide)) i1
    have g2 := hg.cell hA0.out (EnT.not (by decide)) i2
    have g3 := hg.cell hA0.out (EnT.not (by decide)) i3
    have g4 := hg.cell hA0.out (EnT.not (by decide)) i4
    have g5 := hg.cell hA0.out (EnT.not (by decide)) i5
    have g6 := hg.cell hA0.out (EnT.not (by decide)) i6
    go_simp <;> exact rfl
  apply FreeO.walk_loud rfl rfl
  · intro w' hg hf
    have hkw := KY.old hk0.out (EnT.ky hg)
    have hBb := (show EnF w0.heap.size (fun i => if i = 7 then some (l1) else if i = 10 then some (l2) else none) (fun i => if i = 6 then some [x0, x1] else none) 7 _ v7 w' from by simpa using hf 7 (by decide) (by kernel_rfl)).1 (l1) rfl
    clear hf hg
    go_simp
    refine (needE_c w0 w' _ l1 (x2, x3, x4) hBb hkw hf2.out (by omega)).mono ?_
    rintro e w3 ⟨v', rfl, hB3, hK3⟩
    rw [hl2.out] at hB3
    refine ⟨_, rfl, ⟨fun y h => ?_, fun z h => ?_⟩, EnT.of hK3 (by decide)⟩
    · have h : some (l2) = some y := h
      cases h
      exact hB3
    · have h : (none : Option (List Int)) = some z := h
      cases h
  intro v10
  apply FreeO.walk_quiet rfl rfl
  · intro w' hg hf
    clear hf
    go_simp <;> exact rfl
  refine FreeO.walk_nil ?_
  intro wF hg hf
  have hBF := (show EnF w0.heap.size (fun i => if i = 7 then some (l1) else if i = 10 then some (l2) else none) (fun i => if i = 6 then some [x0, x1] else none) 10 _ v10 wF from by simpa using hf 10 (by decide) (by kernel_rfl)).1 (l2) rfl
  have hKF := EnT.kyA hg
  clear hf hg
  obtain ⟨a2, c2, rfl⟩ := hBF.form
  obtain ⟨N2, hN2⟩ : ∃ n, l2.length = n := ⟨_, rfl⟩
  have hk2 := KY.old hk0.out hKF
  have hc := listAE_c w0 wF _ l2 _ c.an hBF hk2 han.out hfa.out hna.out (by omega)
  unfold EP at hc
  rw [hl3.out] at hc
  rw [hN2] at hc ⊢
  replace hN2 := Lib.hid hN2
  have hA1 := hKF.blk hA0.out (by decide)
  clear hBF hKF i0 i1 i2 i3 i4 i5 i6 if' il
  obtain ⟨i0, i1, i2, i3, i4, i5, i6, if', il⟩ := cl7 hA1
  replace hc := Lib.hid hc
  replace hk2 := Lib.hid hk2
  replace hA1 := Lib.hid hA1
  go_frame
  go_wp2_with fail
  refine hc.out.mono ?_
  rintro e w3 ⟨v', rfl, hB3, hK3⟩
  obtain ⟨a3, c3, rfl⟩ := hB3.form
  obtain ⟨N3, hN3⟩ : ∃ n, l3.length = n := ⟨_, rfl⟩
  have hk3 := KY.old hk2.out hK3
  have hc3 := listCE_c w0 w3 _ l3 _ c.cl hB3 hk3 hcl.out hfc.out hnc.out (by have := hn3.out; omega)
  unfold EP at hc3
  rw [hl4.out] at hc3
  rw [hN3] at hc3 ⊢
  replace hN3 := Lib.hid hN3
  have hA3 := hK3.blk hA1.out (by decide)
  clear hB3 hK3 i0 i1 i2 i3 i4 i5 i6 if' il hc
  obtain ⟨i0, i1, i2, i3, i4, i5, i6, if', il⟩ := cl7 hA3
  replace hc3 := Lib.hid hc3
  replace hk3 := Lib.hid hk3
  go_wp2_with fail
  refine hc3.out.mono ?_
  rintro e w4 ⟨v', rfl, hB4, hK4⟩
  rw [hres.out] at hB4
  have hk4 := Lib.hid (KY.old hk3.out hK4)
  replace hB4 := Lib.hid hB4
  clear hK4
  go_wp2
  go_ret
  exact ⟨_, rfl, hB4.out, hk4.out⟩
end Go.Proofs.YtiplgpefapeapaaGreat

namespace Go.Proofs.YtiplgpefapeapaaGreat
open Go.RowKit

/-- The reference's reader in memory. -/
def RdR (w : World) (br : Nat) (v : Value) (l : List UInt8) (e : Int) : Prop := w.heap[br]? = some (.cells #[v, .int .i64 e] 75 (0, 0)) ∧ SlV w v l
theorem RdR.keeps {w w' : World} {br : Nat} {v : Value} {l : List UInt8} {e : Int} (h : RdR w br v l e) (hk : Keeps [] w w') : RdR w' br v l e :=
  ⟨(hk.block br (cell2_of h.1).2.2.2.2 (by simp)).trans h.1, h.2.keeps hk⟩
end Go.Proofs.YtiplgpefapeapaaGreat

namespace Go.Proofs.YtiplgpefapeapaaGreat
open Go.RowKit

def RrS (w : World) (br : Nat) (s : RS) : Prop := ∃ v, RdR w br v s.1 s.2
theorem RrS.keeps {w w' : World} {br : Nat} {s : RS} (h : RrS w br s) (hk : Keeps [] w w') : RrS w' br s := by obtain ⟨v, h⟩ := h; exact ⟨v, h.keeps hk⟩
theorem RrS.lt {w : World} {br : Nat} {s : RS} (h : RrS w br s) : br < w.heap.size := by obtain ⟨v, h⟩ := h; exact (cell2_of h.1).2.2.2.2
end Go.Proofs.YtiplgpefapeapaaGreat

namespace Go.Proofs.YtiplgpefapeapaaGreat
open Go.RowKit

/-- Reading goes on while there is no error. -/
def rXc : Nat → RS → List T3 → List T3 × RS
  | 0, s, L => (L, s)
  | n + 1, s, L => if s.2 = 0 then rXc n (rX s).2 (L ++ [(rX s).1]) else (L, s)
def rNs (s : RS) : List T3 × RS := rXc (rCS 1024 s).1 (rCS 1024 s).2 []
abbrev tRr : Nat := 75
theorem RrS.tag {w : World} {br : Nat} {s : RS} (h : RrS w br s) : ∃ cs : Array Value, w.heap[br]? = some (Obj.cells cs tRr (0, 0)) := by obtain ⟨v, h⟩ := h; exact ⟨_, h.1⟩
theorem RrS.moved {w w' : World} {br : Nat} {s : RS} {S : List Nat} (h : RrS w br s) (hk : Keeps S w w') (hbr : br ∉ S) (hS : ∀ b ∈ S, ∀ cs : Array Value, w.heap[b]? ≠ some (Obj.cells cs tB (0, 0))) : RrS w' br s := by
  obtain ⟨v, h1, h2⟩ := h
  exact ⟨v, (hk.block br (lt_of_blk h1) hbr).trans h1, h2.moved hk hS⟩
theorem RrS.cell {w : World} {br : Nat} {s : RS} (h : RrS w br s) : ∃ v, w.cell? ⟨br, 0, none⟩ = some v ∧ w.cell? ⟨br, 1, none⟩ = some (.int .i64 s.2) ∧ w.frozen? ⟨br, 0, none⟩ = false ∧ w.frozen? ⟨br, 1, none⟩ = false ∧ br < w.heap.size := by
  obtain ⟨v, h1, _⟩ := h
  exact ⟨v, cell2_of h1⟩
/-- One block with another tag is written. -/
theorem RrS.other {w w' : World} {br : Nat} {s : RS} {X : Nat} {cs : Array Value} {t : TypeId} {f : Nat × Nat} (h : RrS w br s) (hk : Keeps [X] w w') (hX : w.heap[X]? = some (.cells cs t f)) (ht : t ≠ tRr) (hb : t ≠ tB) : RrS w' br s := by
  refine h.moved hk (fun hm => ?_) (fun b hm cs' e => ?_)
  · simp only [List.mem_singleton] at hm
    obtain ⟨c2, h2⟩ := h.tag
    rw [hm, hX] at h2
    cases h2
    exact ht rfl
  · simp only [List.mem_singleton] at hm
    subst hm
    rw [hX] at e
    cases e
    exact hb rfl
theorem RrS.ne {w : World} {br : Nat} {s : RS} {X : Nat} {cs : Array Value} {t : TypeId} {f : Nat × Nat} (h : RrS w br s) (hX : w.heap[X]? = some (.cells cs t f)) (ht : t ≠ tRr) : X ≠ br := fun e => by
  obtain ⟨c2, h2⟩ := h.tag
  rw [← e, hX] at h2
  cases h2
  exact ht rfl
theorem loadN3 (w : World) (g : Nat) (t : TypeId) (x0 x1 x2 : Value) (f : Nat × Nat) (hg : w.heap[g]? = some (.cells #[x0, x1, x2] t f)) : (loadVar tN ⟨g, 0, none⟩).run Tryz.prog w = .ok (.agg #[x0, x1, x2]) w :=
  run_loadVar_row w g t tN #[x0, x1, x2] f _ hg Tryz.underlying28 rfl (show (Tryz.prog.info? tN).map (·.size) = some 3 by kernel_rfl)
theorem results_n3 {fn : Func} {p : Tmp} (h : fn.results = #[.cell p tN]) (tmps : Array Value) (w : World) (g : Nat) (t : TypeId) (x0 x1 x2 : Value) (f : Nat × Nat) (hp : tmps.getD p undef = .pointer (some ⟨g, 0, none⟩))
    (hg : w.heap[g]? = some (.cells #[x0, x1, x2] t f)) : (results fn tmps).run Tryz.prog w = .ok (.agg #[x0, x1, x2]) w := by
  have hp' : tmps[p]?.getD undef = .pointer (some ⟨g, 0, none⟩) := by simpa using hp
  simp [results, h, hp', asAddr, loadN3 w g t x0 x1 x2 f hg]
end Go.Proofs.YtiplgpefapeapaaGreat

namespace Go.Proofs.YtiplgpefapeapaaGreat
open Go.RowKit

def rAs (s : RS) : Ans × RS := ({ rA0 s with ins := (rXc (rCS 1024 (f7 s)).1 (rCS 1024 (f7 s)).2 []).1 }, (rXc (rCS 1024 (f7 s)).1 (rCS 1024 (f7 s)).2 []).2)
theorem loadA8 (w : World) (g : Nat) (t : TypeId) (x0 x1 x2 x3 x4 x5 x6 x7 : Value) (f : Nat × Nat) (hg : w.heap[g]? = some (.cells #[x0, x1, x2, x3, x4, x5, x6, x7] t f)) : (loadVar tA ⟨g, 0, none⟩).run Tryz.prog w = .ok (.agg #[x0, x1, x2, x3, x4, x5, x6, x7]) w :=
  run_loadVar_row w g t tA #[x0, x1, x2, x3, x4, x5, x6, x7] f _ hg Tryz.underlying46 rfl sizeA8
theorem results_a8 {fn : Func} {p : Tmp} (h : fn.results = #[.cell p tA]) (tmps : Array Value) (w : World) (g : Nat) (t : TypeId) (x0 x1 x2 x3 x4 x5 x6 x7 : Value) (f : Nat × Nat) (hp : tmps.getD p undef = .pointer (some ⟨g, 0, none⟩))
    (hg : w.heap[g]? = some (.cells #[x0, x1, x2, x3, x4, x5, x6, x7] t f)) : (results fn tmps).run Tryz.prog w = .ok (.agg #[x0, x1, x2, x3, x4, x5, x6, x7]) w := by
  have hp' : tmps[p]?.getD undef = .pointer (some ⟨g, 0, none⟩) := by simpa using hp
  simp [results, h, hp', asAddr, loadA8 w g t x0 x1 x2 x3 x4 x5 x6 x7 f hg]
end Go.Proofs.YtiplgpefapeapaaGreat

namespace Go.Proofs.YtiplgpefapeapaaGreat
open Go.RowKit

/-! ### plain -/
def rYc : Nat → RS → List Ans → List Ans × RS
  | 0, s, L => (L, s)
  | n + 1, s, L => if s.2 = 0 then rYc n (rAs s).2 (L ++ [(rAs s).1]) else (L, s)
def rPs (s : RS) : PCl × RS :=
  (⟨(rI s).1, (rI (rI s).2).1, (rNs (rI (rI s).2).2).1, (rNs (rNs (rI (rI s).2).2).2).1, (rNs (rNs (rNs (rI (rI s).2).2).2).2).1⟩, (rNs (rNs (rNs (rI (rI s).2).2).2).2).2)
def rPc : Nat → RS → List PCl → List PCl × RS
  | 0, s, L => (L, s)
  | n + 1, s, L => if s.2 = 0 then rPc n (rPs s).2 (L ++ [(rPs s).1]) else (L, s)
def dY (l : List UInt8) : List Ans × RS := rYc (rCS 1024 (rX (rI (rI (l, 0)).2).2).2).1 (rCS 1024 (rX (rI (rI (l, 0)).2).2).2).2 []
def dP (l : List UInt8) : List PCl × RS := rPc (rCS 1024 (dY l).2).1 (rCS 1024 (dY l).2).2 []
def dCt (l : List UInt8) : Ct := ⟨(rI (l, 0)).1, (rI (rI (l, 0)).2).1, (rX (rI (rI (l, 0)).2).2).1, (dY l).1, (dP l).1⟩
/-- What the specification's Decode gives. -/
def decS (l : List UInt8) : Option Ct := if (dP l).2.2 = 0 ∧ doneE (dP l).2.1 (dP l).2.2 = 0 ∧ encCt (dCt l) = l then some (dCt l) else none
/-! ### the memory -/
structure DcS (w W : World) (Z X br : Nat) (s : RS) (i0 i1 : Int) (st : T3) (av cv : Option Addr × Nat × Nat) (XA : List AnV) (Y : List Ans) (XC : List ClV) (P : List PCl) : Prop where
  x : W.heap[X]? = some (.cells #[.int .i64 i0, .int .i64 i1, .int .i64 st.1, .int .u64 st.2.1, .int .i64 st.2.2, slv av, slv cv] tCt (0, 0))
  z : W.heap[Z]? = some (.cells #[.int .i64 0, .int .i64 0, .int .i64 0, .int .u64 0, .int .i64 0, .slice none 0 0, .slice none 0 0] tCt (0, 0))
  r : RrS W br s
  a : shA.O W (X + 1) tA (slv av) XA
  la : LA W XA Y
  c : shC.O W (X + 1) tC (slv cv) XC
  rc : Rows' W XC P
  k : Keeps [] w W
  zb : Z < br
  bx : br < X
  wz : w.heap.size ≤ Z
namespace DcS
variable {w W W' : World} {Z X br : Nat} {s s' : RS} {i0 i1 : Int} {st : T3} {av cv : Option Addr × Nat × Nat} {XA : List AnV} {Y : List Ans} {XC : List ClV} {P : List PCl}
theorem ref (h : DcS w W Z X br s i0 i1 st av cv XA Y XC P) (hk : Keeps [br] W W') (hr : RrS W' br s') : DcS w W' Z X br s' i0 i1 st av cv XA Y XC P := by
  have h1 := h.zb
  have h2 := h.bx
  have h3 := h.wz
  obtain ⟨rcs, hrt⟩ := h.r.tag
  refine ⟨(hk.block X (lt_of_blk h.x) (by simp; omega)).trans h.x, (hk.block Z (lt_of_blk h.z) (by simp; omega)).trans h.z, hr, h.a.keepS hk (fun b hb e => ?_), h.la.ki (hk.ki (fun b hb cs f e => ?_)), h.c.keepS hk (fun b hb e => ?_), h.rc.keepS hk (fun b hb cs f e => ?_), h.k.fresh hk (fun b hb => .inr (by simp only [List.mem_singleton] at hb; omega)), h1, h2, h3⟩
  · simp only [List.mem_singleton] at hb; have := h.a.ge _ e; omega
  · simp only [List.mem_singleton] at hb; subst hb; rw [hrt] at e; cases e
  · simp only [List.mem_singleton] at hb; have := h.c.ge _ e; omega
  · simp only [List.mem_singleton] at hb; subst hb; rw [hrt] at e; cases e
theorem keeps (h : DcS w W Z X br s i0 i1 st av cv XA Y XC P) (hk : Keeps [] W W') : DcS w W' Z X br s i0 i1 st av cv XA Y XC P :=
  ⟨(hk.block X (lt_of_blk h.x) (by simp)).trans h.x, (hk.block Z (lt_of_blk h.z) (by simp)).trans h.z, h.r.keeps hk, h.a.keeps hk, h.la.ki hk.ki0, h.c.keeps hk, h.rc.keeps hk, h.k.trans hk, h.zb, h.bx, h.wz⟩
end DcS
theorem LA.lrd {w : World} {X : List AnV} {Y : List Ans} (h : LA w X Y) : LRd w X Y := ⟨h.1, fun k x y h1 h2 => (h.2 k x y h1 h2).r⟩
/-- A certificate in blocks of the call's own. -/
structure CtO (w : World) (B : Nat) (x : CtV) (c : Ct) (XA : List AnV) (XC : List ClV) : Prop where
  im : x.im = c.im
  is : x.is = c.is
  s0 : x.s0 = c.st.1
  s1 : x.s1 = c.st.2.1
  s2 : x.s2 = c.st.2.2
  a : shA.O w B tA (slv x.va) XA
  la : LA w XA c.an
  cc : shC.O w B tC (slv x.vc) XC
  rc : Rows' w XC c.cl
theorem CtO.w {w : World} {B : Nat} {x : CtV} {c : Ct} {XA : List AnV} {XC : List ClV} (h : CtO w B x c XA XC) : CtW w x c := ⟨h.im, h.is, h.s0, h.s1, h.s2, ⟨XA, h.a.r, h.la.lrd⟩, h.rc.lc h.cc.r⟩
theorem loadCt7 (w : World) (g : Nat) (t : TypeId) (x0 x1 x2 x3 x4 x5 x6 : Value) (f : Nat × Nat) (hg : w.heap[g]? = some (.cells #[x0, x1, x2, x3, x4, x5, x6] t f)) : (loadVar tCt ⟨g, 0, none⟩).run Tryz.prog w = .ok (.agg #[x0, x1, x2, x3, x4, x5, x6]) w :=
  run_loadVar_row w g t tCt #[x0, x1, x2, x3, x4, x5, x6] f _ hg Tryz.underlying32 rfl (show (Tryz.prog.info? tCt).map (·.size) = some 7 by kernel_rfl)
theorem results_ct7 {fn : Func} {p u : Tmp} (h : fn.results = #[.cell p tCt, .tmp u]) (tmps : Array Value) (w : World) (g : Nat) (t : TypeId) (x0 x1 x2 x3 x4 x5 x6 : Value) (f : Nat × Nat) (hp : tmps.getD p undef = .pointer (some ⟨g, 0, none⟩))
    (hg : w.heap[g]? = some (.cells #[x0, x1, x2, x3, x4, x5, x6] t f)) : (results fn tmps).run Tryz.prog w = .ok (.tuple #[.agg #[x0, x1, x2, x3, x4, x5, x6], tmps.getD u undef]) w := by
  have hp' : tmps[p]?.getD undef = .pointer (some ⟨g, 0, none⟩) := by simpa using hp
  simp [results, h, hp', asAddr, loadCt7 w g t x0 x1 x2 x3 x4 x5 x6 f hg]
def zeroCt : CtV := ⟨0, 0, 0, 0, 0, (none, 0, 0), (none, 0, 0)⟩
/-- What Decode hands back. -/
def DecP (w : World) (l : List UInt8) (e : Ending) (w' : World) : Prop :=
  (decS l = none ∧ e = .returned (.tuple #[ctV zeroCt, .int .i64 11]) ∧ Keeps [] w w') ∨
  (∃ (x : CtV) (c : Ct) (XA : List AnV) (XC : List ClV), decS l = some c ∧ e = .returned (.tuple #[ctV x, .int .i64 0]) ∧ CtO w' w.heap.size x c XA XC ∧ Keeps [] w w')
end Go.Proofs.YtiplgpefapeapaaGreat

namespace Go.Proofs.YtiplgpefapeapaaGreat
open Go.RowKit

/-! ### the bytes -/
theorem digs_hd {n : Nat} (h : 0 < n) : ∃ b t, digs n = b :: t ∧ b ≠ 0 := by
  induction n using Nat.strongRecOn with
  | _ n ih =>
    rw [digs_pos h]
    rcases Nat.eq_zero_or_pos (n / 256) with e | e
    · rw [e, digs_zero]
      refine ⟨UInt8.ofNat (n % 256), [], rfl, fun e0 => ?_⟩
      have := congrArg UInt8.toNat e0
      simp at this; omega
    · obtain ⟨b, t, h1, h2⟩ := ih (n / 256) (by omega) e
      exact ⟨b, t ++ [UInt8.ofNat (n % 256)], by rw [h1]; rfl, h2⟩
theorem readU_enc (n : Nat) (l : List UInt8) (h : n < 18446744073709551616) : readU (encU n ++ l) = some (n, l) := by
  have h8 := digs_len8 h
  have hk : (UInt8.ofNat (digs n).length).toNat = (digs n).length := by simp; omega
  have hhead : 0 < (digs n).length → (digs n ++ l).headD 1 ≠ 0 := fun hp => by
    rcases Nat.eq_zero_or_pos n with e | e
    · rw [e, digs_zero] at hp; simp at hp
    · obtain ⟨b, t, h1, h2⟩ := digs_hd e
      rw [h1]; simpa using h2
  simp only [encU, List.cons_append, readU, hk]
  rw [if_pos ⟨h8, by simp, hhead⟩]
  simp [valU_digs]
theorem readB_enc (b : Bool) (l : List UInt8) : readB (encB b ++ l) = some (b, l) := by
  cases b
  · show (if (0 : UInt8).toNat ≤ 1 then some ((0 : UInt8).toNat == 1, l) else none) = _
    rw [if_pos (by decide)]; rfl
  · show (if (1 : UInt8).toNat ≤ 1 then some ((1 : UInt8).toNat == 1, l) else none) = _
    rw [if_pos (by decide)]; rfl
theorem rU_enc (n : Nat) (l : List UInt8) (h : n < 18446744073709551616) : rU (encU n ++ l, 0) = (n, (l, 0)) := by
  unfold rU
  rw [if_pos rfl]
  simp only [readU_enc n l h]
theorem rI_enc (z : Int) (l : List UInt8) (h : W64 z) : rI (encI z ++ l, 0) = (z, (l, 0)) := by
  unfold rI encI
  rw [rU_enc _ _ (zig_lt (w64_iff.1 h)), uzig_zig]
theorem rB_enc (b : Bool) (l : List UInt8) : rB (encB b ++ l, 0) = (b, (l, 0)) := by
  unfold rB
  rw [if_pos rfl]
  simp only [readB_enc b l]
theorem rCS_enc (K n : Nat) (l : List UInt8) (h : n < 18446744073709551616) (hK : n ≤ K) (hl : n ≤ l.length) : rCS K (encU n ++ l, 0) = (n, (l, 0)) := by
  unfold rCS rCK
  rw [if_pos rfl]
  simp only [readU_enc n l h]
  rw [if_pos (by unfold cEK; rw [if_neg (by omega), if_neg (by omega)])]
theorem encU_pos (n : Nat) : 1 ≤ (encU n).length := by simp [encU]
theorem rX_enc (x : T3) (l : List UInt8) (h : InsFit x) : rX (encX x ++ l, 0) = (x, (l, 0)) := by
  have e1 : encX x ++ l = encI x.1 ++ (encU x.2.1 ++ (encI x.2.2 ++ l)) := by simp [encX]
  unfold rX
  rw [e1, rI_enc _ _ h.a]
  simp only [rU_enc _ _ h.n, rI_enc _ _ h.c]
theorem rXs_enc : ∀ (X : List T3) (l : List UInt8) (L : List T3), (∀ x ∈ X, InsFit x) → rXs X.length (encXs X ++ l, 0) L = (L ++ X, (l, 0))
  | [], l, L, _ => by simp [rXs, encXs]
  | x :: X, l, L, h => by
    have e1 : encXs (x :: X) ++ l = encX x ++ (encXs X ++ l) := by simp [encXs]
    rw [e1, List.length_cons, rXs_succ, rX_enc x _ (h x (by simp))]
    simp only
    rw [rXs_enc X l (L ++ [x]) (fun y hy => h y (by simp [hy]))]
    simp
theorem encXs_pos : ∀ X : List T3, X.length ≤ (encXs X).length
  | [] => by simp
  | x :: X => by
    have := encXs_pos X
    have h1 := encU_pos (zig x.1)
    have e1 : encXs (x :: X) = encX x ++ encXs X := by simp [encXs]
    rw [e1]
    simp only [encX, encI, List.length_append, List.length_cons]
    omega
theorem rA_enc (K : Nat) (a : Ans) (l : List UInt8) (ha : a.Ok) (hK : a.ins.length ≤ K) (hb : a.ins.length < 18446744073709551616) : rA K (encA a ++ l, 0) = a ∧ (rAx K (encA a ++ l, 0)).2 = (l, 0) := by
  have e1 : encA a ++ l = encI a.m ++ (encI a.ow ++ (encU a.n ++ (encI a.ep ++ (encB a.kn ++ (encB a.rt ++ (encI a.lu ++ (encU a.ins.length ++ (encXs a.ins ++ l)))))))) := by simp [encA, encA0]
  have q1 := rI_enc a.m (encI a.ow ++ (encU a.n ++ (encI a.ep ++ (encB a.kn ++ (encB a.rt ++ (encI a.lu ++ (encU a.ins.length ++ (encXs a.ins ++ l)))))))) ha.q.1
  have q2 := rI_enc a.ow (encU a.n ++ (encI a.ep ++ (encB a.kn ++ (encB a.rt ++ (encI a.lu ++ (encU a.ins.length ++ (encXs a.ins ++ l))))))) ha.q.2.1
  have q3 := rU_enc a.n (encI a.ep ++ (encB a.kn ++ (encB a.rt ++ (encI a.lu ++ (encU a.ins.length ++ (encXs a.ins ++ l)))))) ha.q.2.2
  have q4 := rI_enc a.ep (encB a.kn ++ (encB a.rt ++ (encI a.lu ++ (encU a.ins.length ++ (encXs a.ins ++ l))))) ha.ep
  have q5 := rB_enc a.kn (encB a.rt ++ (encI a.lu ++ (encU a.ins.length ++ (encXs a.ins ++ l))))
  have q6 := rB_enc a.rt (encI a.lu ++ (encU a.ins.length ++ (encXs a.ins ++ l)))
  have q7 := rI_enc a.lu (encU a.ins.length ++ (encXs a.ins ++ l)) ha.lu
  have hp := encXs_pos a.ins
  have q8 := rCS_enc K a.ins.length (encXs a.ins ++ l) hb hK (by simp; omega)
  have q9 := rXs_enc a.ins l [] ha.fitI
  rw [e1]
  generalize encI a.m ++ (encI a.ow ++ (encU a.n ++ (encI a.ep ++ (encB a.kn ++ (encB a.rt ++ (encI a.lu ++ (encU a.ins.length ++ (encXs a.ins ++ l)))))))) = l0 at *
  generalize encI a.ow ++ (encU a.n ++ (encI a.ep ++ (encB a.kn ++ (encB a.rt ++ (encI a.lu ++ (encU a.ins.length ++ (encXs a.ins ++ l))))))) = l1 at *
  generalize encU a.n ++ (encI a.ep ++ (encB a.kn ++ (encB a.rt ++ (encI a.lu ++ (encU a.ins.length ++ (encXs a.ins ++ l)))))) = l2 at *
  generalize encI a.ep ++ (encB a.kn ++ (encB a.rt ++ (encI a.lu ++ (encU a.ins.length ++ (encXs a.ins ++ l))))) = l3 at *
  generalize encB a.kn ++ (encB a.rt ++ (encI a.lu ++ (encU a.ins.length ++ (encXs a.ins ++ l)))) = l4 at *
  generalize encB a.rt ++ (encI a.lu ++ (encU a.ins.length ++ (encXs a.ins ++ l))) = l5 at *
  generalize encI a.lu ++ (encU a.ins.length ++ (encXs a.ins ++ l)) = l6 at *
  generalize encU a.ins.length ++ (encXs a.ins ++ l) = l7 at *
  have s1 : f1 (l0, 0) = (l1, 0) := by unfold f1; rw [q1]
  have s2 : f2 (l0, 0) = (l2, 0) := by unfold f2; rw [s1, q2]
  have s3 : f3 (l0, 0) = (l3, 0) := by unfold f3; rw [s2, q3]
  have s4 : f4 (l0, 0) = (l4, 0) := by unfold f4; rw [s3, q4]
  have s5 : f5 (l0, 0) = (l5, 0) := by unfold f5; rw [s4, q5]
  have s6 : f6 (l0, 0) = (l6, 0) := by unfold f6; rw [s5, q6]
  have s7 : f7 (l0, 0) = (l7, 0) := by unfold f7; rw [s6, q7]
  have s8 : rAn K (l0, 0) = (a.ins.length, (encXs a.ins ++ l, 0)) := by unfold rAn; rw [s7, q8]
  have s9 : rAx K (l0, 0) = (a.ins, (l, 0)) := by unfold rAx; rw [s8, q9]; simp
  refine ⟨?_, by rw [s9]⟩
  unfold rA rA0
  rw [s9, s1, s2, s3, s4, s5, s6, q1, q2, q3, q4, q5, q6, q7]
theorem encH_pos : ∀ H : List Ans, H.length ≤ (encH H).length
  | [] => by simp
  | a :: H => by
    have := encH_pos H
    have h1 := encU_pos (zig a.m)
    have e1 : encH (a :: H) = encA a ++ encH H := by simp [encH]
    rw [e1]
    simp only [encA, encA0, encI, List.length_append, List.length_cons]
    omega
/-! ### what a trace's record gives -/
def rpl (t : Tr) (H : List Ans) : Tr := H.foldl (fun t a => (t.answer a).1) t
theorem rpl_snoc (t : Tr) (H : List Ans) (a : Ans) : rpl t (H ++ [a]) = ((rpl t H).answer a).1 := by unfold rpl; rw [List.foldl_append]; rfl
def Tr.base (t : Tr) : Tr := Tr.new t.im t.is t.st
structure Tr.Rep (t : Tr) : Prop where
  ok : ∀ k (hk : k < t.hist.length), ((rpl t.base (t.hist.take k)).answer t.hist[k]).2 = 0
  fin : ∃ u, gA (rpl t.base t.hist) t.ag.length = some u ∧ rfS t.rf u = some { t with told := 0 }
  tl : t.told = 0 ∨ ∃ k, k ≤ t.hist.length ∧ (rpl t.base (t.hist.take k)).state = 0 ∧ t.told = (rpl t.base (t.hist.take k)).qs.length
theorem Tr.Rep.new (im is : Int) (st : T3) : (Tr.new im is st).Rep := ⟨fun k hk => by simp [Tr.new] at hk, ⟨Tr.new im is st, rfl, rfl⟩, .inl rfl⟩
theorem ans_told2 (t : Tr) (a : Ans) (x : Int) : ({ t with told := x } : Tr).answer a = ({ (t.answer a).1 with told := x }, (t.answer a).2) := by
  unfold Tr.answer
  simp only
  split
  · rfl
  split
  · rfl
  split
  · rfl
  split
  · rfl
  have e : ({ t with told := x } : Tr).take a = { t.take a with told := x } := rfl
  simp only [Tr.take, Tr.put]
  split
  · rfl
  unfold Tr.close
  simp only
  split <;> rfl
/-- While a trace gathers, it is what its history gives. -/
theorem Tr.Rep.now {t : Tr} (h : t.Rep) (ha : t.ag = []) (hr : t.rf = false) : rpl t.base t.hist = { t with told := 0 } := by
  obtain ⟨u, h1, h2⟩ := h.fin
  rw [ha] at h1
  have e0 : rfS t.rf u = some u := by rw [hr]; rfl
  rw [e0] at h2
  have e1 : rpl t.base t.hist = u := Option.some.inj h1
  have e2 : u = { t with told := 0 } := Option.some.inj h2
  rw [e1, e2]
theorem Tr.Rep.conf {t : Tr} (h : t.Rep) (hr : t.rf = false) : gA (rpl t.base t.hist) t.ag.length = some { t with told := 0 } := by
  obtain ⟨u, h1, h2⟩ := h.fin
  have e0 : rfS t.rf u = some u := by rw [hr]; rfl
  rw [e0] at h2
  have e2 : u = { t with told := 0 } := Option.some.inj h2
  rw [h1, e2]
theorem Tr.answer_more (t : Tr) (a : Ans) : (t.answer a).1 = t ∨ (t.state = 0 ∧ (t.answer a).2 = 0 ∧ (t.answer a).1.hist = t.hist ++ [a] ∧ (t.answer a).1.rf = t.rf ∧ (t.answer a).1.told = t.told ∧ (t.answer a).1.ag = t.ag) := by
  unfold Tr.answer
  split
  · exact .inl rfl
  rename_i h0
  have h0 : t.state = 0 := by simpa using h0
  split
  · exact .inl rfl
  split
  · exact .inr ⟨h0, rfl, rfl, rfl, rfl, rfl⟩
  split
  · exact .inr ⟨h0, rfl, rfl, rfl, rfl, rfl⟩
  split
  · exact .inr ⟨h0, rfl, rfl, rfl, rfl, rfl⟩
  unfold Tr.close
  split <;> exact .inr ⟨h0, rfl, rfl, rfl, rfl, rfl⟩
theorem Tr.Rep.answer {t : Tr} {n : Nat} (h : t.Rep) (hb : t.Bnd n) (a : Ans) : (t.answer a).1.Rep := by
  rcases t.answer_more a with e | ⟨h0, h1, h2, h3, h4, h5⟩
  · rw [e]; exact h
  have hag := hb.s0 h0
  have hrf : t.rf = false := by
    cases e : t.rf with
    | false => rfl
    | true => have := hb.rf e; omega
  have hnow := h.now hag hrf
  obtain ⟨_, i1, i2, i3, _⟩ := Tr.answer_hist t a
  have hbase : (t.answer a).1.base = t.base := by unfold Tr.base; rw [i1, i2, i3]
  have hend : rpl t.base (t.hist ++ [a]) = { (t.answer a).1 with told := 0 } := by rw [rpl_snoc, hnow, ans_told2]
  refine ⟨fun k hk => ?_, ?_, ?_⟩
  · rw [hbase]
    simp only [h2] at hk ⊢
    rcases Nat.lt_or_ge k t.hist.length with hl | hl
    · rw [List.take_append_of_le_length (by omega), List.getElem_append_left hl]
      exact h.ok k hl
    · have hk' : k = t.hist.length := by simp at hk; omega
      subst hk'
      rw [List.take_append_of_le_length (Nat.le_refl _), List.take_length, hnow, ans_told2]
      simpa using h1
  · have z1 : rpl (t.answer a).1.base (t.answer a).1.hist = { (t.answer a).1 with told := 0 } := by rw [hbase, h2]; exact hend
    have z2 : (t.answer a).1.ag.length = 0 := by rw [h5, hag]; rfl
    have z3 : (t.answer a).1.rf = false := by rw [h3, hrf]
    refine ⟨{ (t.answer a).1 with told := 0 }, by rw [z1, z2]; rfl, ?_⟩
    unfold rfS
    rw [if_neg (by rw [z3]; decide)]
  · rw [hbase, h2, h4]
    rcases h.tl with e | ⟨k, k1, k2, k3⟩
    · exact .inl e
    · refine .inr ⟨k, by simp; omega, ?_⟩
      rw [List.take_append_of_le_length k1]
      exact ⟨k2, k3⟩
theorem Tr.Rep.queries {t : Tr} {n : Nat} (h : t.Rep) (hb : t.Bnd n) : t.queries.1.Rep := by
  unfold Tr.queries
  split
  · exact h
  rename_i h0
  have h0 : t.state = 0 := by simpa using h0
  have hag := hb.s0 h0
  have hrf : t.rf = false := by
    cases e : t.rf with
    | false => rfl
    | true => have := hb.rf e; omega
  have hnow := h.now hag hrf
  refine ⟨h.ok, h.fin, .inr ⟨t.hist.length, Nat.le_refl _, ?_⟩⟩
  show (rpl t.base (t.hist.take t.hist.length)).state = 0 ∧ (t.qs.length : Int) = (rpl t.base (t.hist.take t.hist.length)).qs.length
  rw [List.take_length, hnow]
  exact ⟨h0, rfl⟩
theorem Tr.Rep.agree {t : Tr} {n : Nat} (h : t.Rep) (hb : t.Bnd n) (m : Int) : (t.agreeT m).1.Rep := by
  by_cases h1 : t.state = 1
  · have hrf : t.rf = false := by
      cases e : t.rf with
      | false => rfl
      | true => have := hb.rf e; omega
    have hconf := h.conf hrf
    have hlt := hb.s1 h1
    have hp : t.clm[t.ag.length]? = some t.clm[t.ag.length] := List.getElem?_eq_getElem hlt
    unfold Tr.agreeT
    rw [if_neg (by simp [h1]), hp]
    simp only
    split
    · exact h
    · rename_i hm
      have hm : t.clm[t.ag.length].m = m := by simpa using hm
      refine ⟨h.ok, ⟨{ t with told := 0, ag := t.ag ++ [m], state := if t.ag.length + 1 = t.clm.length then 2 else t.state }, ?_, ?_⟩, h.tl⟩
      · show gA (rpl t.base t.hist) (t.ag ++ [m]).length = _
        rw [List.length_append]
        show (gA (rpl t.base t.hist) t.ag.length).bind gS = _
        rw [hconf]
        show gS { t with told := 0 } = _
        unfold gS
        rw [if_pos h1]
        have e1 : ({ t with told := 0 } : Tr).clm = t.clm := Tr.clm_qs rfl
        have e2 : ({ t with told := 0 } : Tr).pm = m := by
          unfold Tr.pm
          rw [e1]
          simp only [hp]
          exact hm
        rw [e2]
        unfold Tr.agreeT
        rw [if_neg (by simp [h1]), e1]
        simp only [hp]
        rw [if_neg (by simp [hm])]
      · simp only [hrf]
        rfl
  · have e : (t.agreeT m).1 = t := by
      unfold Tr.agreeT
      rw [if_pos h1]
    rw [e]; exact h
theorem Tr.Rep.refuse {t : Tr} {n : Nat} (h : t.Rep) (hb : t.Bnd n) (m : Int) : (t.refuseT m).1.Rep := by
  by_cases h1 : t.state = 1
  · have hrf : t.rf = false := by
      cases e : t.rf with
      | false => rfl
      | true => have := hb.rf e; omega
    have hconf := h.conf hrf
    have hlt := hb.s1 h1
    have hp : t.clm[t.ag.length]? = some t.clm[t.ag.length] := List.getElem?_eq_getElem hlt
    unfold Tr.refuseT
    rw [if_neg (by simp [h1]), hp]
    simp only
    split
    · exact h
    · rename_i hm
      have hm : t.clm[t.ag.length].m = m := by simpa using hm
      refine ⟨h.ok, ⟨{ t with told := 0 }, hconf, ?_⟩, h.tl⟩
      unfold rfS
      rw [if_pos rfl, if_pos h1]
      have e1 : ({ t with told := 0 } : Tr).clm = t.clm := Tr.clm_qs rfl
      have e2 : ({ t with told := 0 } : Tr).pm = m := by
        unfold Tr.pm
        rw [e1]
        simp only [hp]
        exact hm
      rw [e2]
      unfold Tr.refuseT
      rw [if_neg (by simp [h1]), e1]
      simp only [hp]
      rw [if_neg (by simp [hm])]
  · have e : (t.refuseT m).1 = t := by
      unfold Tr.refuseT
      rw [if_pos h1]
    rw [e]; exact h
theorem Tr.Rep.step {t : Tr} {n : Nat} (h : t.Rep) (hb : t.Bnd n) (o : Op3) : (o.step t).Rep := by
  unfold Op3.step
  split
  · exact h.answer hb _
  split
  · exact h.queries hb
  split
  · exact h.agree hb _
  split
  · exact h.refuse hb _
  · exact h
/-! ### the round trip -/
end Go.Proofs.YtiplgpefapeapaaGreat

namespace Go.Proofs.YtiplgpefapeapaaGreat
open Go.RowKit

theorem rU_stay {s : RS} (h : s.2 ≠ 0) : (rU s).2 = s := by obtain ⟨l, e⟩ := s; unfold rU; rw [if_neg h]
theorem rI_stay {s : RS} (h : s.2 ≠ 0) : (rI s).2 = s := rU_stay h
theorem rX_stay {s : RS} (h : s.2 ≠ 0) : (rX s).2 = s := by
  have h1 := rI_stay h
  have h2 := rU_stay h
  unfold rX
  rw [h1, h2, h1]
theorem rXs_stay : ∀ (n : Nat) {s : RS} (L : List T3), s.2 ≠ 0 → (rXs n s L).2 = s
  | 0, _, _, _ => rfl
  | n + 1, s, L, h => by
    rw [rXs_succ, rX_stay h]
    exact rXs_stay n _ h
/-- Where no error comes, the two ways of reading agree. -/
theorem rXc_eq : ∀ (n : Nat) (s : RS) (L : List T3), (rXs n s L).2.2 = 0 → rXc n s L = rXs n s L
  | 0, _, _, _ => rfl
  | n + 1, s, L, h => by
    by_cases hs : s.2 = 0
    · rw [rXs_succ] at h ⊢
      unfold rXc
      rw [if_pos hs]
      exact rXc_eq n _ _ h
    · rw [rXs_stay (n + 1) L hs] at h
      exact absurd h hs
theorem rNs_enc (X : List T3) (l : List UInt8) (h : ∀ x ∈ X, T3.Fit x) (hl : X.length ≤ 1024) : rNs (encNs X ++ l, 0) = (X, (l, 0)) := by
  have e1 : encNs X ++ l = encU X.length ++ (encXs X ++ l) := by simp [encNs]
  have hp := encXs_pos X
  have q1 := rCS_enc 1024 X.length (encXs X ++ l) (by omega) hl (by simp; omega)
  have q2 := rXs_enc X l [] (fun x hx => (h x hx).ins)
  unfold rNs
  rw [e1, q1]
  simp only
  rw [rXc_eq _ _ _ (by rw [q2]), q2]
  simp
theorem rAs_enc (a : Ans) (l : List UInt8) (ha : a.Fit) (hl : a.ins.length ≤ 1024) : rAs (encA a ++ l, 0) = (a, (l, 0)) := by
  obtain ⟨q1, q2⟩ := rA_enc 1024 a l (ha.ok (by omega)) hl (by omega)
  generalize (encA a ++ l, (0 : Int)) = s at *
  have e1 : rXc (rCS 1024 (f7 s)).1 (rCS 1024 (f7 s)).2 [] = rAx 1024 s := by
    have h : rAx 1024 s = rXs (rCS 1024 (f7 s)).1 (rCS 1024 (f7 s)).2 [] := rfl
    rw [h, rXc_eq _ _ _ (by rw [← h, q2])]
  unfold rAs
  rw [e1, q2]
  refine Prod.ext ?_ rfl
  exact q1
theorem rYc_enc : ∀ (Y : List Ans) (l : List UInt8) (L : List Ans), (∀ a ∈ Y, a.Fit ∧ a.ins.length ≤ 1024) → rYc Y.length (encH Y ++ l, 0) L = (L ++ Y, (l, 0))
  | [], l, L, _ => by simp [rYc, encH]
  | a :: Y, l, L, h => by
    have e1 : encH (a :: Y) ++ l = encA a ++ (encH Y ++ l) := by simp [encH]
    obtain ⟨h1, h2⟩ := h a (by simp)
    rw [e1, List.length_cons]
    unfold rYc
    rw [if_pos rfl, rAs_enc a _ h1 h2]
    simp only
    rw [rYc_enc Y l (L ++ [a]) (fun y hy => h y (by simp [hy]))]
    simp
theorem rPs_enc (p : PCl) (l : List UInt8) (h : p.Fit) (hl : p.st.length ≤ 1024 ∧ p.sc.length ≤ 1024 ∧ p.ch.length ≤ 1024) : rPs (encP p ++ l, 0) = (p, (l, 0)) := by
  have e1 : encP p ++ l = encI p.m ++ (encI p.ep ++ (encNs p.st ++ (encNs p.sc ++ (encNs p.ch ++ l)))) := by simp [encP]
  unfold rPs
  rw [e1, rI_enc _ _ h.m]
  simp only
  rw [rI_enc _ _ h.ep]
  simp only
  rw [rNs_enc _ _ h.st hl.1]
  simp only
  rw [rNs_enc _ _ h.sc hl.2.1]
  simp only
  rw [rNs_enc _ _ h.ch hl.2.2]
theorem rPc_enc : ∀ (P : List PCl) (l : List UInt8) (L : List PCl), (∀ p ∈ P, p.Fit ∧ p.st.length ≤ 1024 ∧ p.sc.length ≤ 1024 ∧ p.ch.length ≤ 1024) → rPc P.length (encPs P ++ l, 0) L = (L ++ P, (l, 0))
  | [], l, L, _ => by simp [rPc, encPs]
  | p :: P, l, L, h => by
    have e1 : encPs (p :: P) ++ l = encP p ++ (encPs P ++ l) := by simp [encPs]
    obtain ⟨h1, h2⟩ := h p (by simp)
    rw [e1, List.length_cons]
    unfold rPc
    rw [if_pos rfl, rPs_enc p _ h1 h2]
    simp only
    rw [rPc_enc P l (L ++ [p]) (fun y hy => h y (by simp [hy]))]
    simp
theorem encPs_pos : ∀ P : List PCl, P.length ≤ (encPs P).length
  | [] => by simp
  | p :: P => by
    have := encPs_pos P
    have h1 := encU_pos (zig p.m)
    have e1 : encPs (p :: P) = encP p ++ encPs P := by simp [encPs]
    rw [e1]
    simp only [encP, encI, List.length_append, List.length_cons]
    omega
theorem dCt_enc {c : Ct} (h : c.F24) (hf : c.Fit) : dCt (encCt c) = c ∧ (dP (encCt c)).2 = ([], 0) := by
  have e1 : encCt c = encI c.im ++ (encI c.is ++ (encX c.st ++ (encU c.an.length ++ (encH c.an ++ (encU c.cl.length ++ encPs c.cl))))) := by simp [encCt]
  have q1 := rI_enc c.im (encI c.is ++ (encX c.st ++ (encU c.an.length ++ (encH c.an ++ (encU c.cl.length ++ encPs c.cl))))) hf.im
  have q2 := rI_enc c.is (encX c.st ++ (encU c.an.length ++ (encH c.an ++ (encU c.cl.length ++ encPs c.cl)))) hf.is
  have q3 := rX_enc c.st (encU c.an.length ++ (encH c.an ++ (encU c.cl.length ++ encPs c.cl))) hf.st.ins
  have hp := encH_pos c.an
  have hp2 := encPs_pos c.cl
  have g1 := h.an
  have g2 := h.cl
  have q4 := rCS_enc 1024 c.an.length (encH c.an ++ (encU c.cl.length ++ encPs c.cl)) (by omega) g1 (by simp; omega)
  have q5 := rYc_enc c.an (encU c.cl.length ++ encPs c.cl) [] (fun a ha => ⟨hf.an a ha, h.ins a ha⟩)
  have q6 := rCS_enc 1024 c.cl.length (encPs c.cl) (by omega) g2 (by omega)
  have q7 := rPc_enc c.cl [] [] (fun p hp => ⟨hf.cl p hp, h.ns p hp⟩)
  rw [List.append_nil] at q7
  rw [← e1] at q1
  have hY : dY (encCt c) = (c.an, (encU c.cl.length ++ encPs c.cl, 0)) := by
    unfold dY
    rw [q1]
    simp only
    rw [q2]
    simp only
    rw [q3]
    simp only
    rw [q4]
    simp only
    rw [q5]
    simp
  have hP : dP (encCt c) = (c.cl, ([], 0)) := by
    unfold dP
    rw [hY]
    simp only
    rw [q6]
    simp only
    rw [q7]
    simp
  refine ⟨?_, by rw [hP]⟩
  unfold dCt
  rw [hY, hP, q1]
  simp only
  rw [q2]
  simp only
  rw [q3]
theorem decS_enc {c : Ct} (h : c.F24) (hf : c.Fit) : decS (encCt c) = some c := by
  obtain ⟨h1, h2⟩ := dCt_enc h hf
  unfold decS
  rw [h2, h1, if_pos ⟨rfl, by decide, rfl⟩]
theorem Ct.Few.f24 {c : Ct} (h : c.Few) : c.F24 := ⟨by have := h.an; omega, by have := h.cl; omega, fun a ha => by have := h.ins a ha; omega, fun p hp => by have := h.ns p hp; omega⟩
theorem sum_le_mul {α : Type} (g : α → Nat) (K : Nat) : ∀ l : List α, (∀ x ∈ l, g x ≤ K) → (l.map g).sum ≤ l.length * K
  | [], _ => by simp
  | x :: r, h => by
    have h1 := h x (by simp)
    have h2 := sum_le_mul g K r (fun y hy => h y (by simp [hy]))
    simp only [List.map_cons, List.sum_cons, List.length_cons, Nat.add_mul, Nat.one_mul]
    omega
theorem Ct.F24.wt {c : Ct} (h : c.F24) : c.wt ≤ 200000000000 := by
  have h1 := sum_le_mul wA 31000 c.an (fun a ha => by have := h.ins a ha; unfold wA; omega)
  have h2 := sum_le_mul wP 93000 c.cl (fun p hp => by have := h.ns p hp; unfold wP; omega)
  have g1 := h.an
  have g2 := h.cl
  have g3 : c.an.length * 31000 ≤ 1024 * 31000 := Nat.mul_le_mul_right _ g1
  have g4 : c.cl.length * 93000 ≤ 1024 * 93000 := Nat.mul_le_mul_right _ g2
  unfold Ct.wt
  omega
theorem encCt_len {c : Ct} (h : c.F24) (hf : c.Fit) : (encCt c).length ≤ 200000000 := by
  have h1 := encI_len hf.im
  have h2 := encI_len hf.is
  have h3 := encX_len hf.st.ins
  have g1 := h.an
  have g2 := h.cl
  have h4 := encU_len (n := c.an.length) (by omega)
  have h5 := encU_len (n := c.cl.length) (by omega)
  have h6 : (encH c.an).length ≤ c.an.length * 28000 := by
    have : ∀ Y : List Ans, (∀ a ∈ Y, a.Fit ∧ a.ins.length ≤ 1024) → (encH Y).length ≤ Y.length * 28000 := by
      intro Y
      induction Y with
      | nil => intro _; simp [encH]
      | cons a Y ih =>
        intro hy
        obtain ⟨q1, q2⟩ := hy a (by simp)
        have e1 : encH (a :: Y) = encA a ++ encH Y := by simp [encH]
        have q3 := encA0_len (q1.ok (by omega))
        have q4 := encXs_len (q1.ok (by omega)).fitI
        have q5 := ih (fun b hb => hy b (by simp [hb]))
        rw [e1]
        simp only [encA, List.length_append, List.length_cons, Nat.add_mul, Nat.one_mul]
        omega
    exact this c.an (fun a ha => ⟨hf.an a ha, h.ins a ha⟩)
  have h7 : (encPs c.cl).length ≤ c.cl.length * 84000 := by
    have : ∀ P : List PCl, (∀ p ∈ P, p.Fit ∧ p.st.length ≤ 1024 ∧ p.sc.length ≤ 1024 ∧ p.ch.length ≤ 1024) → (encPs P).length ≤ P.length * 84000 := by
      intro P
      induction P with
      | nil => intro _; simp [encPs]
      | cons p P ih =>
        intro hy
        obtain ⟨q1, q2, q3, q4⟩ := hy p (by simp)
        have e1 : encPs (p :: P) = encP p ++ encPs P := by simp [encPs]
        have r1 := encI_len q1.m
        have r2 := encI_len q1.ep
        have r3 := encNs_len q1.st (by omega)
        have r4 := encNs_len q1.sc (by omega)
        have r5 := encNs_len q1.ch (by omega)
        have q5 := ih (fun b hb => hy b (by simp [hb]))
        rw [e1]
        simp only [encP, List.length_append, List.length_cons, Nat.add_mul, Nat.one_mul]
        omega
    exact this c.cl (fun p hp => ⟨hf.cl p hp, h.ns p hp⟩)
  have g3 : c.an.length * 28000 ≤ 1024 * 28000 := Nat.mul_le_mul_right _ g1
  have g4 : c.cl.length * 84000 ≤ 1024 * 84000 := Nat.mul_le_mul_right _ g2
  unfold encCt
  simp only [List.length_append]
  omega
end Go.Proofs.YtiplgpefapeapaaGreat
