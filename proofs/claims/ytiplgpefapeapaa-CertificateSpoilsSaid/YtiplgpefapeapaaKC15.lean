/- Texts that the laws lean on, in the order in which they build. The specification reads an answer. (Printed by mkcvc.py.) The specification's Decode of a certificate. (Printed by mkcvd.py.) The bounds of Decode for short inputs (plain). -/
import Derived.Test.YtiplgpefapeapaaKC14
set_option linter.unusedVariables false
set_option linter.unusedSimpArgs false
namespace Go.Proofs.Ytiplgpefapeapaa
open Go.RowKit

def rAs (s : RS) : Ans × RS := ({ rA0 s with ins := (rXc (rCS 1024 (f7 s)).1 (rCS 1024 (f7 s)).2 []).1 }, (rXc (rCS 1024 (f7 s)).1 (rCS 1024 (f7 s)).2 []).2)
theorem tA_r : (tA : Nat) ≠ tRr := by decide
theorem tA_b : (tA : Nat) ≠ tB := by decide
theorem tI_r : (tI : Nat) ≠ tRr := by decide
theorem tI_b : (tI : Nat) ≠ tB := by decide
theorem loadA8 (w : World) (g : Nat) (t : TypeId) (x0 x1 x2 x3 x4 x5 x6 x7 : Value) (f : Nat × Nat) (hg : w.heap[g]? = some (.cells #[x0, x1, x2, x3, x4, x5, x6, x7] t f)) : (loadVar tA ⟨g, 0, none⟩).run Try.prog w = .ok (.agg #[x0, x1, x2, x3, x4, x5, x6, x7]) w :=
  run_loadVar_row w g t tA #[x0, x1, x2, x3, x4, x5, x6, x7] f _ hg Try.underlying41 rfl sizeA8
theorem results_a8 {fn : Func} {p : Tmp} (h : fn.results = #[.cell p tA]) (tmps : Array Value) (w : World) (g : Nat) (t : TypeId) (x0 x1 x2 x3 x4 x5 x6 x7 : Value) (f : Nat × Nat) (hp : tmps.getD p undef = .pointer (some ⟨g, 0, none⟩))
    (hg : w.heap[g]? = some (.cells #[x0, x1, x2, x3, x4, x5, x6, x7] t f)) : (results fn tmps).run Try.prog w = .ok (.agg #[x0, x1, x2, x3, x4, x5, x6, x7]) w := by
  have hp' : tmps[p]?.getD undef = .pointer (some ⟨g, 0, none⟩) := by simpa using hp
  simp [results, h, hp', asAddr, loadA8 w g t x0 x1 x2 x3 x4 x5 x6 x7 f hg]
/-- An answer handed back: its inset in a block of the call's own. -/
def AnsP (w : World) (br : Nat) (s : RS) (e : Ending) (w' : World) : Prop := ∃ y : AnV, e = .returned (.agg #[.int .i64 y.m, .int .i64 y.ow, .int .u64 y.n, .int .i64 y.ep, .bool y.kn, .bool y.rt, .int .i64 y.lu, y.v]) ∧ InR w' y (rAs s).1 ∧ shT.O w' w.heap.size tI y.v (rAs s).1.ins ∧ RrS w' br (rAs s).2 ∧ Keeps [br] w w'
set_option maxRecDepth 100000 in
set_option maxHeartbeats 16000000 in
theorem getAnswer_c (w : World) (br : Nat) (s : RS) (h : RrS w br s) :
    Calls Try.prog 29 #[.pointer (some ⟨br, 0, none⟩)] w (AnsP w br s) := by
  have hkZ := (Keeps.refl [] w).alloc (.cells #[.int .i64 0, .int .i64 0, .int .u64 0, .int .i64 0, .bool false, .bool false, .int .i64 0, .slice none 0 0] tA)
  have hZ0 := heap_alloc_new w (.cells #[.int .i64 0, .int .i64 0, .int .u64 0, .int .i64 0, .bool false, .bool false, .int .i64 0, .slice none 0 0] tA)
  have hbw := h.lt
  have h1 := h.keeps hkZ
  have hRb0 : w.heap.size ≠ br := by omega
  obtain ⟨p1, hp1⟩ : ∃ p, rI s = p := ⟨_, rfl⟩
  obtain ⟨y0, s1⟩ := p1
  obtain ⟨p2, hp2⟩ : ∃ p, rI s1 = p := ⟨_, rfl⟩
  obtain ⟨y1, s2⟩ := p2
  obtain ⟨p3, hp3⟩ : ∃ p, rU s2 = p := ⟨_, rfl⟩
  obtain ⟨y2, s3⟩ := p3
  obtain ⟨p4, hp4⟩ : ∃ p, rI s3 = p := ⟨_, rfl⟩
  obtain ⟨y3, s4⟩ := p4
  obtain ⟨p5, hp5⟩ : ∃ p, rB s4 = p := ⟨_, rfl⟩
  obtain ⟨y4, s5⟩ := p5
  obtain ⟨p6, hp6⟩ : ∃ p, rB s5 = p := ⟨_, rfl⟩
  obtain ⟨y5, s6⟩ := p6
  obtain ⟨p7, hp7⟩ : ∃ p, rI s6 = p := ⟨_, rfl⟩
  obtain ⟨y6, s7⟩ := p7
  obtain ⟨p8, hp8⟩ : ∃ p, rCS 1024 s7 = p := ⟨_, rfl⟩
  obtain ⟨M, s8⟩ := p8
  obtain ⟨r, hr⟩ : ∃ r, rXc M s8 [] = r := ⟨_, rfl⟩
  have g1 : f1 s = s1 := by unfold f1; rw [hp1]
  have g2 : f2 s = s2 := by unfold f2; rw [g1, hp2]
  have g3 : f3 s = s3 := by unfold f3; rw [g2, hp3]
  have g4 : f4 s = s4 := by unfold f4; rw [g3, hp4]
  have g5 : f5 s = s5 := by unfold f5; rw [g4, hp5]
  have g6 : f6 s = s6 := by unfold f6; rw [g5, hp6]
  have g7 : f7 s = s7 := by unfold f7; rw [g6, hp7]
  have hres : rAs s = (⟨y0, y1, y2, y3, y4, y5, y6, r.1⟩, r.2) := by unfold rAs rA0; rw [g1, g2, g3, g4, g5, g6, g7, hp8, hr, hp1, hp2, hp3, hp4, hp5, hp6, hp7]
  have hM : M ≤ 1024 := by have := rCS_le 1024 s7; rw [hp8] at this; exact this
  have hc1 := fun W h => intRS_c W br s h
  have hc2 := fun W h => intRS_c W br s1 h
  have hc3 := fun W h => uintRS_c W br s2 h
  have hc4 := fun W h => intRS_c W br s3 h
  have hc5 := fun W h => boolRS_c W br s4 h
  have hc6 := fun W h => boolRS_c W br s5 h
  have hc7 := fun W h => intRS_c W br s6 h
  have hc8 := fun W h => countRX_c W br s7 h
  rw [hp1] at hc1
  rw [hp2] at hc2
  rw [hp3] at hc3
  rw [hp4] at hc4
  rw [hp5] at hc5
  rw [hp6] at hc6
  rw [hp7] at hc7
  rw [hp8] at hc8
  unfold AnsP
  rw [hres]
  simp only at hc1 hc2 hc3 hc4 hc5 hc6 hc7 hc8 ⊢
  replace hc1 := Lib.hid hc1
  replace hc2 := Lib.hid hc2
  replace hc3 := Lib.hid hc3
  replace hc4 := Lib.hid hc4
  replace hc5 := Lib.hid hc5
  replace hc6 := Lib.hid hc6
  replace hc7 := Lib.hid hc7
  replace hc8 := Lib.hid hc8
  replace hr := Lib.hid hr
  have hkp := Lib.hid (hkZ.of_nil (T := [br]))
  clear hp1 hp2 hp3 hp4 hp5 hp6 hp7 hp8 g1 g2 g3 g4 g5 g6 g7 hres h hkZ
  go_enter Try.func29, Try.ntmps29
  go_upto_region 1 with fail
  generalize (w.alloc (.cells #[.int .i64 0, .int .i64 0, .int .u64 0, .int .i64 0, .bool false, .bool false, .int .i64 0, .slice none 0 0] tA)) = W at *
  obtain ⟨Z, hRe⟩ : ∃ B, w.heap.size = B := ⟨_, rfl⟩
  rw [hRe] at hZ0 hRb0 ⊢
  have hbR : br < Z := by omega
  have hR := Lib.hid h1
  have hZ := Lib.hid hZ0
  have hZb := Lib.hid hRb0
  replace hRe := Lib.hid hRe
  clear h1 hZ0 hRb0 hbw
  go_wp2_with fail
  refine (hc1.out _ hR.out).mono ?_
  rintro e w1 ⟨rfl, hR1, hk1⟩
  have hZ1 := (hk1.block Z (lt_of_blk hZ.out) (by simpa using hZb.out)).trans hZ.out
  have hZX0 : Z ≠ w1.heap.size := Nat.ne_of_lt (lt_of_blk hZ1)
  have hkA1 := (Keeps.refl [] w1).alloc (.cells #[.int .i64 y0, .int .i64 0, .int .u64 0, .int .i64 0, .bool false, .bool false, .int .i64 0, .slice none 0 0] tA)
  have hX1 := heap_alloc_new w1 (.cells #[.int .i64 y0, .int .i64 0, .int .u64 0, .int .i64 0, .bool false, .bool false, .int .i64 0, .slice none 0 0] tA)
  have hR2 := hR1.keeps hkA1
  have hXb1 := hR2.ne hX1 tA_r
  have hZ2 := (hkA1.block Z (lt_of_blk hZ1) (by simp)).trans hZ1
  have hkX1 := (hkp.out.trans hk1).trans hkA1.of_nil
  have hwX1 : w.heap.size ≤ w1.heap.size := (hkp.out.trans hk1).size
  clear hR hZ
  go_upto_region 2 with fail
  generalize (w1.alloc (.cells #[.int .i64 y0, .int .i64 0, .int .u64 0, .int .i64 0, .bool false, .bool false, .int .i64 0, .slice none 0 0] tA)) = W1 at *
  obtain ⟨X, hXe⟩ : ∃ X, w1.heap.size = X := ⟨_, rfl⟩
  rw [hXe] at hX1 hXb1 hwX1 hZX0 ⊢
  replace hXe := Lib.hid hXe
  have hX := Lib.hid hX1
  have hXb := Lib.hid hXb1
  have hwX := Lib.hid hwX1
  have hkX := Lib.hid hkX1
  have hR := Lib.hid hR2
  have hZ := Lib.hid hZ2
  replace hZX0 := Lib.hid hZX0
  have hZX := hZX0
  clear hZ1 hZ2 hZX0
  clear hX1 hXb1 hwX1 hkX1 hR1 hR2 hk1 hkA1
  obtain ⟨c0, c1, c2, c3, c4, c5, c6, c7, cf, cl⟩ := cl8 hX.out
  go_wp2_with fail
  refine (hc2.out _ hR.out).mono ?_
  rintro e v2 ⟨rfl, hR2, hk2⟩
  clear c0 c1 c2 c3 c4 c5 c6 c7 cf cl
  have hX2 := (hk2.block X (lt_of_blk hX.out) (by simpa using hXb.out)).trans hX.out
  have hZ2 := (hk2.block Z (lt_of_blk hZ.out) (by simpa using hZb.out)).trans hZ.out
  have hs2 : Keeps [X] v2 (v2.setCell ⟨X, 1, none⟩ (.int .i64 y1)) := (Keeps.refl _ _).setCell (.inr (by simp)) _
  have hY2 : (v2.setCell ⟨X, 1, none⟩ (.int .i64 y1)).heap[X]? = some (.cells #[.int .i64 y0, .int .i64 y1, .int .u64 0, .int .i64 0, .bool false, .bool false, .int .i64 0, .slice none 0 0] tA (0, 0)) := by simp [World.setCell, Array.getElem?_modify, hX2]
  have hR2b := hR2.other hs2 hX2 tA_r tA_b
  have hZ2b := (hs2.block Z (lt_of_blk hZ2) (by simpa using hZX.out)).trans hZ2
  have hkn := Lib.hid ((hkX.out.trans hk2).fresh hs2 (fun b hb => by simp only [List.mem_singleton] at hb; subst hb; exact .inr hwX.out))
  obtain ⟨c0, c1, c2, c3, c4, c5, c6, c7, cf, cl⟩ := cl8 hX2
  clear hX hR hkX hZ
  have hX := Lib.hid hY2
  have hZ := Lib.hid hZ2b
  have hR := Lib.hid hR2b
  have hkX := hkn
  clear hX2 hs2 hY2 hR2b hkn hR2 hk2 hZ2 hZ2b
  go_upto_region 3 with fail
  generalize (v2.setCell ⟨X, 1, none⟩ (.int .i64 y1)) = W2 at *
  clear c0 c1 c2 c3 c4 c5 c6 c7 cf cl
  obtain ⟨c0, c1, c2, c3, c4, c5, c6, c7, cf, cl⟩ := cl8 hX.out
  go_wp2_with fail
  refine (hc3.out _ hR.out).mono ?_
  rintro e v3 ⟨rfl, hR3, hk3⟩
  clear c0 c1 c2 c3 c4 c5 c6 c7 cf cl
  have hX3 := (hk3.block X (lt_of_blk hX.out) (by simpa using hXb.out)).trans hX.out
  have hZ3 := (hk3.block Z (lt_of_blk hZ.out) (by simpa using hZb.out)).trans hZ.out
  have hs3 : Keeps [X] v3 (v3.setCell ⟨X, 2, none⟩ (.int .u64 y2)) := (Keeps.refl _ _).setCell (.inr (by simp)) _
  have hY3 : (v3.setCell ⟨X, 2, none⟩ (.int .u64 y2)).heap[X]? = some (.cells #[.int .i64 y0, .int .i64 y1, .int .u64 y2, .int .i64 0, .bool false, .bool false, .int .i64 0, .slice none 0 0] tA (0, 0)) := by simp [World.setCell, Array.getElem?_modify, hX3]
  have hR3b := hR3.other hs3 hX3 tA_r tA_b
  have hZ3b := (hs3.block Z (lt_of_blk hZ3) (by simpa using hZX.out)).trans hZ3
  have hkn := Lib.hid ((hkX.out.trans hk3).fresh hs3 (fun b hb => by simp only [List.mem_singleton] at hb; subst hb; exact .inr hwX.out))
  obtain ⟨c0, c1, c2, c3, c4, c5, c6, c7, cf, cl⟩ := cl8 hX3
  clear hX hR hkX hZ
  have hX := Lib.hid hY3
  have hZ := Lib.hid hZ3b
  have hR := Lib.hid hR3b
  have hkX := hkn
  clear hX3 hs3 hY3 hR3b hkn hR3 hk3 hZ3 hZ3b
  go_upto_region 4 with fail
  generalize (v3.setCell ⟨X, 2, none⟩ (.int .u64 y2)) = W3 at *
  clear c0 c1 c2 c3 c4 c5 c6 c7 cf cl
  obtain ⟨c0, c1, c2, c3, c4, c5, c6, c7, cf, cl⟩ := cl8 hX.out
  go_wp2_with fail
  refine (hc4.out _ hR.out).mono ?_
  rintro e v4 ⟨rfl, hR4, hk4⟩
  clear c0 c1 c2 c3 c4 c5 c6 c7 cf cl
  have hX4 := (hk4.block X (lt_of_blk hX.out) (by simpa using hXb.out)).trans hX.out
  have hZ4 := (hk4.block Z (lt_of_blk hZ.out) (by simpa using hZb.out)).trans hZ.out
  have hs4 : Keeps [X] v4 (v4.setCell ⟨X, 3, none⟩ (.int .i64 y3)) := (Keeps.refl _ _).setCell (.inr (by simp)) _
  have hY4 : (v4.setCell ⟨X, 3, none⟩ (.int .i64 y3)).heap[X]? = some (.cells #[.int .i64 y0, .int .i64 y1, .int .u64 y2, .int .i64 y3, .bool false, .bool false, .int .i64 0, .slice none 0 0] tA (0, 0)) := by simp [World.setCell, Array.getElem?_modify, hX4]
  have hR4b := hR4.other hs4 hX4 tA_r tA_b
  have hZ4b := (hs4.block Z (lt_of_blk hZ4) (by simpa using hZX.out)).trans hZ4
  have hkn := Lib.hid ((hkX.out.trans hk4).fresh hs4 (fun b hb => by simp only [List.mem_singleton] at hb; subst hb; exact .inr hwX.out))
  obtain ⟨c0, c1, c2, c3, c4, c5, c6, c7, cf, cl⟩ := cl8 hX4
  clear hX hR hkX hZ
  have hX := Lib.hid hY4
  have hZ := Lib.hid hZ4b
  have hR := Lib.hid hR4b
  have hkX := hkn
  clear hX4 hs4 hY4 hR4b hkn hR4 hk4 hZ4 hZ4b
  go_upto_region 5 with fail
  generalize (v4.setCell ⟨X, 3, none⟩ (.int .i64 y3)) = W4 at *
  clear c0 c1 c2 c3 c4 c5 c6 c7 cf cl
  obtain ⟨c0, c1, c2, c3, c4, c5, c6, c7, cf, cl⟩ := cl8 hX.out
  go_wp2_with fail
  refine (hc5.out _ hR.out).mono ?_
  rintro e v5 ⟨rfl, hR5, hk5⟩
  clear c0 c1 c2 c3 c4 c5 c6 c7 cf cl
  have hX5 := (hk5.block X (lt_of_blk hX.out) (by simpa using hXb.out)).trans hX.out
  have hZ5 := (hk5.block Z (lt_of_blk hZ.out) (by simpa using hZb.out)).trans hZ.out
  have hs5 : Keeps [X] v5 (v5.setCell ⟨X, 4, none⟩ (.bool y4)) := (Keeps.refl _ _).setCell (.inr (by simp)) _
  have hY5 : (v5.setCell ⟨X, 4, none⟩ (.bool y4)).heap[X]? = some (.cells #[.int .i64 y0, .int .i64 y1, .int .u64 y2, .int .i64 y3, .bool y4, .bool false, .int .i64 0, .slice none 0 0] tA (0, 0)) := by simp [World.setCell, Array.getElem?_modify, hX5]
  have hR5b := hR5.other hs5 hX5 tA_r tA_b
  have hZ5b := (hs5.block Z (lt_of_blk hZ5) (by simpa using hZX.out)).trans hZ5
  have hkn := Lib.hid ((hkX.out.trans hk5).fresh hs5 (fun b hb => by simp only [List.mem_singleton] at hb; subst hb; exact .inr hwX.out))
  obtain ⟨c0, c1, c2, c3, c4, c5, c6, c7, cf, cl⟩ := cl8 hX5
  clear hX hR hkX hZ
  have hX := Lib.hid hY5
  have hZ := Lib.hid hZ5b
  have hR := Lib.hid hR5b
  have hkX := hkn
  clear hX5 hs5 hY5 hR5b hkn hR5 hk5 hZ5 hZ5b
  go_upto_region 6 with fail
  generalize (v5.setCell ⟨X, 4, none⟩ (.bool y4)) = W5 at *
  clear c0 c1 c2 c3 c4 c5 c6 c7 cf cl
  obtain ⟨c0, c1, c2, c3, c4, c5, c6, c7, cf, cl⟩ := cl8 hX.out
  go_wp2_with fail
  refine (hc6.out _ hR.out).mono ?_
  rintro e v6 ⟨rfl, hR6, hk6⟩
  clear c0 c1 c2 c3 c4 c5 c6 c7 cf cl
  have hX6 := (hk6.block X (lt_of_blk hX.out) (by simpa using hXb.out)).trans hX.out
  have hZ6 := (hk6.block Z (lt_of_blk hZ.out) (by simpa using hZb.out)).trans hZ.out
  have hs6 : Keeps [X] v6 (v6.setCell ⟨X, 5, none⟩ (.bool y5)) := (Keeps.refl _ _).setCell (.inr (by simp)) _
  have hY6 : (v6.setCell ⟨X, 5, none⟩ (.bool y5)).heap[X]? = some (.cells #[.int .i64 y0, .int .i64 y1, .int .u64 y2, .int .i64 y3, .bool y4, .bool y5, .int .i64 0, .slice none 0 0] tA (0, 0)) := by simp [World.setCell, Array.getElem?_modify, hX6]
  have hR6b := hR6.other hs6 hX6 tA_r tA_b
  have hZ6b := (hs6.block Z (lt_of_blk hZ6) (by simpa using hZX.out)).trans hZ6
  have hkn := Lib.hid ((hkX.out.trans hk6).fresh hs6 (fun b hb => by simp only [List.mem_singleton] at hb; subst hb; exact .inr hwX.out))
  obtain ⟨c0, c1, c2, c3, c4, c5, c6, c7, cf, cl⟩ := cl8 hX6
  clear hX hR hkX hZ
  have hX := Lib.hid hY6
  have hZ := Lib.hid hZ6b
  have hR := Lib.hid hR6b
  have hkX := hkn
  clear hX6 hs6 hY6 hR6b hkn hR6 hk6 hZ6 hZ6b
  go_upto_region 7 with fail
  generalize (v6.setCell ⟨X, 5, none⟩ (.bool y5)) = W6 at *
  clear c0 c1 c2 c3 c4 c5 c6 c7 cf cl
  obtain ⟨c0, c1, c2, c3, c4, c5, c6, c7, cf, cl⟩ := cl8 hX.out
  go_wp2_with fail
  refine (hc7.out _ hR.out).mono ?_
  rintro e v7 ⟨rfl, hR7, hk7⟩
  clear c0 c1 c2 c3 c4 c5 c6 c7 cf cl
  have hX7 := (hk7.block X (lt_of_blk hX.out) (by simpa using hXb.out)).trans hX.out
  have hZ7 := (hk7.block Z (lt_of_blk hZ.out) (by simpa using hZb.out)).trans hZ.out
  have hs7 : Keeps [X] v7 (v7.setCell ⟨X, 6, none⟩ (.int .i64 y6)) := (Keeps.refl _ _).setCell (.inr (by simp)) _
  have hY7 : (v7.setCell ⟨X, 6, none⟩ (.int .i64 y6)).heap[X]? = some (.cells #[.int .i64 y0, .int .i64 y1, .int .u64 y2, .int .i64 y3, .bool y4, .bool y5, .int .i64 y6, .slice none 0 0] tA (0, 0)) := by simp [World.setCell, Array.getElem?_modify, hX7]
  have hR7b := hR7.other hs7 hX7 tA_r tA_b
  have hZ7b := (hs7.block Z (lt_of_blk hZ7) (by simpa using hZX.out)).trans hZ7
  have hkn := Lib.hid ((hkX.out.trans hk7).fresh hs7 (fun b hb => by simp only [List.mem_singleton] at hb; subst hb; exact .inr hwX.out))
  obtain ⟨c0, c1, c2, c3, c4, c5, c6, c7, cf, cl⟩ := cl8 hX7
  clear hX hR hkX hZ
  have hX := Lib.hid hY7
  have hZ := Lib.hid hZ7b
  have hR := Lib.hid hR7b
  have hkX := hkn
  clear hX7 hs7 hY7 hR7b hkn hR7 hk7 hZ7 hZ7b
  go_upto_region 8 with fail
  generalize (v7.setCell ⟨X, 6, none⟩ (.int .i64 y6)) = W7 at *
  clear c0 c1 c2 c3 c4 c5 c6 c7 cf cl
  go_wp2_with fail
  refine (hc8.out _ hR.out).mono ?_
  rintro e w8 ⟨rfl, hR8, hk8⟩
  have hX8 := (hk8.block X (lt_of_blk hX.out) (by simpa using hXb.out)).trans hX.out
  have hZ8 := (hk8.block Z (lt_of_blk hZ.out) (by simpa using hZb.out)).trans hZ.out
  have hkX8 := hkX.out.trans hk8
  have hZX1 : Z < X := by have h1 := hwX.out; have h2 := hZX.out; have h3 := hRe.out; omega
  clear hX hZ hR hkX hc1 hc2 hc3 hc4 hc5 hc6 hc7 hc8
  have hX := Lib.hid hX8
  have hZ := Lib.hid hZ8
  have hR := Lib.hid hR8
  have hkX := Lib.hid hkX8
  have hO0 : Hid (shT.O w8 (X + 1) tI (.slice none 0 0) []) := Lib.hid (Sh.O.nil _ _ _ _)
  clear hX8 hZ8 hR8 hkX8 hk8
  replace hZX1 := Lib.hid hZX1
  go_wp2
  go_loopw [5] (fun i wr => ∃ (k : Nat) (L : List T3) (sk : RS) (oa : Option Addr) (oc : Nat), i = .int .i64 k ∧ k ≤ M ∧ Hid (wr.heap[X]? = some (.cells #[.int .i64 y0, .int .i64 y1, .int .u64 y2, .int .i64 y3, .bool y4, .bool y5, .int .i64 y6, .slice oa L.length oc] tA (0, 0))) ∧ Hid (wr.heap[Z]? = some (.cells #[.int .i64 0, .int .i64 0, .int .u64 0, .int .i64 0, .bool false, .bool false, .int .i64 0, .slice none 0 0] tA (0, 0))) ∧ Hid (shT.O wr (X + 1) tI (.slice oa L.length oc) L) ∧ Hid (L.length ≤ k) ∧ Hid (rXc (M - k) sk L = r) ∧ Hid (RrS wr br sk) ∧ Hid (Keeps [br] w wr)) (fun i _ => M - (intOf i).toNat)
  case atStart => exact ⟨0, [], s8, none, 0, rfl, by omega, hX, hZ, hO0, Lib.hid (by simp), Lib.hid hr.out, hR, hkX⟩
  case round =>
    clear hX hZ hR hkX hO0
    obtain ⟨k, L, sk, oa, oc, rfl, hk, hX, hZ, hO, hLk, hrk, hR, hkw⟩ := hrel
    obtain ⟨vr, d0, d1, df0, df1, dl⟩ := hR.out.cell
    by_cases hlt2 : k < M
    · have hlt3 : (k : Int) < M := by omega
      obtain ⟨j, hj⟩ : ∃ j, M - k = j + 1 := ⟨M - k - 1, by omega⟩
      have hj2 : M - (k + 1) = j := by omega
      by_cases hs : sk.2 = 0
      · have hsb : (sk.2 == 0) = true := by simpa using hs
        have hstep : rXc (M - (k + 1)) (rX sk).2 (L ++ [(rX sk).1]) = r := by
          have := hrk.out
          rw [hj] at this
          rw [hj2]
          unfold rXc at this
          rw [if_pos hs] at this
          exact this
        obtain ⟨q1, hq1⟩ : ∃ p, rI sk = p := ⟨_, rfl⟩
        obtain ⟨n0, t1⟩ := q1
        obtain ⟨q2, hq2⟩ : ∃ p, rU t1 = p := ⟨_, rfl⟩
        obtain ⟨n1, t2⟩ := q2
        obtain ⟨q3, hq3⟩ : ∃ p, rI t2 = p := ⟨_, rfl⟩
        obtain ⟨n2, t3⟩ := q3
        have hrx : rX sk = ((n0, n1, n2), t3) := by unfold rX; rw [hq1, hq2, hq3]
        have hc1 := fun W h => intRS_c W br sk h
        have hc2 := fun W h => uintRS_c W br t1 h
        have hc3 := fun W h => intRS_c W br t2 h
        rw [hq1] at hc1
        rw [hq2] at hc2
        rw [hq3] at hc3
        rw [hrx] at hstep
        simp only at hc1 hc2 hc3 hstep
        obtain ⟨N, hN⟩ : ∃ N, L.length = N := ⟨_, rfl⟩
        rw [hN] at hLk hO hX
        have hN1 : N ≤ 1024 := by have := hLk.out; omega
        have hkp : Hid (Keeps [br] wr wr) := Lib.hid (Keeps.refl _ _)
        replace hs := Lib.hid hs
        replace hc1 := Lib.hid hc1
        replace hc2 := Lib.hid hc2
        replace hc3 := Lib.hid hc3
        replace hstep := Lib.hid hstep
        replace hN := Lib.hid hN
        replace hj := Lib.hid hj
        replace hj2 := Lib.hid hj2
        have hXlt : Hid (X < wr.heap.size) := Lib.hid (lt_of_blk hX.out)
        clear hq1 hq2 hq3 hrx
        go_upto_region 12 with fail
        go_wp2_with fail
        refine (hc1.out _ hR.out).mono ?_
        rintro e wi1 ⟨rfl, hR1, hk1⟩
        have hkA1 := (Keeps.refl [] wi1).alloc (.cells #[.int .i64 n0, .int .u64 0, .int .i64 0] tI)
        have hX1 := heap_alloc_new wi1 (.cells #[.int .i64 n0, .int .u64 0, .int .i64 0] tI)
        have hR2 := hR1.keeps hkA1
        have hXb1 := hR2.ne hX1 tI_r
        have hkX1 := (hkp.out.trans hk1).trans hkA1.of_nil
        have hwX1 : wr.heap.size ≤ wi1.heap.size := (hkp.out.trans hk1).size
        clear hR 
        go_upto_region 13 with fail
        generalize (wi1.alloc (.cells #[.int .i64 n0, .int .u64 0, .int .i64 0] tI)) = Wf0 at *
        obtain ⟨I, hIe⟩ : ∃ X, wi1.heap.size = X := ⟨_, rfl⟩
        rw [hIe] at hX1 hXb1 hwX1  ⊢
        replace hIe := Lib.hid hIe
        have hI := Lib.hid hX1
        have hIb := Lib.hid hXb1
        have hwI := Lib.hid hwX1
        have hkI := Lib.hid hkX1
        have hR := Lib.hid hR2
        clear hX1 hXb1 hwX1 hkX1 hR1 hR2 hk1 hkA1
        clear d0 d1 df0 df1 dl
        obtain ⟨c0, c1, c2, cf, cl⟩ := cl3 hI.out
        go_wp2_with fail
        refine (hc2.out _ hR.out).mono ?_
        rintro e vf1 ⟨rfl, hRf1, hkf1⟩
        clear c0 c1 c2 cf cl
        have hXf1 := (hkf1.block I (lt_of_blk hI.out) (by simpa using hIb.out)).trans hI.out
        have hsf1 : Keeps [I] vf1 (vf1.setCell ⟨I, 1, none⟩ (.int .u64 n1)) := (Keeps.refl _ _).setCell (.inr (by simp)) _
        have hYf1 : (vf1.setCell ⟨I, 1, none⟩ (.int .u64 n1)).heap[I]? = some (.cells #[.int .i64 n0, .int .u64 n1, .int .i64 0] tI (0, 0)) := by simp [World.setCell, Array.getElem?_modify, hXf1]
        have hRf1b := hRf1.other hsf1 hXf1 tI_r tI_b
        have hkn := Lib.hid ((hkI.out.trans hkf1).fresh hsf1 (fun b hb => by simp only [List.mem_singleton] at hb; subst hb; exact .inr hwI.out))
        obtain ⟨c0, c1, c2, cf, cl⟩ := cl3 hXf1
        clear hI hR hkI 
        have hI := Lib.hid hYf1
        have hR := Lib.hid hRf1b
        have hkI := hkn
        clear hXf1 hsf1 hYf1 hRf1b hkn hRf1 hkf1 
        go_upto_region 14 with fail
        generalize (vf1.setCell ⟨I, 1, none⟩ (.int .u64 n1)) = Wf1 at *
        clear c0 c1 c2 cf cl
        obtain ⟨c0, c1, c2, cf, cl⟩ := cl3 hI.out
        go_wp2_with fail
        refine (hc3.out _ hR.out).mono ?_
        rintro e vf2 ⟨rfl, hRf2, hkf2⟩
        clear c0 c1 c2 cf cl
        have hXf2 := (hkf2.block I (lt_of_blk hI.out) (by simpa using hIb.out)).trans hI.out
        have hsf2 : Keeps [I] vf2 (vf2.setCell ⟨I, 2, none⟩ (.int .i64 n2)) := (Keeps.refl _ _).setCell (.inr (by simp)) _
        have hYf2 : (vf2.setCell ⟨I, 2, none⟩ (.int .i64 n2)).heap[I]? = some (.cells #[.int .i64 n0, .int .u64 n1, .int .i64 n2] tI (0, 0)) := by simp [World.setCell, Array.getElem?_modify, hXf2]
        have hRf2b := hRf2.other hsf2 hXf2 tI_r tI_b
        have hkn := Lib.hid ((hkI.out.trans hkf2).fresh hsf2 (fun b hb => by simp only [List.mem_singleton] at hb; subst hb; exact .inr hwI.out))
        obtain ⟨c0, c1, c2, cf, cl⟩ := cl3 hXf2
        clear hI hR hkI 
        have hI := Lib.hid hYf2
        have hR := Lib.hid hRf2b
        have hkI := hkn
        clear hXf2 hsf2 hYf2 hRf2b hkn hRf2 hkf2 
        go_upto_region 15 with fail
        generalize (vf2.setCell ⟨I, 2, none⟩ (.int .i64 n2)) = Wf2 at *
        clear c0 c1 c2 cf cl
        obtain ⟨e0, e1, e2, ef, el⟩ := cl3 hI.out
        have hXI := (hkI.out.block X (lt_of_blk hX.out) (by simpa using hXb.out)).trans hX.out
        have hZI := (hkI.out.block Z (lt_of_blk hZ.out) (by simpa using hZb.out)).trans hZ.out
        have hOI := hO.out.keepS hkI.out (fun b hb e => by simp only [List.mem_singleton] at hb; subst hb; have h2 := hO.out.ge _ e; have h3 := hZX1.out; omega)
        obtain ⟨x0, x1, x2, x3, x4, x5, x6, x7, xf, xl⟩ := cl8 hXI
        have hmade := Sh.R.made shT Wf2 [(n0, n1, n2)] #[.int .i64 n0, .int .u64 n1, .int .i64 n2] tI rfl (by simp [maxLen]) 1 rfl
        have hkM := (Keeps.refl [] Wf2).alloc (.cells #[.int .i64 n0, .int .u64 n1, .int .i64 n2] tI)
        have hOM := hOI.keeps hkM
        have hRM := hR.out.keeps hkM
        have hXM := (hkM.block X (lt_of_blk hXI) (by simp)).trans hXI
        have hZM := (hkM.block Z (lt_of_blk hZI) (by simp)).trans hZI
        have hkwM := (hkw.out.trans hkI.out).trans hkM.of_nil
        have hsz : X + 1 ≤ (Wf2.alloc (.cells #[.int .i64 n0, .int .u64 n1, .int .i64 n2] tI)).heap.size := lt_of_blk hXM
        have hwz : w.heap.size ≤ X + 1 := by have h1 := hwX.out; omega
        replace hmade := Lib.hid hmade
        replace hOM := Lib.hid hOM
        replace hRM := Lib.hid hRM
        replace hXM := Lib.hid hXM
        replace hZM := Lib.hid hZM
        replace hkwM := Lib.hid hkwM
        clear hkM hOI hXI hZI hkI hkp
        go_wp2_with (first
          | (at_builtin; (refine Sh.wpl_app shT (X + 1) infoI rfl Try.underlying39 (.slice oa N oc) (.slice (some ⟨Wf2.heap.size, 0, none⟩) 1 1) L [(n0, n1, n2)] rfl _ _ rfl rfl rfl hOM.out hmade.out (by rw [hN.out]; simp only [List.length_singleton]; omega) hsz ?_; intro vz wz hOz hGz; have hRz := hRM.out.moved hGz.keepsO (fun hm => by have h2 := hOM.out.ge br (by simpa using hm); have h3 := hZX1.out; omega) (fun b hm cs e => by obtain ⟨cs', hc⟩ := hOM.out.tag b (by simpa using hm); rw [hc] at e; cases e); have hXz := (hGz.keepsO.block X (lt_of_blk hXM.out) (fun hm => by have h2 := hOM.out.ge X (by simpa using hm); omega)).trans hXM.out; have hZz := (hGz.keepsO.block Z (lt_of_blk hZM.out) (fun hm => by have h2 := hOM.out.ge Z (by simpa using hm); have h3 := hZX1.out; omega)).trans hZM.out; have hkz := hkwM.out.fresh hGz.keepsO (fun b hb => .inr (by have h2 := hOM.out.ge b (by simpa using hb); omega)); obtain ⟨za, zc, rfl⟩ := hOz.form; have hlz : (L ++ [(n0, n1, n2)]).length = N + 1 := (by simp [hN.out]); rw [hlz] at hOz ⊢; have hsz2 : Keeps [X] wz (wz.setCell ⟨X, 7, none⟩ (.slice za (N + 1) zc)) := (Keeps.refl _ _).setCell (.inr (by simp)) _; have hYz : (wz.setCell ⟨X, 7, none⟩ (.slice za (N + 1) zc)).heap[X]? = some (.cells #[.int .i64 y0, .int .i64 y1, .int .u64 y2, .int .i64 y3, .bool y4, .bool y5, .int .i64 y6, .slice za (N + 1) zc] tA (0, 0)) := (by simp [World.setCell, Array.getElem?_modify, hXz]); obtain ⟨b0, b1, b2, b3, b4, b5, b6, b7, bf, bl⟩ := cl8 hXz; have hRY := Lib.hid (hRz.other hsz2 hXz tA_r tA_b); have hZY := Lib.hid ((hsz2.block Z (lt_of_blk hZz) (by simpa using hZX.out)).trans hZz); have hOY := Lib.hid (hOz.keepS hsz2 (fun b hb e => by simp only [List.mem_singleton] at hb; subst hb; have h2 := hOz.ge _ e; omega)); have hkY := Lib.hid (hkz.fresh hsz2 (fun b hb => by simp only [List.mem_singleton] at hb; subst hb; exact .inr hwX.out)); replace hYz := Lib.hid hYz; replace hlz := Lib.hid hlz; clear hGz hRz hXz hZz hkz hOz hsz2))
          | fail)
        go_roundw
        case rel => exact ⟨k + 1, L ++ [(n0, n1, n2)], t3, za, zc, rfl, by omega, by rw [hlz.out]; exact hYz, hZY, by rw [hlz.out]; exact hOY, Lib.hid (by rw [hlz.out]; have := hLk.out; omega), hstep, hRY, hkY⟩
        case measure => simp [intOf]; omega
      · have hsb : (sk.2 == 0) = false := by simpa using hs
        have hend : r = (L, sk) := by
          have := hrk.out
          rw [hj] at this
          unfold rXc at this
          rw [if_neg hs] at this
          exact this.symm
        replace hs := Lib.hid hs
        replace hend := Lib.hid hend
        replace hj := Lib.hid hj
        replace hj2 := Lib.hid hj2
        obtain ⟨N, hN⟩ : ∃ N, L.length = N := ⟨_, rfl⟩
        rw [hN] at hO hX
        obtain ⟨x0, x1, x2, x3, x4, x5, x6, x7, xf, xl⟩ := cl8 hX.out
        obtain ⟨z0, z1, z2, z3, z4, z5, z6, z7, zf, zl⟩ := cl8 hZ.out
        replace hN := Lib.hid hN
        go_wp2
        obtain ⟨m1, m2⟩ := sc8 (.int .i64 y0) (.int .i64 y1) (.int .u64 y2) (.int .i64 y3) (.bool y4) (.bool y5) (.int .i64 y6) (.slice oa N oc) hZ.out
        have hOf := hO.out.keepS m2 (fun b hb e => by simp only [List.mem_singleton] at hb; subst hb; have h2 := hO.out.ge _ e; have h3 := hZX1.out; omega)
        have hOg := hOf.lowD (B' := w.heap.size) (by have h3 := hZX1.out; have h4 := hRe.out; omega)
        refine bodyPost_ret (results_a8 rfl _ _ _ _ _ _ _ _ _ _ _ _ _ rfl m1) rfl ?_
        refine ⟨⟨y0, y1, y2, y3, y4, y5, y6, oa, N, oc⟩, rfl, ?_, ?_, ?_, ?_⟩
        · rw [hend.out]; exact ⟨rfl, rfl, rfl, rfl, rfl, rfl, rfl, hOg.r⟩
        · rw [hend.out]; exact hOg
        · rw [hend.out]; exact hR.out.other m2 hZ.out tA_r tA_b
        · exact hkw.out.fresh m2 (fun b hb => by simp only [List.mem_singleton] at hb; subst hb; exact .inr (Nat.le_of_eq hRe.out))
    · have hlt3 : ¬ ((k : Int) < M) := by omega
      have hlt4 : decide ((k : Int) < (M : Int)) = false := by simp; omega
      have hend : r = (L, sk) := by
        have := hrk.out
        rw [show M - k = 0 by omega] at this
        exact this.symm
      replace hend := Lib.hid hend
      obtain ⟨N, hN⟩ : ∃ N, L.length = N := ⟨_, rfl⟩
      rw [hN] at hO hX
      obtain ⟨x0, x1, x2, x3, x4, x5, x6, x7, xf, xl⟩ := cl8 hX.out
      obtain ⟨z0, z1, z2, z3, z4, z5, z6, z7, zf, zl⟩ := cl8 hZ.out
      replace hN := Lib.hid hN
      go_wp2
      obtain ⟨m1, m2⟩ := sc8 (.int .i64 y0) (.int .i64 y1) (.int .u64 y2) (.int .i64 y3) (.bool y4) (.bool y5) (.int .i64 y6) (.slice oa N oc) hZ.out
      have hOf := hO.out.keepS m2 (fun b hb e => by simp only [List.mem_singleton] at hb; subst hb; have h2 := hO.out.ge _ e; have h3 := hZX1.out; omega)
      have hOg := hOf.lowD (B' := w.heap.size) (by have h3 := hZX1.out; have h4 := hRe.out; omega)
      refine bodyPost_ret (results_a8 rfl _ _ _ _ _ _ _ _ _ _ _ _ _ rfl m1) rfl ?_
      refine ⟨⟨y0, y1, y2, y3, y4, y5, y6, oa, N, oc⟩, rfl, ?_, ?_, ?_, ?_⟩
      · rw [hend.out]; exact ⟨rfl, rfl, rfl, rfl, rfl, rfl, rfl, hOg.r⟩
      · rw [hend.out]; exact hOg
      · rw [hend.out]; exact hR.out.other m2 hZ.out tA_r tA_b
      · exact hkw.out.fresh m2 (fun b hb => by simp only [List.mem_singleton] at hb; subst hb; exact .inr (Nat.le_of_eq hRe.out))
end Go.Proofs.Ytiplgpefapeapaa

namespace Go.Proofs.Ytiplgpefapeapaa
open Go.RowKit

/-! ### plain -/
def rYc : Nat → RS → List Ans → List Ans × RS
  | 0, s, L => (L, s)
  | n + 1, s, L => if s.2 = 0 then rYc n (rAs s).2 (L ++ [(rAs s).1]) else (L, s)
def rPs (s : RS) : PCl × RS :=
  (⟨(rI s).1, (rI (rI s).2).1, (rNs (rI (rI s).2).2).1, (rNs (rNs (rI (rI s).2).2).2).1, (rNs (rNs (rNs (rI (rI s).2).2).2).2).1⟩, (rNs (rNs (rNs (rI (rI s).2).2).2).2).2)
def rPc : Nat → RS → List PCl → List PCl × RS
  | 0, s, L => (L, s)
  | n + 1, s, L => if s.2 = 0 then rPc n (rPs s).2 (L ++ [(rPs s).1]) else (L, s)
def dY (l : List UInt8) : List Ans × RS := rYc (rCS 1024 (rX (rI (rI (l, 0)).2).2).2).1 (rCS 1024 (rX (rI (rI (l, 0)).2).2).2).2 []
def dP (l : List UInt8) : List PCl × RS := rPc (rCS 1024 (dY l).2).1 (rCS 1024 (dY l).2).2 []
def dCt (l : List UInt8) : Ct := ⟨(rI (l, 0)).1, (rI (rI (l, 0)).2).1, (rX (rI (rI (l, 0)).2).2).1, (dY l).1, (dP l).1⟩
/-- What the specification's Decode gives. -/
def decS (l : List UInt8) : Option Ct := if (dP l).2.2 = 0 ∧ doneE (dP l).2.1 (dP l).2.2 = 0 ∧ encCt (dCt l) = l then some (dCt l) else none
/-! ### the memory -/
theorem tCt_r : (tCt : Nat) ≠ tRr := by decide
theorem tCt_b : (tCt : Nat) ≠ tB := by decide
theorem tC_r : (tC : Nat) ≠ tRr := by decide
theorem tC_b : (tC : Nat) ≠ tB := by decide
abbrev ctC (i0 i1 : Int) (st : T3) (av cv : Option Addr × Nat × Nat) : Array Value := #[.int .i64 i0, .int .i64 i1, .int .i64 st.1, .int .u64 st.2.1, .int .i64 st.2.2, slv av, slv cv]
structure DcS (w W : World) (Z X br : Nat) (s : RS) (i0 i1 : Int) (st : T3) (av cv : Option Addr × Nat × Nat) (XA : List AnV) (Y : List Ans) (XC : List ClV) (P : List PCl) : Prop where
  x : W.heap[X]? = some (.cells #[.int .i64 i0, .int .i64 i1, .int .i64 st.1, .int .u64 st.2.1, .int .i64 st.2.2, slv av, slv cv] tCt (0, 0))
  z : W.heap[Z]? = some (.cells #[.int .i64 0, .int .i64 0, .int .i64 0, .int .u64 0, .int .i64 0, .slice none 0 0, .slice none 0 0] tCt (0, 0))
  r : RrS W br s
  a : shA.O W (X + 1) tA (slv av) XA
  la : LA W XA Y
  c : shC.O W (X + 1) tC (slv cv) XC
  rc : Rows' W XC P
  k : Keeps [] w W
  zb : Z < br
  bx : br < X
  wz : w.heap.size ≤ Z
namespace DcS
variable {w W W' : World} {Z X br : Nat} {s s' : RS} {i0 i1 : Int} {st : T3} {av cv : Option Addr × Nat × Nat} {XA : List AnV} {Y : List Ans} {XC : List ClV} {P : List PCl}
theorem ref (h : DcS w W Z X br s i0 i1 st av cv XA Y XC P) (hk : Keeps [br] W W') (hr : RrS W' br s') : DcS w W' Z X br s' i0 i1 st av cv XA Y XC P := by
  have h1 := h.zb
  have h2 := h.bx
  have h3 := h.wz
  obtain ⟨rcs, hrt⟩ := h.r.tag
  refine ⟨(hk.block X (lt_of_blk h.x) (by simp; omega)).trans h.x, (hk.block Z (lt_of_blk h.z) (by simp; omega)).trans h.z, hr, h.a.keepS hk (fun b hb e => ?_), h.la.ki (hk.ki (fun b hb cs f e => ?_)), h.c.keepS hk (fun b hb e => ?_), h.rc.keepS hk (fun b hb cs f e => ?_), h.k.fresh hk (fun b hb => .inr (by simp only [List.mem_singleton] at hb; omega)), h1, h2, h3⟩
  · simp only [List.mem_singleton] at hb; have := h.a.ge _ e; omega
  · simp only [List.mem_singleton] at hb; subst hb; rw [hrt] at e; cases e
  · simp only [List.mem_singleton] at hb; have := h.c.ge _ e; omega
  · simp only [List.mem_singleton] at hb; subst hb; rw [hrt] at e; cases e
/-- The head is written. -/
theorem head (h : DcS w W Z X br s i0 i1 st av cv XA Y XC P) (hk : Keeps [X] W W') {j0 j1 : Int} {st' : T3} (hx : W'.heap[X]? = some (.cells #[.int .i64 j0, .int .i64 j1, .int .i64 st'.1, .int .u64 st'.2.1, .int .i64 st'.2.2, slv av, slv cv] tCt (0, 0))) : DcS w W' Z X br s j0 j1 st' av cv XA Y XC P := by
  have h1 := h.zb
  have h2 := h.bx
  have h3 := h.wz
  refine ⟨hx, (hk.block Z (lt_of_blk h.z) (by simp; omega)).trans h.z, h.r.other hk h.x tCt_r tCt_b, h.a.keepS hk (fun b hb e => ?_), h.la.ki (hk.ki (fun b hb cs f e => ?_)), h.c.keepS hk (fun b hb e => ?_), h.rc.keepS hk (fun b hb cs f e => ?_), h.k.fresh hk (fun b hb => .inr (by simp only [List.mem_singleton] at hb; omega)), h1, h2, h3⟩
  · simp only [List.mem_singleton] at hb; have := h.a.ge _ e; omega
  · simp only [List.mem_singleton] at hb; subst hb; rw [h.x] at e; cases e
  · simp only [List.mem_singleton] at hb; have := h.c.ge _ e; omega
  · simp only [List.mem_singleton] at hb; subst hb; rw [h.x] at e; cases e
theorem keeps (h : DcS w W Z X br s i0 i1 st av cv XA Y XC P) (hk : Keeps [] W W') : DcS w W' Z X br s i0 i1 st av cv XA Y XC P :=
  ⟨(hk.block X (lt_of_blk h.x) (by simp)).trans h.x, (hk.block Z (lt_of_blk h.z) (by simp)).trans h.z, h.r.keeps hk, h.a.keeps hk, h.la.ki hk.ki0, h.c.keeps hk, h.rc.keeps hk, h.k.trans hk, h.zb, h.bx, h.wz⟩
/-- An answer more. -/
theorem pushA (h : DcS w W Z X br s i0 i1 st av cv XA Y XC P) {y : AnV} {a : Ans} {v : Option Addr × Nat × Nat} (hO : shA.O W' (X + 1) tA (slv v) (XA ++ [y])) (hG : Grw W W' (slv av) (slv v)) (hy : InA W y a) :
    W'.heap[X]? = some (.cells #[.int .i64 i0, .int .i64 i1, .int .i64 st.1, .int .u64 st.2.1, .int .i64 st.2.2, slv av, slv cv] tCt (0, 0)) ∧ Keeps [X] W' (W'.setCell ⟨X, 5, none⟩ (slv v)) ∧ (∀ b ∈ (slv av).ownBlock.toList, X < b) ∧
    DcS w (W'.setCell ⟨X, 5, none⟩ (slv v)) Z X br s i0 i1 st v cv (XA ++ [y]) (Y ++ [a]) XC P := by
  have h1 := h.zb
  have h2 := h.bx
  have h3 := h.wz
  have hge : ∀ b ∈ (slv av).ownBlock.toList, X < b := fun b hb => h.a.ge b (by simpa using hb)
  have htg : ∀ b ∈ (slv av).ownBlock.toList, ∃ cs : Array Value, W.heap[b]? = some (.cells cs tA (0, 0)) := fun b hb => h.a.tag b (by simpa using hb)
  have hx := (hG.keepsO.block X (lt_of_blk h.x) (fun hm => by have := hge X hm; omega)).trans h.x
  have hz := (hG.keepsO.block Z (lt_of_blk h.z) (fun hm => by have := hge Z hm; omega)).trans h.z
  have hk2 : Keeps [X] W' (W'.setCell ⟨X, 5, none⟩ (slv v)) := (Keeps.refl _ _).setCell (.inr (by simp)) _
  have hr := h.r.moved hG.keepsO (fun hm => by have := hge br hm; omega) (fun b hm cs e => by obtain ⟨c', hc⟩ := htg b hm; rw [hc] at e; cases e)
  have hki := hG.keepsO.ki (fun b hb cs f e => by obtain ⟨c', hc⟩ := htg b hb; rw [hc] at e; cases e)
  have hki2 := hk2.ki (fun b hb cs f e => by simp only [List.mem_singleton] at hb; subst hb; rw [hx] at e; cases e)
  have hc1 := h.c.keepS hG.keepsO (fun b hb e => by obtain ⟨c', hc⟩ := htg b hb; obtain ⟨c2, hc2⟩ := h.c.tag b e; rw [hc] at hc2; cases hc2)
  have hrc1 := h.rc.keepS hG.keepsO (fun b hb cs f e => by obtain ⟨c', hc⟩ := htg b hb; rw [hc] at e; cases e)
  refine ⟨hx, hk2, hge, by simp [World.setCell, Array.getElem?_modify, hx], (hk2.block Z (lt_of_blk hz) (by simp; omega)).trans hz, hr.other hk2 hx tCt_r tCt_b, hO.keepS hk2 (fun b hb e => ?_), ((h.la.snoc hy).ki hki).ki hki2, hc1.keepS hk2 (fun b hb e => ?_), hrc1.keepS hk2 (fun b hb cs f e => ?_), (h.k.fresh hG.keepsO (fun b hb => .inr (by have := hge b hb; omega))).fresh hk2 (fun b hb => .inr (by simp only [List.mem_singleton] at hb; omega)), h1, h2, h3⟩
  · simp only [List.mem_singleton] at hb; have := hO.ge _ e; omega
  · simp only [List.mem_singleton] at hb; have := h.c.ge _ e; omega
  · simp only [List.mem_singleton] at hb; subst hb; rw [hx] at e; cases e
/-- A claim more. -/
theorem pushC (h : DcS w W Z X br s i0 i1 st av cv XA Y XC P) {y : ClV} {p : PCl} {v : Option Addr × Nat × Nat} (hO : shC.O W' (X + 1) tC (slv v) (XC ++ [y])) (hG : Grw W W' (slv cv) (slv v)) (hy : CRt W y p) :
    W'.heap[X]? = some (.cells #[.int .i64 i0, .int .i64 i1, .int .i64 st.1, .int .u64 st.2.1, .int .i64 st.2.2, slv av, slv cv] tCt (0, 0)) ∧
    DcS w (W'.setCell ⟨X, 6, none⟩ (slv v)) Z X br s i0 i1 st av v XA Y (XC ++ [y]) (P ++ [p]) := by
  have h1 := h.zb
  have h2 := h.bx
  have h3 := h.wz
  have hge : ∀ b ∈ (slv cv).ownBlock.toList, X < b := fun b hb => h.c.ge b (by simpa using hb)
  have htg : ∀ b ∈ (slv cv).ownBlock.toList, ∃ cs : Array Value, W.heap[b]? = some (.cells cs tC (0, 0)) := fun b hb => h.c.tag b (by simpa using hb)
  have hx := (hG.keepsO.block X (lt_of_blk h.x) (fun hm => by have := hge X hm; omega)).trans h.x
  have hz := (hG.keepsO.block Z (lt_of_blk h.z) (fun hm => by have := hge Z hm; omega)).trans h.z
  have hk2 : Keeps [X] W' (W'.setCell ⟨X, 6, none⟩ (slv v)) := (Keeps.refl _ _).setCell (.inr (by simp)) _
  have hr := h.r.moved hG.keepsO (fun hm => by have := hge br hm; omega) (fun b hm cs e => by obtain ⟨c', hc⟩ := htg b hm; rw [hc] at e; cases e)
  have hki := hG.keepsO.ki (fun b hb cs f e => by obtain ⟨c', hc⟩ := htg b hb; rw [hc] at e; cases e)
  have hki2 := hk2.ki (fun b hb cs f e => by simp only [List.mem_singleton] at hb; subst hb; rw [hx] at e; cases e)
  have ha1 := h.a.keepS hG.keepsO (fun b hb e => by obtain ⟨c', hc⟩ := htg b hb; obtain ⟨c2, hc2⟩ := h.a.tag b e; rw [hc] at hc2; cases hc2)
  have hrc1 := (h.rc.snoc hy).keepS hG.keepsO (fun b hb cs f e => by obtain ⟨c', hc⟩ := htg b hb; rw [hc] at e; cases e)
  refine ⟨hx, by simp [World.setCell, Array.getElem?_modify, hx], (hk2.block Z (lt_of_blk hz) (by simp; omega)).trans hz, hr.other hk2 hx tCt_r tCt_b, ha1.keepS hk2 (fun b hb e => ?_), (h.la.ki hki).ki hki2, hO.keepS hk2 (fun b hb e => ?_), hrc1.keepS hk2 (fun b hb cs f e => ?_), (h.k.fresh hG.keepsO (fun b hb => .inr (by have := hge b hb; omega))).fresh hk2 (fun b hb => .inr (by simp only [List.mem_singleton] at hb; omega)), h1, h2, h3⟩
  · simp only [List.mem_singleton] at hb; have := h.a.ge _ e; omega
  · simp only [List.mem_singleton] at hb; have := hO.ge _ e; omega
  · simp only [List.mem_singleton] at hb; subst hb; rw [hx] at e; cases e
end DcS
theorem LA.lrd {w : World} {X : List AnV} {Y : List Ans} (h : LA w X Y) : LRd w X Y := ⟨h.1, fun k x y h1 h2 => (h.2 k x y h1 h2).r⟩
/-- A certificate in blocks of the call's own. -/
structure CtO (w : World) (B : Nat) (x : CtV) (c : Ct) (XA : List AnV) (XC : List ClV) : Prop where
  im : x.im = c.im
  is : x.is = c.is
  s0 : x.s0 = c.st.1
  s1 : x.s1 = c.st.2.1
  s2 : x.s2 = c.st.2.2
  a : shA.O w B tA (slv x.va) XA
  la : LA w XA c.an
  cc : shC.O w B tC (slv x.vc) XC
  rc : Rows' w XC c.cl
theorem CtO.w {w : World} {B : Nat} {x : CtV} {c : Ct} {XA : List AnV} {XC : List ClV} (h : CtO w B x c XA XC) : CtW w x c := ⟨h.im, h.is, h.s0, h.s1, h.s2, ⟨XA, h.a.r, h.la.lrd⟩, h.rc.lc h.cc.r⟩
theorem loadCt7 (w : World) (g : Nat) (t : TypeId) (x0 x1 x2 x3 x4 x5 x6 : Value) (f : Nat × Nat) (hg : w.heap[g]? = some (.cells #[x0, x1, x2, x3, x4, x5, x6] t f)) : (loadVar tCt ⟨g, 0, none⟩).run Try.prog w = .ok (.agg #[x0, x1, x2, x3, x4, x5, x6]) w :=
  run_loadVar_row w g t tCt #[x0, x1, x2, x3, x4, x5, x6] f _ hg Try.underlying30 rfl (show (Try.prog.info? tCt).map (·.size) = some 7 by kernel_rfl)
theorem results_ct7 {fn : Func} {p u : Tmp} (h : fn.results = #[.cell p tCt, .tmp u]) (tmps : Array Value) (w : World) (g : Nat) (t : TypeId) (x0 x1 x2 x3 x4 x5 x6 : Value) (f : Nat × Nat) (hp : tmps.getD p undef = .pointer (some ⟨g, 0, none⟩))
    (hg : w.heap[g]? = some (.cells #[x0, x1, x2, x3, x4, x5, x6] t f)) : (results fn tmps).run Try.prog w = .ok (.tuple #[.agg #[x0, x1, x2, x3, x4, x5, x6], tmps.getD u undef]) w := by
  have hp' : tmps[p]?.getD undef = .pointer (some ⟨g, 0, none⟩) := by simpa using hp
  simp [results, h, hp', asAddr, loadCt7 w g t x0 x1 x2 x3 x4 x5 x6 f hg]
def zeroCt : CtV := ⟨0, 0, 0, 0, 0, (none, 0, 0), (none, 0, 0)⟩
/-- What Decode hands back. -/
def DecP (w : World) (l : List UInt8) (e : Ending) (w' : World) : Prop :=
  (decS l = none ∧ e = .returned (.tuple #[ctV zeroCt, .int .i64 11]) ∧ Keeps [] w w') ∨
  (∃ (x : CtV) (c : Ct) (XA : List AnV) (XC : List ClV), decS l = some c ∧ e = .returned (.tuple #[ctV x, .int .i64 0]) ∧ CtO w' w.heap.size x c XA XC ∧ Keeps [] w w')
set_option maxRecDepth 100000 in
set_option maxHeartbeats 20000000 in
theorem decodeS_c (w : World) (v0 : Value) (l : List UInt8) (h : SlB w v0 l) (hl : l.length ≤ 100000000000) (hwt : (dCt l).wt ≤ 140737488354000) (hfit : (dCt l).Fit) :
    Calls Try.prog 11 #[v0] w (DecP w l) := by
  obtain ⟨a0, c0, rfl⟩ := h.form
  obtain ⟨ML, hML⟩ : ∃ n, l.length = n := ⟨_, rfl⟩
  have hkZ : Keeps [] w (w.alloc (.cells #[.int .i64 0, .int .i64 0, .int .i64 0, .int .u64 0, .int .i64 0, .slice none 0 0, .slice none 0 0] tCt)) := (Keeps.refl _ _).alloc _
  have hbZ := heap_alloc_new w (.cells #[.int .i64 0, .int .i64 0, .int .i64 0, .int .u64 0, .int .i64 0, .slice none 0 0, .slice none 0 0] tCt)
  have hkE : Keeps [] w ((w.alloc (.cells #[.int .i64 0, .int .i64 0, .int .i64 0, .int .u64 0, .int .i64 0, .slice none 0 0, .slice none 0 0] tCt)).alloc (.cells #[] 5)) := hkZ.alloc _
  have hbZE := (((Keeps.refl [] (w.alloc (.cells #[.int .i64 0, .int .i64 0, .int .i64 0, .int .u64 0, .int .i64 0, .slice none 0 0, .slice none 0 0] tCt))).alloc (.cells #[] 5)).block w.heap.size (lt_of_blk hbZ) (by simp)).trans hbZ
  have hfr := Buf.fresh (w.alloc (.cells #[.int .i64 0, .int .i64 0, .int .i64 0, .int .u64 0, .int .i64 0, .slice none 0 0, .slice none 0 0] tCt))
  obtain ⟨Z, hZ⟩ : ∃ X, w.heap.size = X := ⟨_, rfl⟩
  have hzZ : (w.alloc (.cells #[.int .i64 0, .int .i64 0, .int .i64 0, .int .u64 0, .int .i64 0, .slice none 0 0, .slice none 0 0] tCt)).heap.size = Z + 1 := by simp [hZ]
  rw [hzZ] at hfr
  rw [hZ] at hbZE
  have h1 := h.keeps hkE
  have hsE : Z + 1 ≤ ((w.alloc (.cells #[.int .i64 0, .int .i64 0, .int .i64 0, .int .u64 0, .int .i64 0, .slice none 0 0, .slice none 0 0] tCt)).alloc (.cells #[] 5)).heap.size := by simp [hZ]
  rw [hML] at h h1 hl ⊢
  unfold DecP
  replace h := Lib.hid h
  replace h1 := Lib.hid h1
  replace hfr := Lib.hid hfr
  replace hkE := Lib.hid hkE
  replace hbZE := Lib.hid hbZE
  replace hML := Lib.hid hML
  replace hwt := Lib.hid hwt
  replace hfit := Lib.hid hfit
  clear hkZ hbZ
  go_enter Try.func11, Try.ntmps11
  go_upto_region 1 with fail
  replace hZ := Lib.hid hZ
  go_upto_region 2 with (first
    | (at_builtin; (refine wpl_appB _ (Z + 1) (.slice (some ⟨Z + 1, 0, none⟩) 0 0) [] rfl (.tmp 10) (.tmp 11) rfl rfl _ l rfl hfr.out h1.out (by simp [hML.out]; omega) hsE ?_; intro v2 w2 hB2 hG2; have hk2 := Lib.hid (hG2.keeps hkE.out (fun b hb => (by have hz := hZ.out; simp [Value.ownBlock] at hb; omega))); have hbZ2 := Lib.hid ((hG2.keepsO.block Z (lt_of_blk hbZE.out) (fun hm => by simp [Value.ownBlock] at hm)).trans hbZE.out); have hS2 := hB2.slV; obtain ⟨a2, c2, rfl⟩ := hS2.form; rw [List.nil_append] at hS2 ⊢; rw [hML.out] at hS2 ⊢; replace hS2 := Lib.hid hS2; clear hG2 hB2))
    | fail)
  have hS3 := hS2.out.keeps ((Keeps.refl [] w2).alloc (.cells #[.slice a2 ML c2, .int .i64 0] tRr))
  have hR3 : RrS (w2.alloc (.cells #[.slice a2 ML c2, .int .i64 0] tRr)) w2.heap.size (l, 0) := ⟨_, heap_alloc_new w2 _, hS3⟩
  have hk3 := hk2.out.alloc (.cells #[.slice a2 ML c2, .int .i64 0] tRr)
  have hZ3 := (((Keeps.refl [] w2).alloc (.cells #[.slice a2 ML c2, .int .i64 0] tRr)).block Z (lt_of_blk hbZ2.out) (by simp)).trans hbZ2.out
  have hZbr : Z < w2.heap.size := lt_of_blk hbZ2.out
  have hz3 : (w2.alloc (.cells #[.slice a2 ML c2, .int .i64 0] tRr)).heap.size = w2.heap.size + 1 := by simp
  generalize (w2.alloc (.cells #[.slice a2 ML c2, .int .i64 0] tRr)) = W3 at *
  obtain ⟨br, hbr⟩ : ∃ b, w2.heap.size = b := ⟨_, rfl⟩
  rw [hbr] at hR3 hZbr hz3 ⊢
  have hkX := (Keeps.refl [] W3).alloc (.cells #[.int .i64 0, .int .i64 0, .int .i64 0, .int .u64 0, .int .i64 0, .slice none 0 0, .slice none 0 0] tCt)
  have hX4 := heap_alloc_new W3 (.cells #[.int .i64 0, .int .i64 0, .int .i64 0, .int .u64 0, .int .i64 0, .slice none 0 0, .slice none 0 0] tCt)
  rw [hz3] at hX4
  have hD0 : DcS w (W3.alloc (.cells #[.int .i64 0, .int .i64 0, .int .i64 0, .int .u64 0, .int .i64 0, .slice none 0 0, .slice none 0 0] tCt)) Z (br + 1) br (l, 0) 0 0 (0, 0, 0) (none, 0, 0) (none, 0, 0) [] [] [] [] := ⟨hX4, (hkX.block Z (lt_of_blk hZ3) (by simp)).trans hZ3, hR3.keeps hkX, Sh.O.nil _ _ _ _, LA.nil _, Sh.O.nil _ _ _ _, ⟨rfl, fun j x p h => by simp at h⟩, hk3.trans hkX, hZbr, by omega, Nat.le_of_eq hZ.out⟩
  replace hbr := Lib.hid hbr
  replace hz3 := Lib.hid hz3
  have hD := Lib.hid hD0
  clear hS3 hR3 hk3 hZ3 hkX hX4 hD0 hk2 hbZ2 hS2 hbZE hkE hfr h1
  go_upto_region 3 with fail
  rw [hz3.out]
  generalize (W3.alloc (.cells #[.int .i64 0, .int .i64 0, .int .i64 0, .int .u64 0, .int .i64 0, .slice none 0 0, .slice none 0 0] tCt)) = W4 at *
  obtain ⟨X, hX⟩ : ∃ X, br + 1 = X := ⟨_, rfl⟩
  rw [hX] at hD ⊢
  replace hX := Lib.hid hX
  obtain ⟨⟨z0, s1⟩, hp1⟩ : ∃ p, rI (l, 0) = p := ⟨_, rfl⟩
  obtain ⟨⟨z1, s2⟩, hp2⟩ : ∃ p, rI s1 = p := ⟨_, rfl⟩
  obtain ⟨⟨⟨n0, n1, n2⟩, s3⟩, hp3⟩ : ∃ p, rX s2 = p := ⟨_, rfl⟩
  obtain ⟨⟨N, s4⟩, hp4⟩ : ∃ p, rCS 1024 s3 = p := ⟨_, rfl⟩
  obtain ⟨⟨YY, s5⟩, hp5⟩ : ∃ p, rYc N s4 [] = p := ⟨_, rfl⟩
  obtain ⟨⟨M, s6⟩, hp6⟩ : ∃ p, rCS 1024 s5 = p := ⟨_, rfl⟩
  obtain ⟨⟨PP, s7⟩, hp7⟩ : ∃ p, rPc M s6 [] = p := ⟨_, rfl⟩
  have hdY : dY l = (YY, s5) := by unfold dY; rw [hp1]; simp only; rw [hp2]; simp only; rw [hp3]; simp only; rw [hp4]; exact hp5
  have hdP : dP l = (PP, s7) := by unfold dP; rw [hdY]; simp only; rw [hp6]; exact hp7
  have hdC : dCt l = ⟨z0, z1, (n0, n1, n2), YY, PP⟩ := by unfold dCt; rw [hdY, hdP, hp1]; simp only; rw [hp2]; simp only; rw [hp3]
  have hdec : decS l = if s7.2 = 0 ∧ doneE s7.1 s7.2 = 0 ∧ encCt ⟨z0, z1, (n0, n1, n2), YY, PP⟩ = l then some ⟨z0, z1, (n0, n1, n2), YY, PP⟩ else none := by unfold decS; rw [hdP, hdC]
  rw [hdC] at hwt hfit
  have hN1 : N ≤ 1024 := by have := rCS_le 1024 s3; rw [hp4] at this; exact this
  have hM1 : M ≤ 1024 := by have := rCS_le 1024 s5; rw [hp6] at this; exact this
  have hcI0 := fun W h => intRS_c W br (l, 0) h
  have hcI1 := fun W h => intRS_c W br s1 h
  have hcX := fun W h => getNeed_c W br s2 h
  have hcN := fun W h => countRX_c W br s3 h
  have hcM := fun W h => countRX_c W br s5 h
  have hcD := fun W h => doneRS_c W br s7 h
  rw [hp1] at hcI0
  rw [hp2] at hcI1
  rw [hp3] at hcX
  rw [hp4] at hcN
  rw [hp6] at hcM
  simp only [tV] at hcI0 hcI1 hcX hcN hcM
  replace hcI0 := Lib.hid hcI0
  replace hcI1 := Lib.hid hcI1
  replace hcX := Lib.hid hcX
  replace hcN := Lib.hid hcN
  replace hcM := Lib.hid hcM
  replace hcD := Lib.hid hcD
  replace hp5 := Lib.hid hp5
  replace hp7 := Lib.hid hp7
  replace hdec := Lib.hid hdec
  clear hp1 hp2 hp3 hp4 hp6 hdY hdP hdC
  have hcall := hcI0.out _ (hD.out.r)
  replace hcall := Lib.hid hcall
  go_wp2_with fail
  refine hcall.out.mono ?_
  rintro e v1 ⟨rfl, hRn, hkn⟩
  have hDn := hD.out.ref hkn hRn
  obtain ⟨c0, c1, c2, c3, c4, c5, c6, cf, cl⟩ := cl7 hDn.x
  have hks : Keeps [X] v1 (v1.setCell ⟨X, 0, none⟩ (.int .i64 z0)) := by
    refine (Keeps.refl _ _).setCell ?_ _ <;> exact .inr (by simp)
  have hxs : (v1.setCell ⟨X, 0, none⟩ (.int .i64 z0)).heap[X]? = some (.cells #[.int .i64 z0, .int .i64 0, .int .i64 0, .int .u64 0, .int .i64 0, .slice none 0 0, .slice none 0 0] tCt (0, 0)) := by
    have hz := hDn.x
    simp only [slv] at hz
    simp [World.setCell, Array.getElem?_modify, hz]
  have hDs := hDn.head hks (j0 := z0) (j1 := 0) (st' := (0, 0, 0)) hxs
  clear hD hRn hkn hcall hDn hks hxs
  have hD := Lib.hid hDs
  clear hDs
  go_upto_region 4 with fail
  generalize (v1.setCell ⟨X, 0, none⟩ (.int .i64 z0)) = W5 at *
  clear c0 c1 c2 c3 c4 c5 c6 cf cl
  have hcall := hcI1.out _ (hD.out.r)
  replace hcall := Lib.hid hcall
  go_wp2_with fail
  refine hcall.out.mono ?_
  rintro e v2 ⟨rfl, hRn, hkn⟩
  have hDn := hD.out.ref hkn hRn
  obtain ⟨c0, c1, c2, c3, c4, c5, c6, cf, cl⟩ := cl7 hDn.x
  have hks : Keeps [X] v2 (v2.setCell ⟨X, 1, none⟩ (.int .i64 z1)) := by
    refine (Keeps.refl _ _).setCell ?_ _ <;> exact .inr (by simp)
  have hxs : (v2.setCell ⟨X, 1, none⟩ (.int .i64 z1)).heap[X]? = some (.cells #[.int .i64 z0, .int .i64 z1, .int .i64 0, .int .u64 0, .int .i64 0, .slice none 0 0, .slice none 0 0] tCt (0, 0)) := by
    have hz := hDn.x
    simp only [slv] at hz
    simp [World.setCell, Array.getElem?_modify, hz]
  have hDs := hDn.head hks (j0 := z0) (j1 := z1) (st' := (0, 0, 0)) hxs
  clear hD hRn hkn hcall hDn hks hxs
  have hD := Lib.hid hDs
  clear hDs
  go_upto_region 5 with fail
  generalize (v2.setCell ⟨X, 1, none⟩ (.int .i64 z1)) = W6 at *
  clear c0 c1 c2 c3 c4 c5 c6 cf cl
  have hcall := hcX.out _ (hD.out.r)
  replace hcall := Lib.hid hcall
  go_wp2_with fail
  refine hcall.out.mono ?_
  rintro e v3 ⟨rfl, hRn, hkn⟩
  have hDn := hD.out.ref hkn hRn
  obtain ⟨c0, c1, c2, c3, c4, c5, c6, cf, cl⟩ := cl7 hDn.x
  have hks : Keeps [X] v3 (((v3.setCell ⟨X, 2, none⟩ (.int .i64 n0)).setCell ⟨X, 3, none⟩ (.int .u64 n1)).setCell ⟨X, 4, none⟩ (.int .i64 n2)) := by
    refine (((Keeps.refl _ _).setCell ?_ _).setCell ?_ _).setCell ?_ _ <;> exact .inr (by simp)
  have hxs : (((v3.setCell ⟨X, 2, none⟩ (.int .i64 n0)).setCell ⟨X, 3, none⟩ (.int .u64 n1)).setCell ⟨X, 4, none⟩ (.int .i64 n2)).heap[X]? = some (.cells #[.int .i64 z0, .int .i64 z1, .int .i64 n0, .int .u64 n1, .int .i64 n2, .slice none 0 0, .slice none 0 0] tCt (0, 0)) := by
    have hz := hDn.x
    simp only [slv] at hz
    simp [World.setCell, Array.getElem?_modify, hz]
  have hDs := hDn.head hks (j0 := z0) (j1 := z1) (st' := (n0, n1, n2)) hxs
  clear hD hRn hkn hcall hDn hks hxs
  have hD := Lib.hid hDs
  clear hDs
  go_upto_region 6 with fail
  generalize (((v3.setCell ⟨X, 2, none⟩ (.int .i64 n0)).setCell ⟨X, 3, none⟩ (.int .u64 n1)).setCell ⟨X, 4, none⟩ (.int .i64 n2)) = W7 at *
  clear c0 c1 c2 c3 c4 c5 c6 cf cl
  have hcall := hcN.out _ hD.out.r
  replace hcall := Lib.hid hcall
  go_wp2_with fail
  refine hcall.out.mono ?_
  rintro e w8 ⟨rfl, hRn, hkn⟩
  have hDn := hD.out.ref hkn hRn
  clear hD hcall hRn hkn hcI0 hcI1 hcX hcN
  have hD := Lib.hid hDn
  clear hDn
  (go_upto_region 7 with fail; iterate 7 go_step)
  go_cut [7] from 10 to 102 (fun _ wx => ∃ (aa : Option Addr) (ac : Nat) (XA : List AnV), Hid (XA.length ≤ 1024) ∧ Hid (DcS w wx Z X br s5 z0 z1 (n0, n1, n2) (aa, XA.length, ac) (none, 0, 0) XA YY [] []))
  case first =>
    go_wp2
    go_loopw [7] (fun i wr => ∃ (k : Nat) (aa : Option Addr) (ac : Nat) (XA : List AnV) (Y : List Ans) (sk : RS), i = .int .i64 k ∧ k ≤ N ∧ Hid (DcS w wr Z X br sk z0 z1 (n0, n1, n2) (aa, XA.length, ac) (none, 0, 0) XA Y [] []) ∧ Hid (XA.length ≤ k) ∧ Hid (rYc (N - k) sk Y = (YY, s5))) (fun i _ => N - (intOf i).toNat)
    case atStart => exact ⟨0, none, 0, [], [], s4, rfl, by omega, hD, Lib.hid (by simp), hp5⟩
    case round =>
      clear hD
      obtain ⟨k, aa, ac, XA, Y, sk, rfl, hk, hD, hLk, hrk⟩ := hrel
      obtain ⟨vr, d0, d1, df0, df1, dl⟩ := hD.out.r.cell
      obtain ⟨NA, hNA⟩ : ∃ n, XA.length = n := ⟨_, rfl⟩
      rw [hNA] at hD hLk
      replace hNA := Lib.hid hNA
      by_cases hlt2 : k < N
      · have hlt3 : (k : Int) < N := by omega
        obtain ⟨j, hj⟩ : ∃ j, N - k = j + 1 := ⟨N - k - 1, by omega⟩
        have hj2 : N - (k + 1) = j := by omega
        by_cases hs : sk.2 = 0
        · have hsb : (sk.2 == 0) = true := by simpa using hs
          have hstep : rYc (N - (k + 1)) (rAs sk).2 (Y ++ [(rAs sk).1]) = (YY, s5) := by
            have := hrk.out
            rw [hj] at this
            rw [hj2]
            unfold rYc at this
            rw [if_pos hs] at this
            exact this
          have hcall := getAnswer_c wr.drew br sk (hD.out.r.keeps (Keeps.refl [] wr).drew)
          unfold AnsP at hcall
          have hN2 : NA ≤ 1024 := by have := hLk.out; omega
          obtain ⟨c0, c1, c2, c3, c4, c5, c6, cf, cl⟩ := cl7 hD.out.x
          simp only [slv] at c0 c1 c2 c3 c4 c5 c6
          have hXbr : X ≠ br := by have := hD.out.bx; omega
          replace hXbr := Lib.hid hXbr
          replace hcall := Lib.hid hcall
          replace hstep := Lib.hid hstep
          replace hs := Lib.hid hs
          replace hj := Lib.hid hj
          replace hj2 := Lib.hid hj2
          have hq5 : Hid (∀ j : Nat, j ≠ 7 → ((j = 3 ∧ X = br) ∨ (j = 5 ∧ X < X) ∨ (j = 7 ∧ X = X)) → False) := Lib.hid (fun j h7 h => by
            rcases h with ⟨_, h⟩ | ⟨_, h⟩ | ⟨h, _⟩
            · exact hXbr.out h
            · exact absurd h (Nat.lt_irrefl _)
            · exact h7 h)
          go_upto_region 10 with fail
          refine Free.wp_region_chain (fun i => i == 3 || i == 4 || i == 5 || i == 7) (fun i => true) (fun j b => (j = 3 ∧ b = br) ∨ (j = 5 ∧ X < b) ∨ (j = 7 ∧ b = X)) (by kernel_rfl) (by kernel_rfl) (by kernel_rfl) ?_
          (repeat (first | (apply Free.cw_pure rfl rfl; (intro w'; go_simp <;> exact rfl); go_frame) | (apply Free.cw_steady rfl rfl rfl; (intro w' hS; have q0 := Free.sx_cell hS c5 (fun j hp hT => hq5.out j (fun e => (by subst e; exact absurd hp (by decide +kernel))) hT); go_simp <;> exact rfl); go_frame) | (refine Free.cw_skip rfl ?_; go_frame)))
          refine Free.cw_loud rfl rfl (fun K hK => ?_)
          go_wp2_with fail
          refine hcall.out.mono ?_
          rintro e w9 ⟨⟨y0, y1, y2, y3, y4, y5, y6, y7, y8, y9⟩, rfl, hy, hyO, hRn, hkn⟩
          refine hK _ _ rfl (Free.KeepsP.of hkn (fun b hb => by simp only [List.mem_singleton] at hb; exact .inl ⟨trivial, hb⟩)) ?_
          clear hK K hcall
          have hDn := hD.out.keeps (Keeps.refl [] wr).drew |>.ref hkn hRn
          have hInA : InA w9 ⟨y0, y1, y2, y3, y4, y5, y6, y7, y8, y9⟩ (rAs sk).1 := ⟨hy.m, hy.ow, hy.n, hy.ep, hy.kn, hy.rt, hy.lu, ⟨_, hyO⟩⟩
          have hkM := (Keeps.refl [] w9).alloc (.cells #[.int .i64 y0, .int .i64 y1, .int .u64 y2, .int .i64 y3, .bool y4, .bool y5, .int .i64 y6, .slice y7 y8 y9] tA)
          have hmade := Sh.R.made shA w9 [(⟨y0, y1, y2, y3, y4, y5, y6, y7, y8, y9⟩ : AnV)] #[.int .i64 y0, .int .i64 y1, .int .u64 y2, .int .i64 y3, .bool y4, .bool y5, .int .i64 y6, .slice y7 y8 y9] tA rfl (by simp [maxLen]) 1 rfl
          have hDM := hDn.keeps hkM
          have hIM := hInA.ki hkM.ki0
          have hszM : X + 1 ≤ (w9.alloc (.cells #[.int .i64 y0, .int .i64 y1, .int .u64 y2, .int .i64 y3, .bool y4, .bool y5, .int .i64 y6, .slice y7 y8 y9] tA)).heap.size := lt_of_blk hDM.x
          replace hmade := Lib.hid hmade
          replace hDM := Lib.hid hDM
          replace hIM := Lib.hid hIM
          replace hNA := Lib.hid hNA.out
          clear hDn hInA hkM hy hyO hRn hkn hD
          simp only [AnV.v]
          (repeat (apply Free.cw_pure rfl rfl; (intro w'; go_simp <;> exact rfl); go_frame))
          refine Free.cw_loud rfl rfl (fun K hK => ?_)
          go_wp2
          refine hK _ _ rfl (Free.KeepsP.alloc _ _ _) ?_
          clear hK K
          (repeat (apply Free.cw_pure rfl rfl; (intro w'; go_simp <;> exact rfl); go_frame))
          refine Free.cw_loud rfl rfl (fun K hK => ?_)
          refine Sh.owp_app shA (X + 1) infoA rfl Try.underlying27 (.slice aa NA ac) (.slice (some ⟨w9.heap.size, 0, none⟩) 1 1) XA [(⟨y0, y1, y2, y3, y4, y5, y6, y7, y8, y9⟩ : AnV)] (.tmp 42) (.tmp 45) rfl rfl rfl hDM.out.a hmade.out (by rw [hNA.out]; simp only [List.length_singleton]; omega) hszM ?_
          intro vz wz hOz hGz
          obtain ⟨za, zc, rfl⟩ := hOz.form
          have hlz : (XA ++ [(⟨y0, y1, y2, y3, y4, y5, y6, y7, y8, y9⟩ : AnV)]).length = NA + 1 := by rw [List.length_append, hNA.out]; rfl
          rw [hlz] at hOz hGz ⊢
          obtain ⟨hxz, hkz, hgz, hDz⟩ := hDM.out.pushA (v := (za, NA + 1, zc)) hOz hGz hIM.out
          refine hK _ _ rfl (Free.KeepsP.of hGz.keepsO (fun b hb => .inr (.inl ⟨rfl, hgz b hb⟩))) ?_
          clear hK K
          obtain ⟨b0, b1, b2, b3, b4, b5, b6, bf, bl⟩ := cl7 hxz
          replace hkz := Lib.hid hkz
          replace hDz := Lib.hid hDz
          replace hlz := Lib.hid hlz
          clear hOz hGz hgz hDM hIM hmade hxz
          (repeat (apply Free.cw_pure rfl rfl; (intro w'; go_simp <;> exact rfl); go_frame))
          refine Free.cw_loud rfl rfl (fun K hK => ?_)
          go_wp2
          refine hK _ _ rfl (Free.KeepsP.of hkz.out (fun b hb => .inr (.inr ⟨trivial, by simpa using hb⟩))) ?_
          clear hK K
          (repeat (apply Free.cw_pure rfl rfl; (intro w'; go_simp <;> exact rfl); go_frame))
          refine Free.cw_nil ?_
          go_wp2
          go_roundw
          case rel => exact ⟨k + 1, za, zc, XA ++ [⟨y0, y1, y2, y3, y4, y5, y6, y7, y8, y9⟩], Y ++ [(rAs sk).1], (rAs sk).2, rfl, by omega, by rw [hlz.out]; exact hDz, Lib.hid (by rw [hlz.out]; have := hLk.out; omega), Lib.hid hstep.out⟩
          case measure => simp [intOf]; omega
        · have hsb : (sk.2 == 0) = false := by simpa using hs
          have hend : Y = YY ∧ sk = s5 := by
            have := hrk.out
            rw [hj] at this
            unfold rYc at this
            rw [if_neg hs] at this
            exact Prod.mk.inj this
          have hDe : Hid (DcS w wr Z X br s5 z0 z1 (n0, n1, n2) (aa, XA.length, ac) (none, 0, 0) XA YY [] []) := Lib.hid (by rw [hNA.out, ← hend.1, ← hend.2]; exact hD.out)
          have hLe : Hid (XA.length ≤ 1024) := Lib.hid (by have h1 := hLk.out; have h2 := hNA.out; omega)
          replace hs := Lib.hid hs
          replace hend := Lib.hid hend
          replace hj := Lib.hid hj
          replace hj2 := Lib.hid hj2
          go_wp2
          go_meet
          case rel => exact ⟨aa, ac, XA, hLe, hDe⟩
      · have hlt3 : ¬ ((k : Int) < N) := by omega
        have hlt4 : decide ((k : Int) < (N : Int)) = false := by simp; omega
        have hend : Y = YY ∧ sk = s5 := by
          have := hrk.out
          rw [show N - k = 0 by omega] at this
          exact Prod.mk.inj this
        have hDe : Hid (DcS w wr Z X br s5 z0 z1 (n0, n1, n2) (aa, XA.length, ac) (none, 0, 0) XA YY [] []) := Lib.hid (by rw [hNA.out, ← hend.1, ← hend.2]; exact hD.out)
        have hLe : Hid (XA.length ≤ 1024) := Lib.hid (by have h1 := hLk.out; have h2 := hNA.out; omega)
        replace hend := Lib.hid hend
        go_wp2
        go_meet
        case rel => exact ⟨aa, ac, XA, hLe, hDe⟩
  case rest =>
    clear hD
    obtain ⟨aa, ac, XA, hLA, hD⟩ := hcut
    obtain ⟨NA, hNA⟩ : ∃ n, XA.length = n := ⟨_, rfl⟩
    rw [hNA] at hD hLA
    replace hNA := Lib.hid hNA
    have hcall := hcM.out _ hD.out.r
    replace hcall := Lib.hid hcall
    go_wp2_with fail
    refine hcall.out.mono ?_
    rintro e wm ⟨rfl, hRn, hkn⟩
    have hDn := hD.out.ref hkn hRn
    clear hD hcall hRn hkn hcM
    have hD := Lib.hid hDn
    clear hDn
    (go_upto_region 12 with fail; iterate 7 go_step)
    go_cut [8, 9] from 10 to 102 (fun _ _ wx => ∃ (ca : Option Addr) (cc : Nat) (XC : List ClV), Hid (XC.length ≤ 1024) ∧ Hid (DcS w wx Z X br s7 z0 z1 (n0, n1, n2) (aa, NA, ac) (ca, XC.length, cc) XA YY XC PP))
    case first =>
      go_wp2
      go_loopw [8] (fun i wr => ∃ (k : Nat) (ca : Option Addr) (cc : Nat) (XC : List ClV) (P : List PCl) (sk : RS), i = .int .i64 k ∧ k ≤ M ∧ Hid (DcS w wr Z X br sk z0 z1 (n0, n1, n2) (aa, NA, ac) (ca, XC.length, cc) XA YY XC P) ∧ Hid (XC.length ≤ k) ∧ Hid (rPc (M - k) sk P = (PP, s7))) (fun i _ => M - (intOf i).toNat)
      case atStart => exact ⟨0, none, 0, [], [], s6, rfl, by omega, hD, Lib.hid (by simp), hp7⟩
      case round =>
        clear hD
        obtain ⟨k, ca, cc, XC, P, sk, rfl, hk, hD, hLk, hrk⟩ := hrel
        obtain ⟨vr, d0, d1, df0, df1, dl⟩ := hD.out.r.cell
        obtain ⟨NC, hNC⟩ : ∃ n, XC.length = n := ⟨_, rfl⟩
        rw [hNC] at hD hLk
        replace hNC := Lib.hid hNC
        by_cases hlt2 : k < M
        · have hlt3 : (k : Int) < M := by omega
          obtain ⟨j, hj⟩ : ∃ j, M - k = j + 1 := ⟨M - k - 1, by omega⟩
          have hj2 : M - (k + 1) = j := by omega
          by_cases hs : sk.2 = 0
          · have hsb : (sk.2 == 0) = true := by simpa using hs
            have hstep : rPc (M - (k + 1)) (rPs sk).2 (P ++ [(rPs sk).1]) = (PP, s7) := by
              have := hrk.out
              rw [hj] at this
              rw [hj2]
              unfold rPc at this
              rw [if_pos hs] at this
              exact this
            obtain ⟨⟨p0, t1⟩, hq1⟩ : ∃ p, rI sk = p := ⟨_, rfl⟩
            obtain ⟨⟨p1, t2⟩, hq2⟩ : ∃ p, rI t1 = p := ⟨_, rfl⟩
            obtain ⟨⟨L1, t3⟩, hq3⟩ : ∃ p, rNs t2 = p := ⟨_, rfl⟩
            obtain ⟨⟨L2, t4⟩, hq4⟩ : ∃ p, rNs t3 = p := ⟨_, rfl⟩
            obtain ⟨⟨L3, t5⟩, hq5⟩ : ∃ p, rNs t4 = p := ⟨_, rfl⟩
            have hrp : rPs sk = (⟨p0, p1, L1, L2, L3⟩, t5) := by unfold rPs; rw [hq1]; simp only; rw [hq2]; simp only; rw [hq3]; simp only; rw [hq4]; simp only; rw [hq5]
            rw [hrp] at hstep
            have hcA := fun W h => intRS_c W br sk h
            have hcB := fun W h => intRS_c W br t1 h
            have hc3 := fun W h => getNeeds_c W br t2 h
            have hc4 := fun W h => getNeeds_c W br t3 h
            have hc5 := fun W h => getNeeds_c W br t4 h
            rw [hq1] at hcA
            rw [hq2] at hcB
            rw [hq3] at hc3
            rw [hq4] at hc4
            rw [hq5] at hc5
            simp only at hcA hcB hc3 hc4 hc5 hstep
            have hN2 : NC ≤ 1024 := by have := hLk.out; omega
            have hR := Lib.hid hD.out.r
            have hkp : Hid (Keeps [br] wr wr) := Lib.hid (Keeps.refl _ _)
            have hXlt : Hid (X < wr.heap.size) := Lib.hid (lt_of_blk hD.out.x)
            replace hcA := Lib.hid hcA
            replace hcB := Lib.hid hcB
            replace hc3 := Lib.hid hc3
            replace hc4 := Lib.hid hc4
            replace hc5 := Lib.hid hc5
            replace hstep := Lib.hid hstep
            replace hs := Lib.hid hs
            replace hj := Lib.hid hj
            replace hj2 := Lib.hid hj2
            clear hq1 hq2 hq3 hq4 hq5 hrp
            go_upto_region 15 with fail
            go_wp2_with fail
            refine (hcA.out _ hR.out).mono ?_
            rintro e wi1 ⟨rfl, hR1, hk1⟩
            have hkA1 := (Keeps.refl [] wi1).alloc (.cells #[.int .i64 p0, .int .i64 0, .slice none 0 0, .slice none 0 0, .slice none 0 0] tC)
            have hX1 := heap_alloc_new wi1 (.cells #[.int .i64 p0, .int .i64 0, .slice none 0 0, .slice none 0 0, .slice none 0 0] tC)
            have hR2 := hR1.keeps hkA1
            have hXb1 := hR2.ne hX1 tC_r
            have hkX1 := (hkp.out.trans hk1).trans hkA1.of_nil
            have hwX1 : wr.heap.size ≤ wi1.heap.size := (hkp.out.trans hk1).size
            clear hR 
            go_upto_region 16 with fail
            generalize (wi1.alloc (.cells #[.int .i64 p0, .int .i64 0, .slice none 0 0, .slice none 0 0, .slice none 0 0] tC)) = Wl0 at *
            obtain ⟨K, hKe⟩ : ∃ X, wi1.heap.size = X := ⟨_, rfl⟩
            rw [hKe] at hX1 hXb1 hwX1  ⊢
            replace hKe := Lib.hid hKe
            have hK := Lib.hid hX1
            have hKb := Lib.hid hXb1
            have hwK := Lib.hid hwX1
            have hkK := Lib.hid hkX1
            have hR := Lib.hid hR2
            clear hX1 hXb1 hwX1 hkX1 hR1 hR2 hk1 hkA1
            clear d0 d1 df0 df1 dl
            obtain ⟨c0, c1, c2, c3, c4, cf, cl⟩ := cl5 hK.out
            go_wp2_with fail
            refine (hcB.out _ hR.out).mono ?_
            rintro e vl1 ⟨rfl, hRl1, hkl1⟩
            clear c0 c1 c2 c3 c4 cf cl
            have hXl1 := (hkl1.block K (lt_of_blk hK.out) (by simpa using hKb.out)).trans hK.out
            have hsl1 : Keeps [K] vl1 (vl1.setCell ⟨K, 1, none⟩ (.int .i64 p1)) := (Keeps.refl _ _).setCell (.inr (by simp)) _
            have hYl1 : (vl1.setCell ⟨K, 1, none⟩ (.int .i64 p1)).heap[K]? = some (.cells #[.int .i64 p0, .int .i64 p1, .slice none 0 0, .slice none 0 0, .slice none 0 0] tC (0, 0)) := by simp [World.setCell, Array.getElem?_modify, hXl1]
            have hRl1b := hRl1.other hsl1 hXl1 tC_r tC_b
            have hkn := Lib.hid ((hkK.out.trans hkl1).fresh hsl1 (fun b hb => by simp only [List.mem_singleton] at hb; subst hb; exact .inr hwK.out))
            obtain ⟨c0, c1, c2, c3, c4, cf, cl⟩ := cl5 hXl1
            clear hK hR hkK 
            have hK := Lib.hid hYl1
            have hR := Lib.hid hRl1b
            have hkK := hkn
            clear hXl1 hsl1 hYl1 hRl1b hkn hRl1 hkl1 
            go_upto_region 17 with fail
            generalize (vl1.setCell ⟨K, 1, none⟩ (.int .i64 p1)) = Wl1 at *
            clear c0 c1 c2 c3 c4 cf cl
            obtain ⟨c0, c1, c2, c3, c4, cf, cl⟩ := cl5 hK.out
            go_wp2_with fail
            refine (hc3.out _ hR.out).mono ?_
            rintro e vv1 ⟨v, rfl, hOv, hRv, hkv⟩
            clear c0 c1 c2 c3 c4 cf cl
            obtain ⟨va1, vc1, rfl⟩ := hOv.form
            obtain ⟨vn1, hvn⟩ : ∃ n, L1.length = n := ⟨_, rfl⟩
            rw [hvn] at hOv ⊢
            have hXv := (hkv.block K (lt_of_blk hK.out) (by simpa using hKb.out)).trans hK.out
            have hsv : Keeps [K] vv1 (vv1.setCell ⟨K, 2, none⟩ (.slice va1 vn1 vc1)) := (Keeps.refl _ _).setCell (.inr (by simp)) _
            have hYv : (vv1.setCell ⟨K, 2, none⟩ (.slice va1 vn1 vc1)).heap[K]? = some (.cells #[.int .i64 p0, .int .i64 p1, .slice va1 vn1 vc1, .slice none 0 0, .slice none 0 0] tC (0, 0)) := by simp [World.setCell, Array.getElem?_modify, hXv]
            have hRw := hRv.other hsv hXv tC_r tC_b
            have hnv := (Nd.of_O hOv).keepS hsv (tag_Cl hXv)
            have hkn := Lib.hid ((hkK.out.trans hkv).fresh hsv (fun b hb => by simp only [List.mem_singleton] at hb; subst hb; exact .inr hwK.out))
            obtain ⟨c0, c1, c2, c3, c4, cf, cl⟩ := cl5 hXv
            clear hK hR hkK 
            have hK := Lib.hid hYv
            have hR := Lib.hid hRw
            have hkK := hkn
            have hn1 := Lib.hid hnv
            replace hvn := Lib.hid hvn
            clear hXv hsv hYv hRw hnv hkn hRv hkv hOv 
            go_upto_region 18 with fail
            generalize (vv1.setCell ⟨K, 2, none⟩ (.slice va1 vn1 vc1)) = Wl2 at *
            clear c0 c1 c2 c3 c4 cf cl
            obtain ⟨c0, c1, c2, c3, c4, cf, cl⟩ := cl5 hK.out
            go_wp2_with fail
            refine (hc4.out _ hR.out).mono ?_
            rintro e vv2 ⟨v, rfl, hOv, hRv, hkv⟩
            clear c0 c1 c2 c3 c4 cf cl
            obtain ⟨va2, vc2, rfl⟩ := hOv.form
            obtain ⟨vn2, hvn⟩ : ∃ n, L2.length = n := ⟨_, rfl⟩
            rw [hvn] at hOv ⊢
            have hXv := (hkv.block K (lt_of_blk hK.out) (by simpa using hKb.out)).trans hK.out
            have hsv : Keeps [K] vv2 (vv2.setCell ⟨K, 3, none⟩ (.slice va2 vn2 vc2)) := (Keeps.refl _ _).setCell (.inr (by simp)) _
            have hYv : (vv2.setCell ⟨K, 3, none⟩ (.slice va2 vn2 vc2)).heap[K]? = some (.cells #[.int .i64 p0, .int .i64 p1, .slice va1 vn1 vc1, .slice va2 vn2 vc2, .slice none 0 0] tC (0, 0)) := by simp [World.setCell, Array.getElem?_modify, hXv]
            have hRw := hRv.other hsv hXv tC_r tC_b
            have hnv := (Nd.of_O hOv).keepS hsv (tag_Cl hXv)
            have hnn1 := (hn1.out.keepS hkv (fun b hb cs f e => by simp only [List.mem_singleton] at hb; subst hb; obtain ⟨rc, hrc⟩ := hR.out.tag; rw [hrc] at e; cases e)).keepS hsv (tag_Cl hXv)
            have hkn := Lib.hid ((hkK.out.trans hkv).fresh hsv (fun b hb => by simp only [List.mem_singleton] at hb; subst hb; exact .inr hwK.out))
            obtain ⟨c0, c1, c2, c3, c4, cf, cl⟩ := cl5 hXv
            clear hK hR hkK hn1
            have hK := Lib.hid hYv
            have hR := Lib.hid hRw
            have hkK := hkn
            have hn2 := Lib.hid hnv
            have hn1 := Lib.hid hnn1
            replace hvn := Lib.hid hvn
            clear hXv hsv hYv hRw hnv hkn hRv hkv hOv hnn1
            go_upto_region 19 with fail
            generalize (vv2.setCell ⟨K, 3, none⟩ (.slice va2 vn2 vc2)) = Wl3 at *
            clear c0 c1 c2 c3 c4 cf cl
            obtain ⟨c0, c1, c2, c3, c4, cf, cl⟩ := cl5 hK.out
            go_wp2_with fail
            refine (hc5.out _ hR.out).mono ?_
            rintro e vv3 ⟨v, rfl, hOv, hRv, hkv⟩
            clear c0 c1 c2 c3 c4 cf cl
            obtain ⟨va3, vc3, rfl⟩ := hOv.form
            obtain ⟨vn3, hvn⟩ : ∃ n, L3.length = n := ⟨_, rfl⟩
            rw [hvn] at hOv ⊢
            have hXv := (hkv.block K (lt_of_blk hK.out) (by simpa using hKb.out)).trans hK.out
            have hsv : Keeps [K] vv3 (vv3.setCell ⟨K, 4, none⟩ (.slice va3 vn3 vc3)) := (Keeps.refl _ _).setCell (.inr (by simp)) _
            have hYv : (vv3.setCell ⟨K, 4, none⟩ (.slice va3 vn3 vc3)).heap[K]? = some (.cells #[.int .i64 p0, .int .i64 p1, .slice va1 vn1 vc1, .slice va2 vn2 vc2, .slice va3 vn3 vc3] tC (0, 0)) := by simp [World.setCell, Array.getElem?_modify, hXv]
            have hRw := hRv.other hsv hXv tC_r tC_b
            have hnv := (Nd.of_O hOv).keepS hsv (tag_Cl hXv)
            have hnn1 := (hn1.out.keepS hkv (fun b hb cs f e => by simp only [List.mem_singleton] at hb; subst hb; obtain ⟨rc, hrc⟩ := hR.out.tag; rw [hrc] at e; cases e)).keepS hsv (tag_Cl hXv)
            have hnn2 := (hn2.out.keepS hkv (fun b hb cs f e => by simp only [List.mem_singleton] at hb; subst hb; obtain ⟨rc, hrc⟩ := hR.out.tag; rw [hrc] at e; cases e)).keepS hsv (tag_Cl hXv)
            have hkn := Lib.hid ((hkK.out.trans hkv).fresh hsv (fun b hb => by simp only [List.mem_singleton] at hb; subst hb; exact .inr hwK.out))
            obtain ⟨c0, c1, c2, c3, c4, cf, cl⟩ := cl5 hXv
            clear hK hR hkK hn1 hn2
            have hK := Lib.hid hYv
            have hR := Lib.hid hRw
            have hkK := hkn
            have hn3 := Lib.hid hnv
            have hn1 := Lib.hid hnn1
            have hn2 := Lib.hid hnn2
            replace hvn := Lib.hid hvn
            clear hXv hsv hYv hRw hnv hkn hRv hkv hOv hnn1 hnn2
            go_upto_region 20 with fail
            generalize (vv3.setCell ⟨K, 4, none⟩ (.slice va3 vn3 vc3)) = Wl4 at *
            clear c0 c1 c2 c3 c4 cf cl
            have hDK := hD.out.ref hkK.out hR.out
            obtain ⟨k0, k1, k2, k3, k4, kf, kl⟩ := cl5 hK.out
            obtain ⟨c0, c1, c2, c3, c4, c5, c6, cf, cl⟩ := cl7 hDK.x
            simp only [slv] at c0 c1 c2 c3 c4 c5 c6
            have hkM := (Keeps.refl [] Wl4).alloc (.cells #[.int .i64 p0, .int .i64 p1, .slice va1 vn1 vc1, .slice va2 vn2 vc2, .slice va3 vn3 vc3] tC)
            have hmade := Sh.R.made shC Wl4 [(⟨p0, p1, (va1, vn1, vc1), (va2, vn2, vc2), (va3, vn3, vc3)⟩ : ClV)] #[.int .i64 p0, .int .i64 p1, .slice va1 vn1 vc1, .slice va2 vn2 vc2, .slice va3 vn3 vc3] tC rfl (by simp [maxLen]) 1 rfl
            have hDM := hDK.keeps hkM
            have hPM : CRt (Wl4.alloc (.cells #[.int .i64 p0, .int .i64 p1, .slice va1 vn1 vc1, .slice va2 vn2 vc2, .slice va3 vn3 vc3] tC)) ⟨p0, p1, (va1, vn1, vc1), (va2, vn2, vc2), (va3, vn3, vc3)⟩ ⟨p0, p1, L1, L2, L3⟩ := ⟨rfl, rfl, hn1.out.keeps hkM, hn2.out.keeps hkM, hn3.out.keeps hkM⟩
            have hszM : X + 1 ≤ (Wl4.alloc (.cells #[.int .i64 p0, .int .i64 p1, .slice va1 vn1 vc1, .slice va2 vn2 vc2, .slice va3 vn3 vc3] tC)).heap.size := lt_of_blk hDM.x
            replace hmade := Lib.hid hmade
            replace hDM := Lib.hid hDM
            replace hPM := Lib.hid hPM
            clear hDK hkM hD hR hkK hK hn1 hn2 hn3
            go_wp2_with (first
              | (at_builtin; (refine Sh.wpl_app shC (X + 1) infoC rfl Try.underlying28 (.slice ca NC cc) (.slice (some ⟨Wl4.heap.size, 0, none⟩) 1 1) XC [(⟨p0, p1, (va1, vn1, vc1), (va2, vn2, vc2), (va3, vn3, vc3)⟩ : ClV)] rfl _ _ rfl rfl rfl hDM.out.c hmade.out (by rw [hNC.out]; simp only [List.length_singleton]; omega) hszM ?_; intro vz wz hOz hGz; obtain ⟨za, zc, rfl⟩ := hOz.form; have hlz : (XC ++ [(⟨p0, p1, (va1, vn1, vc1), (va2, vn2, vc2), (va3, vn3, vc3)⟩ : ClV)]).length = NC + 1 := (by simp [hNC.out]); rw [hlz] at hOz hGz ⊢; obtain ⟨hxz, hDz⟩ := hDM.out.pushC (v := (za, NC + 1, zc)) hOz hGz hPM.out; obtain ⟨b0, b1, b2, b3, b4, b5, b6, bf, bl⟩ := cl7 hxz; replace hDz := Lib.hid hDz; replace hlz := Lib.hid hlz; clear hOz hGz hDM hPM hmade hxz))
              | fail)
            go_roundw
            case rel => exact ⟨k + 1, za, zc, XC ++ [⟨p0, p1, (va1, vn1, vc1), (va2, vn2, vc2), (va3, vn3, vc3)⟩], P ++ [⟨p0, p1, L1, L2, L3⟩], t5, rfl, by omega, by rw [hlz.out]; exact hDz, Lib.hid (by rw [hlz.out]; have := hLk.out; omega), hstep⟩
            case measure => simp [intOf]; omega
          · have hsb : (sk.2 == 0) = false := by simpa using hs
            have hend : P = PP ∧ sk = s7 := by
              have := hrk.out
              rw [hj] at this
              unfold rPc at this
              rw [if_neg hs] at this
              exact Prod.mk.inj this
            have hDe : Hid (DcS w wr Z X br s7 z0 z1 (n0, n1, n2) (aa, NA, ac) (ca, XC.length, cc) XA YY XC PP) := Lib.hid (by rw [hNC.out, ← hend.1, ← hend.2]; exact hD.out)
            have hLe : Hid (XC.length ≤ 1024) := Lib.hid (by have h1 := hLk.out; have h2 := hNC.out; omega)
            replace hs := Lib.hid hs
            replace hend := Lib.hid hend
            replace hj := Lib.hid hj
            replace hj2 := Lib.hid hj2
            go_wp2
            go_meet
            case rel => exact ⟨ca, cc, XC, hLe, hDe⟩
        · have hlt3 : ¬ ((k : Int) < M) := by omega
          have hlt4 : decide ((k : Int) < (M : Int)) = false := by simp; omega
          have hend : P = PP ∧ sk = s7 := by
            have := hrk.out
            rw [show M - k = 0 by omega] at this
            exact Prod.mk.inj this
          have hDe : Hid (DcS w wr Z X br s7 z0 z1 (n0, n1, n2) (aa, NA, ac) (ca, XC.length, cc) XA YY XC PP) := Lib.hid (by rw [hNC.out, ← hend.1, ← hend.2]; exact hD.out)
          have hLe : Hid (XC.length ≤ 1024) := Lib.hid (by have h1 := hLk.out; have h2 := hNC.out; omega)
          replace hend := Lib.hid hend
          go_wp2
          go_meet
          case rel => exact ⟨ca, cc, XC, hLe, hDe⟩
    case rest =>
      clear hD
      obtain ⟨ca, cc, XC, hLC, hD⟩ := hcut
      obtain ⟨NC, hNC⟩ : ∃ n, XC.length = n := ⟨_, rfl⟩
      rw [hNC] at hD hLC
      replace hNC := Lib.hid hNC
      obtain ⟨vr, d0, d1, df0, df1, dl⟩ := hD.out.r.cell
      obtain ⟨c0, c1, c2, c3, c4, c5, c6, cf, cl⟩ := cl7 hD.out.x
      simp only [slv] at c0 c1 c2 c3 c4 c5 c6
      go_upto_region 21 with fail
      by_cases hs7 : s7.2 = 0
      case neg =>
        have hsb : (s7.2 != 0) = true := by simpa using hs7
        have hnone : Hid (decS l = none) := Lib.hid (by rw [hdec.out, if_neg (fun h => hs7 h.1)])
        replace hs7 := Lib.hid hs7
        refine Free.wp_region_chain (fun i => i == 7 || i == 12 || i == 13) (fun i => true) (fun _ _ => False) (by kernel_rfl) (by kernel_rfl) (by kernel_rfl) ?_
        (repeat (first | (apply Free.cw_pure rfl rfl; (intro w'; go_simp <;> exact rfl); go_frame) | (apply Free.cw_steady rfl rfl rfl; (intro w' hS2; have q0 := Free.sx_cell hS2 d1 (fun _ _ hT => hT); have q1 := Free.sx_cell hS2 c0 (fun _ _ hT => hT); have q2 := Free.sx_cell hS2 c1 (fun _ _ hT => hT); have q3 := Free.sx_cell hS2 c2 (fun _ _ hT => hT); have q4 := Free.sx_cell hS2 c3 (fun _ _ hT => hT); have q5 := Free.sx_cell hS2 c4 (fun _ _ hT => hT); have q6 := Free.sx_cell hS2 c5 (fun _ _ hT => hT); have q7 := Free.sx_cell hS2 c6 (fun _ _ hT => hT); go_simp <;> exact rfl); go_frame) | (apply Free.cw_pureW rfl rfl; (intro w'; go_simp <;> exact rfl); go_frame) | (apply Free.cw_steadyW rfl rfl rfl; (intro w' hS2; have q0 := Free.sx_cell hS2 d1 (fun _ _ hT => hT); have q1 := Free.sx_cell hS2 c0 (fun _ _ hT => hT); have q2 := Free.sx_cell hS2 c1 (fun _ _ hT => hT); have q3 := Free.sx_cell hS2 c2 (fun _ _ hT => hT); have q4 := Free.sx_cell hS2 c3 (fun _ _ hT => hT); have q5 := Free.sx_cell hS2 c4 (fun _ _ hT => hT); have q6 := Free.sx_cell hS2 c5 (fun _ _ hT => hT); have q7 := Free.sx_cell hS2 c6 (fun _ _ hT => hT); go_simp <;> exact rfl); go_frame) | (refine Free.cw_skip rfl ?_; go_frame)))
        refine Free.cw_nil ?_
        clear c0 c1 c2 c3 c4 c5 c6 cf cl d0 d1 df0 df1 dl
        have hDV := hD.out.keeps (Keeps.refl [] wc).drew
        generalize wc.drew = V at *
        obtain ⟨g0, g1, g2, g3, g4, g5, g6, gf, gl⟩ := cl7 hDV.z
        have hZX : Z < X := by have h1 := hDV.zb; have h2 := hDV.bx; omega
        replace hDV := Lib.hid hDV
        go_wp2
        obtain ⟨m1, m2⟩ := sc7 (.int .i64 0) (.int .i64 0) (.int .i64 0) (.int .u64 0) (.int .i64 0) (.slice none 0 0) (.slice none 0 0) hDV.out.z
        refine bodyPost_ret (results_ct7 rfl _ _ _ _ _ _ _ _ _ _ _ _ rfl m1) rfl ?_
        exact .inl ⟨hnone.out, rfl, hDV.out.k.fresh m2 (fun b hb => by simp only [List.mem_singleton] at hb; subst hb; exact .inr hDV.out.wz)⟩
      case pos =>
      have hsb : (s7.2 != 0) = false := by simpa using hs7
      have hcall := hcD.out wc.drew (hD.out.r.keeps (Keeps.refl [] wc).drew)
      obtain ⟨dn, hdn⟩ : ∃ n, doneE s7.1 s7.2 = n := ⟨_, rfl⟩
      rw [hdn] at hcall hdec
      replace hcall := Lib.hid hcall
      replace hdn := Lib.hid hdn
      by_cases hd0 : dn = 0
      case neg =>
        have hdb : (dn != 0) = true := by simpa using hd0
        have hnone : Hid (decS l = none) := Lib.hid (by rw [hdec.out, if_neg (fun h => hd0 h.2.1)])
        replace hs7 := Lib.hid hs7
        replace hd0 := Lib.hid hd0
        refine Free.wp_region_chain (fun i => i == 7 || i == 12 || i == 13) (fun i => true) (fun _ _ => False) (by kernel_rfl) (by kernel_rfl) (by kernel_rfl) ?_
        (repeat (first | (apply Free.cw_pure rfl rfl; (intro w'; go_simp <;> exact rfl); go_frame) | (apply Free.cw_steady rfl rfl rfl; (intro w' hS2; have q0 := Free.sx_cell hS2 d1 (fun _ _ hT => hT); have q1 := Free.sx_cell hS2 c0 (fun _ _ hT => hT); have q2 := Free.sx_cell hS2 c1 (fun _ _ hT => hT); have q3 := Free.sx_cell hS2 c2 (fun _ _ hT => hT); have q4 := Free.sx_cell hS2 c3 (fun _ _ hT => hT); have q5 := Free.sx_cell hS2 c4 (fun _ _ hT => hT); have q6 := Free.sx_cell hS2 c5 (fun _ _ hT => hT); have q7 := Free.sx_cell hS2 c6 (fun _ _ hT => hT); go_simp <;> exact rfl); go_frame) | (apply Free.cw_pureW rfl rfl; (intro w'; go_simp <;> exact rfl); go_frame) | (apply Free.cw_steadyW rfl rfl rfl; (intro w' hS2; have q0 := Free.sx_cell hS2 d1 (fun _ _ hT => hT); have q1 := Free.sx_cell hS2 c0 (fun _ _ hT => hT); have q2 := Free.sx_cell hS2 c1 (fun _ _ hT => hT); have q3 := Free.sx_cell hS2 c2 (fun _ _ hT => hT); have q4 := Free.sx_cell hS2 c3 (fun _ _ hT => hT); have q5 := Free.sx_cell hS2 c4 (fun _ _ hT => hT); have q6 := Free.sx_cell hS2 c5 (fun _ _ hT => hT); have q7 := Free.sx_cell hS2 c6 (fun _ _ hT => hT); go_simp <;> exact rfl); go_frame) | (refine Free.cw_skip rfl ?_; go_frame)))
        refine Free.cw_loudW rfl rfl (fun K hK => ?_)
        go_wp2_with fail
        refine hcall.out.mono ?_
        rintro e wq ⟨rfl, hwq⟩
        obtain rfl := hwq
        refine hK _ _ rfl (Free.KeepsP.refl _ _) ?_
        clear hK K
        (repeat (first | (apply Free.cw_pure rfl rfl; (intro w'; go_simp <;> exact rfl); go_frame) | (apply Free.cw_steady rfl rfl rfl; (intro w' hS2; have q0 := Free.sx_cell hS2 d1 (fun _ _ hT => hT); have q1 := Free.sx_cell hS2 c0 (fun _ _ hT => hT); have q2 := Free.sx_cell hS2 c1 (fun _ _ hT => hT); have q3 := Free.sx_cell hS2 c2 (fun _ _ hT => hT); have q4 := Free.sx_cell hS2 c3 (fun _ _ hT => hT); have q5 := Free.sx_cell hS2 c4 (fun _ _ hT => hT); have q6 := Free.sx_cell hS2 c5 (fun _ _ hT => hT); have q7 := Free.sx_cell hS2 c6 (fun _ _ hT => hT); go_simp <;> exact rfl); go_frame) | (apply Free.cw_pureW rfl rfl; (intro w'; go_simp <;> exact rfl); go_frame) | (apply Free.cw_steadyW rfl rfl rfl; (intro w' hS2; have q0 := Free.sx_cell hS2 d1 (fun _ _ hT => hT); have q1 := Free.sx_cell hS2 c0 (fun _ _ hT => hT); have q2 := Free.sx_cell hS2 c1 (fun _ _ hT => hT); have q3 := Free.sx_cell hS2 c2 (fun _ _ hT => hT); have q4 := Free.sx_cell hS2 c3 (fun _ _ hT => hT); have q5 := Free.sx_cell hS2 c4 (fun _ _ hT => hT); have q6 := Free.sx_cell hS2 c5 (fun _ _ hT => hT); have q7 := Free.sx_cell hS2 c6 (fun _ _ hT => hT); go_simp <;> exact rfl); go_frame) | (refine Free.cw_skip rfl ?_; go_frame)))
        refine Free.cw_nil ?_
        clear c0 c1 c2 c3 c4 c5 c6 cf cl d0 d1 df0 df1 dl
        have hDV := hD.out.keeps (Keeps.refl [] wc).drew
        generalize wc.drew = V at *
        obtain ⟨g0, g1, g2, g3, g4, g5, g6, gf, gl⟩ := cl7 hDV.z
        have hZX : Z < X := by have h1 := hDV.zb; have h2 := hDV.bx; omega
        replace hDV := Lib.hid hDV
        go_wp2
        obtain ⟨m1, m2⟩ := sc7 (.int .i64 0) (.int .i64 0) (.int .i64 0) (.int .u64 0) (.int .i64 0) (.slice none 0 0) (.slice none 0 0) hDV.out.z
        refine bodyPost_ret (results_ct7 rfl _ _ _ _ _ _ _ _ _ _ _ _ rfl m1) rfl ?_
        exact .inl ⟨hnone.out, rfl, hDV.out.k.fresh m2 (fun b hb => by simp only [List.mem_singleton] at hb; subst hb; exact .inr hDV.out.wz)⟩
      case pos =>
      subst hd0
      obtain ⟨cx, hcx⟩ : ∃ c : Ct, (⟨z0, z1, (n0, n1, n2), YY, PP⟩ : Ct) = c := ⟨_, rfl⟩
      have hcw : CtW wc ⟨z0, z1, n0, n1, n2, (aa, NA, ac), (ca, NC, cc)⟩ cx := by rw [← hcx]; exact ⟨rfl, rfl, rfl, rfl, rfl, ⟨XA, hD.out.a.r, hD.out.la.lrd⟩, hD.out.rc.lc hD.out.c.r⟩
      rw [hcx] at hwt hfit hdec
      have hen := encodeS_c wc.drew _ cx (hcw.keeps (Keeps.refl [] wc).drew) hfit.out hwt.out
      simp only [ctV, slv] at hen
      have hl0 := Lib.hid ((h.out.keeps hD.out.k).keeps (Keeps.refl [] wc).drew)
      obtain ⟨EL, hEL⟩ : ∃ x, encCt cx = x := ⟨_, rfl⟩
      rw [hEL] at hen hdec
      have hdec2 : decS l = if EL = l then some cx else none := by
        rw [hdec.out]
        by_cases h : EL = l
        · rw [if_pos ⟨hs7, rfl, h⟩, if_pos h]
        · rw [if_neg (fun x => h x.2.2), if_neg h]
      obtain ⟨sl, hsl⟩ : ∃ x, Hid (str l = x) := ⟨_, Lib.hid rfl⟩
      replace hen := Lib.hid hen
      replace hEL := Lib.hid hEL
      replace hcx := Lib.hid hcx
      replace hdec2 := Lib.hid hdec2
      replace hs7 := Lib.hid hs7
      clear hcw hdec
      refine Free.wp_region_chain (fun i => i == 7 || i == 12 || i == 13) (fun i => true) (fun _ _ => False) (by kernel_rfl) (by kernel_rfl) (by kernel_rfl) ?_
      (repeat (first | (apply Free.cw_pure rfl rfl; (intro w'; go_simp <;> exact rfl); go_frame) | (apply Free.cw_steady rfl rfl rfl; (intro w' hS2; have q0 := Free.sx_cell hS2 d1 (fun _ _ hT => hT); have q1 := Free.sx_cell hS2 c0 (fun _ _ hT => hT); have q2 := Free.sx_cell hS2 c1 (fun _ _ hT => hT); have q3 := Free.sx_cell hS2 c2 (fun _ _ hT => hT); have q4 := Free.sx_cell hS2 c3 (fun _ _ hT => hT); have q5 := Free.sx_cell hS2 c4 (fun _ _ hT => hT); have q6 := Free.sx_cell hS2 c5 (fun _ _ hT => hT); have q7 := Free.sx_cell hS2 c6 (fun _ _ hT => hT); go_simp <;> exact rfl); go_frame) | (apply Free.cw_pureW rfl rfl; (intro w'; go_simp <;> exact rfl); go_frame) | (apply Free.cw_steadyW rfl rfl rfl; (intro w' hS2; have q0 := Free.sx_cell hS2 d1 (fun _ _ hT => hT); have q1 := Free.sx_cell hS2 c0 (fun _ _ hT => hT); have q2 := Free.sx_cell hS2 c1 (fun _ _ hT => hT); have q3 := Free.sx_cell hS2 c2 (fun _ _ hT => hT); have q4 := Free.sx_cell hS2 c3 (fun _ _ hT => hT); have q5 := Free.sx_cell hS2 c4 (fun _ _ hT => hT); have q6 := Free.sx_cell hS2 c5 (fun _ _ hT => hT); have q7 := Free.sx_cell hS2 c6 (fun _ _ hT => hT); go_simp <;> exact rfl); go_frame) | (refine Free.cw_skip rfl ?_; go_frame)))
      refine Free.cw_loudW rfl rfl (fun K hK => ?_)
      go_wp2_with fail
      refine hcall.out.mono ?_
      rintro e wq ⟨rfl, hwq⟩
      obtain rfl := hwq
      refine hK _ _ rfl (Free.KeepsP.refl _ _) ?_
      clear hK K
      (repeat (first | (apply Free.cw_pure rfl rfl; (intro w'; go_simp <;> exact rfl); go_frame) | (apply Free.cw_steady rfl rfl rfl; (intro w' hS2; have q0 := Free.sx_cell hS2 d1 (fun _ _ hT => hT); have q1 := Free.sx_cell hS2 c0 (fun _ _ hT => hT); have q2 := Free.sx_cell hS2 c1 (fun _ _ hT => hT); have q3 := Free.sx_cell hS2 c2 (fun _ _ hT => hT); have q4 := Free.sx_cell hS2 c3 (fun _ _ hT => hT); have q5 := Free.sx_cell hS2 c4 (fun _ _ hT => hT); have q6 := Free.sx_cell hS2 c5 (fun _ _ hT => hT); have q7 := Free.sx_cell hS2 c6 (fun _ _ hT => hT); go_simp <;> exact rfl); go_frame) | (apply Free.cw_pureW rfl rfl; (intro w'; go_simp <;> exact rfl); go_frame) | (apply Free.cw_steadyW rfl rfl rfl; (intro w' hS2; have q0 := Free.sx_cell hS2 d1 (fun _ _ hT => hT); have q1 := Free.sx_cell hS2 c0 (fun _ _ hT => hT); have q2 := Free.sx_cell hS2 c1 (fun _ _ hT => hT); have q3 := Free.sx_cell hS2 c2 (fun _ _ hT => hT); have q4 := Free.sx_cell hS2 c3 (fun _ _ hT => hT); have q5 := Free.sx_cell hS2 c4 (fun _ _ hT => hT); have q6 := Free.sx_cell hS2 c5 (fun _ _ hT => hT); have q7 := Free.sx_cell hS2 c6 (fun _ _ hT => hT); go_simp <;> exact rfl); go_frame) | (refine Free.cw_skip rfl ?_; go_frame)))
      refine Free.cw_loudW rfl rfl (fun K hK => ?_)
      go_wp2_with fail
      refine hen.out.mono ?_
      rintro ee V1 ⟨vb, rfl, hSb, hkb⟩
      refine hK _ _ rfl (Free.KeepsP.of hkb (by simp)) ?_
      clear hK K
      have hrb := run_str hSb
      have hkF := Lib.hid ((Keeps.refl [] wc).drew.trans hkb)
      obtain ⟨ab, cb, rfl⟩ := hSb.form
      obtain ⟨NB, hNB⟩ : ∃ n, EL.length = n := ⟨_, rfl⟩
      rw [hNB] at hrb ⊢
      obtain ⟨sb, hsb2⟩ : ∃ x, str EL = x := ⟨_, rfl⟩
      rw [hsb2] at hrb
      have hcmp : (sb.toList == sl.toList) = decide (EL = l) := by
        rw [← hsb2, ← hsl.out]
        have : (EL == l) = decide (EL = l) := by rw [Bool.eq_iff_iff]; simp
        simp [str, this]
      replace hNB := Lib.hid hNB
      replace hsb2 := Lib.hid hsb2
      clear hSb hkb hen
      refine Free.cw_loudW rfl rfl (fun K hK => ?_)
      go_wp2
      refine hK _ _ rfl (Free.KeepsP.refl _ _) ?_
      clear hK K hrb
      by_cases hel : EL = l
      · rw [decide_eq_true hel] at hcmp
        have hsome : Hid (decS l = some cx) := Lib.hid (hdec2.out.trans (if_pos hel))
        replace hel := Lib.hid hel
        (repeat (first | (apply Free.cw_pure rfl rfl; (intro w'; go_simp <;> exact rfl); go_frame) | (apply Free.cw_steady rfl rfl rfl; (intro w' hS2; have q0 := Free.sx_cell hS2 d1 (fun _ _ hT => hT); have q1 := Free.sx_cell hS2 c0 (fun _ _ hT => hT); have q2 := Free.sx_cell hS2 c1 (fun _ _ hT => hT); have q3 := Free.sx_cell hS2 c2 (fun _ _ hT => hT); have q4 := Free.sx_cell hS2 c3 (fun _ _ hT => hT); have q5 := Free.sx_cell hS2 c4 (fun _ _ hT => hT); have q6 := Free.sx_cell hS2 c5 (fun _ _ hT => hT); have q7 := Free.sx_cell hS2 c6 (fun _ _ hT => hT); have hrs := run_str (hl0.out.keeps (hS2.to (Keeps.refl [] _) (fun b h => by obtain ⟨_, _, _, h⟩ := h; exact h.elim))); rw [hsl.out] at hrs; go_simp <;> exact rfl); go_frame) | (apply Free.cw_pureW rfl rfl; (intro w'; go_simp <;> exact rfl); go_frame) | (apply Free.cw_steadyW rfl rfl rfl; (intro w' hS2; have q0 := Free.sx_cell hS2 d1 (fun _ _ hT => hT); have q1 := Free.sx_cell hS2 c0 (fun _ _ hT => hT); have q2 := Free.sx_cell hS2 c1 (fun _ _ hT => hT); have q3 := Free.sx_cell hS2 c2 (fun _ _ hT => hT); have q4 := Free.sx_cell hS2 c3 (fun _ _ hT => hT); have q5 := Free.sx_cell hS2 c4 (fun _ _ hT => hT); have q6 := Free.sx_cell hS2 c5 (fun _ _ hT => hT); have q7 := Free.sx_cell hS2 c6 (fun _ _ hT => hT); have hrs := run_str (hl0.out.keeps (hS2.to (Keeps.refl [] _) (fun b h => by obtain ⟨_, _, _, h⟩ := h; exact h.elim))); rw [hsl.out] at hrs; go_simp <;> exact rfl); go_frame) | (refine Free.cw_skip rfl ?_; go_frame)))
        refine Free.cw_nil ?_
        clear c0 c1 c2 c3 c4 c5 c6 cf cl d0 d1 df0 df1 dl
        have hDV := hD.out.keeps hkF.out
        obtain ⟨c0, c1, c2, c3, c4, c5, c6, cf, cl⟩ := cl7 hDV.x
        simp only [slv] at c0 c1 c2 c3 c4 c5 c6
        obtain ⟨g0, g1, g2, g3, g4, g5, g6, gf, gl⟩ := cl7 hDV.z
        have hZX : Z ≠ X := by have h1 := hDV.zb; have h2 := hDV.bx; omega
        have hDV := Lib.hid hDV
        replace hcmp := Lib.hid hcmp
        go_wp2
        obtain ⟨m1, m2⟩ := sc7 (.int .i64 z0) (.int .i64 z1) (.int .i64 n0) (.int .u64 n1) (.int .i64 n2) (.slice aa NA ac) (.slice ca NC cc) hDV.out.z
        have hzb := hDV.out.zb
        have hbx := hDV.out.bx
        have hwz := hDV.out.wz
        refine bodyPost_ret (results_ct7 rfl _ _ _ _ _ _ _ _ _ _ _ _ rfl m1) rfl ?_
        refine .inr ⟨⟨z0, z1, n0, n1, n2, (aa, NA, ac), (ca, NC, cc)⟩, cx, XA, XC, hsome.out, rfl, ?_, ?_⟩
        · rw [← hcx.out]
          refine ⟨rfl, rfl, rfl, rfl, rfl, (hDV.out.a.keepS m2 (fun b hb e => ?_)).lowD (by omega), hDV.out.la.ki (m2.ki (fun b hb cs f e => ?_)), (hDV.out.c.keepS m2 (fun b hb e => ?_)).lowD (by omega), hDV.out.rc.keepS m2 (fun b hb cs f e => ?_)⟩
          · simp only [List.mem_singleton] at hb; have := hDV.out.a.ge _ e; omega
          · simp only [List.mem_singleton] at hb; subst hb; rw [hDV.out.z] at e; cases e
          · simp only [List.mem_singleton] at hb; have := hDV.out.c.ge _ e; omega
          · simp only [List.mem_singleton] at hb; subst hb; rw [hDV.out.z] at e; cases e
        · exact hDV.out.k.fresh m2 (fun b hb => by simp only [List.mem_singleton] at hb; subst hb; exact .inr hwz)
      · rw [decide_eq_false hel] at hcmp
        have hnone : Hid (decS l = none) := Lib.hid (hdec2.out.trans (if_neg hel))
        replace hel := Lib.hid hel
        (repeat (first | (apply Free.cw_pure rfl rfl; (intro w'; go_simp <;> exact rfl); go_frame) | (apply Free.cw_steady rfl rfl rfl; (intro w' hS2; have q0 := Free.sx_cell hS2 d1 (fun _ _ hT => hT); have q1 := Free.sx_cell hS2 c0 (fun _ _ hT => hT); have q2 := Free.sx_cell hS2 c1 (fun _ _ hT => hT); have q3 := Free.sx_cell hS2 c2 (fun _ _ hT => hT); have q4 := Free.sx_cell hS2 c3 (fun _ _ hT => hT); have q5 := Free.sx_cell hS2 c4 (fun _ _ hT => hT); have q6 := Free.sx_cell hS2 c5 (fun _ _ hT => hT); have q7 := Free.sx_cell hS2 c6 (fun _ _ hT => hT); have hrs := run_str (hl0.out.keeps (hS2.to (Keeps.refl [] _) (fun b h => by obtain ⟨_, _, _, h⟩ := h; exact h.elim))); rw [hsl.out] at hrs; go_simp <;> exact rfl); go_frame) | (apply Free.cw_pureW rfl rfl; (intro w'; go_simp <;> exact rfl); go_frame) | (apply Free.cw_steadyW rfl rfl rfl; (intro w' hS2; have q0 := Free.sx_cell hS2 d1 (fun _ _ hT => hT); have q1 := Free.sx_cell hS2 c0 (fun _ _ hT => hT); have q2 := Free.sx_cell hS2 c1 (fun _ _ hT => hT); have q3 := Free.sx_cell hS2 c2 (fun _ _ hT => hT); have q4 := Free.sx_cell hS2 c3 (fun _ _ hT => hT); have q5 := Free.sx_cell hS2 c4 (fun _ _ hT => hT); have q6 := Free.sx_cell hS2 c5 (fun _ _ hT => hT); have q7 := Free.sx_cell hS2 c6 (fun _ _ hT => hT); have hrs := run_str (hl0.out.keeps (hS2.to (Keeps.refl [] _) (fun b h => by obtain ⟨_, _, _, h⟩ := h; exact h.elim))); rw [hsl.out] at hrs; go_simp <;> exact rfl); go_frame) | (refine Free.cw_skip rfl ?_; go_frame)))
        refine Free.cw_nil ?_
        clear c0 c1 c2 c3 c4 c5 c6 cf cl d0 d1 df0 df1 dl
        have hDV := hD.out.keeps hkF.out
        obtain ⟨g0, g1, g2, g3, g4, g5, g6, gf, gl⟩ := cl7 hDV.z
        have hZX : Z < X := by have h1 := hDV.zb; have h2 := hDV.bx; omega
        replace hDV := Lib.hid hDV
        go_wp2
        obtain ⟨m1, m2⟩ := sc7 (.int .i64 0) (.int .i64 0) (.int .i64 0) (.int .u64 0) (.int .i64 0) (.slice none 0 0) (.slice none 0 0) hDV.out.z
        refine bodyPost_ret (results_ct7 rfl _ _ _ _ _ _ _ _ _ _ _ _ rfl m1) rfl ?_
        exact .inl ⟨hnone.out, rfl, hDV.out.k.fresh m2 (fun b hb => by simp only [List.mem_singleton] at hb; subst hb; exact .inr hDV.out.wz)⟩
end Go.Proofs.Ytiplgpefapeapaa

namespace Go.Proofs.Ytiplgpefapeapaa
open Go.RowKit

/-- The bytes that are left, none after a failure. -/
def lft (s : RS) : Nat := if s.2 = 0 then s.1.length else 0
theorem readU_drop {l r : List UInt8} {n : Nat} (h : readU l = some (n, r)) : r.length + 1 ≤ l.length := by
  cases l with
  | nil => cases h
  | cons k t =>
    rcases Classical.em (k.toNat ≤ 8 ∧ k.toNat ≤ t.length ∧ (0 < k.toNat → t.headD 1 ≠ 0)) with hc | hc
    · rw [readU, if_pos hc] at h
      simp only [Option.some.injEq, Prod.mk.injEq] at h
      rw [← h.2]
      simp
    · rw [readU, if_neg hc] at h; cases h
theorem readB_drop {l r : List UInt8} {x : Bool} (h : readB l = some (x, r)) : r.length + 1 ≤ l.length := by
  cases l with
  | nil => cases h
  | cons k t =>
    rcases Classical.em (k.toNat ≤ 1) with hc | hc
    · rw [readB, if_pos hc] at h
      simp only [Option.some.injEq, Prod.mk.injEq] at h
      rw [← h.2]
      simp
    · rw [readB, if_neg hc] at h; cases h
theorem rU_err {s : RS} (h : s.2 ≠ 0) : rU s = (0, s) := by unfold rU; rw [if_neg h]
theorem rB_err {s : RS} (h : s.2 ≠ 0) : rB s = (false, s) := by unfold rB; rw [if_neg h]
theorem rI_err {s : RS} (h : s.2 ≠ 0) : rI s = (0, s) := by unfold rI; rw [rU_err h]; simp [uzig]
theorem rCS_err {K : Nat} {s : RS} (h : s.2 ≠ 0) : rCS K s = (0, s) := by unfold rCS; rw [if_neg h]
theorem rX_err {s : RS} (h : s.2 ≠ 0) : rX s = ((0, 0, 0), s) := by unfold rX; simp only [rI_err h, rU_err h]
/-- A read takes a byte, or fails. -/
theorem rU_step {s : RS} (h : s.2 = 0) : ((rU s).2.2 = 0 ∧ (rU s).2.1.length + 1 ≤ s.1.length) ∨ (rU s).2.2 ≠ 0 := by
  unfold rU
  rw [if_pos h]
  cases e : readU s.1 with
  | none => exact .inr (by simp)
  | some p => obtain ⟨x, r⟩ := p; exact .inl ⟨rfl, readU_drop e⟩
theorem rU_left (s : RS) : ((rU s).2.2 = 0 → s.2 = 0) ∧ lft (rU s).2 ≤ lft s := by
  by_cases h : s.2 = 0
  · refine ⟨fun _ => h, ?_⟩
    unfold lft
    rw [if_pos h]
    rcases rU_step h with ⟨h1, h2⟩ | h1
    · rw [if_pos h1]; omega
    · rw [if_neg h1]; omega
  · rw [rU_err h]; exact ⟨fun e => e, Nat.le_refl _⟩
theorem rI_left (s : RS) : ((rI s).2.2 = 0 → s.2 = 0) ∧ lft (rI s).2 ≤ lft s := rU_left s
theorem rB_left (s : RS) : ((rB s).2.2 = 0 → s.2 = 0) ∧ lft (rB s).2 ≤ lft s := by
  by_cases h : s.2 = 0
  · refine ⟨fun _ => h, ?_⟩
    unfold rB lft
    rw [if_pos h, if_pos h]
    cases e : readB s.1 with
    | none => simp
    | some p => obtain ⟨x, r⟩ := p; have := readB_drop e; simp; omega
  · rw [rB_err h]; exact ⟨fun e => e, Nat.le_refl _⟩
theorem rCS_left (K : Nat) (s : RS) : ((rCS K s).2.2 = 0 → s.2 = 0) ∧ lft (rCS K s).2 ≤ lft s := by
  by_cases h : s.2 = 0
  · refine ⟨fun _ => h, ?_⟩
    unfold rCS rCK lft
    rw [if_pos h, if_pos h]
    cases e : readU s.1 with
    | none => simp
    | some p =>
      obtain ⟨x, r⟩ := p
      have := readU_drop e
      simp only
      split
      · simp; omega
      · rename_i hc; simp [hc]
  · rw [rCS_err h]; exact ⟨fun e => e, Nat.le_refl _⟩
theorem rX_step {s : RS} (h : s.2 = 0) : ((rX s).2.2 = 0 ∧ (rX s).2.1.length + 3 ≤ s.1.length) ∨ (rX s).2.2 ≠ 0 := by
  unfold rX
  simp only
  by_cases h3 : (rI (rU (rI s).2).2).2.2 = 0
  · have e2 := (rI_left _).1 h3
    have e1 := (rU_left _).1 e2
    refine .inl ⟨h3, ?_⟩
    rcases rU_step h with ⟨a1, a2⟩ | a1
    · rcases rU_step e1 with ⟨b1, b2⟩ | b1
      · rcases rU_step e2 with ⟨c1, c2⟩ | c1
        · have a2' : (rI s).2.1.length + 1 ≤ s.1.length := a2
          have c2' : (rI (rU (rI s).2).2).2.1.length + 1 ≤ (rU (rI s).2).2.1.length := c2
          omega
        · exact absurd h3 c1
      · exact absurd e2 b1
    · exact absurd e1 a1
  · exact .inr h3
theorem rXs_app : ∀ (n : Nat) (s : RS) (L : List T3), rXs n s L = (L ++ (rXs n s []).1, (rXs n s []).2)
  | 0, s, L => by simp [rXs]
  | n + 1, s, L => by
    rw [rXs_succ, rXs_succ, rXs_app n _ (L ++ [(rX s).1]), rXs_app n _ ([] ++ [(rX s).1])]
    simp
theorem rXs_err {s : RS} (h : s.2 ≠ 0) : ∀ n, rXs n s [] = (List.replicate n (0, 0, 0), s)
  | 0 => rfl
  | n + 1 => by rw [rXs_succ, rXs_app, rX_err h, rXs_err h n]; simp [List.replicate_succ]
theorem openQ_in {m : Int} {qs : Qs} {x : T3} (h : (x.1, m, x.2.1) ∈ qs.map (·.1)) : openQ m qs x = qs := by unfold openQ; rw [if_pos h]
theorem openQ_mem (m : Int) (qs : Qs) (x : T3) : (x.1, m, x.2.1) ∈ (openQ m qs x).map (·.1) := by
  unfold openQ
  split
  · assumption
  · simp
theorem fold_same (m : Int) (x : T3) : ∀ (n : Nat) (qs : Qs), (x.1, m, x.2.1) ∈ qs.map (·.1) → (List.replicate n x).foldl (openQ m) qs = qs
  | 0, _, _ => rfl
  | n + 1, qs, h => by rw [List.replicate_succ, List.foldl_cons, openQ_in h]; exact fold_same m x n qs h
theorem fold_rep (m : Int) (x : T3) (n : Nat) (qs : Qs) : ((List.replicate n x).foldl (openQ m) qs).length ≤ qs.length + 1 := by
  cases n with
  | zero => simp
  | succ n =>
    rw [List.replicate_succ, List.foldl_cons, fold_same m x n _ (openQ_mem m qs x)]
    exact openQ_len m qs x
theorem fold_read (m : Int) : ∀ (n : Nat) (s : RS) (qs : Qs), s.2 = 0 → ((rXs n s []).1.foldl (openQ m) qs).length * 3 + lft (rXs n s []).2 ≤ qs.length * 3 + s.1.length + (if (rXs n s []).2.2 = 0 then 0 else 6)
  | 0, s, qs, h => by simp [rXs, lft, h]
  | n + 1, s, qs, h => by
    rw [rXs_succ, rXs_app]
    simp only [List.nil_append, List.foldl_append, List.foldl_cons, List.foldl_nil]
    have e0 := openQ_len m qs (rX s).1
    rcases rX_step h with ⟨h1, h2⟩ | h1
    · have ih := fold_read m n (rX s).2 (openQ m qs (rX s).1) h1
      omega
    · rw [rXs_err h1]
      simp only
      rw [if_neg h1]
      have e1 := fold_rep m (0, 0, 0) n (openQ m qs (rX s).1)
      have e2 : lft (rX s).2 = 0 := by unfold lft; rw [if_neg h1]
      omega
theorem answer_qs (t : Tr) (a : Ans) : (t.answer a).1.qs = t.qs ∨ (t.answer a).1.qs = a.ins.foldl (openQ a.m) (setQ a.q a t.qs) := by
  unfold Tr.answer
  split
  · exact .inl rfl
  split
  · exact .inl rfl
  split
  · exact .inl rfl
  split
  · exact .inl rfl
  split
  · exact .inl rfl
  unfold Tr.close
  split <;> exact .inr rfl
theorem answer_kn {t : Tr} {a : Ans} (h : a.kn = false) : (t.answer a).1.qs = t.qs := by
  unfold Tr.answer
  split
  · rfl
  split
  · rfl
  rfl
theorem rA_err {K : Nat} {s : RS} (h : (f7 s).2 ≠ 0) : (rA K s).ins = [] ∧ (rAx K s).2 = f7 s := by
  have e : rAn K s = (0, f7 s) := rCS_err h
  rw [rA_ins]
  unfold rAx
  rw [e]
  exact ⟨rfl, rfl⟩
theorem f4_err {s : RS} (h : s.2 ≠ 0) : f4 s = s := by unfold f4 f3 f2 f1; simp only [rI_err h, rU_err h]
theorem f7_err {s : RS} (h : s.2 ≠ 0) : f7 s = s := by unfold f7 f6 f5; simp only [f4_err h, rI_err h, rB_err h]
theorem rA_kn {K : Nat} {s : RS} (h : s.2 ≠ 0) : (rA K s).kn = false := by show (rB (f4 s)).1 = false; rw [f4_err h, rB_err h]
theorem f7_left (s : RS) : ((f7 s).2 = 0 → s.2 = 0) ∧ lft (f7 s) ≤ lft s := by
  have h1 := rI_left s
  have h2 := rI_left (f1 s)
  have h3 := rU_left (f2 s)
  have h4 := rI_left (f3 s)
  have h5 := rB_left (f4 s)
  have h6 := rB_left (f5 s)
  have h7 := rI_left (f6 s)
  refine ⟨fun e => h1.1 (h2.1 (h3.1 (h4.1 (h5.1 (h6.1 (h7.1 e)))))), ?_⟩
  have a1 : lft (f1 s) ≤ lft s := h1.2
  have a2 : lft (f2 s) ≤ lft (f1 s) := h2.2
  have a3 : lft (f3 s) ≤ lft (f2 s) := h3.2
  have a4 : lft (f4 s) ≤ lft (f3 s) := h4.2
  have a5 : lft (f5 s) ≤ lft (f4 s) := h5.2
  have a6 : lft (f6 s) ≤ lft (f5 s) := h6.2
  have a7 : lft (f7 s) ≤ lft (f6 s) := h7.2
  omega
/-- The invariant: what was read and what is left. -/
def Pot (s : RS) (t : Tr) : Prop := t.qs.length * 3 + lft s ≤ 603 + (if s.2 = 0 then 0 else 6)
theorem Pot.step {K : Nat} {s : RS} {t : Tr} (h : Pot s t) : Pot (rAx K s).2 (t.answer (rA K s)).1 := by
  unfold Pot at h ⊢
  by_cases h0 : s.2 = 0
  · rw [if_pos h0] at h
    have hf := f7_left s
    have hn := rCS_left K (f7 s)
    by_cases hc : (rAn K s).2.2 = 0
    · have hfr := fold_read (rA K s).m (rAn K s).1 (rAn K s).2 (setQ (rA K s).q (rA K s) t.qs) hc
      rw [setQ_length] at hfr
      have e1 : (rAn K s).2.1.length = lft (rAn K s).2 := by unfold lft; rw [if_pos hc]
      have e2 : lft (rAn K s).2 ≤ lft (f7 s) := hn.2
      have e3 : (rXs (rAn K s).1 (rAn K s).2 []) = rAx K s := rfl
      rw [e3] at hfr
      have hle : lft (rAx K s).2 ≤ lft s := by
        have hg := fold_ge (rA K s).m (rAx K s).1 (setQ (rA K s).q (rA K s) t.qs)
        rw [setQ_length] at hg
        by_cases he : (rAx K s).2.2 = 0
        · rw [if_pos he] at hfr; omega
        · unfold lft; rw [if_neg he]; omega
      rcases answer_qs t (rA K s) with e | e
      · rw [e]
        split <;> omega
      · rw [e, rA_ins]
        split at hfr <;> simp_all <;> omega
    · have e4 : rAx K s = ([], (rAn K s).2) := by
        unfold rAx
        have : (rAn K s).1 = 0 := by
          by_cases hz : (f7 s).2 = 0
          · show (rCS K (f7 s)).1 = 0
            have hc' : (rCS K (f7 s)).2.2 ≠ 0 := hc
            revert hc'
            unfold rCS rCK
            rw [if_pos hz]
            split
            · split
              · intro hc'; exact absurd rfl hc'
              · intro _; rfl
            · intro _; rfl
          · show (rCS K (f7 s)).1 = 0
            rw [rCS_err hz]
        rw [this]; rfl
      have e5 : lft (rAn K s).2 = 0 := by unfold lft; rw [if_neg hc]
      rw [e4]
      simp only
      rw [if_neg hc]
      rcases answer_qs t (rA K s) with e | e
      · rw [e]; omega
      · rw [e, rA_ins, e4]
        simp only [List.foldl_nil]
        rw [setQ_length]
        omega
  · rw [if_neg h0] at h
    have hf : f7 s = s := f7_err h0
    obtain ⟨e1, e2⟩ := rA_err (K := K) (s := s) (by rw [hf]; exact h0)
    rw [e2, hf, answer_kn (rA_kn h0), if_neg h0]
    exact h
theorem Pot.all {K told : Nat} {x : DS} (h : Pot x.1 x.2.1) : ∀ k s t b, dA K told x k = some (s, t, b) → Pot s t
  | 0, s, t, b, e => by cases e; exact h
  | k + 1, s, t, b, e => by
    have e' : (dA K told x k).bind (dS K told) = some (s, t, b) := e
    rw [Option.bind_eq_some_iff] at e'
    obtain ⟨⟨s0, t0, b0⟩, h1, h2⟩ := e'
    have ih := Pot.all h k s0 t0 b0 h1
    unfold dS at h2
    split at h2
    · cases h2
    · cases h2
      exact ih.step
theorem dbnd_small {l : List UInt8} (h : l.length ≤ 600) : DBnd l := by
  have hp : Pot (hX l).1 (hX l).2.1 := by
    show (Tr.new _ _ _).qs.length * 3 + lft (rCS l.length (h6 l)).2 ≤ _
    have a0 : lft (l, 0) = l.length := rfl
    have a1 : lft (h1 l) ≤ lft (l, 0) := (rI_left _).2
    have a2 : lft (h2 l) ≤ lft (h1 l) := (rI_left _).2
    have a3 : lft (h3 l) ≤ lft (h2 l) := (rI_left _).2
    have a4 : lft (h4 l) ≤ lft (h3 l) := (rU_left _).2
    have a5 : lft (h5 l) ≤ lft (h4 l) := (rI_left _).2
    have a6 : lft (h6 l) ≤ lft (h5 l) := (rU_left _).2
    have a7 := (rCS_left l.length (h6 l)).2
    show 1 * 3 + _ ≤ _
    omega
  have hq : ∀ s t, Pot s t → t.qs.length ≤ 203 := fun s t hpt => by
    unfold Pot at hpt
    split at hpt <;> omega
  have hN : hN l ≤ l.length := rCS_le _ _
  refine ⟨by omega, fun k s t b _ e => ?_, fun s t b e => ?_, by omega⟩
  · have h1 := hq s t (hp.all k s t b e)
    have h2 : (rA l.length s).ins.length ≤ l.length := by rw [rA_len]; exact rCS_le _ _
    omega
  · have h1 := hq s t (hp.all _ s t b e)
    omega
end Go.Proofs.Ytiplgpefapeapaa
