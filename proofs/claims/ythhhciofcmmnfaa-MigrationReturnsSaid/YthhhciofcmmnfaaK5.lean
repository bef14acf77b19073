/- Texts that the laws lean on, in the order in which they build. The reference's New; lists of operations in memory; Same. Operations on a new world and on its model. The chapter's example holds. The walks of all machines. What the walks are after a Locate or a Move: plain laws. The walk of MigrationCalls. The operations and ids among a law's arguments, opened. The walk of MigrationChains. The walk of MigrationLocates. -/
import Derived.Test.YthhhciofcmmnfaaK4
set_option linter.unusedVariables false
set_option linter.unusedSimpArgs false
namespace Go.Proofs.Ythhhciofcmmnfaa
open Go.RowKit

def NewLPost (w : World) (N : Int) (e : Ending) (w' : World) : Prop :=
  (¬(1 ≤ N ∧ N ≤ 8) ∧ e = .returned (.tuple #[refV 0 (.slice none 0 0), .int .i64 1]) ∧ Keeps [] w w') ∨ ((1 ≤ N ∧ N ≤ 8) ∧ e = .returned (.tuple #[refV N (.slice none 0 0), .int .i64 0]) ∧ Keeps [] w w')
set_option maxRecDepth 100000 in
set_option maxHeartbeats 1000000 in
theorem newR_c (w : World) (N : Int) : Calls Try.prog 23 #[.int .i64 N] w (NewLPost w N) := by
  have g1 := heap_alloc_new w zW
  have g3 := heap_alloc_new w (.cells #[.int .i64 N, .slice none 0 0] 27)
  have e1 : Keeps [] w (w.alloc zW) := (Keeps.refl _ _).alloc _
  have e2 : Keeps [] w (w.alloc (.cells #[.int .i64 N, .slice none 0 0] 27)) := (Keeps.refl _ _).alloc _
  replace g1 := Lib.hid g1
  replace g3 := Lib.hid g3
  replace e1 := Lib.hid e1
  replace e2 := Lib.hid e2
  by_cases h1 : N < 1
  · go_enter Try.func23, Try.ntmps23
    go_wp2
    refine bodyPost_ret (results_ref2 rfl _ _ _ _ _ _ _ rfl g1.out) ?_ ?_
    · rfl
    · exact .inl ⟨by omega, rfl, e1.out⟩
  by_cases h2 : 8 < N
  · go_enter Try.func23, Try.ntmps23
    go_wp2
    refine bodyPost_ret (results_ref2 rfl _ _ _ _ _ _ _ rfl g1.out) ?_ ?_
    · rfl
    · exact .inl ⟨by omega, rfl, e1.out⟩
  go_enter Try.func23, Try.ntmps23
  go_wp2
  refine bodyPost_ret (results_ref2 rfl _ _ _ _ _ _ _ rfl g3.out) ?_ ?_
  · rfl
  · exact .inr ⟨by omega, rfl, e2.out⟩
structure OpV where
  k : Nat
  A : Int
  B : Int
  a : Int
  s : Int
def OpR (_ : World) (cs : List Value) (x : OpV) : Prop := cs = [.int .u8 x.k, .int .i64 x.A, .int .i64 x.B, .int .i64 x.a, .int .i64 x.s] ∧ x.k < 256 ∧ W64 x.A ∧ W64 x.B ∧ W64 x.a ∧ W64 x.s
abbrev SOps (w : World) (v : Value) (L : List OpV) : Prop := Gen.SlR OpR 5 w v L
theorem SOps.keeps {w w' : World} {v : Value} {L : List OpV} (h : SOps w v L) (hk : Keeps [] w w') : SOps w' v L := Gen.SlR.keeps h hk fun _ _ h => h
theorem SOps.op {w : World} {v : Value} {L : List OpV} (h : SOps w v L) {k : Nat} (hk : k < L.length) : ∃ g o c, v = .slice (some ⟨g, o, none⟩) L.length c ∧ w.cell? ⟨g, o + k * 5, none⟩ = some (.int .u8 L[k].k) ∧ w.cell? ⟨g, o + k * 5 + 1, none⟩ = some (.int .i64 L[k].A) ∧
    w.cell? ⟨g, o + k * 5 + 2, none⟩ = some (.int .i64 L[k].B) ∧ w.cell? ⟨g, o + k * 5 + 3, none⟩ = some (.int .i64 L[k].a) ∧ w.cell? ⟨g, o + k * 5 + 4, none⟩ = some (.int .i64 L[k].s) ∧ L[k].k < 256 ∧ W64 L[k].a ∧ W64 L[k].s := by
  obtain ⟨g, o, c, xs, hv, hl, ⟨rfl, hok⟩, hc⟩ := Gen.SlR.elem h (by decide) hk
  exact ⟨g, o, c, hv, hc 0 _ rfl, hc 1 _ rfl, hc 2 _ rfl, hc 3 _ rfl, hc 4 _ rfl, hok.1, hok.2.2.2.1, hok.2.2.2.2⟩
def sameB : List Int → List Int → Bool := fun l m => l == m
set_option maxRecDepth 100000 in
set_option maxHeartbeats 2000000 in
theorem same_c (w : World) (v1 v2 : Value) (l m : List Int) (h1 : SlZ w v1 l) (h2 : SlZ w v2 m) :
    Calls Try.prog 16 #[v1, v2] w fun e w' => e = .returned (.bool (sameB l m)) ∧ Keeps [] w w' := by
  obtain ⟨a1, c1, rfl, hl1, hc1, hn1⟩ := h1.form
  obtain ⟨a2, c2, rfl, hl2, hc2, hn2⟩ := h2.form
  have e1 := fun k hk => h1.elem (k := k) hk
  have e2 := fun k hk => h2.elem (k := k) hk
  obtain ⟨M1, hM1⟩ : ∃ n, l.length = n := ⟨_, rfl⟩
  obtain ⟨M2, hM2⟩ : ∃ n, m.length = n := ⟨_, rfl⟩
  rw [hM1] at hl1 ⊢
  rw [hM2] at hl2 ⊢
  unfold maxLen at hc1 hc2
  obtain ⟨r, hr⟩ : ∃ b, sameB l m = b := ⟨_, rfl⟩
  rw [hr]
  unfold sameB at hr
  replace e1 := Lib.hid e1
  replace e2 := Lib.hid e2
  replace hM1 := Lib.hid hM1
  replace hM2 := Lib.hid hM2
  replace hr := Lib.hid hr
  clear h1 h2
  by_cases hne : M1 = M2
  · subst hne
    go_enter Try.func16, Try.ntmps16
    go_wp2
    go_loopw [5] (fun i wr => ∃ k : Nat, i = .int .i64 k ∧ k ≤ M1 ∧ (∀ j (h1 : j < l.length) (h2 : j < m.length), j < k → l[j] = m[j]) ∧ Keeps [] w wr) (fun i _ => M1 - (intOf i).toNat)
    case atStart => exact ⟨0, rfl, by omega, fun _ _ _ h => by omega, Keeps.refl _ _⟩
    case round =>
      obtain ⟨k, rfl, hk, hno, hkw⟩ := hrel
      replace hno := Lib.hid hno
      by_cases hlt : k < M1
      · obtain ⟨g, o, c', hv, f1⟩ := e1.out k (by rw [hM1.out]; exact hlt)
        cases hv
        obtain ⟨g', o', c', hv, f2⟩ := e2.out k (by rw [hM2.out]; exact hlt)
        cases hv
        obtain ⟨z1, hz1⟩ : ∃ z, l[k]'(by rw [hM1.out]; exact hlt) = z := ⟨_, rfl⟩
        obtain ⟨z2, hz2⟩ : ∃ z, m[k]'(by rw [hM2.out]; exact hlt) = z := ⟨_, rfl⟩
        rw [hz1] at f1
        rw [hz2] at f2
        replace f1 := hkw.val f1
        replace f2 := hkw.val f2
        replace hkw := Lib.hid hkw
        replace hz1 := Lib.hid hz1
        replace hz2 := Lib.hid hz2
        by_cases he : z1 = z2
        · subst he
          go_wp2
          (refine wp_region_quiet_lit (by kernel_rfl) (by kernel_rfl) ?_; (repeat (first | go_big_quiet_step (fail) | quiet_step (fail))); with_reducible refine wpQuiet_nil ?_; intro _ hw'; obtain ⟨nq, hw''⟩ := hw'; subst hw'')
          go_wp2
          go_roundw
          case rel => exact ⟨k + 1, rfl, by omega, fun j h1 h2 hj => by
              by_cases e : j = k
              · subst e; rw [hz1.out, hz2.out]
              · exact hno.out j h1 h2 (by omega), hkw.out.drewN _⟩
          case measure => simp [intOf]; omega
        · have heb : (z1 != z2) = true := by simpa using he
          go_wp2
          (refine wp_region_quiet_lit (by kernel_rfl) (by kernel_rfl) ?_; (repeat (first | go_big_quiet_step (fail) | quiet_step (fail))); with_reducible refine wpQuiet_nil ?_; intro _ hw'; obtain ⟨nq, hw''⟩ := hw'; subst hw'')
          go_wp2
          go_ret
          have hne : l ≠ m := fun e => he (by rw [← hz1.out, ← hz2.out]; simp only [e])
          exact ⟨by rw [← hr.out]; simp [hne], hkw.out.drewN _⟩
      · replace hkw := Lib.hid hkw
        go_wp2
        go_ret
        have : l = m := List.ext_getElem (by rw [hM1.out, hM2.out]) (fun j h1 h2 => hno.out j h1 h2 (by rw [hM1.out] at h1; omega))
        exact ⟨by rw [← hr.out, this]; simp, hkw.out⟩
  · have hnb : ((M1 : Int) != M2) = true := by simp; omega
    go_enter Try.func16, Try.ntmps16
    go_wp2
    go_ret
    have : l ≠ m := fun e => hne (by rw [← hM1.out, ← hM2.out, e])
    exact ⟨by rw [← hr.out]; simp [this], Keeps.refl _ _⟩
end Go.Proofs.Ythhhciofcmmnfaa

namespace Go.Proofs.Ythhhciofcmmnfaa
open Go.RowKit

/-- What operations do to an empty world. -/
inductive Runs (N : Int) : List OpV → Pt → List EntV → Prop
  | nil : Runs N [] (fun _ _ _ => 0) []
  | snoc {l : List OpV} {G G' : Pt} {L L' : List EntV} {x : OpV} {c c' : Int} (h : Runs N l G L) (o : OpRel (x.k % 6) N N G L x.A x.B x.a x.s c c' G' L') : Runs N (l ++ [x]) G' L'
theorem Runs.rel {N : Int} {l : List OpV} {G : Pt} {L : List EntV} (h : Runs N l G L) : Rel N G L := by
  induction h with
  | nil => exact Rel.zero N
  | snoc _ o ih => exact (OpRel.rel ih o).2
theorem OpRel.len {r : Nat} {N N0 : Int} {G G' : Pt} {L L' : List EntV} {A B a s c c' : Int} (ho : OpRel r N N0 G L A B a s c c' G' L') : L'.length ≤ L.length + 2 := by
  rcases ho with ⟨_, _, h⟩ | ⟨_, _, h⟩ | ⟨_, _, h⟩ | ⟨_, _, h⟩ | ⟨_, _, h⟩ | ⟨_, _, _, _, rfl⟩
  · rcases h with ⟨_, _, rfl⟩ | ⟨_, _, _, _, ⟨_, _, rfl⟩ | ⟨_, _, hw⟩⟩
    · omega
    · omega
    · have := hw.len; omega
  · rcases h with ⟨_, _, rfl⟩ | ⟨_, ⟨_, _, rfl⟩ | ⟨_, ⟨_, _, rfl⟩ | ⟨_, _, hw⟩⟩⟩
    · omega
    · omega
    · omega
    · have := hw.len; omega
  · rcases h with ⟨_, _, rfl⟩ | ⟨_, ⟨_, _, rfl⟩ | ⟨k, hk, _, _, ⟨_, _, rfl⟩ | ⟨_, _, _, rfl⟩ | ⟨_, _, _, L1, hw1, hw2⟩⟩⟩
    · omega
    · omega
    · omega
    · omega
    · have := hw1.len; have := hw2.len; omega
  · rcases h with ⟨_, _, rfl⟩ | ⟨_, ⟨_, _, rfl⟩ | ⟨_, _, _, _, ⟨_, _, rfl⟩ | ⟨_, _, hw⟩⟩⟩
    · omega
    · omega
    · omega
    · have := hw.len; omega
  · rcases h with ⟨_, _, rfl⟩ | ⟨_, ⟨_, _, rfl⟩ | ⟨k, hk, _, _, ⟨_, _, rfl⟩ | ⟨_, _, _, rfl⟩ | ⟨_, _, _, rfl⟩⟩⟩
    · omega
    · omega
    · omega
    · omega
    · simp; omega
  · omega
/-- What a run leaves. -/
def RunPost (w : World) (N : Int) (l : List OpV) (e : Ending) (w' : World) : Prop :=
  (¬(1 ≤ N ∧ N ≤ 8) ∧ e = .returned (.tuple #[.pointer none, refV 0 (.slice none 0 0), .bool true]) ∧ Keeps [] w w') ∨
  ((1 ≤ N ∧ N ≤ 8) ∧ ∃ bw bm n G v L, e = .returned (.tuple #[.pointer (some ⟨bw, 0, none⟩), refV N v, .bool true]) ∧ Runs N l G L ∧ WM w' bw bm n N G ∧ SlE w' v L ∧ (∃ p k q, v = .slice p k q) ∧ n ≤ 2 * l.length ∧ L.length ≤ 2 * l.length ∧ w.heap.size ≤ bw ∧ w.heap.size ≤ bm ∧ Keeps [] w w')
set_option maxRecDepth 100000 in
set_option maxHeartbeats 2000000 in
theorem run_c (w : World) (N : Int) (v0 : Value) (l : List OpV) (h : SOps w v0 l) (hl : l.length ≤ 400) :
    Calls Try.prog 11 #[.int .i64 N, v0] w (RunPost w N l) := by
  obtain ⟨a0, c0, rfl, hlc, hcm, _⟩ := Gen.SlR.form h
  obtain ⟨M, hM⟩ : ∃ N, l.length = N := ⟨_, rfl⟩
  rw [hM] at hlc hl ⊢
  replace hM := Lib.hid hM
  replace h := Lib.hid h
  have hkA : Keeps [] w (w.alloc zW) := (Keeps.refl _ _).alloc _
  have b1 := heap_alloc_new w zW
  have hA : (w.alloc zW).heap.size = w.heap.size + 1 := by simp
  replace b1 := Lib.hid b1
  replace hkA := Lib.hid hkA
  go_enter Try.func11, Try.ntmps11
  go_wp2_with fail
  generalize w.alloc zW = W at *
  refine (new_c W N).mono ?_
  rintro e w1 (⟨hNb, rfl, hk1⟩ | ⟨hNg, bw, bm, rfl, hWM, hk1, hbw, hbm⟩)
  · go_wp2_with fail
    refine (newR_c w1 N).mono ?_
    rintro e w2 (⟨_, rfl, hk2⟩ | ⟨hg, _⟩)
    · have b12 := ((hk1.trans hk2).block _ (lt_of_block b1.out) (by simp)).trans b1.out
      have hkx : Keeps [] w2 (w2.alloc zW) := (Keeps.refl _ _).alloc _
      have b13 := (hkx.block _ (lt_of_block b12) (by simp)).trans b12
      obtain ⟨r0, r1⟩ := cells2 b12
      have hrf := frozen2 b12
      obtain ⟨g1, g2⟩ := set2_all b13 (.int .i64 0) (.slice none 0 0)
      have hkf := (hkA.out.trans ((hk1.trans hk2).trans hkx)).fresh g2 (fun b hb => .inr (by simp at hb; omega))
      obtain ⟨q0, q1⟩ := cells2 b13
      have hqf := frozen2 b13
      have hmb := heap_alloc_new w2 zW
      obtain ⟨m0, m1⟩ := cells2 hmb
      have hlt := lt_of_block b12
      have hmlt : w2.heap.size < (w2.alloc zW).heap.size := by simp
      have hmw : w2.heap.size = w.heap.size → False := fun h => by omega
      replace g1 := Lib.hid g1
      replace g2 := Lib.hid g2
      replace hkf := Lib.hid hkf
      clear b12 b13 hkx hk1 hk2 hmb
      go_wp2
      generalize hw3 : w2.alloc zW = w3 at *
      clear hw3
      go_loopw [7, 11] (fun pw i wr => pw = .pointer none ∧ i = .int .i64 0 ∧ wr = w3) (fun _ _ _ => 0)
      case atStart => exact ⟨rfl, rfl, rfl⟩
      case round =>
        obtain ⟨rfl, rfl, rfl⟩ := hrel
        go_wp2
        refine Free.wp_region_chain (fun i => i == 3) (fun i => true) (fun _ b => b = w.heap.size) (by kernel_rfl) (by kernel_rfl) (by kernel_rfl) ?_
        (repeat (first | (apply Free.cw_pure rfl rfl; (intro w'; go_simp <;> exact rfl); go_frame) | (apply Free.cw_steady rfl rfl rfl; (intro w' hS; have q0 := Free.sx_cell hS m0 (fun _ _ hT => hmw hT); have q1 := Free.sx_cell hS m1 (fun _ _ hT => hmw hT); go_simp <;> exact rfl); go_frame) | (refine Free.cw_skip rfl ?_; go_frame)))
        refine Free.cw_loud rfl rfl (fun K hK => ?_)
        go_wp2
        refine hK _ _ rfl (Free.KeepsP.of g2.out.drews (fun b hb => by simpa using hb)) ?_
        clear hK K
        (repeat (apply Free.cw_pure rfl rfl; (intro w'; go_simp <;> exact rfl); go_frame))
        refine Free.cw_nil ?_
        go_wp2
        refine bodyPost_ret (results_refm rfl _ _ _ _ _ _ _ rfl g1.out) ?_ ?_
        · rfl
        · exact .inl ⟨hNb, rfl, hkf.out.drew⟩
    · exact absurd hg hNb
  · go_wp2_with fail
    refine (newR_c w1 N).mono ?_
    rintro e w2 (⟨hb, _⟩ | ⟨_, rfl, hk2⟩)
    · exact absurd hNg hb
    · have hkx : Keeps [] w2 (w2.alloc (.cells #[.int .i64 N, .slice none 0 0] 27)) := (Keeps.refl _ _).alloc _
      have hW2 := (hWM.keeps hk2).keeps hkx
      have hkW := (hk1.trans hk2).trans hkx
      have hmb0 := heap_alloc_new w2 (.cells #[.int .i64 N, .slice none 0 0] 27)
      have hmW : W.heap.size ≤ w2.heap.size := (hk1.trans hk2).size
      have hwW := lt_of_block b1.out
      obtain ⟨mb, hmbe⟩ : ∃ m, w2.heap.size = m := ⟨_, rfl⟩
      rw [hmbe] at hmb0 hmW
      replace hW2 := Lib.hid hW2
      replace hkW := Lib.hid hkW
      replace hmb0 := Lib.hid hmb0
      clear hk1 hk2 hWM hkx
      go_wp2
      generalize hw3 : w2.alloc (.cells #[.int .i64 N, .slice none 0 0] 27) = w3 at *
      clear hw3 hmbe
      go_loopw [7, 11] (fun pw iv wr => ∃ (k bwk bmk n : Nat) (G : Pt) (v : Value) (L : List EntV), pw = .pointer (some ⟨bwk, 0, none⟩) ∧ iv = .int .i64 k ∧ k ≤ M ∧ Runs N (l.take k) G L ∧ WM wr bwk bmk n N G ∧ SlE wr v L ∧ (∃ p z q, v = .slice p z q) ∧ n ≤ 2 * k ∧ L.length ≤ 2 * k ∧ W.heap.size ≤ bwk ∧ W.heap.size ≤ bmk ∧ wr.heap[mb]? = some (.cells #[.int .i64 N, v] 27 (0, 0)) ∧ Keeps [] W wr) (fun _ iv _ => M - (intOf iv).toNat)
      case atStart => exact ⟨0, bw, bm, 0, _, _, [], rfl, rfl, by omega, by rw [List.take_zero]; exact .nil, hW2.out, SlE.none _ _ _ (by simp) (by simp [maxLen]), ⟨_, _, _, rfl⟩, by omega, by simp, hbw, hbm, hmb0.out, hkW.out⟩
      case round =>
        obtain ⟨k, bwk, bmk, n, G, v, L, rfl, rfl, hk, hR, hWk, hS, ⟨p, z, q, rfl⟩, hn, hL, hbwk, hbmk, hmb, hkr⟩ := hrel
        obtain ⟨m0, m1⟩ := cells2 hmb
        have hmf := frozen2 hmb
        have hmlt := lt_of_block hmb
        have hmbm : mb ≠ bmk := fun e => by have := hWk.mp.noCells 0; rw [← e] at this; rw [m0] at this; cases this
        have hmbw : bwk ≠ mb := fun e => by
          have h1 := hWk.blk
          rw [e, hmb] at h1
          simp at h1
        have hb1r := (hkr.block _ hwW (by simp)).trans b1.out
        obtain ⟨r0, r1⟩ := cells2 hb1r
        have hrf := frozen2 hb1r
        have hwr := lt_of_block hb1r
        clear hW2 hkW hmb0
        by_cases hlt : k < M
        · have hkl : k < l.length := by rw [hM.out]; exact hlt
          obtain ⟨g, o, c', hv, x0, x1, x2, x3, x4, hk256, _, _⟩ := h.out.op hkl
          cases hv
          replace x0 := (hkA.out.trans hkr).val x0
          replace x1 := (hkA.out.trans hkr).val x1
          replace x2 := (hkA.out.trans hkr).val x2
          replace x3 := (hkA.out.trans hkr).val x3
          replace x4 := (hkA.out.trans hkr).val x4
          have hgl := lt_of_cell x0
          obtain ⟨X, hX⟩ : ∃ x, l[k] = x := ⟨_, rfl⟩
          rw [hX] at x0 x1 x2 x3 x4 hk256
          obtain ⟨xk, xA, xB, xa, xs⟩ := X
          simp only at x0 x1 x2 x3 x4 hk256
          have hrl := hR.rel
          have hgbm : g ≠ bmk := fun e => by have := hWk.mp.noCells (o + k * 5); rw [← e] at this; rw [x0] at this; cases this
          have hgmb : g < w.heap.size := by
            obtain ⟨g', o', c', hv, x0', _⟩ := h.out.op hkl
            cases hv
            exact lt_of_cell x0'
          have hap := apply_c wr.drew bwk bmk n N N G (.slice p z q) L xk xA xB xa xs (hWk.keeps ((Keeps.refl [] wr).drew)) hNg (by omega) (hS.keeps ((Keeps.refl [] wr).drew)) (by omega) hk256 hrl.inv
          obtain ⟨p0, z0, hz0⟩ : ∃ a b, a = p ∧ b = z := ⟨_, _, rfl, rfl⟩
          clear hz0 z0 p0
          have hR' : ∀ {c c' : Int} {G' : Pt} {L' : List EntV}, OpRel (xk % 6) N N G L xA xB xa xs c c' G' L' → Runs N (l.take (k + 1)) G' L' := fun ho => by
            have hsp : l.take (k + 1) = l.take k ++ [⟨xk, xA, xB, xa, xs⟩] := by
              rw [List.take_add_one, List.getElem?_eq_getElem hkl, hX]; rfl
            rw [hsp]
            exact .snoc hR ho
          replace hap := Lib.hid hap
          replace hmb := Lib.hid hmb
          replace hkr := Lib.hid hkr
          replace hb1r := Lib.hid hb1r
          replace hrl := Lib.hid hrl
          have hbl := hWk.cells.2.2.1
          have hbml := hWk.mp.lt
          clear hWk hS hR
          go_wp2
          refine Free.wp_region_chain (fun i => i == 6 || i == 12) (fun i => true) (fun j b => (j = 6 ∧ b = bmk) ∨ (j = 12 ∧ b = mb)) (by kernel_rfl) (by kernel_rfl) (by kernel_rfl) ?_
          (repeat (first | (apply Free.cw_pure rfl rfl; (intro w'; go_simp <;> exact rfl); go_frame) | (apply Free.cw_steady rfl rfl rfl; (intro w' hS; have q0 := Free.sx_cell hS m0 (fun j hp hT => Or.elim hT (fun h => hmbm h.2) (fun h => by obtain rfl := h.1; exact absurd hp (by decide +kernel))); have q1 := Free.sx_cell hS m1 (fun j hp hT => Or.elim hT (fun h => hmbm h.2) (fun h => by obtain rfl := h.1; exact absurd hp (by decide +kernel))); have q2 := Free.sx_cell hS x0 (fun j hp hT => Or.elim hT (fun h => hgbm h.2) (fun h => by omega)); have q3 := Free.sx_cell hS x1 (fun j hp hT => Or.elim hT (fun h => hgbm h.2) (fun h => by omega)); have q4 := Free.sx_cell hS x2 (fun j hp hT => Or.elim hT (fun h => hgbm h.2) (fun h => by omega)); have q5 := Free.sx_cell hS x3 (fun j hp hT => Or.elim hT (fun h => hgbm h.2) (fun h => by omega)); have q6 := Free.sx_cell hS x4 (fun j hp hT => Or.elim hT (fun h => hgbm h.2) (fun h => by omega)); go_simp <;> exact rfl); go_frame) | (refine Free.cw_skip rfl ?_; go_frame)))
          refine Free.cw_loud rfl rfl (fun K hK => ?_)
          go_wp2_with fail
          refine hap.out.mono ?_
          rintro e w4 ⟨bw', bm', n', G', v', L', c1, c2, rfl, ho, hW4, hS4, ⟨p4, z4, q4, rfl⟩, hn4, hk4, hfr⟩
          refine hK _ _ rfl (Free.KeepsP.of hk4 (fun b hb => .inl ⟨trivial, by simpa using hb⟩)) ?_
          clear hK K
          obtain ⟨hcc, _⟩ := OpRel.rel hrl.out ho
          have hcb : (c1 == c2) = true := by simpa using hcc
          have hlen4 := ho.len
          have hR4 := hR' ho
          rw [hcb]
          have hkd : Keeps [bmk] wr w4 := ((Keeps.refl [bmk] wr).drew).trans hk4
          have hmb4 := (hkd.block _ hmlt (by simpa using hmbm)).trans hmb.out
          have hb14 := (hkd.block _ hwr (by simp; omega)).trans hb1r.out
          obtain ⟨g1, g2⟩ := set2_all hmb4 (.int .i64 N) (.slice p4 z4 q4)
          obtain ⟨n0, n1⟩ := cells2 hmb4
          have hnf := frozen2 hmb4
          have hnl := lt_of_block hmb4
          have hS5 := hS4.keepBox hmb4 g2
          have hmb' : bm' ≠ mb := fun e => by have := hW4.mp.noCells 0; rw [e] at this; rw [n0] at this; cases this
          have hmw' : bw' ≠ mb := fun e => by
            have h1 := hW4.blk
            rw [e, hmb4] at h1
            simp at h1
          have hW5 := hW4.keep g2 (by simpa using hmw') (by simpa using hmb')
          have hk5 : Keeps [] W _ := (hkr.out.fresh hkd (fun b hb => .inr (by simp at hb; omega))).fresh g2 (fun b hb => .inr (by simp at hb; omega))
          have hsw : wr.drew.heap.size = wr.heap.size := rfl
          have hkrs := hkr.out.size
          have hbw5 : W.heap.size ≤ bw' ∧ W.heap.size ≤ bm' := by
            rcases hfr with ⟨rfl, rfl⟩ | ⟨f1, f2⟩
            · exact ⟨hbwk, hbmk⟩
            · exact ⟨by omega, by omega⟩
          replace g1 := Lib.hid g1
          replace g2 := Lib.hid g2
          replace hS5 := Lib.hid hS5
          replace hW5 := Lib.hid hW5
          replace hk5 := Lib.hid hk5
          replace hR4 := Lib.hid hR4
          clear hmb4 hb14 hkd hk4 ho hW4 hS4 hap hR' x0 x1 x2 x3 x4
          (repeat (apply Free.cw_pure rfl rfl; (intro w'; go_simp <;> exact rfl); go_frame))
          refine Free.cw_loud rfl rfl (fun K hK => ?_)
          go_wp2
          refine hK _ _ rfl (Free.KeepsP.of g2.out (fun b hb => .inr ⟨trivial, by simpa using hb⟩)) ?_
          clear hK K
          (repeat (apply Free.cw_pure rfl rfl; (intro w'; go_simp <;> exact rfl); go_frame))
          refine Free.cw_nil ?_
          go_wp2
          go_roundw
          case rel => exact ⟨k + 1, bw', bm', n', G', _, L', rfl, rfl, by omega, hR4.out, hW5.out, hS5.out, ⟨_, _, _, rfl⟩, by omega, by omega, hbw5.1, hbw5.2, g1.out, hk5.out⟩
          case measure => simp [intOf]; omega
        · have hkM : k = M := by omega
          have hall : l.take k = l := List.take_of_length_le (by rw [hM.out]; omega)
          have hRf : Runs N l G L := by rw [hall] at hR; exact hR
          have hmw : mb = w.heap.size → False := fun h => by omega
          obtain ⟨g1, g2⟩ := set2_all hb1r (.int .i64 N) (.slice p z q)
          have hSf := hS.keepBox hb1r g2
          have hWf := hWk.keep g2 (by simp; omega) (by simp; omega)
          have hkf := (hkA.out.trans hkr).fresh g2 (fun b hb => .inr (by simp at hb; omega))
          have hfin := fun (W' : World) (hk' : Keeps [] ((wr.setCell ⟨w.heap.size, 0, none⟩ (.int .i64 N)).setCell ⟨w.heap.size, 1, none⟩ (.slice p z q)) W') => (⟨hNg, bwk, bmk, n, G, _, L, rfl, hRf, hWf.keeps hk', hSf.keeps hk', ⟨p, z, q, rfl⟩, by rw [hM.out]; omega, by rw [hM.out]; omega, by omega, by omega, hkf.trans hk'⟩ : (1 ≤ N ∧ N ≤ 8) ∧ ∃ bw bm n G v L, Ending.returned (.tuple #[.pointer (some ⟨bwk, 0, none⟩), refV N (.slice p z q), .bool true]) = .returned (.tuple #[.pointer (some ⟨bw, 0, none⟩), refV N v, .bool true]) ∧ Runs N l G L ∧ WM W' bw bm n N G ∧ SlE W' v L ∧ (∃ p k q, v = .slice p k q) ∧ n ≤ 2 * l.length ∧ L.length ≤ 2 * l.length ∧ w.heap.size ≤ bw ∧ w.heap.size ≤ bm ∧ Keeps [] w W')
          replace hfin := Lib.hid hfin
          replace g1 := Lib.hid g1
          replace g2 := Lib.hid g2
          clear hSf hWf hkf hRf hR hWk hS hkr hb1r hmb
          go_wp2
          refine Free.wp_region_chain (fun i => i == 3) (fun i => true) (fun _ b => b = w.heap.size) (by kernel_rfl) (by kernel_rfl) (by kernel_rfl) ?_
          (repeat (first | (apply Free.cw_pure rfl rfl; (intro w'; go_simp <;> exact rfl); go_frame) | (apply Free.cw_steady rfl rfl rfl; (intro w' hS; have q0 := Free.sx_cell hS m0 (fun _ _ hT => hmw hT); have q1 := Free.sx_cell hS m1 (fun _ _ hT => hmw hT); go_simp <;> exact rfl); go_frame) | (refine Free.cw_skip rfl ?_; go_frame)))
          refine Free.cw_loud rfl rfl (fun K hK => ?_)
          go_wp2
          refine hK _ _ rfl (Free.KeepsP.of g2.out.drews (fun b hb => by simpa using hb)) ?_
          clear hK K
          (repeat (apply Free.cw_pure rfl rfl; (intro w'; go_simp <;> exact rfl); go_frame))
          refine Free.cw_nil ?_
          go_wp2
          refine bodyPost_ret (results_refm rfl _ _ _ _ _ _ _ rfl g1.out) ?_ ?_
          · rfl
          · exact .inr (hfin.out _ ((Keeps.refl [] _).drew))
end Go.Proofs.Ythhhciofcmmnfaa

namespace Go.Proofs.Ythhhciofcmmnfaa
open Go.RowKit

theorem WalkR.val {N : Int} {G : Pt} {x a s c h : Int} {l l0 : List Int} (hw : WalkR N G x a s c l) (hk : chkB N [x] a s = true) (hc : Mg.Ch (fun m => G m a s) x l0 h) : c = 0 ∧ l = l0 := by
  rcases hw with ⟨e, _⟩ | ⟨_, ⟨e, _⟩ | ⟨_, ⟨h', hc'⟩, rfl⟩⟩
  · rw [hk] at e; cases e
  · exact absurd e hc.ne
  · exact ⟨rfl, (hc.det hc').1⟩
def exOps : List OpV := [⟨0, 1, 0, 1, 5⟩, ⟨1, 1, 2, 1, 5⟩, ⟨1, 2, 3, 1, 5⟩, ⟨2, 1, 2, 1, 5⟩]
theorem Runs.inv {N : Int} {l : List OpV} {x : OpV} {G' : Pt} {L' : List EntV} (h : Runs N (l ++ [x]) G' L') : ∃ G L c c', Runs N l G L ∧ OpRel (x.k % 6) N N G L x.A x.B x.a x.s c c' G' L' := by
  generalize hq : l ++ [x] = q at h
  cases h with
  | nil => simp at hq
  | @snoc l2 G G' L L' x2 c c' h o =>
    obtain ⟨rfl, e⟩ := List.append_inj' hq rfl
    simp at e; subst e
    exact ⟨G, L, c, c', h, o⟩
theorem Runs.inv0 {N : Int} {G' : Pt} {L' : List EntV} (h : Runs N [] G' L') : G' = fun _ _ _ => 0 := by
  generalize hq : ([] : List OpV) = q at h
  cases h with
  | nil => rfl
  | snoc => simp at hq
theorem ex_G {G : Pt} {L : List EntV} (h : Runs 3 exOps G L) : G 1 1 5 = 2 ∧ G 2 1 5 = 2 ∧ G 3 1 5 = 2 := by
  obtain ⟨G3, L3, c, c', h3, o4⟩ := Runs.inv (l := [⟨0, 1, 0, 1, 5⟩, ⟨1, 1, 2, 1, 5⟩, ⟨1, 2, 3, 1, 5⟩]) (x := ⟨2, 1, 2, 1, 5⟩) h
  obtain ⟨G2, L2, c2, d2, h2, o3⟩ := Runs.inv (l := [⟨0, 1, 0, 1, 5⟩, ⟨1, 1, 2, 1, 5⟩]) (x := ⟨1, 2, 3, 1, 5⟩) h3
  obtain ⟨G1, L1, c1, d1, h1, o2⟩ := Runs.inv (l := [⟨0, 1, 0, 1, 5⟩]) (x := ⟨1, 1, 2, 1, 5⟩) h2
  obtain ⟨G0, L0, c0, d0, h0, o1⟩ := Runs.inv (l := []) (x := ⟨0, 1, 0, 1, 5⟩) h1
  have g0 := h0.inv0
  have r1 : CreateR 3 G0 1 1 5 c0 G1 := by
    rcases o1 with ⟨_, h, _⟩ | ⟨e, _⟩ | ⟨e, _⟩ | ⟨e, _⟩ | ⟨e, _⟩ | ⟨e, _⟩
    · exact h
    all_goals (simp at e)
  have r2 : ShareR 3 G1 1 2 1 5 c1 G2 := by
    rcases o2 with ⟨e, _⟩ | ⟨_, h, _⟩ | ⟨e, _⟩ | ⟨e, _⟩ | ⟨e, _⟩ | ⟨e, _⟩
    · simp at e
    · exact h
    all_goals (simp at e)
  have r3 : ShareR 3 G2 2 3 1 5 c2 G3 := by
    rcases o3 with ⟨e, _⟩ | ⟨_, h, _⟩ | ⟨e, _⟩ | ⟨e, _⟩ | ⟨e, _⟩ | ⟨e, _⟩
    · simp at e
    · exact h
    all_goals (simp at e)
  have r4 : MoveR 3 G3 1 2 1 5 c G := by
    rcases o4 with ⟨e, _⟩ | ⟨e, _⟩ | ⟨_, h, _⟩ | ⟨e, _⟩ | ⟨e, _⟩ | ⟨e, _⟩
    · simp at e
    · simp at e
    · exact h
    all_goals (simp at e)
  have e1 : G1 = updP G0 1 1 5 1 := by
    rcases r1 with ⟨e, _⟩ | ⟨_, m, b, hH, ⟨rfl, _⟩ | ⟨_, _, e⟩⟩
    · exact absurd e (by decide)
    · rcases hH with ⟨_, h1, _, h3⟩ | ⟨e, _⟩
      · rw [g0] at h3
        simp at h3; omega
      · cases e
    · exact e
  have e2 : G2 = updP G1 2 1 5 1 := by
    rcases r2 with ⟨e, _⟩ | ⟨_, ⟨e, _⟩ | ⟨_, _, ⟨e, _⟩ | ⟨_, e⟩⟩⟩
    · exact absurd e (by decide)
    · rw [e1] at e; simp [updP] at e
    · rw [e1, g0] at e; simp [updP] at e
    · exact e
  have e3 : G3 = updP G2 3 1 5 2 := by
    rcases r3 with ⟨e, _⟩ | ⟨_, ⟨e, _⟩ | ⟨_, _, ⟨e, _⟩ | ⟨_, e⟩⟩⟩
    · exact absurd e (by decide)
    · rw [e2] at e; simp [updP] at e
    · rw [e2, e1, g0] at e; simp [updP] at e
    · exact e
  have e4 : G = updP (updP G3 1 1 5 2) 2 1 5 2 := by
    rcases r4 with ⟨e, _⟩ | ⟨_, ⟨e, _⟩ | ⟨_, e, _⟩ | ⟨_, _, e⟩⟩
    · exact absurd e (by decide)
    · rw [e3, e2, e1] at e; simp [updP] at e
    · rw [e3, e2, e1] at e; simp [updP] at e
    · exact e
  rw [e4, e3]
  simp [updP]
theorem ch_next {g : Int → Int} {m v h : Int} {l : List Int} (e : g m = v) (hne : v ≠ m) (h0 : v ≠ 0) (t : Mg.Ch g v l h) : Mg.Ch g m (m :: l) h := by
  subst e; exact .step hne h0 t
theorem SlZ.three (w : World) (x y z : Int) (t : TypeId) : SlZ (w.alloc (.cells #[.int .i64 x, .int .i64 y, .int .i64 z] t)) (.slice (some ⟨w.heap.size, 0, none⟩) 3 3) [x, y, z] :=
  ⟨by simp [ints], _, _, rfl, Nat.le_refl _, by simp [maxLen], by simp, fun _ => ⟨_, 0, rfl, fun j u hj => by rw [World.cell?_alloc_mark]; simpa [ints] using hj⟩⟩
theorem exOps_lit (w : World) (t : TypeId) : SOps (w.alloc (.cells #[.int .u8 0, .int .i64 1, .int .i64 0, .int .i64 1, .int .i64 5, .int .u8 1, .int .i64 1, .int .i64 2, .int .i64 1, .int .i64 5, .int .u8 1, .int .i64 2, .int .i64 3, .int .i64 1, .int .i64 5, .int .u8 2, .int .i64 1, .int .i64 2, .int .i64 1, .int .i64 5] t)) (.slice (some ⟨w.heap.size, 0, none⟩) 4 4) exOps := by
  refine ⟨[.int .u8 0, .int .i64 1, .int .i64 0, .int .i64 1, .int .i64 5, .int .u8 1, .int .i64 1, .int .i64 2, .int .i64 1, .int .i64 5, .int .u8 1, .int .i64 2, .int .i64 3, .int .i64 1, .int .i64 5, .int .u8 2, .int .i64 1, .int .i64 2, .int .i64 1, .int .i64 5], ⟨rfl, _, _, rfl, by decide, by simp [maxLen], (fun h => by cases h), fun _ => ⟨_, _, rfl, fun j u hu => ?_⟩⟩, ?_⟩
  · rw [Nat.zero_add]
    simp only [World.cell?, heap_alloc_new]
    simpa using hu
  · intro k hk
    have : k = 0 ∨ k = 1 ∨ k = 2 ∨ k = 3 := by simp [exOps] at hk; omega
    rcases this with rfl | rfl | rfl | rfl <;> exact ⟨rfl, by decide +revert, by decide +revert, by decide +revert, by decide +revert, by decide +revert⟩
set_option maxRecDepth 100000 in
set_option maxHeartbeats 4000000 in
set_option maxRecDepth 100000 in
theorem awake_c (w : World) : Calls Try.prog 10 #[] w fun e w' => e = .returned (.bool true) ∧ Keeps [] w w' := by
  have hkA : Keeps [] w (w.alloc (.cells #[.int .i64 1, .int .i64 5] 31)) := (Keeps.refl _ _).alloc _
  have hb0 := heap_alloc_new w (.cells #[.int .i64 1, .int .i64 5] 31)
  have hA : (w.alloc (.cells #[.int .i64 1, .int .i64 5] 31)).heap.size = w.heap.size + 1 := by simp
  have hops := exOps_lit (w.alloc (.cells #[.int .i64 1, .int .i64 5] 31)) 33
  rw [hA] at hops
  have hkB := hkA.alloc (.cells #[.int .u8 0, .int .i64 1, .int .i64 0, .int .i64 1, .int .i64 5, .int .u8 1, .int .i64 1, .int .i64 2, .int .i64 1, .int .i64 5, .int .u8 1, .int .i64 2, .int .i64 3, .int .i64 1, .int .i64 5, .int .u8 2, .int .i64 1, .int .i64 2, .int .i64 1, .int .i64 5] 33)
  have hb1 := (((Keeps.refl _ _).alloc (.cells #[.int .u8 0, .int .i64 1, .int .i64 0, .int .i64 1, .int .i64 5, .int .u8 1, .int .i64 1, .int .i64 2, .int .i64 1, .int .i64 5, .int .u8 1, .int .i64 2, .int .i64 3, .int .i64 1, .int .i64 5, .int .u8 2, .int .i64 1, .int .i64 2, .int .i64 1, .int .i64 5] 33) : Keeps [] (w.alloc (.cells #[.int .i64 1, .int .i64 5] 31)) _).block _ (lt_of_block hb0) (by simp)).trans hb0
  replace hkB := Lib.hid hkB
  replace hb1 := Lib.hid hb1
  replace hops := Lib.hid hops
  clear hkA hb0
  go_enter Try.func10, Try.ntmps10
  go_wp2_with fail
  refine (run_c _ 3 _ exOps hops.out (by decide)).mono ?_
  rintro e w1 (⟨hb, _⟩ | ⟨_, bw, bm, n, G, v, L, rfl, hR, hW, hS, ⟨p, z, q, rfl⟩, hn, hL, _, hbm, hk1⟩)
  · exact absurd ⟨by decide, by decide⟩ hb
  have hkw := hkB.out.trans hk1
  have hbm2 : w.heap.size < bm := Nat.lt_of_lt_of_le (by simp; try omega) hbm
  clear hbm
  have hid1 := (hk1.block _ (lt_of_block hb1.out) (by simp)).trans hb1.out
  have hkx : Keeps [] w1 (w1.alloc (.cells #[.int .i64 3, .slice p z q] 27)) := (Keeps.refl _ _).alloc _
  have hW2 := hW.keeps hkx
  have hid2 := (hkx.block _ (lt_of_block hid1) (by simp)).trans hid1
  have hkw2 := hkw.trans hkx
  obtain ⟨i0, i1⟩ := cells2 hid2
  have idf := frozen2 hid2
  clear hb1 hkB hops hk1 hW hid1 hkw hkx
  replace hkw2 := Lib.hid hkw2
  replace hid2 := Lib.hid hid2
  replace hW2 := Lib.hid hW2
  replace hn : n ≤ 8 := hn
  have hRel := hR.rel
  obtain ⟨ga, gb, gc⟩ := ex_G hR
  have hI := hRel.inv
  have ch1 : Mg.Ch (fun m => G m 1 5) 3 [3, 2] 2 := ch_next gc (by decide) (by decide) (.home gb (by decide))
  have ch2 : Mg.Ch (fun m => G m 1 5) 1 [1, 2] 2 := ch_next ga (by decide) (by decide) (.home gb (by decide))
  have kk3 : chkB 3 [3] 1 5 = true := by decide
  have kk1 : chkB 3 [1] 1 5 = true := by decide
  clear hR hRel
  go_wp2_with fail
  generalize w1.alloc (.cells #[.int .i64 3, .slice p z q] 27) = w2 at *
  refine (walk_c w2 bw bm n 3 G 3 1 5 hW2.out (by decide) hI).mono ?_
  rintro e w3 ⟨c, l, va, rfl, hwr, hSa, _, hk3⟩
  obtain ⟨rfl, rfl⟩ := hwr.val kk3 ch1
  have hW3 := hW2.out.keeps hk3
  have hid3 := (hk3.block _ (lt_of_block hid2.out) (by simp)).trans hid2.out
  have hkw3 := hkw2.out.trans hk3
  obtain ⟨i0, i1⟩ := cells2 hid3
  have idf := frozen2 hid3
  replace hkw3 := Lib.hid hkw3
  replace hid3 := Lib.hid hid3
  replace hW3 := Lib.hid hW3
  replace hSa := Lib.hid hSa
  clear hW2 hid2 hkw2 hk3
  go_wp2_with fail
  refine (walk_c w3 bw bm n 3 G 1 1 5 hW3.out (by decide) hI).mono ?_
  rintro e w4 ⟨c, l, vb, rfl, hwr, hSb, _, hk4⟩
  obtain ⟨rfl, rfl⟩ := hwr.val kk1 ch2
  have hW4 := hW3.out.keeps hk4
  have hid4 := (hk4.block _ (lt_of_block hid3.out) (by simp)).trans hid3.out
  have hkw4 := hkw3.out.trans hk4
  replace hSa := hSa.out.keeps hk4
  obtain ⟨i0, i1⟩ := cells2 hid4
  have idf := frozen2 hid4
  replace hkw4 := Lib.hid hkw4
  replace hid4 := Lib.hid hid4
  replace hW4 := Lib.hid hW4
  replace hSa := Lib.hid hSa
  replace hSb := Lib.hid hSb
  clear hW3 hid3 hkw3 hk4
  go_wp2_with fail
  refine (move_c w4 bw bm n 3 G 2 1 1 5 hW4.out (by decide) (by omega)).mono ?_
  rintro e w5 ⟨c, n5, G5, rfl, hmr, hW5, hn5, hk5⟩
  have hG5 : c = 0 ∧ G5 = updP (updP G 2 1 5 1) 1 1 5 1 := by
    rcases hmr with ⟨e, _⟩ | ⟨_, ⟨e, _⟩ | ⟨_, e, _⟩ | ⟨_, e1, e2⟩⟩
    · exact absurd e (by decide)
    · rw [gb] at e; cases e
    · exact absurd gb e
    · exact ⟨e1, e2⟩
  obtain ⟨rfl, rfl⟩ := hG5
  have hI5 : ∀ a s, Mg.Inv 3 (fun m => updP (updP G 2 1 5 1) 1 1 5 1 m a s) := by
    intro a s
    by_cases hh : a = 1 ∧ s = 5
    · obtain ⟨rfl, rfl⟩ := hh
      rw [updP_fun, updP_fun]
      exact (hI 1 5).move (by decide) gb (by decide) (by decide)
    · rw [updP_off _ _ _ _ _ _ _ hh, updP_off _ _ _ _ _ _ _ hh]
      exact hI a s
  have g5a : updP (updP G 2 1 5 1) 1 1 5 1 1 1 5 = 1 := by simp [updP]
  have g5b : updP (updP G 2 1 5 1) 1 1 5 1 2 1 5 = 1 := by simp [updP]
  have g5c : updP (updP G 2 1 5 1) 1 1 5 1 3 1 5 = 2 := by simp [updP, gc]
  have hid5 := (hk5.block _ (lt_of_block hid4.out) (by simp; omega)).trans hid4.out
  have hkw5 := hkw4.out.fresh hk5 (fun b hb => .inr (by simp at hb; omega))
  replace hSa : SlZ w5 va [3, 2] := Sl.keeps_map hSa.out hk5 hW4.out.mp.noCells
  replace hSb : SlZ w5 vb [1, 2] := Sl.keeps_map hSb.out hk5 hW4.out.mp.noCells
  clear hI
  revert g5a g5b g5c hI5 hW5
  generalize updP (updP G 2 1 5 1) 1 1 5 1 = G5
  intro hW5 hI g5a g5b g5c
  have ch3 : Mg.Ch (fun m => G5 m 1 5) 3 [3, 2, 1] 1 := ch_next g5c (by decide) (by decide) (ch_next g5b (by decide) (by decide) (.home g5a (by decide)))
  obtain ⟨i0, i1⟩ := cells2 hid5
  have idf := frozen2 hid5
  replace hkw5 := Lib.hid hkw5
  replace hid5 := Lib.hid hid5
  replace hW5 := Lib.hid hW5
  replace hSa := Lib.hid hSa
  replace hSb := Lib.hid hSb
  clear hW4 hid4 hkw4 hk5 hmr ga gb gc ch1 ch2
  go_wp2_with fail
  refine (walk_c w5 bw bm n5 3 G5 3 1 5 hW5.out (by decide) hI).mono ?_
  rintro e w6 ⟨c, l, vc, rfl, hwr, hSc, _, hk6⟩
  obtain ⟨rfl, rfl⟩ := hwr.val kk3 ch3
  have hW6 := hW5.out.keeps hk6
  have hid6 := (hk6.block _ (lt_of_block hid5.out) (by simp)).trans hid5.out
  have hkw6 := hkw5.out.trans hk6
  replace hSa := hSa.out.keeps hk6
  replace hSb := hSb.out.keeps hk6
  obtain ⟨i0, i1⟩ := cells2 hid6
  have idf := frozen2 hid6
  replace hkw6 := Lib.hid hkw6
  replace hid6 := Lib.hid hid6
  replace hW6 := Lib.hid hW6
  replace hSa := Lib.hid hSa
  replace hSb := Lib.hid hSb
  replace hSc := Lib.hid hSc
  clear hW5 hid5 hkw5 hk6 hwr
  go_wp2_with fail
  refine (locate_c w6 bw bm n5 3 G5 3 1 5 hW6.out (by decide) (by omega) hI).mono ?_
  rintro e w7 ⟨c, n7, G7, rfl, hlr, hW7, hn7, hk7⟩
  have hG7 : c = 0 ∧ G7 = updP G5 3 1 5 1 := by
    rcases hlr with ⟨e, _⟩ | ⟨_, ⟨e, _⟩ | ⟨_, l, h, hc, e1, e2⟩⟩
    · exact absurd e (by decide)
    · rw [g5c] at e; cases e
    · obtain ⟨_, rfl⟩ := ch3.det hc
      exact ⟨e1, e2⟩
  obtain ⟨rfl, rfl⟩ := hG7
  have hI7 : ∀ a s, Mg.Inv 3 (fun m => updP G5 3 1 5 1 m a s) := by
    intro a s
    by_cases hh : a = 1 ∧ s = 5
    · obtain ⟨rfl, rfl⟩ := hh
      rw [updP_fun]
      exact (hI 1 5).locate (by show G5 3 1 5 ≠ 0; rw [g5c]; decide) g5a (by decide) (by decide)
    · rw [updP_off _ _ _ _ _ _ _ hh]
      exact hI a s
  have g7a : updP G5 3 1 5 1 1 1 5 = 1 := by simp [updP, g5a]
  have g7c : updP G5 3 1 5 1 3 1 5 = 1 := by simp [updP]
  have hid7 := (hk7.block _ (lt_of_block hid6.out) (by simp; omega)).trans hid6.out
  have hkw7 := hkw6.out.fresh hk7 (fun b hb => .inr (by simp at hb; omega))
  replace hSa : SlZ w7 va [3, 2] := Sl.keeps_map hSa.out hk7 hW6.out.mp.noCells
  replace hSb : SlZ w7 vb [1, 2] := Sl.keeps_map hSb.out hk7 hW6.out.mp.noCells
  replace hSc : SlZ w7 vc [3, 2, 1] := Sl.keeps_map hSc.out hk7 hW6.out.mp.noCells
  clear hI
  revert g7a g7c hI7 hW7
  generalize updP G5 3 1 5 1 = G7
  intro hW7 hI g7a g7c
  have ch4 : Mg.Ch (fun m => G7 m 1 5) 3 [3, 1] 1 := ch_next g7c (by decide) (by decide) (.home g7a (by decide))
  obtain ⟨i0, i1⟩ := cells2 hid7
  have idf := frozen2 hid7
  replace hkw7 := Lib.hid hkw7
  replace hW7 := Lib.hid hW7
  replace hSa := Lib.hid hSa
  replace hSb := Lib.hid hSb
  replace hSc := Lib.hid hSc
  clear hW6 hid6 hkw6 hk7 hlr ch3 g5a g5b g5c
  go_wp2_with fail
  refine (walk_c w7 bw bm n7 3 G7 3 1 5 hW7.out (by decide) hI).mono ?_
  rintro e w8 ⟨c, l, vd, rfl, hwr, hSd, _, hk8⟩
  obtain ⟨rfl, rfl⟩ := hwr.val kk3 ch4
  have hkw8 := hkw7.out.trans hk8
  replace hSa := hSa.out.keeps hk8
  replace hSb := hSb.out.keeps hk8
  replace hSc := hSc.out.keeps hk8
  replace hkw8 := Lib.hid hkw8
  replace hSa := Lib.hid hSa
  replace hSb := Lib.hid hSb
  replace hSc := Lib.hid hSc
  replace hSd := Lib.hid hSd
  clear hW7 hkw7 hk8 hwr i0 i1 idf hid7
  go_wp2_with fail
  have hkn := (Keeps.refl [] w8).alloc (.cells #[.int .i64 3, .int .i64 2] 3)
  have hlit := SlZ.two w8 3 2 3
  refine (same_c _ _ _ _ _ (hSa.out.keeps hkn) hlit).mono ?_
  rintro e v1 ⟨rfl, hks⟩
  rw [show sameB [3, 2] [3, 2] = true from by decide]
  have hkv1 := hkw8.out.trans (hkn.trans hks)
  replace hSb := hSb.out.keeps (hkn.trans hks)
  replace hSc := hSc.out.keeps (hkn.trans hks)
  replace hSd := hSd.out.keeps (hkn.trans hks)
  replace hSb := Lib.hid hSb
  replace hSc := Lib.hid hSc
  replace hSd := Lib.hid hSd
  replace hkv1 := Lib.hid hkv1
  clear hkn hks hlit hkw8 hSa
  go_wp2_with fail
  have hkn := (Keeps.refl [] v1).alloc (.cells #[.int .i64 1, .int .i64 2] 3)
  have hlit := SlZ.two v1 1 2 3
  refine (same_c _ _ _ _ _ (hSb.out.keeps hkn) hlit).mono ?_
  rintro e v2 ⟨rfl, hks⟩
  rw [show sameB [1, 2] [1, 2] = true from by decide]
  have hkv2 := hkv1.out.trans (hkn.trans hks)
  replace hSc := hSc.out.keeps (hkn.trans hks)
  replace hSd := hSd.out.keeps (hkn.trans hks)
  replace hSc := Lib.hid hSc
  replace hSd := Lib.hid hSd
  replace hkv2 := Lib.hid hkv2
  clear hkn hks hlit hkv1 hSb
  go_wp2_with fail
  have hkn := (Keeps.refl [] v2).alloc (.cells #[.int .i64 3, .int .i64 2, .int .i64 1] 3)
  have hlit := SlZ.three v2 3 2 1 3
  refine (same_c _ _ _ _ _ (hSc.out.keeps hkn) hlit).mono ?_
  rintro e v3 ⟨rfl, hks⟩
  rw [show sameB [3, 2, 1] [3, 2, 1] = true from by decide]
  have hkv3 := hkv2.out.trans (hkn.trans hks)
  replace hSd := hSd.out.keeps (hkn.trans hks)
  replace hSd := Lib.hid hSd
  replace hkv3 := Lib.hid hkv3
  clear hkn hks hlit hkv2 hSc
  go_wp2_with fail
  have hkn := (Keeps.refl [] v3).alloc (.cells #[.int .i64 3, .int .i64 1] 3)
  have hlit := SlZ.two v3 3 1 3
  refine (same_c _ _ _ _ _ (hSd.out.keeps hkn) hlit).mono ?_
  rintro e v4 ⟨rfl, hks⟩
  rw [show sameB [3, 1] [3, 1] = true from by decide]
  have hkv4 := hkv3.out.trans (hkn.trans hks)
  replace hkv4 := Lib.hid hkv4
  clear hkn hks hlit hkv3 hSd
  go_wp2_with fail
  refine bodyPost_ret (v := .bool true) ?_ ?_ ?_
  · kernel_rfl
  · rfl
  · exact ⟨rfl, hkv4.out⟩
end Go.Proofs.Ythhhciofcmmnfaa

namespace Go.Proofs.Ythhhciofcmmnfaa
open Go.RowKit

theorem KZ.nil (w : World) (B : Nat) : KZ w B (.slice none 0 0) [] := ⟨[], ⟨rfl, .inl ⟨rfl, rfl⟩⟩, fun k c l h => by simp at h, fun g hg => by simp [Value.ownBlock] at hg⟩
theorem KZ.ge {w : World} {B : Nat} {v : Value} {ls : List (List Int)} (h : KZ w B v ls) : ∀ b, v.ownBlock = some b → B ≤ b := by
  obtain ⟨cs, hown, _⟩ := h
  exact fun b hb => (hown.lt b hb).1
theorem KZ.elem {w : World} {B : Nat} {v : Value} {ls : List (List Int)} (h : KZ w B v ls) {k : Nat} (hk : k < ls.length) : ∃ g c a z, v = .slice (some ⟨g, 0, none⟩) ls.length c ∧ w.cell? ⟨g, k, none⟩ = some (.slice a (ls[k]).length z) ∧ SlZ w (.slice a (ls[k]).length z) ls[k] := by
  obtain ⟨cs, hown, hel, _⟩ := h
  have hlen : cs.length = ls.length := by have := hown.1; omega
  obtain ⟨h1, a, cap, rfl, h2, h3, h0, h4⟩ := Sl.of_owns hown
  rcases hown.2 with ⟨_, hz⟩ | ⟨g, cap', cur, e, _, _⟩
  · omega
  · cases e
    obtain ⟨g', o', e2, hc⟩ := h4 (by omega)
    cases e2
    have hS := hel k cs[k] ls[k] (by simp) (by simp)
    obtain ⟨a, z, e3, _⟩ := hS.form
    have := hc k cs[k] (by simp)
    rw [Nat.zero_add] at this
    rw [e3] at this hS
    exact ⟨g, cap, a, z, rfl, this, hS⟩
theorem chkB_ok {N x a s : Int} (h : 1 ≤ x ∧ x ≤ N) : chkB N [x] a s = okId a s := by simp [chkB, h.1, h.2]
/-- The walks so far. -/
def WkL (N : Int) (G : Pt) (a s : Int) (ls : List (List Int)) : Prop := ∀ (j : Nat) (hj : j < ls.length), ∃ c, WalkR N G ((j : Int) + 1) a s c ls[j]
theorem WkL.snoc {N : Int} {G : Pt} {a s c : Int} {ls : List (List Int)} {l : List Int} (h : WkL N G a s ls) (hl : WalkR N G ((ls.length : Int) + 1) a s c l) : WkL N G a s (ls ++ [l]) := by
  intro j hj
  by_cases hk : j < ls.length
  · rw [List.getElem_append_left hk]; exact h j hk
  · have : j = ls.length := by simp at hj; omega
    subst this
    exact ⟨c, by simpa using hl⟩
def WalksPost (w : World) (N : Int) (G : Pt) (a s : Int) (e : Ending) (w' : World) : Prop :=
  ∃ v ls, e = .returned (.tuple #[v, .bool (okId a s)]) ∧ Keeps [] w w' ∧ ((okId a s = false ∧ v = .slice none 0 0) ∨ (okId a s = true ∧ KZ w' (w.heap.size + 1) v ls ∧ (ls.length : Int) = N ∧ WkL N G a s ls))
set_option maxRecDepth 100000 in
set_option maxHeartbeats 4000000 in
theorem walks_c (w : World) (bw bm n : Nat) (N : Int) (G : Pt) (a s : Int) (h : WM w bw bm n N G) (hN : 1 ≤ N ∧ N ≤ 8) (hI : ∀ a s, Mg.Inv N (fun m => G m a s)) :
    Calls Try.prog 17 #[.pointer (some ⟨bw, 0, none⟩), .int .i64 N, idV a s] w (WalksPost w N G a s) := by
  have hkA : Keeps [] w (w.alloc (.cells #[.int .i64 a, .int .i64 s] 31)) := (Keeps.refl _ _).alloc _
  have hb0 := heap_alloc_new w (.cells #[.int .i64 a, .int .i64 s] 31)
  have hA : (w.alloc (.cells #[.int .i64 a, .int .i64 s] 31)).heap.size = w.heap.size + 1 := by simp
  have hWA := h.keeps hkA
  replace hkA := Lib.hid hkA
  replace hb0 := Lib.hid hb0
  replace hWA := Lib.hid hWA
  replace hA := Lib.hid hA
  replace hI := Lib.hid hI
  clear h
  go_enter Try.func17, Try.ntmps17
  go_wp2
  generalize hw0 : w.alloc (.cells #[.int .i64 a, .int .i64 s] 31) = W at *
  clear hw0
  go_loopw [8, 9] (fun ov iv wr => ∃ (k : Nat) (ls : List (List Int)) (ao : Option Addr) (co : Nat), ov = .slice ao k co ∧ iv = .int .i64 ((k : Int) + 1) ∧ (k : Int) ≤ N ∧ ls.length = k ∧ (k = 0 ∨ okId a s = true) ∧ KZ wr (w.heap.size + 1) (.slice ao k co) ls ∧ WkL N G a s ls ∧ Keeps [] W wr) (fun _ iv _ => (N + 1 - intOf iv).toNat)
  case atStart => exact ⟨0, [], none, 0, rfl, rfl, by omega, rfl, .inl rfl, KZ.nil _ _, fun j hj => by simp at hj, Keeps.refl _ _⟩
  case round =>
    obtain ⟨k, ls, ao, co, rfl, rfl, hk, hls, hok, hKZ, hWk, hkr⟩ := hrel
    have hidr := (hkr.block _ (lt_of_block hb0.out) (by simp)).trans hb0.out
    obtain ⟨i0, i1⟩ := cells2 hidr
    have idf := frozen2 hidr
    have hWr := hWA.out.keeps hkr
    have hsz : w.heap.size + 1 ≤ wr.heap.size := by have := hkr.size; rw [hA.out] at this; exact this
    replace hWr := Lib.hid hWr
    replace hKZ := Lib.hid hKZ
    replace hWk := Lib.hid hWk
    replace hls := Lib.hid hls
    replace hkr := Lib.hid hkr
    replace hok := Lib.hid hok
    clear hidr
    by_cases hlt : (k : Int) < N
    · have hle : (k : Int) + 1 ≤ N := hlt
      go_wp2_with fail
      refine (walk_c wr bw bm n N G ((k : Int) + 1) a s hWr.out hN hI.out).mono ?_
      rintro e w1 ⟨c, l, vl, rfl, hR, hS, _, hk1⟩
      have hkx := hkr.out.trans hk1
      have hKZ1 := hKZ.out.keep hk1 (by simp) hk1.ki0
      have hsz1 : w.heap.size + 1 ≤ w1.heap.size := Nat.le_trans hsz hk1.size
      replace hKZ1 := Lib.hid hKZ1
      replace hkx := Lib.hid hkx
      obtain ⟨al, cl, rfl, _⟩ := hS.form
      replace hS := Lib.hid hS
      have hcc : (okId a s = false ∧ c = 1) ∨ (okId a s = true ∧ (c = 0 ∨ c = 6)) := by
        rw [← chkB_ok (N := N) (x := (k : Int) + 1) ⟨by omega, hle⟩]
        rcases hR with ⟨hb, rfl, rfl⟩ | ⟨hb, ⟨_, rfl, _⟩ | ⟨_, _, rfl⟩⟩
        · exact .inl ⟨hb, rfl⟩
        · exact .inr ⟨hb, .inr rfl⟩
        · exact .inr ⟨hb, .inl rfl⟩
      replace hR := Lib.hid hR
      clear hk1 hKZ hkr
      rcases hcc with ⟨hno, rfl⟩ | ⟨hyes, hc06⟩
      · replace hno := Lib.hid hno
        go_wp2
        refine bodyPost_ret (results_tmp2 rfl _ _ _) ?_ ?_
        · rfl
        · refine ⟨_, [], ?_, hkA.out.trans hkx.out, .inl ⟨hno.out, rfl⟩⟩
          rw [hno.out]; rfl
      · replace hyes := Lib.hid hyes
        rcases hc06 with rfl | rfl
        · have hls8 : ls.length < 1099511627776 := by rw [hls.out]; omega
          go_wp2_with (at_builtin; (refine wpl_pushZ _ (w.heap.size + 1) _ _ ls l rfl _ _ rfl rfl rfl hKZ1.out hS.out hls8 hsz1 ?_; intro v4 w4 hL4 hG4 hkb4))
          obtain ⟨a4, c4, rfl⟩ : ∃ a c, v4 = .slice a (k + 1) c := by
            obtain ⟨a, c, rfl⟩ := hL4.form
            exact ⟨a, c, by rw [List.length_append, hls.out]; rfl⟩
          have hk5 : Keeps (Value.slice ao k co).ownBlock.toList w1 w4 := hG4.alloc_left.keepsO
          have hown := hKZ1.out.ge
          have hk4 : Keeps [] W w4 := hkx.out.fresh hk5 (fun x hx => .inr (by have := hown x (by simpa using hx); rw [hA.out]; exact this))
          have hWk4 := hWk.out.snoc (by rw [hls.out]; exact hR.out)
          replace hL4 := Lib.hid hL4
          replace hk4 := Lib.hid hk4
          replace hWk4 := Lib.hid hWk4
          clear hG4 hkb4 hk5 hown
          go_wp2
          go_roundw
          case rel => exact ⟨k + 1, ls ++ [l], a4, c4, rfl, rfl, by omega, by simp [hls.out], .inr hyes.out, hL4.out, hWk4.out, hk4.out⟩
          case measure => simp [intOf]; omega
        · have hls8 : ls.length < 1099511627776 := by rw [hls.out]; omega
          go_wp2_with (at_builtin; (refine wpl_pushZ _ (w.heap.size + 1) _ _ ls l rfl _ _ rfl rfl rfl hKZ1.out hS.out hls8 hsz1 ?_; intro v4 w4 hL4 hG4 hkb4))
          obtain ⟨a4, c4, rfl⟩ : ∃ a c, v4 = .slice a (k + 1) c := by
            obtain ⟨a, c, rfl⟩ := hL4.form
            exact ⟨a, c, by rw [List.length_append, hls.out]; rfl⟩
          have hk5 : Keeps (Value.slice ao k co).ownBlock.toList w1 w4 := hG4.alloc_left.keepsO
          have hown := hKZ1.out.ge
          have hk4 : Keeps [] W w4 := hkx.out.fresh hk5 (fun x hx => .inr (by have := hown x (by simpa using hx); rw [hA.out]; exact this))
          have hWk4 := hWk.out.snoc (by rw [hls.out]; exact hR.out)
          replace hL4 := Lib.hid hL4
          replace hk4 := Lib.hid hk4
          replace hWk4 := Lib.hid hWk4
          clear hG4 hkb4 hk5 hown
          go_wp2
          go_roundw
          case rel => exact ⟨k + 1, ls ++ [l], a4, c4, rfl, rfl, by omega, by simp [hls.out], .inr hyes.out, hL4.out, hWk4.out, hk4.out⟩
          case measure => simp [intOf]; omega
    · have hkN : (k : Int) = N := by omega
      have hyes : okId a s = true := by
        rcases hok.out with h0 | h0
        · omega
        · exact h0
      replace hyes := Lib.hid hyes
      have hno : ¬ ((k : Int) + 1 ≤ N) := by omega
      go_wp2
      refine bodyPost_ret (results_tmp2 rfl _ _ _) ?_ ?_
      · rfl
      · refine ⟨_, ls, ?_, hkA.out.trans hkr.out, .inr ⟨hyes.out, hKZ.out, by rw [hls.out]; exact hkN, hWk.out⟩⟩
        rw [hyes.out]; rfl
end Go.Proofs.Ythhhciofcmmnfaa

namespace Go.Proofs.Ythhhciofcmmnfaa
open Go.RowKit

theorem updP_id {G : Pt} {x a s v : Int} (h : G x a s = v) : updP G x a s v = G := by
  funext m a' s'
  unfold updP
  by_cases e : m = x ∧ a' = a ∧ s' = s
  · obtain ⟨rfl, rfl, rfl⟩ := e; simp [h]
  · simp [e]
theorem updP_at (G : Pt) (x a s v : Int) : updP G x a s v x a s = v := by simp [updP]
theorem updP_ne (G : Pt) (x a s v : Int) {y : Int} (h : y ≠ x) : updP G x a s v y a s = G y a s := by simp [updP, h]
theorem WalkR.det {N x a s c c' : Int} {G : Pt} {l l' : List Int} (h1 : WalkR N G x a s c l) (h2 : WalkR N G x a s c' l') : l' = l := by
  rcases h1 with ⟨b1, _, rfl⟩ | ⟨b1, ⟨z1, _, rfl⟩ | ⟨z1, ⟨h, ch⟩, _⟩⟩
  · rcases h2 with ⟨_, _, rfl⟩ | ⟨b2, _⟩
    · rfl
    · rw [b1] at b2; cases b2
  · rcases h2 with ⟨_, _, rfl⟩ | ⟨_, ⟨_, _, rfl⟩ | ⟨z2, _⟩⟩
    · rfl
    · rfl
    · exact absurd z1 z2
  · rcases h2 with ⟨b2, _⟩ | ⟨_, ⟨z2, _⟩ | ⟨_, ⟨h', ch'⟩, _⟩⟩
    · rw [b1] at b2; cases b2
    · exact absurd z2 z1
    · exact (ch.det ch').1
/-- A walk that is not empty is a chain, and one that is empty is none. -/
theorem WalkR.nil_iff {N x a s c : Int} {G : Pt} {l : List Int} (h : WalkR N G x a s c l) (hb : chkB N [x] a s = true) : (l = [] ↔ G x a s = 0) ∧ (G x a s ≠ 0 → ∃ h, Mg.Ch (fun m => G m a s) x l h) := by
  rcases h with ⟨b1, _⟩ | ⟨_, ⟨z1, _, rfl⟩ | ⟨z1, ⟨h, ch⟩, _⟩⟩
  · rw [hb] at b1; cases b1
  · exact ⟨⟨fun _ => z1, fun _ => rfl⟩, fun h => absurd z1 h⟩
  · obtain ⟨t, rfl⟩ := ch.cons
    exact ⟨⟨fun h => (by cases h), fun h => absurd h z1⟩, fun _ => ⟨h, ch⟩⟩
theorem SlZ.half (w : World) (x y : Int) (t : TypeId) : SlZ (w.alloc (.cells #[.int .i64 x, .int .i64 y] t)) (.slice (some ⟨w.heap.size, 0, none⟩) 1 2) [x] :=
  ⟨by simp [ints], _, _, rfl, by simp, by simp [maxLen], by simp, fun _ => ⟨_, 0, rfl, fun j u hj => by
    rw [World.cell?_alloc_mark]
    have : j = 0 ∧ u = .int .i64 x := by
      have := (List.getElem?_eq_some_iff.1 hj)
      obtain ⟨h1, h2⟩ := this
      simp [ints] at h1
      subst h1
      simp [ints] at h2
      exact ⟨rfl, h2.symm⟩
    obtain ⟨rfl, rfl⟩ := this
    rfl⟩⟩
/-- Locate: no walk is longer, none is begun or ended. -/
theorem locate_len {N x y h a s c c' : Int} {G : Pt} {l0 l l' : List Int} (I : Mg.Inv N (fun m => G m a s)) (hx : Mg.Ch (fun m => G m a s) x l0 h) (hb : chkB N [y] a s = true) (h1 : WalkR N G y a s c l) (h2 : WalkR N (updP G x a s h) y a s c' l') :
    l'.length ≤ l.length ∧ (l' = [] ↔ l = []) := by
  have hf : G h a s = h ∧ h ≠ 0 := hx.fix
  by_cases e : x = h
  · subst e
    rw [updP_id hf.1] at h2
    rw [WalkR.det h1 h2]
    exact ⟨Nat.le_refl _, Iff.rfl⟩
  · obtain ⟨i1, c1⟩ := h1.nil_iff hb
    obtain ⟨i2, c2⟩ := h2.nil_iff hb
    have hx0 : G x a s ≠ 0 := hx.ne
    by_cases z : G y a s = 0
    · have hy : y ≠ x := fun e => hx0 (by rw [← e]; exact z)
      have z' : updP G x a s h y a s = 0 := by rw [updP_ne _ _ _ _ _ hy]; exact z
      rw [i1.2 z, i2.2 z']
      exact ⟨Nat.le_refl _, Iff.rfl⟩
    · obtain ⟨k, ch⟩ := c1 z
      obtain ⟨l2, ch2, hl, _⟩ := ch.locate I (x := x) (k := h) hf.1 hf.2 e
      rw [← updP_fun] at ch2
      have z' : updP G x a s h y a s ≠ 0 := ch2.ne
      obtain ⟨k', ch'⟩ := c2 z'
      obtain ⟨rfl, _⟩ := ch2.det ch'
      refine ⟨hl, ?_⟩
      obtain ⟨t, rfl⟩ := ch.cons
      obtain ⟨t', rfl⟩ := ch'.cons
      simp
/-- Locate: the asker's walk. -/
theorem locate_own {N x h a s c' : Int} {G : Pt} {l0 l' : List Int} (I : Mg.Inv N (fun m => G m a s)) (hx : Mg.Ch (fun m => G m a s) x l0 h) (hb : chkB N [x] a s = true) (h2 : WalkR N (updP G x a s h) x a s c' l') :
    l' = if x = h then [x] else [x, h] := by
  have hf : G h a s = h ∧ h ≠ 0 := hx.fix
  obtain ⟨i2, c2⟩ := h2.nil_iff hb
  by_cases e : x = h
  · subst e
    rw [if_pos rfl]
    rw [updP_id hf.1] at c2
    obtain ⟨k', ch'⟩ := c2 (by rw [hf.1]; exact hf.2)
    exact (Mg.Ch.det (.home hf.1 hf.2) ch').1
  · rw [if_neg e]
    obtain ⟨l2, ch2, hl, ho⟩ := hx.locate I (x := x) (k := h) hf.1 hf.2 e
    rw [← updP_fun] at ch2
    obtain ⟨k', ch'⟩ := c2 ch2.ne
    obtain ⟨rfl, _⟩ := ch2.det ch'
    exact ho rfl
theorem locate_home {N x h a s m : Int} {b : Bool} {G : Pt} {l0 : List Int} (I : Mg.Inv N (fun m => G m a s)) (hx : Mg.Ch (fun m => G m a s) x l0 h) (hh : HomeR N (fun m => updP G x a s h m a s) m b) : b = true ∧ m = h := by
  have hf : G h a s = h ∧ h ≠ 0 := hx.fix
  have hr := I.rng h (show G h a s ≠ 0 by rw [hf.1]; exact hf.2)
  have hg : updP G x a s h h a s = h := by
    by_cases e : h = x
    · subst e; rw [updP_at]
    · rw [updP_ne _ _ _ _ _ e]; exact hf.1
  rcases hh with ⟨rfl, h1, h2, h3⟩ | ⟨rfl, _, h3⟩
  · refine ⟨rfl, ?_⟩
    replace h3 : updP G x a s h m a s = m := h3
    by_cases e : m = x
    · subst e
      rw [updP_at] at h3; exact h3.symm
    · rw [updP_ne _ _ _ _ _ e] at h3
      exact I.one _ _ h3 (by omega) hf.1 hf.2
  · exact absurd hg (h3 h hr.1 hr.2)
theorem locate_inv {N x h a s : Int} {G : Pt} {l0 : List Int} (I : ∀ a s, Mg.Inv N (fun m => G m a s)) (hx : Mg.Ch (fun m => G m a s) x l0 h) : ∀ a' s', Mg.Inv N (fun m => updP G x a s h m a' s') := by
  intro a' s'
  have hf : G h a s = h ∧ h ≠ 0 := hx.fix
  by_cases e : a' = a ∧ s' = s
  · obtain ⟨rfl, rfl⟩ := e
    by_cases e : x = h
    · subst e; rw [updP_id hf.1]; exact I _ _
    · rw [updP_fun]; exact (I _ _).locate hx.ne hf.1 hf.2 e
  · rw [updP_off _ _ _ _ _ _ _ e]; exact I a' s'
/-- Move. -/
def mvP (G : Pt) (x y a s : Int) : Pt := updP (updP G x a s y) y a s y
theorem mvP_fun (G : Pt) (x y a s : Int) : (fun k => mvP G x y a s k a s) = Mg.upd (Mg.upd (fun k => G k a s) x y) y y := by
  unfold mvP; rw [updP_fun, updP_fun]
theorem mvP_off (G : Pt) (x y a s a' s' : Int) (h : ¬(a' = a ∧ s' = s)) : (fun k => mvP G x y a s k a' s') = (fun k => G k a' s') := by
  unfold mvP; rw [updP_off _ _ _ _ _ _ _ h, updP_off _ _ _ _ _ _ _ h]
theorem mvP_self {G : Pt} {x a s : Int} (h : G x a s = x) : mvP G x x a s = G := by
  unfold mvP; rw [updP_id h, updP_id h]
theorem mvP_at (G : Pt) (x y a s : Int) : mvP G x y a s y a s = y := by unfold mvP; rw [updP_at]
theorem move_inv {N x y a s : Int} {G : Pt} (I : ∀ a s, Mg.Inv N (fun m => G m a s)) (hx : G x a s = x) (hx0 : x ≠ 0) (hy : 1 ≤ y ∧ y ≤ N) : ∀ a' s', Mg.Inv N (fun m => mvP G x y a s m a' s') := by
  intro a' s'
  by_cases e : a' = a ∧ s' = s
  · obtain ⟨rfl, rfl⟩ := e
    by_cases e : x = y
    · subst e; rw [mvP_self hx]; exact I _ _
    · rw [mvP_fun]; exact (I _ _).move hy hx hx0 e
  · rw [mvP_off _ _ _ _ _ _ _ e]; exact I a' s'
/-- Move: a walk is longer by one machine at most; none is ended; all end at the new home. -/
theorem move_len {N x y z a s c c' : Int} {G : Pt} {l l' : List Int} (I : Mg.Inv N (fun m => G m a s)) (hx : G x a s = x) (hx0 : x ≠ 0) (hy : 1 ≤ y ∧ y ≤ N) (hb : chkB N [z] a s = true) (h1 : WalkR N G z a s c l) (h2 : WalkR N (mvP G x y a s) z a s c' l') :
    l'.length ≤ l.length + 1 ∧ (l ≠ [] → l' ≠ []) ∧ (l' ≠ [] → l'.getLast? = some y) := by
  obtain ⟨i1, c1⟩ := h1.nil_iff hb
  obtain ⟨i2, c2⟩ := h2.nil_iff hb
  have hlast : l' ≠ [] → l'.getLast? = some y := fun hne => by
    obtain ⟨k', ch'⟩ := c2 (fun e => hne (i2.2 e))
    have hI : Mg.Inv N (fun m => mvP G x y a s m a s) := by
      by_cases e : x = y
      · subst e; rw [mvP_self hx]; exact I
      · rw [mvP_fun]; exact I.move hy hx hx0 e
    rw [ch'.last]
    rw [hI.home ch' (x := y) (mvP_at G x y a s) (by omega)]
  by_cases e : x = y
  · subst e
    rw [mvP_self hx] at h2
    have := WalkR.det h1 h2
    subst this
    exact ⟨by omega, fun h => h, hlast⟩
  · by_cases zz : G z a s = 0
    · have hzx : z ≠ x := fun e => by rw [e, hx] at zz; exact hx0 zz
      rw [i1.2 zz]
      refine ⟨?_, fun h => absurd rfl h, hlast⟩
      by_cases ez : z = y
      · subst ez
        have hc : Mg.Ch (fun m => mvP G x z a s m a s) z [z] z := .home (mvP_at ..) (by omega)
        obtain ⟨k', ch'⟩ := c2 hc.ne
        rw [(hc.det ch').1]; simp
      · have : mvP G x y a s z a s = 0 := by
          unfold mvP; rw [updP_ne _ _ _ _ _ ez, updP_ne _ _ _ _ _ hzx]; exact zz
        rw [i2.2 this]; simp
    · obtain ⟨k, ch⟩ := c1 zz
      obtain ⟨l2, ch2, hl⟩ := ch.move I hx hx0 (show y ≠ 0 by omega) e
      rw [← mvP_fun] at ch2
      obtain ⟨k', ch'⟩ := c2 ch2.ne
      obtain ⟨rfl, _⟩ := ch2.det ch'
      refine ⟨hl, fun _ => ?_, hlast⟩
      obtain ⟨t, rfl⟩ := ch'.cons
      simp
theorem move_home {N x y a s m : Int} {b : Bool} {G : Pt} (I : Mg.Inv N (fun m => G m a s)) (hx : G x a s = x) (hx0 : x ≠ 0) (hy : 1 ≤ y ∧ y ≤ N) (hh : HomeR N (fun m => mvP G x y a s m a s) m b) : b = true ∧ m = y := by
  have hI : Mg.Inv N (fun m => mvP G x y a s m a s) := by
    by_cases e : x = y
    · subst e; rw [mvP_self hx]; exact I
    · rw [mvP_fun]; exact I.move hy hx hx0 e
  rcases hh with ⟨rfl, h1, h2, h3⟩ | ⟨rfl, _, h3⟩
  · exact ⟨rfl, hI.one _ _ h3 (by omega) (mvP_at G x y a s) (by omega)⟩
  · exact absurd (mvP_at G x y a s) (h3 y hy.1 hy.2)
end Go.Proofs.Ythhhciofcmmnfaa

namespace Go.Proofs.Ythhhciofcmmnfaa
open Go.RowKit

/-- The id in an operation's box. -/
theorem cells5 {w : World} {b : Nat} {x0 x1 x2 x3 x4 : Value} {t : TypeId} (h : w.heap[b]? = some (.cells #[x0, x1, x2, x3, x4] t (0, 0))) : w.cell? ⟨b, 0, none⟩ = some x0 ∧ w.cell? ⟨b, 3, none⟩ = some x3 ∧ w.cell? ⟨b, 4, none⟩ = some x4 := by
  simp [World.cell?, h]
abbrev refBox (N : Int) (v : Value) : Obj := .cells #[.int .i64 N, v] 27
abbrev opBox (k : Nat) (A B a s : Int) : Obj := .cells #[.int .u8 k, .int .i64 A, .int .i64 B, .int .i64 a, .int .i64 s] 33
set_option maxRecDepth 100000 in
set_option maxHeartbeats 4000000 in
theorem calls_w (w : World) (N : Int) (v0 : Value) (_ : W64 N) (l : List OpV) (h : SOps w v0 l) :
    Calls Try.prog 3 #[.int .i64 N, v0] w fun e w' => e = .returned (.bool true) ∧ Keeps [] w w' := by
  obtain ⟨ao, co, rfl, hlc, hcm, _⟩ := Gen.SlR.form h
  obtain ⟨M, hM⟩ : ∃ N, l.length = N := ⟨_, rfl⟩
  rw [hM] at hlc ⊢
  have hMm : M ≤ 9223372036854775807 := by unfold maxLen at hcm; omega
  rw [show Value.slice ao l.length co = .slice ao M co by rw [hM]] at *
  replace hM := Lib.hid hM
  replace h := Lib.hid h
  go_enter Try.func3, Try.ntmps3
  by_cases h40 : 40 < M
  · go_wp2_with fail
    refine (awake_c _).mono ?_
    rintro e w2 ⟨rfl, hk⟩
    go_wp2
    refine bodyPost_ret (v := .bool true) ?_ ?_ ?_
    · kernel_rfl
    · rfl
    · exact ⟨rfl, hk⟩
  · go_wp2_with fail
    refine (run_c _ N _ l h.out (by rw [hM.out]; omega)).mono ?_
    rintro e w1 (⟨_, rfl, hk1⟩ | ⟨hN, bw, bm, n, G, v, L, rfl, hR, hW, hS, ⟨p, z, q, rfl⟩, hn2, hL2, hbw, hbm, hk1⟩)
    · have hkx := hk1.trans ((Keeps.refl [] w1).alloc (refBox 0 (.slice none 0 0)))
      replace hkx := Lib.hid hkx
      clear hk1
      go_wp2_with fail
      refine (awake_c _).mono ?_
      rintro e w2 ⟨rfl, hk⟩
      go_wp2
      refine bodyPost_ret (v := .bool true) ?_ ?_ ?_
      · kernel_rfl
      · rfl
      · exact ⟨rfl, hkx.out.trans hk⟩
    have hI := hR.rel.inv
    have hrl := hR.rel
    have hn80 : n ≤ 80 := by rw [hM.out] at hn2; omega
    have hL80 : L.length ≤ 80 := by rw [hM.out] at hL2; omega
    have hkx : Keeps [] w1 (w1.alloc (refBox N (.slice p z q))) := (Keeps.refl _ _).alloc _
    have hkw := hk1.trans hkx
    have hmb := heap_alloc_new w1 (refBox N (.slice p z q))
    have hW1 := hW.keeps hkx
    have hS1 := hS.keeps hkx
    obtain ⟨mb, hmbe⟩ : ∃ m, w1.heap.size = m := ⟨_, rfl⟩
    rw [hmbe] at hmb
    replace hkw := Lib.hid hkw
    replace hmb := Lib.hid hmb
    replace hW1 := Lib.hid hW1
    replace hS1 := Lib.hid hS1
    replace hI := Lib.hid hI
    replace hrl := Lib.hid hrl
    clear hk1 hR hbw hbm hn2 hL2 hkx hW hS
    go_wp2
    generalize w1.alloc (refBox N (.slice p z q)) = w2 at *
    clear hmbe
    go_loopw [42] (fun iv wr => ∃ k : Nat, iv = .int .i64 k ∧ k ≤ M ∧ Keeps [] w2 wr) (fun iv _ => M - (intOf iv).toNat)
    case atStart => exact ⟨0, rfl, by omega, Keeps.refl _ _⟩
    case round =>
      obtain ⟨k, rfl, hk, hkr⟩ := hrel
      by_cases hlt : k < M
      · have hkl : k < l.length := by rw [hM.out]; exact hlt
        obtain ⟨g, o, c', hv, x0, x1, x2, x3, x4, hk256, ha64, hs64⟩ := h.out.op hkl
        cases hv
        have hkwr := hkw.out.trans hkr
        replace x0 := hkwr.val x0
        replace x1 := hkwr.val x1
        replace x2 := hkwr.val x2
        replace x3 := hkwr.val x3
        replace x4 := hkwr.val x4
        obtain ⟨X, hX⟩ : ∃ x, l[k] = x := ⟨_, rfl⟩
        rw [hX] at x0 x1 x2 x3 x4 hk256 ha64 hs64
        obtain ⟨xk, xA, xB, xa, xs⟩ := X
        simp only at x0 x1 x2 x3 x4 hk256 ha64 hs64
        have hkx := (Keeps.refl [] wr).alloc (opBox xk xA xB xa xs)
        have hbx := heap_alloc_new wr (opBox xk xA xB xa xs)
        obtain ⟨xb, hxb⟩ : ∃ m, wr.heap.size = m := ⟨_, rfl⟩
        rw [hxb] at hbx
        have hkr2 := hkr.trans hkx
        have hmb2 := (hkr2.block _ (lt_of_block hmb.out) (by simp)).trans hmb.out
        have hW2 := hW1.out.keeps hkr2
        have hS2 := hS1.out.keeps hkr2
        replace hkr2 := Lib.hid hkr2
        replace hbx := Lib.hid hbx
        replace hmb2 := Lib.hid hmb2
        replace hW2 := Lib.hid hW2
        replace hS2 := Lib.hid hS2
        clear hkx hkr hX hkwr
        go_wp2_with fail
        generalize wr.alloc (opBox xk xA xB xa xs) = w3 at *
        refine (home_c w3 bw bm n N G xa xs hW2.out hN ha64 hs64).mono ?_
        rintro e w4 ⟨m, b, rfl, hHo, hk4⟩
        have hbx4 := (hk4.block _ (lt_of_block hbx.out) (by simp)).trans hbx.out
        have hmb4 := (hk4.block _ (lt_of_block hmb2.out) (by simp)).trans hmb2.out
        obtain ⟨y0, y3, y4⟩ := cells5 hbx4
        obtain ⟨m0, m1⟩ := cells2 hmb4
        have hkr4 := hkr2.out.trans hk4
        have hW4 := hW2.out.keeps hk4
        have hS4 := hS2.out.keeps hk4
        replace hbx4 := Lib.hid hbx4
        replace hmb4 := Lib.hid hmb4
        replace hkr4 := Lib.hid hkr4
        replace hW4 := Lib.hid hW4
        replace hS4 := Lib.hid hS4
        clear hW2 hS2 hk4 hkr2 hbx hmb2 x0 x1 x2 x3 x4 hxb
        replace hHo := Lib.hid hHo
        go_wp2_with fail
        refine (homeR_c w4 N _ L xa xs hS4.out).mono ?_
        rintro e w5 ⟨m', b', rfl, hHL, hk5⟩
        obtain ⟨hbb, hmm⟩ := hrl.out.home hHo.out hHL
        subst hbb hmm
        have hbx5 := (hk5.block _ (lt_of_block hbx4.out) (by simp)).trans hbx4.out
        have hmb5 := (hk5.block _ (lt_of_block hmb4.out) (by simp)).trans hmb4.out
        have hkr5 := hkr4.out.trans hk5
        have hW5 := hW4.out.keeps hk5
        have hS5 := hS4.out.keeps hk5
        replace hbx5 := Lib.hid hbx5
        replace hmb5 := Lib.hid hmb5
        replace hkr5 := Lib.hid hkr5
        replace hW5 := Lib.hid hW5
        replace hS5 := Lib.hid hS5
        clear hW4 hS4 hk5 hkr4 hbx4 hmb4 y0 y3 y4 m0 m1 hHL hHo
        go_wp2
        go_loopw [14] (fun iv ws => ∃ j : Nat, iv = .int .i64 j ∧ (j : Int) ≤ N + 2 ∧ Keeps [] w5 ws) (fun iv _ => (N + 2 - intOf iv).toNat)
        case atStart => exact ⟨0, rfl, by omega, Keeps.refl _ _⟩
        case round =>
          obtain ⟨j, rfl, hj, hks⟩ := hrel
          have hbx6 := (hks.block _ (lt_of_block hbx5.out) (by simp)).trans hbx5.out
          have hmb6 := (hks.block _ (lt_of_block hmb5.out) (by simp)).trans hmb5.out
          obtain ⟨y0, y3, y4⟩ := cells5 hbx6
          obtain ⟨m0, m1⟩ := cells2 hmb6
          have hW6 := hW5.out.keeps hks
          have hS6 := hS5.out.keeps hks
          replace hbx6 := Lib.hid hbx6
          replace hmb6 := Lib.hid hmb6
          replace hks := Lib.hid hks
          replace hW6 := Lib.hid hW6
          replace hS6 := Lib.hid hS6
          by_cases hjl : (j : Int) ≤ N + 1
          · go_wp2_with fail
            refine (walk_c _ bw bm n N G (j : Int) xa xs hW6.out hN hI.out).mono ?_
            rintro e w7 ⟨c, lw, vl, rfl, hWR, hSl, _, hk7⟩
            have hbx7 := (hk7.block _ (lt_of_block hbx6.out) (by simp)).trans hbx6.out
            have hmb7 := (hk7.block _ (lt_of_block hmb6.out) (by simp)).trans hmb6.out
            obtain ⟨y0, y3, y4⟩ := cells5 hbx7
            obtain ⟨m0, m1⟩ := cells2 hmb7
            have hS7 := hS6.out.keeps hk7
            have hk7s := hks.out.trans hk7
            replace hk7s := Lib.hid hk7s
            replace hS7 := Lib.hid hS7
            replace hSl := Lib.hid hSl
            replace hWR := Lib.hid hWR
            clear hk7 hbx7 hmb7 hks hW6 hS6 hbx6 hmb6
            go_wp2_with fail
            refine (walkR_c w7 N _ L (j : Int) xa xs hS7.out (by omega)).mono ?_
            rintro e w8 ⟨c', lw', vl', rfl, hWL, hSl', hk8⟩
            obtain ⟨hc2, hl2⟩ := hrl.out.walk hN.2 hWR.out hWL
            subst hc2 hl2
            have hSl8 := hSl.out.keeps hk8
            have hk8s := hk7s.out.trans hk8
            replace hk8s := Lib.hid hk8s
            replace hSl8 := Lib.hid hSl8
            replace hSl' := Lib.hid hSl'
            clear hk8 hWL hWR hk7s y0 y3 y4 m0 m1 hSl hS7
            go_wp2_with fail
            refine (same_c _ _ _ lw lw hSl8.out hSl'.out).mono ?_
            rintro e w9 ⟨rfl, hk9⟩
            rw [show sameB lw lw = true from by simp [sameB]]
            have hk9s := hk8s.out.trans hk9
            replace hk9s := Lib.hid hk9s
            clear hk9
            go_wp2
            go_roundw
            case rel => exact ⟨j + 1, rfl, by omega, hk9s.out⟩
            case measure => simp [intOf]; omega
          · have hjn : ¬ ((j : Int) ≤ N + 1) := hjl
            go_wp2
            go_roundw
            case rel => exact ⟨k + 1, rfl, by omega, hkr5.out.trans hks.out⟩
            case measure => simp [intOf]; omega
      · have hkM : k = M := by omega
        subst hkM
        replace hkr := Lib.hid hkr
        go_wp2_with fail
        refine (awake_c _).mono ?_
        rintro e w8 ⟨rfl, hk8⟩
        go_wp2
        refine bodyPost_ret (v := .bool true) ?_ ?_ ?_
        · kernel_rfl
        · rfl
        · exact ⟨rfl, (hkw.out.trans hkr.out).trans hk8⟩
end Go.Proofs.Ythhhciofcmmnfaa

namespace Go.Proofs.Ythhhciofcmmnfaa
open Go.ChangeShapes Go.WideShapes Go.ChangeAt Go.RowKit

set_option maxRecDepth 100000 in
set_option maxHeartbeats 1000000 in
theorem cs_id {w : World} {cs : List Value} (h : Gen.Cs Try.prog w 31 cs) : ∃ a s, cs = [.int .i64 a, .int .i64 s] ∧ W64 a ∧ W64 s := by
  obtain ⟨hl, hall⟩ := Gen.Cs.struct Try.underlying31 h
  rw [show Try.prog.cellsOf 31 = 2 by kernel_rfl] at hl
  obtain ⟨a, b, rfl⟩ : ∃ a b, cs = [a, b] := by
    match cs, hl with
    | [a, b], _ => exact ⟨a, b, rfl⟩
  have h0 := hall 0 _ rfl
  have h1 := hall 1 _ rfl
  replace h0 : Gen.Cs Try.prog w 3 (([a, b].drop 0).take (Try.prog.cellsOf 3)) := h0
  replace h1 : Gen.Cs Try.prog w 3 (([a, b].drop 1).take (Try.prog.cellsOf 3)) := h1
  rw [show Try.prog.cellsOf 3 = 1 by kernel_rfl] at h0 h1
  obtain ⟨k, hk, wk⟩ := Gen.Cs.int Try.underlying3 h0
  obtain ⟨n, hn, wn⟩ := Gen.Cs.int Try.underlying3 h1
  simp at hk hn
  subst hk hn
  exact ⟨k, n, rfl, by simpa [W64, Lit.wf, IntKind.min, IntKind.max, IntKind.signed, IntKind.bits] using wk, by simpa [W64, Lit.wf, IntKind.min, IntKind.max, IntKind.signed, IntKind.bits] using wn⟩
set_option maxRecDepth 100000 in
set_option maxHeartbeats 1000000 in
theorem cs_op {w : World} {cs : List Value} (h : Gen.Cs Try.prog w 33 cs) : ∃ x, OpR w cs x := by
  obtain ⟨hl, hall⟩ := Gen.Cs.struct Try.underlying33 h
  rw [show Try.prog.cellsOf 33 = 5 by kernel_rfl] at hl
  obtain ⟨a, b, c, d, e, rfl⟩ : ∃ a b c d e, cs = [a, b, c, d, e] := by
    match cs, hl with
    | [a, b, c, d, e], _ => exact ⟨a, b, c, d, e, rfl⟩
  have h0 := hall 0 _ rfl
  have h1 := hall 1 _ rfl
  have h2 := hall 2 _ rfl
  have h3 := hall 3 _ rfl
  replace h0 : Gen.Cs Try.prog w 5 (([a, b, c, d, e].drop 0).take (Try.prog.cellsOf 5)) := h0
  replace h1 : Gen.Cs Try.prog w 3 (([a, b, c, d, e].drop 1).take (Try.prog.cellsOf 3)) := h1
  replace h2 : Gen.Cs Try.prog w 3 (([a, b, c, d, e].drop 2).take (Try.prog.cellsOf 3)) := h2
  replace h3 : Gen.Cs Try.prog w 31 (([a, b, c, d, e].drop 3).take (Try.prog.cellsOf 31)) := h3
  rw [show Try.prog.cellsOf 5 = 1 by kernel_rfl] at h0
  rw [show Try.prog.cellsOf 3 = 1 by kernel_rfl] at h1 h2
  rw [show Try.prog.cellsOf 31 = 2 by kernel_rfl] at h3
  obtain ⟨k, hk, wk⟩ := Gen.Cs.int Try.underlying5 h0
  obtain ⟨A, hA, wA⟩ := Gen.Cs.int Try.underlying3 h1
  obtain ⟨B, hB, wB⟩ := Gen.Cs.int Try.underlying3 h2
  obtain ⟨m, s, hi, hm, hs⟩ := cs_id h3
  simp at hk hA hB hi
  obtain ⟨hi1, hi2⟩ := hi
  subst hk hA hB hi1 hi2
  have hb : 0 ≤ k ∧ k ≤ 255 := by simpa [Lit.wf, IntKind.min, IntKind.max, IntKind.signed, IntKind.bits] using wk
  have hA : W64 A := by simpa [W64, Lit.wf, IntKind.min, IntKind.max, IntKind.signed, IntKind.bits] using wA
  have hB : W64 B := by simpa [W64, Lit.wf, IntKind.min, IntKind.max, IntKind.signed, IntKind.bits] using wB
  exact ⟨⟨k.toNat, A, B, m, s⟩, by simp; omega, by simp; omega, hA, hB, hm, hs⟩
set_option maxRecDepth 100000 in
set_option maxHeartbeats 1000000 in
theorem open_ops {H : Type} {enc : TypeId × Value → H} {W : World} {base : Nat} {r : Reach} {v : Value} {d : DataW H} {ps : List MemPlace} (hv : Value.okWide Try.prog W r base 22 v)
    (h : DataW.Trod enc Try.prog W 0 (fun _ => true) true 22 v d ps) : ∃ L, SOps W v L := by
  obtain ⟨a0, n0, c0, rfl⟩ := okWide_slice Try.underlying22 hv
  obtain ⟨L, hL, _⟩ := Gen.SlR.open (R := OpR) Try.underlying22 (show Try.prog.cellsOf 33 = 5 by kernel_rfl) (by decide) (fun cs hcs => cs_op hcs) (Gen.Cs.of_trod rfl h)
  exact ⟨L, hL⟩
set_option maxRecDepth 100000 in
set_option maxHeartbeats 1000000 in
theorem open_id {H : Type} {enc : TypeId × Value → H} {W : World} {base : Nat} {r : Reach} {v : Value} {d : DataW H} {ps : List MemPlace} (hv : Value.okWide Try.prog W r base 31 v)
    (h : DataW.Trod enc Try.prog W 0 (fun _ => true) true 31 v d ps) : ∃ (a s : Int), v = idV a s ∧ W64 a ∧ W64 s := by
  obtain ⟨a, s, hc, ha, hs⟩ := cs_id (Gen.Cs.of_agg h)
  obtain ⟨cs, rfl, _⟩ := okWide_struct Try.underlying31 hv
  refine ⟨a, s, ?_, ha, hs⟩
  have : cs.toList = [.int .i64 a, .int .i64 s] := hc
  rw [← Array.toArray_toList (xs := cs), this]
theorem u8_nat {x : Int} (h : (Lit.int .u8 x).wf = true) : ∃ n : Nat, x = n ∧ n < 256 := by
  have hb : 0 ≤ x ∧ x ≤ 255 := by simpa [Lit.wf, IntKind.min, IntKind.max, IntKind.signed, IntKind.bits] using h
  exact ⟨x.toNat, by omega, by omega⟩
theorem w64_wf {x : Int} (h : (Lit.int .i64 x).wf = true) : W64 x := by simpa [W64, Lit.wf, IntKind.min, IntKind.max, IntKind.signed, IntKind.bits] using h
end Go.Proofs.Ythhhciofcmmnfaa

namespace Go.Proofs.Ythhhciofcmmnfaa
open Go.RowKit

theorem keyedI : Maps.Keyed Try.prog 3 := Maps.int_keyed Try.underlying3
theorem zeroBo (w : World) : (zeroValue 4).run Try.prog w = .ok (.bool false) w := by kernel_rfl
/-- A map from int to bool in memory, as a function that gives false where nothing is. -/
def MB (w : World) (b n : Nat) (f : Int → Bool) : Prop :=
  ∃ D, w.ownsMap Try.prog 3 rawR b n D ∧ ∀ k : Int, W64 k → D.atKey (.int .i64 k) (.held (.bool false)) = .held (.bool (f k))
theorem MB.made (w : World) : MB (w.alloc (.map #[] 0)) w.heap.size 0 (fun _ => false) := ⟨.map [], World.ownsMap_made w _ _ _, fun _ _ => rfl⟩
theorem MB.keeps {w w' : World} {b n : Nat} {f : Int → Bool} (h : MB w b n f) (hk : Keeps [] w w') : MB w' b n f := by
  obtain ⟨D, ⟨es, clock, hb, F, hs, hD⟩, hG⟩ := h
  exact ⟨D, ⟨es, clock, (hk.block b (Array.getElem?_eq_some_iff.1 hb).1 (by simp)).trans hb, F, hs, hD⟩, hG⟩
theorem MB.noCells {w : World} {b n : Nat} {f : Int → Bool} (h : MB w b n f) (o : Nat) : w.cell? ⟨b, o, none⟩ = none := by
  obtain ⟨D, hown, _⟩ := h
  exact owns_no_cells hown o
theorem MB.look {w : World} {b n : Nat} {f : Int → Bool} (h : MB w b n f) {k : Int} (hk : W64 k) {c : Bool} (hc : f k = c) :
    (Instr.lookup 47 (.map (some b)) (.int .i64 k) false).run Try.prog w = .ok (.bool c) w := by
  obtain ⟨D, hown, hG⟩ := h
  obtain ⟨v, ps, hrun, hv⟩ := hown.lookup keyedI Try.underlying47 (zeroBo w) (zd := .held (.bool false)) (zp := []) rfl (Maps.keyOf_int_mk Try.underlying3 hk)
  simp only [rawR, Option.some.injEq, Prod.mk.injEq] at hv
  rw [hG k hk] at hv
  have : v = .bool (f k) := by have := hv.1; cases this; rfl
  rw [this, hc] at hrun; exact hrun
theorem MB.put {w : World} {b n : Nat} {f : Int → Bool} (h : MB w b n f) {k : Int} (hk : W64 k) (hn : n < maxLen) (c : Bool) :
    ∃ w', (Instr.mapUpdate 47 (.map (some b)) (.int .i64 k) (.bool c)).run Try.prog w = .ok () w' ∧ MB w' b (n + 1) (fun j => if j = k then c else f j) ∧ Keeps [b] w w' := by
  obtain ⟨D, hown, hG⟩ := h
  have hl := Maps.keyOf_int_mk Try.underlying3 hk
  obtain ⟨w', hrun, hown', ht⟩ := hown.store keyedI Try.underlying47 hn hl (d := .held (.bool c)) (ps := []) rfl
  refine ⟨w', hrun, ⟨_, hown', fun j hj => ?_⟩, Keeps.of_grown ht.grown⟩
  by_cases e : j = k
  · subst e
    rw [Maps.atKey_put_same (by obtain ⟨es, clock, _, _, _, e⟩ := hown; rw [e]; exact ⟨_, rfl⟩) (keyedI.key hl)]
    simp
  · rw [Maps.atKey_put_other (fun e2 => e (by cases e2; rfl)), hG j hj]
    simp [e]
/-- What a walk is like. -/
theorem walk_facts {N y a s c m : Int} {b : Bool} {G : Pt} {l : List Int} (I : Mg.Inv N (fun m => G m a s)) (hw : WalkR N G y a s c l) (hh : HomeR N (fun m => G m a s) m b) :
    l.Nodup ∧ (∀ x ∈ l, 1 ≤ x ∧ x ≤ N) ∧ (l ≠ [] → b = true ∧ l.head? = some y ∧ l.getLast? = some m) := by
  have ht : l = [] ∨ ∃ h, Mg.Ch (fun m => G m a s) y l h := by
    rcases hw with ⟨_, _, e⟩ | ⟨_, ⟨_, _, e⟩ | ⟨_, hc, _⟩⟩
    · exact .inl e
    · exact .inl e
    · exact .inr hc
  rcases ht with rfl | ⟨h, ch⟩
  · exact ⟨by simp, by simp, fun h => absurd rfl h⟩
  · refine ⟨ch.nodup, I.mem ch, fun _ => ?_⟩
    have hf : G h a s = h ∧ h ≠ 0 := ch.fix
    have hr := I.rng h (show G h a s ≠ 0 by rw [hf.1]; exact hf.2)
    obtain ⟨t, rfl⟩ := ch.cons
    have hl := ch.last
    rcases hh with ⟨rfl, h1, h2, h3⟩ | ⟨rfl, _, h3⟩
    · refine ⟨rfl, rfl, ?_⟩
      rw [hl, I.one _ _ hf.1 hf.2 h3 (by omega)]
    · exact absurd hf.1 (h3 h hr.1 hr.2)
theorem nodup_take {l : List Int} (h : l.Nodup) {k : Nat} (hk : k < l.length) : l[k] ∉ l.take k := by
  intro hm
  obtain ⟨j, hj, e⟩ := List.mem_iff_getElem.1 hm
  rw [List.getElem_take] at e
  have hj2 : j < k := by simp at hj; omega
  exact (List.pairwise_iff_getElem.1 h) j k (by omega) hk hj2 e
set_option maxRecDepth 100000 in
set_option maxHeartbeats 4000000 in
theorem chains_w (w : World) (mc : Nat) (v0 : Value) (hmc : mc < 256) (l : List OpV) (h : SOps w v0 l) :
    Calls Try.prog 4 #[.int .u8 mc, v0] w fun e w' => e = .returned (.bool true) ∧ Keeps [] w w' := by
  obtain ⟨ao, co, rfl, hlc, hcm, _⟩ := Gen.SlR.form h
  obtain ⟨M, hM⟩ : ∃ N, l.length = N := ⟨_, rfl⟩
  rw [hM] at hlc ⊢
  have hMm : M ≤ 9223372036854775807 := by unfold maxLen at hcm; omega
  have hn : (mc : Int) % 8 < 8 ∧ 0 ≤ (mc : Int) % 8 := by omega
  have hmm := @run_makeMap Try.prog
  rw [show Value.slice ao l.length co = .slice ao M co by rw [hM]] at *
  replace hM := Lib.hid hM
  replace h := Lib.hid h
  go_enter Try.func4, Try.ntmps4
  by_cases h40 : 40 < M
  · go_wp2_with fail
    refine (awake_c _).mono ?_
    rintro e w2 ⟨rfl, hk⟩
    go_wp2
    refine bodyPost_ret (v := .bool true) ?_ ?_ ?_
    · kernel_rfl
    · rfl
    · exact ⟨rfl, hk⟩
  · go_wp2_with fail
    obtain ⟨N, hNe⟩ : ∃ N : Int, 1 + (mc : Int) % 8 = N := ⟨_, rfl⟩
    have hN : 1 ≤ N ∧ N ≤ 8 := by omega
    rw [hNe]
    refine (run_c _ N _ l h.out (by rw [hM.out]; omega)).mono ?_
    rintro e w1 (⟨hb, _⟩ | ⟨_, bw, bm, n, G, v, L, rfl, hR, hW, _, ⟨p, z, q, rfl⟩, hn2, _, hbw, hbm, hk1⟩)
    · exact absurd hN hb
    have hI := hR.rel.inv
    have hn80 : n ≤ 80 := by rw [hM.out] at hn2; omega
    have hkx : Keeps [] w1 (w1.alloc (refBox N (.slice p z q))) := (Keeps.refl _ _).alloc _
    have hkw := hk1.trans hkx
    have hW1 := hW.keeps hkx
    replace hkw := Lib.hid hkw
    replace hW1 := Lib.hid hW1
    replace hI := Lib.hid hI
    replace hNe := Lib.hid hNe
    clear hk1 hR hbw hbm hn2 hkx hW
    go_wp2
    generalize w1.alloc (refBox N (.slice p z q)) = w2 at *
    go_loopw [43] (fun iv wr => ∃ k : Nat, iv = .int .i64 k ∧ k ≤ M ∧ Keeps [] w2 wr) (fun iv _ => M - (intOf iv).toNat)
    case atStart => exact ⟨0, rfl, by omega, Keeps.refl _ _⟩
    case round =>
      obtain ⟨k, rfl, hk, hkr⟩ := hrel
      by_cases hlt : k < M
      · have hkl : k < l.length := by rw [hM.out]; exact hlt
        obtain ⟨g, o, c', hv, x0, x1, x2, x3, x4, hk256, ha64, hs64⟩ := h.out.op hkl
        cases hv
        have hkwr := hkw.out.trans hkr
        replace x0 := hkwr.val x0
        replace x1 := hkwr.val x1
        replace x2 := hkwr.val x2
        replace x3 := hkwr.val x3
        replace x4 := hkwr.val x4
        obtain ⟨X, hX⟩ : ∃ x, l[k] = x := ⟨_, rfl⟩
        rw [hX] at x0 x1 x2 x3 x4 hk256 ha64 hs64
        obtain ⟨xk, xA, xB, xa, xs⟩ := X
        simp only at x0 x1 x2 x3 x4 hk256 ha64 hs64
        have hkx := (Keeps.refl [] wr).alloc (opBox xk xA xB xa xs)
        have hbx := heap_alloc_new wr (opBox xk xA xB xa xs)
        obtain ⟨xb, hxb⟩ : ∃ m, wr.heap.size = m := ⟨_, rfl⟩
        rw [hxb] at hbx
        have hkr2 := hkr.trans hkx
        have hW2 := hW1.out.keeps hkr2
        replace hkr2 := Lib.hid hkr2
        replace hbx := Lib.hid hbx
        replace hW2 := Lib.hid hW2
        clear hkx hkr hX hkwr
        go_wp2_with fail
        generalize wr.alloc (opBox xk xA xB xa xs) = w3 at *
        refine (walks_c w3 bw bm n N G xa xs hW2.out hN hI.out).mono ?_
        rintro e w4 ⟨va, la, rfl, hk4, hA⟩
        have hbx4 := (hk4.block _ (lt_of_block hbx.out) (by simp)).trans hbx.out
        obtain ⟨y0, y3, y4⟩ := cells5 hbx4
        have hkr4 := hkr2.out.trans hk4
        have hW4 := hW2.out.keeps hk4
        replace hbx4 := Lib.hid hbx4
        replace hkr4 := Lib.hid hkr4
        replace hW4 := Lib.hid hW4
        replace hA := Lib.hid hA
        clear hW2 hk4 hkr2 hbx x0 x1 x2 x3 x4 hxb
        go_wp2_with fail
        refine (home_c w4 bw bm n N G xa xs hW4.out hN ha64 hs64).mono ?_
        rintro e w5 ⟨m, b, rfl, hHo, hk5⟩
        have hkr5 := hkr4.out.trans hk5
        replace hHo := Lib.hid hHo
        replace hkr5 := Lib.hid hkr5
        clear hkr4 hW4 y0 y3 y4 hbx4
        rcases hA.out with ⟨hno, rfl⟩ | ⟨hyes, hK, hla, hwa⟩
        · rw [hno]
          clear hA
          go_wp2
          go_loopw [15] (fun iv wr => iv = .int .i64 0 ∧ Keeps [] w5 wr) (fun iv _ => 0)
          case atStart => exact ⟨rfl, Keeps.refl _ _⟩
          case round =>
            obtain ⟨rfl, hks⟩ := hrel
            replace hks := Lib.hid hks
            go_wp2
            go_roundw
            case rel => exact ⟨k + 1, rfl, by omega, hkr5.out.trans hks.out⟩
            case measure => simp [intOf]; omega
        · rw [hyes]
          replace hK := hK.keep hk5 (by simp) hk5.ki0
          obtain ⟨aa, ca, rfl⟩ := hK.form
          obtain ⟨K, hKe⟩ : ∃ K, la.length = K := ⟨_, rfl⟩
          have hK8 : K ≤ 8 := by omega
          rw [hKe] at hK ⊢
          replace hKe := Lib.hid hKe
          replace hK := Lib.hid hK
          replace hwa := Lib.hid hwa
          clear hA hk5 hyes hla
          go_wp2
          go_loopw [15] (fun iv wr => ∃ j : Nat, iv = .int .i64 j ∧ j ≤ K ∧ Keeps [] w5 wr) (fun iv _ => K - (intOf iv).toNat)
          case atStart => exact ⟨0, rfl, by omega, Keeps.refl _ _⟩
          case round =>
            obtain ⟨j, rfl, hj, hks⟩ := hrel
            by_cases hjl : j < K
            · have hxa : j < la.length := by rw [hKe.out]; exact hjl
              obtain ⟨ga, ca', sa, za, hva, hca, hSa⟩ := (hK.out.keep hks (by simp) hks.ki0).elem hxa
              rw [hKe.out] at hva
              cases hva
              obtain ⟨c1, hw1⟩ := hwa.out j hxa
              obtain ⟨hnd, hmem, hne⟩ := walk_facts (hI.out _ _) hw1 hHo.out
              obtain ⟨lx, hlx⟩ : ∃ lx, la[j] = lx := ⟨_, rfl⟩
              rw [hlx] at hca hSa hnd hmem hne
              obtain ⟨nx, hnx⟩ : ∃ nx, lx.length = nx := ⟨_, rfl⟩
              have hn8 : nx ≤ 8 := by
                rw [← hnx, ← hlx]
                rcases hw1 with ⟨_, _, e⟩ | ⟨_, ⟨_, _, e⟩ | ⟨_, ⟨_, hc⟩, _⟩⟩
                · rw [e]; simp
                · rw [e]; simp
                · exact (hI.out _ _).len hN.2 hc
              clear hw1 hlx
              have hka := (Keeps.refl [] wr).alloc (.map #[] 0)
              have hMB := MB.made wr
              have hca1 := hka.val hca
              have hSa1 := hSa.keeps hka
              have hks1 := hks.trans hka
              obtain ⟨mbk, hmbk⟩ : ∃ m, wr.heap.size = m := ⟨_, rfl⟩
              rw [hmbk] at hMB
              have hmlt : mbk < (wr.alloc (.map #[] 0)).heap.size := by rw [← hmbk]; simp
              have hmge : wr.heap.size ≤ mbk := by omega
              have hgam : ga < mbk := by rw [← hmbk]; exact lt_of_cell hca
              rw [hnx] at hca hca1 hSa1
              replace hMB := Lib.hid hMB
              replace hSa1 := Lib.hid hSa1
              replace hks1 := Lib.hid hks1
              replace hnd := Lib.hid hnd
              replace hmem := Lib.hid hmem
              replace hne := Lib.hid hne
              replace hnx := Lib.hid hnx
              have h5m : w5.heap.size ≤ mbk := by have := hks.size; omega
              replace hks := Lib.hid hks
              clear hSa hka hca hmge
              go_wp2
              generalize wr.alloc (.map #[] 0) = wm at *
              clear hmbk
              go_loopw [77] (fun iv wt => ∃ t : Nat, iv = .int .i64 t ∧ t ≤ nx ∧ MB wt mbk t (fun x => decide (x ∈ lx.take t)) ∧ Keeps [mbk] wm wt) (fun iv _ => nx - (intOf iv).toNat)
              case atStart => exact ⟨0, rfl, by omega, by simpa using hMB.out, Keeps.refl _ _⟩
              case round =>
                obtain ⟨t, rfl, ht, hMt, hkt⟩ := hrel
                have hki : KI wm wr := hkt.ki (fun b hb o x => by simp at hb; subst hb; rw [hMB.out.noCells]; simp)
                have hSt := hSa1.out.ki hki
                clear hki
                by_cases htl : t < nx
                · obtain ⟨gx, ox, cx, e1, hcl⟩ := hSt.elem (k := t) (by rw [hnx.out]; exact htl)
                  rw [hnx.out] at e1
                  cases e1
                  have hnot0 : lx[t]'(by rw [hnx.out]; exact htl) ∉ lx.take t := nodup_take hnd.out _
                  have hmem0 := hmem.out _ (List.getElem_mem (by rw [hnx.out]; exact htl : t < lx.length))
                  have htk : lx.take (t + 1) = lx.take t ++ [lx[t]'(by rw [hnx.out]; exact htl)] := by
                    rw [List.take_add_one, List.getElem?_eq_getElem (by rw [hnx.out]; exact htl)]; rfl
                  obtain ⟨e, he⟩ : ∃ e, lx[t]'(by rw [hnx.out]; exact htl) = e := ⟨_, rfl⟩
                  rw [he] at hcl hnot0 hmem0 htk
                  have hnot : decide (e ∈ lx.take t) = false := by simp [hnot0]
                  have hlook := hMt.look (w64 (m := e) (by omega) (by omega)) hnot
                  obtain ⟨wp, hput, hMp, hkp⟩ := hMt.put (k := e) (w64 (by omega) (by omega)) (by unfold maxLen; omega) true
                  have hMp2 : MB wp mbk (t + 1) (fun x => decide (x ∈ lx.take (t + 1))) := by
                    have : (fun x => decide (x ∈ lx.take (t + 1))) = (fun j => if j = e then true else decide (j ∈ lx.take t)) := by
                      funext x
                      rw [htk]
                      by_cases hx : x = e
                      · simp [hx]
                      · simp [hx]
                    rw [this]; exact hMp
                  have h1 : decide (e < 1) = false := by simp; omega
                  have h2 : decide (N < e) = false := by simp; omega
                  have hkp2 := hkt.trans hkp
                  replace hMp2 := Lib.hid hMp2
                  replace hkp2 := Lib.hid hkp2
                  clear hMp hkp hkt hMt hnot htk he hSt hnot0
                  go_wp2
                  go_roundw
                  case rel => exact ⟨t + 1, rfl, by omega, hMp2.out, hkp2.out⟩
                  case measure => simp [intOf]; omega
                · have htn : t = nx := by omega
                  have hca2 := (hkt.cell ga j (lt_of_cell hca1) (by simp; omega)).trans hca1
                  have hkf : Keeps [] w5 wr := hks1.out.fresh hkt (fun b hb => .inr (by simp at hb; omega))
                  replace hkf := Lib.hid hkf
                  clear hkt hMt hca1
                  have hwp : IntKind.i64.wrap ((j : Int) + 1) = (j : Int) + 1 := IntWalk.i64_in _ (by omega)
                  clear htl ht
                  subst htn
                  by_cases hl0 : lx = []
                  · have h0 : t = 0 := by rw [← hnx.out, hl0]; rfl
                    clear hSt hne
                    subst h0
                    replace hl0 := Lib.hid hl0
                    go_wp2
                    go_roundw
                    case rel => exact ⟨j + 1, rfl, by omega, hkf.out⟩
                    case measure => simp [intOf]; omega
                  · obtain ⟨hb, hhd, hlast⟩ := hne.out hl0
                    have hlen : 0 < lx.length := List.length_pos_iff.2 hl0
                    obtain ⟨u, hu⟩ : ∃ u, lx.length = u + 1 := ⟨lx.length - 1, by omega⟩
                    obtain ⟨gx, ox, cx, e1, hcl⟩ := hSt.elem (k := u) (by omega)
                    obtain ⟨gx', ox', cx', e1', hc0⟩ := hSt.elem (k := 0) (by omega)
                    have hy2 : lx[u] = m := by
                      rw [List.getLast?_eq_getElem?, hu, Nat.add_sub_cancel] at hlast
                      exact (List.getElem?_eq_some_iff.1 hlast).2
                    have hy0 : lx[0] = (j : Int) + 1 := by
                      rw [List.head?_eq_getElem?] at hhd
                      exact (List.getElem?_eq_some_iff.1 hhd).2
                    rw [hy2] at hcl
                    rw [hy0, Nat.add_zero] at hc0
                    rw [hnx.out] at e1 e1'
                    cases e1
                    cases e1'
                    rw [hnx.out] at hu
                    have hn1 : (t : Int) - 1 = (u : Int) := by omega
                    have hnw : IntKind.i64.wrap ((t : Int) - 1) = (u : Int) := by rw [hn1]; exact IntWalk.i64_in _ (by omega)
                    have hg : (0 : Int) < t := by omega
                    have hut : u < t := by omega
                    have h0t : 0 < t := by omega
                    clear hu hy0 hy2 hhd hlast hl0 hlen hSt hne
                    go_wp2
                    go_roundw
                    case rel => exact ⟨j + 1, rfl, by omega, hkf.out⟩
                    case measure => simp [intOf]; omega
            · have hjn : j = K := by omega
              subst hjn
              replace hks := Lib.hid hks
              go_wp2
              go_roundw
              case rel => exact ⟨k + 1, rfl, by omega, hkr5.out.trans hks.out⟩
              case measure => simp [intOf]; omega
      · have hkM : k = M := by omega
        subst hkM
        replace hkr := Lib.hid hkr
        go_wp2_with fail
        refine (awake_c _).mono ?_
        rintro e w8 ⟨rfl, hk8⟩
        go_wp2
        refine bodyPost_ret (v := .bool true) ?_ ?_ ?_
        · kernel_rfl
        · rfl
        · exact ⟨rfl, (hkw.out.trans hkr.out).trans hk8⟩
end Go.Proofs.Ythhhciofcmmnfaa

namespace Go.Proofs.Ythhhciofcmmnfaa
open Go.RowKit

set_option maxRecDepth 100000 in
set_option maxHeartbeats 4000000 in
theorem locates_w (w : World) (mc : Nat) (v0 : Value) (x a s : Int) (hmc : mc < 256) (l : List OpV) (hx : W64 x) (hwa0 : W64 a) (hws0 : W64 s) (h : SOps w v0 l) :
    Calls Try.prog 5 #[.int .u8 mc, v0, .int .i64 x, idV a s] w fun e w' => e = .returned (.bool true) ∧ Keeps [] w w' := by
  obtain ⟨ao, co, rfl, hlc, hcm, _⟩ := Gen.SlR.form h
  obtain ⟨M, hM⟩ : ∃ N, l.length = N := ⟨_, rfl⟩
  rw [hM] at hlc ⊢
  have hMm : M ≤ 9223372036854775807 := by unfold maxLen at hcm; omega
  have hn : (mc : Int) % 8 < 8 ∧ 0 ≤ (mc : Int) % 8 := by omega
  have hkA : Keeps [] w (w.alloc (.cells #[.int .i64 a, .int .i64 s] 31)) := (Keeps.refl _ _).alloc _
  have hb0 := heap_alloc_new w (.cells #[.int .i64 a, .int .i64 s] 31)
  have hSA := h.keeps hkA
  rw [show Value.slice ao l.length co = .slice ao M co by rw [hM]] at *
  replace hM := Lib.hid hM
  replace h := Lib.hid h
  replace hSA := Lib.hid hSA
  replace hkA := Lib.hid hkA
  replace hb0 := Lib.hid hb0
  go_enter Try.func5, Try.ntmps5
  by_cases h40 : 40 < M
  · go_wp2_with fail
    refine (awake_c _).mono ?_
    rintro e w2 ⟨rfl, hk⟩
    go_wp2
    refine bodyPost_ret (v := .bool true) ?_ ?_ ?_
    · kernel_rfl
    · rfl
    · exact ⟨rfl, hkA.out.trans hk⟩
  · go_wp2_with fail
    obtain ⟨N, hNe⟩ : ∃ N : Int, 1 + (mc : Int) % 8 = N := ⟨_, rfl⟩
    have hN : 1 ≤ N ∧ N ≤ 8 := by omega
    rw [hNe]
    refine (run_c _ N _ l hSA.out (by rw [hM.out]; omega)).mono ?_
    rintro e w1 (⟨hb, _⟩ | ⟨_, bw, bm, n, G, v, L, rfl, hR, hW, _, ⟨p, z, q, rfl⟩, hn2, _, hbw, hbm, hk1⟩)
    · exact absurd hN hb
    have hI := hR.rel.inv
    have hn80 : n ≤ 80 := by rw [hM.out] at hn2; omega
    have hbm2 : w.heap.size < bm := Nat.lt_of_lt_of_le (by simp) hbm
    have hkx : Keeps [] w1 (w1.alloc (.cells #[.int .i64 N, .slice p z q] 27)) := (Keeps.refl _ _).alloc _
    have hkw := (hkA.out.trans hk1).trans hkx
    have hid1 := (hkx.block _ (lt_of_block ((hk1.block _ (lt_of_block hb0.out) (by simp)).trans hb0.out)) (by simp)).trans ((hk1.block _ (lt_of_block hb0.out) (by simp)).trans hb0.out)
    have hW1 := hW.keeps hkx
    obtain ⟨i0, i1⟩ := cells2 hid1
    have idf := frozen2 hid1
    replace hkw := Lib.hid hkw
    replace hid1 := Lib.hid hid1
    replace hW1 := Lib.hid hW1
    replace hI := Lib.hid hI
    clear hk1 hR hbw hbm hn2 hSA hkA hb0 hkx hW
    go_wp2_with fail
    generalize w1.alloc (.cells #[.int .i64 N, .slice p z q] 27) = w2 at *
    have hbmw2 : bm < w2.heap.size := hW1.out.mp.lt
    refine (walks_c w2 bw bm n N G a s hW1.out hN hI.out).mono ?_
    rintro e w3 ⟨vb, lb, rfl, hk3, hB⟩
    have hkw3 := hkw.out.trans hk3
    have hid3 := (hk3.block _ (lt_of_block hid1.out) (by simp)).trans hid1.out
    have hW3 := hW1.out.keeps hk3
    have hsz3 := Nat.le_trans hkw.out.size (Nat.le_refl _)
    obtain ⟨i0, i1⟩ := cells2 hid3
    have idf := frozen2 hid3
    replace hkw3 := Lib.hid hkw3
    replace hid3 := Lib.hid hid3
    replace hW3 := Lib.hid hW3
    replace hB := Lib.hid hB
    clear hkw hid1 hW1 hk3
    go_wp2_with fail
    refine (locate_c w3 bw bm n N G x a s hW3.out hN (by omega) hI.out).mono ?_
    rintro e w4 ⟨c, n4, G4, rfl, hdr, hW4, hn4, hk4⟩
    have hbm3 : bm < w3.heap.size := hW3.out.mp.lt
    have hid4 := (hk4.block _ (lt_of_block hid3.out) (by simp; omega)).trans hid3.out
    have hkw4 := hkw3.out.fresh hk4 (fun b hb => .inr (by simp at hb; omega))
    obtain ⟨i0, i1⟩ := cells2 hid4
    have idf := frozen2 hid4
    have hcc : (c ≠ 0) ∨ (c = 0 ∧ chkB N [x] a s = true ∧ ∃ lst hm, Mg.Ch (fun m => G m a s) x lst hm ∧ G4 = updP G x a s hm) := by
      rcases hdr with ⟨_, rfl, _⟩ | ⟨_, ⟨_, rfl, _⟩ | ⟨_, lst, hm, hch, rfl, e⟩⟩
      · exact .inl (by decide)
      · exact .inl (by decide)
      · exact .inr ⟨rfl, by assumption, lst, hm, hch, e⟩
    have hki : KI w3 w4 := hk4.ki (fun b hb o x => by
      simp at hb; subst hb; rw [hW3.out.mp.noCells]; simp)
    replace hkw4 := Lib.hid hkw4
    replace hid4 := Lib.hid hid4
    rcases hcc with hc0 | ⟨rfl, hchk, lst, hm, hch, rfl⟩
    · go_wp2_with fail
      refine (awake_c _).mono ?_
      rintro e w5 ⟨rfl, hk⟩
      go_wp2
      refine bodyPost_ret (v := .bool true) ?_ ?_ ?_
      · kernel_rfl
      · rfl
      · exact ⟨rfl, hkw4.out.trans hk⟩
    · have hxN : 1 ≤ x ∧ x ≤ N := chkB_in hchk x (by simp)
      have hyes : okId a s = true := by rw [← chkB_ok (N := N) hxN]; exact hchk
      have hI4 : ∀ a' s', Mg.Inv N (fun m => updP G x a s hm m a' s') := locate_inv hI.out hch
      obtain ⟨hKb, hlb, hwb⟩ : KZ w3 (w2.heap.size + 1) vb lb ∧ (lb.length : Int) = N ∧ WkL N G a s lb := by
        rcases hB.out with ⟨e, _⟩ | ⟨_, h⟩
        · rw [hyes] at e; cases e
        · exact h
      have hbm2' : bm < w2.heap.size := hbmw2
      replace hKb := hKb.keep hk4 (fun b hb e => by have := hKb.ge _ e; simp at hb; omega) hki
      rw [hyes]
      have hW4h := Lib.hid hW4
      have hI4h := Lib.hid hI4
      have hchh := Lib.hid hch
      have hchkh := Lib.hid hchk
      replace hKb := Lib.hid hKb
      replace hwb := Lib.hid hwb
      replace hlb := Lib.hid hlb
      clear hB hki hdr hk4 hch hchk
      go_wp2_with fail
      refine (walks_c w4 bw bm n4 N (updP G x a s hm) a s hW4h.out hN hI4h.out).mono ?_
      rintro e w5 ⟨va, la, rfl, hk5, hA⟩
      rw [hyes]
      obtain ⟨hKa, hla, hwa⟩ : KZ w5 (w4.heap.size + 1) va la ∧ (la.length : Int) = N ∧ WkL N (updP G x a s hm) a s la := by
        rcases hA with ⟨e, _⟩ | ⟨_, h⟩
        · rw [hyes] at e; cases e
        · exact h
      replace hKb := hKb.out.keep hk5 (by simp) hk5.ki0
      have hkw5 := hkw4.out.trans hk5
      have hid5 := (hk5.block _ (lt_of_block hid4.out) (by simp)).trans hid4.out
      have hW5 := hW4h.out.keeps hk5
      obtain ⟨i0, i1⟩ := cells2 hid5
      have idf := frozen2 hid5
      obtain ⟨aa, ca, rfl⟩ := hKa.form
      obtain ⟨ab, cb, rfl⟩ := hKb.form
      have hlab : la.length = lb.length := by have := hlb.out; omega
      replace hKb := Lib.hid hKb
      replace hKa := Lib.hid hKa
      replace hkw5 := Lib.hid hkw5
      replace hwa := Lib.hid hwa
      replace hla := Lib.hid hla
      replace hlab := Lib.hid hlab
      replace hW5 := Lib.hid hW5
      replace hyes := Lib.hid hyes
      clear hk5 hA hkw4 hid4 hW4h hI4h hW4 hI4 hid5
      go_wp2_with fail
      have ha64 : W64 a := hwa0
      have hs64 : W64 s := hws0
      refine (home_c w5 bw bm n4 N (updP G x a s hm) a s hW5.out hN ha64 hs64).mono ?_
      rintro e w6 ⟨mh, bh, rfl, hHo, hk6⟩
      obtain ⟨rfl, rfl⟩ := locate_home (hI.out a s) hchh.out hHo
      replace hKb := hKb.out.keep hk6 (by simp) hk6.ki0
      replace hKa := hKa.out.keep hk6 (by simp) hk6.ki0
      have hkw6 := hkw5.out.trans hk6
      replace hKb := Lib.hid hKb
      replace hKa := Lib.hid hKa
      replace hkw6 := Lib.hid hkw6
      clear hk6 hkw5 i0 i1 idf hHo
      obtain ⟨K, hKe⟩ : ∃ K, lb.length = K := ⟨_, rfl⟩
      have hKa' : la.length = K := by rw [hlab.out, hKe]
      have hK8 : K ≤ 8 := by have := hlb.out; omega
      rw [hKa'] at hKa ⊢
      rw [hKe] at hKb ⊢
      have hKN : (K : Int) = N := by rw [← hKe]; exact hlb.out
      replace hKe := Lib.hid hKe
      replace hKa' := Lib.hid hKa'
      replace hKN := Lib.hid hKN
      go_wp2
      go_loopw [79] (fun iv wr => ∃ k : Nat, iv = .int .i64 k ∧ k ≤ K ∧ Keeps [] w6 wr) (fun iv _ => K - (intOf iv).toNat)
      case atStart => exact ⟨0, rfl, by omega, Keeps.refl _ _⟩
      case round =>
        obtain ⟨k, rfl, hk, hkr⟩ := hrel
        by_cases hlt : k < K
        · have hxa : k < la.length := by rw [hKa'.out]; exact hlt
          have hxb : k < lb.length := by rw [hKe.out]; exact hlt
          obtain ⟨ga, ca', sa, za, hva, hca, hSa⟩ := (hKa.out.keep hkr (by simp) hkr.ki0).elem hxa
          obtain ⟨gb, cb', sb, zb, hvb, hcb, hSb⟩ := (hKb.out.keep hkr (by simp) hkr.ki0).elem hxb
          rw [hKa'.out] at hva
          rw [hKe.out] at hvb
          cases hva
          cases hvb
          obtain ⟨c1, hw1⟩ := hwb.out k hxb
          obtain ⟨c2, hw2⟩ := hwa.out k hxa
          obtain ⟨hle, hiff⟩ := locate_len (hI.out a s) hchh.out (by rw [chkB_ok ⟨by omega, by have := hKN.out; omega⟩]; exact hyes.out) hw1 hw2
          obtain ⟨ln, hln⟩ : ∃ n, la[k].length = n := ⟨_, rfl⟩
          obtain ⟨lm, hlm⟩ : ∃ n, lb[k].length = n := ⟨_, rfl⟩
          have h8 : lm ≤ 8 := by
            rw [← hlm]
            rcases hw1 with ⟨_, _, e⟩ | ⟨_, ⟨_, _, e⟩ | ⟨_, ⟨_, hc⟩, _⟩⟩
            · rw [e]; simp
            · rw [e]; simp
            · exact (hI.out a s).len hN.2 hc
          rw [hln] at hca hle
          rw [hlm] at hcb hle
          have hz : ((ln : Int) == 0) = ((lm : Int) == 0) := by
            have h1 : ln = 0 ↔ lm = 0 := by rw [← hln, ← hlm, List.length_eq_zero_iff, List.length_eq_zero_iff]; exact hiff
            rw [Bool.eq_iff_iff]; simp; omega
          have hgt : decide ((lm : Int) < (ln : Int)) = false := by simp; omega
          have hgt' : ¬ lm < ln := by omega
          replace hkr := Lib.hid hkr
          clear hw1 hw2 hSa hSb hln hlm hiff
          go_wp2
          refine Free.wp_region_chain (fun i => false) (fun i => true) (fun _ b => False) (by kernel_rfl) (by kernel_rfl) (by kernel_rfl) ?_
          (repeat (first | (apply Free.cw_pureW rfl rfl; (intro w'; go_simp <;> exact rfl); go_frame) | (apply Free.cw_steadyW rfl rfl rfl; (intro w' hS; have q0 := Free.sx_cell hS hca (fun _ _ hT => hT); have q1 := Free.sx_cell hS hcb (fun _ _ hT => hT); go_simp <;> exact rfl); go_frame) | (refine Free.cw_skip rfl ?_; go_frame)))
          refine Free.cw_nil ?_
          go_wp2
          go_roundw
          case rel => exact ⟨k + 1, rfl, by omega, hkr.out.drew⟩
          case measure => simp [intOf]; omega
        · have hkK : k = K := by omega
          subst hkK
          obtain ⟨kx, hkx⟩ : ∃ kx : Nat, x - 1 = (kx : Int) := ⟨(x - 1).toNat, by omega⟩
          have hkl : kx < la.length := by rw [hKa'.out]; have := hKN.out; omega
          have hkK : kx < k := by have := hKN.out; omega
          obtain ⟨ga, ca', sa, za, hva, hca, hSa⟩ := (hKa.out.keep hkr (by simp) hkr.ki0).elem hkl
          rw [hKa'.out] at hva
          cases hva
          obtain ⟨c2, hw2⟩ := hwa.out kx hkl
          rw [show (kx : Int) + 1 = x by omega] at hw2
          have hown := locate_own (hI.out a s) hchh.out hchkh.out hw2
          obtain ⟨lx, hlx⟩ : ∃ lx, la[kx] = lx := ⟨_, rfl⟩
          rw [hlx] at hca hSa hown
          obtain ⟨nx, hnx⟩ : ∃ nx, lx.length = nx := ⟨_, rfl⟩
          have hSx := hSa.keeps ((Keeps.refl [] wr).alloc (.cells #[.int .i64 x, .int .i64 mh] 3))
          have hS2 := SlZ.two wr x mh 3
          have hS1 := SlZ.half wr x mh 3
          have hka := (Keeps.refl [] wr).alloc (.cells #[.int .i64 x, .int .i64 mh] 3)
          rw [hnx] at hca hSx
          have hcx := hka.cell ga kx (lt_of_cell hca) (by simp)
          rw [hca] at hcx
          replace hSx := Lib.hid hSx
          replace hS2 := Lib.hid hS2
          replace hS1 := Lib.hid hS1
          replace hkr := Lib.hid hkr
          replace hka := Lib.hid hka
          replace hown := Lib.hid hown
          replace hnx := Lib.hid hnx
          clear hlx hSa hw2 hca
          by_cases hxm : x = mh
          · have hxm' : (x == mh) = true := by simp [hxm]
            replace hxm := Lib.hid hxm
            go_wp2_with fail
            refine (same_c _ _ _ lx [x] hSx.out hS1.out).mono ?_
            rintro e w8 ⟨rfl, hk8⟩
            rw [hown.out, if_pos hxm.out, show sameB [x] [x] = true from by simp [sameB]]
            go_wp2_with fail
            refine (awake_c _).mono ?_
            rintro e w9 ⟨rfl, hk9⟩
            go_wp2
            refine bodyPost_ret (v := .bool true) ?_ ?_ ?_
            · kernel_rfl
            · rfl
            · exact ⟨rfl, (((hkw6.out.trans hkr.out).trans hka.out).trans hk8).trans hk9⟩
          · have hxm' : (x == mh) = false := by simp [hxm]
            replace hxm := Lib.hid hxm
            go_wp2_with fail
            refine (same_c _ _ _ lx [x, mh] hSx.out hS2.out).mono ?_
            rintro e w8 ⟨rfl, hk8⟩
            rw [hown.out, if_neg hxm.out, show sameB [x, mh] [x, mh] = true from by simp [sameB]]
            go_wp2_with fail
            refine (awake_c _).mono ?_
            rintro e w9 ⟨rfl, hk9⟩
            go_wp2
            refine bodyPost_ret (v := .bool true) ?_ ?_ ?_
            · kernel_rfl
            · rfl
            · exact ⟨rfl, (((hkw6.out.trans hkr.out).trans hka.out).trans hk8).trans hk9⟩
end Go.Proofs.Ythhhciofcmmnfaa
