/- Texts that the laws lean on, in the order in which they build. The walk of MigrationMoves. The walk of MigrationDrops. The walk of MigrationIndependent. Byte buffers of the call's own, and their growth; byte slices among the arguments. The walk of MigrationReturns. -/
import Derived.Test.YthhhciofcmmnfaaK5
import Derived.Test.YthhhciofcmmnfaaRows
set_option linter.unusedVariables false
set_option linter.unusedSimpArgs false
namespace Go.Proofs.Ythhhciofcmmnfaa
open Go.RowKit

set_option maxRecDepth 100000 in
set_option maxHeartbeats 4000000 in
theorem moves_w (w : World) (mc : Nat) (v0 : Value) (x y a s : Int) (hmc : mc < 256) (l : List OpV) (hx : W64 x) (hy : W64 y) (hwa0 : W64 a) (hws0 : W64 s) (h : SOps w v0 l) :
    Calls Try.prog 6 #[.int .u8 mc, v0, .int .i64 x, .int .i64 y, idV a s] w fun e w' => e = .returned (.bool true) ∧ Keeps [] w w' := by
  obtain ⟨ao, co, rfl, hlc, hcm, _⟩ := Gen.SlR.form h
  obtain ⟨M, hM⟩ : ∃ N, l.length = N := ⟨_, rfl⟩
  rw [hM] at hlc ⊢
  have hMm : M ≤ 9223372036854775807 := by unfold maxLen at hcm; omega
  have hn : (mc : Int) % 8 < 8 ∧ 0 ≤ (mc : Int) % 8 := by omega
  have hkA : Keeps [] w (w.alloc (.cells #[.int .i64 a, .int .i64 s] 31)) := (Keeps.refl _ _).alloc _
  have hb0 := heap_alloc_new w (.cells #[.int .i64 a, .int .i64 s] 31)
  have hSA := h.keeps hkA
  rw [show Value.slice ao l.length co = .slice ao M co by rw [hM]] at *
  replace hM := Lib.hid hM
  replace h := Lib.hid h
  replace hSA := Lib.hid hSA
  replace hkA := Lib.hid hkA
  replace hb0 := Lib.hid hb0
  go_enter Try.func6, Try.ntmps6
  by_cases h40 : 40 < M
  · go_wp2_with fail
    refine (awake_c _).mono ?_
    rintro e w2 ⟨rfl, hk⟩
    go_wp2
    refine bodyPost_ret (v := .bool true) ?_ ?_ ?_
    · kernel_rfl
    · rfl
    · exact ⟨rfl, hkA.out.trans hk⟩
  · go_wp2_with fail
    obtain ⟨N, hNe⟩ : ∃ N : Int, 1 + (mc : Int) % 8 = N := ⟨_, rfl⟩
    have hN : 1 ≤ N ∧ N ≤ 8 := by omega
    rw [hNe]
    refine (run_c _ N _ l hSA.out (by rw [hM.out]; omega)).mono ?_
    rintro e w1 (⟨hb, _⟩ | ⟨_, bw, bm, n, G, v, L, rfl, hR, hW, _, ⟨p, z, q, rfl⟩, hn2, _, hbw, hbm, hk1⟩)
    · exact absurd hN hb
    have hI := hR.rel.inv
    have hn80 : n ≤ 80 := by rw [hM.out] at hn2; omega
    have hbm2 : w.heap.size < bm := Nat.lt_of_lt_of_le (by simp) hbm
    have hkx : Keeps [] w1 (w1.alloc (.cells #[.int .i64 N, .slice p z q] 27)) := (Keeps.refl _ _).alloc _
    have hkw := (hkA.out.trans hk1).trans hkx
    have hid1 := (hkx.block _ (lt_of_block ((hk1.block _ (lt_of_block hb0.out) (by simp)).trans hb0.out)) (by simp)).trans ((hk1.block _ (lt_of_block hb0.out) (by simp)).trans hb0.out)
    have hW1 := hW.keeps hkx
    obtain ⟨i0, i1⟩ := cells2 hid1
    have idf := frozen2 hid1
    replace hkw := Lib.hid hkw
    replace hid1 := Lib.hid hid1
    replace hW1 := Lib.hid hW1
    replace hI := Lib.hid hI
    clear hk1 hR hbw hbm hn2 hSA hkA hb0 hkx hW
    go_wp2_with fail
    generalize w1.alloc (.cells #[.int .i64 N, .slice p z q] 27) = w2 at *
    have hbmw2 : bm < w2.heap.size := hW1.out.mp.lt
    refine (walks_c w2 bw bm n N G a s hW1.out hN hI.out).mono ?_
    rintro e w3 ⟨vb, lb, rfl, hk3, hB⟩
    have hkw3 := hkw.out.trans hk3
    have hid3 := (hk3.block _ (lt_of_block hid1.out) (by simp)).trans hid1.out
    have hW3 := hW1.out.keeps hk3
    have hsz3 := Nat.le_trans hkw.out.size (Nat.le_refl _)
    obtain ⟨i0, i1⟩ := cells2 hid3
    have idf := frozen2 hid3
    replace hkw3 := Lib.hid hkw3
    replace hid3 := Lib.hid hid3
    replace hW3 := Lib.hid hW3
    replace hB := Lib.hid hB
    clear hkw hid1 hW1 hk3
    go_wp2_with fail
    refine (move_c w3 bw bm n N G x y a s hW3.out hN (by omega)).mono ?_
    rintro e w4 ⟨c, n4, G4, rfl, hdr, hW4, hn4, hk4⟩
    have hbm3 : bm < w3.heap.size := hW3.out.mp.lt
    have hid4 := (hk4.block _ (lt_of_block hid3.out) (by simp; omega)).trans hid3.out
    have hkw4 := hkw3.out.fresh hk4 (fun b hb => .inr (by simp at hb; omega))
    obtain ⟨i0, i1⟩ := cells2 hid4
    have idf := frozen2 hid4
    have hcc : (c ≠ 0) ∨ (c = 0 ∧ chkB N [x, y] a s = true ∧ G x a s = x ∧ G4 = mvP G x y a s) := by
      rcases hdr with ⟨_, rfl, _⟩ | ⟨_, ⟨_, rfl, _⟩ | ⟨_, _, rfl, _⟩ | ⟨hgx, rfl, e⟩⟩
      · exact .inl (by decide)
      · exact .inl (by decide)
      · exact .inl (by decide)
      · exact .inr ⟨rfl, by assumption, hgx, e⟩
    have hki : KI w3 w4 := hk4.ki (fun b hb o x => by
      simp at hb; subst hb; rw [hW3.out.mp.noCells]; simp)
    replace hkw4 := Lib.hid hkw4
    replace hid4 := Lib.hid hid4
    rcases hcc with hc0 | ⟨rfl, hchk, hch, rfl⟩
    · go_wp2_with fail
      refine (awake_c _).mono ?_
      rintro e w5 ⟨rfl, hk⟩
      go_wp2
      refine bodyPost_ret (v := .bool true) ?_ ?_ ?_
      · kernel_rfl
      · rfl
      · exact ⟨rfl, hkw4.out.trans hk⟩
    · have hxN : 1 ≤ x ∧ x ≤ N := chkB_in hchk x (by simp)
      have hyN : 1 ≤ y ∧ y ≤ N := chkB_in hchk y (by simp)
      have hyes : okId a s = true := by
        have := hchk; unfold chkB at this; rw [Bool.and_eq_true] at this; exact this.2
      have hI4 : ∀ a' s', Mg.Inv N (fun m => mvP G x y a s m a' s') := move_inv hI.out hch (by omega) hyN
      obtain ⟨hKb, hlb, hwb⟩ : KZ w3 (w2.heap.size + 1) vb lb ∧ (lb.length : Int) = N ∧ WkL N G a s lb := by
        rcases hB.out with ⟨e, _⟩ | ⟨_, h⟩
        · rw [hyes] at e; cases e
        · exact h
      have hbm2' : bm < w2.heap.size := hbmw2
      replace hKb := hKb.keep hk4 (fun b hb e => by have := hKb.ge _ e; simp at hb; omega) hki
      rw [hyes]
      have hW4h := Lib.hid hW4
      have hI4h := Lib.hid hI4
      have hchh := Lib.hid hch
      have hchkh := Lib.hid hchk
      replace hKb := Lib.hid hKb
      replace hwb := Lib.hid hwb
      replace hlb := Lib.hid hlb
      clear hB hki hdr hk4 hch hchk
      go_wp2_with fail
      refine (walks_c w4 bw bm n4 N (mvP G x y a s) a s hW4h.out hN hI4h.out).mono ?_
      rintro e w5 ⟨va, la, rfl, hk5, hA⟩
      rw [hyes]
      obtain ⟨hKa, hla, hwa⟩ : KZ w5 (w4.heap.size + 1) va la ∧ (la.length : Int) = N ∧ WkL N (mvP G x y a s) a s la := by
        rcases hA with ⟨e, _⟩ | ⟨_, h⟩
        · rw [hyes] at e; cases e
        · exact h
      replace hKb := hKb.out.keep hk5 (by simp) hk5.ki0
      have hkw5 := hkw4.out.trans hk5
      have hid5 := (hk5.block _ (lt_of_block hid4.out) (by simp)).trans hid4.out
      have hW5 := hW4h.out.keeps hk5
      obtain ⟨i0, i1⟩ := cells2 hid5
      have idf := frozen2 hid5
      obtain ⟨aa, ca, rfl⟩ := hKa.form
      obtain ⟨ab, cb, rfl⟩ := hKb.form
      have hlab : la.length = lb.length := by have := hlb.out; omega
      replace hKb := Lib.hid hKb
      replace hKa := Lib.hid hKa
      replace hkw5 := Lib.hid hkw5
      replace hwa := Lib.hid hwa
      replace hla := Lib.hid hla
      replace hlab := Lib.hid hlab
      replace hW5 := Lib.hid hW5
      replace hyes := Lib.hid hyes
      clear hk5 hA hkw4 hid4 hW4h hI4h hW4 hI4 hid5
      go_wp2_with fail
      have ha64 : W64 a := hwa0
      have hs64 : W64 s := hws0
      refine (home_c w5 bw bm n4 N (mvP G x y a s) a s hW5.out hN ha64 hs64).mono ?_
      rintro e w6 ⟨mh, bh, rfl, hHo, hk6⟩
      obtain ⟨rfl, rfl⟩ := move_home (hI.out a s) hchh.out (by omega) hyN hHo
      replace hKb := hKb.out.keep hk6 (by simp) hk6.ki0
      replace hKa := hKa.out.keep hk6 (by simp) hk6.ki0
      have hkw6 := hkw5.out.trans hk6
      replace hKb := Lib.hid hKb
      replace hKa := Lib.hid hKa
      replace hkw6 := Lib.hid hkw6
      clear hk6 hkw5 i0 i1 idf hHo
      obtain ⟨K, hKe⟩ : ∃ K, lb.length = K := ⟨_, rfl⟩
      have hKa' : la.length = K := by rw [hlab.out, hKe]
      have hK8 : K ≤ 8 := by have := hlb.out; omega
      rw [hKa'] at hKa ⊢
      rw [hKe] at hKb ⊢
      have hKN : (K : Int) = N := by rw [← hKe]; exact hlb.out
      replace hKe := Lib.hid hKe
      replace hKa' := Lib.hid hKa'
      replace hKN := Lib.hid hKN
      obtain ⟨kx, hkx⟩ : ∃ kx : Nat, x - 1 = (kx : Int) := ⟨(x - 1).toNat, by omega⟩
      have hkl : kx < la.length := by rw [hKa'.out]; have := hKN.out; omega
      have hkb : kx < lb.length := by rw [hKe.out]; have := hKN.out; omega
      have hkK : kx < K := by have := hKN.out; omega
      obtain ⟨ga, ca', sa, za, hva, hca, hSa⟩ := hKa.out.elem hkl
      rw [hKa'.out] at hva
      cases hva
      obtain ⟨nx, hnx, hnx0⟩ : ∃ nx, la[kx].length = nx ∧ 0 < nx := by
        obtain ⟨c1, hw1⟩ := hwb.out kx hkb
        obtain ⟨c2, hw2⟩ := hwa.out kx hkl
        rw [show (kx : Int) + 1 = x by omega] at hw1 hw2
        have hb1 : chkB N [x] a s = true := by rw [chkB_ok hxN]; exact hyes.out
        obtain ⟨_, h2, _⟩ := move_len (hI.out a s) hchh.out (by omega) hyN hb1 hw1 hw2
        have h3 : lb[kx] ≠ [] := fun e => by
          have := (hw1.nil_iff hb1).1.1 e
          rw [hchh.out] at this; omega
        have := h2 h3
        exact ⟨_, rfl, List.length_pos_iff.2 this⟩
      rw [hnx] at hca
      have hnz : ((nx : Int) == 0) = false := by simp; omega
      replace hkx := Lib.hid hkx
      have hkx' := hkx.out
      clear hSa hnx
      go_wp2
      go_loopw [96] (fun iv wr => ∃ k : Nat, iv = .int .i64 k ∧ k ≤ K ∧ Keeps [] w6 wr) (fun iv _ => K - (intOf iv).toNat)
      case atStart => exact ⟨0, rfl, by omega, Keeps.refl _ _⟩
      case round =>
        clear hca hkx' hnz
        obtain ⟨k, rfl, hk, hkr⟩ := hrel
        by_cases hlt : k < K
        · have hxa : k < la.length := by rw [hKa'.out]; exact hlt
          have hxb : k < lb.length := by rw [hKe.out]; exact hlt
          obtain ⟨ga, ca', sa, za, hva, hca, hSa⟩ := (hKa.out.keep hkr (by simp) hkr.ki0).elem hxa
          obtain ⟨gb, cb', sb, zb, hvb, hcb, hSb⟩ := (hKb.out.keep hkr (by simp) hkr.ki0).elem hxb
          rw [hKa'.out] at hva
          rw [hKe.out] at hvb
          cases hva
          cases hvb
          obtain ⟨c1, hw1⟩ := hwb.out k hxb
          obtain ⟨c2, hw2⟩ := hwa.out k hxa
          have hb1 : chkB N [(k : Int) + 1] a s = true := by rw [chkB_ok ⟨by omega, by have := hKN.out; omega⟩]; exact hyes.out
          obtain ⟨h1, h2, h3⟩ := move_len (hI.out a s) hchh.out (by omega) hyN hb1 hw1 hw2
          obtain ⟨lx, hlx⟩ : ∃ lx, la[k] = lx := ⟨_, rfl⟩
          obtain ⟨ly, hly⟩ : ∃ ly, lb[k] = ly := ⟨_, rfl⟩
          rw [hlx] at h1 h2 h3 hca hSa hw2
          rw [hly] at h1 h2 hcb hw1
          obtain ⟨lm, hlm⟩ : ∃ n, ly.length = n := ⟨_, rfl⟩
          have h8 : lm ≤ 8 := by
            rw [← hlm]
            rcases hw1 with ⟨_, _, e⟩ | ⟨_, ⟨_, _, e⟩ | ⟨_, ⟨_, hc⟩, _⟩⟩
            · rw [e]; simp
            · rw [e]; simp
            · exact (hI.out a s).len hN.2 hc
          rw [hlm] at h1 hcb
          by_cases hl0 : lx = []
          · have hm0 : lm = 0 := by
              rcases Nat.eq_zero_or_pos lm with e | e
              · exact e
              · exact absurd hl0 (h2 (by intro e2; rw [e2] at hlm; simp at hlm; omega))
            subst hl0
            subst hm0
            simp only [List.length_nil] at hca
            replace hkr := Lib.hid hkr
            clear hw1 hw2 hSa hSb hlx hly hlm h1 h2 h3 hb1
            go_wp2
            go_roundw
            case rel => exact ⟨k + 1, rfl, by omega, hkr.out⟩
            case measure => simp [intOf]; omega
          · have hlen : 0 < lx.length := List.length_pos_iff.2 hl0
            obtain ⟨t, ht⟩ : ∃ t, lx.length = t + 1 := ⟨lx.length - 1, by omega⟩
            obtain ⟨gx, ox, cx, e1, hcl⟩ := hSa.elem (k := t) (by omega)
            have hy2 : lx[t] = mh := by
              have := h3 hl0
              rw [List.getLast?_eq_getElem?, ht, Nat.add_sub_cancel] at this
              exact (List.getElem?_eq_some_iff.1 this).2
            rw [hy2] at hcl
            obtain ⟨n, hn⟩ : ∃ n, lx.length = n := ⟨_, rfl⟩
            rw [hn] at ht hlen e1 hca h1
            cases e1
            have hn1 : (n : Int) - 1 = (t : Int) := by omega
            have hnw : IntKind.i64.wrap ((n : Int) - 1) = (t : Int) := by rw [hn1]; exact IntWalk.i64_in _ (by omega)
            have hz : ((n : Int) == 0) = false := by simp; omega
            have hg : (0 : Int) < n := by omega
            have hg2 : decide ((lm : Int) + 1 < (n : Int)) = false := by simp; omega
            have hg3 : ¬ ((lm : Int) + 1 < (n : Int)) := by omega
            have htn : t < n := by omega
            replace hkr := Lib.hid hkr
            clear hw1 hw2 hSa hSb hlx hly h2 h3 hb1 hl0 hn ht
            by_cases hm0 : lm = 0
            · clear hlm
              subst hm0
              go_wp2
              go_roundw
              case rel => exact ⟨k + 1, rfl, by omega, hkr.out⟩
              case measure => simp [intOf]; omega
            · have hm1 : (0 : Int) < lm := by omega
              clear hlm
              go_wp2
              go_roundw
              case rel => exact ⟨k + 1, rfl, by omega, hkr.out⟩
              case measure => simp [intOf]; omega
        · have hkK2 : k = K := by omega
          replace hkr := Lib.hid hkr
          subst hkK2
          go_wp2_with fail
          refine (awake_c _).mono ?_
          rintro e w9 ⟨rfl, hk9⟩
          go_wp2
          refine bodyPost_ret (v := .bool true) ?_ ?_ ?_
          · kernel_rfl
          · rfl
          · exact ⟨rfl, (hkw6.out.trans hkr.out).trans hk9⟩
end Go.Proofs.Ythhhciofcmmnfaa

namespace Go.Proofs.Ythhhciofcmmnfaa
open Go.RowKit

theorem drop_same {N x y a s c c' : Int} {G : Pt} {l l' : List Int} (I : Mg.Inv N (fun m => G m a s)) (hno : ∀ m, 1 ≤ m → m ≤ N → G m a s ≠ x) (h1 : WalkR N G y a s c l) (h2 : WalkR N (updP G x a s 0) y a s c' l') (hy : y ≠ x) : l = l' := by
  have hG : updP G x a s 0 y a s = G y a s := by simp [updP, hy]
  rcases h1 with ⟨e1, _, rfl⟩ | ⟨e1, ⟨z1, _, rfl⟩ | ⟨z1, ⟨h, ch⟩, _⟩⟩
  · rcases h2 with ⟨_, _, rfl⟩ | ⟨e2, _⟩
    · rfl
    · rw [e1] at e2; cases e2
  · rcases h2 with ⟨_, _, rfl⟩ | ⟨_, ⟨_, _, rfl⟩ | ⟨z2, _⟩⟩
    · rfl
    · rfl
    · rw [hG] at z2; exact absurd z1 z2
  · rcases h2 with ⟨e2, _⟩ | ⟨_, ⟨z2, _⟩ | ⟨_, ⟨h', ch'⟩, _⟩⟩
    · rw [e1] at e2; cases e2
    · rw [hG] at z2; exact absurd z2 z1
    · have := ch.drop I hno hy
      rw [← updP_fun] at this
      exact (this.det ch').1.symm
theorem drop_none {N x a s c' : Int} {G : Pt} {l' : List Int} (h2 : WalkR N (updP G x a s 0) x a s c' l') : l' = [] := by
  rcases h2 with ⟨_, _, rfl⟩ | ⟨_, ⟨_, _, rfl⟩ | ⟨z2, _⟩⟩
  · rfl
  · rfl
  · simp [updP] at z2
set_option maxRecDepth 100000 in
set_option maxHeartbeats 4000000 in
theorem drops_w (w : World) (mc : Nat) (v0 : Value) (x a s : Int) (hmc : mc < 256) (l : List OpV) (hx : W64 x) (_ : W64 a) (_ : W64 s) (h : SOps w v0 l) :
    Calls Try.prog 7 #[.int .u8 mc, v0, .int .i64 x, idV a s] w fun e w' => e = .returned (.bool true) ∧ Keeps [] w w' := by
  obtain ⟨ao, co, rfl, hlc, hcm, _⟩ := Gen.SlR.form h
  obtain ⟨M, hM⟩ : ∃ N, l.length = N := ⟨_, rfl⟩
  rw [hM] at hlc ⊢
  have hMm : M ≤ 9223372036854775807 := by unfold maxLen at hcm; omega
  have hn : (mc : Int) % 8 < 8 ∧ 0 ≤ (mc : Int) % 8 := by omega
  have hkA : Keeps [] w (w.alloc (.cells #[.int .i64 a, .int .i64 s] 31)) := (Keeps.refl _ _).alloc _
  have hb0 := heap_alloc_new w (.cells #[.int .i64 a, .int .i64 s] 31)
  have hSA := h.keeps hkA
  rw [show Value.slice ao l.length co = .slice ao M co by rw [hM]] at *
  replace hM := Lib.hid hM
  replace h := Lib.hid h
  replace hSA := Lib.hid hSA
  replace hkA := Lib.hid hkA
  replace hb0 := Lib.hid hb0
  go_enter Try.func7, Try.ntmps7
  by_cases h40 : 40 < M
  · go_wp2_with fail
    refine (awake_c _).mono ?_
    rintro e w2 ⟨rfl, hk⟩
    go_wp2
    refine bodyPost_ret (v := .bool true) ?_ ?_ ?_
    · kernel_rfl
    · rfl
    · exact ⟨rfl, hkA.out.trans hk⟩
  · go_wp2_with fail
    obtain ⟨N, hNe⟩ : ∃ N : Int, 1 + (mc : Int) % 8 = N := ⟨_, rfl⟩
    have hN : 1 ≤ N ∧ N ≤ 8 := by omega
    rw [hNe]
    refine (run_c _ N _ l hSA.out (by rw [hM.out]; omega)).mono ?_
    rintro e w1 (⟨hb, _⟩ | ⟨_, bw, bm, n, G, v, L, rfl, hR, hW, _, ⟨p, z, q, rfl⟩, hn2, _, hbw, hbm, hk1⟩)
    · exact absurd hN hb
    have hI := hR.rel.inv
    have hn80 : n ≤ 80 := by rw [hM.out] at hn2; omega
    have hbm2 : w.heap.size < bm := Nat.lt_of_lt_of_le (by simp) hbm
    have hkx : Keeps [] w1 (w1.alloc (.cells #[.int .i64 N, .slice p z q] 27)) := (Keeps.refl _ _).alloc _
    have hkw := (hkA.out.trans hk1).trans hkx
    have hid1 := (hkx.block _ (lt_of_block ((hk1.block _ (lt_of_block hb0.out) (by simp)).trans hb0.out)) (by simp)).trans ((hk1.block _ (lt_of_block hb0.out) (by simp)).trans hb0.out)
    have hW1 := hW.keeps hkx
    obtain ⟨i0, i1⟩ := cells2 hid1
    have idf := frozen2 hid1
    replace hkw := Lib.hid hkw
    replace hid1 := Lib.hid hid1
    replace hW1 := Lib.hid hW1
    replace hI := Lib.hid hI
    clear hk1 hR hbw hbm hn2 hSA hkA hb0 hkx hW
    go_wp2_with fail
    generalize w1.alloc (.cells #[.int .i64 N, .slice p z q] 27) = w2 at *
    have hbmw2 : bm < w2.heap.size := hW1.out.mp.lt
    refine (walks_c w2 bw bm n N G a s hW1.out hN hI.out).mono ?_
    rintro e w3 ⟨vb, lb, rfl, hk3, hB⟩
    have hkw3 := hkw.out.trans hk3
    have hid3 := (hk3.block _ (lt_of_block hid1.out) (by simp)).trans hid1.out
    have hW3 := hW1.out.keeps hk3
    have hsz3 := Nat.le_trans hkw.out.size (Nat.le_refl _)
    obtain ⟨i0, i1⟩ := cells2 hid3
    have idf := frozen2 hid3
    replace hkw3 := Lib.hid hkw3
    replace hid3 := Lib.hid hid3
    replace hW3 := Lib.hid hW3
    replace hB := Lib.hid hB
    clear hkw hid1 hW1 hk3
    go_wp2_with fail
    refine (drop_c w3 bw bm n N G x a s hW3.out hN (by omega)).mono ?_
    rintro e w4 ⟨c, n4, G4, rfl, hdr, hW4, hn4, hk4⟩
    have hbm3 : bm < w3.heap.size := hW3.out.mp.lt
    have hid4 := (hk4.block _ (lt_of_block hid3.out) (by simp; omega)).trans hid3.out
    have hkw4 := hkw3.out.fresh hk4 (fun b hb => .inr (by simp at hb; omega))
    obtain ⟨i0, i1⟩ := cells2 hid4
    have idf := frozen2 hid4
    have hcc : (c ≠ 0) ∨ (c = 0 ∧ chkB N [x] a s = true ∧ (∀ m, 1 ≤ m → m ≤ N → G m a s ≠ x) ∧ G4 = updP G x a s 0) := by
      rcases hdr with ⟨_, rfl, _⟩ | ⟨_, ⟨_, rfl, _⟩ | ⟨_, _, rfl, _⟩ | ⟨_, e1, rfl, e2⟩⟩
      · exact .inl (by decide)
      · exact .inl (by decide)
      · exact .inl (by decide)
      · exact .inr ⟨rfl, by assumption, e1, e2⟩
    have hki : KI w3 w4 := hk4.ki (fun b hb o x => by
      simp at hb; subst hb; rw [hW3.out.mp.noCells]; simp)
    replace hkw4 := Lib.hid hkw4
    replace hid4 := Lib.hid hid4
    rcases hcc with hc0 | ⟨rfl, hchk, hno, rfl⟩
    · go_wp2_with fail
      refine (awake_c _).mono ?_
      rintro e w5 ⟨rfl, hk⟩
      go_wp2
      refine bodyPost_ret (v := .bool true) ?_ ?_ ?_
      · kernel_rfl
      · rfl
      · exact ⟨rfl, hkw4.out.trans hk⟩
    · have hxN : 1 ≤ x ∧ x ≤ N := chkB_in hchk x (by simp)
      have hyes : okId a s = true := by rw [← chkB_ok (N := N) hxN]; exact hchk
      have hI4 : ∀ a' s', Mg.Inv N (fun m => updP G x a s 0 m a' s') := by
        intro a' s'
        by_cases hh : a' = a ∧ s' = s
        · obtain ⟨rfl, rfl⟩ := hh
          rw [updP_fun]
          exact (hI.out _ _).drop hno (by omega)
        · rw [updP_off _ _ _ _ _ _ _ hh]
          exact hI.out a' s'
      obtain ⟨hKb, hlb, hwb⟩ : KZ w3 (w2.heap.size + 1) vb lb ∧ (lb.length : Int) = N ∧ WkL N G a s lb := by
        rcases hB.out with ⟨e, _⟩ | ⟨_, h⟩
        · rw [hyes] at e; cases e
        · exact h
      have hbm2' : bm < w2.heap.size := hbmw2
      replace hKb := hKb.keep hk4 (fun b hb e => by have := hKb.ge _ e; simp at hb; omega) hki
      rw [hyes]
      have hW4h := Lib.hid hW4
      have hI4h := Lib.hid hI4
      have hnoh := Lib.hid hno
      replace hKb := Lib.hid hKb
      replace hwb := Lib.hid hwb
      replace hlb := Lib.hid hlb
      clear hB hki hdr hk4
      go_wp2_with fail
      refine (walks_c w4 bw bm n4 N (updP G x a s 0) a s hW4h.out hN hI4h.out).mono ?_
      rintro e w5 ⟨va, la, rfl, hk5, hA⟩
      rw [hyes]
      obtain ⟨hKa, hla, hwa⟩ : KZ w5 (w4.heap.size + 1) va la ∧ (la.length : Int) = N ∧ WkL N (updP G x a s 0) a s la := by
        rcases hA with ⟨e, _⟩ | ⟨_, h⟩
        · rw [hyes] at e; cases e
        · exact h
      replace hKb := hKb.out.keep hk5 (by simp) hk5.ki0
      have hkw5 := hkw4.out.trans hk5
      obtain ⟨aa, ca, rfl⟩ := hKa.form
      obtain ⟨ab, cb, rfl⟩ := hKb.form
      have hlab : la.length = lb.length := by have := hlb.out; omega
      replace hKb := Lib.hid hKb
      replace hKa := Lib.hid hKa
      replace hkw5 := Lib.hid hkw5
      replace hwa := Lib.hid hwa
      replace hla := Lib.hid hla
      replace hlab := Lib.hid hlab
      clear hk5 hA hkw4 hid4 hW4h hI4h i0 i1 idf hW4 hI4 hno
      obtain ⟨K, hKe⟩ : ∃ K, lb.length = K := ⟨_, rfl⟩
      have hKa' : la.length = K := by rw [hlab.out, hKe]
      have hK8 : K ≤ 8 := by have := hlb.out; omega
      rw [hKa'] at hKa ⊢
      rw [hKe] at hKb ⊢
      replace hKe := Lib.hid hKe
      replace hKa' := Lib.hid hKa'
      go_wp2
      go_loopw [16] (fun iv wr => ∃ k : Nat, iv = .int .i64 k ∧ k ≤ K ∧ Keeps [] w5 wr) (fun iv _ => K - (intOf iv).toNat)
      case atStart => exact ⟨0, rfl, by omega, Keeps.refl _ _⟩
      case round =>
        obtain ⟨k, rfl, hk, hkr⟩ := hrel
        by_cases hlt : k < K
        · have hxa : k < la.length := by rw [hKa'.out]; exact hlt
          have hxb : k < lb.length := by rw [hKe.out]; exact hlt
          obtain ⟨ga, ca', sa, za, hva, hca, hSa⟩ := (hKa.out.keep hkr (by simp) hkr.ki0).elem hxa
          obtain ⟨gb, cb', sb, zb, hvb, hcb, hSb⟩ := (hKb.out.keep hkr (by simp) hkr.ki0).elem hxb
          rw [hKa'.out] at hva
          rw [hKe.out] at hvb
          cases hva
          cases hvb
          obtain ⟨c1, hw1⟩ := hwb.out k hxb
          obtain ⟨c2, hw2⟩ := hwa.out k hxa
          replace hkr := Lib.hid hkr
          by_cases hkx : (k : Int) + 1 = x
          · have h0 : la[k] = [] := by rw [hkx] at hw2; exact drop_none hw2
            rw [h0] at hca
            simp only [List.length_nil] at hca
            subst hkx
            have hwp : IntKind.i64.wrap ((k : Int) + 1) = (k : Int) + 1 := IntWalk.i64_in _ (by omega)
            go_wp2_with fail
            refine Free.wp_region_chain (fun i => i == 26) (fun i => true) (fun _ b => False) (by kernel_rfl) (by kernel_rfl) (by kernel_rfl) ?_
            (repeat (first | (apply Free.cw_pureW rfl rfl; (intro w'; go_simp <;> exact rfl); go_frame) | (apply Free.cw_steadyW rfl rfl rfl; (intro w' hS; have q0 := Free.sx_cell hS hca (fun _ _ hT => hT); have q1 := Free.sx_cell hS hcb (fun _ _ hT => hT); go_simp <;> exact rfl); go_frame) | (refine Free.cw_skip rfl ?_; go_frame)))
            refine Free.cw_nil ?_
            go_wp2
            go_roundw
            case rel => exact ⟨k + 1, rfl, by omega, hkr.out.drew⟩
            case measure => simp [intOf]; omega
          · have he := Lib.hid (drop_same (hI.out a s) hnoh.out hw1 hw2 hkx)
            clear hw1 hw2
            have hkx1 : ((k : Int) + 1 == x) = false := by simp [hkx]
            have hkx2 : ((k : Int) + 1 != x) = true := by simp [hkx]
            have hwp : IntKind.i64.wrap ((k : Int) + 1) = (k : Int) + 1 := IntWalk.i64_in _ (by omega)
            go_wp2_with fail
            refine Free.wp_region_chain (fun i => i == 26) (fun i => true) (fun _ b => False) (by kernel_rfl) (by kernel_rfl) (by kernel_rfl) ?_
            (repeat (first | (apply Free.cw_pureW rfl rfl; (intro w'; go_simp <;> exact rfl); go_frame) | (apply Free.cw_steadyW rfl rfl rfl; (intro w' hS; have q0 := Free.sx_cell hS hca (fun _ _ hT => hT); have q1 := Free.sx_cell hS hcb (fun _ _ hT => hT); go_simp <;> exact rfl); go_frame) | (refine Free.cw_skip rfl ?_; go_frame)))
            refine Free.cw_loudW rfl rfl (fun K' hK' => ?_)
            go_wp2_with fail
            refine (same_c _ _ _ _ _ (hSb.keeps ((Keeps.refl [] _).drew)) (hSa.keeps ((Keeps.refl [] _).drew))).mono ?_
            rintro e w7 ⟨rfl, hk7⟩
            rw [he.out, show sameB la[k] la[k] = true from by simp [sameB]]
            refine hK' _ _ rfl (Free.KeepsP.of hk7 (by simp)) ?_
            clear hK' K'
            (repeat (first | (apply Free.cw_pureW rfl rfl; (intro w'; go_simp <;> exact rfl); go_frame) | (apply Free.cw_steadyW rfl rfl rfl; (intro w' hS; have q0 := Free.sx_cell hS hca (fun _ _ hT => hT); have q1 := Free.sx_cell hS hcb (fun _ _ hT => hT); go_simp <;> exact rfl); go_frame) | (refine Free.cw_skip rfl ?_; go_frame)))
            refine Free.cw_nil ?_
            have hk8 := hkr.out.drew.trans hk7
            replace hk8 := Lib.hid hk8
            go_wp2
            go_roundw
            case rel => exact ⟨k + 1, rfl, by omega, hk8.out⟩
            case measure => simp [intOf]; omega
        · have hkK : k = K := by omega
          subst hkK
          go_wp2_with fail
          refine (awake_c _).mono ?_
          rintro e w8 ⟨rfl, hk8⟩
          go_wp2
          refine bodyPost_ret (v := .bool true) ?_ ?_ ?_
          · kernel_rfl
          · rfl
          · exact ⟨rfl, (hkw5.out.trans hkr).trans hk8⟩
end Go.Proofs.Ythhhciofcmmnfaa

namespace Go.Proofs.Ythhhciofcmmnfaa
open Go.RowKit

theorem create_inv {N x a s c : Int} {G G' : Pt} (I : ∀ a s, Mg.Inv N (fun m => G m a s)) (h : CreateR N G x a s c G') : ∀ a' s', Mg.Inv N (fun m => G' m a' s') := by
  rcases h with ⟨_, _, rfl⟩ | ⟨hc, m, b, hh, ⟨_, _, rfl⟩ | ⟨rfl, _, rfl⟩⟩
  · exact I
  · exact I
  · intro a' s'
    by_cases e : a' = a ∧ s' = s
    · obtain ⟨rfl, rfl⟩ := e
      rw [updP_fun]
      rcases hh with ⟨e, _⟩ | ⟨_, _, h3⟩
      · cases e
      · exact (I _ _).create (chkB_in hc x (by simp)) h3
    · rw [updP_off _ _ _ _ _ _ _ e]; exact I a' s'
theorem share_inv {N x y a s c : Int} {G G' : Pt} (I : ∀ a s, Mg.Inv N (fun m => G m a s)) (h : ShareR N G x y a s c G') : ∀ a' s', Mg.Inv N (fun m => G' m a' s') := by
  rcases h with ⟨_, _, rfl⟩ | ⟨hc, ⟨_, _, rfl⟩ | ⟨hx, _, ⟨_, rfl⟩ | ⟨hy, rfl⟩⟩⟩
  · exact I
  · exact I
  · exact I
  · intro a' s'
    by_cases e : a' = a ∧ s' = s
    · obtain ⟨rfl, rfl⟩ := e
      rw [updP_fun]
      exact (I _ _).share (chkB_in hc y (by simp)) hx hy
    · rw [updP_off _ _ _ _ _ _ _ e]; exact I a' s'
theorem moveR_inv {N x y a s c : Int} {G G' : Pt} (I : ∀ a s, Mg.Inv N (fun m => G m a s)) (h : MoveR N G x y a s c G') : ∀ a' s', Mg.Inv N (fun m => G' m a' s') := by
  rcases h with ⟨_, _, rfl⟩ | ⟨hc, ⟨_, _, rfl⟩ | ⟨_, _, _, rfl⟩ | ⟨hx, _, rfl⟩⟩
  · exact I
  · exact I
  · exact I
  · have := chkB_in hc x (by simp)
    exact move_inv I hx (by omega) (chkB_in hc y (by simp))
theorem locateR_inv {N x a s c : Int} {G G' : Pt} (I : ∀ a s, Mg.Inv N (fun m => G m a s)) (h : LocateR N G x a s c G') : ∀ a' s', Mg.Inv N (fun m => G' m a' s') := by
  rcases h with ⟨_, _, rfl⟩ | ⟨hc, ⟨_, _, rfl⟩ | ⟨_, lst, hm, hch, _, rfl⟩⟩
  · exact I
  · exact I
  · exact locate_inv I hch
theorem dropR_inv {N x a s c : Int} {G G' : Pt} (I : ∀ a s, Mg.Inv N (fun m => G m a s)) (h : DropR N G x a s c G') : ∀ a' s', Mg.Inv N (fun m => G' m a' s') := by
  rcases h with ⟨_, _, rfl⟩ | ⟨hc, ⟨_, _, rfl⟩ | ⟨_, _, _, rfl⟩ | ⟨_, hno, _, rfl⟩⟩
  · exact I
  · exact I
  · exact I
  · intro a' s'
    have := chkB_in hc x (by simp)
    by_cases e : a' = a ∧ s' = s
    · obtain ⟨rfl, rfl⟩ := e
      rw [updP_fun]
      exact (I _ _).drop hno (by omega)
    · rw [updP_off _ _ _ _ _ _ _ e]; exact I a' s'
theorem OpRel.inv {r : Nat} {N N0 : Int} {G G' : Pt} {L L' : List EntV} {A B a s c c' : Int} (I : ∀ a s, Mg.Inv N (fun m => G m a s)) (h : OpRel r N N0 G L A B a s c c' G' L') : ∀ a' s', Mg.Inv N (fun m => G' m a' s') := by
  rcases h with ⟨_, h, _⟩ | ⟨_, h, _⟩ | ⟨_, h, _⟩ | ⟨_, h, _⟩ | ⟨_, h, _⟩ | ⟨_, _, _, rfl, _⟩
  · exact create_inv I h
  · exact share_inv I h
  · exact moveR_inv I h
  · exact locateR_inv I h
  · exact dropR_inv I h
  · exact I
theorem OpRel.off {r : Nat} {N N0 : Int} {G G' : Pt} {L L' : List EntV} {A B a s c c' a' s' : Int} (h : OpRel r N N0 G L A B a s c c' G' L') (e : ¬(a' = a ∧ s' = s)) : (fun m => G' m a' s') = (fun m => G m a' s') := by
  rcases h with ⟨_, h, _⟩ | ⟨_, h, _⟩ | ⟨_, h, _⟩ | ⟨_, h, _⟩ | ⟨_, h, _⟩ | ⟨_, _, _, rfl, _⟩
  · rcases h with ⟨_, _, rfl⟩ | ⟨_, m, b, _, ⟨_, _, rfl⟩ | ⟨_, _, rfl⟩⟩
    · rfl
    · rfl
    · exact updP_off _ _ _ _ _ _ _ e
  · rcases h with ⟨_, _, rfl⟩ | ⟨_, ⟨_, _, rfl⟩ | ⟨_, _, ⟨_, rfl⟩ | ⟨_, rfl⟩⟩⟩
    · rfl
    · rfl
    · rfl
    · exact updP_off _ _ _ _ _ _ _ e
  · rcases h with ⟨_, _, rfl⟩ | ⟨_, ⟨_, _, rfl⟩ | ⟨_, _, _, rfl⟩ | ⟨_, _, rfl⟩⟩
    · rfl
    · rfl
    · rfl
    · exact mvP_off _ _ _ _ _ _ _ e
  · rcases h with ⟨_, _, rfl⟩ | ⟨_, ⟨_, _, rfl⟩ | ⟨_, _, _, _, _, rfl⟩⟩
    · rfl
    · rfl
    · exact updP_off _ _ _ _ _ _ _ e
  · rcases h with ⟨_, _, rfl⟩ | ⟨_, ⟨_, _, rfl⟩ | ⟨_, _, _, rfl⟩ | ⟨_, _, _, rfl⟩⟩
    · rfl
    · rfl
    · rfl
    · exact updP_off _ _ _ _ _ _ _ e
  · rfl
theorem WalkR.congr {N y a s c : Int} {G G' : Pt} {l : List Int} (e : (fun m => G' m a s) = (fun m => G m a s)) (h : WalkR N G' y a s c l) : WalkR N G y a s c l := by
  have e1 : G' y a s = G y a s := congrFun e y
  unfold WalkR at h ⊢
  rw [e, e1] at h
  exact h
set_option maxRecDepth 100000 in
set_option maxHeartbeats 4000000 in
theorem indep_w (w : World) (mc : Nat) (v0 v1 : Value) (a s : Int) (hmc : mc < 256) (l : List OpV) (l2 : List OpV) (_ : W64 a) (_ : W64 s) (h : SOps w v0 l) (h2 : SOps w v1 l2) :
    Calls Try.prog 8 #[.int .u8 mc, v0, v1, idV a s] w fun e w' => e = .returned (.bool true) ∧ Keeps [] w w' := by
  obtain ⟨ao, co, rfl, hlc, hcm, _⟩ := Gen.SlR.form h
  obtain ⟨M, hM⟩ : ∃ N, l.length = N := ⟨_, rfl⟩
  obtain ⟨ao2, co2, rfl, hlc2, hcm2, _⟩ := Gen.SlR.form h2
  obtain ⟨M2, hM2⟩ : ∃ N, l2.length = N := ⟨_, rfl⟩
  rw [hM] at hlc ⊢
  rw [hM2] at hlc2 ⊢
  have hMm : M ≤ 9223372036854775807 := by unfold maxLen at hcm; omega
  have hMm2 : M2 ≤ 9223372036854775807 := by unfold maxLen at hcm2; omega
  have hn : (mc : Int) % 8 < 8 ∧ 0 ≤ (mc : Int) % 8 := by omega
  have hkA : Keeps [] w (w.alloc (.cells #[.int .i64 a, .int .i64 s] 31)) := (Keeps.refl _ _).alloc _
  have hb0 := heap_alloc_new w (.cells #[.int .i64 a, .int .i64 s] 31)
  have hSA := h.keeps hkA
  rw [show Value.slice ao l.length co = .slice ao M co by rw [hM]] at *
  rw [show Value.slice ao2 l2.length co2 = .slice ao2 M2 co2 by rw [hM2]] at *
  have heq := fun w p q => id_eql w p q a s
  replace hM := Lib.hid hM
  replace h := Lib.hid h
  replace hM2 := Lib.hid hM2
  replace h2 := Lib.hid h2
  replace hSA := Lib.hid hSA
  replace hkA := Lib.hid hkA
  replace hb0 := Lib.hid hb0
  go_enter Try.func8, Try.ntmps8
  by_cases h40 : 20 < M ∨ 20 < M2
  · have hg : (decide (20 < (M : Int)) = true) ∨ (decide (20 < (M : Int)) = false ∧ decide (20 < (M2 : Int)) = true) := by
      rcases h40 with h | h
      · exact .inl (by simp; omega)
      · by_cases h' : 20 < M
        · exact .inl (by simp; omega)
        · exact .inr ⟨by simp; omega, by simp; omega⟩
    clear h40
    rcases hg with hg | ⟨hg, hg'⟩
    all_goals
      go_wp2_with fail
      refine (awake_c _).mono ?_
      rintro e w2 ⟨rfl, hk⟩
      go_wp2
      refine bodyPost_ret (v := .bool true) ?_ ?_ ?_
      · kernel_rfl
      · rfl
      · exact ⟨rfl, hkA.out.trans hk⟩
  · have hg : decide (20 < (M : Int)) = false := by simp; omega
    have hg' : decide (20 < (M2 : Int)) = false := by simp; omega
    go_wp2_with fail
    obtain ⟨N, hNe⟩ : ∃ N : Int, 1 + (mc : Int) % 8 = N := ⟨_, rfl⟩
    have hN : 1 ≤ N ∧ N ≤ 8 := by omega
    rw [hNe]
    refine (run_c _ N _ l hSA.out (by rw [hM.out]; omega)).mono ?_
    rintro e w1 (⟨hb, _⟩ | ⟨_, bw, bm, n, G, v, L, rfl, hR, hW, _, ⟨p, z, q, rfl⟩, hn2, _, hbw, hbm, hk1⟩)
    · exact absurd hN hb
    have hI := hR.rel.inv
    have hn80 : n ≤ 80 := by rw [hM.out] at hn2; omega
    have hM20 : M2 ≤ 20 := by omega
    have hkx : Keeps [] w1 (w1.alloc (refBox N (.slice p z q))) := (Keeps.refl _ _).alloc _
    have hkw := (hkA.out.trans hk1).trans hkx
    have hid1 := (hkx.block _ (lt_of_block ((hk1.block _ (lt_of_block hb0.out) (by simp)).trans hb0.out)) (by simp)).trans ((hk1.block _ (lt_of_block hb0.out) (by simp)).trans hb0.out)
    have hW1 := hW.keeps hkx
    have hwm : w.heap.size + 1 ≤ bm := by simp at hbm; omega
    obtain ⟨i0, i1⟩ := cells2 hid1
    replace hkw := Lib.hid hkw
    replace hid1 := Lib.hid hid1
    replace hW1 := Lib.hid hW1
    replace hI := Lib.hid hI
    replace hNe := Lib.hid hNe
    clear hk1 hR hbw hbm hn2 hkx hW h40 hSA hkA hb0
    go_wp2_with fail
    generalize w1.alloc (refBox N (.slice p z q)) = w2 at *
    refine (walks_c w2 bw bm n N G a s hW1.out hN hI.out).mono ?_
    rintro e w3 ⟨vb, lb, rfl, hk3, hB⟩
    have hkw3 := hkw.out.trans hk3
    have hid3 := (hk3.block _ (lt_of_block hid1.out) (by simp)).trans hid1.out
    have hW3 := hW1.out.keeps hk3
    replace hkw3 := Lib.hid hkw3
    replace hid3 := Lib.hid hid3
    replace hW3 := Lib.hid hW3
    have hbmw2 : bm < w2.heap.size := hW1.out.mp.lt
    have hsz3 : w2.heap.size ≤ w3.heap.size := hk3.size
    have hKb : okId a s = true → KZ w3 (w2.heap.size + 1) vb lb := fun e => by
      rcases hB with ⟨e', _⟩ | ⟨_, h, _⟩
      · rw [e] at e'; cases e'
      · exact h
    have hwb : okId a s = true → (lb.length : Int) = N ∧ WkL N G a s lb := fun e => by
      rcases hB with ⟨e', _⟩ | ⟨_, h⟩
      · rw [e] at e'; cases e'
      · exact h.2
    have hown : ∀ b, vb.ownBlock = some b → w2.heap.size + 1 ≤ b ∧ b < w3.heap.size := fun b hb => by
      rcases hB with ⟨_, rfl⟩ | ⟨_, ⟨cs, ho, _⟩, _⟩
      · simp [Value.ownBlock] at hb
      · exact ho.lt b hb
    replace hKb := Lib.hid hKb
    replace hwb := Lib.hid hwb
    replace hown := Lib.hid hown
    clear hkw hid1 hW1 hk3 i0 i1 hB
    go_wp2
    go_loopw [54, 10] (fun iv pw wr => ∃ (k bwk bmk nk : Nat) (Gk : Pt), iv = .int .i64 k ∧ pw = .pointer (some ⟨bwk, 0, none⟩) ∧ k ≤ M2 ∧ WM wr bwk bmk nk N Gk ∧ (∀ a s, Mg.Inv N (fun m => Gk m a s)) ∧ (fun m => Gk m a s) = (fun m => G m a s) ∧ nk ≤ n + 2 * k ∧ Keeps [] w wr ∧
      (okId a s = true → KZ wr (w2.heap.size + 1) vb lb) ∧ (∀ b, vb.ownBlock = some b → b ≠ bmk) ∧ w3.heap.size ≤ wr.heap.size ∧ wr.heap[w.heap.size]? = some (.cells #[.int .i64 a, .int .i64 s] 31 (0, 0)) ∧ w.heap.size + 1 ≤ bmk) (fun iv _ _ => M2 - (intOf iv).toNat)
    case atStart => exact ⟨0, bw, bm, n, G, rfl, rfl, by omega, hW3.out, hI.out, rfl, by omega, hkw3.out, hKb.out, fun b hb e => by have := hown.out b hb; omega, Nat.le_refl _, hid3.out, hwm⟩
    case round =>
      obtain ⟨k, bwk, bmk, nk, Gk, rfl, rfl, hk, hWk, hIk, hGk, hnk, hkk, hKZ, hne, hszk, hidk, hbw0⟩ := hrel
      obtain ⟨i0, i1⟩ := cells2 hidk
      by_cases hlt : k < M2
      · have hkl : k < l2.length := by rw [hM2.out]; exact hlt
        obtain ⟨g, o, c', hv, x0, x1, x2, x3, x4, hk256, ha64, hs64⟩ := h2.out.op hkl
        cases hv
        replace x0 := hkk.val x0
        replace x1 := hkk.val x1
        replace x2 := hkk.val x2
        replace x3 := hkk.val x3
        replace x4 := hkk.val x4
        obtain ⟨X, hX⟩ : ∃ x, l2[k] = x := ⟨_, rfl⟩
        rw [hX] at x0 x1 x2 x3 x4 hk256 ha64 hs64
        obtain ⟨xk, xA, xB, xa, xs⟩ := X
        simp only at x0 x1 x2 x3 x4 hk256 ha64 hs64
        have hkx := (Keeps.refl [] wr).alloc (opBox xk xA xB xa xs)
        have hWx := hWk.keeps hkx
        have hszx : wr.heap.size < (wr.alloc (opBox xk xA xB xa xs)).heap.size := by simp
        have hkx0 := hkx
        replace hkx := Lib.hid hkx
        replace hWx := Lib.hid hWx
        replace hWk := Lib.hid hWk
        replace hIk := Lib.hid hIk
        replace hGk := Lib.hid hGk
        replace hkk := Lib.hid hkk
        replace hKZ := Lib.hid hKZ
        replace hne := Lib.hid hne
        replace hidk := Lib.hid hidk
        have hi0 := hkx0.val i0
        have hi1 := hkx0.val i1
        clear hX hkx0
        have hbmlt := hWk.out.mp.lt
        by_cases hsk : (xa = a ∧ xs = s) ∨ xk % 6 = 5
        · have hg : ((xa == a && xs == s) = true) ∨ ((xa == a && xs == s) = false ∧ ((xk : Int) % 6 == 5) = true) := by
            by_cases e : xa = a ∧ xs = s
            · exact .inl (by simp [e])
            · rcases hsk with h | h
              · exact absurd h e
              · exact .inr ⟨by simp; intro e1 e2; exact e ⟨e1, e2⟩, by simp; omega⟩
          rcases hg with hg | ⟨hg, hg2⟩
          all_goals
            go_wp2
            go_roundw
            case rel => exact ⟨k + 1, bwk, bmk, nk, Gk, rfl, rfl, by omega, hWx.out, hIk.out, hGk.out, by omega, hkk.out.trans hkx.out, fun h => (hKZ.out h).keep hkx.out (by simp) hkx.out.ki0, hne.out, Nat.le_trans hszk hkx.out.size, (hkx.out.block _ (lt_of_block hidk.out) (by simp)).trans hidk.out, hbw0⟩
            case measure => simp [intOf]; omega
        · have hg : (xa == a && xs == s) = false := by simp; intro e1 e2; exact hsk (.inl ⟨e1, e2⟩)
          have hg2 : ((xk : Int) % 6 == 5) = false := by simp; intro e; exact hsk (.inr (by omega))
          have hoff : ¬(a = xa ∧ s = xs) := fun e => hsk (.inl ⟨e.1.symm, e.2.symm⟩)
          clear hsk
          go_wp2_with fail
          generalize wr.alloc (opBox xk xA xB xa xs) = wx at *
          refine (apply_c wx bwk bmk nk N 0 Gk (.slice none 0 0) [] xk xA xB xa xs hWx.out hN (by omega) (SlE.none _ _ _ (by simp) (by simp [maxLen])) (by simp) hk256 hIk.out).mono ?_
          rintro e w5 ⟨bw', bm', n', G', v', L', c1, c2, rfl, ho, hW5, _, ⟨p5, z5, q5, rfl⟩, hn5, hk5, hfr⟩
          have hki : KI wx w5 := hk5.ki (fun b hb o x => by simp at hb; subst hb; rw [hWx.out.mp.noCells]; simp)
          have hkw5 := (hkk.out.trans hkx.out).fresh hk5 (fun b hb => .inr (by simp at hb; omega))
          have hidx := (hkx.out.block _ (lt_of_block hidk.out) (by simp)).trans hidk.out
          have hid5 := (hk5.block _ (lt_of_block hidx) (by simp; omega)).trans hidx
          have hKZ5 : okId a s = true → KZ w5 (w2.heap.size + 1) vb lb := fun e =>
            ((hKZ.out e).keep hkx.out (by simp) hkx.out.ki0).keep hk5 (fun b hb e2 => hne.out _ e2 (by simpa using hb)) hki
          have hne5 : ∀ b, vb.ownBlock = some b → b ≠ bm' := fun b hb => by
            rcases hfr with ⟨_, rfl⟩ | ⟨_, f2⟩
            · exact hne.out b hb
            · have := hown.out b hb
              have := hkx.out.size
              omega
          have hI5 := ho.inv hIk.out
          have hG5 := (ho.off hoff).trans hGk.out
          have hsz5 : w3.heap.size ≤ w5.heap.size := by have := hkx.out.size; have := hk5.size; omega
          have hb5 : w.heap.size + 1 ≤ bm' := by
            have := hkk.out.size
            have := hkx.out.size
            rcases hfr with ⟨_, rfl⟩ | ⟨_, f2⟩ <;> omega
          replace hI5 := Lib.hid hI5
          replace hG5 := Lib.hid hG5
          replace hne5 := Lib.hid hne5
          replace hKZ5 := Lib.hid hKZ5
          replace hid5 := Lib.hid hid5
          replace hkw5 := Lib.hid hkw5
          replace hW5 := Lib.hid hW5
          clear hidx hki hfr ho hk5
          go_wp2
          go_roundw
          case rel => exact ⟨k + 1, bw', bm', n', G', rfl, rfl, by omega, hW5.out, hI5.out, hG5.out, by omega, hkw5.out, hKZ5.out, hne5.out, hsz5, hid5.out, hb5⟩
          case measure => simp [intOf]; omega
      · have hkM : k = M2 := by omega
        replace hWk := Lib.hid hWk
        replace hIk := Lib.hid hIk
        replace hGk := Lib.hid hGk
        replace hkk := Lib.hid hkk
        replace hKZ := Lib.hid hKZ
        replace hne := Lib.hid hne
        replace hidk := Lib.hid hidk
        subst hkM
        go_wp2_with fail
        refine (walks_c _ bwk bmk nk N Gk a s hWk.out hN hIk.out).mono ?_
        rintro e w5 ⟨va, la, rfl, hk5, hA⟩
        have hk5w := hkk.out.trans hk5
        replace hk5w := Lib.hid hk5w
        clear i0 i1
        rcases hA with ⟨hno, rfl⟩ | ⟨hyes, hKa, hla, hwa⟩
        · rw [hno]
          clear hk5
          go_wp2
          go_loopw [18] (fun iv ws => iv = .int .i64 0 ∧ Keeps [] w5 ws) (fun iv _ => 0)
          case atStart => exact ⟨rfl, Keeps.refl _ _⟩
          case round =>
            obtain ⟨rfl, hks⟩ := hrel
            replace hks := Lib.hid hks
            go_wp2_with fail
            refine (awake_c _).mono ?_
            rintro e w8 ⟨rfl, hk8⟩
            go_wp2
            refine bodyPost_ret (v := .bool true) ?_ ?_ ?_
            · kernel_rfl
            · rfl
            · exact ⟨rfl, (hk5w.out.trans hks.out).trans hk8⟩
        · have hKb5 := (hKZ.out hyes).keep hk5 (by simp) hk5.ki0
          obtain ⟨hlb, hwb'⟩ := hwb.out hyes
          obtain ⟨aa, ca, rfl⟩ := hKa.form
          obtain ⟨ab, cb, rfl⟩ := hKb5.form
          obtain ⟨K, hKe⟩ : ∃ K, lb.length = K := ⟨_, rfl⟩
          have hKa' : la.length = K := by omega
          have hK8 : K ≤ 8 := by omega
          rw [hKa'] at hKa ⊢
          rw [hKe] at hKb5 ⊢
          rw [hyes]
          replace hKe := Lib.hid hKe
          replace hKa' := Lib.hid hKa'
          replace hKa := Lib.hid hKa
          replace hKb5 := Lib.hid hKb5
          replace hwa := Lib.hid hwa
          replace hwb' := Lib.hid hwb'
          clear hk5 hla hlb hyes
          go_wp2
          go_loopw [18] (fun iv wr => ∃ j : Nat, iv = .int .i64 j ∧ j ≤ K ∧ Keeps [] w5 wr) (fun iv _ => K - (intOf iv).toNat)
          case atStart => exact ⟨0, rfl, by omega, Keeps.refl _ _⟩
          case round =>
            obtain ⟨j, rfl, hj, hks⟩ := hrel
            by_cases hjl : j < K
            · have hxa : j < la.length := by rw [hKa'.out]; exact hjl
              have hxb : j < lb.length := by rw [hKe.out]; exact hjl
              obtain ⟨ga, ca', sa, za, hva, hca, hSa⟩ := (hKa.out.keep hks (by simp) hks.ki0).elem hxa
              obtain ⟨gb, cb', sb, zb, hvb, hcb, hSb⟩ := (hKb5.out.keep hks (by simp) hks.ki0).elem hxb
              rw [hKa'.out] at hva
              rw [hKe.out] at hvb
              cases hva
              cases hvb
              obtain ⟨c1, hw1⟩ := hwb'.out j hxb
              obtain ⟨c2, hw2⟩ := hwa.out j hxa
              have he := Lib.hid (WalkR.det hw1 (WalkR.congr hGk.out hw2))
              replace hks := Lib.hid hks
              replace hSa := Lib.hid hSa
              replace hSb := Lib.hid hSb
              clear hw1 hw2
              go_wp2
              refine Free.wp_region_chain (fun i => i == 8) (fun i => true) (fun _ b => False) (by kernel_rfl) (by kernel_rfl) (by kernel_rfl) ?_
              (repeat (first | (apply Free.cw_pureW rfl rfl; (intro w'; go_simp <;> exact rfl); go_frame) | (apply Free.cw_steadyW rfl rfl rfl; (intro w' hS; have q0 := Free.sx_cell hS hca (fun _ _ hT => hT); have q1 := Free.sx_cell hS hcb (fun _ _ hT => hT); go_simp <;> exact rfl); go_frame) | (refine Free.cw_skip rfl ?_; go_frame)))
              refine Free.cw_loud rfl rfl (fun K' hK' => ?_)
              go_wp2_with fail
              refine (same_c _ _ _ _ _ (hSb.out.keeps ((Keeps.refl [] _).drew)) (hSa.out.keeps ((Keeps.refl [] _).drew))).mono ?_
              rintro e w7 ⟨rfl, hk7⟩
              rw [he.out, show sameB lb[j] lb[j] = true from by simp [sameB]]
              refine hK' _ _ rfl (Free.KeepsP.of hk7 (by simp)) ?_
              clear hK' K'
              (repeat (first | (apply Free.cw_pureW rfl rfl; (intro w'; go_simp <;> exact rfl); go_frame) | (apply Free.cw_steadyW rfl rfl rfl; (intro w' hS; have q0 := Free.sx_cell hS hca (fun _ _ hT => hT); have q1 := Free.sx_cell hS hcb (fun _ _ hT => hT); go_simp <;> exact rfl); go_frame) | (refine Free.cw_skip rfl ?_; go_frame)))
              refine Free.cw_nil ?_
              have hk8 := hks.out.drew.trans hk7
              replace hk8 := Lib.hid hk8
              go_wp2
              go_roundw
              case rel => exact ⟨j + 1, rfl, by omega, hk8.out⟩
              case measure => simp [intOf]; omega
            · have hjK : j = K := by omega
              subst hjK
              replace hks := Lib.hid hks
              go_wp2_with fail
              refine (awake_c _).mono ?_
              rintro e w8 ⟨rfl, hk8⟩
              go_wp2
              refine bodyPost_ret (v := .bool true) ?_ ?_ ?_
              · kernel_rfl
              · rfl
              · exact ⟨rfl, (hk5w.out.trans hks.out).trans hk8⟩
end Go.Proofs.Ythhhciofcmmnfaa

namespace Go.Proofs.Ythhhciofcmmnfaa
open Go.ChangeShapes Go.WideShapes Go.ChangeAt Go.RowKit

theorem infoB : (Try.prog.info? 5).map (fun i => (i.zero, i.size, i.bytes)) = some (some (.int .u8 0), 1, 1) := by kernel_rfl
/-- The slice `v` reads as the bytes `l`, and is the call's own: it lies in a block from `base` on, at its head. -/
def Buf (w : World) (base : Nat) (v : Value) (l : List UInt8) : Prop := w.ownsRow base 5 1 v l.length (bys l)
theorem Buf.slB {w : World} {base : Nat} {v : Value} {l : List UInt8} (h : Buf w base v l) : SlB w v l := Sl.of_owns h
theorem Buf.nil (w : World) (base : Nat) : Buf w base (.slice none 0 0) [] := World.ownsRow_nil _ _ _ _
theorem Buf.form {w : World} {base : Nat} {v : Value} {l : List UInt8} (h : Buf w base v l) : ∃ a cap, v = .slice a l.length cap := h.slB.form
theorem Buf.of {w : World} {base n : Nat} {v : Value} {l m : List UInt8} (h : w.ownsRow base 5 1 v n (bys l ++ bys m)) : Buf w base v (l ++ m) := by
  have h1 := h.1
  unfold Buf
  rw [bys_append]
  have : (l ++ m).length = n := by simpa using h1
  rw [this]
  exact h
theorem byte_of {x : Int} (h0 : 0 ≤ x) : Value.int .u8 (x % 256) = .int .u8 ((UInt8.ofNat x.toNat).toNat : Int) := by
  congr 1; simp; omega

theorem wpl_pushB {ops : Array Oper} {rest : List Oper} {o : Oper} {a : Act} {Q : Exit → Act → World → Prop} (w : World) (base : Nat) (v : Value) (l : List UInt8) (x : Int) (hg : o.guard = none) (s t : Operand)
    (ho : o.op = .call { callee := .builtin .append, args := #[s, t], argTypes := #[55, 55] }) (hs : a.eval s = v) (ht : a.eval t = .slice (some ⟨w.heap.size, 0, none⟩) 1 1)
    (h : Buf w base v l) (b : UInt8) (hb : x = (b.toNat : Int)) (hl : l.length ≤ 140737488355300) (hbase : base ≤ w.heap.size)
    (K : ∀ v' w', Buf w' base v' (l ++ [b]) → Grw w w' v v' → wpList Try.prog ops Q rest (a.put o.dst v') w') : wpList Try.prog ops Q (o :: rest) a (w.alloc (.cells #[.int .u8 x] 5)) := by
  obtain ⟨i0, hi, hz0, hz1, hz2⟩ := info_parts infoB
  subst hb
  refine wpl_append_x hg s t _ ho base 5 i0 (.int .u8 0) 1 1 Try.underlying55 hi hz0 hz1 hz2 rfl (by decide) v l.length (bys l) hs (h.alloc _) _ 1 (bys [b]) ht (SlB.one w b _) (bys_one _) (by unfold maxLen; omega) (by omega) (by simp; omega) ?_
  intro v' w' h1 h2 _
  exact K v' w' (Buf.of h1) h2.alloc_left

/-- `append(v, v2...)` of bytes, `v` the call's own. -/
theorem wpl_appB {ops : Array Oper} {rest : List Oper} {o : Oper} {a : Act} {Q : Exit → Act → World → Prop} (w : World) (base : Nat) (v : Value) (l : List UInt8) (hg : o.guard = none) (s t : Operand)
    (ho : o.op = .call { callee := .builtin .append, args := #[s, t], argTypes := #[55, 55] }) (hs : a.eval s = v) (v2 : Value) (m : List UInt8) (ht : a.eval t = v2)
    (h : Buf w base v l) (h2 : SlB w v2 m) (hl : l.length + m.length ≤ 140737488355328) (hbase : base ≤ w.heap.size)
    (K : ∀ v' w', Buf w' base v' (l ++ m) → Grw w w' v v' → wpList Try.prog ops Q rest (a.put o.dst v') w') : wpList Try.prog ops Q (o :: rest) a w := by
  obtain ⟨i0, hi, hz0, hz1, hz2⟩ := info_parts infoB
  refine wpl_append_x hg s t _ ho base 5 i0 (.int .u8 0) 1 1 Try.underlying55 hi hz0 hz1 hz2 rfl (by decide) v l.length (bys l) hs h _ m.length (bys m) ht h2 (bys_one _) (by unfold maxLen; omega) (by omega) hbase ?_
  intro v' w' h1 h2 _
  exact K v' w' (Buf.of h1) h2
theorem Buf.fresh (w : World) : Buf (w.alloc (.cells #[] 5)) w.heap.size (.slice (some ⟨w.heap.size, 0, none⟩) 0 0) [] := ownsRow_empty w _ _ _ (Nat.le_refl _)
theorem Buf.one (w : World) (b : UInt8) {x : Int} (hx : x = (b.toNat : Int)) : Buf (w.alloc (.cells #[.int .u8 x] 5)) w.heap.size (.slice (some ⟨w.heap.size, 0, none⟩) 1 1) [b] := by
  subst hx
  exact ⟨rfl, .inr ⟨_, 1, _, rfl, Nat.le_refl _, heap_alloc_new _ _, Nat.le_refl _, by simp [maxLen], rfl, rfl⟩⟩
theorem Buf.keep {w w' : World} {base : Nat} {v : Value} {l : List UInt8} (h : Buf w base v l) (hk : Keeps [] w w') : Buf w' base v l := ownsRow_block h (fun b _ hb => hk.block b hb (by simp))
theorem SlB.cap {w : World} {v : Value} {l : List UInt8} (h : SlB w v l) : l.length ≤ maxLen := by obtain ⟨_, a, c, rfl, h1, h2, _⟩ := h; omega


def ByteR (_ : World) (cs : List Value) (x : UInt8) : Prop := cs = [.int .u8 (x.toNat : Int)]
theorem cs_byte {w : World} {cs : List Value} (h : Gen.Cs Try.prog w 5 cs) : ∃ x, ByteR w cs x := by
  obtain ⟨k, rfl, wk⟩ := Gen.Cs.int Try.underlying5 h
  have hb : 0 ≤ k ∧ k ≤ 255 := by simpa [Lit.wf, IntKind.min, IntKind.max, IntKind.signed, IntKind.bits] using wk
  refine ⟨UInt8.ofNat k.toNat, ?_⟩
  unfold ByteR
  congr 2
  simp; omega
set_option maxRecDepth 100000 in
set_option maxHeartbeats 1000000 in
theorem open_bytes {H : Type} {enc : TypeId × Value → H} {W : World} {base : Nat} {r : Reach} {v : Value} {d : DataW H} {ps : List MemPlace} (hv : Value.okWide Try.prog W r base 55 v)
    (h : DataW.Trod enc Try.prog W 0 (fun _ => true) true 55 v d ps) : ∃ L : List UInt8, SlB W v L := by
  obtain ⟨a0, n0, c0, rfl⟩ := okWide_slice Try.underlying55 hv
  obtain ⟨L, hL, _⟩ := Gen.SlR.open (R := ByteR) Try.underlying55 (show Try.prog.cellsOf 5 = 1 by kernel_rfl) (by decide) (fun cs hcs => cs_byte hcs) (Gen.Cs.of_trod rfl h)
  exact ⟨L, Gen.SlR.map (f := fun x : UInt8 => Value.int .u8 (x.toNat : Int)) hL⟩
theorem SlB.elem {w : World} {v : Value} {l : List UInt8} (h : SlB w v l) {k : Nat} (hk : k < l.length) : ∃ g o c, v = .slice (some ⟨g, o, none⟩) l.length c ∧ w.cell? ⟨g, o + k, none⟩ = some (.int .u8 (l[k].toNat : Int)) := by
  obtain ⟨_, a, c, rfl, _, _, _, h4⟩ := h
  obtain ⟨g, o, rfl, hc⟩ := h4 (by simp; omega)
  exact ⟨g, o, c, rfl, hc k _ (by simp [hk])⟩
end Go.Proofs.Ythhhciofcmmnfaa

namespace Go.Proofs.Ythhhciofcmmnfaa
open Go.RowKit

theorem mvP_some {G : Pt} {x y a s z : Int} (hx0 : x ≠ 0) (hy0 : y ≠ 0) (h : G z a s ≠ 0) : mvP G x y a s z a s ≠ 0 := by
  unfold mvP
  by_cases e : z = y
  · subst e; rw [updP_at]; exact hy0
  · rw [updP_ne _ _ _ _ _ e]
    by_cases e2 : z = x
    · subst e2; rw [updP_at]; exact hy0
    · rw [updP_ne _ _ _ _ _ e2]; exact h
/-- The machine that a byte of the tour names. -/
def toM (N : Int) (b : UInt8) : Int := 1 + (b.toNat : Int) % N
theorem toM_in {N : Int} (hN : 1 ≤ N) (b : UInt8) : 1 ≤ toM N b ∧ toM N b ≤ N := by
  have h1 := Int.emod_nonneg (b.toNat : Int) (show N ≠ 0 by omega)
  have h2 := Int.emod_lt_of_pos (b.toNat : Int) (show 0 < N by omega)
  unfold toM; omega
theorem toM_back {N m : Int} (hN : N ≤ 8) (h : 1 ≤ m ∧ m ≤ N) : toM N (UInt8.ofNat (m - 1).toNat) = m := by
  unfold toM
  have e : ((UInt8.ofNat (m - 1).toNat).toNat : Int) = m - 1 := by simp; omega
  rw [e, Int.emod_eq_of_lt (by omega) (by omega)]
  omega
set_option maxRecDepth 100000 in
set_option maxHeartbeats 4000000 in
theorem returns_w (w : World) (mc : Nat) (v0 v1 : Value) (a s : Int) (hmc : mc < 256) (l : List OpV) (tl : List UInt8) (hwa0 : W64 a) (hws0 : W64 s) (h : SOps w v0 l) (htl : SlB w v1 tl) :
    Calls Try.prog 9 #[.int .u8 mc, v0, v1, idV a s] w fun e w' => e = .returned (.bool true) ∧ Keeps [] w w' := by
  obtain ⟨ao, co, rfl, hlc, hcm, _⟩ := Gen.SlR.form h
  obtain ⟨M, hM⟩ : ∃ N, l.length = N := ⟨_, rfl⟩
  have hcap2 : tl.length ≤ maxLen := by obtain ⟨_, a, c, _, h2, h3, _⟩ := htl; omega
  obtain ⟨ao2, co2, rfl⟩ := htl.form
  obtain ⟨M2, hM2⟩ : ∃ N, tl.length = N := ⟨_, rfl⟩
  rw [hM] at hlc ⊢
  rw [hM2] at hcap2 ⊢
  have hMm : M ≤ 9223372036854775807 := by unfold maxLen at hcm; omega
  have hMm2 : M2 ≤ 9223372036854775807 := by unfold maxLen at hcap2; omega
  have hn : (mc : Int) % 8 < 8 ∧ 0 ≤ (mc : Int) % 8 := by omega
  have hkA : Keeps [] w (w.alloc (.cells #[.int .i64 a, .int .i64 s] 31)) := (Keeps.refl _ _).alloc _
  have hb0 := heap_alloc_new w (.cells #[.int .i64 a, .int .i64 s] 31)
  have hSA := h.keeps hkA
  rw [show Value.slice ao l.length co = .slice ao M co by rw [hM]] at hSA h
  rw [show Value.slice ao2 tl.length co2 = .slice ao2 M2 co2 by rw [hM2]] at htl
  replace hM := Lib.hid hM
  replace h := Lib.hid h
  replace hM2 := Lib.hid hM2
  replace htl := Lib.hid htl
  replace hSA := Lib.hid hSA
  replace hkA := Lib.hid hkA
  replace hb0 := Lib.hid hb0
  go_enter Try.func9, Try.ntmps9
  by_cases h40 : 20 < M ∨ 10 < M2
  · have hg : (decide (20 < (M : Int)) = true) ∨ (decide (20 < (M : Int)) = false ∧ decide (10 < (M2 : Int)) = true) := by
      rcases h40 with h | h
      · exact .inl (by simp; omega)
      · by_cases h' : 20 < M
        · exact .inl (by simp; omega)
        · exact .inr ⟨by simp; omega, by simp; omega⟩
    clear h40
    rcases hg with hg | ⟨hg, hg'⟩
    all_goals
      go_wp2_with fail
      refine (awake_c _).mono ?_
      rintro e w2 ⟨rfl, hk⟩
      go_wp2
      refine bodyPost_ret (v := .bool true) ?_ ?_ ?_
      · kernel_rfl
      · rfl
      · exact ⟨rfl, hkA.out.trans hk⟩
  · have hg : decide (20 < (M : Int)) = false := by simp; omega
    have hg' : decide (10 < (M2 : Int)) = false := by simp; omega
    go_wp2_with fail
    obtain ⟨N, hNe⟩ : ∃ N : Int, 1 + (mc : Int) % 8 = N := ⟨_, rfl⟩
    have hN : 1 ≤ N ∧ N ≤ 8 := by omega
    rw [hNe]
    refine (run_c _ N _ l hSA.out (by rw [hM.out]; omega)).mono ?_
    rintro e w1 (⟨hb, _⟩ | ⟨_, bw, bm, n, G, v, L, rfl, hR, hW, _, ⟨p, z, q, rfl⟩, hn2, _, hbw, hbm, hk1⟩)
    · exact absurd hN hb
    have hI := hR.rel.inv
    have hn80 : n ≤ 80 := by rw [hM.out] at hn2; omega
    have hM20 : M2 ≤ 10 := by omega
    have hkx : Keeps [] w1 (w1.alloc (refBox N (.slice p z q))) := (Keeps.refl _ _).alloc _
    have hkw := (hkA.out.trans hk1).trans hkx
    have hid1 := (hkx.block _ (lt_of_block ((hk1.block _ (lt_of_block hb0.out) (by simp)).trans hb0.out)) (by simp)).trans ((hk1.block _ (lt_of_block hb0.out) (by simp)).trans hb0.out)
    have hW1 := hW.keeps hkx
    have hwm : w.heap.size + 1 ≤ bm := by simp at hbm; omega
    obtain ⟨i0, i1⟩ := cells2 hid1
    replace hkw := Lib.hid hkw
    replace hid1 := Lib.hid hid1
    replace hW1 := Lib.hid hW1
    replace hI := Lib.hid hI
    replace hNe := Lib.hid hNe
    clear hk1 hR hbw hbm hn2 hkx hW h40 hSA hkA hb0
    go_wp2_with fail
    generalize w1.alloc (refBox N (.slice p z q)) = w2 at *
    refine (home_c w2 bw bm n N G a s hW1.out hN hwa0 hws0).mono ?_
    rintro e w3 ⟨m, b, rfl, hHo, hk3⟩
    have hkw3 := hkw.out.trans hk3
    have hid3 := (hk3.block _ (lt_of_block hid1.out) (by simp)).trans hid1.out
    have hW3 := hW1.out.keeps hk3
    obtain ⟨i0, i1⟩ := cells2 hid3
    replace hkw3 := Lib.hid hkw3
    replace hid3 := Lib.hid hid3
    replace hW3 := Lib.hid hW3
    replace hHo := Lib.hid hHo
    clear hk3 hkw hid1 hW1
    go_wp2_with fail
    refine (walks_c w3 bw bm n N G a s hW3.out hN hI.out).mono ?_
    rintro e w4 ⟨vb, lb, rfl, hk4, hB⟩
    have hkw4 := hkw3.out.trans hk4
    have hid4 := (hk4.block _ (lt_of_block hid3.out) (by simp)).trans hid3.out
    have hW4 := hW3.out.keeps hk4
    have hbm3 : bm < w3.heap.size := hW3.out.mp.lt
    have hbm4 : bm < w4.heap.size := hW4.mp.lt
    obtain ⟨i0, i1⟩ := cells2 hid4
    have htl4 := htl.out.keeps hkw4
    replace hkw4 := Lib.hid hkw4
    replace hid4 := Lib.hid hid4
    replace hW4 := Lib.hid hW4
    replace htl4 := Lib.hid htl4
    clear hk4 hkw3 hid3 hW3 htl h
    by_cases hgo : b = true ∧ okId a s = true
    · obtain ⟨hb, hyes⟩ := hgo
      obtain ⟨hKb, hlb, hwb⟩ : KZ w4 (w3.heap.size + 1) vb lb ∧ (lb.length : Int) = N ∧ WkL N G a s lb := by
        rcases hB with ⟨e', _⟩ | ⟨_, h⟩
        · rw [hyes] at e'; cases e'
        · exact h
      obtain ⟨hm1, hmN, hGm⟩ : 1 ≤ m ∧ m ≤ N ∧ G m a s = m := by
        rcases hHo.out with ⟨_, h1, h2, h3⟩ | ⟨e, _⟩
        · exact ⟨h1, h2, h3⟩
        · rw [hb] at e; cases e
      rw [hyes]
      replace hKb := Lib.hid hKb
      replace hwb := Lib.hid hwb
      replace hlb := Lib.hid hlb
      replace hGm := Lib.hid hGm
      replace hyes := Lib.hid hyes
      clear hB hHo
      have hka := (Keeps.refl [] w4).alloc (.cells #[] 5)
      have hBf := Lib.hid (Buf.fresh w4)
      have htl5 := Lib.hid (htl4.out.keeps hka)
      have hkw5 := Lib.hid (hkw4.out.trans hka)
      have hm8 : m ≤ 8 := by omega
      clear hka
      go_wp2_with (first | (at_builtin; (refine wpl_appB _ _ (.slice (some ⟨w4.heap.size, 0, none⟩) 0 0) [] rfl _ _ rfl rfl _ tl rfl hBf.out htl5.out (by rw [hM2.out]; simp; omega) (by simp) ?_; intro v5 w5 hB5 hG5; have hs5 : w4.heap.size ≤ w5.heap.size := Nat.le_trans (by simp) hG5.grown.size; replace hB5 := Lib.hid hB5; replace hG5 := Lib.hid hG5)) | (at_builtin; (refine wpl_pushB w5 w4.heap.size v5 tl (m - 1) rfl _ _ rfl rfl rfl hB5.out (UInt8.ofNat (m - 1).toNat) (by simp; omega) (by rw [hM2.out]; omega) hs5 ?_; intro v6 w6 hB6 hG6; obtain ⟨bb, hbb⟩ : ∃ bb, tl ++ [UInt8.ofNat (m - 1).toNat] = bb := ⟨_, rfl⟩; rw [hbb] at hB6; obtain ⟨a6, c6, rfl⟩ := hB6.form; obtain ⟨T, hT⟩ : ∃ T, bb.length = T := ⟨_, rfl⟩; rw [hT] at hB6 hG6 ⊢; replace hT := Lib.hid hT; replace hbb := Lib.hid hbb; replace hB6 := Lib.hid hB6; replace hG6 := Lib.hid hG6)))
      have hk46 : Keeps [] w4 w6 := Grw.keeps (Grw.keeps ((Keeps.refl [] w4).alloc _) hG5.out (ownBlock_ge hBf.out)) hG6.out (ownBlock_ge hB5.out)
      have hkw6 := hkw4.out.trans hk46
      have hid6 := (hk46.block _ (lt_of_block hid4.out) (by simp)).trans hid4.out
      have hW6 := hW4.out.keeps hk46
      have hKb6 := hKb.out.keep hk46 (by simp) hk46.ki0
      have hS6 := hB6.out.slB
      have hTM : T = M2 + 1 := by rw [← hT.out, ← hbb.out, List.length_append, hM2.out]; rfl
      have hgeK : ∀ b, vb.ownBlock = some b → b ≠ bm := fun b hb e => by have := hKb.out.ge _ hb; omega
      replace hkw6 := Lib.hid hkw6
      replace hid6 := Lib.hid hid6
      replace hW6 := Lib.hid hW6
      replace hKb6 := Lib.hid hKb6
      replace hS6 := Lib.hid hS6
      replace hgeK := Lib.hid hgeK
      have hT20 : T ≤ 20 := by omega
      replace hTM := Lib.hid hTM
      clear hB6 hG6 hB5 hG5 hBf htl5 hkw5 hk46 hKb htl4 i0 i1 hkw4 hid4 hW4
      go_loopw [80, 16] (fun iv av wr => ∃ (k nk : Nat) (hk : Int) (Gk : Pt), iv = .int .i64 k ∧ av = .int .i64 hk ∧ k ≤ T ∧ WM wr bw bm nk N Gk ∧ (∀ a s, Mg.Inv N (fun m => Gk m a s)) ∧ Gk hk a s = hk ∧ 1 ≤ hk ∧ hk ≤ N ∧ (∀ y, G y a s ≠ 0 → Gk y a s ≠ 0) ∧ nk ≤ n + 2 * k ∧ Keeps [bm] w6 wr ∧ (k = T → hk = m)) (fun iv _ _ => T - (intOf iv).toNat)
      case atStart => exact ⟨0, n, m, G, rfl, rfl, by omega, hW6.out, hI.out, hGm.out, hm1, hmN, fun _ h => h, by omega, Keeps.refl _ _, fun _ => rfl⟩
      case round =>
        obtain ⟨k, nk, hk, Gk, rfl, rfl, hkT, hWk, hIk, hGk, hk1, hkN, hmo, hnk, hkr, hlast⟩ := hrel
        have hidk := (hkr.block _ (lt_of_block hid6.out) (by simp; omega)).trans hid6.out
        obtain ⟨i0, i1⟩ := cells2 hidk
        have hkk : Keeps [] w wr := hkw6.out.fresh hkr (fun b hb => .inr (by simp at hb; omega))
        have hkb : KB w6 wr := hkr.kb (fun b hb o x => by simp at hb; subst hb; rw [hW6.out.mp.noCells]; simp)
        have hki : KI w6 wr := hkr.ki (fun b hb o x => by simp at hb; subst hb; rw [hW6.out.mp.noCells]; simp)
        replace hWk := Lib.hid hWk
        replace hIk := Lib.hid hIk
        replace hGk := Lib.hid hGk
        replace hmo := Lib.hid hmo
        replace hkk := Lib.hid hkk
        replace hidk := Lib.hid hidk
        by_cases hlt : k < T
        · obtain ⟨g, o, c', hv, hcl⟩ := (hS6.out.kb hkb).elem (k := k) (by rw [hT.out]; exact hlt)
          rw [hT.out] at hv
          cases hv
          obtain ⟨xb, hxb⟩ : ∃ xb, bb[k]'(by rw [hT.out]; exact hlt) = xb := ⟨_, rfl⟩
          rw [hxb] at hcl
          have hXr := toM_in hN.1 xb
          have hXl : k + 1 = T → toM N xb = m := fun e => by
            have hkm : k = tl.length := by have := hTM.out; have := hM2.out; omega
            have : xb = UInt8.ofNat (m - 1).toNat := by
              rw [← hxb]
              subst hkm
              have h1 : bb[tl.length]? = some (UInt8.ofNat (m - 1).toNat) := by rw [← hbb.out]; simp
              rw [List.getElem?_eq_getElem (by rw [hT.out]; exact hlt)] at h1
              simpa using h1
            rw [this]; exact toM_back hN.2 ⟨hm1, hmN⟩
          obtain ⟨y, hy⟩ : ∃ y : Nat, xb.toNat = y := ⟨_, rfl⟩
          have hy256 : y < 256 := by rw [← hy]; exact UInt8.toNat_lt xb
          unfold toM at hXr hXl
          rw [hy] at hcl hXr hXl
          obtain ⟨X, hX⟩ : ∃ X, 1 + (y : Int) % N = X := ⟨_, rfl⟩
          rw [hX] at hXr hXl
          have hmod : 0 ≤ (y : Int) % N ∧ (y : Int) % N < 8 := by omega
          have hN0 : (N == 0) = false := by simp; omega
          replace hXl := Lib.hid hXl
          clear hxb hy hki hkb
          go_wp2_with fail
          refine (move_c wr bw bm nk N Gk hk X a s hWk.out hN (by omega)).mono ?_
          rintro e w7 ⟨c, n', G', rfl, hmv, hW7, hn7, hk7⟩
          have hcc : c = 0 ∧ G' = mvP Gk hk X a s := by
            have hch : chkB N [hk, X] a s = true := by simp [chkB, hyes.out]; omega
            rcases hmv with ⟨e, _⟩ | ⟨_, ⟨e, _⟩ | ⟨_, e, _⟩ | ⟨_, e1, e2⟩⟩
            · rw [hch] at e; cases e
            · rw [hGk.out] at e; omega
            · exact absurd hGk.out e
            · exact ⟨e1, e2⟩
          obtain ⟨rfl, rfl⟩ := hcc
          have hk7r := hkr.trans hk7
          have hI7 := move_inv hIk.out hGk.out (show hk ≠ 0 by omega) hXr
          replace hk7r := Lib.hid hk7r
          replace hI7 := Lib.hid hI7
          replace hW7 := Lib.hid hW7
          clear hmv hk7 hkr hcl
          replace hX := Lib.hid hX
          go_wp2
          go_roundw
          case rel => exact ⟨k + 1, n', X, mvP Gk hk X a s, rfl, rfl, by omega, hW7.out, hI7.out, mvP_at _ _ _ _ _, hXr.1, hXr.2, fun y hy => mvP_some (by omega) (by omega) (hmo.out y hy), by omega, hk7r.out, hXl.out⟩
          case measure => simp [intOf]; omega
        · have hkT2 : k = T := by omega
          have hkm := hlast hkT2
          subst hkm
          subst hkT2
          have hKbk := hKb6.out.keep hkr (fun b hb e => hgeK.out _ e (by simpa using hb)) hki
          replace hKbk := Lib.hid hKbk
          clear hlast hkr hkb hki
          go_wp2_with fail
          refine (walks_c wr bw bm nk N Gk a s hWk.out hN hIk.out).mono ?_
          rintro e w8 ⟨va, la, rfl, hk8, hA⟩
          obtain ⟨hKa, hla, hwa⟩ : KZ w8 (wr.heap.size + 1) va la ∧ (la.length : Int) = N ∧ WkL N Gk a s la := by
            rcases hA with ⟨e, _⟩ | ⟨_, h⟩
            · rw [hyes.out] at e; cases e
            · exact h
          rw [hyes.out]
          have hKb8 := hKbk.out.keep hk8 (by simp) hk8.ki0
          have hkw8 := hkk.out.trans hk8
          have hid8 := (hk8.block _ (lt_of_block hidk.out) (by simp)).trans hidk.out
          have hW8 := hWk.out.keeps hk8
          obtain ⟨i0, i1⟩ := cells2 hid8
          replace hKa := Lib.hid hKa
          replace hKb8 := Lib.hid hKb8
          replace hkw8 := Lib.hid hkw8
          replace hid8 := Lib.hid hid8
          replace hW8 := Lib.hid hW8
          replace hwa := Lib.hid hwa
          replace hla := Lib.hid hla
          clear hA hk8 hKbk hKb6
          go_wp2_with fail
          refine (home_c w8 bw bm nk N Gk a s hW8.out hN hwa0 hws0).mono ?_
          rintro e w9 ⟨m9, b9, rfl, hHo, hk9⟩
          have hm9 : m9 = hk := by
            rcases hHo with ⟨_, h1, h2, h3⟩ | ⟨_, _, h3⟩
            · exact (hIk.out a s).one _ _ h3 (by omega) hGk.out (by omega)
            · exact absurd hGk.out (h3 hk hk1 hkN)
          subst hm9
          replace hKb8 := hKb8.out.keep hk9 (by simp) hk9.ki0
          replace hKa := hKa.out.keep hk9 (by simp) hk9.ki0
          have hkw9 := hkw8.out.trans hk9
          obtain ⟨aa, ca, rfl⟩ := hKa.form
          obtain ⟨ab, cb, rfl⟩ := hKb8.form
          obtain ⟨K, hKe⟩ : ∃ K, lb.length = K := ⟨_, rfl⟩
          have hKa' : la.length = K := by have := hla.out; have := hlb.out; omega
          have hK8 : K ≤ 8 := by have := hlb.out; omega
          have hKN : (K : Int) = N := by rw [← hKe]; exact hlb.out
          rw [hKa'] at hKa ⊢
          rw [hKe] at hKb8 ⊢
          replace hKb8 := Lib.hid hKb8
          replace hKa := Lib.hid hKa
          replace hkw9 := Lib.hid hkw9
          replace hKe := Lib.hid hKe
          replace hKa' := Lib.hid hKa'
          replace hKN := Lib.hid hKN
          clear hk9 hHo i0 i1
          go_wp2
          go_loopw [23] (fun iv wr => ∃ j : Nat, iv = .int .i64 j ∧ j ≤ K ∧ Keeps [] w9 wr) (fun iv _ => K - (intOf iv).toNat)
          case atStart => exact ⟨0, rfl, by omega, Keeps.refl _ _⟩
          case round =>
            obtain ⟨j, rfl, hj, hks⟩ := hrel
            by_cases hjl : j < K
            · have hxa : j < la.length := by rw [hKa'.out]; exact hjl
              have hxb : j < lb.length := by rw [hKe.out]; exact hjl
              obtain ⟨ga, ca', sa, za, hva, hca, hSa⟩ := (hKa.out.keep hks (by simp) hks.ki0).elem hxa
              obtain ⟨gb, cb', sb, zb, hvb, hcb, hSb⟩ := (hKb8.out.keep hks (by simp) hks.ki0).elem hxb
              rw [hKa'.out] at hva
              rw [hKe.out] at hvb
              cases hva
              cases hvb
              obtain ⟨c1, hw1⟩ := hwb.out j hxb
              obtain ⟨c2, hw2⟩ := hwa.out j hxa
              have hb1 : chkB N [(j : Int) + 1] a s = true := by rw [chkB_ok ⟨by omega, by have := hKN.out; omega⟩]; exact hyes.out
              have himp : lb[j] ≠ [] → la[j] ≠ [] := fun h1 h2 => by
                have e2 := (hw2.nil_iff hb1).1.1 h2
                exact hmo.out _ (fun e => h1 ((hw1.nil_iff hb1).1.2 e)) e2
              obtain ⟨ln, hln⟩ : ∃ n, la[j].length = n := ⟨_, rfl⟩
              obtain ⟨lm, hlm⟩ : ∃ n, lb[j].length = n := ⟨_, rfl⟩
              have hz : lm = 0 ∨ (0 < lm ∧ 0 < ln) := by
                rcases Nat.eq_zero_or_pos lm with e | e
                · exact .inl e
                · exact .inr ⟨e, by rw [← hln]; exact List.length_pos_iff.2 (himp (List.length_pos_iff.1 (by rw [hlm]; exact e)))⟩
              rw [hln] at hca
              rw [hlm] at hcb
              replace hks := Lib.hid hks
              clear hw1 hw2 hSa hSb hln hlm himp hb1
              rcases hz with rfl | ⟨hz1, hz2⟩
              · go_wp2
                go_roundw
                case rel => exact ⟨j + 1, rfl, by omega, hks.out⟩
                case measure => simp [intOf]; omega
              · have hz3 : ((ln : Int) == 0) = false := by simp; omega
                have hz4 : (0 : Int) < lm := by omega
                go_wp2
                go_roundw
                case rel => exact ⟨j + 1, rfl, by omega, hks.out⟩
                case measure => simp [intOf]; omega
            · have hjK : j = K := by omega
              subst hjK
              replace hks := Lib.hid hks
              go_wp2_with fail
              refine (awake_c _).mono ?_
              rintro e w8 ⟨rfl, hk8⟩
              go_wp2
              refine bodyPost_ret (v := .bool true) ?_ ?_ ?_
              · kernel_rfl
              · rfl
              · exact ⟨rfl, (hkw9.out.trans hks.out).trans hk8⟩
    · have hg2 : b = false ∨ (b = true ∧ okId a s = false) := by
        cases b
        · exact .inl rfl
        · exact .inr ⟨rfl, by simpa using hgo⟩
      clear hgo hB
      rcases hg2 with hb | ⟨hb, hno⟩
      · go_wp2_with fail
        refine (awake_c _).mono ?_
        rintro e w8 ⟨rfl, hk8⟩
        go_wp2
        refine bodyPost_ret (v := .bool true) ?_ ?_ ?_
        · kernel_rfl
        · rfl
        · exact ⟨rfl, hkw4.out.trans hk8⟩
      · rw [hno]
        go_wp2_with fail
        refine (awake_c _).mono ?_
        rintro e w8 ⟨rfl, hk8⟩
        go_wp2
        refine bodyPost_ret (v := .bool true) ?_ ?_ ?_
        · kernel_rfl
        · rfl
        · exact ⟨rfl, hkw4.out.trans hk8⟩
end Go.Proofs.Ythhhciofcmmnfaa
