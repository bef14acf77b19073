/- The closure that reads a number, where it succeeds. -/
import Derived.Test.YtilmcdieihmiaaaUint
namespace Go.Proofs.Ytilmcdieihmiaaa
open Go.RowKit

theorem set2_0 {w : World} {b : Nat} {u v : Value} {t : TypeId} (h : w.heap[b]? = some (.cells #[u, v] t (0, 0))) (u' : Value) : (w.setCell ⟨b, 0, none⟩ u').heap[b]? = some (.cells #[u', v] t (0, 0)) := by
  obtain ⟨hlt, hk⟩ := Array.getElem?_eq_some_iff.1 h
  simp [World.setCell, Array.getElem?_modify, h]
theorem set2_1 {w : World} {b : Nat} {u v : Value} {t : TypeId} (h : w.heap[b]? = some (.cells #[u, v] t (0, 0))) (v' : Value) : (w.setCell ⟨b, 1, none⟩ v').heap[b]? = some (.cells #[u, v'] t (0, 0)) := by
  obtain ⟨hlt, hk⟩ := Array.getElem?_eq_some_iff.1 h
  simp [World.setCell, Array.getElem?_modify, h]
/-- One byte more, as the machine reckons it. -/
theorem or_byte (x y : Nat) (hx : (x : Int) < 72057594037927936) (hy : (y : Int) ≤ 255) : bits .or .u64 ((x : Int) * 256) (y : Int) = ((x * 256 + y : Nat) : Int) := by
  have h := u64_or_nat (x * 256) y (by omega) (by omega)
  have h2 : x * 256 + y = x * 256 ||| y := by
    have := Nat.shiftLeft_add_eq_or_of_lt (i := 8) (b := y) (by omega) x
    simpa [Nat.shiftLeft_eq] using this
  rw [h2, ← h]; simp

theorem rd_nobyte {w : World} {br : Nat} {v : Value} {l : List UInt8} {e : Int} (h : Rd w br v l e) : ∀ o x, w.cell? ⟨br, o, none⟩ ≠ some (.int .u8 x) := by
  obtain ⟨a, c, rfl⟩ := h.2.form
  exact no_byte h.1 (by simp)
theorem rd_tail (w wr : World) (br b2 g o N cp : Nat) (k : UInt8) (t : List UInt8) (j : Nat) (h : Rd w br (.slice (some ⟨g, o, none⟩) (t.length + 1) cp) (k :: t) 0) (hk : Keeps [b2] w wr)
    (hb : wr.heap[b2]? = some (.cells #[.int .u64 (valU (t.take j))] 83 (0, 0))) (hb0 : w.heap[b2]? = some (.cells #[.int .u64 0] 83 (0, 0))) (hN : t.length = N) (hj : j ≤ N) (hbr : br ≠ b2) :
    (wr.setCell ⟨br, 0, none⟩ (.slice (if cp = 1 + j then some ⟨g, o, none⟩ else some ⟨g, o + (1 + j), none⟩) (N + 1 - (1 + j)) (cp - (1 + j)))).drew.heap[b2]? = some (.cells #[.int .u64 (valU (t.take j))] 83 (0, 0)) ∧
    (∃ v', Rd (wr.setCell ⟨br, 0, none⟩ (.slice (if cp = 1 + j then some ⟨g, o, none⟩ else some ⟨g, o + (1 + j), none⟩) (N + 1 - (1 + j)) (cp - (1 + j)))).drew br v' (t.drop j) 0) ∧
    Keeps [br, b2] w (wr.setCell ⟨br, 0, none⟩ (.slice (if cp = 1 + j then some ⟨g, o, none⟩ else some ⟨g, o + (1 + j), none⟩) (N + 1 - (1 + j)) (cp - (1 + j)))).drew := by
  subst hN
  obtain ⟨q0, _, _, _, hlt⟩ := cell2_of h.1
  have hbr' := (hk.block br hlt (by simp; omega)).trans h.1
  have htl := SlB.tail h.2 (1 + j) (by simp; omega)
  have hk2 : Keeps [br, b2] w wr := hk.mono (fun x hx => by simp at hx; simp [hx])
  have hkb : KB w wr := hk.kb (by intro b hb; simp at hb; subst hb; exact no_byte hb0 (by simp))
  refine ⟨?_, ⟨_, ⟨set2_0 hbr' _, ?_⟩⟩, (hk2.setCell (.inr (by simp)) _).drew⟩
  · exact (Below.heap_setCell _ _ _ _ (by simp; omega)).trans hb
  · simp only [List.length_cons, Nat.add_comm 1 j, List.drop_succ_cons] at htl ⊢
    exact htl.kb (hkb.trans ((KB.setCell wr _ (cell2_of hbr').1 (by simp)).trans (KB.drew _)))

set_option maxRecDepth 100000 in
set_option maxHeartbeats 2000000 in
theorem uint1_ok (w : World) (br b1 b2 : Nat) (v : Value) (l rest : List UInt8) (x : Nat) (h : Rd w br v l 0) (h1 : w.cell? ⟨b1, 0, none⟩ = some (.pointer (some ⟨br, 0, none⟩))) (h2 : w.heap[b2]? = some (.cells #[.int .u64 0] 83 (0, 0)))
    (hne : b1 ≠ b2 ∧ br ≠ b2) (hr : readU l = some (x, rest)) :
    Calls Try.prog 66 #[.pointer (some ⟨b1, 0, none⟩), .pointer (some ⟨b2, 0, none⟩)] w fun en w' => en = .returned (.int .i64 0) ∧ w'.heap[b2]? = some (.cells #[.int .u64 x] 83 (0, 0)) ∧ (∃ v', Rd w' br v' rest 0) ∧ Keeps [br, b2] w w' := by
  obtain ⟨c0, c1, f0, f1, hlt⟩ := cell2_of h.1
  obtain ⟨e0, fe0, hlt2⟩ := cell1_of h2
  rcases h.2.cases with ⟨rfl, a, cp, rfl, _, _⟩ | ⟨g, o, cp, rfl, hn, hm, hp, hg, hc⟩
  · cases hr
  · obtain ⟨k, t, rfl⟩ : ∃ k t, l = k :: t := by cases l with | nil => simp at hp | cons k t => exact ⟨k, t, rfl⟩
    have k0 := hc 0 (by simp)
    have hgb : g ≠ b2 := fun e => by subst e; exact no_byte h2 (by simp) _ _ k0
    have k1 : 0 < t.length → w.cell? ⟨g, o + 1, none⟩ = some (.int .u8 ((t.headD 1).toNat : Int)) := fun ht => by
      have := hc 1 (by simp; omega)
      rw [this]; cases t with | nil => simp at ht | cons a b => rfl
    have kj : ∀ j (hj : j < t.length), w.cell? ⟨g, o + 1 + j, none⟩ = some (.int .u8 (t[j].toNat : Int)) := fun j hj => by
      have := hc (j + 1) (by simp; omega)
      rw [show o + 1 + j = o + (j + 1) by omega, this]; rfl
    simp only [Nat.add_zero, List.getElem_cons_zero] at k0
    clear hc hp
    have hcond : k.toNat ≤ 8 ∧ k.toNat ≤ t.length ∧ (0 < k.toNat → t.headD 1 ≠ 0) := by
      rcases Classical.em (k.toNat ≤ 8 ∧ k.toNat ≤ t.length ∧ (0 < k.toNat → t.headD 1 ≠ 0)) with e | e
      · exact e
      · rw [readU, if_neg e] at hr; cases hr
    rw [readU, if_pos hcond] at hr
    simp only [Option.some.injEq, Prod.mk.injEq] at hr
    obtain ⟨h8, hN, ht0⟩ := hcond
    obtain ⟨hx, hrest⟩ := hr
    have hk : k.toNat ≤ 255 := by have := k.toNat_lt; omega
    have hh := Lib.hid h
    have hh2 := Lib.hid h2
    replace hx := Lib.hid hx
    replace hrest := Lib.hid hrest
    replace kj := Lib.hid kj
    clear h h2
    simp only [List.length_cons] at *
    obtain ⟨t0, htt0⟩ : ∃ t0, t.headD 1 = t0 := ⟨_, rfl⟩
    rw [htt0] at k1 ht0
    clear htt0
    obtain ⟨kk, hkk⟩ : ∃ kk, k.toNat = kk := ⟨_, rfl⟩
    rw [hkk] at k0 h8 hN ht0 hk hx hrest
    clear hkk
    obtain ⟨N, hNt⟩ : ∃ N, t.length = N := ⟨_, rfl⟩
    rw [hNt] at hN k1 hn c0
    replace hNt := Lib.hid hNt
    have hNN : (N : Int) + 1 ≤ 9223372036854775807 := by unfold maxLen at hm; omega
    have d8 : decide ((8 : Int) < (kk : Int)) = false := by simp; omega
    have nz : ((N : Int) + 1 == 0) = false := by simp; omega
    have wk : IntKind.i64.wrap (kk : Int) = kk := IntWalk.i64_in _ (by omega)
    have dN : decide ((N : Int) + 1 ≤ (kk : Int)) = false := by simp; omega
    have hfacts : (∃ _ : (0 : Int) < (kk : Int), 0 < kk ∧ w.cell? ⟨g, o + 1, none⟩ = some (.int .u8 (t0.toNat : Int)) ∧ ((t0.toNat : Int) == 0) = false) ∨ (decide ((0 : Int) < (kk : Int)) = false ∧ decide (0 < kk) = false) := by
      by_cases hk0 : 0 < kk
      · refine .inl ⟨by omega, hk0, k1 (by omega), ?_⟩
        have := ht0 hk0
        have h9 : t0.toNat ≠ 0 := fun e => this (UInt8.toNat_inj.1 (by simpa using e))
        simp; omega
      · exact .inr ⟨by simp; omega, by simp; omega⟩
    clear ht0 k1
    have hcp : 1 < cp ∨ (cp = 1 ∧ N = 0 ∧ kk = 0) := by omega
    rcases hcp with hcp | ⟨hcp1, hcp2, hcp3⟩
    · rcases hfacts with ⟨dk, hk0, k1', t0n⟩ | ⟨dk, dk2⟩
      all_goals
        go_enter Try.func66, Try.ntmps66
        go_wp2
        (refine wp_region_quiet_lit (by kernel_rfl) (by kernel_rfl) ?_; (repeat (first | go_big_quiet_step (fail) | quiet_step (fail))); with_reducible refine wpQuiet_nil ?_; intro _ hw'; obtain ⟨nq, hw''⟩ := hw'; subst hw'')
        go_wp2
        go_loopw [5, 69] (fun _ i wr => ∃ j : Nat, j ≤ kk ∧ i = .int .i64 j ∧ wr.heap[b2]? = some (.cells #[.int .u64 (valU (t.take j))] 83 (0, 0)) ∧ Keeps [b2] w wr) (fun _ i _ => kk - (intOf i).toNat)
        case atStart => exact ⟨0, by omega, rfl, hh2.out, (Keeps.refl _ w).drewN _⟩
        case round =>
          obtain ⟨j, hj, rfl, hb2, hkw⟩ := hrel
          obtain ⟨eb, fb, lb⟩ := cell1_of hb2
          have q0 := (hkw.cell br 0 hlt (by simp; omega)).trans c0
          have q1 := (hkw.frozen br 0 hlt (by simp; omega)).trans f0
          have q2 := (hkw.cell b1 0 (lt_of_cell h1) (by simp; omega)).trans h1
          have hvl := valU_lt j (t.take j) (by rw [List.length_take]; have := hNt.out; omega)
          by_cases hlt3 : j < kk
          · have hjt : j < t.length := by have := hNt.out; omega
            have hcj := (hkw.cell g (o + 1 + j) hg (by simp; omega)).trans (kj.out j hjt)
            have hb8 : (t[j].toNat : Int) ≤ 255 := by have := t[j].toNat_lt; omega
            have hstep : Hid (valU (t.take (j + 1)) = valU (t.take j) * 256 + t[j].toNat) := by show _ = _; rw [List.take_succ_eq_append_getElem hjt, valU_snoc]
            have hvb : (valU (t.take j) : Int) < 72057594037927936 := by
              have : (256 : Nat) ^ j ≤ 256 ^ 7 := Nat.pow_le_pow_right (by omega) (by omega)
              omega
            clear hvl
            generalize t[j].toNat = y at *
            generalize hvv : valU (t.take j) = vv at *
            replace hb2 := Lib.hid hb2
            replace hkw := Lib.hid hkw
            replace hvv := Lib.hid hvv
            go_wp2
            go_roundw
            case rel => exact ⟨j + 1, by omega, by go_num, by rw [or_byte _ _ hvb hb8, hstep.out]; exact one_setCell hb2.out, hkw.out.setCell (.inr (by simp)) _⟩
            case measure => simp [intOf]; omega
          · have hjk : j = kk := by omega
            subst hjk
            replace hb2 := Lib.hid hb2
            replace hkw := Lib.hid hkw
            clear hvl
            go_wp2
            go_region
            have hfin := rd_tail w wr br b2 g o N cp k t j hh.out hkw.out hb2.out hh2.out hNt.out hN (by omega)
            rw [hx.out, hrest.out] at hfin
            generalize hW : (wr.setCell ⟨br, 0, none⟩ (.slice (if cp = 1 + j then some ⟨g, o, none⟩ else some ⟨g, o + (1 + j), none⟩) (N + 1 - (1 + j)) (cp - (1 + j)))).drew = W at *
            replace hfin := Lib.hid hfin
            clear hW
            (repeat go_step)
            go_ret
            exact ⟨rfl, hfin.out⟩
    · clear hfacts
      subst hcp1 hcp2 hcp3
      have k0' : w.cell? ⟨g, o, none⟩ = some (.int .u8 0) := by simpa using k0
      simp only [Nat.zero_add] at c0
      have c0' : w.cell? ⟨br, 0, none⟩ = some (.slice (some ⟨g, o, none⟩) 1 1) := c0
      clear hk h8 k0 d8 dN wk c0 nz hm hn hN hNN
      go_enter Try.func66, Try.ntmps66
      go_wp2
      (refine wp_region_quiet_lit (by kernel_rfl) (by kernel_rfl) ?_; (repeat (first | go_big_quiet_step (fail) | quiet_step (fail))); with_reducible refine wpQuiet_nil ?_; intro _ hw'; obtain ⟨nq, hw''⟩ := hw'; subst hw'')
      go_wp2
      go_loopw [5, 69] (fun _ i wr => i = .int .i64 0 ∧ ∃ n, wr = w.drewN n) (fun _ i _ => 0)
      case atStart => exact ⟨rfl, _, rfl⟩
      case round =>
        obtain ⟨rfl, n, rfl⟩ := hrel
        have hkw : Keeps [b2] w (w.drewN n) := (Keeps.refl _ w).drewN n
        have hfin := rd_tail w (w.drewN n) br b2 g o 0 1 k t 0 hh.out hkw (by simpa [valU] using hh2.out) hh2.out hNt.out (by omega) hne.2
        rw [hx.out, hrest.out] at hfin
        simp only [Nat.add_zero, if_true, Nat.zero_add, Nat.sub_self] at hfin
        clear hkw
        replace hfin := Lib.hid hfin
        go_wp2
        go_region
        (repeat go_step)
        go_ret
        exact ⟨rfl, hfin.out⟩
end Go.Proofs.Ytilmcdieihmiaaa
