/- Texts that the laws lean on, in the order in which they build. wire's reader of numbers, and the reference's: the rest lies where the bytes lay. (For the codec of the channel.) wire's reader in whatever state: Uint. (For the codec of the channel.) wire's reader: Count. (For the codec of the channel.) wire's reader: String. (For the codec of the channel.) A payload is read. (For the codec of the channel.) DERIVED: THE SHELF's CONTRACTS AT THIS DUMP, IN PLAIN WORDS (tools/lay-plain.mjs out of 'YtilmcdieihmiaaaIterSrc18.lean', which tools/lay-shelf.mjs wrote): THE SAME DECLARATIONS UNDER THE SAME NAMES: 'import', 'namespace', 'open', 'def', 'theorem' AND NOTHING ELSE: no command of the shelf's: FOR A HAND-IN. Each laying: the table of numbers ('.._ren') and one theorem, a field a fact of the dump's own or the kernel's comparison; each contract: ONE APPLICATION. A string at the end of a buffer: slices.Grow, copy; wire.AppendString. A range over a function that hands out some values, one after the other, from a body that never leaves early; slices.Chunk. A payload at the end of a buffer: channel.appendPayload. The bytes of an end. (Plain.) -/
import Derived.Test.YtilmcdieihmiaaaK9
import Derived.Test.YtilmcdieihmiaaaProg
import Derived.Lib.AppendStr
import Derived.Shelf.SlIterI.Sorted
import Derived.Shelf.SlIterI.Collect
import Derived.Shelf.SlIterI.Keys
import Derived.Shelf.SortM.Plain
import Derived.Shelf.SortM.SortNone
import Derived.Shelf.Spec.SlicesGrow
import Derived.Ground.GgzProg
import Derived.Ground.SlgmProg
import Derived.Ground.Names8Prog
import Derived.Lib.BufferWrite
import Derived.RangeFuncNested
import Derived.RangeFuncBound
import Derived.RangeFuncCalls
import Derived.RangeFuncLeaves
import Derived.OwnWalkIn
import Derived.TacticsInMore
import Derived.LoopNIn
import Derived.LoopIn
set_option linter.unusedVariables false
set_option linter.unusedSimpArgs false
namespace Go.Proofs.Ytilmcdieihmiaaa
open Go.RowKit

theorem rd_tailO (w wr : World) (br b2 g o N cp : Nat) (k : UInt8) (t : List UInt8) (j : Nat) (h : Rd w br (.slice (some ⟨g, o, none⟩) (t.length + 1) cp) (k :: t) 0) (hk : Keeps [b2] w wr)
    (hb : wr.heap[b2]? = some (.cells #[.int .u64 (valU (t.take j))] 83 (0, 0))) (hb0 : w.heap[b2]? = some (.cells #[.int .u64 0] 83 (0, 0))) (hN : t.length = N) (hj : j ≤ N) (hbr : br ≠ b2) :
    (wr.setCell ⟨br, 0, none⟩ (.slice (if cp = 1 + j then some ⟨g, o, none⟩ else some ⟨g, o + (1 + j), none⟩) (N + 1 - (1 + j)) (cp - (1 + j)))).drew.heap[b2]? = some (.cells #[.int .u64 (valU (t.take j))] 83 (0, 0)) ∧
    (∃ v', Rd (wr.setCell ⟨br, 0, none⟩ (.slice (if cp = 1 + j then some ⟨g, o, none⟩ else some ⟨g, o + (1 + j), none⟩) (N + 1 - (1 + j)) (cp - (1 + j)))).drew br v' (t.drop j) 0 ∧ ∀ b, v'.ownBlock = some b → some g = some b) ∧
    Keeps [br, b2] w (wr.setCell ⟨br, 0, none⟩ (.slice (if cp = 1 + j then some ⟨g, o, none⟩ else some ⟨g, o + (1 + j), none⟩) (N + 1 - (1 + j)) (cp - (1 + j)))).drew := by
  subst hN
  obtain ⟨q0, _, _, _, hlt⟩ := cell2_of h.1
  have hbr' := (hk.block br hlt (by simp; omega)).trans h.1
  have htl := SlB.tail h.2 (1 + j) (by simp; omega)
  have hk2 : Keeps [br, b2] w wr := hk.mono (fun x hx => by simp at hx; simp [hx])
  have hkb : KB w wr := hk.kb (by intro b hb; simp at hb; subst hb; exact no_byte hb0 (by simp))
  refine ⟨?_, ⟨_, ⟨set2_0 hbr' _, ?_⟩, fun b hb => by revert hb; split <;> exact id⟩, (hk2.setCell (.inr (by simp)) _).drew⟩
  · exact (Below.heap_setCell _ _ _ _ (by simp; omega)).trans hb
  · simp only [List.length_cons, Nat.add_comm 1 j, List.drop_succ_cons] at htl ⊢
    exact htl.kb (hkb.trans ((KB.setCell wr _ (cell2_of hbr').1 (by simp)).trans (KB.drew _)))

set_option maxRecDepth 100000 in
set_option maxHeartbeats 2000000 in
theorem uint1_okO (w : World) (br b1 b2 : Nat) (v : Value) (l rest : List UInt8) (x : Nat) (h : Rd w br v l 0) (h1 : w.cell? ⟨b1, 0, none⟩ = some (.pointer (some ⟨br, 0, none⟩))) (h2 : w.heap[b2]? = some (.cells #[.int .u64 0] 83 (0, 0)))
    (hne : b1 ≠ b2 ∧ br ≠ b2) (hr : readU l = some (x, rest)) :
    Calls Try.prog 66 #[.pointer (some ⟨b1, 0, none⟩), .pointer (some ⟨b2, 0, none⟩)] w fun en w' => en = .returned (.int .i64 0) ∧ w'.heap[b2]? = some (.cells #[.int .u64 x] 83 (0, 0)) ∧ (∃ v', Rd w' br v' rest 0 ∧ ∀ b, v'.ownBlock = some b → v.ownBlock = some b) ∧ Keeps [br, b2] w w' := by
  obtain ⟨c0, c1, f0, f1, hlt⟩ := cell2_of h.1
  obtain ⟨e0, fe0, hlt2⟩ := cell1_of h2
  rcases h.2.cases with ⟨rfl, a, cp, rfl, _, _⟩ | ⟨g, o, cp, rfl, hn, hm, hp, hg, hc⟩
  · cases hr
  · obtain ⟨k, t, rfl⟩ : ∃ k t, l = k :: t := by cases l with | nil => simp at hp | cons k t => exact ⟨k, t, rfl⟩
    have k0 := hc 0 (by simp)
    have hgb : g ≠ b2 := fun e => by subst e; exact no_byte h2 (by simp) _ _ k0
    have k1 : 0 < t.length → w.cell? ⟨g, o + 1, none⟩ = some (.int .u8 ((t.headD 1).toNat : Int)) := fun ht => by
      have := hc 1 (by simp; omega)
      rw [this]; cases t with | nil => simp at ht | cons a b => rfl
    have kj : ∀ j (hj : j < t.length), w.cell? ⟨g, o + 1 + j, none⟩ = some (.int .u8 (t[j].toNat : Int)) := fun j hj => by
      have := hc (j + 1) (by simp; omega)
      rw [show o + 1 + j = o + (j + 1) by omega, this]; rfl
    simp only [Nat.add_zero, List.getElem_cons_zero] at k0
    clear hc hp
    have hcond : k.toNat ≤ 8 ∧ k.toNat ≤ t.length ∧ (0 < k.toNat → t.headD 1 ≠ 0) := by
      rcases Classical.em (k.toNat ≤ 8 ∧ k.toNat ≤ t.length ∧ (0 < k.toNat → t.headD 1 ≠ 0)) with e | e
      · exact e
      · rw [readU, if_neg e] at hr; cases hr
    rw [readU, if_pos hcond] at hr
    simp only [Option.some.injEq, Prod.mk.injEq] at hr
    obtain ⟨h8, hN, ht0⟩ := hcond
    obtain ⟨hx, hrest⟩ := hr
    have hk : k.toNat ≤ 255 := by have := k.toNat_lt; omega
    have hh := Lib.hid h
    have hh2 := Lib.hid h2
    replace hx := Lib.hid hx
    replace hrest := Lib.hid hrest
    replace kj := Lib.hid kj
    clear h h2
    simp only [List.length_cons] at *
    obtain ⟨t0, htt0⟩ : ∃ t0, t.headD 1 = t0 := ⟨_, rfl⟩
    rw [htt0] at k1 ht0
    clear htt0
    obtain ⟨kk, hkk⟩ : ∃ kk, k.toNat = kk := ⟨_, rfl⟩
    rw [hkk] at k0 h8 hN ht0 hk hx hrest
    clear hkk
    obtain ⟨N, hNt⟩ : ∃ N, t.length = N := ⟨_, rfl⟩
    rw [hNt] at hN k1 hn c0
    replace hNt := Lib.hid hNt
    have hNN : (N : Int) + 1 ≤ 9223372036854775807 := by unfold maxLen at hm; omega
    have d8 : decide ((8 : Int) < (kk : Int)) = false := by simp; omega
    have nz : ((N : Int) + 1 == 0) = false := by simp; omega
    have wk : IntKind.i64.wrap (kk : Int) = kk := IntWalk.i64_in _ (by omega)
    have dN : decide ((N : Int) + 1 ≤ (kk : Int)) = false := by simp; omega
    have hfacts : (∃ _ : (0 : Int) < (kk : Int), 0 < kk ∧ w.cell? ⟨g, o + 1, none⟩ = some (.int .u8 (t0.toNat : Int)) ∧ ((t0.toNat : Int) == 0) = false) ∨ (decide ((0 : Int) < (kk : Int)) = false ∧ decide (0 < kk) = false) := by
      by_cases hk0 : 0 < kk
      · refine .inl ⟨by omega, hk0, k1 (by omega), ?_⟩
        have := ht0 hk0
        have h9 : t0.toNat ≠ 0 := fun e => this (UInt8.toNat_inj.1 (by simpa using e))
        simp; omega
      · exact .inr ⟨by simp; omega, by simp; omega⟩
    clear ht0 k1
    have hcp : 1 < cp ∨ (cp = 1 ∧ N = 0 ∧ kk = 0) := by omega
    rcases hcp with hcp | ⟨hcp1, hcp2, hcp3⟩
    · rcases hfacts with ⟨dk, hk0, k1', t0n⟩ | ⟨dk, dk2⟩
      all_goals
        go_enter Try.func66, Try.ntmps66
        go_wp2
        (refine wp_region_quiet_lit (by kernel_rfl) (by kernel_rfl) ?_; (repeat (first | go_big_quiet_step (fail) | quiet_step (fail))); with_reducible refine wpQuiet_nil ?_; intro _ hw'; obtain ⟨nq, hw''⟩ := hw'; subst hw'')
        go_wp2
        go_loopw [5, 69] (fun _ i wr => ∃ j : Nat, j ≤ kk ∧ i = .int .i64 j ∧ wr.heap[b2]? = some (.cells #[.int .u64 (valU (t.take j))] 83 (0, 0)) ∧ Keeps [b2] w wr) (fun _ i _ => kk - (intOf i).toNat)
        case atStart => exact ⟨0, by omega, rfl, hh2.out, (Keeps.refl _ w).drewN _⟩
        case round =>
          obtain ⟨j, hj, rfl, hb2, hkw⟩ := hrel
          obtain ⟨eb, fb, lb⟩ := cell1_of hb2
          have q0 := (hkw.cell br 0 hlt (by simp; omega)).trans c0
          have q1 := (hkw.frozen br 0 hlt (by simp; omega)).trans f0
          have q2 := (hkw.cell b1 0 (lt_of_cell h1) (by simp; omega)).trans h1
          have hvl := valU_lt j (t.take j) (by rw [List.length_take]; have := hNt.out; omega)
          by_cases hlt3 : j < kk
          · have hjt : j < t.length := by have := hNt.out; omega
            have hcj := (hkw.cell g (o + 1 + j) hg (by simp; omega)).trans (kj.out j hjt)
            have hb8 : (t[j].toNat : Int) ≤ 255 := by have := t[j].toNat_lt; omega
            have hstep : Hid (valU (t.take (j + 1)) = valU (t.take j) * 256 + t[j].toNat) := by show _ = _; rw [List.take_succ_eq_append_getElem hjt, valU_snoc]
            have hvb : (valU (t.take j) : Int) < 72057594037927936 := by
              have : (256 : Nat) ^ j ≤ 256 ^ 7 := Nat.pow_le_pow_right (by omega) (by omega)
              omega
            clear hvl
            generalize t[j].toNat = y at *
            generalize hvv : valU (t.take j) = vv at *
            replace hb2 := Lib.hid hb2
            replace hkw := Lib.hid hkw
            replace hvv := Lib.hid hvv
            go_wp2
            go_roundw
            case rel => exact ⟨j + 1, by omega, by go_num, by rw [or_byte _ _ hvb hb8, hstep.out]; exact one_setCell hb2.out, hkw.out.setCell (.inr (by simp)) _⟩
            case measure => simp [intOf]; omega
          · have hjk : j = kk := by omega
            subst hjk
            replace hb2 := Lib.hid hb2
            replace hkw := Lib.hid hkw
            clear hvl
            go_wp2
            go_region
            have hfin := rd_tailO w wr br b2 g o N cp k t j hh.out hkw.out hb2.out hh2.out hNt.out hN (by omega)
            rw [hx.out, hrest.out] at hfin
            generalize hW : (wr.setCell ⟨br, 0, none⟩ (.slice (if cp = 1 + j then some ⟨g, o, none⟩ else some ⟨g, o + (1 + j), none⟩) (N + 1 - (1 + j)) (cp - (1 + j)))).drew = W at *
            replace hfin := Lib.hid hfin
            clear hW
            (repeat go_step)
            go_ret
            exact ⟨rfl, hfin.out⟩
    · clear hfacts
      subst hcp1 hcp2 hcp3
      have k0' : w.cell? ⟨g, o, none⟩ = some (.int .u8 0) := by simpa using k0
      simp only [Nat.zero_add] at c0
      have c0' : w.cell? ⟨br, 0, none⟩ = some (.slice (some ⟨g, o, none⟩) 1 1) := c0
      clear hk h8 k0 d8 dN wk c0 nz hm hn hN hNN
      go_enter Try.func66, Try.ntmps66
      go_wp2
      (refine wp_region_quiet_lit (by kernel_rfl) (by kernel_rfl) ?_; (repeat (first | go_big_quiet_step (fail) | quiet_step (fail))); with_reducible refine wpQuiet_nil ?_; intro _ hw'; obtain ⟨nq, hw''⟩ := hw'; subst hw'')
      go_wp2
      go_loopw [5, 69] (fun _ i wr => i = .int .i64 0 ∧ ∃ n, wr = w.drewN n) (fun _ i _ => 0)
      case atStart => exact ⟨rfl, _, rfl⟩
      case round =>
        obtain ⟨rfl, n, rfl⟩ := hrel
        have hkw : Keeps [b2] w (w.drewN n) := (Keeps.refl _ w).drewN n
        have hfin := rd_tailO w (w.drewN n) br b2 g o 0 1 k t 0 hh.out hkw (by simpa [valU] using hh2.out) hh2.out hNt.out (by omega) hne.2
        rw [hx.out, hrest.out] at hfin
        simp only [Nat.add_zero, if_true, Nat.zero_add, Nat.sub_self] at hfin
        clear hkw
        replace hfin := Lib.hid hfin
        go_wp2
        go_region
        (repeat go_step)
        go_ret
        exact ⟨rfl, hfin.out⟩
set_option maxRecDepth 100000 in
set_option maxHeartbeats 2000000 in
theorem uint_okO (w : World) (br : Nat) (v : Value) (l rest : List UInt8) (x : Nat) (h : Rd w br v l 0) (hr : readU l = some (x, rest)) :
    Calls Try.prog 40 #[.pointer (some ⟨br, 0, none⟩)] w fun en w' => en = .returned (.int .u64 x) ∧ (∃ v', Rd w' br v' rest 0 ∧ ∀ b, v'.ownBlock = some b → v.ownBlock = some b) ∧ Keeps [br] w w' := by
  obtain ⟨c0, c1, f0, f1, hlt⟩ := cell2_of h.1
  have hne : ¬ w.heap.size = br := by omega
  have hne2 : ¬ w.heap.size + 1 = br := by omega
  obtain ⟨a0, cp0, rfl⟩ := h.2.form
  have hkA : Keeps [] w ((w.alloc (.cells #[.pointer (some ⟨br, 0, none⟩)] 81)).alloc (.cells #[.int .u64 0] 83)) := ((Keeps.refl [] w).alloc _).alloc _
  have hc := uint1_okO _ br w.heap.size (w.heap.size + 1) _ l rest x (h.keeps hkA) (by simp) (two_boxes w _) ⟨by omega, by omega⟩ hr
  replace h := Lib.hid h
  replace hkA := Lib.hid hkA
  replace hc := Lib.hid hc
  replace hr := Lib.hid hr
  clear c0
  go_enter Try.func40, Try.ntmps40
  go_wp2_with (first
    | (go_at_call 66; refine hc.out.mono ?_; rintro e w3 ⟨rfl, hb2, ⟨v3, hR3, ho3⟩, hk3⟩; replace ho3 := Lib.hid ho3; obtain ⟨d0, d1, g0, g1, hlt3⟩ := cell2_of hR3.1; obtain ⟨e0, _, hlt4⟩ := cell1_of hb2; have hk4 := Lib.hid hk3; have hR4 := Lib.hid hR3; clear hk3 hR3 hb2)
    | go_in)
  go_ret
  exact ⟨rfl, ⟨v3, rd_set_ok hR4.out 0, ho3.out⟩, (hkA.out.of_nil.trans' hk4.out (by simp)).setCell (.inr (by simp)) _⟩

set_option maxRecDepth 100000 in
set_option maxHeartbeats 2000000 in
theorem uintR_cO (w : World) (br : Nat) (v : Value) (l : List UInt8) (h : RdR w br v l 0) :
    Calls Try.prog 50 #[.pointer (some ⟨br, 0, none⟩)] w fun en w' => en = .returned (.int .u64 (rdU l).1) ∧ (∃ v', RdR w' br v' (rdU l).2.1 (rdU l).2.2 ∧ ∀ b, v'.ownBlock = some b → v.ownBlock = some b) ∧ Keeps [br] w w' := by
  cases hr : readU l with
  | none =>
    have e : rdU l = (0, [], 11) := by simp [rdU, hr]
    rw [e]
    obtain ⟨c0, c1, f0, f1, hlt⟩ := cell2_of h.1
    replace h := Lib.hid h
    replace hr := Lib.hid hr
    clear e f0 f1
    go_enter Try.func50, Try.ntmps50
    go_wp2_with fail
    refine (number_bad _ _ _ h.out.2 hr.out).mono ?_
    rintro e w1 ⟨rfl, hk1⟩
    replace hk1 := Lib.hid hk1
    go_wp2_with fail
    refine (failR_c _ br v l 0 11 (h.out.keeps hk1.out)).mono ?_
    rintro e w2 ⟨rfl, hR, hk2⟩
    replace hR := Lib.hid hR
    have hk3 : Hid (Keeps [br] w w2) := hk1.out.of_nil.trans hk2
    clear hk2
    go_wp2
    go_ret
    exact ⟨rfl, ⟨_, hR.out, fun b hb => by cases hb⟩, hk3.out⟩
  | some p =>
    obtain ⟨x, r⟩ := p
    have e : rdU l = (x, r, 0) := by simp [rdU, hr]
    rw [e]
    obtain ⟨c0, c1, f0, f1, hlt⟩ := cell2_of h.1
    rcases h.2.cases with ⟨rfl, a, cp, rfl, _, _⟩ | ⟨g, o, cp, rfl, hn, hm, hp, hg, _⟩
    · cases hr
    · have htl := fun j (hj : j ≤ l.length) => h.2.tail j hj
      obtain ⟨N, hN⟩ : ∃ N, l.length = N := ⟨_, rfl⟩
      simp only [hN] at hn hp c0 htl
      replace h := Lib.hid h
      replace hr := Lib.hid hr
      replace htl := Lib.hid htl
      replace hN := Lib.hid hN
      clear e f1
      go_enter Try.func50, Try.ntmps50
      go_wp2_with fail
      refine (number_ok _ _ _ _ _ (by have := h.out.2; rw [hN.out] at this; exact this) hr.out).mono ?_
      rintro e w1 ⟨⟨j, hj0, hjl, hrest, rfl⟩, hk1⟩
      rw [hN.out] at hjl
      have hR1 := h.out.keeps hk1
      have c01 := hk1.val c0
      have f01 := (cell2_of hR1.1).2.2.1
      have hlt1 := (cell2_of hR1.1).2.2.2.2
      have hs1 := (htl.out j hjl).keeps hk1
      rw [← hrest] at hs1
      replace hk1 := Lib.hid hk1
      replace hR1 := Lib.hid hR1
      replace hs1 := Lib.hid hs1
      clear hrest
      have hj2 : ¬ ((j : Int) < 0) := by omega
      by_cases hcj : cp = j
      · have hs := hs1.out
        rw [if_pos hcj] at hs
        subst hcj
        rw [Nat.sub_self, show N - cp = 0 by omega] at hs
        replace hs := Lib.hid hs
        clear hs1
        go_wp2
        go_ret
        exact ⟨rfl, ⟨_, ⟨set2_0 hR1.out.1 _, hs.out.kb (KB.setCell w1 _ c01 (by simp))⟩, fun b hb => hb⟩, hk1.out.of_nil.setCell (.inr (by simp)) _⟩
      · go_wp2
        go_ret
        have hs := hs1.out
        rw [if_neg hcj] at hs
        exact ⟨rfl, ⟨_, ⟨set2_0 hR1.out.1 _, hs.kb (KB.setCell w1 _ c01 (by simp))⟩, fun b hb => hb⟩, hk1.out.of_nil.setCell (.inr (by simp)) _⟩
end Go.Proofs.Ytilmcdieihmiaaa

namespace Go.Proofs.Ytilmcdieihmiaaa
open Go.RowKit

/-- A reader's state: what is left, and the error. -/
abbrev RS := List UInt8 × Int
def rU (s : RS) : Nat × RS := if s.2 = 0 then (match readU s.1 with | some (x, r) => (x, (r, 0)) | none => (0, ([], 11))) else (0, s)
/-- The reader in memory, in a state; what is left lies in block `D`. -/
def RdS (w : World) (br D : Nat) (s : RS) : Prop := ∃ v, Rd w br v s.1 s.2 ∧ ∀ b, v.ownBlock = some b → b = D
variable {D : Nat}
theorem RdS.keeps {w w' : World} {br : Nat} {s : RS} (h : RdS w br D s) (hk : Keeps [] w w') : RdS w' br D s := by obtain ⟨v, h, ho⟩ := h; exact ⟨v, h.keeps hk, ho⟩
theorem RdS.lt {w : World} {br : Nat} {s : RS} (h : RdS w br D s) : br < w.heap.size := by obtain ⟨v, h, _⟩ := h; exact (cell2_of h.1).2.2.2.2
/-- Blocks other than the reader's and the bytes' may be written. -/
theorem RdS.keepS {w w' : World} {br : Nat} {s : RS} {S : List Nat} (h : RdS w br D s) (hk : Keeps S w w') (h1 : br ∉ S) (h2 : D ∉ S) : RdS w' br D s := by
  obtain ⟨v, h, ho⟩ := h
  refine ⟨v, ⟨(hk.block br (cell2_of h.1).2.2.2.2 h1).trans h.1, ?_⟩, ho⟩
  obtain ⟨e1, a, cap, rfl, e2, e3, e0, e4⟩ := h.2
  refine ⟨e1, a, cap, rfl, e2, e3, e0, fun hp => ?_⟩
  obtain ⟨g, o, rfl, hc⟩ := e4 hp
  refine ⟨g, o, rfl, fun j u hu => ?_⟩
  have hg := hc j u hu
  have hgD : g = D := ho g rfl
  rw [hk.cell g (o + j) (lt_of_cell hg) (by rw [hgD]; exact h2)]
  exact hg
set_option maxRecDepth 100000 in
set_option maxHeartbeats 2000000 in
theorem uint_err (w : World) (br : Nat) (v : Value) (l : List UInt8) (e : Int) (h : Rd w br v l e) (he : e ≠ 0) :
    Calls Try.prog 40 #[.pointer (some ⟨br, 0, none⟩)] w fun en w' => en = .returned (.int .u64 0) ∧ Keeps [] w w' := by
  obtain ⟨c0, c1, f0, f1, hlt⟩ := cell2_of h.1
  have hne : ¬ w.heap.size = br := by omega
  have hne2 : ¬ w.heap.size + 1 = br := by omega
  have he2 : (e == 0) = false := by simp [he]
  obtain ⟨a0, cp0, rfl⟩ := h.2.form
  have hkA : Keeps [] w ((w.alloc (.cells #[.pointer (some ⟨br, 0, none⟩)] 81)).alloc (.cells #[.int .u64 0] 83)) := ((Keeps.refl [] w).alloc _).alloc _
  clear h c0 he
  go_enter Try.func40, Try.ntmps40
  go_wp2_with (first | go_in)
  go_ret
  exact ⟨rfl, hkA⟩
theorem uintS_c (w : World) (br : Nat) (s : RS) (h : RdS w br D s) :
    Calls Try.prog 40 #[.pointer (some ⟨br, 0, none⟩)] w fun en w' => en = .returned (.int .u64 (rU s).1) ∧ RdS w' br D (rU s).2 ∧ Keeps [br] w w' := by
  obtain ⟨l, e⟩ := s
  obtain ⟨v, h, ho⟩ := h
  by_cases he : e = 0
  · subst he
    cases hx : readU l with
    | none =>
      have : rU (l, 0) = (0, ([], 11)) := by simp [rU, hx]
      rw [this]
      exact (uint_bad w br v l h hx).mono fun en w' ⟨h1, h2, h3⟩ => ⟨h1, ⟨_, h2, fun b hb => by cases hb⟩, h3⟩
    | some p =>
      obtain ⟨x, r⟩ := p
      have : rU (l, 0) = (x, (r, 0)) := by simp [rU, hx]
      rw [this]
      exact (uint_okO w br v l r x h hx).mono fun en w' ⟨h1, ⟨v', h2, h4⟩, h3⟩ => ⟨h1, ⟨v', h2, fun b hb => ho b (h4 b hb)⟩, h3⟩
  · refine (uint_err w br v l e h he).mono fun en w' ⟨h1, h2⟩ => ?_
    rw [show rU (l, e) = (0, (l, e)) by unfold rU; rw [if_neg he]]
    exact ⟨h1, ⟨v, h.keeps h2, ho⟩, h2.of_nil⟩
end Go.Proofs.Ytilmcdieihmiaaa

namespace Go.Proofs.Ytilmcdieihmiaaa
open Go.RowKit

variable {D : Nat}
def cE (n : Nat) (l : List UInt8) : Int := if 1024 < n then 8 else if l.length < n then 11 else 0
def rC (l : List UInt8) : Nat × RS := match readU l with | some (n, r) => if cE n r = 0 then (n, (r, 0)) else (0, ([], cE n r)) | none => (0, ([], 11))
theorem rC_le (l : List UInt8) : (rC l).1 ≤ 1024 := by
  unfold rC
  split
  · rename_i n r _
    split
    · rename_i h
      unfold cE at h
      split at h
      · cases h
      · show n ≤ 1024
        omega
    · simp
  · simp
set_option maxRecDepth 100000 in
set_option maxHeartbeats 2000000 in
theorem count1_c (w : World) (br b1 b2 b3 : Nat) (v : Value) (l : List UInt8) (n : Nat) (h : Rd w br v l 0) (h1 : w.cell? ⟨b1, 0, none⟩ = some (.int .i64 1024)) (h2 : w.cell? ⟨b2, 0, none⟩ = some (.int .u64 n)) (h3 : w.cell? ⟨b3, 0, none⟩ = some (.pointer (some ⟨br, 0, none⟩))) :
    Calls Try.prog 85 #[.pointer (some ⟨b1, 0, none⟩), .pointer (some ⟨b2, 0, none⟩), .pointer (some ⟨b3, 0, none⟩)] w fun en w' => en = .returned (.int .i64 (cE n l)) ∧ Keeps [] w w' := by
  obtain ⟨c0, c1, f0, f1, hlt⟩ := cell2_of h.1
  obtain ⟨a0, cp0, rfl⟩ := h.2.form
  have hmx := h.2.cap
  clear h
  obtain ⟨N, hN⟩ : ∃ N, l.length = N := ⟨_, rfl⟩
  rw [hN] at c0 hmx
  have hNN : (N : Int) ≤ 9223372036854775807 := by unfold maxLen at hmx; omega
  replace hN := Lib.hid hN
  have hwr : IntKind.u64.wrap (N : Int) = N := by rw [IntKind.wrap_u64]; omega
  by_cases hbig : 1024 < n
  · have hd : (1024 : Int) < (n : Int) := by omega
    go_enter Try.func85, Try.ntmps85
    go_wp2
    go_ret
    exact ⟨by unfold cE; rw [if_pos hbig]; rfl, Keeps.refl _ _⟩
  · have hd : decide ((1024 : Int) < (n : Int)) = false := by simp; omega
    by_cases hb2 : N < n
    · have hd2 : (N : Int) < (n : Int) := by omega
      go_enter Try.func85, Try.ntmps85
      go_wp2
      (refine wp_region_quiet_lit (by kernel_rfl) (by kernel_rfl) ?_; (repeat (first | go_big_quiet_step (fail) | quiet_step (fail))); with_reducible refine wpQuiet_nil ?_; intro _ hw'; obtain ⟨nq, hw''⟩ := hw'; subst hw'')
      go_wp2
      go_ret
      exact ⟨by unfold cE; rw [if_neg hbig, hN.out, if_pos hb2]; rfl, (Keeps.refl _ _).drewN _⟩
    · have hd2 : decide ((N : Int) < (n : Int)) = false := by simp; omega
      go_enter Try.func85, Try.ntmps85
      go_wp2
      (refine wp_region_quiet_lit (by kernel_rfl) (by kernel_rfl) ?_; (repeat (first | go_big_quiet_step (fail) | quiet_step (fail))); with_reducible refine wpQuiet_nil ?_; intro _ hw'; obtain ⟨nq, hw''⟩ := hw'; subst hw'')
      go_wp2
      go_ret
      exact ⟨by unfold cE; rw [if_neg hbig, hN.out, if_neg hb2]; rfl, (Keeps.refl _ _).drewN _⟩
set_option maxRecDepth 100000 in
set_option maxHeartbeats 2000000 in
theorem count_bad (w : World) (br : Nat) (v : Value) (l : List UInt8) (h : Rd w br v l 0) (hr : readU l = none) :
    Calls Try.prog 76 #[.pointer (some ⟨br, 0, none⟩), .int .i64 1024] w fun en w' => en = .returned (.int .i64 0) ∧ Rd w' br (.slice none 0 0) [] 11 ∧ Keeps [br] w w' := by
  have hlt := (cell2_of h.1).2.2.2.2
  have hne : ¬ w.heap.size = br := by omega
  have hne2 : ¬ w.heap.size + 1 = br := by omega
  have hkA : Keeps [] w ((w.alloc (.cells #[.pointer (some ⟨br, 0, none⟩)] 81)).alloc (.cells #[.int .i64 1024] 3)) := ((Keeps.refl [] w).alloc _).alloc _
  have hx1 := heap_alloc_new w (.cells #[.pointer (some ⟨br, 0, none⟩)] 81)
  have hx2 := (((Keeps.refl [] (w.alloc (.cells #[.pointer (some ⟨br, 0, none⟩)] 81))).alloc (.cells #[.int .i64 1024] 3)).block _ (lt_of_block hx1) (by simp)).trans hx1
  have hRA := h.keeps hkA
  replace hRA := Lib.hid hRA
  replace hkA := Lib.hid hkA
  replace hr := Lib.hid hr
  clear h hx1
  go_enter Try.func76, Try.ntmps76
  go_wp2_with fail
  refine (uint_bad _ br v l hRA.out hr.out).mono ?_
  rintro e w1 ⟨rfl, hR1, hk1⟩
  have hx3 := (hk1.block _ (lt_of_block hx2) (by simpa using hne)).trans hx2
  obtain ⟨z0, zf, zlt⟩ := cell1_of hx3
  have hk01 := Lib.hid (hkA.out.of_nil.trans hk1)
  obtain ⟨c0, c1, f0, f1, hlt1⟩ := cell2_of hR1.1
  have hkB : Keeps [] w1 (w1.alloc (.cells #[.int .u64 0] 83)) := (Keeps.refl [] w1).alloc _
  have hne3 : ¬ w1.heap.size = br := by omega
  have hne4 : ¬ w1.heap.size = w.heap.size := by omega
  replace hR1 := Lib.hid hR1
  replace hkB := Lib.hid hkB
  clear hk1 hx2 hx3
  go_wp2_with (first | go_in)
  go_ret
  exact ⟨rfl, hR1.out.keeps hkB.out, hk01.out.trans hkB.out.of_nil⟩
set_option maxRecDepth 100000 in
set_option maxHeartbeats 4000000 in
theorem count_ok (w : World) (br : Nat) (v : Value) (l r : List UInt8) (n : Nat) (h : Rd w br v l 0) (ho : ∀ b, v.ownBlock = some b → b = D) (hr : readU l = some (n, r)) (hn : n < 18446744073709551616) :
    Calls Try.prog 76 #[.pointer (some ⟨br, 0, none⟩), .int .i64 1024] w fun en w' => en = .returned (.int .i64 (rC l).1) ∧ RdS w' br D (rC l).2 ∧ Keeps [br] w w' := by
  have hrc : rC l = if cE n r = 0 then (n, (r, 0)) else (0, ([], cE n r)) := by unfold rC; simp only [hr]
  have hlt := (cell2_of h.1).2.2.2.2
  have hne : ¬ w.heap.size = br := by omega
  have hne2 : ¬ w.heap.size + 1 = br := by omega
  have hkA : Keeps [] w ((w.alloc (.cells #[.pointer (some ⟨br, 0, none⟩)] 81)).alloc (.cells #[.int .i64 1024] 3)) := ((Keeps.refl [] w).alloc _).alloc _
  have hx1 := heap_alloc_new w (.cells #[.pointer (some ⟨br, 0, none⟩)] 81)
  have hx2 := (((Keeps.refl [] (w.alloc (.cells #[.pointer (some ⟨br, 0, none⟩)] 81))).alloc (.cells #[.int .i64 1024] 3)).block _ (lt_of_block hx1) (by simp)).trans hx1
  have hm2 := heap_alloc_new (w.alloc (.cells #[.pointer (some ⟨br, 0, none⟩)] 81)) (.cells #[.int .i64 1024] 3)
  rw [show (w.alloc (.cells #[.pointer (some ⟨br, 0, none⟩)] 81)).heap.size = w.heap.size + 1 by simp] at hm2
  have hRA := h.keeps hkA
  replace hRA := Lib.hid hRA
  replace hkA := Lib.hid hkA
  replace hr := Lib.hid hr
  replace hrc := Lib.hid hrc
  clear h hx1
  go_enter Try.func76, Try.ntmps76
  go_wp2_with fail
  refine (uint_okO _ br v l r n hRA.out hr.out).mono ?_
  rintro e w1 ⟨rfl, ⟨v1, hR1, ho0⟩, hk1⟩
  have ho1 : ∀ b, v1.ownBlock = some b → b = D := fun b hb => ho b (ho0 b hb)
  clear ho0 ho
  have hx3 := (hk1.block _ (lt_of_block hx2) (by simpa using hne)).trans hx2
  have hm3 := (hk1.block _ (lt_of_block hm2) (by simpa using hne2)).trans hm2
  have hkB : Keeps [] w1 (w1.alloc (.cells #[.int .u64 n] 83)) := (Keeps.refl [] w1).alloc _
  have hx4 := (hkB.block _ (lt_of_block hx3) (by simp)).trans hx3
  have hm4 := (hkB.block _ (lt_of_block hm3) (by simp)).trans hm3
  have hn4 := heap_alloc_new w1 (.cells #[.int .u64 n] 83)
  have hR2 := hR1.keeps hkB
  have hk02 := hkA.out.of_nil.trans (hk1.trans hkB.of_nil)
  obtain ⟨z0, zf, zlt⟩ := cell1_of hx3
  obtain ⟨q0, qf, qlt⟩ := cell1_of hn4
  obtain ⟨c0, c1, f0, f1, hlt1⟩ := cell2_of hR1.1
  have hne3 : ¬ w1.heap.size = br := by omega
  have hne4 : ¬ w1.heap.size = w.heap.size := by omega
  have hc := count1_c _ br (w.heap.size + 1) w1.heap.size w.heap.size v1 r n hR2 (cell1_of hm4).1 q0 (cell1_of hx4).1
  obtain ⟨E, hE⟩ : ∃ E, cE n r = E := ⟨_, rfl⟩
  obtain ⟨a1, cp1, rfl⟩ := hR1.2.form
  replace ho1 := Lib.hid ho1
  rw [hE] at hc
  by_cases hE0 : E = 0
  · subst hE0
    have hn63 : (n : Int) ≤ 1024 := by
      unfold cE at hE
      split at hE
      · cases hE
      · omega
    replace hE := Lib.hid hE
    replace hR1 := Lib.hid hR1
    replace hR2 := Lib.hid hR2
    replace hkB := Lib.hid hkB
    replace hk02 := Lib.hid hk02
    replace hc := Lib.hid hc
    replace hn4 := Lib.hid hn4
    clear hk1 hx2 hx3 hx4 hm2 hm3 hm4 c0 q0 qf qlt
    go_wp2_with (first
      | (go_at_call 85; refine hc.out.mono ?_; rintro e w3 ⟨rfl, hk3⟩; have hR3 := hR2.out.keeps hk3; obtain ⟨d0, d1, g0, g1, hlt3⟩ := cell2_of hR3.1; have hk4 := Lib.hid hk3; have hR4 := Lib.hid hR3; have hn5 := Lib.hid ((hk3.block _ (lt_of_block hn4.out) (by simp)).trans hn4.out); obtain ⟨e0, _, hlt4⟩ := cell1_of hn5.out; clear hk3 hR3)
      | go_in)
    go_ret
    rw [hrc.out, if_pos hE.out]
    exact ⟨rfl, ⟨_, rd_set_ok hR4.out 0, ho1.out⟩, (hk02.out.trans hk4.out.of_nil).setCell (.inr (by simp)) _⟩
  · have hEb : (E == 0) = false := by simp [hE0]
    replace hE0 := Lib.hid hE0
    replace hE := Lib.hid hE
    replace hR1 := Lib.hid hR1
    replace hR2 := Lib.hid hR2
    replace hkB := Lib.hid hkB
    replace hk02 := Lib.hid hk02
    replace hc := Lib.hid hc
    replace hn4 := Lib.hid hn4
    clear hk1 hx2 hx3 hx4 hm2 hm3 hm4 c0 q0 qf qlt
    go_wp2_with (first
      | (go_at_call 85; refine hc.out.mono ?_; rintro e w3 ⟨rfl, hk3⟩; have hR3 := hR2.out.keeps hk3; obtain ⟨d0, d1, g0, g1, hlt3⟩ := cell2_of hR3.1; have hk4 := Lib.hid hk3; have hR4 := Lib.hid hR3; have hn5 := Lib.hid ((hk3.block _ (lt_of_block hn4.out) (by simp)).trans hn4.out); obtain ⟨e0, _, hlt4⟩ := cell1_of hn5.out; clear hk3 hR3)
      | go_in)
    go_ret
    rw [hrc.out, if_neg (by rw [hE.out]; exact hE0.out)]
    refine ⟨rfl, ⟨.slice none 0 0, ?_, fun b hb => by cases hb⟩, ((hk02.out.trans hk4.out.of_nil).setCell (.inr (by simp)) _).setCell (.inr (by simp)) _⟩
    rw [hE.out]
    exact rd_set_bad hR4.out E
theorem readU_lt {l r : List UInt8} {n : Nat} (h : readU l = some (n, r)) : n < 18446744073709551616 := by
  cases l with
  | nil => cases h
  | cons k t =>
    rcases Classical.em (k.toNat ≤ 8 ∧ k.toNat ≤ t.length ∧ (0 < k.toNat → t.headD 1 ≠ 0)) with hc | hc
    · rw [readU, if_pos hc] at h
      simp only [Option.some.injEq, Prod.mk.injEq] at h
      rw [← h.1]
      have := valU_lt k.toNat (t.take k.toNat) (by rw [List.length_take]; omega)
      have h2 : (256 : Nat) ^ k.toNat ≤ 256 ^ 8 := Nat.pow_le_pow_right (by omega) hc.1
      omega
    · rw [readU, if_neg hc] at h; cases h
theorem countS_c (w : World) (br : Nat) (l : List UInt8) (h : RdS w br D (l, 0)) :
    Calls Try.prog 76 #[.pointer (some ⟨br, 0, none⟩), .int .i64 1024] w fun en w' => en = .returned (.int .i64 (rC l).1) ∧ RdS w' br D (rC l).2 ∧ Keeps [br] w w' := by
  obtain ⟨v, h, ho⟩ := h
  cases hr : readU l with
  | none =>
    rw [show rC l = (0, ([], 11)) by unfold rC; simp only [hr]]
    exact (count_bad w br v l h hr).mono fun _ _ ⟨h1, h2, h3⟩ => ⟨h1, ⟨_, h2, fun b hb => by cases hb⟩, h3⟩
  | some p =>
    obtain ⟨n, r⟩ := p
    exact count_ok w br v l r n h ho hr (readU_lt hr)
theorem doneS_c (w : World) (br : Nat) (s : RS) (h : RdS w br D s) :
    Calls Try.prog 42 #[.pointer (some ⟨br, 0, none⟩)] w fun en w' => en = .returned (.int .i64 (doneE s.1 s.2)) ∧ w = w' := by
  obtain ⟨v, h, ho⟩ := h
  exact done_c w br v s.1 s.2 h
end Go.Proofs.Ytilmcdieihmiaaa

namespace Go.Proofs.Ytilmcdieihmiaaa
open Go.RowKit

variable {D : Nat}
def sE (n : Nat) (l : List UInt8) : Int := if 4096 < n then 8 else if l.length < n then 11 else 0
def rS (s : RS) : List UInt8 × RS :=
  if (rU s).2.2 = 0 then (if sE (rU s).1 (rU s).2.1 = 0 then ((rU s).2.1.take (rU s).1, ((rU s).2.1.drop (rU s).1, 0)) else ([], ([], sE (rU s).1 (rU s).2.1))) else ([], (rU s).2)
theorem sE_ok {n : Nat} {l : List UInt8} (h : sE n l = 0) : n ≤ 4096 ∧ n ≤ l.length := by
  unfold sE at h
  split at h
  · cases h
  · split at h
    · cases h
    · omega
set_option maxRecDepth 100000 in
set_option maxHeartbeats 2000000 in
theorem string1_bad (w : World) (br b1 b2 : Nat) (b3 : Value) (v : Value) (l : List UInt8) (n : Nat) (h : Rd w br v l 0) (h1 : w.cell? ⟨b1, 0, none⟩ = some (.int .u64 n)) (h2 : w.cell? ⟨b2, 0, none⟩ = some (.pointer (some ⟨br, 0, none⟩))) (hE : sE n l ≠ 0) :
    Calls Try.prog 86 #[.pointer (some ⟨b1, 0, none⟩), .pointer (some ⟨b2, 0, none⟩), b3] w fun en w' => en = .returned (.int .i64 (sE n l)) ∧ Keeps [] w w' := by
  obtain ⟨c0, c1, f0, f1, hlt⟩ := cell2_of h.1
  obtain ⟨a0, cp0, rfl⟩ := h.2.form
  have hmx := h.2.cap
  clear h
  have hsE : sE n l = if 4096 < n then 8 else if l.length < n then 11 else 0 := rfl
  rw [hsE] at hE ⊢
  clear hsE
  obtain ⟨N, hN⟩ : ∃ N, l.length = N := ⟨_, rfl⟩
  rw [hN] at c0 hmx hE ⊢
  have hNN : (N : Int) ≤ 9223372036854775807 := by unfold maxLen at hmx; omega
  replace hN := Lib.hid hN
  have hwr : IntKind.u64.wrap (N : Int) = N := by rw [IntKind.wrap_u64]; omega
  by_cases hbig : 4096 < n
  · have hd : (4096 : Int) < (n : Int) := by omega
    rw [if_pos hbig]
    clear hE
    go_enter Try.func86, Try.ntmps86
    go_wp2
    go_ret
    exact ⟨rfl, Keeps.refl _ _⟩
  · have hd : decide ((4096 : Int) < (n : Int)) = false := by simp; omega
    rw [if_neg hbig] at hE ⊢
    by_cases hb2 : N < n
    · have hd2 : (N : Int) < (n : Int) := by omega
      rw [if_pos hb2]
      clear hE
      go_enter Try.func86, Try.ntmps86
      go_wp2
      (refine wp_region_quiet_lit (by kernel_rfl) (by kernel_rfl) ?_; (repeat (first | go_big_quiet_step (fail) | quiet_step (fail))); with_reducible refine wpQuiet_nil ?_; intro _ hw'; obtain ⟨nq, hw''⟩ := hw'; subst hw'')
      go_wp2
      go_ret
      exact ⟨rfl, (Keeps.refl _ _).drewN _⟩
    · rw [if_neg hb2] at hE
      exact absurd rfl hE
/-- A slice of bytes, cut at n. -/
theorem slice_parts {w : World} {av : Option Addr} {N cp n : Nat} {l : List UInt8} (hS0 : SlB w (.slice av N cp) l) (hN : l.length = N) (hn2 : n ≤ N) :
    N ≤ cp ∧ SlB w (.slice av n cp) (l.take n) ∧ SlB w (.slice (if cp = n then av else Option.map (fun x => x.add n) av) (N - n) (cp - n)) (l.drop n) := by
  obtain ⟨hcp, hcpm, hnone⟩ : N ≤ cp ∧ cp ≤ maxLen ∧ (av = none → cp = 0) := by obtain ⟨_, _, _, e, h2, h3, h4, _⟩ := hS0; cases e; exact ⟨by omega, h3, h4⟩
  refine ⟨hcp, ?_⟩
  obtain ⟨vt, hvt⟩ : ∃ vt : Option Addr, (if cp = n then av else Option.map (fun x => x.add n) av) = vt := ⟨_, rfl⟩
  rw [hvt]
  rcases hS0.cases with ⟨rfl, a, c, e, _, _⟩ | ⟨g, o, c, e, _, _, _, _, _⟩
  · cases e
    obtain rfl : n = 0 := by omega
    refine ⟨⟨rfl, av, cp, rfl, by simp, hcpm, hnone, by simp [bys]⟩, ⟨rfl, vt, cp, rfl, by simp, hcpm, fun e => ?_, by simp [bys]⟩⟩
    cases av with
    | none => exact hnone rfl
    | some ad =>
      subst hvt
      split at e <;> cases e
  · cases e
    have ht := SlB.tail hS0 n (by omega)
    have e2 : (⟨g, o, none⟩ : Addr).add n = ⟨g, o + n, none⟩ := by simp [Addr.add]
    simp only [Option.map, e2] at hvt
    rw [hvt] at ht
    refine ⟨?_, ht⟩
    have h' := Sl.part hS0 0 n (Nat.zero_le _) hn2
    simp only [Nat.zero_mul, Nat.add_zero, Nat.sub_zero, List.drop_zero, Nat.mul_one] at h'
    unfold SlB
    rw [List.length_take, Nat.min_eq_left hn2, show bys (l.take n) = (bys l).take n by simp [bys, List.map_take]]
    exact h'
set_option maxRecDepth 100000 in
set_option maxHeartbeats 4000000 in
theorem string1_ok (w : World) (br b1 b2 b3 : Nat) (v : Value) (l : List UInt8) (n : Nat) (h : Rd w br v l 0) (h1 : w.cell? ⟨b1, 0, none⟩ = some (.int .u64 n)) (h2 : w.cell? ⟨b2, 0, none⟩ = some (.pointer (some ⟨br, 0, none⟩))) (h3 : w.heap[b3]? = some (.cells #[.string (str [])] 9 (0, 0)))
    (hne : b1 ≠ br ∧ b2 ≠ br ∧ b3 ≠ br ∧ b1 ≠ b3 ∧ b2 ≠ b3) (hE : sE n l = 0) :
    Calls Try.prog 86 #[.pointer (some ⟨b1, 0, none⟩), .pointer (some ⟨b2, 0, none⟩), .pointer (some ⟨b3, 0, none⟩)] w fun en w' => en = .returned (.int .i64 0) ∧ w'.heap[b3]? = some (.cells #[.string (str (l.take n))] 9 (0, 0)) ∧ (∃ v', Rd w' br v' (l.drop n) 0 ∧ ∀ b, v'.ownBlock = some b → v.ownBlock = some b) ∧ Keeps [br, b3] w w' := by
  obtain ⟨hn1, hn2⟩ := sE_ok hE
  obtain ⟨c0, c1, f0, f1, hlt⟩ := cell2_of h.1
  obtain ⟨e0, fe0, hlt3⟩ := cell1_of h3
  have hmx := h.2.cap
  obtain ⟨i1, i2, i3, i4, i5⟩ := hne
  have hd : decide ((4096 : Int) < (n : Int)) = false := by simp; omega
  obtain ⟨av, cp, rfl⟩ := h.2.form
  obtain ⟨N, hN⟩ : ∃ N, l.length = N := ⟨_, rfl⟩
  have hS0 := h.2
  rw [hN] at c0 hmx hn2 hS0
  have hNN : (N : Int) ≤ 9223372036854775807 := by unfold maxLen at hmx; omega
  have hwr : IntKind.u64.wrap (N : Int) = N := by rw [IntKind.wrap_u64]; omega
  have hd2 : decide ((N : Int) < (n : Int)) = false := by simp; omega
  obtain ⟨hcp, hcpm, hnone⟩ : N ≤ cp ∧ cp ≤ maxLen ∧ (av = none → cp = 0) := by obtain ⟨_, _, _, e, h2, h3, h4, _⟩ := hS0; cases e; exact ⟨h2, h3, h4⟩
  obtain ⟨vt, hvt⟩ : ∃ vt : Option Addr, (if cp = n then av else Option.map (fun x => x.add n) av) = vt := ⟨_, rfl⟩
  have hSh : SlB w (.slice av n cp) (l.take n) ∧ SlB w (.slice vt (N - n) (cp - n)) (l.drop n) := by
    rcases hS0.cases with ⟨rfl, a, c, e, _, _⟩ | ⟨g, o, c, e, _, _, _, _, _⟩
    · cases e
      obtain rfl : n = 0 := by omega
      refine ⟨⟨rfl, av, cp, rfl, by simp, hcpm, hnone, by simp [bys]⟩, ⟨rfl, vt, cp, rfl, by simp, hcpm, fun e => ?_, by simp [bys]⟩⟩
      cases av with
      | none => exact hnone rfl
      | some ad =>
        subst hvt
        split at e <;> cases e
    · cases e
      have ht := SlB.tail hS0 n (by rw [hN]; exact hn2)
      rw [hN] at ht
      have e2 : (⟨g, o, none⟩ : Addr).add n = ⟨g, o + n, none⟩ := by simp [Addr.add]
      simp only [Option.map, e2] at hvt
      rw [hvt] at ht
      refine ⟨?_, ht⟩
      have h' := Sl.part hS0 0 n (Nat.zero_le _) hn2
      simp only [Nat.zero_mul, Nat.add_zero, Nat.sub_zero, List.drop_zero, Nat.mul_one] at h'
      unfold SlB
      rw [List.length_take, hN, Nat.min_eq_left hn2, show bys (l.take n) = (bys l).take n by simp [bys, List.map_take]]
      exact h'
  have hkb : ∀ w', Free.KeepsP (fun b => b = b3 ∨ b = br) w w' → KB w w' := fun w' hk b o x hx => by
    have hb3 : b ≠ b3 := fun e => by subst e; exact no_byte h3 (by simp) _ _ hx
    have hbr : b ≠ br := fun e => by subst e; exact rd_nobyte h _ _ hx
    rw [World.cell?_of_block (w := w) (a := ⟨b, o, none⟩) (hk.block b (lt_of_cell hx) (by simp [hb3, hbr]))]
    exact hx
  replace hN := Lib.hid hN
  replace h := Lib.hid h
  replace h3 := Lib.hid h3
  replace hS0 := Lib.hid hS0
  replace hkb := Lib.hid hkb
  replace hSh := Lib.hid hSh
  replace hvt := Lib.hid hvt
  have hl1 : (n : Int) ≤ N := by omega
  have hl2 : (n : Int) ≤ cp := by omega
  have hl0 : n ≤ N := hn2
  clear f1 hE hmx
  go_enter Try.func86, Try.ntmps86
  go_wp2
  refine Free.wp_region_chain (fun i => false) (fun i => true) (fun j b => False) (by kernel_rfl) (by kernel_rfl) (by kernel_rfl) ?_
  (repeat (first | (apply Free.cw_pure rfl rfl; (intro w'; go_simp <;> exact rfl); go_frame) | (apply Free.cw_steady rfl rfl rfl; (intro w' hS; have q0 := Free.sx_cell hS h1 (fun _ _ hT => hT); have q1 := Free.sx_cell hS h2 (fun _ _ hT => hT); have q2 := Free.sx_cell hS c0 (fun _ _ hT => hT); go_simp <;> exact rfl); go_frame) | (refine Free.cw_skip rfl ?_; go_frame)))
  refine Free.cw_nil ?_
  go_wp2
  refine Free.wp_region_chain (fun i => i == 14 || i == 17) (fun i => true) (fun j b => (j = 14 ∧ b = b3) ∨ (j = 17 ∧ b = br)) (by kernel_rfl) (by kernel_rfl) (by kernel_rfl) ?_
  (repeat (first | (apply Free.cw_pure rfl rfl; (intro w'; go_simp <;> exact rfl); go_frame) | (apply Free.cw_steady rfl rfl rfl; (intro w' hS; have q0 := Free.sx_cell hS h1 (fun _ _ hT => Or.elim hT (fun h => i4 h.2) (fun h => i1 h.2)); have q1 := Free.sx_cell hS h2 (fun _ _ hT => Or.elim hT (fun h => i5 h.2) (fun h => i2 h.2)); have q2 := Free.sx_cell hS c0 (fun j hp hT => Or.elim hT (fun h => i3 h.2.symm) (fun h => by obtain ⟨rfl, _⟩ := h; exact absurd hp (by decide +kernel))); go_simp <;> exact rfl); go_frame) | (refine Free.cw_skip rfl ?_; go_frame)))
  refine Free.cw_steady (c := .string (str (l.take n))) rfl rfl rfl ?_ ?_
  · intro w' hS
    have hr := run_str (hSh.out.1.kb (hkb.out w' ⟨hS.os, hS.tape, hS.output, hS.size, fun k hk hn => hS.block k hk (fun ⟨j, _, _, hT⟩ => hn (hT.imp (fun h => h.2) (fun h => h.2)))⟩))
    go_simp <;> exact rfl
  go_frame
  (repeat (first | (apply Free.cw_pure rfl rfl; (intro w'; go_simp <;> exact rfl); go_frame) | (apply Free.cw_steady rfl rfl rfl; (intro w' hS; have q0 := Free.sx_cell hS h1 (fun _ _ hT => Or.elim hT (fun h => i4 h.2) (fun h => i1 h.2)); have q1 := Free.sx_cell hS h2 (fun _ _ hT => Or.elim hT (fun h => i5 h.2) (fun h => i2 h.2)); have q2 := Free.sx_cell hS c0 (fun j hp hT => Or.elim hT (fun h => i3 h.2.symm) (fun h => by obtain ⟨rfl, _⟩ := h; exact absurd hp (by decide +kernel))); go_simp <;> exact rfl); go_frame) | (refine Free.cw_skip rfl ?_; go_frame)))
  rw [hvt.out]
  refine Free.cw_loud rfl rfl (fun K hK => ?_)
  go_wp2
  refine hK _ _ rfl (Free.KeepsP.setCell _ (.inl ⟨trivial, rfl⟩) _) ?_
  clear hK K
  (repeat (first | (apply Free.cw_pure rfl rfl; (intro w'; go_simp <;> exact rfl); go_frame) | (apply Free.cw_steady rfl rfl rfl; (intro w' hS; have q0 := Free.sx_cell hS h1 (fun _ _ hT => Or.elim hT (fun h => i4 h.2) (fun h => i1 h.2)); have q1 := Free.sx_cell hS h2 (fun _ _ hT => Or.elim hT (fun h => i5 h.2) (fun h => i2 h.2)); have q2 := Free.sx_cell hS c0 (fun j hp hT => Or.elim hT (fun h => i3 h.2.symm) (fun h => by obtain ⟨rfl, _⟩ := h; exact absurd hp (by decide +kernel))); go_simp <;> exact rfl); go_frame) | (refine Free.cw_skip rfl ?_; go_frame)))
  refine Free.cw_loud rfl rfl (fun K hK => ?_)
  go_wp2
  refine hK _ _ rfl (Free.KeepsP.setCell _ (.inr ⟨trivial, rfl⟩) _) ?_
  clear hK K
  refine Free.cw_nil ?_
  go_wp2
  go_ret
  have hbr1 : (w.setCell ⟨b3, 0, none⟩ (.string (str (l.take n)))).heap[br]? = some (.cells #[.slice av N cp, .int .i64 0] 115 (0, 0)) := (Below.heap_setCell _ _ _ _ (by simp; omega)).trans (by have := h.out.1; rw [hN.out] at this; exact this)
  have hb21 : (w.setCell ⟨b3, 0, none⟩ (.string (str (l.take n)))).heap[b3]? = some (.cells #[.string (str (l.take n))] 9 (0, 0)) := one_setCell h3.out
  refine ⟨rfl, (Below.heap_setCell _ _ _ _ (by simp; omega)).trans hb21, ⟨_, ⟨set2_0 hbr1 _, ?_⟩, fun b hb => ?_⟩, (((Keeps.refl _ w).setCell (.inr (by simp)) _).setCell (.inr (by simp)) _).drew.drew⟩
  · have := hSh.out.2.kb ((KB.setCell w _ e0 (by simp)).trans ((KB.setCell _ (.slice vt (N - n) (cp - n)) (cell2_of hbr1).1 (by simp)).trans (KB.drew _)))
    exact this
  · rw [← hvt.out] at hb
    cases av with
    | none =>
      by_cases hc : cp = n
      · rw [if_pos hc] at hb; cases hb
      · rw [if_neg hc] at hb; cases hb
    | some ad =>
      by_cases hc : cp = n
      · rw [if_pos hc] at hb; exact hb
      · rw [if_neg hc] at hb
        simp [Value.ownBlock, Addr.add] at hb ⊢
        split at hb <;> exact hb
set_option maxRecDepth 100000 in
set_option maxHeartbeats 4000000 in
theorem stringS_c (w : World) (br : Nat) (s : RS) (h : RdS w br D s) :
    Calls Try.prog 77 #[.pointer (some ⟨br, 0, none⟩)] w fun en w' => en = .returned (.string (str (rS s).1)) ∧ RdS w' br D (rS s).2 ∧ Keeps [br] w w' := by
  have hrs : rS s = if (rU s).2.2 = 0 then (if sE (rU s).1 (rU s).2.1 = 0 then ((rU s).2.1.take (rU s).1, ((rU s).2.1.drop (rU s).1, 0)) else ([], ([], sE (rU s).1 (rU s).2.1))) else ([], (rU s).2) := rfl
  have hlt := h.lt
  have hne : ¬ w.heap.size = br := by omega
  have hkA : Keeps [] w (w.alloc (.cells #[.pointer (some ⟨br, 0, none⟩)] 81)) := (Keeps.refl [] w).alloc _
  have hx1 := heap_alloc_new w (.cells #[.pointer (some ⟨br, 0, none⟩)] 81)
  have hRA := h.keeps hkA
  replace hRA := Lib.hid hRA
  replace hkA := Lib.hid hkA
  replace hrs := Lib.hid hrs
  clear h
  go_enter Try.func77, Try.ntmps77
  go_wp2_with fail
  refine (uintS_c _ br s hRA.out).mono ?_
  rintro e w1 ⟨rfl, hR1, hk1⟩
  replace hrs := hrs.out
  obtain ⟨n, hn⟩ : ∃ n, (rU s).1 = n := ⟨_, rfl⟩
  obtain ⟨⟨l, e⟩, hs1⟩ : ∃ t, (rU s).2 = t := ⟨_, rfl⟩
  rw [hn]
  rw [hn, hs1] at hrs
  rw [hs1] at hR1
  obtain ⟨v1, hR1, ho1⟩ := hR1
  replace ho1 := Lib.hid ho1
  simp only at hR1 hrs
  have hx3 := (hk1.block _ (lt_of_block hx1) (by simpa using hne)).trans hx1
  obtain ⟨z0, zf, zlt⟩ := cell1_of hx3
  have hk01 := hkA.out.of_nil.trans hk1
  obtain ⟨c0, c1, f0, f1, hlt1⟩ := cell2_of hR1.1
  have hkB : Keeps [] w1 ((w1.alloc (.cells #[.int .u64 n] 83)).alloc (.cells #[.string (str [])] 9)) := ((Keeps.refl [] w1).alloc _).alloc _
  have hn4 : ((w1.alloc (.cells #[.int .u64 n] 83)).alloc (.cells #[.string (str [])] 9)).heap[w1.heap.size]? = some (.cells #[.int .u64 n] 83 (0, 0)) :=
    (((Keeps.refl [] (w1.alloc (.cells #[.int .u64 n] 83))).alloc (.cells #[.string (str [])] 9)).block _ (by simp) (by simp)).trans (heap_alloc_new w1 _)
  have hs4 : ((w1.alloc (.cells #[.int .u64 n] 83)).alloc (.cells #[.string (str [])] 9)).heap[w1.heap.size + 1]? = some (.cells #[.string (str [])] 9 (0, 0)) := by
    have := heap_alloc_new (w1.alloc (.cells #[.int .u64 n] 83)) (.cells #[.string (str [])] 9)
    simpa using this
  have hx4 := (hkB.block _ (lt_of_block hx3) (by simp)).trans hx3
  have hR2 := hR1.keeps hkB
  have hk02 := hk01.trans hkB.of_nil
  obtain ⟨q0, qf, qlt⟩ := cell1_of hn4
  obtain ⟨y0, yf, ylt⟩ := cell1_of hs4
  have hne3 : ¬ w1.heap.size = br := by omega
  have hne4 : ¬ w1.heap.size = w.heap.size := by omega
  have hne5 : ¬ w1.heap.size + 1 = br := by omega
  have hne6 : ¬ w1.heap.size + 1 = w.heap.size := by omega
  obtain ⟨a1, cp1, rfl⟩ := hR1.2.form
  by_cases he : e = 0
  · subst he
    rw [if_pos rfl] at hrs
    by_cases hE : sE n l = 0
    · rw [if_pos hE] at hrs
      have hc := string1_ok _ br w1.heap.size w.heap.size (w1.heap.size + 1) _ l n hR2 q0 (cell1_of hx4).1 hs4 ⟨by omega, by omega, by omega, by omega, by omega⟩ hE
      replace hc := Lib.hid hc
      replace hrs := Lib.hid hrs
      replace hR2 := Lib.hid hR2
      replace hk02 := Lib.hid hk02
      replace hE := Lib.hid hE
      replace hs1 := Lib.hid hs1
      replace hn := Lib.hid hn
      replace hkB := Lib.hid hkB
      clear hk1 hx1 hx3 hx4 hn4 hs4 hR1 hk01 q0 y0 c0 qlt ylt
      go_wp2_with (first
        | (go_at_call 86; refine hc.out.mono ?_; rintro e w3 ⟨rfl, hb3, ⟨v3, hR3, ho3⟩, hk3⟩; replace ho3 := Lib.hid ho3; obtain ⟨d0, d1, g0, g1, hlt3⟩ := cell2_of hR3.1; obtain ⟨e0, _, hlt4⟩ := cell1_of hb3; have hk4 := Lib.hid hk3; have hR4 := Lib.hid hR3; clear hk3 hR3 hb3)
        | go_in)
      go_ret
      rw [hrs.out]
      exact ⟨rfl, ⟨v3, rd_set_ok hR4.out 0, fun b hb => ho1.out b (ho3.out b hb)⟩, (hk02.out.trans' hk4.out (by simp; omega)).setCell (.inr (by simp)) _⟩
    · rw [if_neg hE] at hrs
      have hc := string1_bad _ br w1.heap.size w.heap.size (.pointer (some ⟨w1.heap.size + 1, 0, none⟩)) _ l n hR2 q0 (cell1_of hx4).1 hE
      obtain ⟨E, hEE⟩ : ∃ E, sE n l = E := ⟨_, rfl⟩
      rw [hEE] at hc hE hrs
      have hEb : (E == 0) = false := by simp [hE]
      replace hc := Lib.hid hc
      replace hrs := Lib.hid hrs
      replace hR2 := Lib.hid hR2
      replace hk02 := Lib.hid hk02
      replace hE := Lib.hid hE
      replace hEE := Lib.hid hEE
      replace hs1 := Lib.hid hs1
      replace hn := Lib.hid hn
      replace hkB := Lib.hid hkB
      replace hs4 := Lib.hid hs4
      clear hk1 hx1 hx3 hx4 hn4 hR1 hk01 q0 c0 qlt y0 ylt
      go_wp2_with (first
        | (go_at_call 86; refine hc.out.mono ?_; rintro e w3 ⟨rfl, hk3⟩; have hR3 := hR2.out.keeps hk3; obtain ⟨d0, d1, g0, g1, hlt3⟩ := cell2_of hR3.1; have hk4 := Lib.hid hk3; have hR4 := Lib.hid hR3; have hn5 := Lib.hid ((hk3.block _ (lt_of_block hs4.out) (by simp)).trans hs4.out); obtain ⟨e0, _, hlt4⟩ := cell1_of hn5.out; clear hk3 hR3)
        | go_in)
      go_ret
      rw [hrs.out]
      exact ⟨rfl, ⟨.slice none 0 0, rd_set_bad hR4.out E, fun b hb => by cases hb⟩, ((hk02.out.trans hk4.out.of_nil).setCell (.inr (by simp)) _).setCell (.inr (by simp)) _⟩
  · rw [if_neg he] at hrs
    have he2 : (e == 0) = false := by simp [he]
    replace hrs := Lib.hid hrs
    replace hR2 := Lib.hid hR2
    replace hk02 := Lib.hid hk02
    replace he := Lib.hid he
    replace hs1 := Lib.hid hs1
    replace hn := Lib.hid hn
    replace hkB := Lib.hid hkB
    clear hk1 hx1 hx3 hx4 hn4 hs4 hR1 hk01 q0 c0 qlt y0 ylt
    go_wp2_with (first | go_in)
    go_ret
    rw [hrs.out]
    exact ⟨rfl, ⟨_, hR2.out, ho1.out⟩, hk02.out⟩
end Go.Proofs.Ytilmcdieihmiaaa

namespace Go.Proofs.Ytilmcdieihmiaaa
open Go.RowKit

variable {D : Nat}
theorem wpl_appS {ops : Array Oper} {rest : List Oper} {o : Oper} {a : Act} {Q : Exit → Act → World → Prop} (w : World) (base : Nat) (v : Value) (l : List UInt8) (hg : o.guard = none) (s t : Operand)
    (ho : o.op = .call { callee := .builtin .append, args := #[s, t], argTypes := #[23, 9] }) (hs : a.eval s = v) (m : List UInt8) (ht : a.eval t = .string (str m))
    (h : Buf w base v l) (hl : l.length + m.length ≤ 140737488355328) (hbase : base ≤ w.heap.size)
    (K : ∀ v' w', Buf w' base v' (l ++ m) → w.grownBy w' v.ownBlock → wpList Try.prog ops Q rest (a.put o.dst v') w') : wpList Try.prog ops Q (o :: rest) a w := by
  obtain ⟨i0, hi, hz0, hz1, hz2⟩ := info_parts infoB
  have hsz : (str m).size = m.length := rfl
  have hc : Lib.strCells (str m) = bys m := by simp [Lib.strCells, str, bys]
  refine Lib.wpList_append_own_string w hg s t _ _ ho base 5 i0 Try.underlying23 Try.underlying9 hi hz0 hz1 hz2 v l.length (bys l) hs h (str m) ht (by rw [hsz]; unfold maxLen; omega) (by rw [hsz]; omega) hbase ?_
  intro v' w' h1 h2 _
  rw [hc] at h1
  exact K v' w' (Buf.of h1) h2
theorem Buf.keepS {w w' : World} {base : Nat} {v : Value} {l : List UInt8} {S : List Nat} (h : Buf w base v l) (hk : Keeps S w w') (hS : ∀ b ∈ S, b < base) : Buf w' base v l :=
  ownsRow_block h (fun b hb hlt => hk.block b hlt (fun hm => by have := hS b hm; omega))
def fl (s : RS) : Int := if s.1 = [] then s.2 else 0
set_option maxRecDepth 100000 in
set_option maxHeartbeats 1000000 in
theorem failed_c (w : World) (br : Nat) (s : RS) (h : RdS w br D s) :
    Calls Try.prog 57 #[.pointer (some ⟨br, 0, none⟩)] w fun en w' => en = .returned (.int .i64 (fl s)) ∧ w = w' := by
  obtain ⟨l, e⟩ := s
  obtain ⟨v, h, _⟩ := h
  simp only at h
  replace h := Lib.hid h
  by_cases hl : l = []
  · subst hl
    go_enter Try.func57, Try.ntmps57
    go_wp2_with fail
    refine (left_c _ br v [] e h.out).mono ?_
    rintro en _ ⟨rfl, rfl⟩
    simp only [List.length_nil]
    go_wp2_with fail
    refine (done_c _ br v [] e h.out).mono ?_
    rintro en _ ⟨rfl, rfl⟩
    go_wp2
    go_ret
    exact ⟨by simp [doneE, fl], rfl⟩
  · have hp : (0 : Int) < l.length := by have := List.length_pos_iff.2 hl; omega
    go_enter Try.func57, Try.ntmps57
    go_wp2_with fail
    refine (left_c _ br v l e h.out).mono ?_
    rintro en _ ⟨rfl, rfl⟩
    go_wp2
    go_ret
    exact ⟨by simp [fl, hl], rfl⟩
/-- What the reading of the pieces gives: the error, the payload, the reader's state. -/
def rpl : Nat → RS → List UInt8 → Int × List UInt8 × RS
  | 0, s, acc => (fl s, acc, s)
  | m + 1, s, acc => if fl (rS s).2 ≠ 0 then (fl (rS s).2, [], (rS s).2) else if (rS s).1 = [] ∨ (0 < m ∧ (rS s).1.length ≠ 4096) then (11, [], (rS s).2) else rpl m (rS s).2 (acc ++ (rS s).1)
theorem rpl_succ (m : Nat) (s : RS) (acc : List UInt8) : rpl (m + 1) s acc = if fl (rS s).2 ≠ 0 then (fl (rS s).2, [], (rS s).2) else if (rS s).1 = [] ∨ (0 < m ∧ (rS s).1.length ≠ 4096) then (11, [], (rS s).2) else rpl m (rS s).2 (acc ++ (rS s).1) := rfl
def readP (l : List UInt8) : Int × List UInt8 × RS := rpl (rC l).1 (rC l).2 []
theorem rS_len (s : RS) : (rS s).1.length ≤ 4096 := by
  unfold rS
  split
  · split
    · rename_i h
      have := (sE_ok h).1
      simp; omega
    · simp
  · simp
structure PayI (w wr : World) (B br D N : Nat) (s0 : RS) (k : Nat) (v : Value) (s : RS) (acc : List UInt8) : Prop where
  buf : Buf wr B v acc
  rd : RdS wr br D s
  eq : rpl N s0 [] = rpl (N - k) s acc
  len : acc.length ≤ k * 4096
  keeps : Keeps [br] w wr
set_option maxRecDepth 100000 in
set_option maxHeartbeats 4000000 in
theorem readPayload_c (w : World) (br : Nat) (l : List UInt8) (h : RdS w br D (l, 0)) (hD : D < w.heap.size) :
    Calls Try.prog 59 #[.pointer (some ⟨br, 0, none⟩)] w fun en w' => ∃ v, en = .returned (.tuple #[v, .int .i64 (readP l).1]) ∧ Buf w' w.heap.size v (readP l).2.1 ∧ RdS w' br D (readP l).2.2 ∧ Keeps [br] w w' := by
  have hbr := h.lt
  have hN := rC_le l
  replace h := Lib.hid h
  go_enter Try.func59, Try.ntmps59
  go_wp2_with fail
  refine (countS_c w br l h.out).mono ?_
  rintro e w1 ⟨rfl, hR1, hk1⟩
  obtain ⟨N, hNe⟩ : ∃ N, (rC l).1 = N := ⟨_, rfl⟩
  obtain ⟨s0, hs0⟩ : ∃ s, (rC l).2 = s := ⟨_, rfl⟩
  rw [hNe] at hN ⊢
  rw [hs0] at hR1
  have hP : readP l = rpl N s0 [] := by unfold readP; rw [hNe, hs0]
  have hI : PayI w w1 w.heap.size br D N s0 0 (.slice none 0 0) s0 [] := ⟨Buf.nil _ _, hR1, rfl, by simp, hk1⟩
  replace hP := Lib.hid hP
  replace hI := Lib.hid hI
  clear hNe hs0 hR1 hk1
  go_wp2
  go_loopw [4, 12] (fun ov iv wr => ∃ (k : Nat) (s : RS) (acc : List UInt8), iv = .int .i64 k ∧ k ≤ N ∧ PayI w wr w.heap.size br D N s0 k ov s acc) (fun _ iv _ => N - (intOf iv).toNat)
  case atStart => exact ⟨0, s0, [], rfl, by omega, hI.out⟩
  case round =>
    obtain ⟨k, s, acc, rfl, hk, hI2⟩ := hrel
    clear hI
    obtain ⟨ao, co, hov⟩ := hI2.buf.form
    subst hov
    obtain ⟨AL, hAL⟩ : ∃ n, acc.length = n := ⟨_, rfl⟩
    rw [hAL] at hI2
    by_cases hlt : k < N
    · have hI3 := Lib.hid hI2
      clear hI2
      go_wp2_with fail
      refine (stringS_c wr br s hI3.out.rd).mono ?_
      rintro e wa ⟨rfl, hRa, hka⟩
      replace hRa := Lib.hid hRa
      replace hka := Lib.hid hka
      go_wp2_with fail
      refine (failed_c wa br _ hRa.out).mono ?_
      rintro e _ ⟨rfl, rfl⟩
      have hsucc : N - k = (N - (k + 1)) + 1 := by omega
      have heq := hI3.out.eq
      rw [hsucc, rpl_succ] at heq
      have hxl := rS_len s
      obtain ⟨x, hx⟩ : ∃ x, (rS s).1 = x := ⟨_, rfl⟩
      obtain ⟨s1, hs1⟩ : ∃ x, (rS s).2 = x := ⟨_, rfl⟩
      obtain ⟨E, hE⟩ : ∃ x, fl s1 = x := ⟨_, rfl⟩
      rw [hx, hs1, hE] at heq
      rw [hx] at hxl
      rw [hs1] at hRa
      rw [hx, hs1, hE]
      have hbuf := hI3.out.buf.keepS hka.out (by simp; exact hbr)
      have hkr := hI3.out.keeps.trans hka.out
      have hlen := hI3.out.len
      have hszr := hkr.size
      replace hbuf := Lib.hid hbuf
      replace hkr := Lib.hid hkr
      replace hRa := Lib.hid hRa.out
      clear hx hs1 hE hI3 hka hsucc
      by_cases hE0 : E = 0
      · subst hE0
        rw [if_neg (by simp)] at heq
        by_cases hxe : x = []
        · rw [if_pos (.inl hxe)] at heq
          have hxs : (str x).toList.isEmpty = true := by rw [hxe]; simp [str]
          replace hxe := Lib.hid hxe
          replace heq := Lib.hid heq
          go_wp2
          go_ret2
          rw [hP.out, heq.out]
          exact ⟨_, rfl, Buf.nil _ _, hRa.out, hkr.out⟩
        · have hxs : (str x).toList.isEmpty = false := by simp [str, hxe]
          obtain ⟨XL, hXL⟩ : ∃ n, x.length = n := ⟨_, rfl⟩
          have hsx : (str x).size = XL := hXL
          by_cases hbad : 0 < N - (k + 1) ∧ x.length ≠ 4096
          · rw [if_pos (.inr hbad)] at heq
            have hk1 : (k : Int) < (N : Int) - 1 := by omega
            have hx4 : ((XL : Int) != 4096) = true := by simp; omega
            replace heq := Lib.hid heq
            replace hbad := Lib.hid hbad
            replace hxe := Lib.hid hxe
            go_wp2
            go_ret2
            rw [hP.out, heq.out]
            exact ⟨_, rfl, Buf.nil _ _, hRa.out, hkr.out⟩
          · rw [if_neg (by simp only [not_or]; exact ⟨hxe, hbad⟩)] at heq
            have hok : (∃ _ : (k : Int) < (N : Int) - 1, ((XL : Int) != 4096) = false) ∨ ∃ _ : ¬ (k : Int) < (N : Int) - 1, True := by
              by_cases hc : (k : Int) < (N : Int) - 1
              · refine .inl ⟨hc, ?_⟩
                have : ¬ x.length ≠ 4096 := fun h => hbad ⟨by omega, h⟩
                simp; omega
              · exact .inr ⟨hc, trivial⟩
            replace heq := Lib.hid heq
            replace hbad := Lib.hid hbad
            replace hxe := Lib.hid hxe
            replace hXL := Lib.hid hXL
            rw [hXL.out] at hxl
            have hbase : w.heap.size ≤ wa.heap.size := hszr
            have fin : ∀ v2 w2, Buf w2 w.heap.size v2 (acc ++ x) → wa.grownBy w2 (Value.slice ao AL co).ownBlock → PayI w w2 w.heap.size br D N s0 (k + 1) v2 s1 (acc ++ x) := fun v2 w2 hB2 hg2 => by
              have hown : ∀ b, (Value.slice ao AL co).ownBlock = some b → w.heap.size ≤ b := fun b hb => ownBlock_ge hbuf.out b hb
              have hk2 : Keeps (Value.slice ao AL co).ownBlock.toList wa w2 := ⟨hg2.os, hg2.tape, hg2.output, hg2.size, fun i hi hn => hg2.block i hi (fun e => hn (by rw [← e]; simp))⟩
              refine ⟨hB2, hRa.out.keepS hk2 (fun hm => ?_) (fun hm => ?_), ?_, by rw [List.length_append, hXL.out]; omega, hkr.out.fresh hk2 (fun b hb => .inr (hown b (by simpa using hb)))⟩
              · have := hown br (by simpa using hm); omega
              · have := hown D (by simpa using hm); omega
              · exact heq.out
            replace fin := Lib.hid fin
            rcases hok with ⟨hc, hx4⟩ | ⟨hc, _⟩
            all_goals
              go_wp2_with (
                at_builtin
                refine wpl_appS wa w.heap.size (.slice ao AL co) acc rfl _ _ rfl rfl x rfl hbuf.out (by rw [hAL, hXL.out]; omega) hbase ?_
                intro v2 w2 hB2 hg2
                have hI9 := fin.out v2 w2 hB2 hg2
                obtain ⟨a2, c2, rfl⟩ := hB2.form
                replace hI9 := Lib.hid hI9
                clear hB2 hg2)
              go_roundw
              case rel => exact ⟨k + 1, s1, acc ++ x, rfl, by omega, by have := hI9.out; rw [List.length_append, hAL] at this; exact this⟩
              case measure => simp [intOf]; omega
      · rw [if_pos hE0] at heq
        have hEb : (E == 0) = false := by simp [hE0]
        replace heq := Lib.hid heq
        replace hE0 := Lib.hid hE0
        go_wp2
        go_ret2
        rw [hP.out, heq.out]
        exact ⟨_, rfl, Buf.nil _ _, hRa.out, hkr.out⟩
    · have hkN : k = N := by omega
      subst hkN
      have heq := hI2.eq
      rw [Nat.sub_self] at heq
      replace heq : rpl k s0 [] = (fl s, acc, s) := heq
      have hI3 := Lib.hid hI2
      clear hI2
      replace heq := Lib.hid heq
      go_wp2_with fail
      refine (failed_c wr br _ hI3.out.rd).mono ?_
      rintro e _ ⟨rfl, rfl⟩
      go_wp2
      go_ret2
      rw [hP.out, heq.out]
      exact ⟨_, rfl, hI3.out.buf, hI3.out.rd, hI3.out.keeps⟩
end Go.Proofs.Ytilmcdieihmiaaa

namespace Go.Proofs
open Go.Shelf
def Try.keysA_ren : Go.Shelf.Ren := ⟨fun | 7 => 55 | 10 => 73 | n => n, fun | 23 => 77 | 26 => 3 | 3 => 23 | 28 => 105 | 0 => 0 | 27 => 104 | 33 => 124 | 4 => 4 | n => n, fun | n => n⟩
theorem Try.keysA : Go.Proofs.SlLaysZI.n7 Try.prog Try.keysA_ren := {
  mixed := by kernel_rfl
  f7 := ⟨Try.f55.name, by decide, Try.func55.trans (congrArg some (by kernel_rfl))⟩
  f10 := ⟨Try.f73.name, by decide, Try.func73.trans (congrArg some (by kernel_rfl))⟩
  t0 := Try.underlying0
  a0 := Try.isAgg0
  z0 := Try.sizeOf0
  v0 := Try.zeroValue0
  t4 := Try.underlying4
  a4 := Try.isAgg4
  z4 := Try.sizeOf4
  v4 := Try.zeroValue4
  t23 := Try.underlying77
  a23 := Try.isAgg77
  z23 := Try.sizeOf77
  v23 := Try.zeroValue77
  t26 := Try.underlying3
  a26 := Try.isAgg3
  z26 := Try.sizeOf3
  v26 := Try.zeroValue3
  t27 := Try.underlying104
  a27 := Try.isAgg104
  z27 := Try.sizeOf104
  v27 := Try.zeroValue104
  t28 := Try.underlying105
  a28 := Try.isAgg105
  z28 := Try.sizeOf105
  v28 := Try.zeroValue105
  t33 := Try.underlying124
  a33 := Try.isAgg124
  z33 := Try.sizeOf124
  v33 := Try.zeroValue124 }
def Try.sortedA_ren : Go.Shelf.Ren := ⟨fun | 6 => 54 | 8 => 71 | 9 => 72 | 11 => 80 | 13 => 82 | 12 => 81 | 23 => 96 | 24 => 97 | 14 => 87 | 15 => 88 | 16 => 89 | 17 => 90 | 18 => 91 | 19 => 92 | 20 => 93 | 21 => 94 | 22 => 95 | 25 => 98 | 26 => 99 | 27 => 100 | 28 => 101 | 29 => 102 | 30 => 103 | 31 => 104 | n => n, fun | 26 => 3 | 28 => 105 | 24 => 102 | 0 => 0 | 3 => 3 | 37 => 117 | 48 => 144 | 50 => 83 | 4 => 4 | 40 => 136 | 39 => 135 | 45 => 141 | 5 => 5 | 9 => 9 | 51 => 146 | 55 => 149 | 57 => 151 | 58 => 152 | 33 => 124 | n => n, fun | n => n⟩
theorem Try.sortedA : Go.Proofs.SlLaysZI.n6 Try.prog Try.sortedA_ren := {
  mixed := by kernel_rfl
  f6 := ⟨Try.f54.name, by decide, Try.func54.trans (congrArg some (by kernel_rfl))⟩
  f8 := ⟨Try.f71.name, by decide, Try.func71.trans (congrArg some (by kernel_rfl))⟩
  f11 := ⟨Try.f80.name, by decide, Try.func80.trans (congrArg some (by kernel_rfl))⟩
  t0 := Try.underlying0
  a0 := Try.isAgg0
  z0 := Try.sizeOf0
  v0 := Try.zeroValue0
  t24 := Try.underlying102
  a24 := Try.isAgg102
  z24 := Try.sizeOf102
  v24 := Try.zeroValue102
  t26 := Try.underlying3
  a26 := Try.isAgg3
  z26 := Try.sizeOf3
  v26 := Try.zeroValue3
  t28 := Try.underlying105
  a28 := Try.isAgg105
  z28 := Try.sizeOf105
  v28 := Try.zeroValue105
  i26 := by kernel_rfl }
def Try.sortA_ren : Go.Shelf.Ren := ⟨fun | 5 => 72 | 8 => 82 | 7 => 81 | 19 => 96 | 20 => 97 | 10 => 87 | 11 => 88 | 12 => 89 | 13 => 90 | 14 => 91 | 15 => 92 | 16 => 93 | 17 => 94 | 18 => 95 | 30 => 98 | 31 => 99 | 32 => 100 | 33 => 101 | 34 => 102 | 35 => 103 | 40 => 104 | n => n, fun | 23 => 102 | 25 => 3 | 3 => 3 | 32 => 117 | 22 => 102 | 0 => 0 | 44 => 144 | 46 => 83 | 4 => 4 | 36 => 136 | 35 => 135 | 41 => 141 | 5 => 5 | 9 => 9 | 53 => 146 | 57 => 149 | 63 => 151 | 64 => 152 | n => n, fun | n => n⟩
theorem Try.sortA : Go.Proofs.SlLaysM.n5 Try.prog Try.sortA_ren := {
  mixed := by kernel_rfl
  f5 := ⟨Try.f72.name, by decide, Try.func72.trans (congrArg some (by kernel_rfl))⟩
  f7 := ⟨Try.f81.name, by decide, Try.func81.trans (congrArg some (by kernel_rfl))⟩
  f8 := Try.func82.trans (congrArg some (by kernel_rfl))
  f10 := ⟨Try.f87.name, by decide, Try.func87.trans (congrArg some (by kernel_rfl))⟩
  f11 := ⟨Try.f88.name, by decide, Try.func88.trans (congrArg some (by kernel_rfl))⟩
  f12 := ⟨Try.f89.name, by decide, Try.func89.trans (congrArg some (by kernel_rfl))⟩
  f13 := ⟨Try.f90.name, by decide, Try.func90.trans (congrArg some (by kernel_rfl))⟩
  f14 := ⟨Try.f91.name, by decide, Try.func91.trans (congrArg some (by kernel_rfl))⟩
  f15 := ⟨Try.f92.name, by decide, Try.func92.trans (congrArg some (by kernel_rfl))⟩
  f16 := ⟨Try.f93.name, by decide, Try.func93.trans (congrArg some (by kernel_rfl))⟩
  f17 := ⟨Try.f94.name, by decide, Try.func94.trans (congrArg some (by kernel_rfl))⟩
  f18 := ⟨Try.f95.name, by decide, Try.func95.trans (congrArg some (by kernel_rfl))⟩
  f19 := Try.func96.trans (congrArg some (by kernel_rfl))
  f20 := Try.func97.trans (congrArg some (by kernel_rfl))
  f30 := ⟨Try.f98.name, by decide, Try.func98.trans (congrArg some (by kernel_rfl))⟩
  f31 := Try.func99.trans (congrArg some (by kernel_rfl))
  f32 := Try.func100.trans (congrArg some (by kernel_rfl))
  f33 := ⟨Try.f101.name, by decide, Try.func101.trans (congrArg some (by kernel_rfl))⟩
  f34 := ⟨Try.f102.name, by decide, Try.func102.trans (congrArg some (by kernel_rfl))⟩
  f35 := ⟨Try.f103.name, by decide, Try.func103.trans (congrArg some (by kernel_rfl))⟩
  f40 := ⟨Try.f104.name, by decide, Try.func104.trans (congrArg some (by kernel_rfl))⟩
  t0 := Try.underlying0
  a0 := Try.isAgg0
  z0 := Try.sizeOf0
  v0 := Try.zeroValue0
  t3 := Try.underlying3
  a3 := Try.isAgg3
  z3 := Try.sizeOf3
  v3 := Try.zeroValue3
  t4 := Try.underlying4
  a4 := Try.isAgg4
  z4 := Try.sizeOf4
  v4 := Try.zeroValue4
  t5 := Try.underlying5
  a5 := Try.isAgg5
  z5 := Try.sizeOf5
  v5 := Try.zeroValue5
  t9 := Try.underlying9
  a9 := Try.isAgg9
  z9 := Try.sizeOf9
  v9 := Try.zeroValue9
  t22 := Try.underlying102
  a22 := Try.isAgg102
  z22 := Try.sizeOf102
  v22 := Try.zeroValue102
  t23 := Try.underlying102
  a23 := Try.isAgg102
  z23 := Try.sizeOf102
  v23 := Try.zeroValue102
  t25 := Try.underlying3
  a25 := Try.isAgg3
  z25 := Try.sizeOf3
  v25 := Try.zeroValue3
  t32 := Try.underlying117
  a32 := Try.isAgg117
  z32 := Try.sizeOf117
  v32 := Try.zeroValue117
  t35 := Try.underlying135
  a35 := Try.isAgg135
  z35 := Try.sizeOf135
  v35 := Try.zeroValue135
  t36 := Try.underlying136
  a36 := Try.isAgg136
  z36 := Try.sizeOf136
  v36 := Try.zeroValue136
  t41 := Try.underlying141
  a41 := Try.isAgg141
  z41 := Try.sizeOf141
  v41 := Try.zeroValue141
  t44 := Try.underlying144
  a44 := Try.isAgg144
  z44 := Try.sizeOf144
  v44 := Try.zeroValue144
  t46 := Try.underlying83
  a46 := Try.isAgg83
  z46 := Try.sizeOf83
  v46 := Try.zeroValue83
  t53 := Try.underlying146
  a53 := Try.isAgg146
  z53 := Try.sizeOf146
  v53 := Try.zeroValue146
  t57 := Try.underlying149
  a57 := Try.isAgg149
  z57 := Try.sizeOf149
  v57 := Try.zeroValue149
  t63 := Try.underlying151
  a63 := Try.isAgg151
  z63 := Try.sizeOf151
  v63 := Try.zeroValue151
  t64 := Try.underlying152
  a64 := Try.isAgg152
  z64 := Try.sizeOf152
  v64 := Try.zeroValue152 }
def Try.growA_ren : Go.Shelf.Ren := ⟨fun | 4 => 84 | n => n, fun | 22 => 23 | 25 => 5 | 3 => 3 | 4 => 4 | 9 => 9 | 20 => 20 | 0 => 0 | n => n, fun | n => n⟩
theorem Try.growA : Go.Proofs.Lays8.n4 Try.prog Try.growA_ren := {
  mixed := by kernel_rfl
  f4 := ⟨Try.f84.name, by decide, Try.func84.trans (congrArg some (by kernel_rfl))⟩
  t0 := Try.underlying0
  a0 := Try.isAgg0
  z0 := Try.sizeOf0
  v0 := Try.zeroValue0
  t3 := Try.underlying3
  a3 := Try.isAgg3
  z3 := Try.sizeOf3
  v3 := Try.zeroValue3
  t4 := Try.underlying4
  a4 := Try.isAgg4
  z4 := Try.sizeOf4
  v4 := Try.zeroValue4
  t9 := Try.underlying9
  a9 := Try.isAgg9
  z9 := Try.sizeOf9
  v9 := Try.zeroValue9
  t20 := Try.underlying20
  a20 := Try.isAgg20
  z20 := Try.sizeOf20
  v20 := Try.zeroValue20
  t22 := Try.underlying23
  a22 := Try.isAgg23
  z22 := Try.sizeOf23
  v22 := Try.zeroValue23 }
end Go.Proofs

namespace Go.Proofs.Ytilmcdieihmiaaa
open Go.RowKit Go.Shelf Go.Proofs

/-- What the growth of a buffer leaves, draws and other makings between. -/
structure GK (a w : World) (v v' : Value) : Prop where
  keeps : Keeps v.ownBlock.toList a w
  own : v'.ownBlock = v.ownBlock ∨ ∃ k, v'.ownBlock = some k ∧ a.heap.size ≤ k
theorem GK.refl (a : World) (v : Value) : GK a a v v := ⟨Keeps.refl _ _, .inl rfl⟩
theorem GK.then {a w w' : World} {v v' : Value} (h : GK a w v v') (k : Keeps [] w w') : GK a w' v v' := ⟨h.keeps.trans k.of_nil, h.own⟩
theorem GK.grw {a w w' : World} {v v' x : Value} (h : GK a w v v') (k : Grw w w' v' x) : GK a w' v x := by
  refine ⟨h.keeps.fresh k.keepsO (fun b hb => ?_), ?_⟩
  · rcases h.own with e | ⟨j, e, hj⟩
    · rw [e] at hb; exact .inl hb
    · rw [e] at hb; simp at hb; subst hb; exact .inr hj
  · rcases k.own with e | ⟨j, e, hj⟩
    · rw [e]; exact h.own
    · exact .inr ⟨j, e, Nat.le_trans h.keeps.size hj⟩
theorem GK.trans {a w w' : World} {v v' x : Value} (h : GK a w v v') (k : GK w w' v' x) : GK a w' v x := by
  refine ⟨h.keeps.fresh k.keeps (fun b hb => ?_), ?_⟩
  · rcases h.own with e | ⟨j, e, hj⟩
    · rw [e] at hb; exact .inl hb
    · rw [e] at hb; simp at hb; subst hb; exact .inr hj
  · rcases k.own with e | ⟨j, e, hj⟩
    · rw [e]; exact h.own
    · exact .inr ⟨j, e, Nat.le_trans h.keeps.size hj⟩
theorem Grw.gk {w w' : World} {v v' : Value} (k : Grw w w' v v') : GK w w' v v' := (GK.refl w v).grw k
theorem GK.nil {w0 a w : World} {v v' : Value} (h : GK a w v v') (hk : Keeps [] w0 a) (hv : ∀ b, v.ownBlock = some b → w0.heap.size ≤ b) : Keeps [] w0 w :=
  hk.fresh h.keeps (fun b hb => .inr (hv b (by simpa using hb)))
theorem GK.ne {w w' : World} {v v' : Value} (g : GK w w' v v') {X : Nat} (hv : v.ownBlock ≠ some X) (hX : X < w.heap.size) : v'.ownBlock ≠ some X := by
  rcases g.own with e | ⟨k, e, hk⟩
  · rw [e]; exact hv
  · rw [e]; intro h; cases h; omega
/-- The buffer with room for `n` bytes more: the row goes on behind the slice. -/
def Room (w : World) (base : Nat) (v : Value) (l : List UInt8) (n : Nat) : Prop :=
  ∃ g cap cur, v = .slice (some ⟨g, 0, none⟩) l.length cap ∧ base ≤ g ∧ w.heap[g]? = some (.cells cur 5 (0, 0)) ∧ cur.size = cap ∧ l.length + n ≤ cap ∧ cap ≤ maxLen ∧ cur.toList.take l.length = bys l
theorem byteCells_bys (l : List UInt8) : Lib.byteCells l = bys l := by simp [Lib.byteCells, bys]
/-- The room is filled. -/
theorem Room.fill {w : World} {base : Nat} {v : Value} {l m : List UInt8} (h : Room w base v l m.length) :
    ∃ g cap cur, v = .slice (some ⟨g, 0, none⟩) l.length cap ∧ l.length + m.length ≤ cap ∧ cap ≤ maxLen ∧ base ≤ g ∧ g < w.heap.size ∧
      (∀ ty dCap, (Builtin.copy_ #[23, 9] ty #[.slice (some ⟨g, l.length, none⟩) m.length dCap, .string (str m)]).run Try.prog w = .ok (goInt m.length) (w.setRow g cur)) ∧
      Buf (w.setRow g cur) base (.slice (some ⟨g, 0, none⟩) (l.length + m.length) cap) (l ++ m) ∧ Keeps [g] w (w.setRow g cur) := by
  obtain ⟨g, cap, cur, rfl, hb, hg, hsz, hle, hcm, htk⟩ := h
  have hsm : (str m).size = m.length := rfl
  refine ⟨g, cap, (cur.toList.take l.length ++ Lib.byteCells (str m).data.toList ++ cur.toList.drop (l.length + m.length)).toArray, rfl, hle, hcm, hb, (Array.getElem?_eq_some_iff.1 hg).1, fun ty dCap => ?_, ?_, ?_⟩
  · have := Lib.run_copy_row_string (P := Try.prog) w 23 9 ty 5 g l.length m.length dCap (str m) cur _ Try.underlying23 (by kernel_rfl) hg (by rw [hsm]; exact Nat.le_refl _) (by rw [hsm, hsz]; exact hle)
    rw [hsm] at this
    exact this
  · have e1 : Lib.byteCells (str m).data.toList = bys m := by rw [byteCells_bys]; rfl
    rw [e1, htk, ← bys_append]
    refine ⟨by simp, .inr ⟨g, cap, _, by rw [List.length_append], hb, setRow_heap w g cur _ _ (0, 0) hg, ?_, hcm, ?_, ?_⟩⟩
    · rw [List.length_append]; exact hle
    · have : cur.toList.length = cap := by simpa using hsz
      simp; omega
    · have e3 : (bys (l ++ m)).length = l.length + m.length := by simp
      simp only [Nat.mul_one]
      rw [List.length_append, List.take_append_of_le_length (by omega), List.take_of_length_le (by omega)]
  · exact ⟨rfl, rfl, rfl, by simp [World.setRow], fun k hk hS => setRow_other _ _ _ _ (by simpa using hS)⟩
theorem Buf.room {w : World} {base g cap : Nat} {l : List UInt8} (h : Buf w base (.slice (some ⟨g, 0, none⟩) l.length cap) l) (n : Nat) (hn : l.length + n ≤ cap) : Room w base (.slice (some ⟨g, 0, none⟩) l.length cap) l n := by
  rcases h.2 with ⟨e, _⟩ | ⟨g', cap', cur, e, h1, h2, h3, h4, h5, h6⟩
  · cases e
  · cases e
    exact ⟨g, cap, cur, rfl, h1, h2, by simpa using h5, hn, h4, by simpa using h6⟩
theorem grow_c (w : World) (base g cap : Nat) (l : List UInt8) (n : Nat) (h : Buf w base (.slice (some ⟨g, 0, none⟩) l.length cap) l) (hn : l.length + n ≤ 140737488355328) (hb : base ≤ w.heap.size) :
    Calls Try.prog 84 #[.slice (some ⟨g, 0, none⟩) l.length cap, .int .i64 n] w fun e w' => ∃ v', e = .returned v' ∧ Room w' base v' l n ∧ GK w w' (.slice (some ⟨g, 0, none⟩) l.length cap) v' := by
  rcases h.2 with ⟨e, _⟩ | ⟨g', cap', cur, e, h1, h2, h3, h4, h5, h6⟩
  · cases e
  · cases e
    unfold maxLen at h4
    by_cases hr : l.length + n ≤ cap
    · refine (Any8.slices_Grow_room Try.growA _ _ _ _ w h3 (by omega) (by omega) hr).mono ?_
      rintro e w' ⟨rfl, rfl⟩
      exact ⟨_, rfl, h.room n hr, GK.refl _ _⟩
    · obtain ⟨i0, hi, hz0, hz1, hz2⟩ := info_parts infoB
      refine (Any8.slices_Grow_grow Try.growA i0 (.int .u8 0) hi hz0 (by omega) (some ⟨g, 0, none⟩) l.length cap n cur.toList w h3 (by omega) (by rw [hz2]; omega) (by omega) (by rw [hz1]; simpa using h5) (by simp) ?_).mono ?_
      · intro a ha j v hj
        cases ha
        have : (⟨g, 0, none⟩ : Addr).add j = ⟨g, j, none⟩ := by simp [Addr.add]; intro e; exact e.symm
        rw [this]
        simp [World.cell?, h2]
        simpa using hj
      · rintro e w' ⟨rfl, rfl⟩
        have hG := grownCap_ge w (l.length + n) cap (Try.growA_ren.t 25)
        have hGm := grownCap_le_maxLen w (l.length + n) cap (Try.growA_ren.t 25) (by unfold maxLen; omega)
        have e25 : Try.growA_ren.t 25 = 5 := rfl
        rw [e25] at hG hGm ⊢
        obtain ⟨G, hGe⟩ : ∃ G, grownCap w (l.length + n) cap 5 = G := ⟨_, rfl⟩
        rw [hGe] at hG hGm ⊢
        refine ⟨_, rfl, ⟨w.heap.size, G, _, rfl, hb, heap_alloc_new w.drew _, ?_, hG, hGm, ?_⟩, ((Keeps.refl [] w).drew.alloc _).of_nil, .inr ⟨_, rfl, Nat.le_refl _⟩⟩
        · have h5' : cur.size = cap := by simpa using h5
          simp [Builtin.zeroCells, Value.cells]
          omega
        · have h5' : cur.size = cap := by simpa using h5
          have h6' : cur.toList.take l.length = bys l := by simpa using h6
          simp only [Array.toList_append, Array.toArray_toList]
          rw [List.append_assoc, List.take_append_of_le_length (by simpa [h5'] using h3)]
          exact h6'
/-- The bytes of a string. -/
def encS (m : List UInt8) : List UInt8 := encU m.length ++ m
theorem Keeps.to_gk {S : List Nat} {w w' : World} {v : Value} (h : Keeps S w w') (hS : ∀ b ∈ S, v.ownBlock = some b) : GK w w' v v := ⟨h.mono (fun b hb => by simpa using hS b hb), .inl rfl⟩
set_option maxRecDepth 100000 in
set_option maxHeartbeats 2000000 in
theorem appS_c (w : World) (base : Nat) (v0 : Value) (l m : List UInt8) (h : Buf w base v0 l) (hm : 0 < m.length) (hl : l.length + m.length ≤ 140737488355000) (hb : base ≤ w.heap.size) :
    Calls Try.prog 75 #[v0, .string (str m)] w fun e w' => ∃ v', e = .returned v' ∧ Buf w' base v' (l ++ encS m) ∧ GK w w' v0 v' := by
  obtain ⟨s, hs⟩ : ∃ s, str m = s := ⟨_, rfl⟩
  obtain ⟨M, hM⟩ : ∃ M, m.length = M := ⟨_, rfl⟩
  have hsz : s.size = M := by rw [← hs, ← hM]; rfl
  have hu := encU_len (n := M) (by omega)
  have hfin : l ++ encS m = (l ++ encU M) ++ m := by unfold encS; rw [hM, List.append_assoc]
  rw [hfin, hs]
  rw [hM] at hm hl
  replace hs := Lib.hid hs
  replace hM := Lib.hid hM
  clear hfin
  go_enter Try.func75, Try.ntmps75
  go_wp2_with fail
  refine (appU_c w base v0 l M h (by omega) (by omega) hb).mono ?_
  rintro e w1 ⟨v1, rfl, hB1, hG1⟩
  have hg1 := hG1.gk
  have hs1 := hG1.grown.size
  have hUl : (l ++ encU M).length = l.length + (encU M).length := List.length_append
  have hUp : 0 < (encU M).length := by unfold encU; simp
  obtain ⟨g1, c1, rfl⟩ : ∃ g c, v1 = .slice (some ⟨g, 0, none⟩) (l ++ encU M).length c := by
    rcases hB1.2 with ⟨_, e0⟩ | ⟨g, c, cur, e, _⟩
    · omega
    · exact ⟨g, c, e⟩
  obtain ⟨L1, hL1⟩ : ∃ L, l ++ encU M = L := ⟨_, rfl⟩
  rw [hL1] at hB1 hUl ⊢
  obtain ⟨N1, hN1⟩ : ∃ n, L1.length = n := ⟨_, rfl⟩
  rw [hN1] at hUl ⊢
  have hGr := grow_c w1 base g1 c1 L1 M (by rw [hN1] at hB1 ⊢; exact hB1) (by omega) (by omega)
  rw [hN1] at hGr
  have hN9 : N1 ≤ l.length + 9 := by omega
  have hN0 : 0 < N1 := by omega
  clear hUl hUp hu
  replace hL1 := Lib.hid hL1
  replace hN1 := Lib.hid hN1
  replace hB1 := Lib.hid hB1
  replace hg1 := Lib.hid hg1
  clear h hG1
  go_wp2_with fail
  refine hGr.mono ?_
  rintro e w2 ⟨v2, rfl, hR2, hg2⟩
  rw [← hM.out] at hR2
  obtain ⟨g2, c2, cur, rfl, hle, hcm, hbg, hgl, hcp, hB3, hk3⟩ := hR2.fill
  rw [hs.out, hM.out, hN1.out] at hcp
  rw [hM.out, hN1.out] at hle hB3
  unfold maxLen at hcm
  rw [hN1.out]
  replace hB3 := Lib.hid hB3
  replace hk3 := Lib.hid hk3
  replace hg2 := Lib.hid hg2
  have hne : ¬ (c2 = N1) := by omega
  have hsub : N1 + M - N1 = M := by omega
  have hw1 : IntKind.i64.wrap ((N1 : Int) + M) = ((N1 + M : Nat) : Int) := by rw [IntWalk.i64_in _ (by omega)]; omega
  clear hR2 hGr
  go_wp2
  go_ret
  refine ⟨_, rfl, by rw [hL1.out]; exact hB3.out, ?_⟩
  have q1 : GK w w1 v0 (.slice (some ⟨g1, 0, none⟩) N1 c1) := ⟨hg1.out.keeps, hg1.out.own⟩
  have q2 : GK w w2 v0 (.slice (some ⟨g2, 0, none⟩) (N1 + M) c2) := ⟨(q1.trans hg2.out).keeps, (q1.trans hg2.out).own⟩
  exact q2.trans (hk3.out.to_gk (by simp [Value.ownBlock]))
end Go.Proofs.Ytilmcdieihmiaaa

namespace Go.Proofs.Ytilmcdieihmiaaa
open Go.RowKit
attribute [local go_sem] Oper.semAt_some
section
variable {F : Fence} {n : Nat} {P : Program} {w : World}

def endPostV (B : Nat) (J : Nat → World → Prop) (k : Nat) (W : World) : Exit → Act → World → Prop
  | .normal, _, W' => KeepsFrom B W W' ∧ J (k + 1) W'
  | _, _, _ => False
/-- An iterator that hands out `xv 0`, .. `xv (N - 1)`, over whatever its caller says. -/
def GivesV (F : Fence) (n : Nat) (P : Program) (gf : Nat) (lb : Array Value) (N : Nat) (xv : Nat → Value) (J : Nat → World → Prop) : Prop :=
  ∀ (l : Nat) (JJ : Nat → World → Prop) (W1 : World), (∀ k W, JJ k W → J k W) → (∀ k W m, JJ k W → JJ k (W.drewN m)) →
    (∀ k W, JJ k W → k < N → YieldAt F (n - 1) P l #[xv k] W fun e W' => e = .returned (.bool true) ∧ JJ (k + 1) W') → JJ 0 W1 →
    CallsIn F n P gf (#[.func (.yield l) #[] #[]] ++ lb) W1 fun e W' => (∃ v, e = .returned v) ∧ JJ N W'

theorem wpIn_rangeFunc_vals {g : Operand} {ps : Array Tmp} {assign body : Code} {Q : Exit → Act → World → Prop} {a : Act}
    (hro : F.round = none) (h1 : 1 ≤ n) {gf : Nat} {lb : Array Value} (hg : a.eval g = .func (.func gf) #[] lb) (hFg : F.fn gf) (eg : ∀ args w, (callFunc gf args).run P w = .ok (.enter gf args) w) (hps : ps.size = 1)
    (N : Nat) (xv : Nat → Value) (J : Nat → World → Prop) (hseq : GivesV F (n - 1) P gf lb N xv J)
    (hJdrew : ∀ k W m, J k W → J k (W.drewN m))
    (hJput : ∀ k (W : World) (l : Nat) (o o' : Obj), w.heap.size ≤ l → W.heap[l]? = some o → o.isCells = false → J k W → J k (W.putObj l o'))
    (h0 : ∀ W, Keeps [] w W → J 0 W) (a₁ : Value → Act)
    (hassign : ∀ (l : Nat) (x : Value) (W : World) (K : Act → World → Prop), K (a₁ x) W →
      assign.wpIn (F.inRound l) (n - 1 - 1) P (Exit.then K (fun _ _ _ => False)) { tmps := (ps.zip #[x]).foldl (fun t (p, v) => t.setIfInBounds p v) a.tmps, defers := [] } W)
    (hbody : ∀ (l : Nat) (k : Nat) (W : World), J k W → k < N → body.wpIn (F.inRound l) (n - 1 - 1) P (endPostV w.heap.size J k W) (a₁ (xv k)) W)
    (hdone : ∀ (D : Nat) (W : World), w.heap.size ≤ D → J N W → W.heap[D]? = some (.deferred (some [])) → Q .normal { a with defers := { target := .collected D, args := #[] } :: a.defers } W) :
    (Code.rangeFunc g ps assign body).wpIn F n P Q a w := by
  refine wpIn_rangeFunc ?_
  intro fn hfn
  rw [hro]
  obtain ⟨rec, hrec⟩ : ∃ rec : LoopState → Option Code → Loop, rec = fun st pe => { state := st, pending := pe, fn, tmps := a.tmps, params := ps, assign, body, defers := w.heap.size } := ⟨_, rfl⟩
  obtain ⟨W1, hW1⟩ : ∃ W1, (w.alloc (.deferred (some []))).alloc (.loop (rec .ready none)) = W1 := ⟨_, rfl⟩
  have hL1 : W1.heap[w.heap.size + 1]? = some (.loop (rec .ready none)) := by
    rw [← hW1]; have := World.alloc_heap_new (w.alloc (.deferred (some []))) (.loop (rec .ready none)); rwa [World.size_alloc] at this
  have hK1 : W1.heap[w.heap.size]? = some (.deferred (some [])) := by
    rw [← hW1]; exact (Below.heap_alloc _ _ _ (by simp)).trans (World.alloc_heap_new w _)
  have hI1 : J 0 W1 := by rw [← hW1]; exact h0 _ (((Keeps.refl _ _).alloc _).alloc _)
  refine ⟨w.heap.size + 1, [{ target := .collected w.heap.size, args := #[] }], W1, { target := .fn (.func gf) lb, args := #[.func (.yield (w.heap.size + 1)) #[] #[]] }, W1, gf,
    #[.func (.yield (w.heap.size + 1)) #[] #[]] ++ lb, W1, ?_, ?_, ?_, ?_, fun _ => h1, ?_⟩
  · rw [← hW1, hrec]; exact run_enterLoop_outer _ _ _ _ _
  · simp only [resolve, hg]
    simp [go_sem]
  · intro f' hf'; simp [Target.leads] at hf'; subst hf'; exact hFg
  · simp [invoke, go_sem, eg]
  · refine (hseq (w.heap.size + 1)
      (fun k W => J k W ∧ W.heap[w.heap.size + 1]? = some (.loop (rec .ready none)) ∧ W.heap[w.heap.size]? = some (.deferred (some [])))
      W1 (fun _ _ h => h.1) (fun k W m h => ⟨hJdrew k W m h.1, h.2.1, h.2.2⟩)
      ?_ ⟨hI1, hL1, hK1⟩).mono ?_
    · -- one round
      rintro k W ⟨hi, hl, hk⟩ hlen
      have hlt : w.heap.size + 1 < W.heap.size := (Array.getElem?_eq_some_iff.1 hl).1
      have hy := run_yield (P := P) (args := #[xv k]) hl (by rw [hrec]; simp [hps])
      rw [hrec] at hy
      refine ⟨fn, _, assign, body, hy, roundIn_of_wpIn hfn (hassign _ (xv k) W _ ⟨_, run_beginRound hl (by rw [hrec]), ?_⟩)⟩
      have hl2 : (W.putObj (w.heap.size + 1) (.loop { rec .ready none with state := .busy })).heap[w.heap.size + 1]? = some (.loop { rec .ready none with state := .busy }) := World.putObj_heap_same hlt
      have hk2 : (W.putObj (w.heap.size + 1) (.loop { rec .ready none with state := .busy })).heap[w.heap.size]? = some (.deferred (some [])) := (World.putObj_heap_other (by omega)).trans hk
      refine wpIn_mono (hbody _ k _ (hJput k _ _ _ _ (by omega) hl rfl hi) hlen) ?_
      rintro e a3 W3 hp
      cases e with
      | normal =>
        obtain ⟨hk3, hi3⟩ := hp
        have hl3 := hk3.same _ _ (by omega) hl2 rfl
        have hr := run_endRound (P := P) none hl3
        rw [hrec] at hr
        have hl3' := hl3
        rw [hrec] at hl3'
        have hlt3 := (Array.getElem?_eq_some_iff.1 hl3).1
        have hk4 := hk3.same _ _ (Nat.le_refl _) hk2 rfl
        refine ⟨_, _, hr, rfl, hJput _ _ _ _ _ (by omega) hl3 rfl hi3, ?_, (World.putObj_heap_other (by omega)).trans hk4⟩
        rw [hrec]
        exact World.putObj_heap_same hlt3
      | ret => exact hp.elim
      | exit id => exact hp.elim
      | goto t => exact hp.elim
      | panic ch => exact hp.elim
      | outgrown => exact hp.elim
    · -- behind the iterator
      rintro e W2 ⟨⟨v, rfl⟩, hi, hl, hk⟩
      refine ⟨none, _, by have := run_endLoop (P := P) hl (by rw [hrec]; simp); rw [hrec] at this; exact this, hdone _ _ (Nat.le_refl _) (hJput _ _ _ _ _ (by omega) hl rfl hi) ((World.putObj_heap_other (by omega)).trans hk)⟩
end
/-- The pieces of at most 4096. -/
def pcs (L : Nat) : Nat := (L + 4095) / 4096
def pcl (L k : Nat) : Nat := min 4096 (L - k * 4096)
def pcv (g o L k : Nat) : Value := .slice (some ⟨g, o + k * 4096, none⟩) (pcl L k) (pcl L k)
set_option maxRecDepth 100000 in
set_option maxHeartbeats 4000000 in
theorem chunk1_gives (n B1 B2 g o L c : Nat) (a : Option Addr) (J : Nat → World → Prop) (hn : 1 ≤ n) (ha : 0 < L → a = some ⟨g, o, none⟩) (hLc : L ≤ c) (hc : c ≤ maxLen) (hL48 : L ≤ 140737488355328)
    (hJ : ∀ k W, J k W → W.heap[B1]? = some (.cells #[.slice a L c] 23 (0, 0)) ∧ W.heap[B2]? = some (.cells #[.int .i64 4096] 3 (0, 0))) :
    GivesV Fence.wide n Try.prog 83 #[.pointer (some ⟨B1, 0, none⟩), .pointer (some ⟨B2, 0, none⟩)] (pcs L) (pcv g o L) J := by
  intro l JJ W1 h1 h2 hY h0
  unfold maxLen at hc
  have hpcs : ∀ k, k < pcs L ↔ k * 4096 < L := fun k => by unfold pcs; omega
  refine callsIn_of_wp Try.func83 rfl trivial ?_ rfl
  simp only [Try.ntmps83, List.size_toArray, List.length_cons, List.length_nil, Nat.reduceAdd, Nat.reduceSub, Array.replicate_succ, Array.replicate_zero, List.push_toArray, List.append_toArray, List.nil_append, List.cons_append]
  gi_wp2
  gi_loopw [4] (fun iv wr => ∃ k, iv = .int .i64 ((k * 4096 : Nat) : Int) ∧ JJ k wr ∧ k ≤ pcs L) (fun iv wr => pcs L + 1 - (intOf iv).toNat / 4096)
  case atStart => exact ⟨0, rfl, h0, by omega⟩
  case round =>
    obtain ⟨k, rfl, hj, hk⟩ := hrel
    obtain ⟨b1, b2⟩ := hJ _ _ (h1 _ _ hj)
    obtain ⟨c1, f1, _⟩ := cell1_of b1
    obtain ⟨c2, f2, _⟩ := cell1_of b2
    by_cases hlt : k < pcs L
    · have hkL := (hpcs k).1 hlt
      have hkI : ((k * 4096 : Nat) : Int) < L := by omega
      have hx := ha (by omega)
      subst hx
      have hpl : pcl L k ≤ 4096 ∧ k * 4096 + pcl L k ≤ L := by unfold pcl; omega
      obtain ⟨E, hE⟩ : ∃ E, pcl L k = E := ⟨_, rfl⟩
      have hyv : pcv g o L k = .slice (some ⟨g, o + k * 4096, none⟩) E E := by unfold pcv; rw [hE]
      obtain ⟨i, hi⟩ : ∃ i, k * 4096 = i := ⟨_, rfl⟩
      have hyq := fun nq => hY k (wr.drewN nq) (h2 _ _ nq hj) hlt
      rw [hyv] at hyq
      rw [hi] at hkI hpl hyq ⊢
      have hmin2 : min (4096 : Int) ((L - i : Nat) : Int) = (E : Int) := by
        rw [← hE]
        unfold pcl
        have := hi
        omega
      have hmin : (if ((L - i : Nat) : Int) < 4096 then ((L - i : Nat) : Int) else 4096) = (E : Int) := by
        have : min 4096 (L - i) = E := by rw [← hi, ← hE]; rfl
        split <;> omega
      rw [hE] at hpl
      have hic : ¬ (c = i) := by omega
      gi_wp2
      refine wpIn_wide.2 ?_
      (refine wp_region_quiet_lit (by kernel_rfl) (by kernel_rfl) ?_; (repeat (first | go_big_quiet_step (fail) | quiet_step (fail))); with_reducible refine wpQuiet_nil ?_; intro _ hw'; obtain ⟨nq, hw''⟩ := hw'; subst hw'')
      obtain ⟨fn, tmps, assign, body, hy, hR⟩ := hyq nq
      clear hmin hmin2 hyq hyv
      have hkI2 : ((i + 4096 : Nat) : Int) = (i : Int) + 4096 := by omega
      have hw1 : IntKind.i64.wrap ((i : Int) + E) = ((i + E : Nat) : Int) := by rw [IntWalk.i64_in _ (by omega)]; omega
      have hw2 : IntKind.i64.wrap ((i : Int) + 4096) = ((i + 4096 : Nat) : Int) := by rw [IntWalk.i64_in _ (by omega)]; omega
      have hE4 : i + E - i = E := by omega
      have hEp : 0 < E := by have hi2 := hi; rw [← hE]; unfold pcl; omega
      gi_wp2
      refine hR.mono ?_
      rintro e W' ⟨rfl, hj'⟩
      obtain ⟨d1, d2⟩ := hJ _ _ (h1 _ _ hj')
      obtain ⟨e1, g1, _⟩ := cell1_of d1
      obtain ⟨e2, g2, _⟩ := cell1_of d2
      gi_wp2
      refine ⟨⟨k + 1, by rw [Nat.succ_mul, hi]; exact congrArg _ (by omega), hj', hlt⟩, ?_⟩
      simp only [intOf]
      omega
    · have hkI : ¬ (((k * 4096 : Nat) : Int) < L) := by have := hpcs k; omega
      have hkM := hpcs k
      have hke : k = pcs L := by unfold pcs at hk hlt ⊢; omega
      obtain ⟨i, hi⟩ : ∃ i, k * 4096 = i := ⟨_, rfl⟩
      rw [hi] at hkI ⊢
      clear hi hkM
      gi_wp2
      go_end0
      exact ⟨⟨_, rfl⟩, by rw [← hke]; exact hj⟩
end Go.Proofs.Ytilmcdieihmiaaa

namespace Go.Proofs.Ytilmcdieihmiaaa
open Go.RowKit
attribute [local go_sem] Oper.semAt_some

/-- The pieces of a payload, the payload. -/
def piece (m : List UInt8) (k : Nat) : List UInt8 := (m.drop (k * 4096)).take 4096
def encPs (m : List UInt8) : Nat → List UInt8
  | 0 => []
  | k + 1 => encPs m k ++ encS (piece m k)
def encP (m : List UInt8) : List UInt8 := encU (pcs m.length) ++ encPs m (pcs m.length)
theorem piece_len (m : List UInt8) (k : Nat) : (piece m k).length = pcl m.length k := by simp [piece, pcl]
theorem encPs_len (m : List UInt8) : ∀ k, (encPs m k).length ≤ k * 5000
  | 0 => by simp [encPs]
  | k + 1 => by
    have h1 := encPs_len m k
    have h2 := encU_len (n := (piece m k).length) (by rw [piece_len]; unfold pcl; omega)
    have h3 : (piece m k).length ≤ 4096 := by rw [piece_len]; unfold pcl; omega
    simp only [encPs, encS, List.length_append]; omega
/-- A piece in memory. -/
theorem piece_sl {w : World} {g o c : Nat} {m : List UInt8} (h : SlB w (.slice (some ⟨g, o, none⟩) m.length c) m) (k : Nat) (hk : k * 4096 < m.length) : SlB w (pcv g o m.length k) (piece m k) := by
  obtain ⟨h1, a, cap, e, h2, h3, h0, h4⟩ := h
  have hl := piece_len m k
  have hp : pcl m.length k ≤ m.length := by unfold pcl; omega
  refine ⟨by simp, some ⟨g, o + k * 4096, none⟩, pcl m.length k, by unfold pcv; rw [hl], by omega, by omega, by simp, fun _ => ⟨g, o + k * 4096, rfl, fun j u hj => ?_⟩⟩
  obtain ⟨g', o', e', h5⟩ := h4 (by simp; omega)
  cases e
  cases e'
  have h6 := h5 (k * 4096 + j) u ?_
  · rw [← h6]; congr 2; omega
  · simp only [bys, List.getElem?_map, piece] at hj ⊢
    rw [List.getElem?_take] at hj
    split at hj
    · rw [List.getElem?_drop] at hj; exact hj
    · simp at hj
theorem Buf.others {w w' : World} {base : Nat} {v v' : Value} {l : List UInt8} (h : Buf w base v l) (g : GK w w' v v') : KeepsOthers w w' := by
  refine ⟨g.keeps.size, fun k o hk ho => (g.keeps.block k (Array.getElem?_eq_some_iff.1 hk).1 (fun hm => ?_)).trans hk⟩
  rcases h.2 with ⟨rfl, _⟩ | ⟨g', cap, cur, rfl, _, hg, _⟩
  · simp [Value.ownBlock] at hm
  · simp [Value.ownBlock] at hm
    subst hm
    rw [hg] at hk
    cases hk
    cases ho
set_option maxRecDepth 100000 in
set_option maxHeartbeats 2000000 in
theorem chunk_c (w : World) (a : Option Addr) (n c : Nat) : Calls Try.prog 74 #[.slice a n c, .int .i64 4096] w fun e w' =>
    e = .returned (.func (.func 83) #[] #[.pointer (some ⟨w.heap.size, 0, none⟩), .pointer (some ⟨w.heap.size + 1, 0, none⟩)]) ∧ w' = (w.alloc (.cells #[.slice a n c] 23)).alloc (.cells #[.int .i64 4096] 3) := by
  go_enter Try.func74, Try.ntmps74
  go_wp2
  go_ret
  exact ⟨rfl, rfl⟩
theorem SlB.keepE {w w' : World} {v : Value} {l : List UInt8} {S : List Nat} (h : SlB w v l) (hk : Keeps S w w') (hS : ∀ b, b < w.heap.size → v.ownBlock = some b → b ∉ S) : SlB w' v l := by
  by_cases hl : l = []
  · obtain ⟨h1, a, cap, rfl, h2, h3, h0, h4⟩ := h
    exact ⟨h1, a, cap, rfl, h2, h3, h0, fun hp => by subst hl; simp at hp⟩
  · refine Sl.keepS h hk (fun b hb e => ?_)
    rcases h.cases with ⟨h0, _⟩ | ⟨g, o, c, e2, _, _, _, hg, _⟩
    · exact hl h0
    · rw [e2] at e
      simp [Value.ownBlock] at e
      subst e
      exact hS g hg (by rw [e2]; rfl) hb
theorem Buf.keepN {w w' : World} {base : Nat} {v : Value} {l : List UInt8} {S : List Nat} (h : Buf w base v l) (hk : Keeps S w w') (hS : ∀ b ∈ S, v.ownBlock ≠ some b) : Buf w' base v l := by
  refine ⟨h.1, ?_⟩
  rcases h.2 with hn | ⟨g, cap, cur, rfl, hb, hg, rest⟩
  · exact .inl hn
  · exact .inr ⟨g, cap, cur, rfl, hb, (hk.block g (Array.getElem?_eq_some_iff.1 hg).1 (fun hm => hS g hm rfl)).trans hg, rest⟩
theorem GK.setBox {w W : World} {v v' : Value} (g : GK w W v v') (X : Nat) (hX : w.heap.size ≤ X) (u : Value) : GK w (W.setCell ⟨X, 0, none⟩ u) v v' := ⟨g.keeps.setCell (.inl hX) _, g.own⟩
theorem Keeps.put {S : List Nat} {a w : World} (h : Keeps S a w) {l : Nat} (hl : a.heap.size ≤ l) (o : Obj) : Keeps S a (w.putObj l o) :=
  h.grown (grownBy_putObj' w l o) (fun k e => by cases e; exact .inl hl)
/-- What holds between two rounds. -/
structure PJ (w W : World) (X B1 B2 base : Nat) (v0 vm : Value) (v : Value) (l : List UInt8) : Prop where
  xbox : W.heap[X]? = some (.cells #[v] 23 (0, 0))
  box1 : W.heap[B1]? = some (.cells #[vm] 23 (0, 0))
  box2 : W.heap[B2]? = some (.cells #[.int .i64 4096] 3 (0, 0))
  buf : Buf W base v l
  gk : GK w W v0 v
  ne : v.ownBlock ≠ some X ∧ v.ownBlock ≠ some B1 ∧ v.ownBlock ≠ some B2
theorem PJ.keep {w W W' : World} {X B1 B2 base : Nat} {v0 vm v : Value} {l : List UInt8} {S : List Nat} (h : PJ w W X B1 B2 base v0 vm v l) (hk : Keeps S W W') (hS : ∀ b ∈ S, w.heap.size ≤ b ∧ b ≠ X ∧ b ≠ B1 ∧ b ≠ B2 ∧ v.ownBlock ≠ some b) : PJ w W' X B1 B2 base v0 vm v l :=
  ⟨(hk.block _ (Array.getElem?_eq_some_iff.1 h.xbox).1 (fun hm => (hS _ hm).2.1 rfl)).trans h.xbox, (hk.block _ (Array.getElem?_eq_some_iff.1 h.box1).1 (fun hm => (hS _ hm).2.2.1 rfl)).trans h.box1,
   (hk.block _ (Array.getElem?_eq_some_iff.1 h.box2).1 (fun hm => (hS _ hm).2.2.2.1 rfl)).trans h.box2, h.buf.keepN hk (fun b hb => (hS b hb).2.2.2.2), ⟨h.gk.keeps.fresh hk (fun b hb => .inr (hS b hb).1), h.gk.own⟩, h.ne⟩
/-- One piece more. -/
theorem PJ.push {w W W' : World} {X B1 B2 base : Nat} {v0 vm v v' : Value} {l l' : List UInt8} (h : PJ w W X B1 B2 base v0 vm v l) (hB : Buf W' base v' l') (hg : GK W W' v v') (hX : w.heap.size ≤ X) (h1 : B1 ≠ X) (h2 : B2 ≠ X) :
    PJ w (W'.setCell ⟨X, 0, none⟩ v') X B1 B2 base v0 vm v' l' := by
  have lx := (Array.getElem?_eq_some_iff.1 h.xbox).1
  have l1 := (Array.getElem?_eq_some_iff.1 h.box1).1
  have l2 := (Array.getElem?_eq_some_iff.1 h.box2).1
  have hx' := (hg.keeps.block X lx (by simpa using h.ne.1)).trans h.xbox
  have hk : Keeps [X] W' (W'.setCell ⟨X, 0, none⟩ v') := (Keeps.refl _ _).setCell (.inr (by simp)) _
  have n1 := hg.ne h.ne.1 lx
  refine ⟨by simp [World.setCell, Array.getElem?_modify, hx'], ?_, ?_, hB.keepN hk (fun b hb => by rw [List.mem_singleton] at hb; subst hb; exact n1), (h.gk.trans hg).setBox X hX _, n1, hg.ne h.ne.2.1 l1, hg.ne h.ne.2.2 l2⟩
  · exact (hk.block B1 (Nat.lt_of_lt_of_le l1 hg.keeps.size) (by simpa using h1)).trans ((hg.keeps.block B1 l1 (by simpa using h.ne.2.1)).trans h.box1)
  · exact (hk.block B2 (Nat.lt_of_lt_of_le l2 hg.keeps.size) (by simpa using h2)).trans ((hg.keeps.block B2 l2 (by simpa using h.ne.2.2)).trans h.box2)
set_option maxRecDepth 100000 in
set_option maxHeartbeats 4000000 in
theorem appP_c (w : World) (base : Nat) (v0 vm : Value) (l m : List UInt8) (h : Buf w base v0 l) (hm : SlB w vm m) (hsep : m ≠ [] → ∀ b, vm.ownBlock = some b → v0.ownBlock ≠ some b) (hl : l.length + 2 * m.length ≤ 140737488340000) (hb : base ≤ w.heap.size) :
    Calls Try.prog 56 #[v0, vm] w fun e w' => ∃ v', e = .returned v' ∧ Buf w' base v' (l ++ encP m) ∧ GK w w' v0 v' := by
  obtain ⟨am, cm, rfl⟩ := hm.form
  obtain ⟨a0, c0, rfl⟩ := h.form
  obtain ⟨LB, hLB⟩ : ∃ L, l.length = L := ⟨_, rfl⟩
  rw [hLB] at h hsep hl ⊢
  obtain ⟨L, hL⟩ : ∃ L, m.length = L := ⟨_, rfl⟩
  rw [hL] at hm hsep hl ⊢
  have hkA := (Keeps.refl [] w).alloc (.cells #[.slice a0 LB c0] 23)
  have hX0 := heap_alloc_new w (.cells #[.slice a0 LB c0] 23)
  have hzA : (w.alloc (.cells #[.slice a0 LB c0] 23)).heap.size = w.heap.size + 1 := by simp
  have hlt0 : ∀ b, (Value.slice a0 LB c0).ownBlock = some b → b < w.heap.size := fun b hb2 => (World.ownsRow.lt h b hb2).2
  obtain ⟨X, hX⟩ : ∃ X, w.heap.size = X := ⟨_, rfl⟩
  obtain ⟨wA, hwA⟩ : ∃ wA, w.alloc (.cells #[.slice a0 LB c0] 23) = wA := ⟨_, rfl⟩
  rw [hwA] at hkA hX0 hzA
  rw [hX] at hX0 hzA hb hlt0
  obtain ⟨x0, f0, _⟩ := cell1_of hX0
  have hBA := h.keep hkA
  have hdiv : ((L : Int) + 4096 - 1) / 4096 = (pcs L : Int) := by unfold pcs; omega
  have hpb : pcs L ≤ L := by unfold pcs; omega
  obtain ⟨N, hN⟩ : ∃ N, pcs L = N := ⟨_, rfl⟩
  rw [hN] at hdiv hpb
  have hw1 : IntKind.i64.wrap ((L : Int) + 4096) = ((L + 4096 : Nat) : Int) := by rw [IntWalk.i64_in _ (by omega)]; omega
  replace hL := Lib.hid hL
  replace hLB := Lib.hid hLB
  replace hX := Lib.hid hX
  replace hN := Lib.hid hN
  replace hwA := Lib.hid hwA
  replace hX0 := Lib.hid hX0
  replace hsep := Lib.hid hsep
  replace hlt0 := Lib.hid hlt0
  replace hkA := Lib.hid hkA
  replace hm := Lib.hid hm
  clear h
  refine (callsIn_wide (n := 5)).1 ?_
  refine callsIn_of_wp_marks Try.func56 rfl trivial ?_ rfl
  simp only [Try.ntmps56, List.size_toArray, List.length_cons, List.length_nil, Nat.reduceAdd, Nat.reduceSub, Array.replicate_succ, Array.replicate_zero, List.push_toArray, List.append_toArray, List.nil_append, List.cons_append]
  refine wpIn_wide.2 ?_
  go_wp2_with fail
  rw [hwA.out, hX.out]
  refine (appU_c wA base (.slice a0 LB c0) l N hBA (by omega) (by rw [hLB.out]; omega) (by omega)).mono ?_
  rintro e w1 ⟨v1, rfl, hB1, hG1⟩
  obtain ⟨a1, c1, rfl⟩ := hB1.form
  obtain ⟨L1, hL1⟩ : ∃ L, (l ++ encU N).length = L := ⟨_, rfl⟩
  have hUl := encU_len (n := N) (by omega)
  have hL1b : L1 ≤ LB + 9 := by rw [← hL1, List.length_append, hLB.out]; omega
  rw [hL1] at hB1 hG1 ⊢
  have hX1 := (hG1.grown.block X (by omega) (fun e => by have := hlt0.out X e.symm; omega)).trans hX0.out
  have hs1 := hG1.grown.size
  have hne1 : (Value.slice a1 L1 c1).ownBlock ≠ some X := hG1.gk.ne (fun e => by have := hlt0.out X e; omega) (by omega)
  have hgk1 : GK w w1 (.slice a0 LB c0) (.slice a1 L1 c1) := ((GK.refl w _).then hkA.out).trans hG1.gk
  obtain ⟨x1, f1, _⟩ := cell1_of hX1
  have hk2 : Keeps [X] w1 (w1.setCell ⟨X, 0, none⟩ (.slice a1 L1 c1)) := (Keeps.refl _ _).setCell (.inr (by simp)) _
  have hX2 : (w1.setCell ⟨X, 0, none⟩ (.slice a1 L1 c1)).heap[X]? = some (.cells #[.slice a1 L1 c1] 23 (0, 0)) := by simp [World.setCell, Array.getElem?_modify, hX1]
  have hB2 : Buf (w1.setCell ⟨X, 0, none⟩ (.slice a1 L1 c1)) base (.slice a1 L1 c1) (l ++ encU N) := hB1.keepN hk2 (fun b hb => by rw [List.mem_singleton] at hb; subst hb; exact hne1)
  have hgk2 := hgk1.setBox X (by have := hX.out; omega) (.slice a1 L1 c1)
  have hlt1 : ∀ b, (Value.slice a1 L1 c1).ownBlock = some b → b < w1.heap.size := fun b hb2 => (World.ownsRow.lt hB1 b hb2).2
  have hs2 := hk2.size
  replace hL1 := Lib.hid hL1
  replace hX2 := Lib.hid hX2
  replace hB2 := Lib.hid hB2
  replace hne1 := Lib.hid hne1
  replace hlt1 := Lib.hid hlt1
  replace hgk2 := Lib.hid hgk2
  clear hX1 hB1 hG1 hBA hX0 x0 f0 hdiv hk2 hgk1
  go_wp2_with fail
  obtain ⟨w2, hw2⟩ : ∃ w2, w1.setCell ⟨X, 0, none⟩ (.slice a1 L1 c1) = w2 := ⟨_, rfl⟩
  rw [hw2] at hX2 hB2 hgk2 hs2 ⊢
  refine (chunk_c w2 am L cm).mono ?_
  rintro e w3 ⟨rfl, hw3⟩
  have hka := (Keeps.refl [] w2).alloc (.cells #[.slice am L cm] 23)
  have hb1 := heap_alloc_new w2 (.cells #[.slice am L cm] 23)
  have hkb := (Keeps.refl [] (w2.alloc (.cells #[.slice am L cm] 23))).alloc (.cells #[.int .i64 4096] 3)
  have hb2 := heap_alloc_new (w2.alloc (.cells #[.slice am L cm] 23)) (.cells #[.int .i64 4096] 3)
  have hb12 := (hkb.block _ (by simp) (by simp)).trans hb1
  rw [← hw3] at hkb hb2 hb12
  rw [show (w2.alloc (.cells #[.slice am L cm] 23)).heap.size = w2.heap.size + 1 by simp] at hb2
  have hk3 := hka.trans hkb
  have hz3 : w3.heap.size = w2.heap.size + 2 := by rw [hw3]; simp
  obtain ⟨B1, hB1⟩ : ∃ B1, w2.heap.size = B1 := ⟨_, rfl⟩
  rw [hB1] at hb12 hb2 hz3 hs2 ⊢
  have hX2l : X < w2.heap.size := (Array.getElem?_eq_some_iff.1 hX2.out).1
  have hP0 : PJ w w3 X B1 (B1 + 1) base (.slice a0 LB c0) (.slice am L cm) (.slice a1 L1 c1) (l ++ encU N) :=
    ⟨(hk3.block X hX2l (by simp)).trans hX2.out, hb12, hb2, hB2.out.keep hk3, hgk2.out.then hk3, hne1.out, fun e => by have := hlt1.out _ e; omega, fun e => by have := hlt1.out _ e; omega⟩
  replace hP0 := Lib.hid hP0
  replace hB1 := Lib.hid hB1
  clear hw3 hka hb1 hkb hb2 hb12 hk3 hX2 hB2 hgk2 hne1 hlt1 x1 f1 hw2
  go_wp2
  refine (wpIn_wide (n := 5)).1 ?_
  obtain ⟨g, o, hgo⟩ : ∃ g o, 0 < L → am = some ⟨g, o, none⟩ := by
    rcases hm.out.cases with ⟨h0, _⟩ | ⟨g, o, c, e2, _⟩
    · exact ⟨0, 0, fun h => by have := hL.out; rw [h0] at this; simp at this; omega⟩
    · cases e2; exact ⟨g, o, fun _ => rfl⟩
  have hLcm : L ≤ cm ∧ cm ≤ maxLen := by obtain ⟨_, _, _, e, h2, h3, _⟩ := hm.out; cases e; exact ⟨by have := hL.out; omega, h3⟩
  have hX1 := hX.out
  have hB1w := hB1.out
  refine wpIn_rangeFunc_vals rfl (by omega) (gf := 83) (lb := #[.pointer (some ⟨B1, 0, none⟩), .pointer (some ⟨B1 + 1, 0, none⟩)]) rfl trivial (enters_of Try.func83 (by kernel_rfl) rfl) rfl N (pcv g o L)
    (fun k W => (∃ v, PJ w W X B1 (B1 + 1) base (.slice a0 LB c0) (.slice am L cm) v (l ++ encU N ++ encPs m k)) ∧ w3.heap.size ≤ W.heap.size)
    (by rw [← hN.out]; exact chunk1_gives _ B1 (B1 + 1) g o L cm am _ (by omega) hgo hLcm.1 hLcm.2 (by omega) (fun k W hj => by obtain ⟨⟨v, hj⟩, _⟩ := hj; exact ⟨hj.box1, hj.box2⟩))
    ?jdrew ?jput ?j0 (fun x => { tmps := List.toArray ((.slice a0 LB c0 : Value) :: .slice am L cm :: .pointer (some ⟨X, 0, none⟩) :: undef :: .slice none 0 0 :: x :: .slice a0 LB c0 :: .slice am L cm :: .int .i64 L :: .int .i64 ((L : Int) + 4096) :: .int .i64 ((L : Int) + 4096 - 1) :: .int .i64 (((L : Int) + 4096 - 1) / 4096) :: .int .u64 N :: .slice a1 L1 c1 :: .slice am L cm :: .func (.func 83) #[] #[.pointer (some ⟨B1, 0, none⟩), .pointer (some ⟨B1 + 1, 0, none⟩)] :: x :: undef :: undef :: undef :: undef :: undef :: []), defers := [] }) ?assign ?body ?done
  case jdrew =>
    rintro k W n ⟨⟨v, hj⟩, hs⟩
    exact ⟨⟨v, hj.keep ((Keeps.refl [] W).drewN n) (by simp)⟩, hs⟩
  case jput =>
    rintro k W b ob ob' hl2 ho hcl ⟨⟨v, hj⟩, hs⟩
    have hk : Keeps [b] W (W.putObj b ob') := Keeps.of_grown (grownBy_putObj' W b ob')
    refine ⟨⟨v, hj.keep hk (fun b' hb' => ?_)⟩, by simpa [World.putObj] using hs⟩
    rw [List.mem_singleton] at hb'
    subst hb'
    refine ⟨by omega, by omega, by omega, by omega, fun e => ?_⟩
    rcases hj.buf.2 with ⟨rfl, _⟩ | ⟨g', cap, cur, rfl, _, hg, _⟩
    · simp [Value.ownBlock] at e
    · simp [Value.ownBlock] at e
      subst e
      rw [hg] at ho
      cases ho
      cases hcl
  case j0 =>
    intro W hk
    exact ⟨⟨_, by simpa [encPs] using hP0.out.keep hk (by simp)⟩, hk.size⟩
  case assign =>
    intro l y W K hK
    gi_wp2
    exact hK
  case body =>
    rintro l2 k W ⟨⟨v, hj⟩, hs⟩ hkN
    obtain ⟨x0, xf, hXW⟩ := cell1_of hj.xbox
    have hkL : k * 4096 < L := by have := hN.out; unfold pcs at this; omega
    have hmW : SlB W (.slice am L cm) m := hm.out.keepE hj.gk.keeps (fun b _ e hb => hsep.out (fun e => by have := hL.out; rw [e] at this; simp at this; omega) b e (by simpa using hb))
    have ham := hgo (by omega)
    have hst := run_str (piece_sl (by rw [ham] at hmW; rw [hL.out]; exact hmW) k (by rw [hL.out]; exact hkL))
    rw [hL.out] at hst
    obtain ⟨E, hE⟩ : ∃ E, pcl L k = E := ⟨_, rfl⟩
    obtain ⟨i, hi⟩ : ∃ i, o + k * 4096 = i := ⟨_, rfl⟩
    have hyv : pcv g o L k = .slice (some ⟨g, i, none⟩) E E := by unfold pcv; rw [hE, hi]
    rw [hyv] at hst ⊢
    obtain ⟨s, hs1⟩ : ∃ s, str (piece m k) = s := ⟨_, rfl⟩
    rw [hs1] at hst
    obtain ⟨av, cv, rfl⟩ := hj.buf.form
    obtain ⟨D, hD⟩ : ∃ D, (l ++ encU N ++ encPs m k) = D := ⟨_, rfl⟩
    rw [hD] at hj x0
    obtain ⟨DL, hDL⟩ : ∃ n, D.length = n := ⟨_, rfl⟩
    have hDb : DL ≤ LB + 9 + k * 5000 := by
      have := encPs_len m k
      have := encU_len (n := N) (by omega)
      rw [← hDL, ← hD, List.length_append, List.length_append, hLB.out]; omega
    rw [hDL] at x0
    replace hj := Lib.hid hj
    replace hDL := Lib.hid hDL
    replace hD := Lib.hid hD
    replace hs1 := Lib.hid hs1
    replace hE := Lib.hid hE
    clear ham hi hyv hmW
    have cS := (callsIn_wide (n := 5 - 1 - 1 - 1)).2 (appS_c W base (.slice av DL cv) D (piece m k) (by rw [← hDL.out]; exact hj.out.buf) (by rw [piece_len, hL.out]; unfold pcl; omega) (by rw [hDL.out, piece_len, hL.out]; unfold pcl; omega) (by have := hj.out.gk.keeps.size; omega))
    rw [hs1.out] at cS
    gi_wp2_with fail
    refine ⟨trivial, CallsIn.mono cS ?_⟩
    rintro e w5 ⟨v5, rfl, hB5, hg5⟩
    obtain ⟨a5, c5, rfl⟩ := hB5.form
    have hx5 := (hg5.keeps.block X hXW (fun h => by have hn := hj.out.ne.1; rw [hDL.out] at hn; exact hn (Option.mem_toList.1 h))).trans hj.out.xbox
    obtain ⟨x5, f5, _⟩ := cell1_of hx5
    have hfin : D ++ encS (piece m k) = l ++ encU N ++ encPs m (k + 1) := by rw [← hD.out]; simp [encPs]
    obtain ⟨M5, hM5⟩ : ∃ n, (D ++ encS (piece m k)).length = n := ⟨_, rfl⟩
    rw [hM5] at hB5 hg5 ⊢
    have hj2 := PJ.push (v := .slice av D.length cv) hj.out hB5 (by rw [hDL.out]; exact hg5) (by omega) (by omega) (by omega)
    have hot := Buf.others (v := .slice av DL cv) (by rw [← hDL.out]; exact hj.out.buf) hg5
    have hs5 := hg5.keeps.size
    replace hj2 := Lib.hid hj2
    replace hot := Lib.hid hot
    replace hfin := Lib.hid hfin
    clear hB5 hg5 hx5 cS hst x0 xf
    gi_wp2
    refine ⟨(hot.out.trans (KeepsOthers.setCell _ _ _)).from _, ⟨_, by rw [← hfin.out]; exact hj2.out⟩, by simp [World.setCell]; omega⟩
  case done =>
    rintro D W hD ⟨⟨v, hj⟩, hs⟩ hK
    rw [← hN.out] at hj
    obtain ⟨x0, xf, _⟩ := cell1_of hj.xbox
    obtain ⟨av, cv, rfl⟩ := hj.buf.form
    have hbuf := hj.buf
    have hgk := hj.gk
    have hfin : l ++ encU (pcs L) ++ encPs m (pcs L) = l ++ encP m := by unfold encP; rw [hL.out, List.append_assoc]
    rw [hfin] at x0 hbuf hgk
    obtain ⟨LL, hLL⟩ : ∃ n, (l ++ encP m).length = n := ⟨_, rfl⟩
    rw [hLL] at x0 hbuf hgk
    replace hbuf := Lib.hid hbuf
    replace hgk := Lib.hid hgk
    clear hj hfin hLL
    go_wp2
    refine ⟨by simp, .inl ⟨_, _, rfl, run_takeDeferred hK, ?_⟩⟩
    refine ⟨_, results_tmp rfl _ _ _, ?_⟩
    refine ⟨_, rfl, ?_, hgk.out.keeps.put (by omega) _, hgk.out.own⟩
    exact ownsRow_putObj hbuf.out (.deferred none) hK rfl
end Go.Proofs.Ytilmcdieihmiaaa

namespace Go.Proofs.Ytilmcdieihmiaaa
open Go.RowKit

def encEs (L : List NB) : List UInt8 := (L.map (fun x => encU x.1.toNat ++ encP x.2)).flatten
def encKs (L : List Bytes) : List UInt8 := (L.map encP).flatten
def encHd (L : List Nat) : List UInt8 := (L.map encU).flatten
def encE (E : REnd) : List UInt8 := encHd [E.sent, E.acked, E.received, E.early.length] ++ encEs E.early ++ encKs E.kept
theorem encEs_snoc {L : List NB} {k : Nat} (hk : k < L.length) : encEs (L.take (k + 1)) = encEs (L.take k) ++ (encU L[k].1.toNat ++ encP L[k].2) := by
  rw [List.take_add_one, List.getElem?_eq_getElem hk]; unfold encEs; rw [List.map_append, List.flatten_append]; simp only [Option.toList, List.map_cons, List.map_nil, List.flatten_cons, List.flatten_nil, List.append_nil]
theorem encKs_snoc {L : List Bytes} {k : Nat} (hk : k < L.length) : encKs (L.take (k + 1)) = encKs (L.take k) ++ encP L[k] := by
  rw [List.take_add_one, List.getElem?_eq_getElem hk]; unfold encKs; rw [List.map_append, List.flatten_append]; simp only [Option.toList, List.map_cons, List.map_nil, List.flatten_cons, List.flatten_nil, List.append_nil]
theorem encHd_snoc {L : List Nat} {k : Nat} (hk : k < L.length) : encHd (L.take (k + 1)) = encHd (L.take k) ++ encU L[k] := by
  rw [List.take_add_one, List.getElem?_eq_getElem hk]; unfold encHd; rw [List.map_append, List.flatten_append]; simp only [Option.toList, List.map_cons, List.map_nil, List.flatten_cons, List.flatten_nil, List.append_nil]
theorem encP_len {m : List UInt8} (h : m.length ≤ 5000000) : (encP m).length ≤ 7000000 := by
  have h1 : pcs m.length ≤ 1222 := by unfold pcs; omega
  have h2 := encU_len (n := pcs m.length) (by omega)
  have h3 := encPs_len m (pcs m.length)
  simp only [encP, List.length_append]; omega
theorem encHd_len {L : List Nat} (h : ∀ x ∈ L, x < 18446744073709551616) : (encHd L).length ≤ 9 * L.length := by
  induction L with
  | nil => simp [encHd]
  | cons x t ih =>
    have h1 := ih (fun y hy => h y (by simp [hy]))
    have h2 := encU_len (h x (by simp))
    have : encHd (x :: t) = encU x ++ encHd t := by simp [encHd]
    rw [this, List.length_append, List.length_cons]; omega
theorem encKs_len {L : List Bytes} (h : ∀ x ∈ L, x.length ≤ 5000000) : (encKs L).length ≤ 7000000 * L.length := by
  induction L with
  | nil => simp [encKs]
  | cons x t ih =>
    have h1 := ih (fun y hy => h y (by simp [hy]))
    have h2 := encP_len (h x (by simp))
    have : encKs (x :: t) = encP x ++ encKs t := by simp [encKs]
    rw [this, List.length_append, List.length_cons]; omega
theorem encEs_len {L : List NB} (h : ∀ x ∈ L, x.1.toNat < 18446744073709551616 ∧ x.2.length ≤ 5000000) : (encEs L).length ≤ 7000009 * L.length := by
  induction L with
  | nil => simp [encEs]
  | cons x t ih =>
    have h1 := ih (fun y hy => h y (by simp [hy]))
    have h2 := encP_len (h x (by simp)).2
    have h3 := encU_len (h x (by simp)).1
    have : encEs (x :: t) = (encU x.1.toNat ++ encP x.2) ++ encEs t := by simp [encEs]
    rw [this, List.length_append, List.length_append, List.length_cons]; omega
/-- An end whose bytes are written. -/
structure EncOk (E : REnd) : Prop where
  s : E.sent ≤ 1099511627776
  a : E.acked ≤ 1099511627776
  r : E.received ≤ 1099511627776
  n : E.early.length ≤ 1000000
  k : E.kept.length ≤ 1000000
  ek : ∀ x ∈ E.early, 0 ≤ x.1 ∧ x.1 ≤ 1099511628800
  ed : ∀ x ∈ E.early, x.2.length ≤ 5000000
  kd : ∀ x ∈ E.kept, x.length ≤ 5000000
theorem wf_nat {x : Int} (h0 : 0 ≤ x) (h1 : x ≤ 1099511628800) : (Lit.int .i64 x).wf = true := by
  simp [Lit.wf, IntKind.min, IntKind.max, IntKind.signed, IntKind.bits]; omega
end Go.Proofs.Ytilmcdieihmiaaa
