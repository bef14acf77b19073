/- Texts that the laws lean on, in the order in which they build. The contracts of package wire's reader of bytes. The closure that reads a number, where it fails. The closure that reads a number, where it succeeds. The contracts of package wire's reader of numbers, and the reference's. wire's reader in whatever state: Uint, Bool. wire's reader: Count. What Decode gives: plain. Package handles: Decode. The reference's reading of a number. The reference's reader: Uint. The reference's reader in whatever state: Uint, Bool, Count, Done. The reference's Decode. Decode: the table's and the reference's agree; what is decoded is encoded to the same bytes. Plain. -/
import Derived.Test.YtmamlipgfkmcjaaK8
set_option linter.unusedVariables false
set_option linter.unusedSimpArgs false
namespace Go.Proofs.Ytmamlipgfkmcjaa
open Go.RowKit

/-- What a number's encoding at the head of `l` gives: the number and the rest. -/
def readU : List UInt8 → Option (Nat × List UInt8)
  | [] => none
  | k :: t => if k.toNat ≤ 8 ∧ k.toNat ≤ t.length ∧ (0 < k.toNat → t.headD 1 ≠ 0) then some (valU (t.take k.toNat), t.drop k.toNat) else none
/-- The reader at block `br`: what is left is the slice `v`, which reads as `l`; its error is `e`. -/
def Rd (w : World) (br : Nat) (v : Value) (l : List UInt8) (e : Int) : Prop := w.heap[br]? = some (.cells #[v, .int .i64 e] 100 (0, 0)) ∧ SlB w v l

theorem cell2_of {w : World} {b : Nat} {u v : Value} {t : TypeId} (h : w.heap[b]? = some (.cells #[u, v] t (0, 0))) : w.cell? ⟨b, 0, none⟩ = some u ∧ w.cell? ⟨b, 1, none⟩ = some v ∧ w.frozen? ⟨b, 0, none⟩ = false ∧ w.frozen? ⟨b, 1, none⟩ = false ∧ b < w.heap.size := by
  refine ⟨by simp [World.cell?, h], by simp [World.cell?, h], by simp [World.frozen?, h], by simp [World.frozen?, h], (Array.getElem?_eq_some_iff.1 h).1⟩

set_option maxRecDepth 100000 in
set_option maxHeartbeats 1000000 in
theorem newReader_c (w : World) (v0 : Value) (l : List UInt8) (h : SlB w v0 l) (hl : l.length ≤ 140737488355328) :
    Calls Try.prog 36 #[v0] w fun e w' => ∃ br v', e = .returned (.pointer (some ⟨br, 0, none⟩)) ∧ w.heap.size ≤ br ∧ Rd w' br v' l 0 ∧ Keeps [] w w' := by
  obtain ⟨a0, c0, rfl⟩ := h.form
  replace h := Lib.hid h
  go_enter Try.func36, Try.ntmps36
  go_wp2_with fail
  refine (clone_c _ _ l h.out hl).mono ?_
  rintro e w1 ⟨v1, rfl, hB1, hk1⟩
  obtain ⟨a1, c1, rfl⟩ := hB1.form
  have hsz := hk1.size
  replace hB1 := Lib.hid hB1
  replace hk1 := Lib.hid hk1
  go_wp2
  go_ret
  refine ⟨w1.heap.size, .slice a1 l.length c1, rfl, hsz, ⟨heap_alloc_new _ _, (hB1.out.keep ((Keeps.refl [] w1).alloc _)).slB⟩, hk1.out.alloc _⟩

/-- The error of a reader at the end. -/
def doneE (l : List UInt8) (e : Int) : Int := if e = 0 ∧ l ≠ [] then 11 else e
set_option maxRecDepth 100000 in
set_option maxHeartbeats 1000000 in
theorem done_c (w : World) (br : Nat) (v : Value) (l : List UInt8) (e : Int) (h : Rd w br v l e) :
    Calls Try.prog 40 #[.pointer (some ⟨br, 0, none⟩)] w fun en w' => en = .returned (.int .i64 (doneE l e)) ∧ w = w' := by
  obtain ⟨c0, c1, f0, f1, hlt⟩ := cell2_of h.1
  obtain ⟨a0, cap0, rfl⟩ := h.2.form
  clear h
  by_cases he : e = 0
  · subst he
    by_cases hl : l = []
    · subst hl
      go_enter Try.func40, Try.ntmps40
      go_wp2
      go_ret
      exact ⟨by simp [doneE], rfl⟩
    · have hp : 0 < l.length := List.length_pos_iff.2 hl
      replace hl := Lib.hid hl
      go_enter Try.func40, Try.ntmps40
      go_wp2
      go_ret
      exact ⟨by simp [doneE, hl.out], rfl⟩
  · have he2 : (e == 0) = false := by simp [he]
    replace he := Lib.hid he
    go_enter Try.func40, Try.ntmps40
    go_wp2
    go_ret
    exact ⟨by simp [doneE, he.out], rfl⟩

theorem cell1_of {w : World} {b : Nat} {u : Value} {t : TypeId} (h : w.heap[b]? = some (.cells #[u] t (0, 0))) : w.cell? ⟨b, 0, none⟩ = some u ∧ w.frozen? ⟨b, 0, none⟩ = false ∧ b < w.heap.size := by
  refine ⟨by simp [World.cell?, h], by simp [World.frozen?, h], (Array.getElem?_eq_some_iff.1 h).1⟩

end Go.Proofs.Ytmamlipgfkmcjaa

namespace Go.Proofs.Ytmamlipgfkmcjaa
open Go.RowKit

set_option maxRecDepth 100000 in
set_option maxHeartbeats 2000000 in
theorem uint1_bad (w : World) (br b1 b2 : Nat) (v : Value) (l : List UInt8) (h : Rd w br v l 0) (h1 : w.cell? ⟨b1, 0, none⟩ = some (.pointer (some ⟨br, 0, none⟩))) (hr : readU l = none) :
    Calls Try.prog 59 #[.pointer (some ⟨b1, 0, none⟩), .pointer (some ⟨b2, 0, none⟩)] w fun en w' => en = .returned (.int .i64 11) ∧ Keeps [] w w' := by
  obtain ⟨c0, c1, f0, f1, hlt⟩ := cell2_of h.1
  rcases h.2.cases with ⟨rfl, a, cp, rfl, _, _⟩ | ⟨g, o, cp, rfl, hn, hm, hp, hg, hc⟩
  · clear h hr
    go_enter Try.func59, Try.ntmps59
    go_wp2
    (refine wp_region_quiet_lit (by kernel_rfl) (by kernel_rfl) ?_; (repeat (first | go_big_quiet_step (fail) | quiet_step (fail))); with_reducible refine wpQuiet_nil ?_; intro _ hw'; obtain ⟨nq, hw''⟩ := hw'; subst hw'')
    go_wp2
    go_ret
    exact ⟨rfl, (Keeps.refl _ _).drewN _⟩
  · obtain ⟨k, t, rfl⟩ : ∃ k t, l = k :: t := by cases l with | nil => simp at hp | cons k t => exact ⟨k, t, rfl⟩
    have k0 := hc 0 (by simp)
    have k1 : 0 < t.length → w.cell? ⟨g, o + 1, none⟩ = some (.int .u8 ((t.headD 1).toNat : Int)) := fun ht => by
      have := hc 1 (by simp; omega)
      rw [this]; cases t with | nil => simp at ht | cons a b => rfl
    simp only [Nat.add_zero, List.getElem_cons_zero] at k0
    clear hc h hp
    have hcond : ¬ (k.toNat ≤ 8 ∧ k.toNat ≤ t.length ∧ (0 < k.toNat → t.headD 1 ≠ 0)) := fun hh => by
      rw [readU, if_pos hh] at hr; cases hr
    clear hr
    have hk := k.toNat_lt
    simp only [List.length_cons] at *
    generalize (t.headD 1) = t0 at *
    generalize k.toNat = kk at *
    generalize t.length = N at *
    have hNN : (N : Int) + 1 ≤ 9223372036854775807 := by unfold maxLen at hm; omega
    by_cases h8 : kk ≤ 8
    · have d8 : decide ((8 : Int) < (kk : Int)) = false := by simp; omega
      by_cases hN : kk ≤ N
      · have dN : decide ((N : Int) + 1 ≤ (kk : Int)) = false := by simp; omega
        have hk0 : 0 < kk := by
          rcases Nat.eq_zero_or_pos kk with e | e
          · exact absurd ⟨h8, hN, fun h => by omega⟩ hcond
          · exact e
        have dk : (0 : Int) < (kk : Int) := by omega
        have ht0 : t0 = 0 := by
          rcases Classical.em (t0 = 0) with e | e
          · exact e
          · exact absurd ⟨h8, hN, fun _ => e⟩ hcond
        subst ht0
        have k1' := k1 (by omega)
        simp at k1'
        clear hcond k1
        go_enter Try.func59, Try.ntmps59
        go_wp2
        (refine wp_region_quiet_lit (by kernel_rfl) (by kernel_rfl) ?_; (repeat (first | go_big_quiet_step (fail) | quiet_step (fail))); with_reducible refine wpQuiet_nil ?_; intro _ hw'; obtain ⟨nq, hw''⟩ := hw'; subst hw'')
        go_wp2
        go_ret
        exact ⟨rfl, (Keeps.refl _ _).drewN _⟩
      · have dN : (N : Int) + 1 ≤ (kk : Int) := by omega
        clear hcond k1
        go_enter Try.func59, Try.ntmps59
        go_wp2
        (refine wp_region_quiet_lit (by kernel_rfl) (by kernel_rfl) ?_; (repeat (first | go_big_quiet_step (fail) | quiet_step (fail))); with_reducible refine wpQuiet_nil ?_; intro _ hw'; obtain ⟨nq, hw''⟩ := hw'; subst hw'')
        go_wp2
        go_ret
        exact ⟨rfl, (Keeps.refl _ _).drewN _⟩
    · have d8 : (8 : Int) < (kk : Int) := by omega
      clear hcond k1
      go_enter Try.func59, Try.ntmps59
      go_wp2
      (refine wp_region_quiet_lit (by kernel_rfl) (by kernel_rfl) ?_; (repeat (first | go_big_quiet_step (fail) | quiet_step (fail))); with_reducible refine wpQuiet_nil ?_; intro _ hw'; obtain ⟨nq, hw''⟩ := hw'; subst hw'')
      go_wp2
      go_ret
      exact ⟨rfl, (Keeps.refl _ _).drewN _⟩

end Go.Proofs.Ytmamlipgfkmcjaa

namespace Go.Proofs.Ytmamlipgfkmcjaa
open Go.RowKit

theorem set2_0 {w : World} {b : Nat} {u v : Value} {t : TypeId} (h : w.heap[b]? = some (.cells #[u, v] t (0, 0))) (u' : Value) : (w.setCell ⟨b, 0, none⟩ u').heap[b]? = some (.cells #[u', v] t (0, 0)) := by
  obtain ⟨hlt, hk⟩ := Array.getElem?_eq_some_iff.1 h
  simp [World.setCell, Array.getElem?_modify, h]
theorem set2_1 {w : World} {b : Nat} {u v : Value} {t : TypeId} (h : w.heap[b]? = some (.cells #[u, v] t (0, 0))) (v' : Value) : (w.setCell ⟨b, 1, none⟩ v').heap[b]? = some (.cells #[u, v'] t (0, 0)) := by
  obtain ⟨hlt, hk⟩ := Array.getElem?_eq_some_iff.1 h
  simp [World.setCell, Array.getElem?_modify, h]
/-- One byte more, as the machine reckons it. -/
theorem or_byte (x y : Nat) (hx : (x : Int) < 72057594037927936) (hy : (y : Int) ≤ 255) : bits .or .u64 ((x : Int) * 256) (y : Int) = ((x * 256 + y : Nat) : Int) := by
  have h := u64_or_nat (x * 256) y (by omega) (by omega)
  have h2 : x * 256 + y = x * 256 ||| y := by
    have := Nat.shiftLeft_add_eq_or_of_lt (i := 8) (b := y) (by omega) x
    simpa [Nat.shiftLeft_eq] using this
  rw [h2, ← h]; simp

theorem rd_nobyte {w : World} {br : Nat} {v : Value} {l : List UInt8} {e : Int} (h : Rd w br v l e) : ∀ o x, w.cell? ⟨br, o, none⟩ ≠ some (.int .u8 x) := by
  obtain ⟨a, c, rfl⟩ := h.2.form
  exact no_byte h.1 (by simp)
theorem rd_tail (w wr : World) (br b2 g o N cp : Nat) (k : UInt8) (t : List UInt8) (j : Nat) (h : Rd w br (.slice (some ⟨g, o, none⟩) (t.length + 1) cp) (k :: t) 0) (hk : Keeps [b2] w wr)
    (hb : wr.heap[b2]? = some (.cells #[.int .u64 (valU (t.take j))] 23 (0, 0))) (hb0 : w.heap[b2]? = some (.cells #[.int .u64 0] 23 (0, 0))) (hN : t.length = N) (hj : j ≤ N) (hbr : br ≠ b2) :
    (wr.setCell ⟨br, 0, none⟩ (.slice (if cp = 1 + j then some ⟨g, o, none⟩ else some ⟨g, o + (1 + j), none⟩) (N + 1 - (1 + j)) (cp - (1 + j)))).drew.heap[b2]? = some (.cells #[.int .u64 (valU (t.take j))] 23 (0, 0)) ∧
    (∃ v', Rd (wr.setCell ⟨br, 0, none⟩ (.slice (if cp = 1 + j then some ⟨g, o, none⟩ else some ⟨g, o + (1 + j), none⟩) (N + 1 - (1 + j)) (cp - (1 + j)))).drew br v' (t.drop j) 0) ∧
    Keeps [br, b2] w (wr.setCell ⟨br, 0, none⟩ (.slice (if cp = 1 + j then some ⟨g, o, none⟩ else some ⟨g, o + (1 + j), none⟩) (N + 1 - (1 + j)) (cp - (1 + j)))).drew := by
  subst hN
  obtain ⟨q0, _, _, _, hlt⟩ := cell2_of h.1
  have hbr' := (hk.block br hlt (by simp; omega)).trans h.1
  have htl := SlB.tail h.2 (1 + j) (by simp; omega)
  have hk2 : Keeps [br, b2] w wr := hk.mono (fun x hx => by simp at hx; simp [hx])
  have hkb : KB w wr := hk.kb (by intro b hb; simp at hb; subst hb; exact no_byte hb0 (by simp))
  refine ⟨?_, ⟨_, ⟨set2_0 hbr' _, ?_⟩⟩, (hk2.setCell (.inr (by simp)) _).drew⟩
  · exact (Below.heap_setCell _ _ _ _ (by simp; omega)).trans hb
  · simp only [List.length_cons, Nat.add_comm 1 j, List.drop_succ_cons] at htl ⊢
    exact htl.kb (hkb.trans ((KB.setCell wr _ (cell2_of hbr').1 (by simp)).trans (KB.drew _)))

set_option maxRecDepth 100000 in
set_option maxHeartbeats 2000000 in
theorem uint1_ok (w : World) (br b1 b2 : Nat) (v : Value) (l rest : List UInt8) (x : Nat) (h : Rd w br v l 0) (h1 : w.cell? ⟨b1, 0, none⟩ = some (.pointer (some ⟨br, 0, none⟩))) (h2 : w.heap[b2]? = some (.cells #[.int .u64 0] 23 (0, 0)))
    (hne : b1 ≠ b2 ∧ br ≠ b2) (hr : readU l = some (x, rest)) :
    Calls Try.prog 59 #[.pointer (some ⟨b1, 0, none⟩), .pointer (some ⟨b2, 0, none⟩)] w fun en w' => en = .returned (.int .i64 0) ∧ w'.heap[b2]? = some (.cells #[.int .u64 x] 23 (0, 0)) ∧ (∃ v', Rd w' br v' rest 0) ∧ Keeps [br, b2] w w' := by
  obtain ⟨c0, c1, f0, f1, hlt⟩ := cell2_of h.1
  obtain ⟨e0, fe0, hlt2⟩ := cell1_of h2
  rcases h.2.cases with ⟨rfl, a, cp, rfl, _, _⟩ | ⟨g, o, cp, rfl, hn, hm, hp, hg, hc⟩
  · cases hr
  · obtain ⟨k, t, rfl⟩ : ∃ k t, l = k :: t := by cases l with | nil => simp at hp | cons k t => exact ⟨k, t, rfl⟩
    have k0 := hc 0 (by simp)
    have hgb : g ≠ b2 := fun e => by subst e; exact no_byte h2 (by simp) _ _ k0
    have k1 : 0 < t.length → w.cell? ⟨g, o + 1, none⟩ = some (.int .u8 ((t.headD 1).toNat : Int)) := fun ht => by
      have := hc 1 (by simp; omega)
      rw [this]; cases t with | nil => simp at ht | cons a b => rfl
    have kj : ∀ j (hj : j < t.length), w.cell? ⟨g, o + 1 + j, none⟩ = some (.int .u8 (t[j].toNat : Int)) := fun j hj => by
      have := hc (j + 1) (by simp; omega)
      rw [show o + 1 + j = o + (j + 1) by omega, this]; rfl
    simp only [Nat.add_zero, List.getElem_cons_zero] at k0
    clear hc hp
    have hcond : k.toNat ≤ 8 ∧ k.toNat ≤ t.length ∧ (0 < k.toNat → t.headD 1 ≠ 0) := by
      rcases Classical.em (k.toNat ≤ 8 ∧ k.toNat ≤ t.length ∧ (0 < k.toNat → t.headD 1 ≠ 0)) with e | e
      · exact e
      · rw [readU, if_neg e] at hr; cases hr
    rw [readU, if_pos hcond] at hr
    simp only [Option.some.injEq, Prod.mk.injEq] at hr
    obtain ⟨h8, hN, ht0⟩ := hcond
    obtain ⟨hx, hrest⟩ := hr
    have hk : k.toNat ≤ 255 := by have := k.toNat_lt; omega
    have hh := Lib.hid h
    have hh2 := Lib.hid h2
    replace hx := Lib.hid hx
    replace hrest := Lib.hid hrest
    replace kj := Lib.hid kj
    clear h h2
    simp only [List.length_cons] at *
    obtain ⟨t0, htt0⟩ : ∃ t0, t.headD 1 = t0 := ⟨_, rfl⟩
    rw [htt0] at k1 ht0
    clear htt0
    obtain ⟨kk, hkk⟩ : ∃ kk, k.toNat = kk := ⟨_, rfl⟩
    rw [hkk] at k0 h8 hN ht0 hk hx hrest
    clear hkk
    obtain ⟨N, hNt⟩ : ∃ N, t.length = N := ⟨_, rfl⟩
    rw [hNt] at hN k1 hn c0
    replace hNt := Lib.hid hNt
    have hNN : (N : Int) + 1 ≤ 9223372036854775807 := by unfold maxLen at hm; omega
    have d8 : decide ((8 : Int) < (kk : Int)) = false := by simp; omega
    have nz : ((N : Int) + 1 == 0) = false := by simp; omega
    have wk : IntKind.i64.wrap (kk : Int) = kk := IntWalk.i64_in _ (by omega)
    have dN : decide ((N : Int) + 1 ≤ (kk : Int)) = false := by simp; omega
    have hfacts : (∃ _ : (0 : Int) < (kk : Int), 0 < kk ∧ w.cell? ⟨g, o + 1, none⟩ = some (.int .u8 (t0.toNat : Int)) ∧ ((t0.toNat : Int) == 0) = false) ∨ (decide ((0 : Int) < (kk : Int)) = false ∧ decide (0 < kk) = false) := by
      by_cases hk0 : 0 < kk
      · refine .inl ⟨by omega, hk0, k1 (by omega), ?_⟩
        have := ht0 hk0
        have h9 : t0.toNat ≠ 0 := fun e => this (UInt8.toNat_inj.1 (by simpa using e))
        simp; omega
      · exact .inr ⟨by simp; omega, by simp; omega⟩
    clear ht0 k1
    have hcp : 1 < cp ∨ (cp = 1 ∧ N = 0 ∧ kk = 0) := by omega
    rcases hcp with hcp | ⟨hcp1, hcp2, hcp3⟩
    · rcases hfacts with ⟨dk, hk0, k1', t0n⟩ | ⟨dk, dk2⟩
      all_goals
        go_enter Try.func59, Try.ntmps59
        go_wp2
        (refine wp_region_quiet_lit (by kernel_rfl) (by kernel_rfl) ?_; (repeat (first | go_big_quiet_step (fail) | quiet_step (fail))); with_reducible refine wpQuiet_nil ?_; intro _ hw'; obtain ⟨nq, hw''⟩ := hw'; subst hw'')
        go_wp2
        go_loopw [5, 69] (fun _ i wr => ∃ j : Nat, j ≤ kk ∧ i = .int .i64 j ∧ wr.heap[b2]? = some (.cells #[.int .u64 (valU (t.take j))] 23 (0, 0)) ∧ Keeps [b2] w wr) (fun _ i _ => kk - (intOf i).toNat)
        case atStart => exact ⟨0, by omega, rfl, hh2.out, (Keeps.refl _ w).drewN _⟩
        case round =>
          obtain ⟨j, hj, rfl, hb2, hkw⟩ := hrel
          obtain ⟨eb, fb, lb⟩ := cell1_of hb2
          have q0 := (hkw.cell br 0 hlt (by simp; omega)).trans c0
          have q1 := (hkw.frozen br 0 hlt (by simp; omega)).trans f0
          have q2 := (hkw.cell b1 0 (lt_of_cell h1) (by simp; omega)).trans h1
          have hvl := valU_lt j (t.take j) (by rw [List.length_take]; have := hNt.out; omega)
          by_cases hlt3 : j < kk
          · have hjt : j < t.length := by have := hNt.out; omega
            have hcj := (hkw.cell g (o + 1 + j) hg (by simp; omega)).trans (kj.out j hjt)
            have hb8 : (t[j].toNat : Int) ≤ 255 := by have := t[j].toNat_lt; omega
            have hstep : Hid (valU (t.take (j + 1)) = valU (t.take j) * 256 + t[j].toNat) := by show _ = _; rw [List.take_succ_eq_append_getElem hjt, valU_snoc]
            have hvb : (valU (t.take j) : Int) < 72057594037927936 := by
              have : (256 : Nat) ^ j ≤ 256 ^ 7 := Nat.pow_le_pow_right (by omega) (by omega)
              omega
            clear hvl
            generalize t[j].toNat = y at *
            generalize hvv : valU (t.take j) = vv at *
            replace hb2 := Lib.hid hb2
            replace hkw := Lib.hid hkw
            replace hvv := Lib.hid hvv
            go_wp2
            go_roundw
            case rel => exact ⟨j + 1, by omega, by go_num, by rw [or_byte _ _ hvb hb8, hstep.out]; exact one_setCell hb2.out, hkw.out.setCell (.inr (by simp)) _⟩
            case measure => simp [intOf]; omega
          · have hjk : j = kk := by omega
            subst hjk
            replace hb2 := Lib.hid hb2
            replace hkw := Lib.hid hkw
            clear hvl
            go_wp2
            go_region
            have hfin := rd_tail w wr br b2 g o N cp k t j hh.out hkw.out hb2.out hh2.out hNt.out hN (by omega)
            rw [hx.out, hrest.out] at hfin
            generalize hW : (wr.setCell ⟨br, 0, none⟩ (.slice (if cp = 1 + j then some ⟨g, o, none⟩ else some ⟨g, o + (1 + j), none⟩) (N + 1 - (1 + j)) (cp - (1 + j)))).drew = W at *
            replace hfin := Lib.hid hfin
            clear hW
            (repeat go_step)
            go_ret
            exact ⟨rfl, hfin.out⟩
    · clear hfacts
      subst hcp1 hcp2 hcp3
      have k0' : w.cell? ⟨g, o, none⟩ = some (.int .u8 0) := by simpa using k0
      simp only [Nat.zero_add] at c0
      have c0' : w.cell? ⟨br, 0, none⟩ = some (.slice (some ⟨g, o, none⟩) 1 1) := c0
      clear hk h8 k0 d8 dN wk c0 nz hm hn hN hNN
      go_enter Try.func59, Try.ntmps59
      go_wp2
      (refine wp_region_quiet_lit (by kernel_rfl) (by kernel_rfl) ?_; (repeat (first | go_big_quiet_step (fail) | quiet_step (fail))); with_reducible refine wpQuiet_nil ?_; intro _ hw'; obtain ⟨nq, hw''⟩ := hw'; subst hw'')
      go_wp2
      go_loopw [5, 69] (fun _ i wr => i = .int .i64 0 ∧ ∃ n, wr = w.drewN n) (fun _ i _ => 0)
      case atStart => exact ⟨rfl, _, rfl⟩
      case round =>
        obtain ⟨rfl, n, rfl⟩ := hrel
        have hkw : Keeps [b2] w (w.drewN n) := (Keeps.refl _ w).drewN n
        have hfin := rd_tail w (w.drewN n) br b2 g o 0 1 k t 0 hh.out hkw (by simpa [valU] using hh2.out) hh2.out hNt.out (by omega) hne.2
        rw [hx.out, hrest.out] at hfin
        simp only [Nat.add_zero, if_true, Nat.zero_add, Nat.sub_self] at hfin
        clear hkw
        replace hfin := Lib.hid hfin
        go_wp2
        go_region
        (repeat go_step)
        go_ret
        exact ⟨rfl, hfin.out⟩
end Go.Proofs.Ytmamlipgfkmcjaa

namespace Go.Proofs.Ytmamlipgfkmcjaa
open Go.RowKit

theorem Rd.keeps {w w' : World} {br : Nat} {v : Value} {l : List UInt8} {e : Int} (h : Rd w br v l e) (hk : Keeps [] w w') : Rd w' br v l e :=
  ⟨(hk.block br (cell2_of h.1).2.2.2.2 (by simp)).trans h.1, h.2.keeps hk⟩

theorem two_boxes (w : World) (p : Value) : ((w.alloc (.cells #[p] 81)).alloc (.cells #[.int .u64 0] 23)).heap[w.heap.size + 1]? = some (.cells #[.int .u64 0] 23 (0, 0)) := by
  have := heap_alloc_new (w.alloc (.cells #[p] 81)) (.cells #[.int .u64 0] 23)
  simpa using this
theorem Keeps.back {S : List Nat} {a b c : World} (h : Keeps [] a b) (k : Keeps S b c) {T : List Nat} (hT : ∀ x ∈ S, x ∈ T ∨ a.heap.size ≤ x) : Keeps T a c :=
  (h.of_nil (T := T)).trans' k hT
theorem rd_set_ok {w : World} {br : Nat} {v : Value} {l : List UInt8} {e : Int} (h : Rd w br v l e) (e' : Int) : Rd (w.setCell ⟨br, 1, none⟩ (.int .i64 e')) br v l e' :=
  ⟨set2_1 h.1 _, h.2.kb (KB.setCell w _ (cell2_of h.1).2.1 (by simp))⟩
theorem rd_set_bad {w : World} {br : Nat} {v : Value} {l : List UInt8} {e : Int} (h : Rd w br v l e) (e' : Int) : Rd ((w.setCell ⟨br, 1, none⟩ (.int .i64 e')).setCell ⟨br, 0, none⟩ (.slice none 0 0)) br (.slice none 0 0) [] e' :=
  ⟨set2_0 (set2_1 h.1 _) _, SlB.nil _⟩
set_option maxRecDepth 100000 in
set_option maxHeartbeats 2000000 in
theorem uint_ok (w : World) (br : Nat) (v : Value) (l rest : List UInt8) (x : Nat) (h : Rd w br v l 0) (hr : readU l = some (x, rest)) :
    Calls Try.prog 38 #[.pointer (some ⟨br, 0, none⟩)] w fun en w' => en = .returned (.int .u64 x) ∧ (∃ v', Rd w' br v' rest 0) ∧ Keeps [br] w w' := by
  obtain ⟨c0, c1, f0, f1, hlt⟩ := cell2_of h.1
  have hne : ¬ w.heap.size = br := by omega
  have hne2 : ¬ w.heap.size + 1 = br := by omega
  obtain ⟨a0, cp0, rfl⟩ := h.2.form
  have hkA : Keeps [] w ((w.alloc (.cells #[.pointer (some ⟨br, 0, none⟩)] 81)).alloc (.cells #[.int .u64 0] 23)) := ((Keeps.refl [] w).alloc _).alloc _
  have hc := uint1_ok _ br w.heap.size (w.heap.size + 1) _ l rest x (h.keeps hkA) (by simp) (two_boxes w _) ⟨by omega, by omega⟩ hr
  replace h := Lib.hid h
  replace hkA := Lib.hid hkA
  replace hc := Lib.hid hc
  replace hr := Lib.hid hr
  clear c0
  go_enter Try.func38, Try.ntmps38
  go_wp2_with (first
    | (go_at_call 59; refine hc.out.mono ?_; rintro e w3 ⟨rfl, hb2, ⟨v3, hR3⟩, hk3⟩; obtain ⟨d0, d1, g0, g1, hlt3⟩ := cell2_of hR3.1; obtain ⟨e0, _, hlt4⟩ := cell1_of hb2; have hk4 := Lib.hid hk3; have hR4 := Lib.hid hR3; clear hk3 hR3 hb2)
    | go_in)
  go_ret
  exact ⟨rfl, ⟨v3, rd_set_ok hR4.out 0⟩, (hkA.out.of_nil.trans' hk4.out (by simp)).setCell (.inr (by simp)) _⟩

set_option maxRecDepth 100000 in
set_option maxHeartbeats 2000000 in
theorem uint_bad (w : World) (br : Nat) (v : Value) (l : List UInt8) (h : Rd w br v l 0) (hr : readU l = none) :
    Calls Try.prog 38 #[.pointer (some ⟨br, 0, none⟩)] w fun en w' => en = .returned (.int .u64 0) ∧ Rd w' br (.slice none 0 0) [] 11 ∧ Keeps [br] w w' := by
  obtain ⟨c0, c1, f0, f1, hlt⟩ := cell2_of h.1
  have hne : ¬ w.heap.size = br := by omega
  have hne2 : ¬ w.heap.size + 1 = br := by omega
  obtain ⟨a0, cp0, rfl⟩ := h.2.form
  have hkA : Keeps [] w ((w.alloc (.cells #[.pointer (some ⟨br, 0, none⟩)] 81)).alloc (.cells #[.int .u64 0] 23)) := ((Keeps.refl [] w).alloc _).alloc _
  have hc := uint1_bad _ br w.heap.size (w.heap.size + 1) _ l (h.keeps hkA) (by simp) hr
  have h2 := two_boxes w (.pointer (some ⟨br, 0, none⟩))
  replace h2 := Lib.hid h2
  replace h := Lib.hid h
  replace hkA := Lib.hid hkA
  replace hc := Lib.hid hc
  replace hr := Lib.hid hr
  clear c0
  go_enter Try.func38, Try.ntmps38
  go_wp2_with (first
    | (go_at_call 59; refine hc.out.mono ?_; rintro e w3 ⟨rfl, hk3⟩; have hR3 := (h.out.keeps hkA.out).keeps hk3; obtain ⟨d0, d1, g0, g1, hlt3⟩ := cell2_of hR3.1; have hk4 := Lib.hid hk3; have hR4 := Lib.hid hR3; have h22 := Lib.hid ((hk3.block _ (by simp) (by simp)).trans h2.out); obtain ⟨e0, _, hlt4⟩ := cell1_of h22.out; clear hk3 hR3)
    | go_in)
  go_ret
  exact ⟨rfl, rd_set_bad hR4.out 11, (((hkA.out.trans hk4.out).of_nil).setCell (.inr (by simp)) _).setCell (.inr (by simp)) _⟩

/-- Both in one: what a number's reading gives and leaves. -/
def rdU (l : List UInt8) : Nat × List UInt8 × Int := match readU l with | some (x, r) => (x, r, 0) | none => (0, [], 11)
theorem uint_c (w : World) (br : Nat) (v : Value) (l : List UInt8) (h : Rd w br v l 0) :
    Calls Try.prog 38 #[.pointer (some ⟨br, 0, none⟩)] w fun en w' => en = .returned (.int .u64 (rdU l).1) ∧ (∃ v', Rd w' br v' (rdU l).2.1 (rdU l).2.2) ∧ Keeps [br] w w' := by
  cases hr : readU l with
  | none =>
    have e : rdU l = (0, [], 11) := by simp [rdU, hr]
    rw [e]
    exact (uint_bad w br v l h hr).mono fun _ _ ⟨h1, h2, h3⟩ => ⟨h1, ⟨_, h2⟩, h3⟩
  | some p =>
    obtain ⟨x, r⟩ := p
    have e : rdU l = (x, r, 0) := by simp [rdU, hr]
    rw [e]
    exact uint_ok w br v l r x h hr
end Go.Proofs.Ytmamlipgfkmcjaa

namespace Go.Proofs.Ytmamlipgfkmcjaa
open Go.RowKit

/-- A reader's state: what is left, and the error. -/
abbrev RS := List UInt8 × Int
def rU (s : RS) : Nat × RS := if s.2 = 0 then (match readU s.1 with | some (x, r) => (x, (r, 0)) | none => (0, ([], 11))) else (0, s)
def readB : List UInt8 → Option (Bool × List UInt8)
  | [] => none
  | k :: t => if k.toNat ≤ 1 then some (k.toNat == 1, t) else none
def rB (s : RS) : Bool × RS := if s.2 = 0 then (match readB s.1 with | some (x, r) => (x, (r, 0)) | none => (false, ([], 11))) else (false, s)
/-- The reader in memory, in a state. -/
def RdS (w : World) (br : Nat) (s : RS) : Prop := ∃ v, Rd w br v s.1 s.2
theorem RdS.keeps {w w' : World} {br : Nat} {s : RS} (h : RdS w br s) (hk : Keeps [] w w') : RdS w' br s := by obtain ⟨v, h⟩ := h; exact ⟨v, h.keeps hk⟩
theorem RdS.lt {w : World} {br : Nat} {s : RS} (h : RdS w br s) : br < w.heap.size := by obtain ⟨v, h⟩ := h; exact (cell2_of h.1).2.2.2.2
set_option maxRecDepth 100000 in
set_option maxHeartbeats 2000000 in
theorem uint_err (w : World) (br : Nat) (v : Value) (l : List UInt8) (e : Int) (h : Rd w br v l e) (he : e ≠ 0) :
    Calls Try.prog 38 #[.pointer (some ⟨br, 0, none⟩)] w fun en w' => en = .returned (.int .u64 0) ∧ Keeps [] w w' := by
  obtain ⟨c0, c1, f0, f1, hlt⟩ := cell2_of h.1
  have hne : ¬ w.heap.size = br := by omega
  have hne2 : ¬ w.heap.size + 1 = br := by omega
  have he2 : (e == 0) = false := by simp [he]
  obtain ⟨a0, cp0, rfl⟩ := h.2.form
  have hkA : Keeps [] w ((w.alloc (.cells #[.pointer (some ⟨br, 0, none⟩)] 81)).alloc (.cells #[.int .u64 0] 23)) := ((Keeps.refl [] w).alloc _).alloc _
  clear h c0 he
  go_enter Try.func38, Try.ntmps38
  go_wp2_with (first | go_in)
  go_ret
  exact ⟨rfl, hkA⟩
theorem uintS_c (w : World) (br : Nat) (s : RS) (h : RdS w br s) :
    Calls Try.prog 38 #[.pointer (some ⟨br, 0, none⟩)] w fun en w' => en = .returned (.int .u64 (rU s).1) ∧ RdS w' br (rU s).2 ∧ Keeps [br] w w' := by
  obtain ⟨l, e⟩ := s
  obtain ⟨v, h⟩ := h
  by_cases he : e = 0
  · subst he
    refine (uint_c w br v l h).mono fun en w' ⟨h1, h2, h3⟩ => ?_
    have : rU (l, 0) = ((rdU l).1, ((rdU l).2.1, (rdU l).2.2)) := by
      cases hx : readU l with
      | none => simp [rU, rdU, hx]
      | some p => obtain ⟨x, r⟩ := p; simp [rU, rdU, hx]
    rw [this]
    exact ⟨h1, h2, h3⟩
  · refine (uint_err w br v l e h he).mono fun en w' ⟨h1, h2⟩ => ?_
    rw [show rU (l, e) = (0, (l, e)) by unfold rU; rw [if_neg he]]
    exact ⟨h1, ⟨v, h.keeps h2⟩, h2.of_nil⟩
theorem two_boxesB (w : World) (p : Value) : ((w.alloc (.cells #[p] 81)).alloc (.cells #[.bool false] 4)).heap[w.heap.size + 1]? = some (.cells #[.bool false] 4 (0, 0)) := by
  have := heap_alloc_new (w.alloc (.cells #[p] 81)) (.cells #[.bool false] 4)
  simpa using this
set_option maxRecDepth 100000 in
set_option maxHeartbeats 2000000 in
theorem bool1_bad (w : World) (br b1 b2 : Nat) (v : Value) (l : List UInt8) (h : Rd w br v l 0) (h1 : w.cell? ⟨b1, 0, none⟩ = some (.pointer (some ⟨br, 0, none⟩))) (hr : readB l = none) :
    Calls Try.prog 60 #[.pointer (some ⟨b1, 0, none⟩), .pointer (some ⟨b2, 0, none⟩)] w fun en w' => en = .returned (.int .i64 11) ∧ Keeps [] w w' := by
  obtain ⟨c0, c1, f0, f1, hlt⟩ := cell2_of h.1
  rcases h.2.cases with ⟨rfl, a, cp, rfl, _, _⟩ | ⟨g, o, cp, rfl, hn, hm, hp, hg, hc⟩
  · clear h hr
    go_enter Try.func60, Try.ntmps60
    go_wp2
    go_ret
    exact ⟨rfl, Keeps.refl _ _⟩
  · obtain ⟨k, t, rfl⟩ : ∃ k t, l = k :: t := by cases l with | nil => simp at hp | cons k t => exact ⟨k, t, rfl⟩
    have k0 := hc 0 (by simp)
    simp only [Nat.add_zero, List.getElem_cons_zero] at k0
    have hk1 : 1 < k.toNat := by
      rcases Nat.lt_or_ge 1 k.toNat with e | e
      · exact e
      · rw [readB, if_pos e] at hr; cases hr
    clear h hc hp hr
    have hk := k.toNat_lt
    simp only [List.length_cons] at *
    generalize k.toNat = kk at *
    generalize t.length = N at *
    have hNN : (N : Int) + 1 ≤ 9223372036854775807 := by unfold maxLen at hm; omega
    have nz : ((N : Int) + 1 == 0) = false := by simp; omega
    have d1 : (1 : Int) < (kk : Int) := by omega
    go_enter Try.func60, Try.ntmps60
    go_wp2
    go_ret
    exact ⟨rfl, Keeps.refl _ _⟩
set_option maxRecDepth 100000 in
set_option maxHeartbeats 2000000 in
theorem bool1_ok (w : World) (br b1 b2 : Nat) (v : Value) (l rest : List UInt8) (x : Bool) (h : Rd w br v l 0) (h1 : w.cell? ⟨b1, 0, none⟩ = some (.pointer (some ⟨br, 0, none⟩))) (h2 : w.heap[b2]? = some (.cells #[.bool false] 4 (0, 0)))
    (hne : b1 ≠ b2 ∧ br ≠ b2 ∧ b1 ≠ br) (hr : readB l = some (x, rest)) :
    Calls Try.prog 60 #[.pointer (some ⟨b1, 0, none⟩), .pointer (some ⟨b2, 0, none⟩)] w fun en w' => en = .returned (.int .i64 0) ∧ w'.heap[b2]? = some (.cells #[.bool x] 4 (0, 0)) ∧ (∃ v', Rd w' br v' rest 0) ∧ Keeps [br, b2] w w' := by
  obtain ⟨c0, c1, f0, f1, hlt⟩ := cell2_of h.1
  obtain ⟨e0, fe0, hlt2⟩ := cell1_of h2
  rcases h.2.cases with ⟨rfl, a, cp, rfl, _, _⟩ | ⟨g, o, cp, rfl, hn, hm, hp, hg, hc⟩
  · cases hr
  · obtain ⟨k, t, rfl⟩ : ∃ k t, l = k :: t := by cases l with | nil => simp at hp | cons k t => exact ⟨k, t, rfl⟩
    have k0 := hc 0 (by simp)
    simp only [Nat.add_zero, List.getElem_cons_zero] at k0
    have hgb : g ≠ b2 := fun e => by subst e; exact no_byte h2 (by simp) _ _ k0
    have hgr : g ≠ br := fun e => by subst e; exact no_byte h.1 (by simp) _ _ k0
    have hk1 : k.toNat ≤ 1 := by
      rcases Nat.lt_or_ge 1 k.toNat with e | e
      · rw [readB, if_neg (by omega)] at hr; cases hr
      · exact e
    rw [readB, if_pos hk1] at hr
    simp only [Option.some.injEq, Prod.mk.injEq] at hr
    obtain ⟨hx, rfl⟩ := hr
    have htl := SlB.tail h.2 1 (by simp)
    simp only [List.length_cons, List.drop_succ_cons, List.drop_zero, Nat.add_sub_cancel] at htl
    simp only [List.length_cons] at *
    have hh := Lib.hid h
    have hh2 := Lib.hid h2
    clear h h2 hc hp
    generalize hkk : k.toNat = kk at *
    obtain ⟨N, hNt⟩ : ∃ N, t.length = N := ⟨_, rfl⟩
    rw [hNt] at hn c0 htl
    have hhN : Hid (Rd w br (.slice (some ⟨g, o, none⟩) (N + 1) cp) (k :: t) 0) := by rw [← hNt]; exact hh
    clear hNt hh
    have hNN : (N : Int) + 1 ≤ 9223372036854775807 := by unfold maxLen at hm; omega
    have nz : ((N : Int) + 1 == 0) = false := by simp; omega
    have d1 : decide ((1 : Int) < (kk : Int)) = false := by simp; omega
    have h1N : (1 : Int) ≤ (N : Int) + 1 := by omega
    have hxx : ((kk : Int) == 1) = x := by rw [← hx, Bool.eq_iff_iff]; simp; omega
    obtain ⟨vt, hvt⟩ : ∃ vt, (if cp = 1 then some (⟨g, o, none⟩ : Addr) else some ⟨g, o + 1, none⟩) = vt := ⟨_, rfl⟩
    rw [hvt] at htl
    replace htl := Lib.hid htl
    replace hvt := Lib.hid hvt
    replace hkk := Lib.hid hkk
    clear hx
    go_enter Try.func60, Try.ntmps60
    go_wp2
    refine Free.wp_region_chain (fun i => i == 13 || i == 16) (fun i => true) (fun j b => (j = 13 ∧ b = b2) ∨ (j = 16 ∧ b = br)) (by kernel_rfl) (by kernel_rfl) (by kernel_rfl) ?_
    (repeat (first | (apply Free.cw_pure rfl rfl; (intro w'; go_simp <;> exact rfl); go_frame) | (apply Free.cw_steady rfl rfl rfl; (intro w' hS; have q0 := Free.sx_cell hS h1 (fun _ _ hT => Or.elim hT (fun h => hne.1 h.2) (fun h => hne.2.2 h.2)); have q1 := Free.sx_cell hS k0 (fun _ _ hT => Or.elim hT (fun h => hgb h.2) (fun h => hgr h.2)); have q2 := Free.sx_cell hS c0 (fun j hp hT => Or.elim hT (fun h => hne.2.1 h.2) (fun h => by obtain ⟨rfl, _⟩ := h; exact absurd hp (by decide +kernel))); go_simp <;> exact rfl); go_frame) | (refine Free.cw_skip rfl ?_; go_frame)))
    clear hxx d1 nz hk1
    rw [hvt.out]
    refine Free.cw_loud rfl rfl (fun K hK => ?_)
    go_wp2
    refine hK _ _ rfl (Free.KeepsP.setCell _ (.inl ⟨trivial, rfl⟩) _) ?_
    clear hK K
    (repeat (first | (apply Free.cw_pure rfl rfl; (intro w'; go_simp <;> exact rfl); go_frame) | (apply Free.cw_steady rfl rfl rfl; (intro w' hS; have q0 := Free.sx_cell hS h1 (fun _ _ hT => Or.elim hT (fun h => hne.1 h.2) (fun h => hne.2.2 h.2)); have q1 := Free.sx_cell hS k0 (fun _ _ hT => Or.elim hT (fun h => hgb h.2) (fun h => hgr h.2)); have q2 := Free.sx_cell hS c0 (fun j hp hT => Or.elim hT (fun h => hne.2.1 h.2) (fun h => by obtain ⟨rfl, _⟩ := h; exact absurd hp (by decide +kernel))); go_simp <;> exact rfl); go_frame) | (refine Free.cw_skip rfl ?_; go_frame)))
    refine Free.cw_loud rfl rfl (fun K hK => ?_)
    go_wp2
    refine hK _ _ rfl (Free.KeepsP.setCell _ (.inr ⟨trivial, rfl⟩) _) ?_
    clear hK K
    (repeat (first | (apply Free.cw_pure rfl rfl; (intro w'; go_simp <;> exact rfl); go_frame) | (apply Free.cw_steady rfl rfl rfl; (intro w' hS; have q0 := Free.sx_cell hS h1 (fun _ _ hT => Or.elim hT (fun h => hne.1 h.2) (fun h => hne.2.2 h.2)); go_simp <;> exact rfl); go_frame) | (refine Free.cw_skip rfl ?_; go_frame)))
    refine Free.cw_nil ?_
    go_wp2
    go_ret
    have hbr1 : (w.setCell ⟨b2, 0, none⟩ (.bool x)).heap[br]? = some (.cells #[.slice (some ⟨g, o, none⟩) (N + 1) cp, .int .i64 0] 100 (0, 0)) := (Below.heap_setCell _ _ _ _ (by simp; omega)).trans hhN.out.1
    have hb21 : (w.setCell ⟨b2, 0, none⟩ (.bool x)).heap[b2]? = some (.cells #[.bool x] 4 (0, 0)) := one_setCell hh2.out
    refine ⟨rfl, (Below.heap_setCell _ _ _ _ (by simp; omega)).trans hb21, ⟨_, set2_0 hbr1 _, htl.out.kb ((KB.setCell w _ e0 (by simp)).trans ((KB.setCell _ _ (cell2_of hbr1).1 (by simp)).trans (KB.drew _)))⟩, (((Keeps.refl _ w).setCell (.inr (by simp)) _).setCell (.inr (by simp)) _).drew⟩
set_option maxRecDepth 100000 in
set_option maxHeartbeats 2000000 in
theorem bool_ok (w : World) (br : Nat) (v : Value) (l rest : List UInt8) (x : Bool) (h : Rd w br v l 0) (hr : readB l = some (x, rest)) :
    Calls Try.prog 39 #[.pointer (some ⟨br, 0, none⟩)] w fun en w' => en = .returned (.bool x) ∧ (∃ v', Rd w' br v' rest 0) ∧ Keeps [br] w w' := by
  obtain ⟨c0, c1, f0, f1, hlt⟩ := cell2_of h.1
  have hne : ¬ w.heap.size = br := by omega
  have hne2 : ¬ w.heap.size + 1 = br := by omega
  obtain ⟨a0, cp0, rfl⟩ := h.2.form
  have hkA : Keeps [] w ((w.alloc (.cells #[.pointer (some ⟨br, 0, none⟩)] 81)).alloc (.cells #[.bool false] 4)) := ((Keeps.refl [] w).alloc _).alloc _
  have hc := bool1_ok _ br w.heap.size (w.heap.size + 1) _ l rest x (h.keeps hkA) (by simp) (two_boxesB w _) ⟨by omega, by omega, by omega⟩ hr
  replace h := Lib.hid h
  replace hkA := Lib.hid hkA
  replace hc := Lib.hid hc
  replace hr := Lib.hid hr
  clear c0
  go_enter Try.func39, Try.ntmps39
  go_wp2_with (first
    | (go_at_call 60; refine hc.out.mono ?_; rintro e w3 ⟨rfl, hb2, ⟨v3, hR3⟩, hk3⟩; obtain ⟨d0, d1, g0, g1, hlt3⟩ := cell2_of hR3.1; obtain ⟨e0, _, hlt4⟩ := cell1_of hb2; have hk4 := Lib.hid hk3; have hR4 := Lib.hid hR3; clear hk3 hR3 hb2)
    | go_in)
  go_ret
  exact ⟨rfl, ⟨v3, rd_set_ok hR4.out 0⟩, (hkA.out.of_nil.trans' hk4.out (by simp)).setCell (.inr (by simp)) _⟩
set_option maxRecDepth 100000 in
set_option maxHeartbeats 2000000 in
theorem bool_bad (w : World) (br : Nat) (v : Value) (l : List UInt8) (h : Rd w br v l 0) (hr : readB l = none) :
    Calls Try.prog 39 #[.pointer (some ⟨br, 0, none⟩)] w fun en w' => en = .returned (.bool false) ∧ Rd w' br (.slice none 0 0) [] 11 ∧ Keeps [br] w w' := by
  obtain ⟨c0, c1, f0, f1, hlt⟩ := cell2_of h.1
  have hne : ¬ w.heap.size = br := by omega
  have hne2 : ¬ w.heap.size + 1 = br := by omega
  obtain ⟨a0, cp0, rfl⟩ := h.2.form
  have hkA : Keeps [] w ((w.alloc (.cells #[.pointer (some ⟨br, 0, none⟩)] 81)).alloc (.cells #[.bool false] 4)) := ((Keeps.refl [] w).alloc _).alloc _
  have hc := bool1_bad _ br w.heap.size (w.heap.size + 1) _ l (h.keeps hkA) (by simp) hr
  have h2 := two_boxesB w (.pointer (some ⟨br, 0, none⟩))
  replace h2 := Lib.hid h2
  replace h := Lib.hid h
  replace hkA := Lib.hid hkA
  replace hc := Lib.hid hc
  replace hr := Lib.hid hr
  clear c0
  go_enter Try.func39, Try.ntmps39
  go_wp2_with (first
    | (go_at_call 60; refine hc.out.mono ?_; rintro e w3 ⟨rfl, hk3⟩; have hR3 := (h.out.keeps hkA.out).keeps hk3; obtain ⟨d0, d1, g0, g1, hlt3⟩ := cell2_of hR3.1; have hk4 := Lib.hid hk3; have hR4 := Lib.hid hR3; have h22 := Lib.hid ((hk3.block _ (by simp) (by simp)).trans h2.out); obtain ⟨e0, _, hlt4⟩ := cell1_of h22.out; clear hk3 hR3)
    | go_in)
  go_ret
  exact ⟨rfl, rd_set_bad hR4.out 11, (((hkA.out.trans hk4.out).of_nil).setCell (.inr (by simp)) _).setCell (.inr (by simp)) _⟩
set_option maxRecDepth 100000 in
set_option maxHeartbeats 2000000 in
theorem bool_err (w : World) (br : Nat) (v : Value) (l : List UInt8) (e : Int) (h : Rd w br v l e) (he : e ≠ 0) :
    Calls Try.prog 39 #[.pointer (some ⟨br, 0, none⟩)] w fun en w' => en = .returned (.bool false) ∧ Keeps [] w w' := by
  obtain ⟨c0, c1, f0, f1, hlt⟩ := cell2_of h.1
  have hne : ¬ w.heap.size = br := by omega
  have hne2 : ¬ w.heap.size + 1 = br := by omega
  have he2 : (e == 0) = false := by simp [he]
  obtain ⟨a0, cp0, rfl⟩ := h.2.form
  have hkA : Keeps [] w ((w.alloc (.cells #[.pointer (some ⟨br, 0, none⟩)] 81)).alloc (.cells #[.bool false] 4)) := ((Keeps.refl [] w).alloc _).alloc _
  clear h c0 he
  go_enter Try.func39, Try.ntmps39
  go_wp2_with (first | go_in)
  go_ret
  exact ⟨rfl, hkA⟩
theorem boolS_c (w : World) (br : Nat) (s : RS) (h : RdS w br s) :
    Calls Try.prog 39 #[.pointer (some ⟨br, 0, none⟩)] w fun en w' => en = .returned (.bool (rB s).1) ∧ RdS w' br (rB s).2 ∧ Keeps [br] w w' := by
  obtain ⟨l, e⟩ := s
  obtain ⟨v, h⟩ := h
  by_cases he : e = 0
  · subst he
    cases hr : readB l with
    | none =>
      rw [show rB (l, 0) = (false, ([], 11)) by unfold rB; rw [if_pos rfl]; simp only [hr]]
      exact (bool_bad w br v l h hr).mono fun _ _ ⟨h1, h2, h3⟩ => ⟨h1, ⟨_, h2⟩, h3⟩
    | some p =>
      obtain ⟨x, r⟩ := p
      rw [show rB (l, 0) = (x, (r, 0)) by unfold rB; rw [if_pos rfl]; simp only [hr]]
      exact bool_ok w br v l r x h hr
  · refine (bool_err w br v l e h he).mono fun en w' ⟨h1, h2⟩ => ?_
    rw [show rB (l, e) = (false, (l, e)) by unfold rB; rw [if_neg he]]
    exact ⟨h1, ⟨v, h.keeps h2⟩, h2.of_nil⟩
end Go.Proofs.Ytmamlipgfkmcjaa

namespace Go.Proofs.Ytmamlipgfkmcjaa
open Go.RowKit

def cE (n : Nat) (l : List UInt8) : Int := if 65536 < n then 8 else if l.length < n then 11 else 0
def rC (l : List UInt8) : Nat × RS := match readU l with | some (n, r) => if cE n r = 0 then (n, (r, 0)) else (0, ([], cE n r)) | none => (0, ([], 11))
theorem rC_le (l : List UInt8) : (rC l).1 ≤ 65536 := by
  unfold rC
  split
  · rename_i n r _
    split
    · rename_i h
      unfold cE at h
      split at h
      · cases h
      · show n ≤ 65536
        omega
    · simp
  · simp
set_option maxRecDepth 100000 in
set_option maxHeartbeats 2000000 in
theorem count1_c (w : World) (br b1 b2 b3 : Nat) (v : Value) (l : List UInt8) (n : Nat) (h : Rd w br v l 0) (h1 : w.cell? ⟨b1, 0, none⟩ = some (.int .i64 65536)) (h2 : w.cell? ⟨b2, 0, none⟩ = some (.int .u64 n)) (h3 : w.cell? ⟨b3, 0, none⟩ = some (.pointer (some ⟨br, 0, none⟩))) :
    Calls Try.prog 58 #[.pointer (some ⟨b1, 0, none⟩), .pointer (some ⟨b2, 0, none⟩), .pointer (some ⟨b3, 0, none⟩)] w fun en w' => en = .returned (.int .i64 (cE n l)) ∧ Keeps [] w w' := by
  obtain ⟨c0, c1, f0, f1, hlt⟩ := cell2_of h.1
  obtain ⟨a0, cp0, rfl⟩ := h.2.form
  have hmx := h.2.cap
  clear h
  obtain ⟨N, hN⟩ : ∃ N, l.length = N := ⟨_, rfl⟩
  rw [hN] at c0 hmx
  have hNN : (N : Int) ≤ 9223372036854775807 := by unfold maxLen at hmx; omega
  replace hN := Lib.hid hN
  have hwr : IntKind.u64.wrap (N : Int) = N := by rw [IntKind.wrap_u64]; omega
  by_cases hbig : 65536 < n
  · have hd : (65536 : Int) < (n : Int) := by omega
    go_enter Try.func58, Try.ntmps58
    go_wp2
    go_ret
    exact ⟨by unfold cE; rw [if_pos hbig]; rfl, Keeps.refl _ _⟩
  · have hd : decide ((65536 : Int) < (n : Int)) = false := by simp; omega
    by_cases hb2 : N < n
    · have hd2 : (N : Int) < (n : Int) := by omega
      go_enter Try.func58, Try.ntmps58
      go_wp2
      (refine wp_region_quiet_lit (by kernel_rfl) (by kernel_rfl) ?_; (repeat (first | go_big_quiet_step (fail) | quiet_step (fail))); with_reducible refine wpQuiet_nil ?_; intro _ hw'; obtain ⟨nq, hw''⟩ := hw'; subst hw'')
      go_wp2
      go_ret
      exact ⟨by unfold cE; rw [if_neg hbig, hN.out, if_pos hb2]; rfl, (Keeps.refl _ _).drewN _⟩
    · have hd2 : decide ((N : Int) < (n : Int)) = false := by simp; omega
      go_enter Try.func58, Try.ntmps58
      go_wp2
      (refine wp_region_quiet_lit (by kernel_rfl) (by kernel_rfl) ?_; (repeat (first | go_big_quiet_step (fail) | quiet_step (fail))); with_reducible refine wpQuiet_nil ?_; intro _ hw'; obtain ⟨nq, hw''⟩ := hw'; subst hw'')
      go_wp2
      go_ret
      exact ⟨by unfold cE; rw [if_neg hbig, hN.out, if_neg hb2]; rfl, (Keeps.refl _ _).drewN _⟩
set_option maxRecDepth 100000 in
set_option maxHeartbeats 2000000 in
theorem count_bad (w : World) (br : Nat) (v : Value) (l : List UInt8) (h : Rd w br v l 0) (hr : readU l = none) :
    Calls Try.prog 37 #[.pointer (some ⟨br, 0, none⟩), .int .i64 65536] w fun en w' => en = .returned (.int .i64 0) ∧ Rd w' br (.slice none 0 0) [] 11 ∧ Keeps [br] w w' := by
  have hlt := (cell2_of h.1).2.2.2.2
  have hne : ¬ w.heap.size = br := by omega
  have hne2 : ¬ w.heap.size + 1 = br := by omega
  have hkA : Keeps [] w ((w.alloc (.cells #[.pointer (some ⟨br, 0, none⟩)] 81)).alloc (.cells #[.int .i64 65536] 3)) := ((Keeps.refl [] w).alloc _).alloc _
  have hx1 := heap_alloc_new w (.cells #[.pointer (some ⟨br, 0, none⟩)] 81)
  have hx2 := (((Keeps.refl [] (w.alloc (.cells #[.pointer (some ⟨br, 0, none⟩)] 81))).alloc (.cells #[.int .i64 65536] 3)).block _ (lt_of_block hx1) (by simp)).trans hx1
  have hRA := h.keeps hkA
  replace hRA := Lib.hid hRA
  replace hkA := Lib.hid hkA
  replace hr := Lib.hid hr
  clear h hx1
  go_enter Try.func37, Try.ntmps37
  go_wp2_with fail
  refine (uint_bad _ br v l hRA.out hr.out).mono ?_
  rintro e w1 ⟨rfl, hR1, hk1⟩
  have hx3 := (hk1.block _ (lt_of_block hx2) (by simpa using hne)).trans hx2
  obtain ⟨z0, zf, zlt⟩ := cell1_of hx3
  have hk01 := Lib.hid (hkA.out.of_nil.trans hk1)
  obtain ⟨c0, c1, f0, f1, hlt1⟩ := cell2_of hR1.1
  have hkB : Keeps [] w1 (w1.alloc (.cells #[.int .u64 0] 23)) := (Keeps.refl [] w1).alloc _
  have hne3 : ¬ w1.heap.size = br := by omega
  have hne4 : ¬ w1.heap.size = w.heap.size := by omega
  replace hR1 := Lib.hid hR1
  replace hkB := Lib.hid hkB
  clear hk1 hx2 hx3
  go_wp2_with (first | go_in)
  go_ret
  exact ⟨rfl, hR1.out.keeps hkB.out, hk01.out.trans hkB.out.of_nil⟩
set_option maxRecDepth 100000 in
set_option maxHeartbeats 4000000 in
theorem count_ok (w : World) (br : Nat) (v : Value) (l r : List UInt8) (n : Nat) (h : Rd w br v l 0) (hr : readU l = some (n, r)) (hn : n < 18446744073709551616) :
    Calls Try.prog 37 #[.pointer (some ⟨br, 0, none⟩), .int .i64 65536] w fun en w' => en = .returned (.int .i64 (rC l).1) ∧ RdS w' br (rC l).2 ∧ Keeps [br] w w' := by
  have hrc : rC l = if cE n r = 0 then (n, (r, 0)) else (0, ([], cE n r)) := by unfold rC; simp only [hr]
  have hlt := (cell2_of h.1).2.2.2.2
  have hne : ¬ w.heap.size = br := by omega
  have hne2 : ¬ w.heap.size + 1 = br := by omega
  have hkA : Keeps [] w ((w.alloc (.cells #[.pointer (some ⟨br, 0, none⟩)] 81)).alloc (.cells #[.int .i64 65536] 3)) := ((Keeps.refl [] w).alloc _).alloc _
  have hx1 := heap_alloc_new w (.cells #[.pointer (some ⟨br, 0, none⟩)] 81)
  have hx2 := (((Keeps.refl [] (w.alloc (.cells #[.pointer (some ⟨br, 0, none⟩)] 81))).alloc (.cells #[.int .i64 65536] 3)).block _ (lt_of_block hx1) (by simp)).trans hx1
  have hm2 := heap_alloc_new (w.alloc (.cells #[.pointer (some ⟨br, 0, none⟩)] 81)) (.cells #[.int .i64 65536] 3)
  rw [show (w.alloc (.cells #[.pointer (some ⟨br, 0, none⟩)] 81)).heap.size = w.heap.size + 1 by simp] at hm2
  have hRA := h.keeps hkA
  replace hRA := Lib.hid hRA
  replace hkA := Lib.hid hkA
  replace hr := Lib.hid hr
  replace hrc := Lib.hid hrc
  clear h hx1
  go_enter Try.func37, Try.ntmps37
  go_wp2_with fail
  refine (uint_ok _ br v l r n hRA.out hr.out).mono ?_
  rintro e w1 ⟨rfl, ⟨v1, hR1⟩, hk1⟩
  have hx3 := (hk1.block _ (lt_of_block hx2) (by simpa using hne)).trans hx2
  have hm3 := (hk1.block _ (lt_of_block hm2) (by simpa using hne2)).trans hm2
  have hkB : Keeps [] w1 (w1.alloc (.cells #[.int .u64 n] 23)) := (Keeps.refl [] w1).alloc _
  have hx4 := (hkB.block _ (lt_of_block hx3) (by simp)).trans hx3
  have hm4 := (hkB.block _ (lt_of_block hm3) (by simp)).trans hm3
  have hn4 := heap_alloc_new w1 (.cells #[.int .u64 n] 23)
  have hR2 := hR1.keeps hkB
  have hk02 := hkA.out.of_nil.trans (hk1.trans hkB.of_nil)
  obtain ⟨z0, zf, zlt⟩ := cell1_of hx3
  obtain ⟨q0, qf, qlt⟩ := cell1_of hn4
  obtain ⟨c0, c1, f0, f1, hlt1⟩ := cell2_of hR1.1
  have hne3 : ¬ w1.heap.size = br := by omega
  have hne4 : ¬ w1.heap.size = w.heap.size := by omega
  have hc := count1_c _ br (w.heap.size + 1) w1.heap.size w.heap.size v1 r n hR2 (cell1_of hm4).1 q0 (cell1_of hx4).1
  obtain ⟨E, hE⟩ : ∃ E, cE n r = E := ⟨_, rfl⟩
  obtain ⟨a1, cp1, rfl⟩ := hR1.2.form
  rw [hE] at hc
  by_cases hE0 : E = 0
  · subst hE0
    have hn63 : (n : Int) ≤ 65536 := by
      unfold cE at hE
      split at hE
      · cases hE
      · omega
    replace hE := Lib.hid hE
    replace hR1 := Lib.hid hR1
    replace hR2 := Lib.hid hR2
    replace hkB := Lib.hid hkB
    replace hk02 := Lib.hid hk02
    replace hc := Lib.hid hc
    replace hn4 := Lib.hid hn4
    clear hk1 hx2 hx3 hx4 hm2 hm3 hm4 c0 q0 qf qlt
    go_wp2_with (first
      | (go_at_call 58; refine hc.out.mono ?_; rintro e w3 ⟨rfl, hk3⟩; have hR3 := hR2.out.keeps hk3; obtain ⟨d0, d1, g0, g1, hlt3⟩ := cell2_of hR3.1; have hk4 := Lib.hid hk3; have hR4 := Lib.hid hR3; have hn5 := Lib.hid ((hk3.block _ (lt_of_block hn4.out) (by simp)).trans hn4.out); obtain ⟨e0, _, hlt4⟩ := cell1_of hn5.out; clear hk3 hR3)
      | go_in)
    go_ret
    rw [hrc.out, if_pos hE.out]
    exact ⟨rfl, ⟨_, rd_set_ok hR4.out 0⟩, (hk02.out.trans hk4.out.of_nil).setCell (.inr (by simp)) _⟩
  · have hEb : (E == 0) = false := by simp [hE0]
    replace hE0 := Lib.hid hE0
    replace hE := Lib.hid hE
    replace hR1 := Lib.hid hR1
    replace hR2 := Lib.hid hR2
    replace hkB := Lib.hid hkB
    replace hk02 := Lib.hid hk02
    replace hc := Lib.hid hc
    replace hn4 := Lib.hid hn4
    clear hk1 hx2 hx3 hx4 hm2 hm3 hm4 c0 q0 qf qlt
    go_wp2_with (first
      | (go_at_call 58; refine hc.out.mono ?_; rintro e w3 ⟨rfl, hk3⟩; have hR3 := hR2.out.keeps hk3; obtain ⟨d0, d1, g0, g1, hlt3⟩ := cell2_of hR3.1; have hk4 := Lib.hid hk3; have hR4 := Lib.hid hR3; have hn5 := Lib.hid ((hk3.block _ (lt_of_block hn4.out) (by simp)).trans hn4.out); obtain ⟨e0, _, hlt4⟩ := cell1_of hn5.out; clear hk3 hR3)
      | go_in)
    go_ret
    rw [hrc.out, if_neg (by rw [hE.out]; exact hE0.out)]
    refine ⟨rfl, ⟨.slice none 0 0, ?_⟩, ((hk02.out.trans hk4.out.of_nil).setCell (.inr (by simp)) _).setCell (.inr (by simp)) _⟩
    rw [hE.out]
    exact rd_set_bad hR4.out E
theorem readU_lt {l r : List UInt8} {n : Nat} (h : readU l = some (n, r)) : n < 18446744073709551616 := by
  cases l with
  | nil => cases h
  | cons k t =>
    rcases Classical.em (k.toNat ≤ 8 ∧ k.toNat ≤ t.length ∧ (0 < k.toNat → t.headD 1 ≠ 0)) with hc | hc
    · rw [readU, if_pos hc] at h
      simp only [Option.some.injEq, Prod.mk.injEq] at h
      rw [← h.1]
      have := valU_lt k.toNat (t.take k.toNat) (by rw [List.length_take]; omega)
      have h2 : (256 : Nat) ^ k.toNat ≤ 256 ^ 8 := Nat.pow_le_pow_right (by omega) hc.1
      omega
    · rw [readU, if_neg hc] at h; cases h
theorem countS_c (w : World) (br : Nat) (l : List UInt8) (h : RdS w br (l, 0)) :
    Calls Try.prog 37 #[.pointer (some ⟨br, 0, none⟩), .int .i64 65536] w fun en w' => en = .returned (.int .i64 (rC l).1) ∧ RdS w' br (rC l).2 ∧ Keeps [br] w w' := by
  obtain ⟨v, h⟩ := h
  cases hr : readU l with
  | none =>
    rw [show rC l = (0, ([], 11)) by unfold rC; simp only [hr]]
    exact (count_bad w br v l h hr).mono fun _ _ ⟨h1, h2, h3⟩ => ⟨h1, ⟨_, h2⟩, h3⟩
  | some p =>
    obtain ⟨n, r⟩ := p
    exact count_ok w br v l r n h hr (readU_lt hr)
theorem doneS_c (w : World) (br : Nat) (s : RS) (h : RdS w br s) :
    Calls Try.prog 40 #[.pointer (some ⟨br, 0, none⟩)] w fun en w' => en = .returned (.int .i64 (doneE s.1 s.2)) ∧ w = w' := by
  obtain ⟨v, h⟩ := h
  exact done_c w br v s.1 s.2 h
end Go.Proofs.Ytmamlipgfkmcjaa

namespace Go.Proofs.Ytmamlipgfkmcjaa
open Go.RowKit

def wd : Nat → Nat → RS → List Hn → Option (List Hn × RS)
  | 0, _, s, acc => some (acc, s)
  | n + 1, last, s, acc =>
    if (rU s).1 ≤ last ∨ 4294967296 < (rU s).1 then none
    else wd n (rU s).1 (rU (rB (rU s).2).2).2 (acc ++ [(((rU s).1 : Int), ((rU (rB (rU s).2).2).1, (rB (rU s).2).1))])
theorem wd_succ (n last : Nat) (s : RS) (acc : List Hn) : wd (n + 1) last s acc = if (rU s).1 ≤ last ∨ 4294967296 < (rU s).1 then none
    else wd n (rU s).1 (rU (rB (rU s).2).2).2 (acc ++ [(((rU s).1 : Int), ((rU (rB (rU s).2).2).1, (rB (rU s).2).1))]) := rfl
def out : Option (List Hn × RS) → Int × List Hn
  | none => (11, [])
  | some (L, s) => if doneE s.1 s.2 = 0 then (0, L) else (doneE s.1 s.2, [])
def wdec (l : List UInt8) : Int × List Hn := out (wd (rC l).1 0 (rC l).2 [])
theorem rU_lt (s : RS) : (rU s).1 < 18446744073709551616 := by
  unfold rU
  split
  · split
    · rename_i x r h; exact readU_lt h
    · show (0 : Nat) < _; decide
  · show (0 : Nat) < _; decide
theorem ins_end (k : Int) (v : Nat × Bool) : ∀ (L : List Hn), (∀ p ∈ L, p.1 < k) → MapL.ins k v L = L ++ [(k, v)]
  | [], _ => rfl
  | (x, u) :: r, h => by
    have h1 : x < k := h (x, u) (by simp)
    unfold MapL.ins
    rw [if_neg (by omega), if_neg (by omega), ins_end k v r (fun p hp => h p (by simp [hp]))]
    rfl
theorem RdS.keepN {w w' : World} {br : Nat} {s : RS} {S : List Nat} (h : RdS w br s) (hk : Keeps S w w') (hbr : br ∉ S) (hS : ∀ b ∈ S, ∀ o, w.cell? ⟨b, o, none⟩ = none) : RdS w' br s := by
  obtain ⟨v, h⟩ := h
  refine ⟨v, (hk.block br (cell2_of h.1).2.2.2.2 hbr).trans h.1, ?_⟩
  exact Sl.keep h.2 fun b o hb => by
    by_cases e : b ∈ S
    · exact .inr (hS b e o)
    · exact .inl (hk.cell b o hb e)
/-- What the call of Decode leaves. -/
def DecPost (w : World) (d : Int × List Hn) (e : Ending) (w' : World) : Prop :=
  (d.1 = 0 ∧ ∃ bt bm, e = .returned (.tuple #[.pointer (some ⟨bt, 0, none⟩), .int .i64 0]) ∧ TM w' bt bm d.2 ∧ Good d.2 ∧ (∀ p ∈ d.2, 1 ≤ p.1) ∧ d.2.length ≤ 65536 ∧ Keeps [] w w' ∧ w.heap.size ≤ bt ∧ w.heap.size ≤ bm) ∨
  (d.1 ≠ 0 ∧ e = .returned (.tuple #[.pointer none, .int .i64 d.1]) ∧ Keeps [] w w')
end Go.Proofs.Ytmamlipgfkmcjaa

namespace Go.Proofs.Ytmamlipgfkmcjaa
open Go.RowKit

/-- The loop's relation. -/
structure WdI (bt bm br : Nat) (N : Nat) (s0 : RS) (k last : Nat) (s : RS) (L : List Hn) (w : World) : Prop where
  rd : RdS w br s
  tm : TM w bt bm L
  eq : wd N 0 s0 [] = wd (N - k) last s L
  good : Good L
  keys : ∀ p ∈ L, 1 ≤ p.1 ∧ p.1 ≤ last
  len : L.length ≤ k
  last : last ≤ 4294967296
set_option maxRecDepth 100000 in
set_option maxHeartbeats 4000000 in
theorem decode_c (w : World) (v0 : Value) (l : List UInt8) (h : SlB w v0 l) (hl : l.length ≤ 140737488355328) :
    Calls Try.prog 25 #[v0] w (DecPost w (wdec l)) := by
  have hN := rC_le l
  obtain ⟨a0, c0, rfl⟩ := h.form
  replace h := Lib.hid h
  go_enter Try.func25, Try.ntmps25
  go_wp2_with fail
  refine (newReader_c w _ l h.out hl).mono ?_
  rintro e w1 ⟨br, v1, rfl, hbr, hR1, hk1⟩
  have hR1 : RdS w1 br (l, 0) := ⟨v1, hR1⟩
  have hbrl := hR1.lt
  replace hR1 := Lib.hid hR1
  go_wp2_with fail
  refine (new_c w1).mono ?_
  rintro e w2 ⟨bt, bm, rfl, t2, hk2, hbt, hbm⟩
  have hR2 := hR1.out.keeps hk2
  replace hk2 := hk1.trans hk2
  have hz1 := hk1.size
  replace hR2 := Lib.hid hR2
  replace hk2 := Lib.hid hk2
  replace t2 := Lib.hid t2
  clear hk1 hR1
  have hne1 : br ≠ bt := by omega
  have hne2 : br ≠ bm := by omega
  go_wp2_with fail
  refine (countS_c w2 br l hR2.out).mono ?_
  rintro e w3 ⟨rfl, hR3, hk3⟩
  have t3 := t2.out.keep hk3 (by simp; omega) (by simp; omega)
  replace hk3 := hk2.out.fresh hk3 (fun b hb => .inr (by simp at hb; omega))
  obtain ⟨N, hNe⟩ : ∃ N, (rC l).1 = N := ⟨_, rfl⟩
  obtain ⟨s0, hs0⟩ : ∃ s, (rC l).2 = s := ⟨_, rfl⟩
  rw [hNe] at hN ⊢
  rw [hs0] at hR3
  have hwd : wdec l = out (wd N 0 s0 []) := by unfold wdec; rw [hNe, hs0]
  have hI : WdI bt bm br N s0 0 0 s0 [] w3 := ⟨hR3, t3, rfl, ⟨List.Pairwise.nil, by simp, by simp⟩, by simp, by simp, by omega⟩
  replace hwd := Lib.hid hwd
  replace hI := Lib.hid hI
  replace hk3 := Lib.hid hk3
  clear hNe hs0 hR3 t3 hk2 t2 hR2
  go_wp2
  go_loopw [6, 16] (fun lv iv wr => ∃ (k last : Nat) (s : RS) (L : List Hn), iv = .int .i64 k ∧ lv = .int .u64 last ∧ k ≤ N ∧ WdI bt bm br N s0 k last s L wr ∧ Keeps [] w wr) (fun _ iv _ => N - (intOf iv).toNat)
  case atStart => exact ⟨0, 0, s0, [], rfl, rfl, by omega, hI.out, hk3.out⟩
  case round =>
    obtain ⟨k, last, s, L, rfl, rfl, hk, hI2, hkr⟩ := hrel
    have hll := hI2.last
    clear hI
    by_cases hlt : k < N
    · have hI3 := Lib.hid hI2
      replace hkr := Lib.hid hkr
      clear hI2
      go_wp2_with fail
      refine (uintS_c wr br s hI3.out.rd).mono ?_
      rintro e wa ⟨rfl, hRa, hka⟩
      have ta := hI3.out.tm.keep hka (by simp; omega) (by simp; omega)
      replace hka := hkr.out.fresh hka (fun b hb => .inr (by simp at hb; omega))
      replace hRa := Lib.hid hRa
      replace ta := Lib.hid ta
      replace hka := Lib.hid hka
      clear hkr
      go_wp2_with fail
      refine (boolS_c wa br _ hRa.out).mono ?_
      rintro e wb ⟨rfl, hRb, hkb⟩
      have tb := ta.out.keep hkb (by simp; omega) (by simp; omega)
      replace hkb := hka.out.fresh hkb (fun b hb => .inr (by simp at hb; omega))
      replace hRb := Lib.hid hRb
      replace tb := Lib.hid tb
      replace hkb := Lib.hid hkb
      clear hRa ta hka
      go_wp2_with fail
      refine (uintS_c wb br _ hRb.out).mono ?_
      rintro e wc ⟨rfl, hRc, hkc⟩
      have tc := tb.out.keep hkc (by simp; omega) (by simp; omega)
      replace hkc := hkb.out.fresh hkc (fun b hb => .inr (by simp at hb; omega))
      have hsucc : N - k = (N - (k + 1)) + 1 := by omega
      have heq := hI3.out.eq
      rw [hsucc, wd_succ] at heq
      have hx := rU_lt (rB (rU s).2).2
      have hh := rU_lt s
      obtain ⟨H, hH⟩ : ∃ H, (rU s).1 = H := ⟨_, rfl⟩
      obtain ⟨Bb, hBb⟩ : ∃ H, (rB (rU s).2).1 = H := ⟨_, rfl⟩
      obtain ⟨X, hX⟩ : ∃ H, (rU (rB (rU s).2).2).1 = H := ⟨_, rfl⟩
      obtain ⟨s3, hs3⟩ : ∃ H, (rU (rB (rU s).2).2).2 = H := ⟨_, rfl⟩
      rw [hH, hBb, hX, hs3] at heq
      rw [hH] at hh
      rw [hX] at hx
      rw [hs3] at hRc
      rw [hH, hBb, hX]
      have hlen := hI3.out.len
      have hgood := Lib.hid hI3.out.good
      have hkeys := Lib.hid hI3.out.keys
      replace hRc := Lib.hid hRc
      replace tc := Lib.hid tc
      replace hkc := Lib.hid hkc
      clear hRb tb hkb hH hBb hX hs3 hI3 hsucc
      by_cases hA : H ≤ last
      · rw [if_pos (.inl hA)] at heq
        have hd : out (wd N 0 s0 []) = (11, []) := by rw [heq]; rfl
        replace hd := Lib.hid hd
        clear heq
        go_wp2
        go_ret2
        rw [hwd.out, hd.out]
        exact .inr ⟨by decide, rfl, hkc.out⟩
      · by_cases hB : 4294967296 < H
        · rw [if_pos (.inr hB)] at heq
          have hd : out (wd N 0 s0 []) = (11, []) := by rw [heq]; rfl
          replace hd := Lib.hid hd
          clear heq
          go_wp2
          go_ret2
          rw [hwd.out, hd.out]
          exact .inr ⟨by decide, rfl, hkc.out⟩
        · rw [if_neg (by omega)] at heq
          have hH64 : W64 (H : Int) := w64 (by omega) (by omega)
          obtain ⟨w9, hput, hm9, hk9⟩ := tc.out.put hH64 (by unfold maxLen; omega) X Bb
          have t9 := tc.out.turn hk9 hm9
          have hR9 := hRc.out.keepN hk9 (by simpa using hne2) (fun b hb o => by simp at hb; subst hb; exact tc.out.mp.noCells o)
          have hie := ins_end (H : Int) (X, Bb) L (fun p hp => by have := (hkeys.out p hp).2; omega)
          have hg9 := hgood.out.ins (h := (H : Int)) (b := Bb) hH64 hx
          rw [hie] at t9 hg9
          have hcell := tc.out.cell
          replace hk9 := hkc.out.fresh hk9 (fun b hb => .inr (by simp at hb; omega))
          have hI9 : WdI bt bm br N s0 (k + 1) H s3 (L ++ [((H : Int), (X, Bb))]) w9 := ⟨hR9, t9, heq, hg9, fun p hp => by
            rcases List.mem_append.1 hp with hp | hp
            · have := hkeys.out p hp; omega
            · simp at hp; subst hp; exact ⟨by show (1 : Int) ≤ H; omega, by show (H : Int) ≤ H; omega⟩, by simp; omega, by omega⟩
          replace hI9 := Lib.hid hI9
          replace hk9 := Lib.hid hk9
          clear hie hg9 hR9 t9 hm9 heq hkeys hgood hRc tc hkc
          go_wp2
          go_roundw
          case rel => exact ⟨k + 1, H, s3, _, rfl, rfl, by omega, hI9.out, hk9.out⟩
          case measure => simp [intOf]; omega
    · have hkN : k = N := by omega
      subst hkN
      have heq := hI2.eq
      rw [Nat.sub_self] at heq
      have heq2 : out (wd k 0 s0 []) = if doneE s.1 s.2 = 0 then (0, L) else (doneE s.1 s.2, []) := by rw [heq]; rfl
      replace heq2 := Lib.hid heq2
      have hI3 := Lib.hid hI2
      replace hkr := Lib.hid hkr
      clear hI2 heq
      go_wp2_with fail
      refine (doneS_c wr br s hI3.out.rd).mono ?_
      rintro e wd ⟨rfl, rfl⟩
      obtain ⟨E, hE⟩ : ∃ E, doneE s.1 s.2 = E := ⟨_, rfl⟩
      rw [hE] at heq2 ⊢
      clear hE
      by_cases hE0 : E = 0
      · subst hE0
        rw [if_pos rfl] at heq2
        go_wp2
        go_ret2
        rw [hwd.out, heq2.out]
        exact .inl ⟨rfl, bt, bm, rfl, hI3.out.tm, hI3.out.good, fun p hp => (hI3.out.keys p hp).1, Nat.le_trans hI3.out.len hN, hkr.out, by omega, by omega⟩
      · rw [if_neg hE0] at heq2
        have hEb : (E == 0) = false := by simp [hE0]
        replace hE0 := Lib.hid hE0
        go_wp2
        go_ret2
        rw [hwd.out, heq2.out]
        exact .inr ⟨hE0.out, rfl, hkr.out⟩
end Go.Proofs.Ytmamlipgfkmcjaa

namespace Go.Proofs.Ytmamlipgfkmcjaa
open Go.RowKit

/-- What the reference's `number` gives. -/
def numR (l : List UInt8) : Int × Int := match readU l with | some (x, r) => (x, (l.length : Int) - r.length) | none => (0, -1)
theorem numR_none {l : List UInt8} (h : readU l = none) : numR l = (0, -1) := by simp [numR, h]

set_option maxRecDepth 100000 in
set_option maxHeartbeats 2000000 in
theorem number_bad (w : World) (v0 : Value) (l : List UInt8) (h : SlB w v0 l) (hr : readU l = none) :
    Calls Try.prog 62 #[v0] w fun e w' => e = .returned (.tuple #[.int .u64 0, .int .i64 (-1)]) ∧ Keeps [] w w' := by
  rcases h.cases with ⟨rfl, a, cp, rfl, _, _⟩ | ⟨g, o, cp, rfl, hn, hm, hp, hg, hc⟩
  · clear h hr
    go_enter Try.func62, Try.ntmps62
    go_wp2
    go_ret2
    exact ⟨rfl, Keeps.refl _ _⟩
  · obtain ⟨k, t, rfl⟩ : ∃ k t, l = k :: t := by cases l with | nil => simp at hp | cons k t => exact ⟨k, t, rfl⟩
    have k0 := hc 0 (by simp)
    have k1 : 0 < t.length → w.cell? ⟨g, o + 1, none⟩ = some (.int .u8 ((t.headD 1).toNat : Int)) := fun ht => by
      have := hc 1 (by simp; omega)
      rw [this]; cases t with | nil => simp at ht | cons a b => rfl
    simp only [Nat.add_zero, List.getElem_cons_zero] at k0
    have hcond : ¬ (k.toNat ≤ 8 ∧ k.toNat ≤ t.length ∧ (0 < k.toNat → t.headD 1 ≠ 0)) := fun e => by rw [readU, if_pos e] at hr; cases hr
    have hk : k.toNat ≤ 255 := by have := k.toNat_lt; omega
    clear h hc hp hr
    simp only [List.length_cons] at *
    obtain ⟨t0, htt0⟩ : ∃ t0, t.headD 1 = t0 := ⟨_, rfl⟩
    rw [htt0] at k1 hcond
    clear htt0
    obtain ⟨kk, hkk⟩ : ∃ kk, k.toNat = kk := ⟨_, rfl⟩
    rw [hkk] at k0 hcond hk
    clear hkk
    obtain ⟨N, hNt⟩ : ∃ N, t.length = N := ⟨_, rfl⟩
    rw [hNt] at hcond k1 hn ⊢
    clear hNt
    have hNN : (N : Int) + 1 ≤ 9223372036854775807 := by unfold maxLen at hm; omega
    have wk : IntKind.i64.wrap (kk : Int) = kk := IntWalk.i64_in _ (by omega)
    have nz : ((N : Int) + 1 == 0) = false := by simp; omega
    by_cases h8 : 8 < kk
    · clear hcond k1
      have d8 : (8 : Int) < kk := by omega
      go_enter Try.func62, Try.ntmps62
      go_wp2
      go_ret2
      exact ⟨rfl, Keeps.refl _ _⟩
    · by_cases hNk : N < kk
      · clear hcond k1
        have d8 : decide ((8 : Int) < (kk : Int)) = false := by simp; omega
        have dN : (N : Int) + 1 < 1 + kk := by omega
        go_enter Try.func62, Try.ntmps62
        go_wp2
        go_ret2
        exact ⟨rfl, Keeps.refl _ _⟩
      · have hk0 : 0 < kk := by
          rcases Nat.eq_zero_or_pos kk with e | e
          · exact absurd ⟨by omega, by omega, fun h => by omega⟩ hcond
          · exact e
        have ht0 : t0 = 0 := by
          rcases Classical.em (t0 = 0) with e | e
          · exact e
          · exact absurd ⟨by omega, by omega, fun _ => e⟩ hcond
        have k1' := k1 (by omega)
        rw [ht0] at k1'
        have k1'' : w.cell? ⟨g, o + 1, none⟩ = some (.int .u8 0) := k1'
        have hki : (0 : Int) < kk := by omega
        have d8 : decide ((8 : Int) < (kk : Int)) = false := by simp; omega
        have dN : decide ((N : Int) + 1 < 1 + (kk : Int)) = false := by simp; omega
        clear hcond k1 k1' ht0
        go_enter Try.func62, Try.ntmps62
        go_wp2
        go_ret2
        exact ⟨rfl, Keeps.refl _ _⟩

set_option maxRecDepth 100000 in
set_option maxHeartbeats 4000000 in
theorem number_ok (w : World) (v0 : Value) (l rest : List UInt8) (x : Nat) (h : SlB w v0 l) (hr : readU l = some (x, rest)) :
    Calls Try.prog 62 #[v0] w fun e w' => (∃ j : Nat, 0 < j ∧ j ≤ l.length ∧ rest = l.drop j ∧ e = .returned (.tuple #[.int .u64 x, .int .i64 j])) ∧ Keeps [] w w' := by
  rcases h.cases with ⟨rfl, a, cp, rfl, _, _⟩ | ⟨g, o, cp, rfl, hn, hm, hp, hg, hc⟩
  · cases hr
  · obtain ⟨k, t, rfl⟩ : ∃ k t, l = k :: t := by cases l with | nil => simp at hp | cons k t => exact ⟨k, t, rfl⟩
    have k0 := hc 0 (by simp)
    have k1 : 0 < t.length → w.cell? ⟨g, o + 1, none⟩ = some (.int .u8 ((t.headD 1).toNat : Int)) := fun ht => by
      have := hc 1 (by simp; omega)
      rw [this]; cases t with | nil => simp at ht | cons a b => rfl
    have kj : ∀ j (hj : j < t.length), w.cell? ⟨g, o + 1 + j, none⟩ = some (.int .u8 (t[j].toNat : Int)) := fun j hj => by
      have := hc (j + 1) (by simp; omega)
      rw [show o + 1 + j = o + (j + 1) by omega, this]; rfl
    simp only [Nat.add_zero, List.getElem_cons_zero] at k0
    have hcond : k.toNat ≤ 8 ∧ k.toNat ≤ t.length ∧ (0 < k.toNat → t.headD 1 ≠ 0) := by
      rcases Classical.em (k.toNat ≤ 8 ∧ k.toNat ≤ t.length ∧ (0 < k.toNat → t.headD 1 ≠ 0)) with e | e
      · exact e
      · rw [readU, if_neg e] at hr; cases hr
    rw [readU, if_pos hcond] at hr
    simp only [Option.some.injEq, Prod.mk.injEq] at hr
    obtain ⟨h8, hN, ht0⟩ := hcond
    obtain ⟨hx, hrest⟩ := hr
    have hk : k.toNat ≤ 255 := by have := k.toNat_lt; omega
    clear h hc hp
    simp only [List.length_cons] at *
    replace hx := Lib.hid hx
    replace hrest := Lib.hid hrest
    replace kj := Lib.hid kj
    obtain ⟨t0, htt0⟩ : ∃ t0, t.headD 1 = t0 := ⟨_, rfl⟩
    rw [htt0] at k1 ht0
    clear htt0
    obtain ⟨kk, hkk⟩ : ∃ kk, k.toNat = kk := ⟨_, rfl⟩
    rw [hkk] at k0 h8 hN ht0 hk hx hrest
    clear hkk
    obtain ⟨N, hNt⟩ : ∃ N, t.length = N := ⟨_, rfl⟩
    rw [hNt] at hN k1 hn ⊢
    replace hNt := Lib.hid hNt
    have hNN : (N : Int) + 1 ≤ 9223372036854775807 := by unfold maxLen at hm; omega
    have d8 : decide ((8 : Int) < (kk : Int)) = false := by simp; omega
    have nz : ((N : Int) + 1 == 0) = false := by simp; omega
    have wk : IntKind.i64.wrap (kk : Int) = kk := IntWalk.i64_in _ (by omega)
    have dN : decide ((N : Int) + 1 < 1 + (kk : Int)) = false := by simp; omega
    have hfacts : (∃ _ : (0 : Int) < (kk : Int), 0 < kk ∧ w.cell? ⟨g, o + 1, none⟩ = some (.int .u8 (t0.toNat : Int)) ∧ ((t0.toNat : Int) == 0) = false) ∨ (decide ((0 : Int) < (kk : Int)) = false ∧ decide (0 < kk) = false) := by
      by_cases hk0 : 0 < kk
      · refine .inl ⟨by omega, hk0, k1 (by omega), ?_⟩
        have := ht0 hk0
        have h9 : t0.toNat ≠ 0 := fun e => this (UInt8.toNat_inj.1 (by simpa using e))
        simp; omega
      · exact .inr ⟨by simp; omega, by simp; omega⟩
    clear ht0 k1
    rcases hfacts with ⟨dk, hk0, k1', t0n⟩ | ⟨dk, dk2⟩
    all_goals
      go_enter Try.func62, Try.ntmps62
      go_wp2
      go_loopw [4, 5] (fun n i wr => ∃ j : Nat, j ≤ kk ∧ i = .int .i64 j ∧ n = .int .u64 (valU (t.take j)) ∧ Keeps [] w wr) (fun _ i _ => kk - (intOf i).toNat)
      case atStart => exact ⟨0, by omega, rfl, rfl, Keeps.refl _ _⟩
      case round =>
        obtain ⟨j, hj, rfl, rfl, hkw⟩ := hrel
        have q0 := hkw.val k0
        have hvl := valU_lt j (t.take j) (by rw [List.length_take]; have := hNt.out; omega)
        by_cases hlt3 : j < kk
        · have hjt : j < t.length := by have := hNt.out; omega
          have hcj := hkw.val (kj.out j hjt)
          rw [show o + 1 + j = o + (1 + j) by omega] at hcj
          have hb8 : (t[j].toNat : Int) ≤ 255 := by have := t[j].toNat_lt; omega
          have hstep : Hid (valU (t.take (j + 1)) = valU (t.take j) * 256 + t[j].toNat) := by show _ = _; rw [List.take_succ_eq_append_getElem hjt, valU_snoc]
          have hvb : (valU (t.take j) : Int) < 72057594037927936 := by
            have : (256 : Nat) ^ j ≤ 256 ^ 7 := Nat.pow_le_pow_right (by omega) (by omega)
            omega
          clear hvl
          generalize t[j].toNat = y at *
          generalize hvv : valU (t.take j) = vv at *
          replace hkw := Lib.hid hkw
          replace hvv := Lib.hid hvv
          go_wp2
          go_roundw
          case rel => exact ⟨j + 1, by omega, by go_num, by rw [hstep.out]; go_num, hkw.out⟩
          case measure => simp [intOf]; omega
        · have hjk : j = kk := by omega
          subst hjk
          clear hvl
          rw [hx.out]
          replace hkw := Lib.hid hkw
          go_wp2
          (refine wp_region_quiet_lit (by kernel_rfl) (by kernel_rfl) ?_; (repeat (first | go_big_quiet_step (fail) | quiet_step (fail))); with_reducible refine wpQuiet_nil ?_; intro _ hw'; obtain ⟨nq, hw''⟩ := hw'; subst hw'')
          (repeat go_step)
          go_ret2
          exact ⟨⟨1 + j, by omega, by omega, by rw [← hrest.out, Nat.add_comm 1 j]; rfl, rfl⟩, hkw.out.drewN _⟩
end Go.Proofs.Ytmamlipgfkmcjaa

namespace Go.Proofs.Ytmamlipgfkmcjaa
open Go.RowKit

/-- The reference's reader in memory. -/
def RdR (w : World) (br : Nat) (v : Value) (l : List UInt8) (e : Int) : Prop := w.heap[br]? = some (.cells #[v, .int .i64 e] 88 (0, 0)) ∧ SlB w v l
theorem RdR.keeps {w w' : World} {br : Nat} {v : Value} {l : List UInt8} {e : Int} (h : RdR w br v l e) (hk : Keeps [] w w') : RdR w' br v l e :=
  ⟨(hk.block br (cell2_of h.1).2.2.2.2 (by simp)).trans h.1, h.2.keeps hk⟩
set_option maxRecDepth 100000 in
set_option maxHeartbeats 1000000 in
theorem failR_c (w : World) (br : Nat) (v : Value) (l : List UInt8) (e x : Int) (h : RdR w br v l e) :
    Calls Try.prog 61 #[.pointer (some ⟨br, 0, none⟩), .int .i64 x] w fun en w' => en = .returned (.tuple #[]) ∧ RdR w' br (.slice none 0 0) [] x ∧ Keeps [br] w w' := by
  obtain ⟨c0, c1, f0, f1, hlt⟩ := cell2_of h.1
  replace h := Lib.hid h
  go_enter Try.func61, Try.ntmps61
  go_wp2
  go_end0
  exact ⟨rfl, ⟨set2_1 (set2_0 h.out.1 _) _, SlB.nil _⟩, ((Keeps.refl _ _).setCell (.inr (by simp)) _).setCell (.inr (by simp)) _⟩
set_option maxRecDepth 100000 in
set_option maxHeartbeats 2000000 in
theorem uintR_c (w : World) (br : Nat) (v : Value) (l : List UInt8) (h : RdR w br v l 0) :
    Calls Try.prog 42 #[.pointer (some ⟨br, 0, none⟩)] w fun en w' => en = .returned (.int .u64 (rdU l).1) ∧ (∃ v', RdR w' br v' (rdU l).2.1 (rdU l).2.2) ∧ Keeps [br] w w' := by
  cases hr : readU l with
  | none =>
    have e : rdU l = (0, [], 11) := by simp [rdU, hr]
    rw [e]
    obtain ⟨c0, c1, f0, f1, hlt⟩ := cell2_of h.1
    replace h := Lib.hid h
    replace hr := Lib.hid hr
    clear e f0 f1
    go_enter Try.func42, Try.ntmps42
    go_wp2_with fail
    refine (number_bad _ _ _ h.out.2 hr.out).mono ?_
    rintro e w1 ⟨rfl, hk1⟩
    replace hk1 := Lib.hid hk1
    go_wp2_with fail
    refine (failR_c _ br v l 0 11 (h.out.keeps hk1.out)).mono ?_
    rintro e w2 ⟨rfl, hR, hk2⟩
    replace hR := Lib.hid hR
    have hk3 : Hid (Keeps [br] w w2) := hk1.out.of_nil.trans hk2
    clear hk2
    go_wp2
    go_ret
    exact ⟨rfl, ⟨_, hR.out⟩, hk3.out⟩
  | some p =>
    obtain ⟨x, r⟩ := p
    have e : rdU l = (x, r, 0) := by simp [rdU, hr]
    rw [e]
    obtain ⟨c0, c1, f0, f1, hlt⟩ := cell2_of h.1
    rcases h.2.cases with ⟨rfl, a, cp, rfl, _, _⟩ | ⟨g, o, cp, rfl, hn, hm, hp, hg, _⟩
    · cases hr
    · have htl := fun j (hj : j ≤ l.length) => h.2.tail j hj
      obtain ⟨N, hN⟩ : ∃ N, l.length = N := ⟨_, rfl⟩
      simp only [hN] at hn hp c0 htl
      replace h := Lib.hid h
      replace hr := Lib.hid hr
      replace htl := Lib.hid htl
      replace hN := Lib.hid hN
      clear e f1
      go_enter Try.func42, Try.ntmps42
      go_wp2_with fail
      refine (number_ok _ _ _ _ _ (by have := h.out.2; rw [hN.out] at this; exact this) hr.out).mono ?_
      rintro e w1 ⟨⟨j, hj0, hjl, hrest, rfl⟩, hk1⟩
      rw [hN.out] at hjl
      have hR1 := h.out.keeps hk1
      have c01 := hk1.val c0
      have f01 := (cell2_of hR1.1).2.2.1
      have hlt1 := (cell2_of hR1.1).2.2.2.2
      have hs1 := (htl.out j hjl).keeps hk1
      rw [← hrest] at hs1
      replace hk1 := Lib.hid hk1
      replace hR1 := Lib.hid hR1
      replace hs1 := Lib.hid hs1
      clear hrest
      have hj2 : ¬ ((j : Int) < 0) := by omega
      by_cases hcj : cp = j
      · have hs := hs1.out
        rw [if_pos hcj] at hs
        subst hcj
        rw [Nat.sub_self, show N - cp = 0 by omega] at hs
        replace hs := Lib.hid hs
        clear hs1
        go_wp2
        go_ret
        exact ⟨rfl, ⟨_, set2_0 hR1.out.1 _, hs.out.kb (KB.setCell w1 _ c01 (by simp))⟩, hk1.out.of_nil.setCell (.inr (by simp)) _⟩
      · go_wp2
        go_ret
        have hs := hs1.out
        rw [if_neg hcj] at hs
        exact ⟨rfl, ⟨_, set2_0 hR1.out.1 _, hs.kb (KB.setCell w1 _ c01 (by simp))⟩, hk1.out.of_nil.setCell (.inr (by simp)) _⟩
end Go.Proofs.Ytmamlipgfkmcjaa

namespace Go.Proofs.Ytmamlipgfkmcjaa
open Go.RowKit

def RrS (w : World) (br : Nat) (s : RS) : Prop := ∃ v, RdR w br v s.1 s.2
theorem RrS.keeps {w w' : World} {br : Nat} {s : RS} (h : RrS w br s) (hk : Keeps [] w w') : RrS w' br s := by obtain ⟨v, h⟩ := h; exact ⟨v, h.keeps hk⟩
theorem RrS.lt {w : World} {br : Nat} {s : RS} (h : RrS w br s) : br < w.heap.size := by obtain ⟨v, h⟩ := h; exact (cell2_of h.1).2.2.2.2
set_option maxRecDepth 100000 in
set_option maxHeartbeats 1000000 in
theorem uintR_err (w : World) (br : Nat) (v : Value) (l : List UInt8) (e : Int) (h : RdR w br v l e) (he : e ≠ 0) :
    Calls Try.prog 42 #[.pointer (some ⟨br, 0, none⟩)] w fun en w' => en = .returned (.int .u64 0) ∧ w = w' := by
  obtain ⟨c0, c1, f0, f1, hlt⟩ := cell2_of h.1
  have he2 : (e == 0) = false := by simp [he]
  clear h he
  go_enter Try.func42, Try.ntmps42
  go_wp2
  go_ret
  exact ⟨rfl, rfl⟩
theorem uintRS_c (w : World) (br : Nat) (s : RS) (h : RrS w br s) :
    Calls Try.prog 42 #[.pointer (some ⟨br, 0, none⟩)] w fun en w' => en = .returned (.int .u64 (rU s).1) ∧ RrS w' br (rU s).2 ∧ Keeps [br] w w' := by
  obtain ⟨l, e⟩ := s
  obtain ⟨v, h⟩ := h
  by_cases he : e = 0
  · subst he
    refine (uintR_c w br v l h).mono fun en w' ⟨h1, h2, h3⟩ => ?_
    have : rU (l, 0) = ((rdU l).1, ((rdU l).2.1, (rdU l).2.2)) := by
      cases hx : readU l with
      | none => simp [rU, rdU, hx]
      | some p => obtain ⟨x, r⟩ := p; simp [rU, rdU, hx]
    rw [this]
    exact ⟨h1, h2, h3⟩
  · refine (uintR_err w br v l e h he).mono fun en w' ⟨h1, h2⟩ => ?_
    subst h2
    rw [show rU (l, e) = (0, (l, e)) by unfold rU; rw [if_neg he]]
    exact ⟨h1, ⟨v, h⟩, Keeps.refl _ _⟩
set_option maxRecDepth 100000 in
set_option maxHeartbeats 1000000 in
theorem boolR_err (w : World) (br : Nat) (v : Value) (l : List UInt8) (e : Int) (h : RdR w br v l e) (he : e ≠ 0) :
    Calls Try.prog 43 #[.pointer (some ⟨br, 0, none⟩)] w fun en w' => en = .returned (.bool false) ∧ w = w' := by
  obtain ⟨c0, c1, f0, f1, hlt⟩ := cell2_of h.1
  have he2 : (e == 0) = false := by simp [he]
  clear h he
  go_enter Try.func43, Try.ntmps43
  go_wp2
  go_ret
  exact ⟨rfl, rfl⟩
set_option maxRecDepth 100000 in
set_option maxHeartbeats 2000000 in
theorem boolR_bad (w : World) (br : Nat) (v : Value) (l : List UInt8) (h : RdR w br v l 0) (hr : readB l = none) :
    Calls Try.prog 43 #[.pointer (some ⟨br, 0, none⟩)] w fun en w' => en = .returned (.bool false) ∧ RdR w' br (.slice none 0 0) [] 11 ∧ Keeps [br] w w' := by
  obtain ⟨c0, c1, f0, f1, hlt⟩ := cell2_of h.1
  have hh := Lib.hid h
  rcases h.2.cases with ⟨rfl, a, cp, rfl, _, _⟩ | ⟨g, o, cp, rfl, hn, hm, hp, hg, hc⟩
  · clear h hr
    go_enter Try.func43, Try.ntmps43
    go_wp2_with fail
    refine (failR_c w br _ _ 0 11 hh.out).mono ?_
    rintro e w1 ⟨rfl, hR1, hk1⟩
    replace hR1 := Lib.hid hR1
    replace hk1 := Lib.hid hk1
    go_wp2
    go_ret
    exact ⟨rfl, hR1.out, hk1.out⟩
  · obtain ⟨k, t, rfl⟩ : ∃ k t, l = k :: t := by cases l with | nil => simp at hp | cons k t => exact ⟨k, t, rfl⟩
    have k0 := hc 0 (by simp)
    simp only [Nat.add_zero, List.getElem_cons_zero] at k0
    have hk1 : 1 < k.toNat := by
      rcases Nat.lt_or_ge 1 k.toNat with e | e
      · exact e
      · rw [readB, if_pos e] at hr; cases hr
    clear h hc hp hr
    have hk := k.toNat_lt
    simp only [List.length_cons] at *
    have hF : Calls Try.prog 61 #[.pointer (some ⟨br, 0, none⟩), .int .i64 11] w fun en w' => en = .returned (.tuple #[]) ∧ RdR w' br (.slice none 0 0) [] 11 ∧ Keeps [br] w w' := failR_c w br _ _ 0 11 hh.out
    clear hh
    generalize k.toNat = kk at *
    generalize t.length = N at *
    have hNN : (N : Int) + 1 ≤ 9223372036854775807 := by unfold maxLen at hm; omega
    have nz : ((N : Int) + 1 == 0) = false := by simp; omega
    have d1 : (1 : Int) < (kk : Int) := by omega
    replace hF := Lib.hid hF
    go_enter Try.func43, Try.ntmps43
    go_wp2_with fail
    refine hF.out.mono ?_
    rintro e w1 ⟨rfl, hR1, hk1⟩
    replace hR1 := Lib.hid hR1
    replace hk1 := Lib.hid hk1
    go_wp2
    go_ret
    exact ⟨rfl, hR1.out, hk1.out⟩
set_option maxRecDepth 100000 in
set_option maxHeartbeats 2000000 in
theorem boolR_ok (w : World) (br : Nat) (v : Value) (l rest : List UInt8) (x : Bool) (h : RdR w br v l 0) (hr : readB l = some (x, rest)) :
    Calls Try.prog 43 #[.pointer (some ⟨br, 0, none⟩)] w fun en w' => en = .returned (.bool x) ∧ (∃ v', RdR w' br v' rest 0) ∧ Keeps [br] w w' := by
  obtain ⟨c0, c1, f0, f1, hlt⟩ := cell2_of h.1
  rcases h.2.cases with ⟨rfl, a, cp, rfl, _, _⟩ | ⟨g, o, cp, rfl, hn, hm, hp, hg, hc⟩
  · cases hr
  · obtain ⟨k, t, rfl⟩ : ∃ k t, l = k :: t := by cases l with | nil => simp at hp | cons k t => exact ⟨k, t, rfl⟩
    have k0 := hc 0 (by simp)
    simp only [Nat.add_zero, List.getElem_cons_zero] at k0
    have hk1 : k.toNat ≤ 1 := by
      rcases Nat.lt_or_ge 1 k.toNat with e | e
      · rw [readB, if_neg (by omega)] at hr; cases hr
      · exact e
    rw [readB, if_pos hk1] at hr
    simp only [Option.some.injEq, Prod.mk.injEq] at hr
    obtain ⟨hx, rfl⟩ := hr
    have htl := SlB.tail h.2 1 (by simp)
    simp only [List.length_cons, List.drop_succ_cons, List.drop_zero, Nat.add_sub_cancel] at htl
    simp only [List.length_cons] at *
    have hh := Lib.hid h.1
    clear h hc hp
    generalize hkk : k.toNat = kk at *
    generalize t.length = N at *
    have hNN : (N : Int) + 1 ≤ 9223372036854775807 := by unfold maxLen at hm; omega
    have nz : ((N : Int) + 1 == 0) = false := by simp; omega
    have d1 : decide ((1 : Int) < (kk : Int)) = false := by simp; omega
    have h1N : (1 : Int) ≤ (N : Int) + 1 := by omega
    have hxx : ((kk : Int) == 1) = x := by rw [← hx, Bool.eq_iff_iff]; simp; omega
    replace hkk := Lib.hid hkk
    clear hx
    by_cases hcj : cp = 1
    · subst hcj
      obtain rfl : N = 0 := by omega
      rw [if_pos rfl, Nat.sub_self] at htl
      replace htl := Lib.hid htl
      go_enter Try.func43, Try.ntmps43
      go_wp2
      go_ret
      exact ⟨rfl, ⟨_, set2_0 hh.out _, htl.out.kb (KB.setCell w _ c0 (by simp))⟩, (Keeps.refl _ _).setCell (.inr (by simp)) _⟩
    · rw [if_neg hcj] at htl
      replace htl := Lib.hid htl
      go_enter Try.func43, Try.ntmps43
      go_wp2
      go_ret
      exact ⟨rfl, ⟨_, set2_0 hh.out _, htl.out.kb (KB.setCell w _ c0 (by simp))⟩, (Keeps.refl _ _).setCell (.inr (by simp)) _⟩
theorem boolRS_c (w : World) (br : Nat) (s : RS) (h : RrS w br s) :
    Calls Try.prog 43 #[.pointer (some ⟨br, 0, none⟩)] w fun en w' => en = .returned (.bool (rB s).1) ∧ RrS w' br (rB s).2 ∧ Keeps [br] w w' := by
  obtain ⟨l, e⟩ := s
  obtain ⟨v, h⟩ := h
  by_cases he : e = 0
  · subst he
    cases hr : readB l with
    | none =>
      rw [show rB (l, 0) = (false, ([], 11)) by unfold rB; rw [if_pos rfl]; simp only [hr]]
      exact (boolR_bad w br v l h hr).mono fun _ _ ⟨h1, h2, h3⟩ => ⟨h1, ⟨_, h2⟩, h3⟩
    | some p =>
      obtain ⟨x, r⟩ := p
      rw [show rB (l, 0) = (x, (r, 0)) by unfold rB; rw [if_pos rfl]; simp only [hr]]
      exact boolR_ok w br v l r x h hr
  · refine (boolR_err w br v l e h he).mono fun en w' ⟨h1, h2⟩ => ?_
    subst h2
    rw [show rB (l, e) = (false, (l, e)) by unfold rB; rw [if_neg he]]
    exact ⟨h1, ⟨v, h⟩, Keeps.refl _ _⟩
set_option maxRecDepth 100000 in
set_option maxHeartbeats 2000000 in
theorem countRS_c (w : World) (br : Nat) (l : List UInt8) (h : RrS w br (l, 0)) :
    Calls Try.prog 41 #[.pointer (some ⟨br, 0, none⟩), .int .i64 65536] w fun en w' => en = .returned (.int .i64 (rC l).1) ∧ RrS w' br (rC l).2 ∧ Keeps [br] w w' := by
  replace h := Lib.hid h
  cases hr : readU l with
  | none =>
    rw [show rC l = (0, ([], 11)) by unfold rC; simp only [hr]]
    have hu : rU (l, 0) = (0, ([], 11)) := by unfold rU; rw [if_pos rfl]; simp only [hr]
    replace hu := Lib.hid hu
    clear hr
    go_enter Try.func41, Try.ntmps41
    go_wp2_with fail
    refine (uintRS_c w br _ h.out).mono ?_
    rintro e w1 ⟨rfl, hR1, hk1⟩
    rw [show (rU (l, 0)).2 = ([], 11) from by rw [hu.out]] at hR1
    rw [show (rU (l, 0)).1 = 0 from by rw [hu.out]]
    replace hR1 : ∃ v, RdR w1 br v [] 11 := hR1
    obtain ⟨v1, hR1⟩ := hR1
    obtain ⟨c0, c1, f0, f1, hlt⟩ := cell2_of hR1.1
    replace hR1 := Lib.hid hR1
    replace hk1 := Lib.hid hk1
    go_wp2
    go_ret
    exact ⟨rfl, ⟨_, hR1.out⟩, hk1.out⟩
  | some p =>
    obtain ⟨n, r⟩ := p
    have hrc : rC l = if cE n r = 0 then (n, (r, 0)) else (0, ([], cE n r)) := by unfold rC; simp only [hr]
    have hu : rU (l, 0) = (n, (r, 0)) := by unfold rU; rw [if_pos rfl]; simp only [hr]
    have hn := readU_lt hr
    replace hu := Lib.hid hu
    replace hrc := Lib.hid hrc
    clear hr
    go_enter Try.func41, Try.ntmps41
    go_wp2_with fail
    refine (uintRS_c w br _ h.out).mono ?_
    rintro e w1 ⟨rfl, hR1, hk1⟩
    rw [show (rU (l, 0)).2 = (r, 0) from by rw [hu.out]] at hR1
    rw [show (rU (l, 0)).1 = n from by rw [hu.out]]
    replace hR1 : ∃ v, RdR w1 br v r 0 := hR1
    obtain ⟨v1, hR1⟩ := hR1
    obtain ⟨c0, c1, f0, f1, hlt⟩ := cell2_of hR1.1
    obtain ⟨a1, cp1, rfl⟩ := hR1.2.form
    have hmx := hR1.2.cap
    have hF := fun x => failR_c w1 br _ _ 0 x hR1
    have hcE : cE n r = if 65536 < n then 8 else if r.length < n then 11 else 0 := rfl
    obtain ⟨N, hN⟩ : ∃ N, r.length = N := ⟨_, rfl⟩
    rw [hN] at c0 hmx hcE
    have hNN : (N : Int) ≤ 9223372036854775807 := by unfold maxLen at hmx; omega
    have hwr : IntKind.u64.wrap (N : Int) = N := by rw [IntKind.wrap_u64]; omega
    replace hN := Lib.hid hN
    replace hcE := Lib.hid hcE
    replace hF := Lib.hid hF
    replace hR1 := Lib.hid hR1
    replace hk1 := Lib.hid hk1
    by_cases hbig : 65536 < n
    · have hd : (65536 : Int) < (n : Int) := by omega
      go_wp2_with fail
      refine (hF.out 8).mono ?_
      rintro e w2 ⟨rfl, hR2, hk2⟩
      replace hk2 := hk1.out.trans hk2
      replace hR2 := Lib.hid hR2
      replace hk2 := Lib.hid hk2
      go_wp2
      go_ret
      rw [hrc.out, hcE.out, if_pos hbig, if_neg (by decide)]
      exact ⟨rfl, ⟨_, hR2.out⟩, hk2.out⟩
    · have hd : decide ((65536 : Int) < (n : Int)) = false := by simp; omega
      by_cases hb2 : N < n
      · have hd2 : (N : Int) < (n : Int) := by omega
        go_wp2_with fail
        refine (hF.out 11).mono ?_
        rintro e w2 ⟨rfl, hR2, hk2⟩
        replace hk2 := hk1.out.trans hk2
        replace hR2 := Lib.hid hR2
        replace hk2 := Lib.hid hk2
        go_wp2
        go_ret
        rw [hrc.out, hcE.out, if_neg hbig, if_pos hb2, if_neg (by decide)]
        exact ⟨rfl, ⟨_, hR2.out⟩, hk2.out⟩
      · have hd2 : decide ((N : Int) < (n : Int)) = false := by simp; omega
        go_wp2
        go_ret
        rw [hrc.out, hcE.out, if_neg hbig, if_neg hb2, if_pos rfl]
        exact ⟨rfl, ⟨_, hR1.out⟩, hk1.out⟩
set_option maxRecDepth 100000 in
set_option maxHeartbeats 1000000 in
theorem doneRS_c (w : World) (br : Nat) (s : RS) (h : RrS w br s) :
    Calls Try.prog 44 #[.pointer (some ⟨br, 0, none⟩)] w fun en w' => en = .returned (.int .i64 (doneE s.1 s.2)) ∧ w = w' := by
  obtain ⟨v, h⟩ := h
  obtain ⟨l, e⟩ := s
  obtain ⟨c0, c1, f0, f1, hlt⟩ := cell2_of h.1
  obtain ⟨a0, cap0, rfl⟩ := h.2.form
  clear h
  by_cases he : e = 0
  · subst he
    by_cases hl : l = []
    · subst hl
      go_enter Try.func44, Try.ntmps44
      go_wp2
      go_ret
      exact ⟨by simp [doneE], rfl⟩
    · have hp : 0 < l.length := List.length_pos_iff.2 hl
      replace hl := Lib.hid hl
      go_enter Try.func44, Try.ntmps44
      go_wp2
      go_ret
      exact ⟨by simp [doneE, hl.out], rfl⟩
  · have he2 : (e == 0) = false := by simp [he]
    replace he := Lib.hid he
    go_enter Try.func44, Try.ntmps44
    go_wp2
    go_ret
    exact ⟨by simp [doneE, he.out], rfl⟩
end Go.Proofs.Ytmamlipgfkmcjaa

namespace Go.Proofs.Ytmamlipgfkmcjaa
open Go.RowKit

theorem wpl_appC {α : Type} {w : World} {P : Program} {ops : Array Oper} {rest : List Oper} {o : Oper} {a : Act} {Q : Exit → Act → World → Prop} (s : Sh α) (B : Nat) {e t : TypeId} {z : Value} {by_ : Nat} (hinf : (P.info? e).map (fun i => (i.zero, i.size, i.bytes)) = some (some z, s.sz, by_)) (hz : z.cells.size = s.sz) (ht : P.underlying t = some (.slice e))
    (v v2 : Value) (L M : List α) (hg : o.guard = none) (x y : Operand) (ho : o.op = .call { callee := .builtin .append, args := #[x, y], argTypes := #[t, t] }) (hs : a.eval x = v) (hx : a.eval y = v2) (h : s.O w B e v L) (hsl : s.R w v2 M)
    (hl : (L.length + M.length) * (by_ + 1) ≤ 140737488355328) (hB : B ≤ w.heap.size)
    (hK : ∀ v' w', s.O w' B e v' (L ++ M) → Grw w w' v v' → (∀ p : Value → Prop, (∀ u ∈ s.cs M, p u) → (∀ u ∈ z.cells.toList, p u) → AllC w v p → AllC w' v' p) → wpList P ops Q rest (a.put o.dst v') w') : wpList P ops Q (o :: rest) a w := by
  obtain ⟨i0, hi, hz0, hz1, hz2⟩ := info_parts hinf
  have h1 : L.length + M.length ≤ (L.length + M.length) * (by_ + 1) := Nat.le_mul_of_pos_right _ (by omega)
  have h2 : (L.length + M.length) * by_ ≤ (L.length + M.length) * (by_ + 1) := Nat.mul_le_mul_left _ (by omega)
  refine wpl_append_x hg x y _ ho B e i0 z s.sz by_ ht hi hz0 hz1 hz2 hz s.pos v L.length (s.cs L) hs h v2 M.length (s.cs M) hx hsl (Sh.cs_one M) (by unfold maxLen; omega) (by omega) hB ?_
  intro v' w' h1 h2 h3
  refine hK v' w' ?_ h2 h3
  unfold Sh.O
  rw [Sh.cs_append, List.length_append]
  exact h1
/-- No byte lies in the slice's block. -/
abbrev NB (w : World) (v : Value) : Prop := AllC w v (fun u => ∀ x, u ≠ .int .u8 x)
theorem NB.keepS {S : List Nat} {w w' : World} {v : Value} (h : NB w v) (hk : Keeps S w w') (hS : ∀ b ∈ S, v.ownBlock ≠ some b) (hlt : ∀ b, v.ownBlock = some b → b < w.heap.size) : NB w' v := fun g hg o u hu =>
  h g hg o u (by rw [← hk.cell g o (hlt g hg) (fun hm => hS g hm hg)]; exact hu)
def rdn : Nat → Nat → RS → List Hn → Option (List Hn × RS)
  | 0, _, s, acc => some (acc, s)
  | n + 1, last, s, acc =>
    if s.2 ≠ 0 then some (acc, s) else
    if (rU (rB (rU s).2).2).2.2 = 0 ∧ ((rU s).1 ≤ last ∨ 4294967296 < (rU s).1) then none
    else rdn n (rU s).1 (rU (rB (rU s).2).2).2 (acc ++ [(IntKind.i64.wrap ((rU s).1 : Int), ((rU (rB (rU s).2).2).1, (rB (rU s).2).1))])
theorem rdn_succ (n last : Nat) (s : RS) (acc : List Hn) (h0 : s.2 = 0) : rdn (n + 1) last s acc = if (rU (rB (rU s).2).2).2.2 = 0 ∧ ((rU s).1 ≤ last ∨ 4294967296 < (rU s).1) then none
    else rdn n (rU s).1 (rU (rB (rU s).2).2).2 (acc ++ [(IntKind.i64.wrap ((rU s).1 : Int), ((rU (rB (rU s).2).2).1, (rB (rU s).2).1))]) := by
  rw [rdn, if_neg (by simp [h0])]
theorem rdn_err (n last : Nat) (s : RS) (acc : List Hn) (h0 : s.2 ≠ 0) : rdn n last s acc = some (acc, s) := by
  cases n with
  | zero => rfl
  | succ n => rw [rdn, if_pos h0]
def rdec (l : List UInt8) : Int × List Hn := out (rdn (rC l).1 0 (rC l).2 [])
def DecRPost (w : World) (d : Int × List Hn) (e : Ending) (w' : World) : Prop :=
  (d.1 = 0 ∧ ∃ v, e = .returned (.tuple #[v, .int .i64 0]) ∧ shE.R w' v d.2 ∧ Keeps [] w w') ∨
  (d.1 ≠ 0 ∧ e = .returned (.tuple #[.slice none 0 0, .int .i64 d.1]) ∧ Keeps [] w w')
set_option maxRecDepth 100000 in
set_option maxHeartbeats 4000000 in
theorem decodeR_c (w : World) (v0 : Value) (l : List UInt8) (h : SlB w v0 l) :
    Calls Try.prog 26 #[v0] w (DecRPost w (rdec l)) := by
  have hN := rC_le l
  obtain ⟨a0, c0, rfl⟩ := h.form
  obtain ⟨V0, hV0⟩ : ∃ V, Value.slice a0 l.length c0 = V := ⟨_, rfl⟩
  have hk1 := (Keeps.refl [] w).alloc (.cells #[.slice a0 l.length c0, .int .i64 0] 88)
  have hR1 : RrS (w.alloc (.cells #[.slice a0 l.length c0, .int .i64 0] 88)) w.heap.size (l, 0) := ⟨_, heap_alloc_new _ _, h.keeps hk1⟩
  obtain ⟨br, hbr⟩ : ∃ b, w.heap.size = b := ⟨_, rfl⟩
  rw [hbr] at hR1
  have hlt1 := hR1.lt
  replace hk1 := Lib.hid hk1
  replace hR1 := Lib.hid hR1
  clear hV0 V0 h
  go_enter Try.func26, Try.ntmps26
  go_wp2_with fail
  refine (countRS_c _ br l hR1.out).mono ?_
  rintro e w3 ⟨rfl, hR3, hk3⟩
  replace hk3 := hk1.out.fresh hk3 (fun b hb => .inr (by simp at hb; omega))
  obtain ⟨N, hNe⟩ : ∃ N, (rC l).1 = N := ⟨_, rfl⟩
  obtain ⟨s0, hs0⟩ : ∃ s, (rC l).2 = s := ⟨_, rfl⟩
  rw [hNe] at hN ⊢
  rw [hs0] at hR3
  have hwd : rdec l = out (rdn N 0 s0 []) := by unfold rdec; rw [hNe, hs0]
  have hbl := hR3.lt
  have hka := (Keeps.refl [] w3).alloc (.cells #[] 34)
  have hO3 := Sh.O.fresh shE w3 w3.heap.size 34 (Nat.le_refl _)
  have hN3 : NB (w3.alloc (.cells #[] 34)) (.slice (some ⟨w3.heap.size, 0, none⟩) 0 0) := AllC.of_block (heap_alloc_new _ _) (by simp)
  have hR4 := hR3.keeps hka
  have hk4 := hk3.trans hka
  obtain ⟨B, hB⟩ : ∃ b, w3.heap.size = b := ⟨_, rfl⟩
  rw [hB] at hO3 hN3 hbl
  have hBw : w.heap.size ≤ B := by have := hk3.size; omega
  replace hwd := Lib.hid hwd
  replace hO3 := Lib.hid hO3
  replace hN3 := Lib.hid hN3
  replace hR4 := Lib.hid hR4
  replace hk4 := Lib.hid hk4
  have hBs : Hid (B ≤ (w3.alloc (.cells #[] 34)).heap.size) := by show _ ≤ _; simp; omega
  clear hNe hs0 hR3 hk3 hk1 hR1 hka hlt1
  go_wp2
  try rw [hB]
  generalize w3.alloc (.cells #[] 34) = W at *
  clear hB
  go_loopw [6, 7, 8] (fun ov lv iv wr => ∃ (k last : Nat) (s : RS) (L : List Hn), iv = .int .i64 k ∧ lv = .int .u64 last ∧ k ≤ N ∧ RrS wr br s ∧ shE.O wr B 34 ov L ∧ NB wr ov ∧ rdn N 0 s0 [] = rdn (N - k) last s L ∧ L.length ≤ k ∧ B ≤ wr.heap.size ∧ Keeps [] w wr) (fun _ _ iv _ => N - (intOf iv).toNat)
  case atStart => exact ⟨0, 0, s0, [], rfl, rfl, by omega, hR4.out, hO3.out, hN3.out, rfl, by simp, hBs.out, hk4.out⟩
  case round =>
    obtain ⟨k, last, s, L, rfl, rfl, hk, hRr, hOr, hNr, heq, hlen, hBr, hkr⟩ := hrel
    obtain ⟨ls, es⟩ := s
    obtain ⟨ao, co, rfl⟩ := hOr.form
    have hin : es = 0 ∧ k < N ∨ ¬ (es = 0 ∧ k < N) := Classical.em _
    rcases hin with ⟨rfl, hlt⟩ | hout
    · obtain ⟨vr, hRv⟩ := id hRr
      obtain ⟨_, q1, _, _, _⟩ := cell2_of hRv.1
      have hsucc : N - k = (N - (k + 1)) + 1 := by omega
      rw [hsucc, rdn_succ _ _ _ _ rfl] at heq
      obtain ⟨LL, hLL⟩ : ∃ LL, L.length = LL := ⟨_, rfl⟩
      rw [hLL] at hlen hOr hNr ⊢
      replace hLL := Lib.hid hLL
      replace hRr := Lib.hid hRr
      replace hOr := Lib.hid hOr
      replace hNr := Lib.hid hNr
      replace heq := Lib.hid heq
      replace hkr := Lib.hid hkr
      clear hRv hsucc hR4 hO3 hN3 hk4
      replace q1 : wr.cell? ⟨br, 1, none⟩ = some (.int .i64 0) := q1
      go_wp2_with fail
      refine (uintRS_c wr br _ hRr.out).mono ?_
      rintro e wa ⟨rfl, hRa, hka⟩
      have hob : ∀ b ∈ [br], (Value.slice ao LL co).ownBlock ≠ some b := fun b hb e => by simp at hb; subst hb; have := hOr.out.ge b e; omega
      have hOa := hOr.out.keepS hka hob
      have hNa := hNr.out.keepS hka hob hOr.out.lt
      have hza := hka.size
      replace hka := hkr.out.fresh hka (fun b hb => .inr (by simp at hb; omega))
      replace hRa := Lib.hid hRa
      replace hOa := Lib.hid hOa
      replace hNa := Lib.hid hNa
      replace hka := Lib.hid hka
      clear hRr hOr hNr hkr q1
      go_wp2_with fail
      refine (boolRS_c wa br _ hRa.out).mono ?_
      rintro e wb ⟨rfl, hRb, hkb⟩
      have hOb := hOa.out.keepS hkb hob
      have hNb := hNa.out.keepS hkb hob hOa.out.lt
      have hzb := hkb.size
      replace hkb := hka.out.fresh hkb (fun b hb => .inr (by simp at hb; omega))
      replace hRb := Lib.hid hRb
      replace hOb := Lib.hid hOb
      replace hNb := Lib.hid hNb
      replace hkb := Lib.hid hkb
      clear hRa hOa hNa hka
      go_wp2_with fail
      refine (uintRS_c wb br _ hRb.out).mono ?_
      rintro e wc ⟨rfl, hRc, hkc⟩
      have hOc := hOb.out.keepS hkc hob
      have hNc := hNb.out.keepS hkc hob hOb.out.lt
      have hzc := hkc.size
      replace hkc := hkb.out.fresh hkc (fun b hb => .inr (by simp at hb; omega))
      replace heq := heq.out
      have hh := rU_lt (ls, 0)
      obtain ⟨H, hH⟩ : ∃ H, (rU (ls, 0)).1 = H := ⟨_, rfl⟩
      obtain ⟨Bb, hBb⟩ : ∃ H, (rB (rU (ls, 0)).2).1 = H := ⟨_, rfl⟩
      obtain ⟨X, hX⟩ : ∃ H, (rU (rB (rU (ls, 0)).2).2).1 = H := ⟨_, rfl⟩
      obtain ⟨s3, hs3⟩ : ∃ H, (rU (rB (rU (ls, 0)).2).2).2 = H := ⟨_, rfl⟩
      rw [hH, hBb, hX, hs3] at heq
      rw [hH] at hh
      rw [hs3] at hRc
      rw [hH, hBb, hX]
      obtain ⟨l3, e3⟩ := s3
      obtain ⟨v3, hRc⟩ := hRc
      replace hRc : RdR wc br v3 l3 e3 := hRc
      replace heq : rdn N 0 s0 [] = if e3 = 0 ∧ (H ≤ last ∨ 4294967296 < H) then none else rdn (N - (k + 1)) H (l3, e3) (L ++ [(IntKind.i64.wrap (H : Int), (X, Bb))]) := heq
      obtain ⟨_, q1, _, _, _⟩ := cell2_of hRc.1
      have hszB := hkc.size
      replace hRc := Lib.hid hRc
      replace hOc := Lib.hid hOc
      replace hNc := Lib.hid hNc
      replace hkc := Lib.hid hkc
      clear hRb hOb hNb hkb hH hBb hX hs3 hob
      have hBc : B ≤ wc.heap.size := by omega
      by_cases he3 : e3 = 0
      · subst he3
        by_cases hA : H ≤ last
        · rw [if_pos ⟨rfl, .inl hA⟩] at heq
          have hd : out (rdn N 0 s0 []) = (11, []) := by rw [heq]; rfl
          replace hd := Lib.hid hd
          clear heq
          go_wp2
          go_ret2
          rw [hwd.out, hd.out]
          exact .inr ⟨by decide, rfl, hkc.out⟩
        by_cases hBg : 4294967296 < H
        · rw [if_pos ⟨rfl, .inr hBg⟩] at heq
          have hd : out (rdn N 0 s0 []) = (11, []) := by rw [heq]; rfl
          replace hd := Lib.hid hd
          clear heq
          go_wp2
          go_ret2
          rw [hwd.out, hd.out]
          exact .inr ⟨by decide, rfl, hkc.out⟩
        rw [if_neg (by omega)] at heq
        have hwr : IntKind.i64.wrap (H : Int) = H := IntWalk.i64_in _ (by omega)
        rw [hwr] at heq

        have hmade := Sh.R.made shE wc [((H : Int), (X, Bb))] #[.int .i64 (H : Int), .int .u64 X, .bool Bb] 34 rfl (by simp [Go.maxLen]) 1 rfl
        have hkA := (Keeps.refl [] wc).alloc (.cells #[.int .i64 (H : Int), .int .u64 X, .bool Bb] 34)
        have hOA := hOc.out.keeps hkA
        have hNA := hNc.out.keepS hkA (by simp) hOc.out.lt
        have hRA : RdR (wc.alloc (.cells #[.int .i64 (H : Int), .int .u64 X, .bool Bb] 34)) br v3 l3 0 := hRc.out.keeps hkA
        have hkwA := hkc.out.trans hkA
        have hszc := hkc.out.size
        replace hmade := Lib.hid hmade
        replace hOA := Lib.hid hOA
        replace hNA := Lib.hid hNA
        replace hRA := Lib.hid hRA
        replace hkwA := Lib.hid hkwA
        replace heq := Lib.hid heq
        clear hkA hOc hNc hRc hkc
        go_wp2_with (at_builtin; (refine wpl_appC shE B infE rfl Try.underlying26 (.slice ao LL co) (.slice (some ⟨wc.heap.size, 0, none⟩) 1 1) L [((H : Int), (X, Bb))] rfl _ _ rfl rfl rfl hOA.out hmade.out (by rw [hLL.out]; simp; omega) (by simp; omega) ?_; intro v5 w5 hO5 hG5 hC5; have hN5 : NB w5 v5 := hC5 _ (by intro u hu; simp [Sh.cs, shE] at hu; rcases hu with rfl | rfl | rfl <;> (intro x; simp)) (by intro u hu; simp [Value.cells] at hu; rcases hu with rfl | rfl | rfl <;> (intro x; simp)) hNA.out; have hk5 := Grw.keeps hkwA.out hG5 (fun b hb => Nat.le_trans (by omega) (hOA.out.ge b hb)); have hB5 : B ≤ w5.heap.size := by { have := hG5.grown.size; simp at this; omega }; have hkb5 := hG5.kb hNA.out; have hR5 : RdR w5 br v3 l3 0 := ⟨(hG5.keepsO.block br (by have := (cell2_of hRA.out.1).2.2.2.2; omega) (fun hm => by have := hOA.out.ge br (by simpa using hm); omega)).trans hRA.out.1, hRA.out.2.kb hkb5⟩; replace hO5 := Lib.hid hO5; replace hN5 := Lib.hid hN5; replace hk5 := Lib.hid hk5; replace hR5 := Lib.hid hR5; clear hG5 hC5 hkb5))
        go_roundw
        case rel => exact ⟨k + 1, H, (l3, 0), L ++ [((H : Int), (X, Bb))], rfl, rfl, by omega, ⟨v3, hR5.out⟩, hO5.out, hN5.out, heq.out, by simp; rw [hLL.out]; omega, hB5, hk5.out⟩
        case measure => simp [intOf]; omega
      · rw [if_neg (fun h => he3 h.1)] at heq
        have heb : (e3 == 0) = false := by simp [he3]
        obtain ⟨KK, hKK⟩ : ∃ K, IntKind.i64.wrap (H : Int) = K := ⟨_, rfl⟩
        rw [hKK] at heq
        clear hh
        have hmade := Sh.R.made shE wc [(KK, (X, Bb))] #[.int .i64 KK, .int .u64 X, .bool Bb] 34 rfl (by simp [Go.maxLen]) 1 rfl
        have hkA := (Keeps.refl [] wc).alloc (.cells #[.int .i64 KK, .int .u64 X, .bool Bb] 34)
        have hOA := hOc.out.keeps hkA
        have hNA := hNc.out.keepS hkA (by simp) hOc.out.lt
        have hRA : RdR (wc.alloc (.cells #[.int .i64 KK, .int .u64 X, .bool Bb] 34)) br v3 l3 e3 := hRc.out.keeps hkA
        have hkwA := hkc.out.trans hkA
        have hszc := hkc.out.size
        replace hmade := Lib.hid hmade
        replace hOA := Lib.hid hOA
        replace hNA := Lib.hid hNA
        replace hRA := Lib.hid hRA
        replace hkwA := Lib.hid hkwA
        replace heq := Lib.hid heq
        clear hkA hOc hNc hRc hkc
        go_wp2_with (at_builtin; (refine wpl_appC shE B infE rfl Try.underlying26 (.slice ao LL co) (.slice (some ⟨wc.heap.size, 0, none⟩) 1 1) L [(KK, (X, Bb))] rfl _ _ rfl rfl rfl hOA.out hmade.out (by rw [hLL.out]; simp; omega) (by simp; omega) ?_; intro v5 w5 hO5 hG5 hC5; have hN5 : NB w5 v5 := hC5 _ (by intro u hu; simp [Sh.cs, shE] at hu; rcases hu with rfl | rfl | rfl <;> (intro x; simp)) (by intro u hu; simp [Value.cells] at hu; rcases hu with rfl | rfl | rfl <;> (intro x; simp)) hNA.out; have hk5 := Grw.keeps hkwA.out hG5 (fun b hb => Nat.le_trans (by omega) (hOA.out.ge b hb)); have hB5 : B ≤ w5.heap.size := by { have := hG5.grown.size; simp at this; omega }; have hkb5 := hG5.kb hNA.out; have hR5 : RdR w5 br v3 l3 e3 := ⟨(hG5.keepsO.block br (by have := (cell2_of hRA.out.1).2.2.2.2; omega) (fun hm => by have := hOA.out.ge br (by simpa using hm); omega)).trans hRA.out.1, hRA.out.2.kb hkb5⟩; replace hO5 := Lib.hid hO5; replace hN5 := Lib.hid hN5; replace hk5 := Lib.hid hk5; replace hR5 := Lib.hid hR5; clear hG5 hC5 hkb5))
        go_roundw
        case rel => exact ⟨k + 1, H, (l3, e3), L ++ [(KK, (X, Bb))], rfl, rfl, by omega, ⟨v3, hR5.out⟩, hO5.out, hN5.out, heq.out, by simp; rw [hLL.out]; omega, hB5, hk5.out⟩
        case measure => simp [intOf]; omega
    · have hfin : rdn (N - k) last (ls, es) L = some (L, (ls, es)) := by
        by_cases he : es = 0
        · have : N - k = 0 := by have : ¬ k < N := fun h => hout ⟨he, h⟩; omega
          rw [this]; rfl
        · exact rdn_err _ _ _ _ he
      rw [hfin] at heq
      have heq2 : out (rdn N 0 s0 []) = if doneE ls es = 0 then (0, L) else (doneE ls es, []) := by rw [heq]; rfl
      obtain ⟨vr, hRv⟩ := id hRr
      obtain ⟨_, q1, _, _, _⟩ := cell2_of hRv.1
      replace q1 : wr.cell? ⟨br, 1, none⟩ = some (.int .i64 es) := q1
      have hR' := hOr.r
      obtain ⟨LL, hLL⟩ : ∃ LL, L.length = LL := ⟨_, rfl⟩
      rw [hLL] at hlen hR' ⊢
      replace hLL := Lib.hid hLL
      replace heq2 := Lib.hid heq2
      replace hRr := Lib.hid hRr
      replace hkr := Lib.hid hkr
      replace hR' := Lib.hid hR'
      clear hOr hNr heq hfin hRv hR4 hO3 hN3 hk4
      have hgo : (¬ k < N) ∨ (k < N ∧ (es == 0) = false) := by
        by_cases h : k < N
        · exact .inr ⟨h, by have : ¬ es = 0 := fun e => hout ⟨e, h⟩; simp [this]⟩
        · exact .inl h
      clear hout
      rcases hgo with hkn | ⟨hkn, hes⟩
      all_goals
        go_wp2_with fail
        refine (doneRS_c wr br _ hRr.out).mono ?_
        rintro e wd ⟨rfl, rfl⟩
        obtain ⟨E, hE⟩ : ∃ E, doneE ls es = E := ⟨_, rfl⟩
        rw [hE] at heq2
        rw [show doneE (ls, es).1 (ls, es).2 = E from hE]
        clear hE
        by_cases hE0 : E = 0
        · subst hE0
          rw [if_pos rfl] at heq2
          go_wp2
          go_ret2
          rw [hwd.out, heq2.out]
          exact .inl ⟨rfl, _, rfl, hR'.out, hkr.out⟩
        · rw [if_neg hE0] at heq2
          have hEb : (E == 0) = false := by simp [hE0]
          replace hE0 := Lib.hid hE0
          go_wp2
          go_ret2
          rw [hwd.out, heq2.out]
          exact .inr ⟨hE0.out, rfl, hkr.out⟩
end Go.Proofs.Ytmamlipgfkmcjaa

namespace Go.Proofs.Ytmamlipgfkmcjaa
open Go.RowKit

abbrev bad : RS := ([], 11)
theorem rU_bad : rU bad = (0, bad) := rfl
theorem rB_bad : rB bad = (false, bad) := rfl
theorem out_bad (L : List Hn) : out (some (L, bad)) = (11, []) := rfl
theorem wd_bad (n last : Nat) (acc : List Hn) : out (wd n last bad acc) = (11, []) := by
  cases n with
  | zero => rfl
  | succ n => rw [wd_succ, rU_bad, if_pos (.inl (Nat.zero_le _))]; rfl
theorem rdn_bad (n last : Nat) (acc : List Hn) : out (rdn n last bad acc) = (11, []) := by
  rw [rdn_err _ _ _ _ (by decide)]; rfl
theorem rU_none {l : List UInt8} (h : readU l = none) : rU (l, 0) = (0, bad) := by unfold rU; rw [if_pos rfl]; simp only [h]
theorem rU_some {l r : List UInt8} {x : Nat} (h : readU l = some (x, r)) : rU (l, 0) = (x, (r, 0)) := by unfold rU; rw [if_pos rfl]; simp only [h]
theorem rB_none {l : List UInt8} (h : readB l = none) : rB (l, 0) = (false, bad) := by unfold rB; rw [if_pos rfl]; simp only [h]
theorem rB_some {l r : List UInt8} {x : Bool} (h : readB l = some (x, r)) : rB (l, 0) = (x, (r, 0)) := by unfold rB; rw [if_pos rfl]; simp only [h]
theorem wd_step {n last : Nat} {s s1 s2 s3 : RS} {acc : List Hn} {h x : Nat} {b : Bool} (e1 : rU s = (h, s1)) (e2 : rB s1 = (b, s2)) (e3 : rU s2 = (x, s3)) :
    wd (n + 1) last s acc = if h ≤ last ∨ 4294967296 < h then none else wd n h s3 (acc ++ [((h : Int), (x, b))]) := by
  have a1 : (rU s).1 = h := congrArg Prod.fst e1
  have a2 : (rU s).2 = s1 := congrArg Prod.snd e1
  subst a1 a2
  have a3 : (rB (rU s).2).1 = b := congrArg Prod.fst e2
  have a4 : (rB (rU s).2).2 = s2 := congrArg Prod.snd e2
  subst a3 a4
  have a5 : (rU (rB (rU s).2).2).1 = x := congrArg Prod.fst e3
  have a6 : (rU (rB (rU s).2).2).2 = s3 := congrArg Prod.snd e3
  subst a5 a6
  exact wd_succ n last s acc
theorem rdn_step {n last : Nat} {s s1 s2 s3 : RS} {acc : List Hn} {h x : Nat} {b : Bool} (h0 : s.2 = 0) (e1 : rU s = (h, s1)) (e2 : rB s1 = (b, s2)) (e3 : rU s2 = (x, s3)) :
    rdn (n + 1) last s acc = if s3.2 = 0 ∧ (h ≤ last ∨ 4294967296 < h) then none else rdn n h s3 (acc ++ [(IntKind.i64.wrap (h : Int), (x, b))]) := by
  have a1 : (rU s).1 = h := congrArg Prod.fst e1
  have a2 : (rU s).2 = s1 := congrArg Prod.snd e1
  subst a1 a2
  have a3 : (rB (rU s).2).1 = b := congrArg Prod.fst e2
  have a4 : (rB (rU s).2).2 = s2 := congrArg Prod.snd e2
  subst a3 a4
  have a5 : (rU (rB (rU s).2).2).1 = x := congrArg Prod.fst e3
  have a6 : (rU (rB (rU s).2).2).2 = s3 := congrArg Prod.snd e3
  subst a5 a6
  exact rdn_succ n last s acc h0
theorem bad_no {p : Prop} : ¬ (bad.2 = 0 ∧ p) := fun h => absurd h.1 (by decide)
theorem dec_eq : ∀ (n last : Nat) (l : List UInt8) (acc : List Hn), out (wd n last (l, 0) acc) = out (rdn n last (l, 0) acc)
  | 0, _, _, _ => rfl
  | n + 1, last, l, acc => by
    cases h1 : readU l with
    | none =>
      rw [wd_step (rU_none h1) rB_bad rU_bad, rdn_step rfl (rU_none h1) rB_bad rU_bad, if_pos (.inl (Nat.zero_le _)), if_neg bad_no, rdn_bad]; rfl
    | some p =>
      obtain ⟨h, l1⟩ := p
      cases h2 : readB l1 with
      | none =>
        rw [wd_step (rU_some h1) (rB_none h2) rU_bad, rdn_step rfl (rU_some h1) (rB_none h2) rU_bad, if_neg bad_no, rdn_bad]
        split
        · rfl
        · rw [wd_bad]
      | some q =>
        obtain ⟨b, l2⟩ := q
        cases h3 : readU l2 with
        | none =>
          rw [wd_step (rU_some h1) (rB_some h2) (rU_none h3), rdn_step rfl (rU_some h1) (rB_some h2) (rU_none h3), if_neg bad_no, rdn_bad]
          split
          · rfl
          · rw [wd_bad]
        | some q =>
          obtain ⟨x, l3⟩ := q
          rw [wd_step (rU_some h1) (rB_some h2) (rU_some h3), rdn_step rfl (rU_some h1) (rB_some h2) (rU_some h3)]
          by_cases hc : h ≤ last ∨ 4294967296 < h
          · rw [if_pos hc, if_pos ⟨rfl, hc⟩]
          · rw [if_neg hc, if_neg (fun hh => hc hh.2), IntWalk.i64_in (h : Int) (by omega)]
            exact dec_eq n h l3 _
theorem rC_cases (l : List UInt8) : (∃ n r, readU l = some (n, r) ∧ n ≤ 65536 ∧ n ≤ r.length ∧ rC l = (n, (r, 0))) ∨ (∃ e, e ≠ 0 ∧ rC l = (0, ([], e))) := by
  unfold rC
  cases h : readU l with
  | none => exact .inr ⟨11, by decide, rfl⟩
  | some p =>
    obtain ⟨n, r⟩ := p
    simp only
    by_cases hc : cE n r = 0
    · rw [if_pos hc]
      refine .inl ⟨n, r, rfl, ?_, ?_, rfl⟩
      · unfold cE at hc; split at hc
        · cases hc
        · omega
      · unfold cE at hc; split at hc
        · cases hc
        · split at hc
          · cases hc
          · omega
    · rw [if_neg hc]; exact .inr ⟨_, hc, rfl⟩
theorem wdec_eq (l : List UInt8) : wdec l = rdec l := by
  unfold wdec rdec
  rcases rC_cases l with ⟨n, r, _, _, _, e⟩ | ⟨e, _, h⟩
  · rw [e]; exact dec_eq n 0 r []
  · rw [h]; rfl
theorem encU_readU {l r : List UInt8} {x : Nat} (h : readU l = some (x, r)) : l = encU x ++ r := by
  cases l with
  | nil => cases h
  | cons k t =>
    rcases Classical.em (k.toNat ≤ 8 ∧ k.toNat ≤ t.length ∧ (0 < k.toNat → t.headD 1 ≠ 0)) with hc | hc
    · rw [readU, if_pos hc] at h
      simp only [Option.some.injEq, Prod.mk.injEq] at h
      obtain ⟨rfl, rfl⟩ := h
      have hl : (t.take k.toNat).length = k.toNat := by rw [List.length_take]; omega
      have hd := digs_valU k.toNat (t.take k.toNat) hl (fun b hb => by
        rw [List.getElem?_take] at hb
        split at hb
        · rename_i h0
          have := hc.2.2 (by omega)
          cases t with
          | nil => cases hb
          | cons a u => simp at hb this; rw [← hb]; exact this
        · cases hb)
      unfold encU
      rw [hd, hl]
      simp
    · rw [readU, if_neg hc] at h; cases h
theorem encB_readB {l r : List UInt8} {b : Bool} (h : readB l = some (b, r)) : l = encB b ++ r := by
  cases l with
  | nil => cases h
  | cons k t =>
    rcases Nat.lt_or_ge 1 k.toNat with e | e
    · rw [readB, if_neg (by omega)] at h; cases h
    · rw [readB, if_pos e] at h
      simp only [Option.some.injEq, Prod.mk.injEq] at h
      obtain ⟨rfl, rfl⟩ := h
      have hk : k = 0 ∨ k = 1 := by
        rcases (show k.toNat = 0 ∨ k.toNat = 1 by omega) with h | h
        · exact .inl (UInt8.toNat_inj.1 (by simpa using h))
        · exact .inr (UInt8.toNat_inj.1 (by simpa using h))
      rcases hk with rfl | rfl <;> rfl
theorem wd_end : ∀ (n last : Nat) (acc L : List Hn) (s : RS), wd n last bad acc = some (L, s) → s = bad
  | 0, _, _, _, _, h => by simp only [wd, Option.some.injEq, Prod.mk.injEq] at h; exact h.2.symm
  | n + 1, last, acc, L, s, h => by rw [wd_succ, rU_bad, if_pos (.inl (Nat.zero_le _))] at h; cases h
theorem wd_inv : ∀ (n last : Nat) (l : List UInt8) (acc L : List Hn) (r : List UInt8), wd n last (l, 0) acc = some (L, (r, 0)) → ∃ L2, L = acc ++ L2 ∧ l = encL L2 ++ r ∧ L2.length = n
  | 0, _, l, acc, L, r, h => by
    simp only [wd, Option.some.injEq, Prod.mk.injEq] at h
    obtain ⟨rfl, rfl, _⟩ := h
    exact ⟨[], by simp, by simp [encL], rfl⟩
  | n + 1, last, l, acc, L, r, h => by
    have hbad : ∀ (last : Nat) (acc : List Hn), wd n last bad acc ≠ some (L, (r, 0)) := fun last acc e => by
      have := wd_end _ _ _ _ _ e
      exact absurd (congrArg Prod.snd this) (by show ¬ (0 : Int) = 11; decide)
    rw [wd_succ] at h
    cases h1 : readU l with
    | none => rw [rU_none h1, if_pos (.inl (Nat.zero_le _))] at h; cases h
    | some p =>
      obtain ⟨hd, l1⟩ := p
      rw [rU_some h1] at h
      simp only at h
      by_cases hc : hd ≤ last ∨ 4294967296 < hd
      · rw [if_pos hc] at h; cases h
      · rw [if_neg hc] at h
        cases h2 : readB l1 with
        | none => rw [rB_none h2] at h; simp only [rU_bad] at h; exact absurd h (hbad _ _)
        | some q =>
          obtain ⟨b, l2⟩ := q
          rw [rB_some h2] at h
          simp only at h
          cases h3 : readU l2 with
          | none => rw [rU_none h3] at h; simp only at h; exact absurd h (hbad _ _)
          | some q =>
            obtain ⟨x, l3⟩ := q
            rw [rU_some h3] at h
            simp only at h
            obtain ⟨L2, e1, e2, e3⟩ := wd_inv n hd l3 _ L r h
            refine ⟨((hd : Int), (x, b)) :: L2, by rw [e1]; simp, ?_, by simp [e3]⟩
            rw [encU_readU h1, encB_readB h2, encU_readU h3, e2]
            simp [encL, encH]
/-- What is decoded is encoded to the same bytes. -/
theorem dec_enc {l : List UInt8} {L : List Hn} (h : wdec l = (0, L)) : encT L = l := by
  unfold wdec at h
  rcases rC_cases l with ⟨n, r, e1, _, _, e⟩ | ⟨e, he, hr⟩
  · rw [e] at h
    simp only at h
    cases hw : wd n 0 (r, 0) [] with
    | none => rw [hw] at h; cases h
    | some p =>
      obtain ⟨L', s, es⟩ := p
      rw [hw] at h
      unfold out at h
      simp only at h
      split at h
      · rename_i hd
        simp only [Prod.mk.injEq, true_and] at h
        subst h
        have hs : es = 0 ∧ s = [] := by
          unfold doneE at hd
          split at hd
          · cases hd
          · rename_i hn
            exact ⟨hd, Classical.byContradiction fun h => hn ⟨hd, h⟩⟩
        obtain ⟨rfl, rfl⟩ := hs
        obtain ⟨L2, e2, e3, e4⟩ := wd_inv n 0 r [] L' [] hw
        simp only [List.nil_append] at e2
        subst e2
        rw [encU_readU e1, e3]
        unfold encT
        rw [e4]; simp
      · rename_i hd
        exact absurd (congrArg Prod.fst h) hd
  · rw [hr] at h
    have hd : doneE [] e = e := by unfold doneE; rw [if_neg (fun h => he h.1)]
    have h2 : (if doneE [] e = 0 then ((0 : Int), ([] : List Hn)) else (doneE [] e, [])) = (0, L) := h
    rw [hd, if_neg he] at h2
    exact absurd (congrArg Prod.fst h2) he
end Go.Proofs.Ytmamlipgfkmcjaa
