/- Texts that the laws lean on, in the order in which they build. The reference's reading of a number. The reference's reader: Uint. The reference's reader in whatever state: Uint, Bool, Count, Done. The specification's Encode of a certificate. (Printed by mkcva.py.) The specification reads needs. -/
import Derived.Test.YtiplgpefapeapaaKC13
set_option linter.unusedVariables false
set_option linter.unusedSimpArgs false
namespace Go.Proofs.Ytiplgpefapeapaa
open Go.RowKit

/-- What the reference's `number` gives. -/
def numR (l : List UInt8) : Int × Int := match readU l with | some (x, r) => (x, (l.length : Int) - r.length) | none => (0, -1)
theorem numR_none {l : List UInt8} (h : readU l = none) : numR l = (0, -1) := by simp [numR, h]

set_option maxRecDepth 100000 in
set_option maxHeartbeats 2000000 in
theorem number_bad (w : World) (v0 : Value) (l : List UInt8) (h : SlB w v0 l) (hr : readU l = none) :
    Calls Try.prog 66 #[v0] w fun e w' => e = .returned (.tuple #[.int .u64 0, .int .i64 (-1)]) ∧ Keeps [] w w' := by
  rcases h.cases with ⟨rfl, a, cp, rfl, _, _⟩ | ⟨g, o, cp, rfl, hn, hm, hp, hg, hc⟩
  · clear h hr
    go_enter Try.func66, Try.ntmps66
    go_wp2
    go_ret2
    exact ⟨rfl, Keeps.refl _ _⟩
  · obtain ⟨k, t, rfl⟩ : ∃ k t, l = k :: t := by cases l with | nil => simp at hp | cons k t => exact ⟨k, t, rfl⟩
    have k0 := hc 0 (by simp)
    have k1 : 0 < t.length → w.cell? ⟨g, o + 1, none⟩ = some (.int .u8 ((t.headD 1).toNat : Int)) := fun ht => by
      have := hc 1 (by simp; omega)
      rw [this]; cases t with | nil => simp at ht | cons a b => rfl
    simp only [Nat.add_zero, List.getElem_cons_zero] at k0
    have hcond : ¬ (k.toNat ≤ 8 ∧ k.toNat ≤ t.length ∧ (0 < k.toNat → t.headD 1 ≠ 0)) := fun e => by rw [readU, if_pos e] at hr; cases hr
    have hk : k.toNat ≤ 255 := by have := k.toNat_lt; omega
    clear h hc hp hr
    simp only [List.length_cons] at *
    obtain ⟨t0, htt0⟩ : ∃ t0, t.headD 1 = t0 := ⟨_, rfl⟩
    rw [htt0] at k1 hcond
    clear htt0
    obtain ⟨kk, hkk⟩ : ∃ kk, k.toNat = kk := ⟨_, rfl⟩
    rw [hkk] at k0 hcond hk
    clear hkk
    obtain ⟨N, hNt⟩ : ∃ N, t.length = N := ⟨_, rfl⟩
    rw [hNt] at hcond k1 hn ⊢
    clear hNt
    have hNN : (N : Int) + 1 ≤ 9223372036854775807 := by unfold maxLen at hm; omega
    have wk : IntKind.i64.wrap (kk : Int) = kk := IntWalk.i64_in _ (by omega)
    have nz : ((N : Int) + 1 == 0) = false := by simp; omega
    by_cases h8 : 8 < kk
    · clear hcond k1
      have d8 : (8 : Int) < kk := by omega
      go_enter Try.func66, Try.ntmps66
      go_wp2
      go_ret2
      exact ⟨rfl, Keeps.refl _ _⟩
    · by_cases hNk : N < kk
      · clear hcond k1
        have d8 : decide ((8 : Int) < (kk : Int)) = false := by simp; omega
        have dN : (N : Int) + 1 < 1 + kk := by omega
        go_enter Try.func66, Try.ntmps66
        go_wp2
        go_ret2
        exact ⟨rfl, Keeps.refl _ _⟩
      · have hk0 : 0 < kk := by
          rcases Nat.eq_zero_or_pos kk with e | e
          · exact absurd ⟨by omega, by omega, fun h => by omega⟩ hcond
          · exact e
        have ht0 : t0 = 0 := by
          rcases Classical.em (t0 = 0) with e | e
          · exact e
          · exact absurd ⟨by omega, by omega, fun _ => e⟩ hcond
        have k1' := k1 (by omega)
        rw [ht0] at k1'
        have k1'' : w.cell? ⟨g, o + 1, none⟩ = some (.int .u8 0) := k1'
        have hki : (0 : Int) < kk := by omega
        have d8 : decide ((8 : Int) < (kk : Int)) = false := by simp; omega
        have dN : decide ((N : Int) + 1 < 1 + (kk : Int)) = false := by simp; omega
        clear hcond k1 k1' ht0
        go_enter Try.func66, Try.ntmps66
        go_wp2
        go_ret2
        exact ⟨rfl, Keeps.refl _ _⟩

set_option maxRecDepth 100000 in
set_option maxHeartbeats 4000000 in
theorem number_ok (w : World) (v0 : Value) (l rest : List UInt8) (x : Nat) (h : SlB w v0 l) (hr : readU l = some (x, rest)) :
    Calls Try.prog 66 #[v0] w fun e w' => (∃ j : Nat, 0 < j ∧ j ≤ l.length ∧ rest = l.drop j ∧ e = .returned (.tuple #[.int .u64 x, .int .i64 j])) ∧ Keeps [] w w' := by
  rcases h.cases with ⟨rfl, a, cp, rfl, _, _⟩ | ⟨g, o, cp, rfl, hn, hm, hp, hg, hc⟩
  · cases hr
  · obtain ⟨k, t, rfl⟩ : ∃ k t, l = k :: t := by cases l with | nil => simp at hp | cons k t => exact ⟨k, t, rfl⟩
    have k0 := hc 0 (by simp)
    have k1 : 0 < t.length → w.cell? ⟨g, o + 1, none⟩ = some (.int .u8 ((t.headD 1).toNat : Int)) := fun ht => by
      have := hc 1 (by simp; omega)
      rw [this]; cases t with | nil => simp at ht | cons a b => rfl
    have kj : ∀ j (hj : j < t.length), w.cell? ⟨g, o + 1 + j, none⟩ = some (.int .u8 (t[j].toNat : Int)) := fun j hj => by
      have := hc (j + 1) (by simp; omega)
      rw [show o + 1 + j = o + (j + 1) by omega, this]; rfl
    simp only [Nat.add_zero, List.getElem_cons_zero] at k0
    have hcond : k.toNat ≤ 8 ∧ k.toNat ≤ t.length ∧ (0 < k.toNat → t.headD 1 ≠ 0) := by
      rcases Classical.em (k.toNat ≤ 8 ∧ k.toNat ≤ t.length ∧ (0 < k.toNat → t.headD 1 ≠ 0)) with e | e
      · exact e
      · rw [readU, if_neg e] at hr; cases hr
    rw [readU, if_pos hcond] at hr
    simp only [Option.some.injEq, Prod.mk.injEq] at hr
    obtain ⟨h8, hN, ht0⟩ := hcond
    obtain ⟨hx, hrest⟩ := hr
    have hk : k.toNat ≤ 255 := by have := k.toNat_lt; omega
    clear h hc hp
    simp only [List.length_cons] at *
    replace hx := Lib.hid hx
    replace hrest := Lib.hid hrest
    replace kj := Lib.hid kj
    obtain ⟨t0, htt0⟩ : ∃ t0, t.headD 1 = t0 := ⟨_, rfl⟩
    rw [htt0] at k1 ht0
    clear htt0
    obtain ⟨kk, hkk⟩ : ∃ kk, k.toNat = kk := ⟨_, rfl⟩
    rw [hkk] at k0 h8 hN ht0 hk hx hrest
    clear hkk
    obtain ⟨N, hNt⟩ : ∃ N, t.length = N := ⟨_, rfl⟩
    rw [hNt] at hN k1 hn ⊢
    replace hNt := Lib.hid hNt
    have hNN : (N : Int) + 1 ≤ 9223372036854775807 := by unfold maxLen at hm; omega
    have d8 : decide ((8 : Int) < (kk : Int)) = false := by simp; omega
    have nz : ((N : Int) + 1 == 0) = false := by simp; omega
    have wk : IntKind.i64.wrap (kk : Int) = kk := IntWalk.i64_in _ (by omega)
    have dN : decide ((N : Int) + 1 < 1 + (kk : Int)) = false := by simp; omega
    have hfacts : (∃ _ : (0 : Int) < (kk : Int), 0 < kk ∧ w.cell? ⟨g, o + 1, none⟩ = some (.int .u8 (t0.toNat : Int)) ∧ ((t0.toNat : Int) == 0) = false) ∨ (decide ((0 : Int) < (kk : Int)) = false ∧ decide (0 < kk) = false) := by
      by_cases hk0 : 0 < kk
      · refine .inl ⟨by omega, hk0, k1 (by omega), ?_⟩
        have := ht0 hk0
        have h9 : t0.toNat ≠ 0 := fun e => this (UInt8.toNat_inj.1 (by simpa using e))
        simp; omega
      · exact .inr ⟨by simp; omega, by simp; omega⟩
    clear ht0 k1
    rcases hfacts with ⟨dk, hk0, k1', t0n⟩ | ⟨dk, dk2⟩
    all_goals
      go_enter Try.func66, Try.ntmps66
      go_wp2
      go_loopw [4, 5] (fun n i wr => ∃ j : Nat, j ≤ kk ∧ i = .int .i64 j ∧ n = .int .u64 (valU (t.take j)) ∧ Keeps [] w wr) (fun _ i _ => kk - (intOf i).toNat)
      case atStart => exact ⟨0, by omega, rfl, rfl, Keeps.refl _ _⟩
      case round =>
        obtain ⟨j, hj, rfl, rfl, hkw⟩ := hrel
        have q0 := hkw.val k0
        have hvl := valU_lt j (t.take j) (by rw [List.length_take]; have := hNt.out; omega)
        by_cases hlt3 : j < kk
        · have hjt : j < t.length := by have := hNt.out; omega
          have hcj := hkw.val (kj.out j hjt)
          rw [show o + 1 + j = o + (1 + j) by omega] at hcj
          have hb8 : (t[j].toNat : Int) ≤ 255 := by have := t[j].toNat_lt; omega
          have hstep : Hid (valU (t.take (j + 1)) = valU (t.take j) * 256 + t[j].toNat) := by show _ = _; rw [List.take_succ_eq_append_getElem hjt, valU_snoc]
          have hvb : (valU (t.take j) : Int) < 72057594037927936 := by
            have : (256 : Nat) ^ j ≤ 256 ^ 7 := Nat.pow_le_pow_right (by omega) (by omega)
            omega
          clear hvl
          generalize t[j].toNat = y at *
          generalize hvv : valU (t.take j) = vv at *
          replace hkw := Lib.hid hkw
          replace hvv := Lib.hid hvv
          go_wp2
          go_roundw
          case rel => exact ⟨j + 1, by omega, by go_num, by rw [hstep.out]; go_num, hkw.out⟩
          case measure => simp [intOf]; omega
        · have hjk : j = kk := by omega
          subst hjk
          clear hvl
          rw [hx.out]
          replace hkw := Lib.hid hkw
          go_wp2
          (refine wp_region_quiet_lit (by kernel_rfl) (by kernel_rfl) ?_; (repeat (first | go_big_quiet_step (fail) | quiet_step (fail))); with_reducible refine wpQuiet_nil ?_; intro _ hw'; obtain ⟨nq, hw''⟩ := hw'; subst hw'')
          (repeat go_step)
          go_ret2
          exact ⟨⟨1 + j, by omega, by omega, by rw [← hrest.out, Nat.add_comm 1 j]; rfl, rfl⟩, hkw.out.drewN _⟩
end Go.Proofs.Ytiplgpefapeapaa

namespace Go.Proofs.Ytiplgpefapeapaa
open Go.RowKit

/-- The reference's reader in memory. -/
def RdR (w : World) (br : Nat) (v : Value) (l : List UInt8) (e : Int) : Prop := w.heap[br]? = some (.cells #[v, .int .i64 e] 70 (0, 0)) ∧ SlV w v l
theorem RdR.keeps {w w' : World} {br : Nat} {v : Value} {l : List UInt8} {e : Int} (h : RdR w br v l e) (hk : Keeps [] w w') : RdR w' br v l e :=
  ⟨(hk.block br (cell2_of h.1).2.2.2.2 (by simp)).trans h.1, h.2.keeps hk⟩
set_option maxRecDepth 100000 in
set_option maxHeartbeats 1000000 in
theorem failR_c (w : World) (br : Nat) (v : Value) (l : List UInt8) (e x : Int) (h : RdR w br v l e) :
    Calls Try.prog 56 #[.pointer (some ⟨br, 0, none⟩), .int .i64 x] w fun en w' => en = .returned (.tuple #[]) ∧ RdR w' br (.slice none 0 0) [] x ∧ Keeps [br] w w' := by
  obtain ⟨c0, c1, f0, f1, hlt⟩ := cell2_of h.1
  replace h := Lib.hid h
  go_enter Try.func56, Try.ntmps56
  go_wp2
  go_end0
  exact ⟨rfl, ⟨set2_1 (set2_0 h.out.1 _) _, SlV.nil _⟩, ((Keeps.refl _ _).setCell (.inr (by simp)) _).setCell (.inr (by simp)) _⟩
set_option maxRecDepth 100000 in
set_option maxHeartbeats 2000000 in
theorem uintR_c (w : World) (br : Nat) (v : Value) (l : List UInt8) (h : RdR w br v l 0) :
    Calls Try.prog 55 #[.pointer (some ⟨br, 0, none⟩)] w fun en w' => en = .returned (.int .u64 (rdU l).1) ∧ (∃ v', RdR w' br v' (rdU l).2.1 (rdU l).2.2) ∧ Keeps [br] w w' := by
  cases hr : readU l with
  | none =>
    have e : rdU l = (0, [], 11) := by simp [rdU, hr]
    rw [e]
    obtain ⟨c0, c1, f0, f1, hlt⟩ := cell2_of h.1
    replace h := Lib.hid h
    replace hr := Lib.hid hr
    clear e f0 f1
    go_enter Try.func55, Try.ntmps55
    go_wp2_with fail
    refine (number_bad _ _ _ h.out.2.b hr.out).mono ?_
    rintro e w1 ⟨rfl, hk1⟩
    replace hk1 := Lib.hid hk1
    go_wp2_with fail
    refine (failR_c _ br v l 0 11 (h.out.keeps hk1.out)).mono ?_
    rintro e w2 ⟨rfl, hR, hk2⟩
    replace hR := Lib.hid hR
    have hk3 : Hid (Keeps [br] w w2) := hk1.out.of_nil.trans hk2
    clear hk2
    go_wp2
    go_ret
    exact ⟨rfl, ⟨_, hR.out⟩, hk3.out⟩
  | some p =>
    obtain ⟨x, r⟩ := p
    have e : rdU l = (x, r, 0) := by simp [rdU, hr]
    rw [e]
    obtain ⟨c0, c1, f0, f1, hlt⟩ := cell2_of h.1
    rcases h.2.cases with ⟨rfl, a, cp, rfl, _, _⟩ | ⟨g, o, cp, rfl, hn, hm, hp, hg, _⟩
    · cases hr
    · have htl := fun j (hj : j ≤ l.length) => h.2.tail j hj
      obtain ⟨N, hN⟩ : ∃ N, l.length = N := ⟨_, rfl⟩
      simp only [hN] at hn hp c0 htl
      replace h := Lib.hid h
      replace hr := Lib.hid hr
      replace htl := Lib.hid htl
      replace hN := Lib.hid hN
      clear e f1
      go_enter Try.func55, Try.ntmps55
      go_wp2_with fail
      refine (number_ok _ _ _ _ _ (by have := h.out.2.b; rw [hN.out] at this; exact this) hr.out).mono ?_
      rintro e w1 ⟨⟨j, hj0, hjl, hrest, rfl⟩, hk1⟩
      rw [hN.out] at hjl
      have hR1 := h.out.keeps hk1
      have c01 := hk1.val c0
      have f01 := (cell2_of hR1.1).2.2.1
      have hlt1 := (cell2_of hR1.1).2.2.2.2
      have hs1 := (htl.out j hjl).keeps hk1
      rw [← hrest] at hs1
      replace hk1 := Lib.hid hk1
      replace hR1 := Lib.hid hR1
      replace hs1 := Lib.hid hs1
      clear hrest
      have hj2 : ¬ ((j : Int) < 0) := by omega
      by_cases hcj : cp = j
      · have hs := hs1.out
        rw [if_pos hcj] at hs
        subst hcj
        rw [Nat.sub_self, show N - cp = 0 by omega] at hs
        replace hs := Lib.hid hs
        clear hs1
        go_wp2
        go_ret
        exact ⟨rfl, ⟨_, set2_0 hR1.out.1 _, hs.out.kv (KV.setCell w1 _ c01 (by simp))⟩, hk1.out.of_nil.setCell (.inr (by simp)) _⟩
      · go_wp2
        go_ret
        have hs := hs1.out
        rw [if_neg hcj] at hs
        exact ⟨rfl, ⟨_, set2_0 hR1.out.1 _, hs.kv (KV.setCell w1 _ c01 (by simp))⟩, hk1.out.of_nil.setCell (.inr (by simp)) _⟩
end Go.Proofs.Ytiplgpefapeapaa

namespace Go.Proofs.Ytiplgpefapeapaa
open Go.RowKit

def RrS (w : World) (br : Nat) (s : RS) : Prop := ∃ v, RdR w br v s.1 s.2
theorem RrS.keeps {w w' : World} {br : Nat} {s : RS} (h : RrS w br s) (hk : Keeps [] w w') : RrS w' br s := by obtain ⟨v, h⟩ := h; exact ⟨v, h.keeps hk⟩
theorem RrS.lt {w : World} {br : Nat} {s : RS} (h : RrS w br s) : br < w.heap.size := by obtain ⟨v, h⟩ := h; exact (cell2_of h.1).2.2.2.2
set_option maxRecDepth 100000 in
set_option maxHeartbeats 1000000 in
theorem uintR_err (w : World) (br : Nat) (v : Value) (l : List UInt8) (e : Int) (h : RdR w br v l e) (he : e ≠ 0) :
    Calls Try.prog 55 #[.pointer (some ⟨br, 0, none⟩)] w fun en w' => en = .returned (.int .u64 0) ∧ w = w' := by
  obtain ⟨c0, c1, f0, f1, hlt⟩ := cell2_of h.1
  have he2 : (e == 0) = false := by simp [he]
  clear h he
  go_enter Try.func55, Try.ntmps55
  go_wp2
  go_ret
  exact ⟨rfl, rfl⟩
theorem uintRS_c (w : World) (br : Nat) (s : RS) (h : RrS w br s) :
    Calls Try.prog 55 #[.pointer (some ⟨br, 0, none⟩)] w fun en w' => en = .returned (.int .u64 (rU s).1) ∧ RrS w' br (rU s).2 ∧ Keeps [br] w w' := by
  obtain ⟨l, e⟩ := s
  obtain ⟨v, h⟩ := h
  by_cases he : e = 0
  · subst he
    refine (uintR_c w br v l h).mono fun en w' ⟨h1, h2, h3⟩ => ?_
    have : rU (l, 0) = ((rdU l).1, ((rdU l).2.1, (rdU l).2.2)) := by
      cases hx : readU l with
      | none => simp [rU, rdU, hx]
      | some p => obtain ⟨x, r⟩ := p; simp [rU, rdU, hx]
    rw [this]
    exact ⟨h1, h2, h3⟩
  · refine (uintR_err w br v l e h he).mono fun en w' ⟨h1, h2⟩ => ?_
    subst h2
    rw [show rU (l, e) = (0, (l, e)) by unfold rU; rw [if_neg he]]
    exact ⟨h1, ⟨v, h⟩, Keeps.refl _ _⟩
set_option maxRecDepth 100000 in
set_option maxHeartbeats 1000000 in
theorem boolR_err (w : World) (br : Nat) (v : Value) (l : List UInt8) (e : Int) (h : RdR w br v l e) (he : e ≠ 0) :
    Calls Try.prog 57 #[.pointer (some ⟨br, 0, none⟩)] w fun en w' => en = .returned (.bool false) ∧ w = w' := by
  obtain ⟨c0, c1, f0, f1, hlt⟩ := cell2_of h.1
  have he2 : (e == 0) = false := by simp [he]
  clear h he
  go_enter Try.func57, Try.ntmps57
  go_wp2
  go_ret
  exact ⟨rfl, rfl⟩
set_option maxRecDepth 100000 in
set_option maxHeartbeats 2000000 in
theorem boolR_bad (w : World) (br : Nat) (v : Value) (l : List UInt8) (h : RdR w br v l 0) (hr : readB l = none) :
    Calls Try.prog 57 #[.pointer (some ⟨br, 0, none⟩)] w fun en w' => en = .returned (.bool false) ∧ RdR w' br (.slice none 0 0) [] 11 ∧ Keeps [br] w w' := by
  obtain ⟨c0, c1, f0, f1, hlt⟩ := cell2_of h.1
  have hh := Lib.hid h
  rcases h.2.cases with ⟨rfl, a, cp, rfl, _, _⟩ | ⟨g, o, cp, rfl, hn, hm, hp, hg, hc⟩
  · clear h hr
    go_enter Try.func57, Try.ntmps57
    go_wp2_with fail
    refine (failR_c w br _ _ 0 11 hh.out).mono ?_
    rintro e w1 ⟨rfl, hR1, hk1⟩
    replace hR1 := Lib.hid hR1
    replace hk1 := Lib.hid hk1
    go_wp2
    go_ret
    exact ⟨rfl, hR1.out, hk1.out⟩
  · obtain ⟨k, t, rfl⟩ : ∃ k t, l = k :: t := by cases l with | nil => simp at hp | cons k t => exact ⟨k, t, rfl⟩
    have k0 := hc 0 (by simp)
    simp only [Nat.add_zero, List.getElem_cons_zero] at k0
    have hk1 : 1 < k.toNat := by
      rcases Nat.lt_or_ge 1 k.toNat with e | e
      · exact e
      · rw [readB, if_pos e] at hr; cases hr
    clear h hc hp hr
    have hk := k.toNat_lt
    simp only [List.length_cons] at *
    have hF : Calls Try.prog 56 #[.pointer (some ⟨br, 0, none⟩), .int .i64 11] w fun en w' => en = .returned (.tuple #[]) ∧ RdR w' br (.slice none 0 0) [] 11 ∧ Keeps [br] w w' := failR_c w br _ _ 0 11 hh.out
    clear hh
    generalize k.toNat = kk at *
    generalize t.length = N at *
    have hNN : (N : Int) + 1 ≤ 9223372036854775807 := by unfold maxLen at hm; omega
    have nz : ((N : Int) + 1 == 0) = false := by simp; omega
    have d1 : (1 : Int) < (kk : Int) := by omega
    replace hF := Lib.hid hF
    go_enter Try.func57, Try.ntmps57
    go_wp2_with fail
    refine hF.out.mono ?_
    rintro e w1 ⟨rfl, hR1, hk1⟩
    replace hR1 := Lib.hid hR1
    replace hk1 := Lib.hid hk1
    go_wp2
    go_ret
    exact ⟨rfl, hR1.out, hk1.out⟩
set_option maxRecDepth 100000 in
set_option maxHeartbeats 2000000 in
theorem boolR_ok (w : World) (br : Nat) (v : Value) (l rest : List UInt8) (x : Bool) (h : RdR w br v l 0) (hr : readB l = some (x, rest)) :
    Calls Try.prog 57 #[.pointer (some ⟨br, 0, none⟩)] w fun en w' => en = .returned (.bool x) ∧ (∃ v', RdR w' br v' rest 0) ∧ Keeps [br] w w' := by
  obtain ⟨c0, c1, f0, f1, hlt⟩ := cell2_of h.1
  rcases h.2.cases with ⟨rfl, a, cp, rfl, _, _⟩ | ⟨g, o, cp, rfl, hn, hm, hp, hg, hc⟩
  · cases hr
  · obtain ⟨k, t, rfl⟩ : ∃ k t, l = k :: t := by cases l with | nil => simp at hp | cons k t => exact ⟨k, t, rfl⟩
    have k0 := hc 0 (by simp)
    simp only [Nat.add_zero, List.getElem_cons_zero] at k0
    have hk1 : k.toNat ≤ 1 := by
      rcases Nat.lt_or_ge 1 k.toNat with e | e
      · rw [readB, if_neg (by omega)] at hr; cases hr
      · exact e
    rw [readB, if_pos hk1] at hr
    simp only [Option.some.injEq, Prod.mk.injEq] at hr
    obtain ⟨hx, rfl⟩ := hr
    have htl := SlV.tail h.2 1 (by simp)
    simp only [List.length_cons, List.drop_succ_cons, List.drop_zero, Nat.add_sub_cancel] at htl
    simp only [List.length_cons] at *
    have hh := Lib.hid h.1
    clear h hc hp
    generalize hkk : k.toNat = kk at *
    generalize t.length = N at *
    have hNN : (N : Int) + 1 ≤ 9223372036854775807 := by unfold maxLen at hm; omega
    have nz : ((N : Int) + 1 == 0) = false := by simp; omega
    have d1 : decide ((1 : Int) < (kk : Int)) = false := by simp; omega
    have h1N : (1 : Int) ≤ (N : Int) + 1 := by omega
    have hxx : ((kk : Int) == 1) = x := by rw [← hx, Bool.eq_iff_iff]; simp; omega
    replace hkk := Lib.hid hkk
    clear hx
    by_cases hcj : cp = 1
    · subst hcj
      obtain rfl : N = 0 := by omega
      rw [if_pos rfl, Nat.sub_self] at htl
      replace htl := Lib.hid htl
      go_enter Try.func57, Try.ntmps57
      go_wp2
      go_ret
      exact ⟨rfl, ⟨_, set2_0 hh.out _, htl.out.kv (KV.setCell w _ c0 (by simp))⟩, (Keeps.refl _ _).setCell (.inr (by simp)) _⟩
    · rw [if_neg hcj] at htl
      replace htl := Lib.hid htl
      go_enter Try.func57, Try.ntmps57
      go_wp2
      go_ret
      exact ⟨rfl, ⟨_, set2_0 hh.out _, htl.out.kv (KV.setCell w _ c0 (by simp))⟩, (Keeps.refl _ _).setCell (.inr (by simp)) _⟩
theorem boolRS_c (w : World) (br : Nat) (s : RS) (h : RrS w br s) :
    Calls Try.prog 57 #[.pointer (some ⟨br, 0, none⟩)] w fun en w' => en = .returned (.bool (rB s).1) ∧ RrS w' br (rB s).2 ∧ Keeps [br] w w' := by
  obtain ⟨l, e⟩ := s
  obtain ⟨v, h⟩ := h
  by_cases he : e = 0
  · subst he
    cases hr : readB l with
    | none =>
      rw [show rB (l, 0) = (false, ([], 11)) by unfold rB; rw [if_pos rfl]; simp only [hr]]
      exact (boolR_bad w br v l h hr).mono fun _ _ ⟨h1, h2, h3⟩ => ⟨h1, ⟨_, h2⟩, h3⟩
    | some p =>
      obtain ⟨x, r⟩ := p
      rw [show rB (l, 0) = (x, (r, 0)) by unfold rB; rw [if_pos rfl]; simp only [hr]]
      exact boolR_ok w br v l r x h hr
  · refine (boolR_err w br v l e h he).mono fun en w' ⟨h1, h2⟩ => ?_
    subst h2
    rw [show rB (l, e) = (false, (l, e)) by unfold rB; rw [if_neg he]]
    exact ⟨h1, ⟨v, h⟩, Keeps.refl _ _⟩
set_option maxRecDepth 100000 in
set_option maxHeartbeats 2000000 in
theorem countRS_c (w : World) (br : Nat) (l : List UInt8) (h : RrS w br (l, 0)) :
    Calls Try.prog 28 #[.pointer (some ⟨br, 0, none⟩), .int .i64 1024] w fun en w' => en = .returned (.int .i64 (rCK 1024 l).1) ∧ RrS w' br (rCK 1024 l).2 ∧ Keeps [br] w w' := by
  replace h := Lib.hid h
  cases hr : readU l with
  | none =>
    rw [show rCK 1024 l = (0, ([], 11)) by unfold rCK; simp only [hr]]
    have hu : rU (l, 0) = (0, ([], 11)) := by unfold rU; rw [if_pos rfl]; simp only [hr]
    replace hu := Lib.hid hu
    clear hr
    go_enter Try.func28, Try.ntmps28
    go_wp2_with fail
    refine (uintRS_c w br _ h.out).mono ?_
    rintro e w1 ⟨rfl, hR1, hk1⟩
    rw [show (rU (l, 0)).2 = ([], 11) from by rw [hu.out]] at hR1
    rw [show (rU (l, 0)).1 = 0 from by rw [hu.out]]
    replace hR1 : ∃ v, RdR w1 br v [] 11 := hR1
    obtain ⟨v1, hR1⟩ := hR1
    obtain ⟨c0, c1, f0, f1, hlt⟩ := cell2_of hR1.1
    replace hR1 := Lib.hid hR1
    replace hk1 := Lib.hid hk1
    go_wp2
    go_ret
    exact ⟨rfl, ⟨_, hR1.out⟩, hk1.out⟩
  | some p =>
    obtain ⟨n, r⟩ := p
    have hrc : rCK 1024 l = if cEK 1024 n r = 0 then (n, (r, 0)) else (0, ([], cEK 1024 n r)) := by unfold rCK; simp only [hr]
    have hu : rU (l, 0) = (n, (r, 0)) := by unfold rU; rw [if_pos rfl]; simp only [hr]
    have hn := readU_lt hr
    replace hu := Lib.hid hu
    replace hrc := Lib.hid hrc
    clear hr
    go_enter Try.func28, Try.ntmps28
    go_wp2_with fail
    refine (uintRS_c w br _ h.out).mono ?_
    rintro e w1 ⟨rfl, hR1, hk1⟩
    rw [show (rU (l, 0)).2 = (r, 0) from by rw [hu.out]] at hR1
    rw [show (rU (l, 0)).1 = n from by rw [hu.out]]
    replace hR1 : ∃ v, RdR w1 br v r 0 := hR1
    obtain ⟨v1, hR1⟩ := hR1
    obtain ⟨c0, c1, f0, f1, hlt⟩ := cell2_of hR1.1
    obtain ⟨a1, cp1, rfl⟩ := hR1.2.form
    have hmx := hR1.2.cap
    have hF := fun x => failR_c w1 br _ _ 0 x hR1
    have hcE : cEK 1024 n r = if 1024 < n then 8 else if r.length < n then 11 else 0 := rfl
    obtain ⟨N, hN⟩ : ∃ N, r.length = N := ⟨_, rfl⟩
    rw [hN] at c0 hmx hcE
    have hNN : (N : Int) ≤ 9223372036854775807 := by unfold maxLen at hmx; omega
    have hwr : IntKind.u64.wrap (N : Int) = N := by rw [IntKind.wrap_u64]; omega
    replace hN := Lib.hid hN
    replace hcE := Lib.hid hcE
    replace hF := Lib.hid hF
    replace hR1 := Lib.hid hR1
    replace hk1 := Lib.hid hk1
    by_cases hbig : 1024 < n
    · have hd : (1024 : Int) < (n : Int) := by omega
      go_wp2_with fail
      refine (hF.out 8).mono ?_
      rintro e w2 ⟨rfl, hR2, hk2⟩
      replace hk2 := hk1.out.trans hk2
      replace hR2 := Lib.hid hR2
      replace hk2 := Lib.hid hk2
      go_wp2
      go_ret
      rw [hrc.out, hcE.out, if_pos hbig, if_neg (by decide)]
      exact ⟨rfl, ⟨_, hR2.out⟩, hk2.out⟩
    · have hd : decide ((1024 : Int) < (n : Int)) = false := by simp; omega
      by_cases hb2 : N < n
      · have hd2 : (N : Int) < (n : Int) := by omega
        go_wp2_with fail
        refine (hF.out 11).mono ?_
        rintro e w2 ⟨rfl, hR2, hk2⟩
        replace hk2 := hk1.out.trans hk2
        replace hR2 := Lib.hid hR2
        replace hk2 := Lib.hid hk2
        go_wp2
        go_ret
        rw [hrc.out, hcE.out, if_neg hbig, if_pos hb2, if_neg (by decide)]
        exact ⟨rfl, ⟨_, hR2.out⟩, hk2.out⟩
      · have hd2 : decide ((N : Int) < (n : Int)) = false := by simp; omega
        go_wp2
        go_ret
        rw [hrc.out, hcE.out, if_neg hbig, if_neg hb2, if_pos rfl]
        exact ⟨rfl, ⟨_, hR1.out⟩, hk1.out⟩
set_option maxRecDepth 100000 in
set_option maxHeartbeats 2000000 in
theorem intRS_c (w : World) (br : Nat) (s : RS) (h : RrS w br s) :
    Calls Try.prog 26 #[.pointer (some ⟨br, 0, none⟩)] w fun en w' => en = .returned (.int .i64 (rI s).1) ∧ RrS w' br (rI s).2 ∧ Keeps [br] w w' := by
  have hc := uintRS_c w br s h
  have hx := rU_lt s
  unfold rI
  simp only
  generalize (rU s).1 = n at *
  generalize (rU s).2 = s2 at *
  replace hc := Lib.hid hc
  clear h
  by_cases h0 : n % 2 = 0
  · obtain ⟨k, rfl⟩ : ∃ k, n = 2 * k := ⟨n / 2, by omega⟩
    have hu : uzig (2 * k) = k := by unfold uzig; rw [if_pos h0]; omega
    have hwk : IntKind.i64.wrap (k : Int) = k := IntWalk.i64_in _ (by omega)
    rw [hu]
    go_enter Try.func26, Try.ntmps26
    go_wp2_with fail
    refine hc.out.mono ?_
    rintro e w' ⟨rfl, hR, hk⟩
    replace hR := Lib.hid hR
    replace hk := Lib.hid hk
    go_wp2
    go_ret
    exact ⟨rfl, hR.out, hk.out⟩
  · obtain ⟨k, rfl⟩ : ∃ k, n = 2 * k + 1 := ⟨n / 2, by omega⟩
    have hu : uzig (2 * k + 1) = -(k : Int) - 1 := by unfold uzig; rw [if_neg h0]; omega
    have hdv : (2 * (k : Int) + 1) / 2 = k := by omega
    have hmd : (2 * (k : Int) + 1) % 2 = 1 := by omega
    rw [hu]
    go_enter Try.func26, Try.ntmps26
    go_wp2_with fail
    refine hc.out.mono ?_
    rintro e w' ⟨rfl, hR, hk⟩
    replace hR := Lib.hid hR
    replace hk := Lib.hid hk
    go_wp2
    go_ret
    exact ⟨rfl, hR.out, hk.out⟩
set_option maxRecDepth 100000 in
set_option maxHeartbeats 2000000 in
theorem countR_err (w : World) (br : Nat) (v : Value) (l : List UInt8) (e : Int) (h : RdR w br v l e) (he : e ≠ 0) :
    Calls Try.prog 28 #[.pointer (some ⟨br, 0, none⟩), .int .i64 1024] w fun en w' => en = .returned (.int .i64 0) ∧ w = w' := by
  obtain ⟨c0, c1, f0, f1, hlt⟩ := cell2_of h.1
  have he2 : (e != 0) = true := by simp [he]
  have hcall := uintR_err w br v l e h he
  replace hcall := Lib.hid hcall
  clear h he
  go_enter Try.func28, Try.ntmps28
  go_wp2_with fail
  refine hcall.out.mono ?_
  rintro e w' ⟨rfl, hw⟩
  obtain rfl := hw
  go_wp2
  go_ret
  exact ⟨rfl, rfl⟩
theorem countRX_c (w : World) (br : Nat) (s : RS) (h : RrS w br s) :
    Calls Try.prog 28 #[.pointer (some ⟨br, 0, none⟩), .int .i64 1024] w fun en w' => en = .returned (.int .i64 (rCS 1024 s).1) ∧ RrS w' br (rCS 1024 s).2 ∧ Keeps [br] w w' := by
  obtain ⟨l, e⟩ := s
  by_cases he : e = 0
  · subst he
    rw [show rCS 1024 (l, 0) = rCK 1024 l from if_pos rfl]
    exact countRS_c w br l h
  · obtain ⟨v, h⟩ := h
    rw [show rCS 1024 (l, e) = (0, (l, e)) from if_neg he]
    exact (countR_err w br v l e h he).mono fun en w' ⟨h1, h2⟩ => by subst h2; exact ⟨h1, ⟨v, h⟩, Keeps.refl _ _⟩
set_option maxRecDepth 100000 in
set_option maxHeartbeats 1000000 in
theorem doneRS_c (w : World) (br : Nat) (s : RS) (h : RrS w br s) :
    Calls Try.prog 31 #[.pointer (some ⟨br, 0, none⟩)] w fun en w' => en = .returned (.int .i64 (doneE s.1 s.2)) ∧ w = w' := by
  obtain ⟨v, h⟩ := h
  obtain ⟨l, e⟩ := s
  obtain ⟨c0, c1, f0, f1, hlt⟩ := cell2_of h.1
  obtain ⟨a0, cap0, rfl⟩ := h.2.form
  clear h
  by_cases he : e = 0
  · subst he
    by_cases hl : l = []
    · subst hl
      go_enter Try.func31, Try.ntmps31
      go_wp2
      go_ret
      exact ⟨by simp [doneE], rfl⟩
    · have hp : 0 < l.length := List.length_pos_iff.2 hl
      replace hl := Lib.hid hl
      go_enter Try.func31, Try.ntmps31
      go_wp2
      go_ret
      exact ⟨by simp [doneE, hl.out], rfl⟩
  · have he2 : (e == 0) = false := by simp [he]
    replace he := Lib.hid he
    go_enter Try.func31, Try.ntmps31
    go_wp2
    go_ret
    exact ⟨by simp [doneE, he.out], rfl⟩
end Go.Proofs.Ytiplgpefapeapaa

namespace Go.Proofs.Ytiplgpefapeapaa
open Go.RowKit

def encNs (L : List T3) : List UInt8 := encU L.length ++ encXs L
def encP (p : PCl) : List UInt8 := encI p.m ++ encI p.ep ++ (encNs p.st ++ (encNs p.sc ++ encNs p.ch))
def encPs (P : List PCl) : List UInt8 := (P.map encP).flatten
/-- The bytes of a certificate. -/
def encCt (c : Ct) : List UInt8 := encI c.im ++ encI c.is ++ encX c.st ++ encU c.an.length ++ encH c.an ++ encU c.cl.length ++ encPs c.cl
theorem encPs_take (L : List PCl) (k : Nat) (hk : k < L.length) : encPs (L.take (k + 1)) = encPs (L.take k) ++ encP L[k] := by
  unfold encPs
  rw [List.take_succ_eq_append_getElem hk, List.map_append, List.flatten_append]
  simp
theorem encB_len (b : Bool) : (encB b).length ≤ 1 := by cases b <;> decide
theorem T3.Fit.ins {x : T3} (h : x.Fit) : InsFit x := ⟨h.1, h.2.1, h.2.2⟩
/-- How long the bytes may be, roughly. -/
def wA (a : Ans) : Nat := 100 + 30 * a.ins.length
def wP (p : PCl) : Nat := 100 + 30 * (p.st.length + (p.sc.length + p.ch.length))
def Ct.wt (c : Ct) : Nat := 200 + (c.an.map wA).sum + (c.cl.map wP).sum
theorem sum_takeLe {α : Type} (g : α → Nat) (l : List α) (k : Nat) : ((l.take k).map g).sum ≤ (l.map g).sum := by
  have h : (l.map g).sum = ((l.take k).map g).sum + ((l.drop k).map g).sum := by rw [← List.sum_append, ← List.map_append, List.take_append_drop]
  omega
theorem pI_c (w : World) (v : Value) (l : List UInt8) (n : Int) (h : SlB w v l) (hn : W64 n) (hl : l.length ≤ 140737488355000) : Calls Try.prog 33 #[v, .int .i64 n] w fun e w' => ∃ v', e = .returned v' ∧ SlB w' v' (l ++ encI n) ∧ Keeps [] w w' := refInt_c w v l n h (w64_iff.1 hn) hl
theorem pU_c (w : World) (v : Value) (l : List UInt8) (n : Nat) (h : SlB w v l) (hn : n < 18446744073709551616) (hl : l.length ≤ 140737488355000) : Calls Try.prog 34 #[v, .int .u64 n] w fun e w' => ∃ v', e = .returned v' ∧ SlB w' v' (l ++ encU n) ∧ Keeps [] w w' :=
  (refU_c w v l n h hn hl).mono fun _ _ ⟨v', h1, h2, h3⟩ => ⟨v', h1, h2.slB, h3⟩
theorem pB_c (w : World) (v : Value) (l : List UInt8) (b : Bool) (h : SlB w v l) (hl : l.length ≤ 140737488355000) : Calls Try.prog 35 #[v, .bool b] w fun e w' => ∃ v', e = .returned v' ∧ SlB w' v' (l ++ encB b) ∧ Keeps [] w w' :=
  refB_c w v l b h hl
set_option maxRecDepth 100000 in
set_option maxHeartbeats 4000000 in
theorem pN_c (w : World) (v : Value) (l : List UInt8) (x : T3) (h : SlB w v l) (hx : x.Fit) (hl : l.length ≤ 140737488354900) :
    Calls Try.prog 32 #[v, tV x] w fun e w' => ∃ v', e = .returned v' ∧ SlB w' v' (l ++ encX x) ∧ Keeps [] w w' := by
  obtain ⟨x0, x1, x2⟩ := x
  obtain ⟨hx0, hx1, hx2⟩ := hx
  simp only at hx0 hx1 hx2
  have hkA := (Keeps.refl [] w).alloc (.cells #[.int .i64 x0, .int .u64 x1, .int .i64 x2] tN)
  have hA := heap_alloc_new w (.cells #[.int .i64 x0, .int .u64 x1, .int .i64 x2] tN)
  have hB := Lib.hid (h.keeps hkA)
  have hres : ∀ y, y = l ++ encI x0 ++ encU x1 ++ encI x2 → y = l ++ encX (x0, x1, x2) := fun y e => by rw [e]; simp [encX, List.append_assoc]
  replace hkA := Lib.hid hkA
  replace hA := Lib.hid hA
  replace hres := Lib.hid hres
  clear h
  simp only [tV]
  go_enter Try.func32, Try.ntmps32
  go_upto_region 1 with fail
  generalize (w.alloc (.cells #[.int .i64 x0, .int .u64 x1, .int .i64 x2] tN)) = W at *
  obtain ⟨B, hBB⟩ : ∃ B, w.heap.size = B := ⟨_, rfl⟩
  rw [hBB] at hA ⊢
  replace hBB := Lib.hid hBB
  obtain ⟨i0, i1, i2, if', il⟩ := cl3 hA.out
  refine Free.wp_region_chain (fun i => i == 3 || i == 6 || i == 9) (fun i => true) (fun _ _ => False) (by kernel_rfl) (by kernel_rfl) (by kernel_rfl) ?_
  have hkr := Lib.hid ((Keeps.refl [] W).drew)
  replace hB := Lib.hid (hB.out.keeps (Keeps.refl [] W).drew)
  (repeat (first | (apply Free.cw_pure rfl rfl; (intro w'; go_simp <;> exact rfl); go_frame) | (apply Free.cw_steady rfl rfl rfl; (intro w' hS; have q0 := Free.sx_cell hS i0 (fun _ _ hT => hT); have q1 := Free.sx_cell hS i1 (fun _ _ hT => hT); have q2 := Free.sx_cell hS i2 (fun _ _ hT => hT); go_simp <;> exact rfl); go_frame) | (refine Free.cw_skip rfl ?_; go_frame)))
  refine Free.cw_loud rfl rfl (fun K hK => ?_)
  have hc := pI_c _ _ l x0 hB.out hx0 (by omega)
  obtain ⟨l0, hl0⟩ : ∃ y, l ++ encI x0 = y := ⟨_, rfl⟩
  rw [hl0] at hc
  have hn0 : l0.length ≤ l.length + 9 := by rw [← hl0, List.length_append]; have := encI_len hx0; omega
  replace hc := Lib.hid hc
  replace hl0 := Lib.hid hl0
  go_wp2_with fail
  refine hc.out.mono ?_
  rintro e w0 ⟨v0, rfl, hB0, hk0⟩
  refine hK _ _ rfl (Free.KeepsP.of hk0 (by simp)) ?_
  clear hK K hc hB
  have hB := Lib.hid hB0
  replace hkr := Lib.hid (hkr.out.trans hk0)
  clear hB0 hk0
  (repeat (first | (apply Free.cw_pure rfl rfl; (intro w'; go_simp <;> exact rfl); go_frame) | (apply Free.cw_steady rfl rfl rfl; (intro w' hS; have q0 := Free.sx_cell hS i0 (fun _ _ hT => hT); have q1 := Free.sx_cell hS i1 (fun _ _ hT => hT); have q2 := Free.sx_cell hS i2 (fun _ _ hT => hT); go_simp <;> exact rfl); go_frame) | (refine Free.cw_skip rfl ?_; go_frame)))
  refine Free.cw_loud rfl rfl (fun K hK => ?_)
  have hc := pU_c _ _ l0 x1 hB.out hx1 (by omega)
  obtain ⟨l1, hl1⟩ : ∃ y, l0 ++ encU x1 = y := ⟨_, rfl⟩
  rw [hl1] at hc
  have hn1 : l1.length ≤ l0.length + 9 := by rw [← hl1, List.length_append]; have := encU_len (n := x1) hx1; omega
  replace hc := Lib.hid hc
  replace hl1 := Lib.hid hl1
  go_wp2_with fail
  refine hc.out.mono ?_
  rintro e w1 ⟨v1, rfl, hB1, hk1⟩
  refine hK _ _ rfl (Free.KeepsP.of hk1 (by simp)) ?_
  clear hK K hc hB
  have hB := Lib.hid hB1
  replace hkr := Lib.hid (hkr.out.trans hk1)
  clear hB1 hk1
  (repeat (first | (apply Free.cw_pure rfl rfl; (intro w'; go_simp <;> exact rfl); go_frame) | (apply Free.cw_steady rfl rfl rfl; (intro w' hS; have q0 := Free.sx_cell hS i0 (fun _ _ hT => hT); have q1 := Free.sx_cell hS i1 (fun _ _ hT => hT); have q2 := Free.sx_cell hS i2 (fun _ _ hT => hT); go_simp <;> exact rfl); go_frame) | (refine Free.cw_skip rfl ?_; go_frame)))
  refine Free.cw_loud rfl rfl (fun K hK => ?_)
  have hc := pI_c _ _ l1 x2 hB.out hx2 (by omega)
  obtain ⟨l2, hl2⟩ : ∃ y, l1 ++ encI x2 = y := ⟨_, rfl⟩
  rw [hl2] at hc
  have hn2 : l2.length ≤ l1.length + 9 := by rw [← hl2, List.length_append]; have := encI_len hx2; omega
  replace hc := Lib.hid hc
  replace hl2 := Lib.hid hl2
  go_wp2_with fail
  refine hc.out.mono ?_
  rintro e w2 ⟨v2, rfl, hB2, hk2⟩
  refine hK _ _ rfl (Free.KeepsP.of hk2 (by simp)) ?_
  clear hK K hc hB
  have hB := Lib.hid hB2
  replace hkr := Lib.hid (hkr.out.trans hk2)
  clear hB2 hk2
  (repeat (apply Free.cw_pure rfl rfl; (intro w'; go_simp <;> exact rfl); go_frame))
  refine Free.cw_nil ?_
  go_wp2
  go_ret
  exact ⟨_, rfl, by rw [← hres.out l2 (by rw [← hl2.out, ← hl1.out, ← hl0.out])]; exact hB.out, hkA.out.trans hkr.out⟩
set_option maxRecDepth 100000 in
set_option maxHeartbeats 4000000 in
theorem pNs_c (w : World) (v : Value) (l : List UInt8) (vl : Value) (L : List T3) (hR : shT.R w vl L) (hf : ∀ x ∈ L, T3.Fit x) (h : SlB w v l) (hl : l.length + 30 * L.length ≤ 140737488354800) :
    Calls Try.prog 36 #[v, vl] w fun e w' => ∃ v', e = .returned v' ∧ SlB w' v' (l ++ encNs L) ∧ Keeps [] w w' := by
  obtain ⟨a, c, rfl, hlc, hcm, _⟩ := hR.form
  obtain ⟨M, hM⟩ : ∃ N, L.length = N := ⟨_, rfl⟩
  rw [hM] at hlc hl hR ⊢
  have hB := Lib.hid h
  have hwM : IntKind.u64.wrap (M : Int) = M := by rw [IntKind.wrap_u64]; omega
  replace hM := Lib.hid hM
  replace hR := Lib.hid hR
  replace hf := Lib.hid hf
  clear h
  go_enter Try.func36, Try.ntmps36
  have hc := pU_c _ _ l M hB.out (by omega) (by omega)
  obtain ⟨la, hla⟩ : ∃ y, l ++ encU M = y := ⟨_, rfl⟩
  rw [hla] at hc
  have hna : la.length ≤ l.length + 9 := by rw [← hla, List.length_append]; have := encU_len (n := M) (by omega); omega
  replace hc := Lib.hid hc
  replace hla := Lib.hid hla
  go_wp2_with fail
  refine hc.out.mono ?_
  rintro e wa ⟨va, rfl, hBa, hka⟩
  clear hc hB
  have hB := Lib.hid hBa
  have hkr := Lib.hid hka
  clear hBa hka
  have hkA := hkr
  clear hkr
  go_wp2
  go_loopw [0, 5] (fun bv i wr => ∃ (k : Nat) (lk : List UInt8), i = .int .i64 k ∧ k ≤ M ∧ Hid (SlB wr bv lk) ∧ Hid (lk = la ++ encXs (L.take k)) ∧ Hid (lk.length ≤ la.length + 27 * k) ∧ Hid (Keeps [] wa wr)) (fun _ i _ => M - (intOf i).toNat)
  case atStart => exact ⟨0, la, rfl, by omega, hB, Lib.hid (by simp [encXs]), Lib.hid (by omega), Lib.hid (Keeps.refl _ _)⟩
  case round =>
    clear hB
    obtain ⟨k, lk, rfl, hk, hB, hlk, hlen, hkw⟩ := hrel
    by_cases hlt : k < M
    · have hlt2 : (k : Int) < M := by omega
      have hkl : k < L.length := by rw [hM.out]; exact hlt
      obtain ⟨g, o, c', hv, he⟩ := (hR.out.keeps (hkA.out.trans hkw.out)).elem hkl
      rw [hM.out] at hv
      cases hv
      have hfx := hf.out _ (List.getElem_mem hkl)
      have hsucc := encXs_take L k hkl
      obtain ⟨⟨n0, n1, n2⟩, hz⟩ : ∃ z, L[k] = z := ⟨_, rfl⟩
      rw [hz] at he hfx hsucc
      have t0 := he 0 _ rfl
      have t1 := he 1 _ rfl
      have t2 := he 2 _ rfl
      simp only [shT, Nat.add_zero] at t0 t1 t2
      have hlen2 := hlen.out
      replace hz := Lib.hid hz
      replace hfx := Lib.hid hfx
      replace hsucc := Lib.hid hsucc
      clear he
      have hc := pN_c _ _ lk (n0, n1, n2) hB.out hfx.out (by omega)
      obtain ⟨lb, hlb⟩ : ∃ y, lk ++ encX (n0, n1, n2) = y := ⟨_, rfl⟩
      rw [hlb] at hc
      have hnb : lb.length ≤ lk.length + 27 := by rw [← hlb, List.length_append]; have := encX_len hfx.out.ins; omega
      simp only [tV] at hc
      replace hc := Lib.hid hc
      replace hlb := Lib.hid hlb
      go_wp2_with fail
      refine hc.out.mono ?_
      rintro e wb ⟨vb, rfl, hBb, hkb⟩
      clear hc hB
      have hB := Lib.hid hBb
      have hkr := Lib.hid hkb
      clear hBb hkb
      have hlb2 : Hid (lb = la ++ encXs (L.take (k + 1))) := Lib.hid (by rw [← hlb.out, hlk.out, hsucc.out, List.append_assoc])
      have hlb3 : Hid (lb.length ≤ la.length + 27 * (k + 1)) := Lib.hid (by omega)
      have hkz := Lib.hid (hkw.out.trans hkr.out)
      go_wp2
      go_roundw
      case rel => exact ⟨k + 1, lb, rfl, by omega, hB, hlb2, hlb3, hkz⟩
      case measure => simp [intOf]; omega
    · have hlt2 : ¬ ((k : Int) < M) := by omega
      have hkM : k = L.length := by have := hM.out; omega
      have hres : Hid (lk = l ++ encNs L) := Lib.hid (by rw [hlk.out, ← hla.out, hkM, List.take_length]; unfold encNs; rw [hM.out, List.append_assoc])
      replace hkM := Lib.hid hkM
      go_wp2
      go_ret
      exact ⟨_, rfl, by rw [← hres.out]; exact hB.out, hkA.out.trans hkw.out⟩
theorem encNs_len {L : List T3} (h : ∀ x ∈ L, T3.Fit x) (hl : L.length < 18446744073709551616) : (encNs L).length ≤ 9 + 27 * L.length := by
  unfold encNs
  rw [List.length_append]
  have h1 := encU_len (n := L.length) hl
  have h2 := encXs_len (L := L) (fun x hx => (h x hx).ins)
  omega
set_option maxRecDepth 100000 in
set_option maxHeartbeats 16000000 in
theorem encodeS_c (w : World) (x : CtV) (c : Ct) (h : CtW w x c) (hf : c.Fit) (hw : c.wt ≤ 140737488354000) :
    Calls Try.prog 12 #[ctV x] w fun e w' => ∃ v', e = .returned v' ∧ SlB w' v' (encCt c) ∧ Keeps [] w w' := by
  have hf0 := hf.im
  have hf1 := hf.is
  have hf2 := hf.st
  have him := h.im
  have his := h.is
  have hs0 := h.s0
  have hs1 := h.s1
  have hs2 := h.s2
  have han := h.an
  have hcl := h.cl
  obtain ⟨x0, x1, x2, x3, x4, ⟨x5, x6, x7⟩, ⟨x8, x9, x10⟩⟩ := x
  simp only [slv] at han hcl
  simp only at him his hs0 hs1 hs2
  obtain ⟨_, _, e1, hla, hca⟩ := han.form
  obtain ⟨_, _, e2, hlc, hcc⟩ := hcl.form
  simp only [Value.slice.injEq] at e1 e2
  obtain ⟨-, e1, -⟩ := e1
  obtain ⟨-, e2, -⟩ := e2
  have hx6 : x6 ≤ 9223372036854775807 := by unfold maxLen at hca; omega
  have hx9 : x9 ≤ 9223372036854775807 := by unfold maxLen at hcc; omega
  have hw6 : IntKind.u64.wrap (x6 : Int) = x6 := by rw [IntKind.wrap_u64]; omega
  have hw9 : IntKind.u64.wrap (x9 : Int) = x9 := by rw [IntKind.wrap_u64]; omega
  have hkA := (Keeps.refl [] w).alloc (.cells #[.int .i64 x0, .int .i64 x1, .int .i64 x2, .int .u64 x3, .int .i64 x4, .slice x5 x6 x7, .slice x8 x9 x10] tCt)
  have hA := heap_alloc_new w (.cells #[.int .i64 x0, .int .i64 x1, .int .i64 x2, .int .u64 x3, .int .i64 x4, .slice x5 x6 x7, .slice x8 x9 x10] tCt)
  have hst : c.st = (x2, x3, x4) := Prod.ext hs0.symm (Prod.ext hs1.symm hs2.symm)
  rw [← him] at hf0
  rw [← his] at hf1
  rw [hst] at hf2
  have henc : encCt c = encI x0 ++ encI x1 ++ encX (x2, x3, x4) ++ encU x6 ++ encH c.an ++ encU x9 ++ encPs c.cl := by unfold encCt; rw [him, his, hst, e1, e2]
  rw [henc]
  have hwA := fun k => sum_takeLe wA c.an k
  have hwP := fun k => sum_takeLe wP c.cl k
  unfold Ct.wt at hw
  obtain ⟨SA, hSA⟩ : ∃ n, (c.an.map wA).sum = n := ⟨_, rfl⟩
  obtain ⟨SP, hSP⟩ : ∃ n, (c.cl.map wP).sum = n := ⟨_, rfl⟩
  rw [hSA] at hw hwA
  rw [hSP] at hw hwP
  have hB : Hid (SlB (w.alloc (.cells #[.int .i64 x0, .int .i64 x1, .int .i64 x2, .int .u64 x3, .int .i64 x4, .slice x5 x6 x7, .slice x8 x9 x10] tCt)) (.slice none 0 0) []) := Lib.hid (SlB.nil _)
  have hnil : ([] : List UInt8).length = 0 := rfl
  replace hf0 := Lib.hid hf0
  replace hf1 := Lib.hid hf1
  replace hf2 := Lib.hid hf2
  replace han := Lib.hid han
  replace hcl := Lib.hid hcl
  replace e1 := Lib.hid e1
  replace e2 := Lib.hid e2
  replace hkA := Lib.hid hkA
  replace hA := Lib.hid hA
  replace hf := Lib.hid hf
  replace hwA := Lib.hid hwA
  replace hwP := Lib.hid hwP
  replace hSA := Lib.hid hSA
  replace hSP := Lib.hid hSP
  clear h him his hs0 hs1 hs2 hst henc
  simp only [ctV, slv]
  go_enter Try.func12, Try.ntmps12
  go_upto_region 1 with fail
  generalize (w.alloc (.cells #[.int .i64 x0, .int .i64 x1, .int .i64 x2, .int .u64 x3, .int .i64 x4, .slice x5 x6 x7, .slice x8 x9 x10] tCt)) = W at *
  obtain ⟨B, hBB⟩ : ∃ B, w.heap.size = B := ⟨_, rfl⟩
  rw [hBB] at hA ⊢
  replace hBB := Lib.hid hBB
  obtain ⟨i0, i1, i2, i3, i4, i5, i6, if', il⟩ := cl7 hA.out
  refine Free.wp_region_chain (fun i => i == 3 || i == 7 || i == 10) (fun i => true) (fun _ _ => False) (by kernel_rfl) (by kernel_rfl) (by kernel_rfl) ?_
  have hkr := Lib.hid ((Keeps.refl [] W).drew)
  replace hB := Lib.hid (hB.out.keeps (Keeps.refl [] W).drew)
  (repeat (first | (apply Free.cw_pure rfl rfl; (intro w'; go_simp <;> exact rfl); go_frame) | (apply Free.cw_steady rfl rfl rfl; (intro w' hS; have q0 := Free.sx_cell hS i0 (fun _ _ hT => hT); have q1 := Free.sx_cell hS i1 (fun _ _ hT => hT); have q2 := Free.sx_cell hS i2 (fun _ _ hT => hT); have q3 := Free.sx_cell hS i3 (fun _ _ hT => hT); have q4 := Free.sx_cell hS i4 (fun _ _ hT => hT); have q5 := Free.sx_cell hS i5 (fun _ _ hT => hT); have q6 := Free.sx_cell hS i6 (fun _ _ hT => hT); go_simp <;> exact rfl); go_frame) | (refine Free.cw_skip rfl ?_; go_frame)))
  refine Free.cw_loud rfl rfl (fun K hK => ?_)
  have hc := pI_c _ _ ([] : List UInt8) x0 hB.out hf0.out (by omega)
  obtain ⟨la0, hla0⟩ : ∃ y, ([] : List UInt8) ++ encI x0 = y := ⟨_, rfl⟩
  rw [hla0] at hc
  have hna0 : la0.length ≤ ([] : List UInt8).length + 9 := by rw [← hla0, List.length_append]; have := encI_len hf0.out; omega
  replace hc := Lib.hid hc
  replace hla0 := Lib.hid hla0
  go_wp2_with fail
  refine hc.out.mono ?_
  rintro e wa0 ⟨va0, rfl, hBa0, hka0⟩
  refine hK _ _ rfl (Free.KeepsP.of hka0 (by simp)) ?_
  clear hK K hc hB
  have hB := Lib.hid hBa0
  replace hkr := Lib.hid (hkr.out.trans hka0)
  clear hBa0 hka0
  (repeat (first | (apply Free.cw_pure rfl rfl; (intro w'; go_simp <;> exact rfl); go_frame) | (apply Free.cw_steady rfl rfl rfl; (intro w' hS; have q0 := Free.sx_cell hS i0 (fun _ _ hT => hT); have q1 := Free.sx_cell hS i1 (fun _ _ hT => hT); have q2 := Free.sx_cell hS i2 (fun _ _ hT => hT); have q3 := Free.sx_cell hS i3 (fun _ _ hT => hT); have q4 := Free.sx_cell hS i4 (fun _ _ hT => hT); have q5 := Free.sx_cell hS i5 (fun _ _ hT => hT); have q6 := Free.sx_cell hS i6 (fun _ _ hT => hT); go_simp <;> exact rfl); go_frame) | (refine Free.cw_skip rfl ?_; go_frame)))
  refine Free.cw_loud rfl rfl (fun K hK => ?_)
  have hc := pI_c _ _ la0 x1 hB.out hf1.out (by omega)
  obtain ⟨la1, hla1⟩ : ∃ y, la0 ++ encI x1 = y := ⟨_, rfl⟩
  rw [hla1] at hc
  have hna1 : la1.length ≤ la0.length + 9 := by rw [← hla1, List.length_append]; have := encI_len hf1.out; omega
  replace hc := Lib.hid hc
  replace hla1 := Lib.hid hla1
  go_wp2_with fail
  refine hc.out.mono ?_
  rintro e wa1 ⟨va1, rfl, hBa1, hka1⟩
  refine hK _ _ rfl (Free.KeepsP.of hka1 (by simp)) ?_
  clear hK K hc hB
  have hB := Lib.hid hBa1
  replace hkr := Lib.hid (hkr.out.trans hka1)
  clear hBa1 hka1
  (repeat (first | (apply Free.cw_pure rfl rfl; (intro w'; go_simp <;> exact rfl); go_frame) | (apply Free.cw_steady rfl rfl rfl; (intro w' hS; have q0 := Free.sx_cell hS i0 (fun _ _ hT => hT); have q1 := Free.sx_cell hS i1 (fun _ _ hT => hT); have q2 := Free.sx_cell hS i2 (fun _ _ hT => hT); have q3 := Free.sx_cell hS i3 (fun _ _ hT => hT); have q4 := Free.sx_cell hS i4 (fun _ _ hT => hT); have q5 := Free.sx_cell hS i5 (fun _ _ hT => hT); have q6 := Free.sx_cell hS i6 (fun _ _ hT => hT); go_simp <;> exact rfl); go_frame) | (refine Free.cw_skip rfl ?_; go_frame)))
  refine Free.cw_loud rfl rfl (fun K hK => ?_)
  have hc := pN_c _ _ la1 (x2, x3, x4) hB.out hf2.out (by omega)
  obtain ⟨la2, hla2⟩ : ∃ y, la1 ++ encX (x2, x3, x4) = y := ⟨_, rfl⟩
  rw [hla2] at hc
  have hna2 : la2.length ≤ la1.length + 27 := by rw [← hla2, List.length_append]; have := encX_len hf2.out.ins; omega
  simp only [tV] at hc
  replace hc := Lib.hid hc
  replace hla2 := Lib.hid hla2
  go_wp2_with fail
  refine hc.out.mono ?_
  rintro e wa2 ⟨va2, rfl, hBa2, hka2⟩
  refine hK _ _ rfl (Free.KeepsP.of hka2 (by simp)) ?_
  clear hK K hc hB
  have hB := Lib.hid hBa2
  replace hkr := Lib.hid (hkr.out.trans hka2)
  clear hBa2 hka2
  (repeat (apply Free.cw_pure rfl rfl; (intro w'; go_simp <;> exact rfl); go_frame))
  refine Free.cw_nil ?_
  replace hA := Lib.hid ((hkr.out.block _ (lt_of_blk hA.out) (by simp)).trans hA.out)
  replace hkA := Lib.hid (hkA.out.trans hkr.out)
  clear i0 i1 i2 i3 i4 i5 i6 if' il hkr
  obtain ⟨i0, i1, i2, i3, i4, i5, i6, if', il⟩ := cl7 hA.out
  have hc := pU_c _ _ la2 x6 hB.out (by omega) (by omega)
  obtain ⟨lb, hlb⟩ : ∃ y, la2 ++ encU x6 = y := ⟨_, rfl⟩
  rw [hlb] at hc
  have hnb : lb.length ≤ la2.length + 9 := by rw [← hlb, List.length_append]; have := encU_len (n := x6) (by omega); omega
  replace hc := Lib.hid hc
  replace hlb := Lib.hid hlb
  go_wp2_with fail
  refine hc.out.mono ?_
  rintro e wb ⟨vb, rfl, hBb, hkb⟩
  clear hc hB
  have hB := Lib.hid hBb
  have hkr := Lib.hid hkb
  clear hBb hkb
  replace hA := Lib.hid ((hkr.out.block _ (lt_of_blk hA.out) (by simp)).trans hA.out)
  replace hkA := Lib.hid (hkA.out.trans hkr.out)
  clear i0 i1 i2 i3 i4 i5 i6 if' il hkr
  have hlb2 : Hid (lb = encI x0 ++ encI x1 ++ encX (x2, x3, x4) ++ encU x6) := Lib.hid (by rw [← hlb.out, ← hla2.out, ← hla1.out, ← hla0.out, List.nil_append])
  have hlb100 : lb.length ≤ 60 := by omega
  go_wp2
  go_loopw [3, 4] (fun bv i wr => ∃ (k : Nat) (lk : List UInt8), i = .int .i64 k ∧ k ≤ x6 ∧ Hid (SlB wr bv lk) ∧ Hid (lk = lb ++ encH (c.an.take k)) ∧ Hid (lk.length ≤ 60 + ((c.an.take k).map wA).sum) ∧ Hid (Keeps [] wb wr)) (fun _ i _ => x6 - (intOf i).toNat)
  case atStart => exact ⟨0, lb, rfl, by omega, hB, Lib.hid (by simp [encH]), Lib.hid (by simp; omega), Lib.hid (Keeps.refl _ _)⟩
  case round =>
    clear hB
    obtain ⟨k, lk, rfl, hk, hB, hlk, hlen, hkw⟩ := hrel
    have hAr := (hkw.out.block _ (lt_of_blk hA.out) (by simp)).trans hA.out
    obtain ⟨i0, i1, i2, i3, i4, i5, i6, if', il⟩ := cl7 hAr
    have hkF := Lib.hid (hkA.out.trans hkw.out)
    by_cases hlt : k < x6
    · have hlt2 : (k : Int) < x6 := by omega
      have hkl : k < c.an.length := by rw [← e1.out]; exact hlt
      have hsucc := encH_take c.an k hkl
      have hsum := sum_succ wA c.an k hkl
      have hsum2 := hwA.out (k + 1)
      obtain ⟨g, o, c', y, hv, hy, he⟩ := han.out.elem hkl
      rw [← e1.out] at hv
      cases hv
      have haf := hf.out.an _ (List.getElem_mem hkl)
      obtain ⟨a, ha⟩ : ∃ a, c.an[k] = a := ⟨_, rfl⟩
      rw [ha] at hy hsucc hsum haf
      obtain ⟨_, _, ev, hl1, hl2, _⟩ := hy.ins.form
      have hins := hy.ins
      have m0 := hy.m
      have m1 := hy.ow
      have m2 := hy.n
      have m3 := hy.ep
      have m4 := hy.kn
      have m5 := hy.rt
      have m6 := hy.lu
      have ha0 := haf.q.1
      have ha1 := haf.q.2.1
      have ha2 := haf.q.2.2
      have ha3 := haf.ep
      have ha6 := haf.lu
      obtain ⟨y0, y1, y2, y3, y4, y5, y6, y7, y8, y9⟩ := y
      simp only [AnV.v] at ev hins
      simp only at m0 m1 m2 m3 m4 m5 m6
      simp only [Value.slice.injEq] at ev
      obtain ⟨-, ev, -⟩ := ev
      simp only [Ans.q] at ha0 ha1 ha2
      rw [← m0] at ha0
      rw [← m1] at ha1
      rw [← m2] at ha2
      rw [← m3] at ha3
      rw [← m6] at ha6
      have henA : encA a = encI y0 ++ encI y1 ++ encU y2 ++ encI y3 ++ encB y4 ++ encB y5 ++ encI y6 ++ encU y8 ++ encXs a.ins := by unfold encA encA0; rw [m0, m1, m2, m3, m4, m5, m6, ev]
      have hwa : wA a = 100 + 30 * y8 := by unfold wA; rw [ev]
      have hy8 : y8 ≤ 9223372036854775807 := by unfold maxLen at hl2; omega
      have hw8 : IntKind.u64.wrap (y8 : Int) = y8 := by rw [IntKind.wrap_u64]; omega
      rw [hwa] at hsum
      have e0 := hkF.out.val (he 0 _ rfl)
      have e1' := hkF.out.val (he 1 _ rfl)
      have e2' := hkF.out.val (he 2 _ rfl)
      have e3 := hkF.out.val (he 3 _ rfl)
      have e4 := hkF.out.val (he 4 _ rfl)
      have e5 := hkF.out.val (he 5 _ rfl)
      have e6 := hkF.out.val (he 6 _ rfl)
      have e7 := hkF.out.val (he 7 _ rfl)
      simp only [AnV.v, Nat.add_zero] at e0 e1' e2' e3 e4 e5 e6 e7
      have hbN := heap_alloc_new wr (.cells #[.int .i64 y0, .int .i64 y1, .int .u64 y2, .int .i64 y3, .bool y4, .bool y5, .int .i64 y6, .slice y7 y8 y9] tA)
      have hka := (Keeps.refl [] wr).alloc (.cells #[.int .i64 y0, .int .i64 y1, .int .u64 y2, .int .i64 y3, .bool y4, .bool y5, .int .i64 y6, .slice y7 y8 y9] tA)
      have hkn := Lib.hid (hkw.out.trans hka)
      have hkG := Lib.hid (hkF.out.trans hka)
      obtain ⟨SK, hSK⟩ : ∃ n, ((c.an.take k).map wA).sum = n := ⟨_, rfl⟩
      obtain ⟨SK1, hSK1⟩ : ∃ n, ((c.an.take (k + 1)).map wA).sum = n := ⟨_, rfl⟩
      rw [hSK] at hlen hsum
      rw [hSK1] at hsum hsum2
      have hlen2 := hlen.out
      have hsb : SK + (100 + 30 * y8) ≤ SA := by omega
      replace hB := Lib.hid (hB.out.keeps hka)
      replace ha := Lib.hid ha
      replace ev := Lib.hid ev
      replace hins := Lib.hid hins
      replace ha0 := Lib.hid ha0
      replace ha1 := Lib.hid ha1
      replace ha2 := Lib.hid ha2
      replace ha3 := Lib.hid ha3
      replace ha6 := Lib.hid ha6
      replace haf := Lib.hid haf
      replace henA := Lib.hid henA
      replace hsucc := Lib.hid hsucc
      replace hsum := Lib.hid hsum
      replace hSK := Lib.hid hSK
      replace hSK1 := Lib.hid hSK1
      replace hbN := Lib.hid hbN
      clear he hy hka hl1 hl2 m0 m1 m2 m3 m4 m5 m6 hsum2 hwa
      go_upto_region 7 with fail
      generalize (wr.alloc (.cells #[.int .i64 y0, .int .i64 y1, .int .u64 y2, .int .i64 y3, .bool y4, .bool y5, .int .i64 y6, .slice y7 y8 y9] tA)) = WN at *
      obtain ⟨XN, hXN⟩ : ∃ X, wr.heap.size = X := ⟨_, rfl⟩
      rw [hXN] at hbN ⊢
      replace hXN := Lib.hid hXN
      clear i0 i1 i2 i3 i4 i5 i6 if' il e0 e1' e2' e3 e4 e5 e6 e7
      obtain ⟨e0, e1', e2, e3, e4, e5, e6, e7, ef, el⟩ := cl8 hbN.out
      refine Free.wp_region_chain (fun i => i == 3 || i == 6 || i == 9) (fun i => true) (fun _ _ => False) (by kernel_rfl) (by kernel_rfl) (by kernel_rfl) ?_
      have hkr := Lib.hid ((Keeps.refl [] WN).drew)
      replace hB := Lib.hid (hB.out.keeps (Keeps.refl [] WN).drew)
      (repeat (first | (apply Free.cw_pure rfl rfl; (intro w'; go_simp <;> exact rfl); go_frame) | (apply Free.cw_steady rfl rfl rfl; (intro w' hS; have q0 := Free.sx_cell hS e0 (fun _ _ hT => hT); have q1 := Free.sx_cell hS e1' (fun _ _ hT => hT); have q2 := Free.sx_cell hS e2 (fun _ _ hT => hT); have q3 := Free.sx_cell hS e3 (fun _ _ hT => hT); have q4 := Free.sx_cell hS e4 (fun _ _ hT => hT); have q5 := Free.sx_cell hS e5 (fun _ _ hT => hT); have q6 := Free.sx_cell hS e6 (fun _ _ hT => hT); have q7 := Free.sx_cell hS e7 (fun _ _ hT => hT); go_simp <;> exact rfl); go_frame) | (refine Free.cw_skip rfl ?_; go_frame)))
      refine Free.cw_loud rfl rfl (fun K hK => ?_)
      have hc := pI_c _ _ lk y0 hB.out ha0.out (by omega)
      obtain ⟨lc0, hlc0⟩ : ∃ y, lk ++ encI y0 = y := ⟨_, rfl⟩
      rw [hlc0] at hc
      have hnc0 : lc0.length ≤ lk.length + 9 := by rw [← hlc0, List.length_append]; have := encI_len ha0.out; omega
      replace hc := Lib.hid hc
      replace hlc0 := Lib.hid hlc0
      go_wp2_with fail
      refine hc.out.mono ?_
      rintro e wc0 ⟨vc0, rfl, hBc0, hkc0⟩
      refine hK _ _ rfl (Free.KeepsP.of hkc0 (by simp)) ?_
      clear hK K hc hB
      have hB := Lib.hid hBc0
      replace hkr := Lib.hid (hkr.out.trans hkc0)
      clear hBc0 hkc0
      (repeat (first | (apply Free.cw_pure rfl rfl; (intro w'; go_simp <;> exact rfl); go_frame) | (apply Free.cw_steady rfl rfl rfl; (intro w' hS; have q0 := Free.sx_cell hS e0 (fun _ _ hT => hT); have q1 := Free.sx_cell hS e1' (fun _ _ hT => hT); have q2 := Free.sx_cell hS e2 (fun _ _ hT => hT); have q3 := Free.sx_cell hS e3 (fun _ _ hT => hT); have q4 := Free.sx_cell hS e4 (fun _ _ hT => hT); have q5 := Free.sx_cell hS e5 (fun _ _ hT => hT); have q6 := Free.sx_cell hS e6 (fun _ _ hT => hT); have q7 := Free.sx_cell hS e7 (fun _ _ hT => hT); go_simp <;> exact rfl); go_frame) | (refine Free.cw_skip rfl ?_; go_frame)))
      refine Free.cw_loud rfl rfl (fun K hK => ?_)
      have hc := pI_c _ _ lc0 y1 hB.out ha1.out (by omega)
      obtain ⟨lc1, hlc1⟩ : ∃ y, lc0 ++ encI y1 = y := ⟨_, rfl⟩
      rw [hlc1] at hc
      have hnc1 : lc1.length ≤ lc0.length + 9 := by rw [← hlc1, List.length_append]; have := encI_len ha1.out; omega
      replace hc := Lib.hid hc
      replace hlc1 := Lib.hid hlc1
      go_wp2_with fail
      refine hc.out.mono ?_
      rintro e wc1 ⟨vc1, rfl, hBc1, hkc1⟩
      refine hK _ _ rfl (Free.KeepsP.of hkc1 (by simp)) ?_
      clear hK K hc hB
      have hB := Lib.hid hBc1
      replace hkr := Lib.hid (hkr.out.trans hkc1)
      clear hBc1 hkc1
      (repeat (first | (apply Free.cw_pure rfl rfl; (intro w'; go_simp <;> exact rfl); go_frame) | (apply Free.cw_steady rfl rfl rfl; (intro w' hS; have q0 := Free.sx_cell hS e0 (fun _ _ hT => hT); have q1 := Free.sx_cell hS e1' (fun _ _ hT => hT); have q2 := Free.sx_cell hS e2 (fun _ _ hT => hT); have q3 := Free.sx_cell hS e3 (fun _ _ hT => hT); have q4 := Free.sx_cell hS e4 (fun _ _ hT => hT); have q5 := Free.sx_cell hS e5 (fun _ _ hT => hT); have q6 := Free.sx_cell hS e6 (fun _ _ hT => hT); have q7 := Free.sx_cell hS e7 (fun _ _ hT => hT); go_simp <;> exact rfl); go_frame) | (refine Free.cw_skip rfl ?_; go_frame)))
      refine Free.cw_loud rfl rfl (fun K hK => ?_)
      have hc := pU_c _ _ lc1 y2 hB.out ha2.out (by omega)
      obtain ⟨lc2, hlc2⟩ : ∃ y, lc1 ++ encU y2 = y := ⟨_, rfl⟩
      rw [hlc2] at hc
      have hnc2 : lc2.length ≤ lc1.length + 9 := by rw [← hlc2, List.length_append]; have := encU_len (n := y2) ha2.out; omega
      replace hc := Lib.hid hc
      replace hlc2 := Lib.hid hlc2
      go_wp2_with fail
      refine hc.out.mono ?_
      rintro e wc2 ⟨vc2, rfl, hBc2, hkc2⟩
      refine hK _ _ rfl (Free.KeepsP.of hkc2 (by simp)) ?_
      clear hK K hc hB
      have hB := Lib.hid hBc2
      replace hkr := Lib.hid (hkr.out.trans hkc2)
      clear hBc2 hkc2
      (repeat (apply Free.cw_pure rfl rfl; (intro w'; go_simp <;> exact rfl); go_frame))
      refine Free.cw_nil ?_
      replace hbN := Lib.hid ((hkr.out.block _ (lt_of_blk hbN.out) (by simp)).trans hbN.out)
      replace hkn := Lib.hid (hkn.out.trans hkr.out)
      replace hkG := Lib.hid (hkG.out.trans hkr.out)
      clear e0 e1' e2 e3 e4 e5 e6 e7 ef el hkr
      obtain ⟨e0, e1', e2, e3, e4, e5, e6, e7, ef, el⟩ := cl8 hbN.out
      go_upto_region 8 with fail
      refine Free.wp_region_chain (fun i => i == 3 || i == 6 || i == 9) (fun i => true) (fun _ _ => False) (by kernel_rfl) (by kernel_rfl) (by kernel_rfl) ?_
      have hkr := Lib.hid ((Keeps.refl [] wc2).drew)
      replace hB := Lib.hid (hB.out.keeps (Keeps.refl [] wc2).drew)
      (repeat (first | (apply Free.cw_pure rfl rfl; (intro w'; go_simp <;> exact rfl); go_frame) | (apply Free.cw_steady rfl rfl rfl; (intro w' hS; have q0 := Free.sx_cell hS e0 (fun _ _ hT => hT); have q1 := Free.sx_cell hS e1' (fun _ _ hT => hT); have q2 := Free.sx_cell hS e2 (fun _ _ hT => hT); have q3 := Free.sx_cell hS e3 (fun _ _ hT => hT); have q4 := Free.sx_cell hS e4 (fun _ _ hT => hT); have q5 := Free.sx_cell hS e5 (fun _ _ hT => hT); have q6 := Free.sx_cell hS e6 (fun _ _ hT => hT); have q7 := Free.sx_cell hS e7 (fun _ _ hT => hT); go_simp <;> exact rfl); go_frame) | (refine Free.cw_skip rfl ?_; go_frame)))
      refine Free.cw_loud rfl rfl (fun K hK => ?_)
      have hc := pI_c _ _ lc2 y3 hB.out ha3.out (by omega)
      obtain ⟨ld0, hld0⟩ : ∃ y, lc2 ++ encI y3 = y := ⟨_, rfl⟩
      rw [hld0] at hc
      have hnd0 : ld0.length ≤ lc2.length + 9 := by rw [← hld0, List.length_append]; have := encI_len ha3.out; omega
      replace hc := Lib.hid hc
      replace hld0 := Lib.hid hld0
      go_wp2_with fail
      refine hc.out.mono ?_
      rintro e wd0 ⟨vd0, rfl, hBd0, hkd0⟩
      refine hK _ _ rfl (Free.KeepsP.of hkd0 (by simp)) ?_
      clear hK K hc hB
      have hB := Lib.hid hBd0
      replace hkr := Lib.hid (hkr.out.trans hkd0)
      clear hBd0 hkd0
      (repeat (first | (apply Free.cw_pure rfl rfl; (intro w'; go_simp <;> exact rfl); go_frame) | (apply Free.cw_steady rfl rfl rfl; (intro w' hS; have q0 := Free.sx_cell hS e0 (fun _ _ hT => hT); have q1 := Free.sx_cell hS e1' (fun _ _ hT => hT); have q2 := Free.sx_cell hS e2 (fun _ _ hT => hT); have q3 := Free.sx_cell hS e3 (fun _ _ hT => hT); have q4 := Free.sx_cell hS e4 (fun _ _ hT => hT); have q5 := Free.sx_cell hS e5 (fun _ _ hT => hT); have q6 := Free.sx_cell hS e6 (fun _ _ hT => hT); have q7 := Free.sx_cell hS e7 (fun _ _ hT => hT); go_simp <;> exact rfl); go_frame) | (refine Free.cw_skip rfl ?_; go_frame)))
      refine Free.cw_loud rfl rfl (fun K hK => ?_)
      have hc := pB_c _ _ ld0 y4 hB.out (by omega)
      obtain ⟨ld1, hld1⟩ : ∃ y, ld0 ++ encB y4 = y := ⟨_, rfl⟩
      rw [hld1] at hc
      have hnd1 : ld1.length ≤ ld0.length + 1 := by rw [← hld1, List.length_append]; have := encB_len y4; omega
      replace hc := Lib.hid hc
      replace hld1 := Lib.hid hld1
      go_wp2_with fail
      refine hc.out.mono ?_
      rintro e wd1 ⟨vd1, rfl, hBd1, hkd1⟩
      refine hK _ _ rfl (Free.KeepsP.of hkd1 (by simp)) ?_
      clear hK K hc hB
      have hB := Lib.hid hBd1
      replace hkr := Lib.hid (hkr.out.trans hkd1)
      clear hBd1 hkd1
      (repeat (first | (apply Free.cw_pure rfl rfl; (intro w'; go_simp <;> exact rfl); go_frame) | (apply Free.cw_steady rfl rfl rfl; (intro w' hS; have q0 := Free.sx_cell hS e0 (fun _ _ hT => hT); have q1 := Free.sx_cell hS e1' (fun _ _ hT => hT); have q2 := Free.sx_cell hS e2 (fun _ _ hT => hT); have q3 := Free.sx_cell hS e3 (fun _ _ hT => hT); have q4 := Free.sx_cell hS e4 (fun _ _ hT => hT); have q5 := Free.sx_cell hS e5 (fun _ _ hT => hT); have q6 := Free.sx_cell hS e6 (fun _ _ hT => hT); have q7 := Free.sx_cell hS e7 (fun _ _ hT => hT); go_simp <;> exact rfl); go_frame) | (refine Free.cw_skip rfl ?_; go_frame)))
      refine Free.cw_loud rfl rfl (fun K hK => ?_)
      have hc := pB_c _ _ ld1 y5 hB.out (by omega)
      obtain ⟨ld2, hld2⟩ : ∃ y, ld1 ++ encB y5 = y := ⟨_, rfl⟩
      rw [hld2] at hc
      have hnd2 : ld2.length ≤ ld1.length + 1 := by rw [← hld2, List.length_append]; have := encB_len y5; omega
      replace hc := Lib.hid hc
      replace hld2 := Lib.hid hld2
      go_wp2_with fail
      refine hc.out.mono ?_
      rintro e wd2 ⟨vd2, rfl, hBd2, hkd2⟩
      refine hK _ _ rfl (Free.KeepsP.of hkd2 (by simp)) ?_
      clear hK K hc hB
      have hB := Lib.hid hBd2
      replace hkr := Lib.hid (hkr.out.trans hkd2)
      clear hBd2 hkd2
      (repeat (apply Free.cw_pure rfl rfl; (intro w'; go_simp <;> exact rfl); go_frame))
      refine Free.cw_nil ?_
      replace hbN := Lib.hid ((hkr.out.block _ (lt_of_blk hbN.out) (by simp)).trans hbN.out)
      replace hkn := Lib.hid (hkn.out.trans hkr.out)
      replace hkG := Lib.hid (hkG.out.trans hkr.out)
      clear e0 e1' e2 e3 e4 e5 e6 e7 ef el hkr
      obtain ⟨e0, e1', e2, e3, e4, e5, e6, e7, ef, el⟩ := cl8 hbN.out
      go_upto_region 9 with fail
      refine Free.wp_region_chain (fun i => i == 3 || i == 8) (fun i => true) (fun _ _ => False) (by kernel_rfl) (by kernel_rfl) (by kernel_rfl) ?_
      have hkr := Lib.hid ((Keeps.refl [] wd2).drew)
      replace hB := Lib.hid (hB.out.keeps (Keeps.refl [] wd2).drew)
      (repeat (first | (apply Free.cw_pure rfl rfl; (intro w'; go_simp <;> exact rfl); go_frame) | (apply Free.cw_steady rfl rfl rfl; (intro w' hS; have q0 := Free.sx_cell hS e0 (fun _ _ hT => hT); have q1 := Free.sx_cell hS e1' (fun _ _ hT => hT); have q2 := Free.sx_cell hS e2 (fun _ _ hT => hT); have q3 := Free.sx_cell hS e3 (fun _ _ hT => hT); have q4 := Free.sx_cell hS e4 (fun _ _ hT => hT); have q5 := Free.sx_cell hS e5 (fun _ _ hT => hT); have q6 := Free.sx_cell hS e6 (fun _ _ hT => hT); have q7 := Free.sx_cell hS e7 (fun _ _ hT => hT); go_simp <;> exact rfl); go_frame) | (refine Free.cw_skip rfl ?_; go_frame)))
      refine Free.cw_loud rfl rfl (fun K hK => ?_)
      have hc := pI_c _ _ ld2 y6 hB.out ha6.out (by omega)
      obtain ⟨le0, hle0⟩ : ∃ y, ld2 ++ encI y6 = y := ⟨_, rfl⟩
      rw [hle0] at hc
      have hne0 : le0.length ≤ ld2.length + 9 := by rw [← hle0, List.length_append]; have := encI_len ha6.out; omega
      replace hc := Lib.hid hc
      replace hle0 := Lib.hid hle0
      go_wp2_with fail
      refine hc.out.mono ?_
      rintro e we0 ⟨ve0, rfl, hBe0, hke0⟩
      refine hK _ _ rfl (Free.KeepsP.of hke0 (by simp)) ?_
      clear hK K hc hB
      have hB := Lib.hid hBe0
      replace hkr := Lib.hid (hkr.out.trans hke0)
      clear hBe0 hke0
      (repeat (first | (apply Free.cw_pure rfl rfl; (intro w'; go_simp <;> exact rfl); go_frame) | (apply Free.cw_steady rfl rfl rfl; (intro w' hS; have q0 := Free.sx_cell hS e0 (fun _ _ hT => hT); have q1 := Free.sx_cell hS e1' (fun _ _ hT => hT); have q2 := Free.sx_cell hS e2 (fun _ _ hT => hT); have q3 := Free.sx_cell hS e3 (fun _ _ hT => hT); have q4 := Free.sx_cell hS e4 (fun _ _ hT => hT); have q5 := Free.sx_cell hS e5 (fun _ _ hT => hT); have q6 := Free.sx_cell hS e6 (fun _ _ hT => hT); have q7 := Free.sx_cell hS e7 (fun _ _ hT => hT); go_simp <;> exact rfl); go_frame) | (refine Free.cw_skip rfl ?_; go_frame)))
      refine Free.cw_loud rfl rfl (fun K hK => ?_)
      have hc := pU_c _ _ le0 y8 hB.out (by omega) (by omega)
      obtain ⟨le1, hle1⟩ : ∃ y, le0 ++ encU y8 = y := ⟨_, rfl⟩
      rw [hle1] at hc
      have hne1 : le1.length ≤ le0.length + 9 := by rw [← hle1, List.length_append]; have := encU_len (n := y8) (by omega); omega
      replace hc := Lib.hid hc
      replace hle1 := Lib.hid hle1
      go_wp2_with fail
      refine hc.out.mono ?_
      rintro e we1 ⟨ve1, rfl, hBe1, hke1⟩
      refine hK _ _ rfl (Free.KeepsP.of hke1 (by simp)) ?_
      clear hK K hc hB
      have hB := Lib.hid hBe1
      replace hkr := Lib.hid (hkr.out.trans hke1)
      clear hBe1 hke1
      (repeat (apply Free.cw_pure rfl rfl; (intro w'; go_simp <;> exact rfl); go_frame))
      refine Free.cw_nil ?_
      replace hbN := Lib.hid ((hkr.out.block _ (lt_of_blk hbN.out) (by simp)).trans hbN.out)
      replace hkn := Lib.hid (hkn.out.trans hkr.out)
      replace hkG := Lib.hid (hkG.out.trans hkr.out)
      clear e0 e1' e2 e3 e4 e5 e6 e7 ef el hkr
      have hle2 : Hid (le1 = lk ++ (encI y0 ++ encI y1 ++ encU y2 ++ encI y3 ++ encB y4 ++ encB y5 ++ encI y6 ++ encU y8)) := Lib.hid (by rw [← hle1.out, ← hle0.out, ← hld2.out, ← hld1.out, ← hld0.out, ← hlc2.out, ← hlc1.out, ← hlc0.out]; simp only [List.append_assoc])
      have hle100 : le1.length ≤ 60 + SK + 60 := by omega
      clear hnc0 hnc1 hnc2 hnd0 hnd1 hnd2 hne0 hne1
      obtain ⟨e0, e1', e2, e3, e4, e5, e6, e7, ef, el⟩ := cl8 hbN.out
      go_wp2
      go_loopw [3, 6] (fun bv i wr => ∃ (q : Nat) (lq : List UInt8), i = .int .i64 q ∧ q ≤ y8 ∧ Hid (SlB wr bv lq) ∧ Hid (lq = le1 ++ encXs (a.ins.take q)) ∧ Hid (lq.length ≤ 60 + SK + 60 + 27 * q) ∧ Hid (Keeps [] we1 wr)) (fun _ i _ => y8 - (intOf i).toNat)
      case atStart => exact ⟨0, le1, rfl, by omega, hB, Lib.hid (by simp [encXs]), Lib.hid (by omega), Lib.hid (Keeps.refl _ _)⟩
      case round =>
        clear hB e0 e1' e2 e3 e4 e5 e6 e7 ef el
        obtain ⟨q, lq, rfl, hq, hB, hlq, hlenq, hkq⟩ := hrel
        have hNq := (hkq.out.block _ (lt_of_blk hbN.out) (by simp)).trans hbN.out
        obtain ⟨e0, e1', e2, e3, e4, e5, e6, e7, ef, el⟩ := cl8 hNq
        by_cases hltq : q < y8
        · have hltq2 : (q : Int) < y8 := by omega
          have hql : q < a.ins.length := by rw [← ev.out]; exact hltq
          have hsq := encXs_take a.ins q hql
          have hfx := haf.out.ins _ (List.getElem_mem hql)
          obtain ⟨gi, oi, ci, hvi, hei⟩ := (hins.out.keeps (hkG.out.trans hkq.out)).elem hql
          rw [← ev.out] at hvi
          cases hvi
          obtain ⟨⟨n0, n1, n2⟩, hz⟩ : ∃ z, a.ins[q] = z := ⟨_, rfl⟩
          rw [hz] at hei hsq hfx
          have t0 := hei 0 _ rfl
          have t1 := hei 1 _ rfl
          have t2 := hei 2 _ rfl
          simp only [shT, Nat.add_zero] at t0 t1 t2
          have hbI := heap_alloc_new wr (.cells #[.int .i64 n0, .int .u64 n1, .int .i64 n2] tI)
          have hkI := (Keeps.refl [] wr).alloc (.cells #[.int .i64 n0, .int .u64 n1, .int .i64 n2] tI)
          have hkqI := Lib.hid (hkq.out.trans hkI)
          replace hB := Lib.hid (hB.out.keeps hkI)
          have hlenq2 := hlenq.out
          replace hbI := Lib.hid hbI
          replace hz := Lib.hid hz
          replace hsq := Lib.hid hsq
          have hfx0 : Hid (W64 n0) := Lib.hid hfx.1
          have hfx1 : Hid (n1 < 18446744073709551616) := Lib.hid hfx.2.1
          have hfx2 : Hid (W64 n2) := Lib.hid hfx.2.2
          clear hfx
          clear hei hkI
          go_upto_region 14 with fail
          generalize (wr.alloc (.cells #[.int .i64 n0, .int .u64 n1, .int .i64 n2] tI)) = WI at *
          obtain ⟨XI, hXI⟩ : ∃ X, wr.heap.size = X := ⟨_, rfl⟩
          rw [hXI] at hbI ⊢
          replace hXI := Lib.hid hXI
          clear t0 t1 t2 e0 e1' e2 e3 e4 e5 e6 e7 ef el
          obtain ⟨t0, t1, t2, tf, tl⟩ := cl3 hbI.out
          refine Free.wp_region_chain (fun i => i == 3 || i == 6 || i == 9) (fun i => true) (fun _ _ => False) (by kernel_rfl) (by kernel_rfl) (by kernel_rfl) ?_
          have hkr := Lib.hid ((Keeps.refl [] WI).drew)
          replace hB := Lib.hid (hB.out.keeps (Keeps.refl [] WI).drew)
          (repeat (first | (apply Free.cw_pure rfl rfl; (intro w'; go_simp <;> exact rfl); go_frame) | (apply Free.cw_steady rfl rfl rfl; (intro w' hS; have q0 := Free.sx_cell hS t0 (fun _ _ hT => hT); have q1 := Free.sx_cell hS t1 (fun _ _ hT => hT); have q2 := Free.sx_cell hS t2 (fun _ _ hT => hT); go_simp <;> exact rfl); go_frame) | (refine Free.cw_skip rfl ?_; go_frame)))
          refine Free.cw_loud rfl rfl (fun K hK => ?_)
          have hc := pI_c _ _ lq n0 hB.out hfx0.out (by omega)
          obtain ⟨lf0, hlf0⟩ : ∃ y, lq ++ encI n0 = y := ⟨_, rfl⟩
          rw [hlf0] at hc
          have hnf0 : lf0.length ≤ lq.length + 9 := by rw [← hlf0, List.length_append]; have := encI_len hfx0.out; omega
          replace hc := Lib.hid hc
          replace hlf0 := Lib.hid hlf0
          go_wp2_with fail
          refine hc.out.mono ?_
          rintro e wf0 ⟨vf0, rfl, hBf0, hkf0⟩
          refine hK _ _ rfl (Free.KeepsP.of hkf0 (by simp)) ?_
          clear hK K hc hB
          have hB := Lib.hid hBf0
          replace hkr := Lib.hid (hkr.out.trans hkf0)
          clear hBf0 hkf0
          (repeat (first | (apply Free.cw_pure rfl rfl; (intro w'; go_simp <;> exact rfl); go_frame) | (apply Free.cw_steady rfl rfl rfl; (intro w' hS; have q0 := Free.sx_cell hS t0 (fun _ _ hT => hT); have q1 := Free.sx_cell hS t1 (fun _ _ hT => hT); have q2 := Free.sx_cell hS t2 (fun _ _ hT => hT); go_simp <;> exact rfl); go_frame) | (refine Free.cw_skip rfl ?_; go_frame)))
          refine Free.cw_loud rfl rfl (fun K hK => ?_)
          have hc := pU_c _ _ lf0 n1 hB.out hfx1.out (by omega)
          obtain ⟨lf1, hlf1⟩ : ∃ y, lf0 ++ encU n1 = y := ⟨_, rfl⟩
          rw [hlf1] at hc
          have hnf1 : lf1.length ≤ lf0.length + 9 := by rw [← hlf1, List.length_append]; have := encU_len (n := n1) hfx1.out; omega
          replace hc := Lib.hid hc
          replace hlf1 := Lib.hid hlf1
          go_wp2_with fail
          refine hc.out.mono ?_
          rintro e wf1 ⟨vf1, rfl, hBf1, hkf1⟩
          refine hK _ _ rfl (Free.KeepsP.of hkf1 (by simp)) ?_
          clear hK K hc hB
          have hB := Lib.hid hBf1
          replace hkr := Lib.hid (hkr.out.trans hkf1)
          clear hBf1 hkf1
          (repeat (first | (apply Free.cw_pure rfl rfl; (intro w'; go_simp <;> exact rfl); go_frame) | (apply Free.cw_steady rfl rfl rfl; (intro w' hS; have q0 := Free.sx_cell hS t0 (fun _ _ hT => hT); have q1 := Free.sx_cell hS t1 (fun _ _ hT => hT); have q2 := Free.sx_cell hS t2 (fun _ _ hT => hT); go_simp <;> exact rfl); go_frame) | (refine Free.cw_skip rfl ?_; go_frame)))
          refine Free.cw_loud rfl rfl (fun K hK => ?_)
          have hc := pI_c _ _ lf1 n2 hB.out hfx2.out (by omega)
          obtain ⟨lf2, hlf2⟩ : ∃ y, lf1 ++ encI n2 = y := ⟨_, rfl⟩
          rw [hlf2] at hc
          have hnf2 : lf2.length ≤ lf1.length + 9 := by rw [← hlf2, List.length_append]; have := encI_len hfx2.out; omega
          replace hc := Lib.hid hc
          replace hlf2 := Lib.hid hlf2
          go_wp2_with fail
          refine hc.out.mono ?_
          rintro e wf2 ⟨vf2, rfl, hBf2, hkf2⟩
          refine hK _ _ rfl (Free.KeepsP.of hkf2 (by simp)) ?_
          clear hK K hc hB
          have hB := Lib.hid hBf2
          replace hkr := Lib.hid (hkr.out.trans hkf2)
          clear hBf2 hkf2
          (repeat (apply Free.cw_pure rfl rfl; (intro w'; go_simp <;> exact rfl); go_frame))
          refine Free.cw_nil ?_
          have hkz := Lib.hid (hkqI.out.trans hkr.out)
          have hlf : Hid (lf2 = le1 ++ encXs (a.ins.take (q + 1))) := Lib.hid (by rw [← hlf2.out, ← hlf1.out, ← hlf0.out, hsq.out, hlq.out]; simp [encX, List.append_assoc])
          have hlfn : Hid (lf2.length ≤ 60 + SK + 60 + 27 * (q + 1)) := Lib.hid (by omega)
          go_wp2
          go_roundw
          case rel => exact ⟨q + 1, lf2, rfl, by omega, hB, hlf, hlfn, hkz⟩
          case measure => simp [intOf]; omega
        · have hltq2 : ¬ ((q : Int) < y8) := by omega
          have hqy : q = a.ins.length := by have := ev.out; omega
          have hlz : Hid (lq = lb ++ encH (c.an.take (k + 1))) := Lib.hid (by rw [hlq.out, hqy, List.take_length, hle2.out, hsucc.out, henA.out, hlk.out]; simp only [List.append_assoc])
          have hlzn : Hid (lq.length ≤ 60 + ((c.an.take (k + 1)).map wA).sum) := Lib.hid (by rw [hSK1.out]; have h1 := hsum.out; have h2 := hlenq.out; omega)
          have hkz := Lib.hid (hkn.out.trans hkq.out)
          replace hqy := Lib.hid hqy
          go_wp2
          go_roundw
          case rel => exact ⟨k + 1, lq, rfl, by omega, hB, hlz, hlzn, hkz⟩
          case measure => simp [intOf]; omega
    · have hlt2 : ¬ ((k : Int) < x6) := by omega
      have hkY : k = c.an.length := by have := e1.out; omega
      have hlk2 : Hid (lk = lb ++ encH c.an) := Lib.hid (by rw [hlk.out, hkY, List.take_length])
      have hlk3 : lk.length ≤ 60 + SA := by have := hlen.out; rw [hkY, List.take_length, hSA.out] at this; exact this
      replace hkY := Lib.hid hkY
      clear hlk hlen hlb100
      have hc := pU_c _ _ lk x9 hB.out (by omega) (by omega)
      obtain ⟨lg, hlg⟩ : ∃ y, lk ++ encU x9 = y := ⟨_, rfl⟩
      rw [hlg] at hc
      have hng : lg.length ≤ lk.length + 9 := by rw [← hlg, List.length_append]; have := encU_len (n := x9) (by omega); omega
      replace hc := Lib.hid hc
      replace hlg := Lib.hid hlg
      go_wp2_with fail
      refine hc.out.mono ?_
      rintro e wg ⟨vg, rfl, hBg, hkg⟩
      clear hc hB
      have hB := Lib.hid hBg
      have hkr := Lib.hid hkg
      clear hBg hkg
      have hAg := (hkr.out.block _ (lt_of_blk hAr) (by simp)).trans hAr
      replace hkF := Lib.hid (hkF.out.trans hkr.out)
      clear i0 i1 i2 i3 i4 i5 i6 if' il hkr
      have hlg100 : lg.length ≤ 70 + SA := by omega
      replace hAg := Lib.hid hAg
      go_wp2
      go_loopw [3, 8] (fun bv i wr => ∃ (k : Nat) (lp : List UInt8), i = .int .i64 k ∧ k ≤ x9 ∧ Hid (SlB wr bv lp) ∧ Hid (lp = lg ++ encPs (c.cl.take k)) ∧ Hid (lp.length ≤ 70 + SA + ((c.cl.take k).map wP).sum) ∧ Hid (Keeps [] wg wr)) (fun _ i _ => x9 - (intOf i).toNat)
      case atStart => exact ⟨0, lg, rfl, by omega, hB, Lib.hid (by simp [encPs]), Lib.hid (by simp; omega), Lib.hid (Keeps.refl _ _)⟩
      case round =>
        clear hB
        obtain ⟨k, lp, rfl, hk, hB, hlp, hlen, hkw⟩ := hrel
        have hAr := (hkw.out.block _ (lt_of_blk hAg.out) (by simp)).trans hAg.out
        obtain ⟨i0, i1, i2, i3, i4, i5, i6, if', il⟩ := cl7 hAr
        have hkH := Lib.hid (hkF.out.trans hkw.out)
        by_cases hlt : k < x9
        · have hlt2 : (k : Int) < x9 := by omega
          have hkl : k < c.cl.length := by rw [← e2.out]; exact hlt
          have hsucc := encPs_take c.cl k hkl
          have hsum := sum_succ wP c.cl k hkl
          have hsum2 := hwP.out (k + 1)
          obtain ⟨g, o, c', y, hv, hy, g0, g1, g2, g3, g4⟩ := (hcl.out.keeps hkH.out).elem hkl
          rw [← e2.out] at hv
          cases hv
          have hpf := hf.out.cl _ (List.getElem_mem hkl)
          obtain ⟨pp, hpp⟩ : ∃ p, c.cl[k] = p := ⟨_, rfl⟩
          rw [hpp] at hy hsucc hsum hpf
          have m0 := hy.m
          have m1 := hy.ep
          have hpst := hy.st
          have hpsc := hy.sc
          have hpch := hy.ch
          have hp0 := hpf.m
          have hp1 := hpf.ep
          obtain ⟨y0, y1, ⟨y2, y3, y4⟩, ⟨y5, y6, y7⟩, ⟨y8, y9, y10⟩⟩ := y
          simp only [slv] at hpst hpsc hpch g0 g1 g2 g3 g4
          simp only at m0 m1
          rw [← m0] at hp0
          rw [← m1] at hp1
          have henP : encP pp = encI y0 ++ encI y1 ++ (encNs pp.st ++ (encNs pp.sc ++ encNs pp.ch)) := by unfold encP; rw [m0, m1]
          have hbC := heap_alloc_new wr (.cells #[.int .i64 y0, .int .i64 y1, .slice y2 y3 y4, .slice y5 y6 y7, .slice y8 y9 y10] tC)
          have hka := (Keeps.refl [] wr).alloc (.cells #[.int .i64 y0, .int .i64 y1, .slice y2 y3 y4, .slice y5 y6 y7, .slice y8 y9 y10] tC)
          have hkn := Lib.hid (hkw.out.trans hka)
          obtain ⟨SK, hSK⟩ : ∃ n, ((c.cl.take k).map wP).sum = n := ⟨_, rfl⟩
          obtain ⟨SK1, hSK1⟩ : ∃ n, ((c.cl.take (k + 1)).map wP).sum = n := ⟨_, rfl⟩
          rw [hSK] at hlen hsum
          rw [hSK1] at hsum hsum2
          have hlen2 := hlen.out
          have hwp : wP pp = 100 + 30 * (pp.st.length + (pp.sc.length + pp.ch.length)) := rfl
          rw [hwp] at hsum
          have hsb : SK + (100 + 30 * (pp.st.length + (pp.sc.length + pp.ch.length))) ≤ SP := by omega
          replace hB := Lib.hid (hB.out.keeps hka)
          have hkr2 := Lib.hid hka
          replace hpp := Lib.hid hpp
          replace hpst := Lib.hid hpst
          replace hpsc := Lib.hid hpsc
          replace hpch := Lib.hid hpch
          replace hpf := Lib.hid hpf
          replace hp0 := Lib.hid hp0
          replace hp1 := Lib.hid hp1
          replace henP := Lib.hid henP
          replace hsucc := Lib.hid hsucc
          replace hsum := Lib.hid hsum
          replace hSK := Lib.hid hSK
          replace hSK1 := Lib.hid hSK1
          replace hbC := Lib.hid hbC
          clear hy hka m0 m1 hsum2 hwp
          go_upto_region 20 with fail
          generalize (wr.alloc (.cells #[.int .i64 y0, .int .i64 y1, .slice y2 y3 y4, .slice y5 y6 y7, .slice y8 y9 y10] tC)) = WC at *
          obtain ⟨XC, hXC⟩ : ∃ X, wr.heap.size = X := ⟨_, rfl⟩
          rw [hXC] at hbC ⊢
          replace hXC := Lib.hid hXC
          clear i0 i1 i2 i3 i4 i5 i6 if' il g0 g1 g2 g3 g4
          obtain ⟨c0, c1, c2, c3, c4, cf, cl⟩ := cl5 hbC.out
          refine Free.wp_region_chain (fun i => i == 3 || i == 6) (fun i => true) (fun _ _ => False) (by kernel_rfl) (by kernel_rfl) (by kernel_rfl) ?_
          have hkr := Lib.hid ((Keeps.refl [] WC).drew)
          replace hB := Lib.hid (hB.out.keeps (Keeps.refl [] WC).drew)
          (repeat (first | (apply Free.cw_pure rfl rfl; (intro w'; go_simp <;> exact rfl); go_frame) | (apply Free.cw_steady rfl rfl rfl; (intro w' hS; have q0 := Free.sx_cell hS c0 (fun _ _ hT => hT); have q1 := Free.sx_cell hS c1 (fun _ _ hT => hT); have q2 := Free.sx_cell hS c2 (fun _ _ hT => hT); have q3 := Free.sx_cell hS c3 (fun _ _ hT => hT); have q4 := Free.sx_cell hS c4 (fun _ _ hT => hT); go_simp <;> exact rfl); go_frame) | (refine Free.cw_skip rfl ?_; go_frame)))
          refine Free.cw_loud rfl rfl (fun K hK => ?_)
          have hc := pI_c _ _ lp y0 hB.out hp0.out (by omega)
          obtain ⟨lh0, hlh0⟩ : ∃ y, lp ++ encI y0 = y := ⟨_, rfl⟩
          rw [hlh0] at hc
          have hnh0 : lh0.length ≤ lp.length + 9 := by rw [← hlh0, List.length_append]; have := encI_len hp0.out; omega
          replace hc := Lib.hid hc
          replace hlh0 := Lib.hid hlh0
          go_wp2_with fail
          refine hc.out.mono ?_
          rintro e wh0 ⟨vh0, rfl, hBh0, hkh0⟩
          refine hK _ _ rfl (Free.KeepsP.of hkh0 (by simp)) ?_
          clear hK K hc hB
          have hB := Lib.hid hBh0
          replace hkr := Lib.hid (hkr.out.trans hkh0)
          clear hBh0 hkh0
          (repeat (first | (apply Free.cw_pure rfl rfl; (intro w'; go_simp <;> exact rfl); go_frame) | (apply Free.cw_steady rfl rfl rfl; (intro w' hS; have q0 := Free.sx_cell hS c0 (fun _ _ hT => hT); have q1 := Free.sx_cell hS c1 (fun _ _ hT => hT); have q2 := Free.sx_cell hS c2 (fun _ _ hT => hT); have q3 := Free.sx_cell hS c3 (fun _ _ hT => hT); have q4 := Free.sx_cell hS c4 (fun _ _ hT => hT); go_simp <;> exact rfl); go_frame) | (refine Free.cw_skip rfl ?_; go_frame)))
          refine Free.cw_loud rfl rfl (fun K hK => ?_)
          have hc := pI_c _ _ lh0 y1 hB.out hp1.out (by omega)
          obtain ⟨lh1, hlh1⟩ : ∃ y, lh0 ++ encI y1 = y := ⟨_, rfl⟩
          rw [hlh1] at hc
          have hnh1 : lh1.length ≤ lh0.length + 9 := by rw [← hlh1, List.length_append]; have := encI_len hp1.out; omega
          replace hc := Lib.hid hc
          replace hlh1 := Lib.hid hlh1
          go_wp2_with fail
          refine hc.out.mono ?_
          rintro e wh1 ⟨vh1, rfl, hBh1, hkh1⟩
          refine hK _ _ rfl (Free.KeepsP.of hkh1 (by simp)) ?_
          clear hK K hc hB
          have hB := Lib.hid hBh1
          replace hkr := Lib.hid (hkr.out.trans hkh1)
          clear hBh1 hkh1
          (repeat (apply Free.cw_pure rfl rfl; (intro w'; go_simp <;> exact rfl); go_frame))
          refine Free.cw_nil ?_
          replace hbC := Lib.hid ((hkr.out.block _ (lt_of_blk hbC.out) (by simp)).trans hbC.out)
          replace hkn := Lib.hid (hkn.out.trans hkr.out)
          replace hkr2 := Lib.hid (hkr2.out.trans hkr.out)
          clear c0 c1 c2 c3 c4 cf cl hkr
          obtain ⟨c0, c1, c2, c3, c4, cf, cl⟩ := cl5 hbC.out
          go_upto_region 21 with fail
          refine Free.wp_region_chain (fun i => i == 3 || i == 6 || i == 9) (fun i => true) (fun _ _ => False) (by kernel_rfl) (by kernel_rfl) (by kernel_rfl) ?_
          have hkr := Lib.hid ((Keeps.refl [] wh1).drew)
          replace hB := Lib.hid (hB.out.keeps (Keeps.refl [] wh1).drew)
          (repeat (first | (apply Free.cw_pure rfl rfl; (intro w'; go_simp <;> exact rfl); go_frame) | (apply Free.cw_steady rfl rfl rfl; (intro w' hS; have q0 := Free.sx_cell hS c0 (fun _ _ hT => hT); have q1 := Free.sx_cell hS c1 (fun _ _ hT => hT); have q2 := Free.sx_cell hS c2 (fun _ _ hT => hT); have q3 := Free.sx_cell hS c3 (fun _ _ hT => hT); have q4 := Free.sx_cell hS c4 (fun _ _ hT => hT); go_simp <;> exact rfl); go_frame) | (refine Free.cw_skip rfl ?_; go_frame)))
          refine Free.cw_loud rfl rfl (fun K hK => ?_)
          have hc := pNs_c _ _ lh1 (.slice y2 y3 y4) pp.st (hpst.out.keeps (hkr2.out.trans hkr.out)) hpf.out.st hB.out (by omega)
          obtain ⟨lj0, hlj0⟩ : ∃ y, lh1 ++ encNs pp.st = y := ⟨_, rfl⟩
          rw [hlj0] at hc
          have hnj0 : lj0.length ≤ lh1.length + (9 + 27 * pp.st.length) := by rw [← hlj0, List.length_append]; have := encNs_len (L := pp.st) hpf.out.st (by omega); omega
          replace hc := Lib.hid hc
          replace hlj0 := Lib.hid hlj0
          go_wp2_with fail
          refine hc.out.mono ?_
          rintro e wj0 ⟨vj0, rfl, hBj0, hkj0⟩
          refine hK _ _ rfl (Free.KeepsP.of hkj0 (by simp)) ?_
          clear hK K hc hB
          have hB := Lib.hid hBj0
          replace hkr := Lib.hid (hkr.out.trans hkj0)
          clear hBj0 hkj0
          (repeat (first | (apply Free.cw_pure rfl rfl; (intro w'; go_simp <;> exact rfl); go_frame) | (apply Free.cw_steady rfl rfl rfl; (intro w' hS; have q0 := Free.sx_cell hS c0 (fun _ _ hT => hT); have q1 := Free.sx_cell hS c1 (fun _ _ hT => hT); have q2 := Free.sx_cell hS c2 (fun _ _ hT => hT); have q3 := Free.sx_cell hS c3 (fun _ _ hT => hT); have q4 := Free.sx_cell hS c4 (fun _ _ hT => hT); go_simp <;> exact rfl); go_frame) | (refine Free.cw_skip rfl ?_; go_frame)))
          refine Free.cw_loud rfl rfl (fun K hK => ?_)
          have hc := pNs_c _ _ lj0 (.slice y5 y6 y7) pp.sc (hpsc.out.keeps (hkr2.out.trans hkr.out)) hpf.out.sc hB.out (by omega)
          obtain ⟨lj1, hlj1⟩ : ∃ y, lj0 ++ encNs pp.sc = y := ⟨_, rfl⟩
          rw [hlj1] at hc
          have hnj1 : lj1.length ≤ lj0.length + (9 + 27 * pp.sc.length) := by rw [← hlj1, List.length_append]; have := encNs_len (L := pp.sc) hpf.out.sc (by omega); omega
          replace hc := Lib.hid hc
          replace hlj1 := Lib.hid hlj1
          go_wp2_with fail
          refine hc.out.mono ?_
          rintro e wj1 ⟨vj1, rfl, hBj1, hkj1⟩
          refine hK _ _ rfl (Free.KeepsP.of hkj1 (by simp)) ?_
          clear hK K hc hB
          have hB := Lib.hid hBj1
          replace hkr := Lib.hid (hkr.out.trans hkj1)
          clear hBj1 hkj1
          (repeat (first | (apply Free.cw_pure rfl rfl; (intro w'; go_simp <;> exact rfl); go_frame) | (apply Free.cw_steady rfl rfl rfl; (intro w' hS; have q0 := Free.sx_cell hS c0 (fun _ _ hT => hT); have q1 := Free.sx_cell hS c1 (fun _ _ hT => hT); have q2 := Free.sx_cell hS c2 (fun _ _ hT => hT); have q3 := Free.sx_cell hS c3 (fun _ _ hT => hT); have q4 := Free.sx_cell hS c4 (fun _ _ hT => hT); go_simp <;> exact rfl); go_frame) | (refine Free.cw_skip rfl ?_; go_frame)))
          refine Free.cw_loud rfl rfl (fun K hK => ?_)
          have hc := pNs_c _ _ lj1 (.slice y8 y9 y10) pp.ch (hpch.out.keeps (hkr2.out.trans hkr.out)) hpf.out.ch hB.out (by omega)
          obtain ⟨lj2, hlj2⟩ : ∃ y, lj1 ++ encNs pp.ch = y := ⟨_, rfl⟩
          rw [hlj2] at hc
          have hnj2 : lj2.length ≤ lj1.length + (9 + 27 * pp.ch.length) := by rw [← hlj2, List.length_append]; have := encNs_len (L := pp.ch) hpf.out.ch (by omega); omega
          replace hc := Lib.hid hc
          replace hlj2 := Lib.hid hlj2
          go_wp2_with fail
          refine hc.out.mono ?_
          rintro e wj2 ⟨vj2, rfl, hBj2, hkj2⟩
          refine hK _ _ rfl (Free.KeepsP.of hkj2 (by simp)) ?_
          clear hK K hc hB
          have hB := Lib.hid hBj2
          replace hkr := Lib.hid (hkr.out.trans hkj2)
          clear hBj2 hkj2
          (repeat (apply Free.cw_pure rfl rfl; (intro w'; go_simp <;> exact rfl); go_frame))
          refine Free.cw_nil ?_
          have hkz := Lib.hid (hkn.out.trans hkr.out)
          have hlj : Hid (lj2 = lg ++ encPs (c.cl.take (k + 1))) := Lib.hid (by rw [← hlj2.out, ← hlj1.out, ← hlj0.out, ← hlh1.out, ← hlh0.out, hsucc.out, henP.out, hlp.out]; simp only [List.append_assoc])
          have hljn : Hid (lj2.length ≤ 70 + SA + ((c.cl.take (k + 1)).map wP).sum) := Lib.hid (by rw [hSK1.out]; have h1 := hsum.out; omega)
          go_wp2
          go_roundw
          case rel => exact ⟨k + 1, lj2, rfl, by omega, hB, hlj, hljn, hkz⟩
          case measure => simp [intOf]; omega
        · have hlt2 : ¬ ((k : Int) < x9) := by omega
          have hkY2 : k = c.cl.length := by have := e2.out; omega
          have hres : Hid (lp = encI x0 ++ encI x1 ++ encX (x2, x3, x4) ++ encU x6 ++ encH c.an ++ encU x9 ++ encPs c.cl) := Lib.hid (by rw [hlp.out, hkY2, List.take_length, ← hlg.out, hlk2.out, hlb2.out])
          replace hkY2 := Lib.hid hkY2
          go_wp2
          go_ret
          refine ⟨_, rfl, ?_, hkH.out⟩
          have hz := hB.out
          rw [hres.out] at hz
          simp only [List.append_assoc] at hz ⊢
          exact hz
end Go.Proofs.Ytiplgpefapeapaa

namespace Go.Proofs.Ytiplgpefapeapaa
open Go.RowKit

/-- Reading goes on while there is no error. -/
def rXc : Nat → RS → List T3 → List T3 × RS
  | 0, s, L => (L, s)
  | n + 1, s, L => if s.2 = 0 then rXc n (rX s).2 (L ++ [(rX s).1]) else (L, s)
def rNs (s : RS) : List T3 × RS := rXc (rCS 1024 s).1 (rCS 1024 s).2 []
theorem rXc_len : ∀ (n : Nat) (s : RS) (L : List T3), (rXc n s L).1.length ≤ n + L.length
  | 0, s, L => by simp [rXc]
  | n + 1, s, L => by
    unfold rXc
    split
    · have := rXc_len n (rX s).2 (L ++ [(rX s).1])
      simp only [List.length_append, List.length_cons, List.length_nil] at this
      omega
    · simp only; omega
abbrev tRr : Nat := 70
theorem RrS.tag {w : World} {br : Nat} {s : RS} (h : RrS w br s) : ∃ cs : Array Value, w.heap[br]? = some (Obj.cells cs tRr (0, 0)) := by obtain ⟨v, h⟩ := h; exact ⟨_, h.1⟩
theorem RrS.moved {w w' : World} {br : Nat} {s : RS} {S : List Nat} (h : RrS w br s) (hk : Keeps S w w') (hbr : br ∉ S) (hS : ∀ b ∈ S, ∀ cs : Array Value, w.heap[b]? ≠ some (Obj.cells cs tB (0, 0))) : RrS w' br s := by
  obtain ⟨v, h1, h2⟩ := h
  exact ⟨v, (hk.block br (lt_of_blk h1) hbr).trans h1, h2.moved hk hS⟩
theorem RrS.cell {w : World} {br : Nat} {s : RS} (h : RrS w br s) : ∃ v, w.cell? ⟨br, 0, none⟩ = some v ∧ w.cell? ⟨br, 1, none⟩ = some (.int .i64 s.2) ∧ w.frozen? ⟨br, 0, none⟩ = false ∧ w.frozen? ⟨br, 1, none⟩ = false ∧ br < w.heap.size := by
  obtain ⟨v, h1, _⟩ := h
  exact ⟨v, cell2_of h1⟩
/-- One block with another tag is written. -/
theorem RrS.other {w w' : World} {br : Nat} {s : RS} {X : Nat} {cs : Array Value} {t : TypeId} {f : Nat × Nat} (h : RrS w br s) (hk : Keeps [X] w w') (hX : w.heap[X]? = some (.cells cs t f)) (ht : t ≠ tRr) (hb : t ≠ tB) : RrS w' br s := by
  refine h.moved hk (fun hm => ?_) (fun b hm cs' e => ?_)
  · simp only [List.mem_singleton] at hm
    obtain ⟨c2, h2⟩ := h.tag
    rw [hm, hX] at h2
    cases h2
    exact ht rfl
  · simp only [List.mem_singleton] at hm
    subst hm
    rw [hX] at e
    cases e
    exact hb rfl
theorem RrS.ne {w : World} {br : Nat} {s : RS} {X : Nat} {cs : Array Value} {t : TypeId} {f : Nat × Nat} (h : RrS w br s) (hX : w.heap[X]? = some (.cells cs t f)) (ht : t ≠ tRr) : X ≠ br := fun e => by
  obtain ⟨c2, h2⟩ := h.tag
  rw [← e, hX] at h2
  cases h2
  exact ht rfl
theorem loadN3 (w : World) (g : Nat) (t : TypeId) (x0 x1 x2 : Value) (f : Nat × Nat) (hg : w.heap[g]? = some (.cells #[x0, x1, x2] t f)) : (loadVar tN ⟨g, 0, none⟩).run Try.prog w = .ok (.agg #[x0, x1, x2]) w :=
  run_loadVar_row w g t tN #[x0, x1, x2] f _ hg Try.underlying26 rfl (show (Try.prog.info? tN).map (·.size) = some 3 by kernel_rfl)
theorem results_n3 {fn : Func} {p : Tmp} (h : fn.results = #[.cell p tN]) (tmps : Array Value) (w : World) (g : Nat) (t : TypeId) (x0 x1 x2 : Value) (f : Nat × Nat) (hp : tmps.getD p undef = .pointer (some ⟨g, 0, none⟩))
    (hg : w.heap[g]? = some (.cells #[x0, x1, x2] t f)) : (results fn tmps).run Try.prog w = .ok (.agg #[x0, x1, x2]) w := by
  have hp' : tmps[p]?.getD undef = .pointer (some ⟨g, 0, none⟩) := by simpa using hp
  simp [results, h, hp', asAddr, loadN3 w g t x0 x1 x2 f hg]
theorem tN_r : (tN : Nat) ≠ tRr := by decide
theorem tN_b : (tN : Nat) ≠ tB := by decide
set_option maxRecDepth 100000 in
set_option maxHeartbeats 4000000 in
theorem getNeed_c (w : World) (br : Nat) (s : RS) (h : RrS w br s) :
    Calls Try.prog 27 #[.pointer (some ⟨br, 0, none⟩)] w fun e w' => e = .returned (tV (rX s).1) ∧ RrS w' br (rX s).2 ∧ Keeps [br] w w' := by
  have hkZ := (Keeps.refl [] w).alloc (.cells #[.int .i64 0, .int .u64 0, .int .i64 0] tN)
  have hZ := heap_alloc_new w (.cells #[.int .i64 0, .int .u64 0, .int .i64 0] tN)
  have hbw := h.lt
  have h1 := h.keeps hkZ
  have hres : (rX s) = (((rI s).1, (rU (rI s).2).1, (rI (rU (rI s).2).2).1), (rI (rU (rI s).2).2).2) := rfl
  rw [hres]
  obtain ⟨p1, hp1⟩ : ∃ p, rI s = p := ⟨_, rfl⟩
  obtain ⟨n1, s1⟩ := p1
  have hc1 := intRS_c _ br s h1
  rw [hp1] at hc1 ⊢
  simp only at hc1 ⊢
  obtain ⟨p2, hp2⟩ : ∃ p, rU s1 = p := ⟨_, rfl⟩
  obtain ⟨n2, s2⟩ := p2
  have hc2 := fun W h => uintRS_c W br s1 h
  rw [hp2] at hc2 ⊢
  simp only at hc2 ⊢
  obtain ⟨p3, hp3⟩ : ∃ p, rI s2 = p := ⟨_, rfl⟩
  obtain ⟨n3, s3⟩ := p3
  have hc3 := fun W h => intRS_c W br s2 h
  rw [hp3] at hc3 ⊢
  simp only [tV] at hc3 ⊢
  replace hp1 := Lib.hid hp1
  replace hp2 := Lib.hid hp2
  replace hp3 := Lib.hid hp3
  replace hc1 := Lib.hid hc1
  replace hc2 := Lib.hid hc2
  replace hc3 := Lib.hid hc3
  replace hkZ := Lib.hid hkZ
  replace hZ := Lib.hid hZ
  replace hbw := Lib.hid hbw
  clear h h1 hres
  go_enter Try.func27, Try.ntmps27
  go_upto_region 1 with fail
  generalize (w.alloc (.cells #[.int .i64 0, .int .u64 0, .int .i64 0] tN)) = W at *
  obtain ⟨R, hR⟩ : ∃ B, w.heap.size = B := ⟨_, rfl⟩
  rw [hR] at hZ ⊢
  replace hR := Lib.hid hR
  go_wp2_with fail
  refine hc1.out.mono ?_
  rintro e w1 ⟨rfl, hR1, hk1⟩
  have hRb : R ≠ br := by have h1 := hR.out; have h2 := hbw.out; omega
  have hZ1 := (hk1.block R (lt_of_blk hZ.out) (by simpa using hRb)).trans hZ.out
  have hRX : R ≠ w1.heap.size := Nat.ne_of_lt (lt_of_blk hZ1)
  have hkX := (Keeps.refl [] w1).alloc (.cells #[.int .i64 n1, .int .u64 0, .int .i64 0] tN)
  have hX := heap_alloc_new w1 (.cells #[.int .i64 n1, .int .u64 0, .int .i64 0] tN)
  have hR2 := hR1.keeps hkX
  have hXR := hR2.ne hX tN_r
  have hZ2 := (hkX.block R (lt_of_blk hZ1) (by simp)).trans hZ1
  have hk := Lib.hid ((hkZ.out.of_nil.trans hk1).trans hkX.of_nil)
  have hwX0 : w.heap.size ≤ w1.heap.size := (hkZ.out.of_nil.trans hk1).size
  clear hZ
  have hZ := Lib.hid hZ2
  clear hZ1 hZ2 hkX hk1 hc1 hkZ
  go_upto_region 2 with fail
  generalize (w1.alloc (.cells #[.int .i64 n1, .int .u64 0, .int .i64 0] tN)) = W2 at *
  obtain ⟨X, hXX⟩ : ∃ X, w1.heap.size = X := ⟨_, rfl⟩
  rw [hXX] at hX hXR hRX hwX0 ⊢
  have hwR := hR
  clear hR
  have hR := Lib.hid hR2
  have hwX := Lib.hid hwX0
  replace hXX := Lib.hid hXX
  replace hX := Lib.hid hX
  replace hXR := Lib.hid hXR
  replace hRX := Lib.hid hRX
  replace hRb := Lib.hid hRb
  clear hR1 hR2 hwX0
  obtain ⟨c0, c1, c2, cf, cl⟩ := cl3 hX.out
  go_wp2_with fail
  refine (hc2.out W2 hR.out).mono ?_
  rintro e v3 ⟨rfl, hR3, hk3⟩
  clear c0 c1 c2 cf cl
  have hX3 := (hk3.block X (lt_of_blk hX.out) (by simpa using hXR.out)).trans hX.out
  have hZ3 := (hk3.block R (lt_of_blk hZ.out) (by simpa using hRb.out)).trans hZ.out
  have hs3 : Keeps [X] v3 (v3.setCell ⟨X, 1, none⟩ (.int .u64 n2)) := (Keeps.refl _ _).setCell (.inr (by simp)) _
  have hY3 : (v3.setCell ⟨X, 1, none⟩ (.int .u64 n2)).heap[X]? = some (.cells #[.int .i64 n1, .int .u64 n2, .int .i64 0] tN (0, 0)) := by simp [World.setCell, Array.getElem?_modify, hX3]
  have hR3b := hR3.other hs3 hX3 tN_r tN_b
  have hZ3b := (hs3.block R (lt_of_blk hZ3) (by simpa using hRX.out)).trans hZ3
  have hkn := Lib.hid ((hk.out.trans hk3).fresh hs3 (fun b hb => by simp only [List.mem_singleton] at hb; subst hb; exact .inr hwX.out))
  obtain ⟨c0, c1, c2, cf, cl⟩ := cl3 hX3
  clear hX hZ hR hk
  have hX := Lib.hid hY3
  have hZ := Lib.hid hZ3b
  have hR := Lib.hid hR3b
  have hk := hkn
  clear hX3 hZ3 hs3 hY3 hR3b hZ3b hkn hR3 hk3
  go_upto_region 3 with fail
  generalize (v3.setCell ⟨X, 1, none⟩ (.int .u64 n2)) = W3 at *
  clear c0 c1 c2 cf cl
  obtain ⟨c0, c1, c2, cf, cl⟩ := cl3 hX.out
  go_wp2_with fail
  refine (hc3.out W3 hR.out).mono ?_
  rintro e v4 ⟨rfl, hR4, hk4⟩
  clear c0 c1 c2 cf cl
  have hX4 := (hk4.block X (lt_of_blk hX.out) (by simpa using hXR.out)).trans hX.out
  have hZ4 := (hk4.block R (lt_of_blk hZ.out) (by simpa using hRb.out)).trans hZ.out
  have hs4 : Keeps [X] v4 (v4.setCell ⟨X, 2, none⟩ (.int .i64 n3)) := (Keeps.refl _ _).setCell (.inr (by simp)) _
  have hY4 : (v4.setCell ⟨X, 2, none⟩ (.int .i64 n3)).heap[X]? = some (.cells #[.int .i64 n1, .int .u64 n2, .int .i64 n3] tN (0, 0)) := by simp [World.setCell, Array.getElem?_modify, hX4]
  have hR4b := hR4.other hs4 hX4 tN_r tN_b
  have hZ4b := (hs4.block R (lt_of_blk hZ4) (by simpa using hRX.out)).trans hZ4
  have hkn := Lib.hid ((hk.out.trans hk4).fresh hs4 (fun b hb => by simp only [List.mem_singleton] at hb; subst hb; exact .inr hwX.out))
  obtain ⟨c0, c1, c2, cf, cl⟩ := cl3 hX4
  clear hX hZ hR hk
  have hX := Lib.hid hY4
  have hZ := Lib.hid hZ4b
  have hR := Lib.hid hR4b
  have hk := hkn
  clear hX4 hZ4 hs4 hY4 hR4b hZ4b hkn hR4 hk4
  go_upto_region 4 with fail
  generalize (v4.setCell ⟨X, 2, none⟩ (.int .i64 n3)) = W4 at *
  clear c0 c1 c2 cf cl
  obtain ⟨c0, c1, c2, cf, cl⟩ := cl3 hX.out
  obtain ⟨z0, z1, z2, zf, zl⟩ := cl3 hZ.out
  go_wp2
  obtain ⟨g1, g2⟩ := sc3 (.int .i64 n1) (.int .u64 n2) (.int .i64 n3) hZ.out
  refine bodyPost_ret (results_n3 rfl _ _ _ _ _ _ _ _ rfl g1) rfl ?_
  exact ⟨rfl, hR.out.other g2 hZ.out tN_r tN_b, hk.out.fresh g2 (fun b hb => by simp only [List.mem_singleton] at hb; subst hb; exact .inr (Nat.le_of_eq hwR.out))⟩
set_option maxRecDepth 100000 in
set_option maxHeartbeats 8000000 in
theorem getNeeds_c (w : World) (br : Nat) (s : RS) (h : RrS w br s) :
    Calls Try.prog 30 #[.pointer (some ⟨br, 0, none⟩)] w fun e w' => ∃ v, e = .returned v ∧ shT.O w' w.heap.size tN v (rNs s).1 ∧ RrS w' br (rNs s).2 ∧ Keeps [br] w w' := by
  have hkE := (Keeps.refl [] w).alloc (.cells #[] tN)
  have hE := Sh.O.fresh shT w w.heap.size tN (Nat.le_refl _)
  have h1 := h.keeps hkE
  have hlt := h.lt
  unfold rNs
  have hle := rCS_le 1024 s
  have hc := countRX_c _ br s h1
  obtain ⟨p, hp⟩ : ∃ p, rCS 1024 s = p := ⟨_, rfl⟩
  obtain ⟨M, s0⟩ := p
  rw [hp] at hc hle ⊢
  simp only at hc hle ⊢
  obtain ⟨B, hB⟩ : ∃ B, w.heap.size = B := ⟨_, rfl⟩
  obtain ⟨r, hr⟩ : ∃ r, rXc M s0 [] = r := ⟨_, rfl⟩
  rw [hr]
  rw [hB] at hE hlt ⊢
  replace hp := Lib.hid hp
  replace hc := Lib.hid hc
  replace hkE := Lib.hid hkE
  replace hE := Lib.hid hE
  replace hr := Lib.hid hr
  replace hlt := Lib.hid hlt
  replace hB := Lib.hid hB
  clear h h1
  go_enter Try.func30, Try.ntmps30
  go_upto_region 2 with fail
  rw [hB.out]
  generalize (w.alloc (.cells #[] tN)) = W at *
  go_wp2_with fail
  refine hc.out.mono ?_
  rintro e w1 ⟨rfl, hR1, hk1⟩
  have hO1 := hE.out.keepS hk1 (fun b hb => by simp only [List.mem_singleton] at hb; subst hb; intro e; have h2 := hE.out.ge _ e; have h3 := hlt.out; omega)
  have hk01 := Lib.hid ((hkE.out.of_nil).trans hk1)
  replace hO1 := Lib.hid hO1
  replace hR1 := Lib.hid hR1
  clear hk1 hE hkE hc
  go_wp2
  go_loopw [3, 5] (fun lv i wr => ∃ (k : Nat) (L : List T3) (sk : RS), i = .int .i64 k ∧ k ≤ M ∧ Hid (shT.O wr B tN lv L) ∧ Hid (L.length ≤ k) ∧ Hid (rXc (M - k) sk L = r) ∧ Hid (RrS wr br sk) ∧ Hid (Keeps [br] w wr)) (fun _ i _ => M - (intOf i).toNat)
  case atStart => exact ⟨0, [], s0, rfl, by omega, hO1, Lib.hid (by simp), Lib.hid hr.out, hR1, hk01⟩
  case round =>
    obtain ⟨k, L, sk, rfl, hk, hO, hLk, hrk, hRr, hkw⟩ := hrel
    obtain ⟨vr, d0, d1, df0, df1, dl⟩ := hRr.out.cell
    obtain ⟨oa, oc, hov⟩ := hO.out.form
    subst hov
    by_cases hlt2 : k < M
    · have hlt3 : (k : Int) < M := by omega
      obtain ⟨j, hj⟩ : ∃ j, M - k = j + 1 := ⟨M - k - 1, by omega⟩
      have hj2 : M - (k + 1) = j := by omega
      by_cases hs : sk.2 = 0
      · have hsb : (sk.2 == 0) = true := by simpa using hs
        have hstep : rXc (M - (k + 1)) (rX sk).2 (L ++ [(rX sk).1]) = r := by
          have := hrk.out
          rw [hj] at this
          rw [hj2]
          unfold rXc at this
          rw [if_pos hs] at this
          exact this
        obtain ⟨z, hz⟩ : ∃ z, rX sk = z := ⟨_, rfl⟩
        obtain ⟨⟨n0, n1, n2⟩, s2⟩ := z
        have hcall := getNeed_c wr br sk hRr.out
        rw [hz] at hcall hstep
        simp only [tV] at hcall hstep
        obtain ⟨N, hN⟩ : ∃ N, L.length = N := ⟨_, rfl⟩
        rw [hN] at hLk hO ⊢
        have hN1 : N ≤ 1024 := by have := hLk.out; omega
        replace hs := Lib.hid hs
        replace hz := Lib.hid hz
        replace hcall := Lib.hid hcall
        replace hstep := Lib.hid hstep
        replace hN := Lib.hid hN
        replace hj := Lib.hid hj
        replace hj2 := Lib.hid hj2
        go_wp2_with fail
        refine hcall.out.mono ?_
        rintro e w2 ⟨rfl, hR2, hk2⟩
        have hO2 := hO.out.keepS hk2 (fun b hb => by simp only [List.mem_singleton] at hb; subst hb; intro e; have h2 := hO.out.ge _ e; have h3 := hlt.out; omega)
        have hmade := Sh.R.made shT w2 [(n0, n1, n2)] #[.int .i64 n0, .int .u64 n1, .int .i64 n2] tN rfl (by simp [maxLen]) 1 rfl
        have hkM := (Keeps.refl [] w2).alloc (.cells #[.int .i64 n0, .int .u64 n1, .int .i64 n2] tN)
        have hOM := hO2.keeps hkM
        have hRM := hR2.keeps hkM
        have hkwM := (hkw.out.trans hk2).trans hkM.of_nil
        have hsz : B ≤ (w2.alloc (.cells #[.int .i64 n0, .int .u64 n1, .int .i64 n2] tN)).heap.size := by have := hkwM.size; have := hB.out; omega
        replace hmade := Lib.hid hmade
        replace hOM := Lib.hid hOM
        replace hRM := Lib.hid hRM
        replace hkwM := Lib.hid hkwM
        clear hkM hO2 hR2 hk2 hcall d0 d1 df0 df1 dl
        go_wp2_with (first
          | (at_builtin; (refine Sh.wpl_app shT B infoN rfl Try.underlying35 (.slice oa N oc) (.slice (some ⟨w2.heap.size, 0, none⟩) 1 1) L [(n0, n1, n2)] rfl _ _ rfl rfl rfl hOM.out hmade.out (by rw [hN.out]; simp only [List.length_singleton]; omega) hsz ?_; intro v5 w5 hO5 hG5; have hR5 := hRM.out.moved hG5.keepsO (fun hm => by have h2 := hOM.out.ge br (by simpa using hm); have h3 := hlt.out; omega) (fun b hm cs e => by obtain ⟨cs', hc⟩ := hOM.out.tag b (by simpa using hm); rw [hc] at e; cases e); have hk5 := hkwM.out.fresh hG5.keepsO (fun b hb => .inr (by have h2 := hOM.out.ge b (by simpa using hb); have h3 := hB.out; omega)); replace hO5 := Lib.hid hO5; replace hR5 := Lib.hid hR5; replace hk5 := Lib.hid hk5; clear hG5))
          | fail)
        go_roundw
        case rel => exact ⟨k + 1, L ++ [(n0, n1, n2)], s2, rfl, by omega, hO5, Lib.hid (by rw [List.length_append, hN.out]; have := hLk.out; simp; omega), hstep, hR5, hk5⟩
        case measure => simp [intOf]; omega
      · have hsb : (sk.2 == 0) = false := by simpa using hs
        have hend : r = (L, sk) := by
          have := hrk.out
          rw [hj] at this
          unfold rXc at this
          rw [if_neg hs] at this
          exact this.symm
        replace hs := Lib.hid hs
        replace hend := Lib.hid hend
        replace hj := Lib.hid hj
        replace hj2 := Lib.hid hj2
        go_wp2
        go_ret
        exact ⟨_, rfl, by rw [hend.out]; exact hO.out, by rw [hend.out]; exact hRr.out, hkw.out⟩
    · have hlt3 : ¬ ((k : Int) < M) := by omega
      have hlt4 : decide ((k : Int) < (M : Int)) = false := by simp; omega
      have hend : r = (L, sk) := by
        have := hrk.out
        rw [show M - k = 0 by omega] at this
        exact this.symm
      replace hend := Lib.hid hend
      go_wp2
      go_ret
      exact ⟨_, rfl, by rw [hend.out]; exact hO.out, by rw [hend.out]; exact hRr.out, hkw.out⟩
end Go.Proofs.Ytiplgpefapeapaa
