/- Texts that the laws lean on, in the order in which they build. The reference's reading of a number. The reference's reader: Uint. The reference receives: what it turns down, and acknowledgements. A channel receives what is no datagram. The reference receives: a datagram of a known kind. The reference receives an acknowledgement. The reference receives a payload that is too far, or known. The end and the reference's end agree: the plain law. The reference receives a new payload. The reference's datagrams of any number, as the machine takes it for an unsigned one. The reference's datagrams. -/
import Derived.Test.YtilmcdieihmiaaaK3
import Derived.IntWalk
set_option linter.unusedVariables false
set_option linter.unusedSimpArgs false
namespace Go.Proofs.Ytilmcdieihmiaaa
open Go.RowKit

/-- What the reference's `number` gives. -/
def numR (l : List UInt8) : Int × Int := match readU l with | some (x, r) => (x, (l.length : Int) - r.length) | none => (0, -1)
theorem numR_none {l : List UInt8} (h : readU l = none) : numR l = (0, -1) := by simp [numR, h]

set_option maxRecDepth 100000 in
set_option maxHeartbeats 2000000 in
theorem number_bad (w : World) (v0 : Value) (l : List UInt8) (h : SlB w v0 l) (hr : readU l = none) :
    Calls Try.prog 69 #[v0] w fun e w' => e = .returned (.tuple #[.int .u64 0, .int .i64 (-1)]) ∧ Keeps [] w w' := by
  rcases h.cases with ⟨rfl, a, cp, rfl, _, _⟩ | ⟨g, o, cp, rfl, hn, hm, hp, hg, hc⟩
  · clear h hr
    go_enter Try.func69, Try.ntmps69
    go_wp2
    go_ret2
    exact ⟨rfl, Keeps.refl _ _⟩
  · obtain ⟨k, t, rfl⟩ : ∃ k t, l = k :: t := by cases l with | nil => simp at hp | cons k t => exact ⟨k, t, rfl⟩
    have k0 := hc 0 (by simp)
    have k1 : 0 < t.length → w.cell? ⟨g, o + 1, none⟩ = some (.int .u8 ((t.headD 1).toNat : Int)) := fun ht => by
      have := hc 1 (by simp; omega)
      rw [this]; cases t with | nil => simp at ht | cons a b => rfl
    simp only [Nat.add_zero, List.getElem_cons_zero] at k0
    have hcond : ¬ (k.toNat ≤ 8 ∧ k.toNat ≤ t.length ∧ (0 < k.toNat → t.headD 1 ≠ 0)) := fun e => by rw [readU, if_pos e] at hr; cases hr
    have hk : k.toNat ≤ 255 := by have := k.toNat_lt; omega
    clear h hc hp hr
    simp only [List.length_cons] at *
    obtain ⟨t0, htt0⟩ : ∃ t0, t.headD 1 = t0 := ⟨_, rfl⟩
    rw [htt0] at k1 hcond
    clear htt0
    obtain ⟨kk, hkk⟩ : ∃ kk, k.toNat = kk := ⟨_, rfl⟩
    rw [hkk] at k0 hcond hk
    clear hkk
    obtain ⟨N, hNt⟩ : ∃ N, t.length = N := ⟨_, rfl⟩
    rw [hNt] at hcond k1 hn ⊢
    clear hNt
    have hNN : (N : Int) + 1 ≤ 9223372036854775807 := by unfold maxLen at hm; omega
    have wk : IntKind.i64.wrap (kk : Int) = kk := IntWalk.i64_in _ (by omega)
    have nz : ((N : Int) + 1 == 0) = false := by simp; omega
    by_cases h8 : 8 < kk
    · clear hcond k1
      have d8 : (8 : Int) < kk := by omega
      go_enter Try.func69, Try.ntmps69
      go_wp2
      go_ret2
      exact ⟨rfl, Keeps.refl _ _⟩
    · by_cases hNk : N < kk
      · clear hcond k1
        have d8 : decide ((8 : Int) < (kk : Int)) = false := by simp; omega
        have dN : (N : Int) + 1 < 1 + kk := by omega
        go_enter Try.func69, Try.ntmps69
        go_wp2
        go_ret2
        exact ⟨rfl, Keeps.refl _ _⟩
      · have hk0 : 0 < kk := by
          rcases Nat.eq_zero_or_pos kk with e | e
          · exact absurd ⟨by omega, by omega, fun h => by omega⟩ hcond
          · exact e
        have ht0 : t0 = 0 := by
          rcases Classical.em (t0 = 0) with e | e
          · exact e
          · exact absurd ⟨by omega, by omega, fun _ => e⟩ hcond
        have k1' := k1 (by omega)
        rw [ht0] at k1'
        have k1'' : w.cell? ⟨g, o + 1, none⟩ = some (.int .u8 0) := k1'
        have hki : (0 : Int) < kk := by omega
        have d8 : decide ((8 : Int) < (kk : Int)) = false := by simp; omega
        have dN : decide ((N : Int) + 1 < 1 + (kk : Int)) = false := by simp; omega
        clear hcond k1 k1' ht0
        go_enter Try.func69, Try.ntmps69
        go_wp2
        go_ret2
        exact ⟨rfl, Keeps.refl _ _⟩

set_option maxRecDepth 100000 in
set_option maxHeartbeats 4000000 in
theorem number_ok (w : World) (v0 : Value) (l rest : List UInt8) (x : Nat) (h : SlB w v0 l) (hr : readU l = some (x, rest)) :
    Calls Try.prog 69 #[v0] w fun e w' => (∃ j : Nat, 0 < j ∧ j ≤ l.length ∧ rest = l.drop j ∧ e = .returned (.tuple #[.int .u64 x, .int .i64 j])) ∧ Keeps [] w w' := by
  rcases h.cases with ⟨rfl, a, cp, rfl, _, _⟩ | ⟨g, o, cp, rfl, hn, hm, hp, hg, hc⟩
  · cases hr
  · obtain ⟨k, t, rfl⟩ : ∃ k t, l = k :: t := by cases l with | nil => simp at hp | cons k t => exact ⟨k, t, rfl⟩
    have k0 := hc 0 (by simp)
    have k1 : 0 < t.length → w.cell? ⟨g, o + 1, none⟩ = some (.int .u8 ((t.headD 1).toNat : Int)) := fun ht => by
      have := hc 1 (by simp; omega)
      rw [this]; cases t with | nil => simp at ht | cons a b => rfl
    have kj : ∀ j (hj : j < t.length), w.cell? ⟨g, o + 1 + j, none⟩ = some (.int .u8 (t[j].toNat : Int)) := fun j hj => by
      have := hc (j + 1) (by simp; omega)
      rw [show o + 1 + j = o + (j + 1) by omega, this]; rfl
    simp only [Nat.add_zero, List.getElem_cons_zero] at k0
    have hcond : k.toNat ≤ 8 ∧ k.toNat ≤ t.length ∧ (0 < k.toNat → t.headD 1 ≠ 0) := by
      rcases Classical.em (k.toNat ≤ 8 ∧ k.toNat ≤ t.length ∧ (0 < k.toNat → t.headD 1 ≠ 0)) with e | e
      · exact e
      · rw [readU, if_neg e] at hr; cases hr
    rw [readU, if_pos hcond] at hr
    simp only [Option.some.injEq, Prod.mk.injEq] at hr
    obtain ⟨h8, hN, ht0⟩ := hcond
    obtain ⟨hx, hrest⟩ := hr
    have hk : k.toNat ≤ 255 := by have := k.toNat_lt; omega
    clear h hc hp
    simp only [List.length_cons] at *
    replace hx := Lib.hid hx
    replace hrest := Lib.hid hrest
    replace kj := Lib.hid kj
    obtain ⟨t0, htt0⟩ : ∃ t0, t.headD 1 = t0 := ⟨_, rfl⟩
    rw [htt0] at k1 ht0
    clear htt0
    obtain ⟨kk, hkk⟩ : ∃ kk, k.toNat = kk := ⟨_, rfl⟩
    rw [hkk] at k0 h8 hN ht0 hk hx hrest
    clear hkk
    obtain ⟨N, hNt⟩ : ∃ N, t.length = N := ⟨_, rfl⟩
    rw [hNt] at hN k1 hn ⊢
    replace hNt := Lib.hid hNt
    have hNN : (N : Int) + 1 ≤ 9223372036854775807 := by unfold maxLen at hm; omega
    have d8 : decide ((8 : Int) < (kk : Int)) = false := by simp; omega
    have nz : ((N : Int) + 1 == 0) = false := by simp; omega
    have wk : IntKind.i64.wrap (kk : Int) = kk := IntWalk.i64_in _ (by omega)
    have dN : decide ((N : Int) + 1 < 1 + (kk : Int)) = false := by simp; omega
    have hfacts : (∃ _ : (0 : Int) < (kk : Int), 0 < kk ∧ w.cell? ⟨g, o + 1, none⟩ = some (.int .u8 (t0.toNat : Int)) ∧ ((t0.toNat : Int) == 0) = false) ∨ (decide ((0 : Int) < (kk : Int)) = false ∧ decide (0 < kk) = false) := by
      by_cases hk0 : 0 < kk
      · refine .inl ⟨by omega, hk0, k1 (by omega), ?_⟩
        have := ht0 hk0
        have h9 : t0.toNat ≠ 0 := fun e => this (UInt8.toNat_inj.1 (by simpa using e))
        simp; omega
      · exact .inr ⟨by simp; omega, by simp; omega⟩
    clear ht0 k1
    rcases hfacts with ⟨dk, hk0, k1', t0n⟩ | ⟨dk, dk2⟩
    all_goals
      go_enter Try.func69, Try.ntmps69
      go_wp2
      go_loopw [4, 5] (fun n i wr => ∃ j : Nat, j ≤ kk ∧ i = .int .i64 j ∧ n = .int .u64 (valU (t.take j)) ∧ Keeps [] w wr) (fun _ i _ => kk - (intOf i).toNat)
      case atStart => exact ⟨0, by omega, rfl, rfl, Keeps.refl _ _⟩
      case round =>
        obtain ⟨j, hj, rfl, rfl, hkw⟩ := hrel
        have q0 := hkw.val k0
        have hvl := valU_lt j (t.take j) (by rw [List.length_take]; have := hNt.out; omega)
        by_cases hlt3 : j < kk
        · have hjt : j < t.length := by have := hNt.out; omega
          have hcj := hkw.val (kj.out j hjt)
          rw [show o + 1 + j = o + (1 + j) by omega] at hcj
          have hb8 : (t[j].toNat : Int) ≤ 255 := by have := t[j].toNat_lt; omega
          have hstep : Hid (valU (t.take (j + 1)) = valU (t.take j) * 256 + t[j].toNat) := by show _ = _; rw [List.take_succ_eq_append_getElem hjt, valU_snoc]
          have hvb : (valU (t.take j) : Int) < 72057594037927936 := by
            have : (256 : Nat) ^ j ≤ 256 ^ 7 := Nat.pow_le_pow_right (by omega) (by omega)
            omega
          clear hvl
          generalize t[j].toNat = y at *
          generalize hvv : valU (t.take j) = vv at *
          replace hkw := Lib.hid hkw
          replace hvv := Lib.hid hvv
          go_wp2
          go_roundw
          case rel => exact ⟨j + 1, by omega, by go_num, by rw [hstep.out]; go_num, hkw.out⟩
          case measure => simp [intOf]; omega
        · have hjk : j = kk := by omega
          subst hjk
          clear hvl
          rw [hx.out]
          replace hkw := Lib.hid hkw
          go_wp2
          (refine wp_region_quiet_lit (by kernel_rfl) (by kernel_rfl) ?_; (repeat (first | go_big_quiet_step (fail) | quiet_step (fail))); with_reducible refine wpQuiet_nil ?_; intro _ hw'; obtain ⟨nq, hw''⟩ := hw'; subst hw'')
          (repeat go_step)
          go_ret2
          exact ⟨⟨1 + j, by omega, by omega, by rw [← hrest.out, Nat.add_comm 1 j]; rfl, rfl⟩, hkw.out.drewN _⟩
end Go.Proofs.Ytilmcdieihmiaaa

namespace Go.Proofs.Ytilmcdieihmiaaa
open Go.RowKit

/-- The reference's reader in memory. -/
def RdR (w : World) (br : Nat) (v : Value) (l : List UInt8) (e : Int) : Prop := w.heap[br]? = some (.cells #[v, .int .i64 e] 97 (0, 0)) ∧ SlB w v l
theorem RdR.keeps {w w' : World} {br : Nat} {v : Value} {l : List UInt8} {e : Int} (h : RdR w br v l e) (hk : Keeps [] w w') : RdR w' br v l e :=
  ⟨(hk.block br (cell2_of h.1).2.2.2.2 (by simp)).trans h.1, h.2.keeps hk⟩
set_option maxRecDepth 100000 in
set_option maxHeartbeats 1000000 in
theorem failR_c (w : World) (br : Nat) (v : Value) (l : List UInt8) (e x : Int) (h : RdR w br v l e) :
    Calls Try.prog 70 #[.pointer (some ⟨br, 0, none⟩), .int .i64 x] w fun en w' => en = .returned (.tuple #[]) ∧ RdR w' br (.slice none 0 0) [] x ∧ Keeps [br] w w' := by
  obtain ⟨c0, c1, f0, f1, hlt⟩ := cell2_of h.1
  replace h := Lib.hid h
  go_enter Try.func70, Try.ntmps70
  go_wp2
  go_end0
  exact ⟨rfl, ⟨set2_1 (set2_0 h.out.1 _) _, SlB.nil _⟩, ((Keeps.refl _ _).setCell (.inr (by simp)) _).setCell (.inr (by simp)) _⟩
set_option maxRecDepth 100000 in
set_option maxHeartbeats 2000000 in
theorem uintR_c (w : World) (br : Nat) (v : Value) (l : List UInt8) (h : RdR w br v l 0) :
    Calls Try.prog 50 #[.pointer (some ⟨br, 0, none⟩)] w fun en w' => en = .returned (.int .u64 (rdU l).1) ∧ (∃ v', RdR w' br v' (rdU l).2.1 (rdU l).2.2) ∧ Keeps [br] w w' := by
  cases hr : readU l with
  | none =>
    have e : rdU l = (0, [], 11) := by simp [rdU, hr]
    rw [e]
    obtain ⟨c0, c1, f0, f1, hlt⟩ := cell2_of h.1
    replace h := Lib.hid h
    replace hr := Lib.hid hr
    clear e f0 f1
    go_enter Try.func50, Try.ntmps50
    go_wp2_with fail
    refine (number_bad _ _ _ h.out.2 hr.out).mono ?_
    rintro e w1 ⟨rfl, hk1⟩
    replace hk1 := Lib.hid hk1
    go_wp2_with fail
    refine (failR_c _ br v l 0 11 (h.out.keeps hk1.out)).mono ?_
    rintro e w2 ⟨rfl, hR, hk2⟩
    replace hR := Lib.hid hR
    have hk3 : Hid (Keeps [br] w w2) := hk1.out.of_nil.trans hk2
    clear hk2
    go_wp2
    go_ret
    exact ⟨rfl, ⟨_, hR.out⟩, hk3.out⟩
  | some p =>
    obtain ⟨x, r⟩ := p
    have e : rdU l = (x, r, 0) := by simp [rdU, hr]
    rw [e]
    obtain ⟨c0, c1, f0, f1, hlt⟩ := cell2_of h.1
    rcases h.2.cases with ⟨rfl, a, cp, rfl, _, _⟩ | ⟨g, o, cp, rfl, hn, hm, hp, hg, _⟩
    · cases hr
    · have htl := fun j (hj : j ≤ l.length) => h.2.tail j hj
      obtain ⟨N, hN⟩ : ∃ N, l.length = N := ⟨_, rfl⟩
      simp only [hN] at hn hp c0 htl
      replace h := Lib.hid h
      replace hr := Lib.hid hr
      replace htl := Lib.hid htl
      replace hN := Lib.hid hN
      clear e f1
      go_enter Try.func50, Try.ntmps50
      go_wp2_with fail
      refine (number_ok _ _ _ _ _ (by have := h.out.2; rw [hN.out] at this; exact this) hr.out).mono ?_
      rintro e w1 ⟨⟨j, hj0, hjl, hrest, rfl⟩, hk1⟩
      rw [hN.out] at hjl
      have hR1 := h.out.keeps hk1
      have c01 := hk1.val c0
      have f01 := (cell2_of hR1.1).2.2.1
      have hlt1 := (cell2_of hR1.1).2.2.2.2
      have hs1 := (htl.out j hjl).keeps hk1
      rw [← hrest] at hs1
      replace hk1 := Lib.hid hk1
      replace hR1 := Lib.hid hR1
      replace hs1 := Lib.hid hs1
      clear hrest
      have hj2 : ¬ ((j : Int) < 0) := by omega
      by_cases hcj : cp = j
      · have hs := hs1.out
        rw [if_pos hcj] at hs
        subst hcj
        rw [Nat.sub_self, show N - cp = 0 by omega] at hs
        replace hs := Lib.hid hs
        clear hs1
        go_wp2
        go_ret
        exact ⟨rfl, ⟨_, set2_0 hR1.out.1 _, hs.out.kb (KB.setCell w1 _ c01 (by simp))⟩, hk1.out.of_nil.setCell (.inr (by simp)) _⟩
      · go_wp2
        go_ret
        have hs := hs1.out
        rw [if_neg hcj] at hs
        exact ⟨rfl, ⟨_, set2_0 hR1.out.1 _, hs.kb (KB.setCell w1 _ c01 (by simp))⟩, hk1.out.of_nil.setCell (.inr (by simp)) _⟩
end Go.Proofs.Ytilmcdieihmiaaa

namespace Go.Proofs.Ytilmcdieihmiaaa
open Go.RowKit

/-- What is no datagram. -/
def Bad (d : Bytes) : Prop := d = [] ∨ ∃ k t, d = k :: t ∧ ((k ≠ 1 ∧ k ≠ 2) ∨ readU t = none ∨ ∃ q rest, readU t = some (q, rest) ∧ ((k = 2 ∧ rest ≠ []) ∨ (k = 1 ∧ q = 0)))
theorem kinds (d : Bytes) : Bad d ∨ (∃ t q rest, d = 1 :: t ∧ readU t = some (q, rest) ∧ 0 < q) ∨ (∃ t q, d = 2 :: t ∧ readU t = some (q, [])) := by
  cases d with
  | nil => exact .inl (.inl rfl)
  | cons k t =>
    by_cases h1 : k = 1
    · subst h1
      cases hr : readU t with
      | none => exact .inl (.inr ⟨1, t, rfl, .inr (.inl hr)⟩)
      | some p =>
        obtain ⟨q, rest⟩ := p
        rcases Nat.eq_zero_or_pos q with e | e
        · exact .inl (.inr ⟨1, t, rfl, .inr (.inr ⟨q, rest, hr, .inr ⟨rfl, e⟩⟩)⟩)
        · exact .inr (.inl ⟨t, q, rest, rfl, hr, e⟩)
    · by_cases h2 : k = 2
      · subst h2
        cases hr : readU t with
        | none => exact .inl (.inr ⟨2, t, rfl, .inr (.inl hr)⟩)
        | some p =>
          obtain ⟨q, rest⟩ := p
          cases rest with
          | nil => exact .inr (.inr ⟨t, q, rfl, hr⟩)
          | cons a b => exact .inl (.inr ⟨2, t, rfl, .inr (.inr ⟨q, a :: b, hr, .inl ⟨rfl, by simp⟩⟩)⟩)
      · exact .inl (.inr ⟨k, t, rfl, .inl ⟨h1, h2⟩⟩)

theorem box_two (w : World) (A B : Obj) : ((w.alloc A).alloc B).heap[w.heap.size]? = some A ∧ ((w.alloc A).alloc B).heap[w.heap.size + 1]? = some B ∧ Keeps [] w ((w.alloc A).alloc B) :=
  ⟨heap_alloc2_old w A B, heap_alloc2_new w A B, ((Keeps.refl [] w).alloc _).alloc _⟩
abbrev zEnd : Obj := .cells #[.int .i64 0, .int .i64 0, .slice none 0 0, .int .i64 0, .slice none 0 0] tyEnd
theorem u8_ne {k : UInt8} {n : Nat} (hn : n < 256) (h : k ≠ UInt8.ofNat n) : ((k.toNat : Int) == (n : Int)) = false := by
  have : k.toNat ≠ n := fun e => h (by rw [← e]; simp)
  simp; omega

set_option maxRecDepth 100000 in
set_option maxHeartbeats 4000000 in
theorem recvR_bad0 (w : World) (s a r : Nat) (vk ve vd : Value) (d : Bytes) (hvk : ∃ b n c, vk = .slice b n c) (hve : ∃ b n c, ve = .slice b n c) (hd : SlB w vd d) (h : d = [] ∨ ∃ k t, d = k :: t ∧ k ≠ 1 ∧ k ≠ 2) :
    Calls Try.prog 31 #[.agg #[.int .i64 s, .int .i64 a, vk, .int .i64 r, ve], vd] w fun e w' => e = .returned (.tuple #[.agg #[.int .i64 s, .int .i64 a, vk, .int .i64 r, ve], .slice none 0 0, .int .i64 11]) ∧ Keeps [] w w' := by
  obtain ⟨bk, nk, ck, rfl⟩ := hvk
  obtain ⟨be, ne, ce, rfl⟩ := hve
  obtain ⟨_, _, q3⟩ := box_two w (.cells #[.int .i64 s, .int .i64 a, .slice bk nk ck, .int .i64 r, .slice be ne ce] tyEnd) zEnd
  have hfin := box_two w (.cells #[.int .i64 s, .int .i64 a, .slice bk nk ck, .int .i64 r, .slice be ne ce] tyEnd) (.cells #[.int .i64 s, .int .i64 a, .slice bk nk ck, .int .i64 r, .slice be ne ce] tyEnd)
  replace hfin := Lib.hid hfin
  replace q3 := Lib.hid q3
  rcases h with rfl | ⟨k, t, rfl, hk1, hk2⟩
  · obtain ⟨ad, cd, rfl⟩ := hd.form
    clear hd
    simp only [List.length_nil]
    go_enter Try.func31, Try.ntmps31
    go_wp2
    obtain ⟨g1, g2, g3⟩ := hfin.out
    refine bodyPost_ret (results_end3 rfl _ _ _ _ _ _ _ _ _ _ rfl g2) rfl ?_
    exact ⟨rfl, g3⟩
  · rcases hd.cases with ⟨h0, _⟩ | ⟨g, o, cp, rfl, hn, hm, hp, hg, hc⟩
    · cases h0
    · have k0 := hc 0 (by simp)
      simp only [Nat.add_zero, List.getElem_cons_zero] at k0
      obtain ⟨N, hN⟩ : ∃ N, t.length = N := ⟨_, rfl⟩
      simp only [List.length_cons, hN] at hn ⊢
      have e1 : ((k.toNat : Int) == 1) = false := u8_ne (by decide) hk1
      have e2 : ((k.toNat : Int) == 2) = false := u8_ne (by decide) hk2
      have hk255 : (k.toNat : Int) ≤ 255 := by have := k.toNat_lt; omega
      have e1' : ((k.toNat : Int) != 1) = true := by simpa [bne] using e1
      have e2' : ((k.toNat : Int) != 2) = true := by simpa [bne] using e2
      have nz : ((N : Int) + 1 == 0) = false := by simp; omega
      have k1 : ((w.alloc (.cells #[.int .i64 s, .int .i64 a, .slice bk nk ck, .int .i64 r, .slice be ne ce] tyEnd)).alloc zEnd).cell? ⟨g, o, none⟩ = some (.int .u8 (k.toNat : Int)) := q3.out.val k0
      generalize k.toNat = kk at *
      clear hd hc hN hk1 hk2
      go_enter Try.func31, Try.ntmps31
      go_wp2
      obtain ⟨g1, g2, g3⟩ := hfin.out
      refine bodyPost_ret (results_end3 rfl _ _ _ _ _ _ _ _ _ _ rfl g2) rfl ?_
      exact ⟨rfl, g3⟩
end Go.Proofs.Ytilmcdieihmiaaa

namespace Go.Proofs.Ytilmcdieihmiaaa
open Go.RowKit

set_option maxRecDepth 100000 in
set_option maxHeartbeats 4000000 in
theorem receive_bad (w : World) (bc : Nat) (v0 : Value) (d : List UInt8) (h : SlB w v0 d) (hl : d.length ≤ 140737488355000) (hb : Bad d) :
    Calls Try.prog 13 #[.pointer (some ⟨bc, 0, none⟩), v0] w fun e w' => e = .returned (.tuple #[.slice none 0 0, .int .i64 11]) ∧ Keeps [] w w' := by
  rcases h.cases with ⟨rfl, a, cp, rfl, _, _⟩ | ⟨g, o, cp, rfl, hn, hm, hp, hg, hc⟩
  · clear h hb hl
    go_enter Try.func13, Try.ntmps13
    go_wp2
    go_ret2
    exact ⟨rfl, Keeps.refl _ _⟩
  · obtain ⟨k, t, rfl⟩ : ∃ k t, d = k :: t := by cases d with | nil => simp at hp | cons k t => exact ⟨k, t, rfl⟩
    have k0 := hc 0 (by simp)
    simp only [Nat.add_zero, List.getElem_cons_zero] at k0
    have ht := h.tail 1 (by simp)
    simp only [List.length_cons, List.drop_succ_cons, List.drop_zero, Nat.add_sub_cancel] at ht
    obtain ⟨N, hN⟩ : ∃ N, t.length = N := ⟨_, rfl⟩
    simp only [List.length_cons, hN] at hn ht hl ⊢
    have hNh := Lib.hid hN
    have hb' : (k ≠ 1 ∧ k ≠ 2) ∨ readU t = none ∨ ∃ q rest, readU t = some (q, rest) ∧ ((k = 2 ∧ rest ≠ []) ∨ (k = 1 ∧ q = 0)) := by
      rcases hb with h0 | ⟨k', t', e, hb⟩
      · cases h0
      · cases e; exact hb
    replace hb' := Lib.hid hb'
    have nz : ((N : Int) + 1 == 0) = false := by simp; omega
    have hk255 : (k.toNat : Int) ≤ 255 := by have := k.toNat_lt; omega
    clear hb hc h hN hp
    have hcp : (N = 0 ∧ cp = 1) ∨ ¬ cp = 1 := by omega
    rcases hcp with ⟨rfl, rfl⟩ | hcp1
    · rw [if_pos rfl] at ht
      have htn : t = [] := List.length_eq_zero_iff.1 hNh.out
      subst htn
      replace ht := Lib.hid ht
      have hr : Hid (readU [] = none) := rfl
      generalize k.toNat = kk at *
      clear hb'
      go_enter Try.func13, Try.ntmps13
      go_wp2_with fail
      refine (newReader_c _ _ _ ht.out (by simp)).mono ?_
      rintro e w1 ⟨br, vr, rfl, hbr, hR1, hk1⟩
      replace hR1 := Lib.hid hR1
      go_wp2_with fail
      refine (uint_bad _ br _ _ hR1.out hr.out).mono ?_
      rintro e w2 ⟨rfl, hR2, hk2⟩
      have hk02 : Keeps [] w w2 := hk1.fresh hk2 (by simp; omega)
      replace hR2 := Lib.hid hR2
      replace hk02 := Lib.hid hk02
      clear hk1 hk2 hR1
      go_wp2_with fail
      refine (left_c _ br _ _ _ hR2.out).mono ?_
      rintro e w3 ⟨rfl, rfl⟩
      simp only [List.length_nil]
      go_wp2_with fail
      refine (done_c _ br _ _ _ hR2.out).mono ?_
      rintro e w3 ⟨rfl, rfl⟩
      rw [show doneE [] 11 = 11 from rfl]
      go_wp2
      go_ret2
      exact ⟨rfl, hk02.out⟩
    · rw [if_neg hcp1] at ht
      replace ht := Lib.hid ht
      cases hr0 : readU t with
      | none =>
        have hr := Lib.hid hr0
        generalize k.toNat = kk at *
        clear hb'
        go_enter Try.func13, Try.ntmps13
        go_wp2_with fail
        refine (newReader_c _ _ _ ht.out (by have := hNh.out; omega)).mono ?_
        rintro e w1 ⟨br, vr, rfl, hbr, hR1, hk1⟩
        replace hR1 := Lib.hid hR1
        go_wp2_with fail
        refine (uint_bad _ br _ _ hR1.out hr.out).mono ?_
        rintro e w2 ⟨rfl, hR2, hk2⟩
        have hk02 : Keeps [] w w2 := hk1.fresh hk2 (by simp; omega)
        replace hR2 := Lib.hid hR2
        replace hk02 := Lib.hid hk02
        clear hk1 hk2 hR1
        go_wp2_with fail
        refine (left_c _ br _ _ _ hR2.out).mono ?_
        rintro e w3 ⟨rfl, rfl⟩
        simp only [List.length_nil]
        go_wp2_with fail
        refine (done_c _ br _ _ _ hR2.out).mono ?_
        rintro e w3 ⟨rfl, rfl⟩
        rw [show doneE [] 11 = 11 from rfl]
        go_wp2
        go_ret2
        exact ⟨rfl, hk02.out⟩
      | some p =>
        obtain ⟨q, rest⟩ := p
        have hr := Lib.hid hr0
        have hcs : (k ≠ 1 ∧ k ≠ 2) ∨ (k = 2 ∧ rest ≠ []) ∨ (k = 1 ∧ q = 0) := by
          rcases hb'.out with h1 | h1 | ⟨q', r', h1, h2⟩
          · exact .inl h1
          · rw [hr0] at h1; cases h1
          · rw [hr0] at h1; cases h1; exact .inr h2
        have hf : (k.toNat : Int) = 1 ∧ q = 0 ∨ (k.toNat : Int) = 2 ∧ 0 < rest.length ∨ (((k.toNat : Int) == 1) = false ∧ ((k.toNat : Int) == 2) = false) := by
          rcases hcs with ⟨h1, h2⟩ | ⟨rfl, h2⟩ | ⟨rfl, h2⟩
          · exact .inr (.inr ⟨u8_ne (by decide) h1, u8_ne (by decide) h2⟩)
          · exact .inr (.inl ⟨rfl, List.length_pos_iff.2 h2⟩)
          · exact .inl ⟨rfl, h2⟩
        generalize k.toNat = kk at *
        clear hb' hcs
        go_enter Try.func13, Try.ntmps13
        go_wp2_with fail
        refine (newReader_c _ _ _ ht.out (by have := hNh.out; omega)).mono ?_
        rintro e w1 ⟨br, vr, rfl, hbr, hR1, hk1⟩
        replace hR1 := Lib.hid hR1
        go_wp2_with fail
        refine (uint_ok _ br _ _ _ _ hR1.out hr.out).mono ?_
        rintro e w2 ⟨rfl, ⟨vr2, hR2⟩, hk2⟩
        have hk02 : Keeps [] w w2 := hk1.fresh hk2 (by simp; omega)
        have k02 : w2.cell? ⟨g, o, none⟩ = _ := hk02.val k0
        replace hR2 := Lib.hid hR2
        replace hk02 := Lib.hid hk02
        clear hk1 hk2 hR1
        go_wp2_with fail
        refine (left_c _ br _ _ _ hR2.out).mono ?_
        rintro e w3 ⟨rfl, rfl⟩
        obtain ⟨RL, hRL⟩ : ∃ RL, rest.length = RL := ⟨_, rfl⟩
        rw [hRL] at hf ⊢
        by_cases hR0 : RL = 0
        · have hrn : rest = [] := List.length_eq_zero_iff.1 (by rw [hRL]; exact hR0)
          subst hR0
          replace hRL := Lib.hid hRL
          go_wp2_with fail
          refine (done_c _ br _ _ _ hR2.out).mono ?_
          rintro e w3 ⟨rfl, rfl⟩
          rw [show doneE rest 0 = 0 by rw [hrn]; rfl]
          replace hrn := Lib.hid hrn
          rcases hf with ⟨h1, h2⟩ | ⟨_, h2⟩ | ⟨h1, h2⟩
          · obtain rfl : kk = 1 := by omega
            subst h2
            clear h1
            go_wp2
            go_ret2
            exact ⟨rfl, hk02.out⟩
          · omega
          · go_wp2
            go_ret2
            exact ⟨rfl, hk02.out⟩
        · have hRi : ((RL : Int) == 0) = false := by simp; omega
          replace hRL' := Lib.hid hRL
          rcases hf with ⟨h1, h2⟩ | ⟨h1, h2⟩ | ⟨h1, h2⟩
          · obtain rfl : kk = 1 := by omega
            subst h2
            clear h1 hRL
            go_wp2
            go_ret2
            exact ⟨rfl, hk02.out⟩
          · obtain rfl : kk = 2 := by omega
            clear h1 hRL
            go_wp2_with fail
            refine (left_c _ br _ _ _ hR2.out).mono ?_
            rintro e w3 ⟨rfl, rfl⟩
            rw [hRL'.out]
            go_wp2
            go_ret2
            exact ⟨rfl, hk02.out⟩
          · clear hRL
            go_wp2
            go_ret2
            exact ⟨rfl, hk02.out⟩
end Go.Proofs.Ytilmcdieihmiaaa

namespace Go.Proofs.Ytilmcdieihmiaaa
open Go.RowKit

/-- The reader that is made over the rest, and the blocks ahead of it. -/
theorem box_reader (w : World) (A B : Obj) (v : Value) (t : Bytes) (h : SlB w v t) : RdR (((w.alloc A).alloc B).alloc (.cells #[v, .int .i64 0] 97)) (w.heap.size + 1 + 1) v t 0 := by
  refine ⟨?_, h.keeps ((((Keeps.refl [] w).alloc A).alloc B).alloc _)⟩
  simpa using heap_alloc_new ((w.alloc A).alloc B) (.cells #[v, .int .i64 0] 97)
theorem after_reader {w w1 : World} {A B C : Obj} (hk : Keeps [w.heap.size + 1 + 1] (((w.alloc A).alloc B).alloc C) w1) :
    w.heap.size + 3 ≤ w1.heap.size ∧ Keeps [] w w1 ∧ w1.heap[w.heap.size]? = some A ∧ w1.heap[w.heap.size + 1]? = some B := by
  refine ⟨by simpa using hk.size, ((((Keeps.refl [] w).alloc A).alloc B).alloc C).fresh hk (by simp; omega), ?_, ?_⟩
  · exact (hk.block w.heap.size (by simp; omega) (by simp; omega)).trans (heap_box2 w A B C)
  · exact (hk.block (w.heap.size + 1) (by simp) (by simp)).trans (heap_box3 w A B C)

set_option maxRecDepth 100000 in
set_option maxHeartbeats 4000000 in
theorem recvR_bad1 (w : World) (s a r : Nat) (vk ve vd : Value) (k : UInt8) (t : Bytes) (hvk : ∃ b n c, vk = .slice b n c) (hve : ∃ b n c, ve = .slice b n c) (hd : SlB w vd (k :: t)) (hk : k = 1 ∨ k = 2)
    (hb : readU t = none ∨ ∃ q rest, readU t = some (q, rest) ∧ ((k = 2 ∧ rest ≠ []) ∨ (k = 1 ∧ q = 0))) :
    Calls Try.prog 31 #[.agg #[.int .i64 s, .int .i64 a, vk, .int .i64 r, ve], vd] w fun e w' => e = .returned (.tuple #[.agg #[.int .i64 s, .int .i64 a, vk, .int .i64 r, ve], .slice none 0 0, .int .i64 11]) ∧ Keeps [] w w' := by
  obtain ⟨bk, nk, ck, rfl⟩ := hvk
  obtain ⟨be, ne, ce, rfl⟩ := hve
  obtain ⟨_, _, q3⟩ := box_two w (.cells #[.int .i64 s, .int .i64 a, .slice bk nk ck, .int .i64 r, .slice be ne ce] tyEnd) zEnd
  replace q3 := Lib.hid q3
  rcases hd.cases with ⟨h0, _⟩ | ⟨g, o, cp, rfl, hn, hm, hp, hg, hc⟩
  · cases h0
  · have k0 := hc 0 (by simp)
    simp only [Nat.add_zero, List.getElem_cons_zero] at k0
    have ht := hd.tail 1 (by simp)
    simp only [List.length_cons, List.drop_succ_cons, List.drop_zero, Nat.add_sub_cancel] at ht
    obtain ⟨N, hN⟩ : ∃ N, t.length = N := ⟨_, rfl⟩
    simp only [List.length_cons, hN] at hn ht ⊢
    have nz : ((N : Int) + 1 == 0) = false := by simp; omega
    clear hd hc hp
    have hcp : (N = 0 ∧ cp = 1) ∨ ¬ cp = 1 := by omega
    have hk255 : (k.toNat : Int) ≤ 255 := by have := k.toNat_lt; omega
    replace hN := Lib.hid hN
    rcases hcp with ⟨rfl, rfl⟩ | hcp1
    · rw [if_pos rfl] at ht
      have htn : t = [] := List.length_eq_zero_iff.1 hN.out
      subst htn
      have hRd := box_reader w (.cells #[.int .i64 s, .int .i64 a, .slice bk nk ck, .int .i64 r, .slice be ne ce] tyEnd) zEnd _ [] ht
      replace hRd := Lib.hid hRd
      have hr : readU [] = none := rfl
      clear ht hb
      rcases hk with rfl | rfl
      · have k0' : w.cell? ⟨g, o, none⟩ = some (.int .u8 1) := k0
        clear k0
        go_enter Try.func31, Try.ntmps31
        go_wp2_with fail
        refine (uintR_c _ _ _ [] hRd.out).mono ?_
        rintro e w1 ⟨rfl, ⟨v1, hR1⟩, hk1⟩
        obtain ⟨hsz1, hk01, hb1, hr1⟩ := after_reader hk1
        have k1 : w1.cell? ⟨g, o, none⟩ = _ := hk01.val k0'
        obtain ⟨p0, p1, p2, p3, p4, pf, plt⟩ := cells5 hb1
        obtain ⟨z0, z1, z2, z3, z4, zf, zlt⟩ := cells5 hr1
        have hfin := set5_all hr1 (by simp [noB]) (.int .i64 s) (.int .i64 a) (.slice bk nk ck) (.int .i64 r) (.slice be ne ce)
        replace hfin := Lib.hid hfin
        replace hk01 := Lib.hid hk01
        clear hk1 hb1 hr1
        rw [show rdU [] = (0, [], 11) by simp [rdU, hr]] at hR1 ⊢
        obtain ⟨v1a, v1c, rfl⟩ := hR1.2.form
        obtain ⟨c0, c1, _, _, clt⟩ := cell2_of hR1.1
        clear hR1
        go_wp2
        obtain ⟨g1, g2, g3⟩ := hfin.out
        refine bodyPost_ret (results_end3 rfl _ _ _ _ _ _ _ _ _ _ rfl g1) rfl ?_
        exact ⟨rfl, hk01.out.fresh g2 (by simp)⟩
      · have k0' : w.cell? ⟨g, o, none⟩ = some (.int .u8 2) := k0
        clear k0
        go_enter Try.func31, Try.ntmps31
        go_wp2_with fail
        refine (uintR_c _ _ _ [] hRd.out).mono ?_
        rintro e w1 ⟨rfl, ⟨v1, hR1⟩, hk1⟩
        obtain ⟨hsz1, hk01, hb1, hr1⟩ := after_reader hk1
        have k1 : w1.cell? ⟨g, o, none⟩ = _ := hk01.val k0'
        obtain ⟨p0, p1, p2, p3, p4, pf, plt⟩ := cells5 hb1
        obtain ⟨z0, z1, z2, z3, z4, zf, zlt⟩ := cells5 hr1
        have hfin := set5_all hr1 (by simp [noB]) (.int .i64 s) (.int .i64 a) (.slice bk nk ck) (.int .i64 r) (.slice be ne ce)
        replace hfin := Lib.hid hfin
        replace hk01 := Lib.hid hk01
        clear hk1 hb1 hr1
        rw [show rdU [] = (0, [], 11) by simp [rdU, hr]] at hR1 ⊢
        obtain ⟨v1a, v1c, rfl⟩ := hR1.2.form
        obtain ⟨c0, c1, _, _, clt⟩ := cell2_of hR1.1
        clear hR1
        go_wp2
        obtain ⟨g1, g2, g3⟩ := hfin.out
        refine bodyPost_ret (results_end3 rfl _ _ _ _ _ _ _ _ _ _ rfl g1) rfl ?_
        exact ⟨rfl, hk01.out.fresh g2 (by simp)⟩
    · rw [if_neg hcp1] at ht
      have hRd := box_reader w (.cells #[.int .i64 s, .int .i64 a, .slice bk nk ck, .int .i64 r, .slice be ne ce] tyEnd) zEnd _ t ht
      replace hRd := Lib.hid hRd
      clear ht
      replace hb := Lib.hid hb
      rcases hk with rfl | rfl
      · have k0' : w.cell? ⟨g, o, none⟩ = some (.int .u8 1) := k0
        clear k0
        go_enter Try.func31, Try.ntmps31
        go_wp2_with fail
        refine (uintR_c _ _ _ t hRd.out).mono ?_
        rintro e w1 ⟨rfl, ⟨v1, hR1⟩, hk1⟩
        obtain ⟨hsz1, hk01, hb1, hr1⟩ := after_reader hk1
        have k1 : w1.cell? ⟨g, o, none⟩ = _ := hk01.val k0'
        obtain ⟨p0, p1, p2, p3, p4, pf, plt⟩ := cells5 hb1
        obtain ⟨z0, z1, z2, z3, z4, zf, zlt⟩ := cells5 hr1
        have hfin := set5_all hr1 (by simp [noB]) (.int .i64 s) (.int .i64 a) (.slice bk nk ck) (.int .i64 r) (.slice be ne ce)
        replace hfin := Lib.hid hfin
        replace hk01 := Lib.hid hk01
        clear hk1 hb1 hr1
        rcases hb.out with hr | ⟨q, rest, hr, hq⟩
        · rw [show rdU t = (0, [], 11) by simp [rdU, hr]] at hR1 ⊢
          obtain ⟨v1a, v1c, rfl⟩ := hR1.2.form
          obtain ⟨c0, c1, _, _, clt⟩ := cell2_of hR1.1
          clear hR1
          go_wp2
          obtain ⟨g1, g2, g3⟩ := hfin.out
          refine bodyPost_ret (results_end3 rfl _ _ _ _ _ _ _ _ _ _ rfl g1) rfl ?_
          exact ⟨rfl, hk01.out.fresh g2 (by simp)⟩
        · rw [show rdU t = (q, rest, 0) by simp [rdU, hr]] at hR1 ⊢
          obtain ⟨v1a, v1c, rfl⟩ := hR1.2.form
          obtain ⟨c0, c1, _, _, clt⟩ := cell2_of hR1.1
          clear hR1 hr
          have hq0 : q = 0 := by rcases hq with ⟨h, _⟩ | ⟨_, h⟩; exact absurd h (by decide); exact h
          clear hq
          subst hq0
          go_wp2
          obtain ⟨g1, g2, g3⟩ := hfin.out
          refine bodyPost_ret (results_end3 rfl _ _ _ _ _ _ _ _ _ _ rfl g1) rfl ?_
          exact ⟨rfl, hk01.out.fresh g2 (by simp)⟩
      · have k0' : w.cell? ⟨g, o, none⟩ = some (.int .u8 2) := k0
        clear k0
        go_enter Try.func31, Try.ntmps31
        go_wp2_with fail
        refine (uintR_c _ _ _ t hRd.out).mono ?_
        rintro e w1 ⟨rfl, ⟨v1, hR1⟩, hk1⟩
        obtain ⟨hsz1, hk01, hb1, hr1⟩ := after_reader hk1
        have k1 : w1.cell? ⟨g, o, none⟩ = _ := hk01.val k0'
        obtain ⟨p0, p1, p2, p3, p4, pf, plt⟩ := cells5 hb1
        obtain ⟨z0, z1, z2, z3, z4, zf, zlt⟩ := cells5 hr1
        have hfin := set5_all hr1 (by simp [noB]) (.int .i64 s) (.int .i64 a) (.slice bk nk ck) (.int .i64 r) (.slice be ne ce)
        replace hfin := Lib.hid hfin
        replace hk01 := Lib.hid hk01
        clear hk1 hb1 hr1
        rcases hb.out with hr | ⟨q, rest, hr, hq⟩
        · rw [show rdU t = (0, [], 11) by simp [rdU, hr]] at hR1 ⊢
          obtain ⟨v1a, v1c, rfl⟩ := hR1.2.form
          obtain ⟨c0, c1, _, _, clt⟩ := cell2_of hR1.1
          clear hR1
          go_wp2
          obtain ⟨g1, g2, g3⟩ := hfin.out
          refine bodyPost_ret (results_end3 rfl _ _ _ _ _ _ _ _ _ _ rfl g1) rfl ?_
          exact ⟨rfl, hk01.out.fresh g2 (by simp)⟩
        · rw [show rdU t = (q, rest, 0) by simp [rdU, hr]] at hR1 ⊢
          obtain ⟨v1a, v1c, rfl⟩ := hR1.2.form
          obtain ⟨c0, c1, _, _, clt⟩ := cell2_of hR1.1
          clear hR1 hr
          have hrl : (0 : Int) < rest.length := by
            rcases hq with ⟨_, h⟩ | ⟨h, _⟩
            · have := List.length_pos_iff.2 h; omega
            · exact absurd h (by decide)
          clear hq
          generalize rest.length = RL at *
          go_wp2
          obtain ⟨g1, g2, g3⟩ := hfin.out
          refine bodyPost_ret (results_end3 rfl _ _ _ _ _ _ _ _ _ _ rfl g1) rfl ?_
          exact ⟨rfl, hk01.out.fresh g2 (by simp)⟩
end Go.Proofs.Ytilmcdieihmiaaa

namespace Go.Proofs.Ytilmcdieihmiaaa
open Go.RowKit

theorem SLs.sls_tail {w : World} {a : Option Addr} {n c : Nat} {ls : List Bytes} (h : SLs w (.slice a n c) ls) : 0 < ls.length → ∃ g o, a = some ⟨g, o, none⟩ ∧ ls.length ≤ c ∧ ∀ j, j ≤ ls.length → SLs w (.slice (if c = j then some ⟨g, o, none⟩ else some ⟨g, o + j, none⟩) (ls.length - j) (c - j)) (ls.drop j) := fun hp => by
  rcases h.cases with ⟨h0, _⟩ | ⟨g, o, cp, e, hcap, _⟩
  · rw [h0] at hp; simp at hp
  · cases e; exact ⟨g, o, rfl, hcap, fun j hj => h.tail j hj⟩
/-- The error that an acknowledgement gives. -/
def ackC (s q : Nat) : Int := if s < q then 2 else 0
def REnd.ackd (E : REnd) (n : Nat) : REnd := if E.acked < n ∧ n ≤ E.sent then { E with acked := n, kept := E.kept.drop (n - E.acked) } else E
set_option maxRecDepth 100000 in
set_option maxHeartbeats 4000000 in
theorem recvR_ack (w : World) (E : REnd) (vk ve vd : Value) (t : Bytes) (q : Nat) (h : RE w vk ve E) (hd : SlB w vd (2 :: t)) (hr : readU t = some (q, [])) (hs : E.sent < 1099511627776) (hks : E.kept.length + E.acked = E.sent) :
    Calls Try.prog 31 #[.agg #[.int .i64 E.sent, .int .i64 E.acked, vk, .int .i64 E.received, ve], vd] w fun e w' => ∃ vk', e = .returned (.tuple #[.agg #[.int .i64 E.sent, .int .i64 (E.ackd q).acked, vk', .int .i64 E.received, ve], .slice none 0 0, .int .i64 (ackC E.sent q)]) ∧ RE w' vk' ve (E.ackd q) ∧ Keeps [] w w' ∧ vk'.ownBlock = vk.ownBlock := by
  have hq64 := (readU_drop hr).2
  obtain ⟨s, hse⟩ : ∃ s, E.sent = s := ⟨_, rfl⟩
  obtain ⟨a, hae⟩ : ∃ a, E.acked = a := ⟨_, rfl⟩
  obtain ⟨r, hre⟩ : ∃ r, E.received = r := ⟨_, rfl⟩
  obtain ⟨bk, ck, rfl, hkm⟩ := h.kept.form
  obtain ⟨be, ce, rfl⟩ := h.early.form
  have hack0 : ∀ x, ¬ (a < x ∧ x ≤ s) → E.ackd x = E := fun x hx => if_neg (by rw [hae, hse]; exact hx)
  have hack1 : ∀ x, (a < x ∧ x ≤ s) → E.ackd x = { E with acked := x, kept := E.kept.drop (x - a) } := fun x hx => by rw [← hae, ← hse] at hx; rw [← hae]; exact if_pos hx
  have hkc := h.kept.sls_tail
  obtain ⟨nk, hnk⟩ : ∃ n, E.kept.length = n := ⟨_, rfl⟩
  obtain ⟨ne, hne⟩ : ∃ n, E.early.length = n := ⟨_, rfl⟩
  rw [hnk, hse, hae] at hks
  rw [hnk] at hkm hkc
  rw [hse] at hs
  rw [hnk, hne] at h
  rw [hse, hae, hre, hnk, hne]
  obtain ⟨_, _, q3⟩ := box_two w (.cells #[.int .i64 s, .int .i64 a, .slice bk nk ck, .int .i64 r, .slice be ne ce] tyEnd) zEnd
  replace q3 := Lib.hid q3
  replace h := Lib.hid h
  replace hack0 := Lib.hid hack0
  replace hack1 := Lib.hid hack1
  replace hkc := Lib.hid hkc
  replace hse := Lib.hid hse
  replace hae := Lib.hid hae
  replace hre := Lib.hid hre
  replace hnk := Lib.hid hnk
  replace hne := Lib.hid hne
  rcases hd.cases with ⟨h0, _⟩ | ⟨g, o, cp, rfl, hn, hm, hp, hg, hc⟩
  · cases h0
  · have k0 := hc 0 (by simp)
    simp only [Nat.add_zero, List.getElem_cons_zero] at k0
    have ht := hd.tail 1 (by simp)
    simp only [List.length_cons, List.drop_succ_cons, List.drop_zero, Nat.add_sub_cancel] at ht
    have ht0 : 0 < t.length := by cases t with | nil => cases hr | cons a b => simp
    obtain ⟨N, hN⟩ : ∃ N, t.length = N := ⟨_, rfl⟩
    simp only [List.length_cons, hN] at hn ht ht0 ⊢
    have nz : ((N : Int) + 1 == 0) = false := by simp; omega
    clear hd hc hp
    have hcp1 : ¬ cp = 1 := by omega
    rw [if_neg hcp1] at ht
    have hRd := box_reader w (.cells #[.int .i64 s, .int .i64 a, .slice bk nk ck, .int .i64 r, .slice be ne ce] tyEnd) zEnd _ t ht
    replace hRd := Lib.hid hRd
    clear ht hN
    replace hr := Lib.hid hr
    have k0' : w.cell? ⟨g, o, none⟩ = some (.int .u8 2) := k0
    clear k0
    go_enter Try.func31, Try.ntmps31
    go_wp2_with fail
    refine (uintR_c _ _ _ t hRd.out).mono ?_
    rintro e w1 ⟨rfl, ⟨v1, hR1⟩, hk1⟩
    obtain ⟨hsz1, hk01, hb1, hr1⟩ := after_reader hk1
    have k1 : w1.cell? ⟨g, o, none⟩ = _ := hk01.val k0'
    obtain ⟨p0, p1, p2, p3, p4, pf, plt⟩ := cells5 hb1
    obtain ⟨z0, z1, z2, z3, z4, zf, zlt⟩ := cells5 hr1
    rw [show rdU t = (q, [], 0) by simp [rdU, hr.out]] at hR1 ⊢
    obtain ⟨v1a, v1c, rfl⟩ := hR1.2.form
    obtain ⟨c0, c1, _, _, clt⟩ := cell2_of hR1.1
    simp only [List.length_nil] at c0
    replace hk01 := Lib.hid hk01
    clear hk1 hR1
    by_cases hfar : s < q
    · have hfin := set5_all hr1 (by simp [noB]) (.int .i64 s) (.int .i64 a) (.slice bk nk ck) (.int .i64 r) (.slice be ne ce)
      replace hfin := Lib.hid hfin
      have hE := Lib.hid (hack0.out q (by omega))
      clear hb1 hr1
      go_wp2
      obtain ⟨g1, g2, g3⟩ := hfin.out
      refine bodyPost_ret (results_end3 rfl _ _ _ _ _ _ _ _ _ _ rfl g1) rfl ?_
      refine ⟨.slice bk nk ck, ?_, ?_, hk01.out.fresh g2 (by simp), rfl⟩
      · rw [hE.out, hae.out, show ackC s q = 2 from if_pos hfar]; rfl
      · rw [hE.out]; exact h.out.keeps (hk01.out.fresh g2 (by simp))
    · by_cases hold : q ≤ a
      · have hfin := set5_all hr1 (by simp [noB]) (.int .i64 s) (.int .i64 a) (.slice bk nk ck) (.int .i64 r) (.slice be ne ce)
        replace hfin := Lib.hid hfin
        have hE := Lib.hid (hack0.out q (by omega))
        clear hb1 hr1
        go_wp2
        obtain ⟨g1, g2, g3⟩ := hfin.out
        refine bodyPost_ret (results_end3 rfl _ _ _ _ _ _ _ _ _ _ rfl g1) rfl ?_
        refine ⟨.slice bk nk ck, ?_, ?_, hk01.out.fresh g2 (by simp), rfl⟩
        · rw [hE.out, hae.out, show ackC s q = 0 from if_neg hfar]; rfl
        · rw [hE.out]; exact h.out.keeps (hk01.out.fresh g2 (by simp))
      · have hE := hack1.out q (by omega)
        obtain ⟨j, hj⟩ : ∃ j, q - a = j := ⟨_, rfl⟩
        rw [hj] at hE
        replace hE := Lib.hid hE
        have hji : (q : Int) - a = j := by omega
        have hjp : 0 < j := by omega
        have hjp2 : (0 : Int) < j := by omega
        have hnk0 : 0 < nk := by omega
        have hjk : j ≤ nk := by omega
        obtain ⟨gk, ok, rfl, hkcap, htl⟩ := hkc.out hnk0
        have htl := htl j hjk
        by_cases hc0 : ck = j
        · rw [if_pos hc0] at htl
          subst hc0
          rw [Nat.sub_self, show nk - ck = 0 by omega] at htl
          replace htl := Lib.hid htl
          have hb2 := set5_1 (set5_2 hb1 (.slice (some ⟨gk, ok, none⟩) 0 0)) (.int .i64 q)
          have hkb2 : Keeps [w.heap.size] w1 ((w1.setCell ⟨w.heap.size, 2, none⟩ (.slice (some ⟨gk, ok, none⟩) 0 0)).setCell ⟨w.heap.size, 1, none⟩ (.int .i64 q)) := ((Keeps.refl _ _).setCell (.inr (by simp)) _).setCell (.inr (by simp)) _
          have hr2 := (hkb2.block _ zlt (by simp)).trans hr1
          have hfin := set5_all hr2 (by simp [noB]) (.int .i64 s) (.int .i64 q) (.slice (some ⟨gk, ok, none⟩) 0 0) (.int .i64 r) (.slice be ne ce)
          replace hfin := Lib.hid hfin
          replace hkb2 := Lib.hid hkb2
          obtain ⟨y0, y1, y2, y3, y4, yf, ylt⟩ := cells5 hb2
          clear hb1 hr1 hr2 hb2 y3 y4 yf ylt y0 y1 y2
          go_wp2
          obtain ⟨g1, g2, g3⟩ := hfin.out
          have hkall := (hk01.out.fresh hkb2.out (by simp)).fresh g2 (by simp)
          refine bodyPost_ret (results_end3 rfl _ _ _ _ _ _ _ _ _ _ rfl g1) rfl ?_
          refine ⟨(.slice (some ⟨gk, ok, none⟩) 0 0), ?_, ?_, hkall, rfl⟩
          · rw [hE.out, show ackC s q = 0 from if_neg hfar]; rfl
          · rw [hE.out]; exact ⟨htl.out.keeps hkall, h.out.early.keeps hkall⟩
        · rw [if_neg hc0] at htl
          replace htl := Lib.hid htl
          have hb2 := set5_1 (set5_2 hb1 (.slice (some ⟨gk, ok + j, none⟩) (nk - j) (ck - j))) (.int .i64 q)
          have hkb2 : Keeps [w.heap.size] w1 ((w1.setCell ⟨w.heap.size, 2, none⟩ (.slice (some ⟨gk, ok + j, none⟩) (nk - j) (ck - j))).setCell ⟨w.heap.size, 1, none⟩ (.int .i64 q)) := ((Keeps.refl _ _).setCell (.inr (by simp)) _).setCell (.inr (by simp)) _
          have hr2 := (hkb2.block _ zlt (by simp)).trans hr1
          have hfin := set5_all hr2 (by simp [noB]) (.int .i64 s) (.int .i64 q) (.slice (some ⟨gk, ok + j, none⟩) (nk - j) (ck - j)) (.int .i64 r) (.slice be ne ce)
          replace hfin := Lib.hid hfin
          replace hkb2 := Lib.hid hkb2
          obtain ⟨y0, y1, y2, y3, y4, yf, ylt⟩ := cells5 hb2
          clear hb1 hr1 hr2 hb2 y3 y4 yf ylt y0 y1 y2
          go_wp2
          obtain ⟨g1, g2, g3⟩ := hfin.out
          have hkall := (hk01.out.fresh hkb2.out (by simp)).fresh g2 (by simp)
          refine bodyPost_ret (results_end3 rfl _ _ _ _ _ _ _ _ _ _ rfl g1) rfl ?_
          refine ⟨(.slice (some ⟨gk, ok + j, none⟩) (nk - j) (ck - j)), ?_, ?_, hkall, rfl⟩
          · rw [hE.out, show ackC s q = 0 from if_neg hfar]; rfl
          · rw [hE.out]; exact ⟨htl.out.keeps hkall, h.out.early.keeps hkall⟩
end Go.Proofs.Ytilmcdieihmiaaa

namespace Go.Proofs.Ytilmcdieihmiaaa
open Go.RowKit

set_option maxRecDepth 100000 in
set_option maxHeartbeats 4000000 in
theorem recvR_far (w : World) (E : REnd) (vk ve vd : Value) (t rest : Bytes) (q : Nat) (h : RE w vk ve E) (hd : SlB w vd (1 :: t)) (hr : readU t = some (q, rest)) (hq0 : 0 < q) (hrc : E.received < 1099511627776) (hf : E.received + 1024 < q) :
    Calls Try.prog 31 #[.agg #[.int .i64 E.sent, .int .i64 E.acked, vk, .int .i64 E.received, ve], vd] w fun e w' => e = .returned (.tuple #[.agg #[.int .i64 E.sent, .int .i64 E.acked, vk, .int .i64 E.received, ve], .slice none 0 0, .int .i64 2]) ∧ Keeps [] w w' := by
  have hq64 := (readU_drop hr).2
  obtain ⟨s, hse⟩ : ∃ s, E.sent = s := ⟨_, rfl⟩
  obtain ⟨a, hae⟩ : ∃ a, E.acked = a := ⟨_, rfl⟩
  obtain ⟨r, hre⟩ : ∃ r, E.received = r := ⟨_, rfl⟩
  obtain ⟨bk, ck, rfl, hkm⟩ := h.kept.form
  obtain ⟨be, ce, rfl⟩ := h.early.form
  obtain ⟨nk, hnk⟩ : ∃ n, E.kept.length = n := ⟨_, rfl⟩
  obtain ⟨ne, hne⟩ : ∃ n, E.early.length = n := ⟨_, rfl⟩
  rw [hse, hae, hre, hnk, hne]
  rw [hnk, hne] at h
  rw [hre] at hrc hf
  replace h := Lib.hid h
  clear hse hae hnk
  replace hne := Lib.hid hne
  replace hre := Lib.hid hre
  rcases hd.cases with ⟨h0, _⟩ | ⟨g, o, cp, rfl, hn, hm, hp, hg, hc⟩
  · cases h0
  · have k0 := hc 0 (by simp)
    simp only [Nat.add_zero, List.getElem_cons_zero] at k0
    have ht := hd.tail 1 (by simp)
    simp only [List.length_cons, List.drop_succ_cons, List.drop_zero, Nat.add_sub_cancel] at ht
    have ht0 : 0 < t.length := by cases t with | nil => cases hr | cons a b => simp
    obtain ⟨N, hN⟩ : ∃ N, t.length = N := ⟨_, rfl⟩
    simp only [List.length_cons, hN] at hn ht ht0 ⊢
    have nz : ((N : Int) + 1 == 0) = false := by simp; omega
    have nq1 : ¬ q = 0 := by omega
    have nq2 : (q == 0) = false := by simp; omega
    have nq3 : decide (q = 0) = false := by simp; omega
    have nq : ((q : Int) == 0) = false := by simp; omega
    clear hd hc hp
    have hcp1 : ¬ cp = 1 := by omega
    rw [if_neg hcp1] at ht
    have hRd := box_reader w (.cells #[.int .i64 s, .int .i64 a, .slice bk nk ck, .int .i64 r, .slice be ne ce] tyEnd) zEnd _ t ht
    replace hRd := Lib.hid hRd
    clear ht hN
    replace hr := Lib.hid hr
    have k0' : w.cell? ⟨g, o, none⟩ = some (.int .u8 1) := k0
    clear k0
    go_enter Try.func31, Try.ntmps31
    go_wp2_with fail
    refine (uintR_c _ _ _ t hRd.out).mono ?_
    rintro e w1 ⟨rfl, ⟨v1, hR1⟩, hk1⟩
    obtain ⟨hsz1, hk01, hb1, hr1⟩ := after_reader hk1
    have k1 : w1.cell? ⟨g, o, none⟩ = _ := hk01.val k0'
    obtain ⟨p0, p1, p2, p3, p4, pf, plt⟩ := cells5 hb1
    obtain ⟨z0, z1, z2, z3, z4, zf, zlt⟩ := cells5 hr1
    rw [show rdU t = (q, rest, 0) by simp [rdU, hr.out]] at hR1 ⊢
    obtain ⟨v1a, v1c, rfl⟩ := hR1.2.form
    replace hR1 : RdR w1 (w.heap.size + 1 + 1) (.slice v1a rest.length v1c) rest 0 := hR1
    obtain ⟨c0, c1, _, _, clt⟩ := cell2_of hR1.1
    replace hk01 := Lib.hid hk01
    have hq2 : (0 : Int) < q := by omega
    have hq3 : ¬ (q : Int) = 0 := by omega
    have hd1 : decide ((q : Int) = 0) = false := by simp; omega
    have hbe : decide ((r : Int) + 1024 < q) = true := by simp; omega
    have hbi : (r : Int) + 1024 < q := by omega
    have hfin := set5_all hr1 (by simp [noB]) (.int .i64 s) (.int .i64 a) (.slice bk nk ck) (.int .i64 r) (.slice be ne ce)
    replace hfin := Lib.hid hfin
    clear hb1 hr1 hk1 hR1
    go_wp2
    obtain ⟨g1, g2, g3⟩ := hfin.out
    refine bodyPost_ret (results_end3 rfl _ _ _ _ _ _ _ _ _ _ rfl g1) rfl ?_
    exact ⟨rfl, hk01.out.fresh g2 (by simp)⟩
set_option maxRecDepth 100000 in
set_option maxHeartbeats 4000000 in
theorem recvR_twice (w : World) (E : REnd) (vk ve vd : Value) (t rest : Bytes) (q : Nat) (h : RE w vk ve E) (hd : SlB w vd (1 :: t)) (hr : readU t = some (q, rest)) (hq0 : 0 < q) (hrc : E.received < 1099511627776) (hf : q ≤ E.received + 1024) (htw : q ≤ E.received ∨ ∃ x ∈ E.early, x.1 = (q : Int)) :
    Calls Try.prog 31 #[.agg #[.int .i64 E.sent, .int .i64 E.acked, vk, .int .i64 E.received, ve], vd] w fun e w' => e = .returned (.tuple #[.agg #[.int .i64 E.sent, .int .i64 E.acked, vk, .int .i64 E.received, ve], .slice none 0 0, .int .i64 0]) ∧ Keeps [] w w' := by
  have hq64 := (readU_drop hr).2
  obtain ⟨s, hse⟩ : ∃ s, E.sent = s := ⟨_, rfl⟩
  obtain ⟨a, hae⟩ : ∃ a, E.acked = a := ⟨_, rfl⟩
  obtain ⟨r, hre⟩ : ∃ r, E.received = r := ⟨_, rfl⟩
  obtain ⟨bk, ck, rfl, hkm⟩ := h.kept.form
  obtain ⟨be, ce, rfl⟩ := h.early.form
  obtain ⟨nk, hnk⟩ : ∃ n, E.kept.length = n := ⟨_, rfl⟩
  obtain ⟨ne, hne⟩ : ∃ n, E.early.length = n := ⟨_, rfl⟩
  rw [hse, hae, hre, hnk, hne]
  rw [hnk, hne] at h
  rw [hre] at hrc hf
  replace h := Lib.hid h
  clear hse hae hnk
  replace hne := Lib.hid hne
  replace hre := Lib.hid hre
  rcases hd.cases with ⟨h0, _⟩ | ⟨g, o, cp, rfl, hn, hm, hp, hg, hc⟩
  · cases h0
  · have k0 := hc 0 (by simp)
    simp only [Nat.add_zero, List.getElem_cons_zero] at k0
    have ht := hd.tail 1 (by simp)
    simp only [List.length_cons, List.drop_succ_cons, List.drop_zero, Nat.add_sub_cancel] at ht
    have ht0 : 0 < t.length := by cases t with | nil => cases hr | cons a b => simp
    obtain ⟨N, hN⟩ : ∃ N, t.length = N := ⟨_, rfl⟩
    simp only [List.length_cons, hN] at hn ht ht0 ⊢
    have nz : ((N : Int) + 1 == 0) = false := by simp; omega
    have nq1 : ¬ q = 0 := by omega
    have nq2 : (q == 0) = false := by simp; omega
    have nq3 : decide (q = 0) = false := by simp; omega
    have nq : ((q : Int) == 0) = false := by simp; omega
    clear hd hc hp
    have hcp1 : ¬ cp = 1 := by omega
    rw [if_neg hcp1] at ht
    have hRd := box_reader w (.cells #[.int .i64 s, .int .i64 a, .slice bk nk ck, .int .i64 r, .slice be ne ce] tyEnd) zEnd _ t ht
    replace hRd := Lib.hid hRd
    clear ht hN
    replace hr := Lib.hid hr
    have k0' : w.cell? ⟨g, o, none⟩ = some (.int .u8 1) := k0
    clear k0
    go_enter Try.func31, Try.ntmps31
    go_wp2_with fail
    refine (uintR_c _ _ _ t hRd.out).mono ?_
    rintro e w1 ⟨rfl, ⟨v1, hR1⟩, hk1⟩
    obtain ⟨hsz1, hk01, hb1, hr1⟩ := after_reader hk1
    have k1 : w1.cell? ⟨g, o, none⟩ = _ := hk01.val k0'
    obtain ⟨p0, p1, p2, p3, p4, pf, plt⟩ := cells5 hb1
    obtain ⟨z0, z1, z2, z3, z4, zf, zlt⟩ := cells5 hr1
    rw [show rdU t = (q, rest, 0) by simp [rdU, hr.out]] at hR1 ⊢
    obtain ⟨v1a, v1c, rfl⟩ := hR1.2.form
    replace hR1 : RdR w1 (w.heap.size + 1 + 1) (.slice v1a rest.length v1c) rest 0 := hR1
    obtain ⟨c0, c1, _, _, clt⟩ := cell2_of hR1.1
    replace hk01 := Lib.hid hk01
    have hq2 : (0 : Int) < q := by omega
    have hq3 : ¬ (q : Int) = 0 := by omega
    have hd1 : decide ((q : Int) = 0) = false := by simp; omega
    have hbe : decide ((r : Int) + 1024 < q) = false := by simp; omega
    have hbi : ¬ (r : Int) + 1024 < q := by omega
    by_cases hle : q ≤ r
    · have hle2 : (q : Int) ≤ r := by omega
      have hfin := set5_all hr1 (by simp [noB]) (.int .i64 s) (.int .i64 a) (.slice bk nk ck) (.int .i64 r) (.slice be ne ce)
      replace hfin := Lib.hid hfin
      clear hb1 hr1 hk1 hR1
      go_wp2
      obtain ⟨g1, g2, g3⟩ := hfin.out
      refine bodyPost_ret (results_end3 rfl _ _ _ _ _ _ _ _ _ _ rfl g1) rfl ?_
      exact ⟨rfl, hk01.out.fresh g2 (by simp)⟩
    · have hle2 : decide ((q : Int) ≤ r) = false := by simp; omega
      have hle3 : ¬ (q : Int) ≤ r := by omega
      go_wp2_with fail
      refine (find_c _ _ _ (q : Int) ((h.out.early.keeps hk01.out))).mono ?_
      rintro e w2 ⟨hres, hk2⟩
      rcases hres with ⟨k, rfl, _⟩ | ⟨_, hno⟩
      · have hr2 := (hk2.block _ zlt (by simp)).trans hr1
        have hb2 := (hk2.block _ plt (by simp)).trans hb1
        obtain ⟨p0, p1, p2, p3, p4, pf, plt⟩ := cells5 hb2
        obtain ⟨z0, z1, z2, z3, z4, zf, zlt⟩ := cells5 hr2
        have hk02 : Hid (Keeps [] w w2) := hk01.out.trans hk2
        clear hr1 hb1 hb2 hk2
        have hkp : (0 : Int) ≤ k := by omega
        have hfin := set5_all hr2 (by simp [noB]) (.int .i64 s) (.int .i64 a) (.slice bk nk ck) (.int .i64 r) (.slice be ne ce)
        replace hfin := Lib.hid hfin
        clear hr2 hk1 hR1
        go_wp2
        obtain ⟨g1, g2, g3⟩ := hfin.out
        refine bodyPost_ret (results_end3 rfl _ _ _ _ _ _ _ _ _ _ rfl g1) rfl ?_
        exact ⟨rfl, hk02.out.fresh g2 (by simp)⟩
      · rcases htw with h1 | ⟨x, hx, hx2⟩
        · rw [hre.out] at h1; exact absurd h1 hle
        · exact absurd hx2 (hno x hx)
end Go.Proofs.Ytilmcdieihmiaaa

namespace Go.Proofs.Ytilmcdieihmiaaa
open Go.RowKit

structure Agr (C : Chan) (E : REnd) : Prop where
  sent : C.sent = E.sent
  acked : C.acked = E.acked
  kept : C.kept = E.kept
  received : C.received = E.received
  early : ∀ s l, C.early s = some l ↔ (s, l) ∈ E.early
  sorted : E.early.Pairwise (fun x y => x.1 < y.1)
  above : ∀ x ∈ E.early, (E.received : Int) < x.1
/-- The reference takes the next payload. -/
def REnd.pop (E : REnd) : REnd := { E with received := E.received + 1, early := E.early.tail }
inductive DrR (E : REnd) : REnd → List Bytes → Prop
  | refl : DrR E E []
  | step {E1 : REnd} {outs : List Bytes} {l : Bytes} {tl : List NB} (h : DrR E E1 outs) (he : E1.early = ((E1.received : Int) + 1, l) :: tl) : DrR E E1.pop (outs ++ [l])

theorem Agr.ackd {C : Chan} {E : REnd} (h : Agr C E) (q : Nat) : Agr (C.ackd q) (E.ackd q) := by
  unfold Chan.ackd REnd.ackd
  rw [h.sent, h.acked]
  split
  · exact ⟨rfl, rfl, by simp [h.kept], h.received, h.early, h.sorted, h.above⟩
  · exact h
theorem Agr.head {C : Chan} {E : REnd} {l : Bytes} {tl : List NB} (h : Agr C E) (he : E.early = ((E.received : Int) + 1, l) :: tl) : C.early ((C.received : Int) + 1) = some l ∧ Agr C.take E.pop := by
  have h1 : C.early ((C.received : Int) + 1) = some l := (h.early _ _).2 (by rw [he, h.received]; simp)
  refine ⟨h1, h.sent, h.acked, h.kept, by simp [Chan.take, REnd.pop, h.received], fun s l' => ?_, by have := h.sorted; simp only [REnd.pop]; rw [he] at this ⊢; exact this.tail, fun x hx => ?_⟩
  · have hs := h.sorted
    have hi := h.early s l'
    simp only [Chan.take, REnd.pop]
    rw [he] at hs hi ⊢
    simp only [List.tail_cons]
    rw [h.received]
    have hlt := (List.pairwise_cons.1 hs).1
    split
    · next e =>
      subst e
      refine ⟨fun h => by simp at h, fun hm => ?_⟩
      have := hlt _ hm
      simp at this
    · next e =>
      rw [hi]
      simp only [List.mem_cons, Prod.mk.injEq, e, false_and, false_or]
  · have hs := h.sorted
    simp only [REnd.pop] at hx ⊢
    rw [he] at hs hx
    have := (List.pairwise_cons.1 hs).1 x (by simpa using hx)
    simp at this ⊢
    omega
theorem Agr.none {C : Chan} {E : REnd} (h : Agr C E) (hn : ∀ l tl, E.early ≠ ((E.received : Int) + 1, l) :: tl) : C.early ((C.received : Int) + 1) = Option.none := by
  cases hc : C.early ((C.received : Int) + 1) with
  | none => rfl
  | some l =>
    have hm := (h.early _ _).1 hc
    rw [h.received] at hm
    cases he : E.early with
    | nil => rw [he] at hm; simp at hm
    | cons x tl =>
      have hs := h.sorted
      have ha := h.above
      rw [he] at hm hs ha
      rcases List.mem_cons.1 hm with e | hm
      · subst e; exact absurd he (hn l tl)
      · have h1 := (List.pairwise_cons.1 hs).1 _ hm
        have h2 := ha x (by simp)
        simp at h1
        omega
theorem Ins.mem {L M : List NB} {x : NB} (h : Ins L x M) : ∀ y, y ∈ M ↔ y = x ∨ y ∈ L := fun y => by
  obtain ⟨k, _, rfl, _, _⟩ := h
  constructor
  · intro hy
    simp only [List.mem_append, List.mem_singleton] at hy
    rcases hy with (h | h) | h
    · exact .inr (List.mem_of_mem_take h)
    · exact .inl h
    · exact .inr (List.mem_of_mem_drop h)
  · rintro (rfl | hy)
    · simp
    · rw [← List.take_append_drop k L] at hy
      rcases List.mem_append.1 hy with h | h <;> simp [h]
/-- What holds of both ends as long as they go together: a payload is put. -/
theorem Agr.put {C : Chan} {E : REnd} {M : List NB} {l : Bytes} {q : Nat} (h : Agr C E) (hq : E.received < q) (hno : ∀ x ∈ E.early, x.1 ≠ (q : Int)) (hi : Ins E.early ((q : Int), l) M) (hs : M.Pairwise (fun x y => x.1 < y.1)) : Agr (C.put q l) { E with early := M } := by
  refine ⟨h.sent, h.acked, h.kept, h.received, fun s l' => ?_, hs, fun x hx => ?_⟩
  · simp only [Chan.put]
    rw [hi.mem]
    split
    · next e =>
      subst e
      refine ⟨fun e => by cases e; exact .inl rfl, fun e => ?_⟩
      rcases e with e | e
      · cases e; rfl
      · exact absurd rfl (hno _ e)
    · next e =>
      rw [h.early]
      refine ⟨.inr, fun hy => ?_⟩
      rcases hy with hy | hy
      · cases hy; exact absurd rfl e
      · exact hy
  · rcases (hi.mem x).1 hx with rfl | hx
    · simpa using hq
    · exact h.above x hx
theorem Ins.sorted {L M : List NB} {x : NB} (h : Ins L x M) (hs : L.Pairwise (fun x y => x.1 < y.1)) (hno : ∀ y ∈ L, y.1 ≠ x.1) : M.Pairwise (fun x y => x.1 < y.1) := by
  obtain ⟨k, hk, rfl, hlo, hge⟩ := h
  have hsp := hs
  rw [← List.take_append_drop k L] at hsp
  obtain ⟨h1, h2, h3⟩ := List.pairwise_append.1 hsp
  have hb : ∀ y ∈ L.take k, y.1 < x.1 := fun y hy => by
    obtain ⟨j, hj, rfl⟩ := List.getElem_of_mem hy
    simp at hj
    simpa using hlo j (by omega) (by omega)
  have ha : ∀ y ∈ L.drop k, x.1 < y.1 := fun y hy => by
    obtain ⟨j, hj, rfl⟩ := List.getElem_of_mem hy
    simp at hj
    have h4 := hge (by omega)
    have h5 := hno (L.drop k)[j] (List.mem_of_mem_drop hy)
    rcases Nat.eq_zero_or_pos j with e | e
    · subst e
      simp at h5 ⊢
      omega
    · have h6 := List.pairwise_iff_getElem.1 hs k (k + j) (by omega) (by omega) (by omega)
      simp at h5 ⊢
      omega
  refine List.pairwise_append.2 ⟨List.pairwise_append.2 ⟨h1, List.pairwise_singleton _ _, fun a ha' b hb' => ?_⟩, h2, fun a ha' b hb' => ?_⟩
  · simp at hb'; subst hb'; exact hb a ha'
  · rcases List.mem_append.1 ha' with h | h
    · exact h3 a h b hb'
    · simp at h; subst h; exact ha b hb'
/-- Both ends hand over the same, and agree behind it. -/
theorem Agr.drain {E E' : REnd} {o' : List Bytes} (hD' : DrR E E' o') : ∀ {C : Chan}, Agr C E → ∃ C1, Dr C C1 o' ∧ Agr C1 E' := by
  induction hD' with
  | refl => exact fun h => ⟨_, .refl, h⟩
  | step hd he ih => 
    intro C h
    obtain ⟨C1, h1, h2⟩ := ih h
    obtain ⟨h3, h4⟩ := h2.head he
    exact ⟨C1.take, h1.step h3, h4⟩
theorem Dr.same {C C1 : Chan} {o1 : List Bytes} (h1 : Dr C C1 o1) (n1 : C1.early ((C1.received : Int) + 1) = Option.none) : ∀ {C2 : Chan} {o2 : List Bytes}, Dr C C2 o2 → C2.early ((C2.received : Int) + 1) = Option.none → C1 = C2 ∧ o1 = o2 := by
  induction o1 generalizing C with
  | nil =>
    intro C2 o2 h2 n2
    rcases h1.inv with ⟨_, rfl⟩ | ⟨l, o, _, e, _⟩
    · rcases h2.inv with ⟨rfl, rfl⟩ | ⟨l, o, e, _⟩
      · exact ⟨rfl, rfl⟩
      · rw [n1] at e; cases e
    · cases e
  | cons a r ih =>
    intro C2 o2 h2 n2
    rcases h1.inv with ⟨e, _⟩ | ⟨l, o, he, e, hd⟩
    · cases e
    · cases e
      rcases h2.inv with ⟨rfl, rfl⟩ | ⟨l2, o2', he2, rfl, hd2⟩
      · rw [n2] at he; cases he
      · rw [he] at he2
        cases he2
        obtain ⟨r1, r2⟩ := ih hd hd2 n2
        exact ⟨r1, by rw [r2]⟩
end Go.Proofs.Ytilmcdieihmiaaa

namespace Go.Proofs.Ytilmcdieihmiaaa
open Go.RowKit

theorem wp_appB {o : Oper} {a : Act} {K : Act → World → Prop} {Q : Exit → Act → World → Prop} (w : World) (base : Nat) (v : Value) (l : List UInt8) (s t : Operand)
    (ho : o.op = .call { callee := .builtin .append, args := #[s, t], argTypes := #[23, 23] }) (hs : a.eval s = v) (v2 : Value) (m : List UInt8) (ht : a.eval t = v2)
    (h : Buf w base v l) (h2 : SlB w v2 m) (hl : l.length + m.length ≤ 140737488355328) (hbase : base ≤ w.heap.size)
    (hK : ∀ v' w', Buf w' base v' (l ++ m) → Grw w w' v v' → K (a.put o.dst v') w') : o.wp Try.prog a w K Q := by
  obtain ⟨i0, hi, hz0, hz1, hz2⟩ := info_parts infoB
  refine wp_append_x s t _ ho base 5 i0 (.int .u8 0) 1 1 Try.underlying23 hi hz0 hz1 hz2 rfl (by decide) v l.length (bys l) hs h _ m.length (bys m) ht h2 (bys_one _) (by unfold maxLen; omega) (by omega) hbase ?_
  intro v' w' h1 h2 _
  exact hK v' w' (Buf.of h1) h2

theorem OE.parts {w : World} {B e : Nat} {v : Value} {L : List NB} (h : OE w B e v L) (hp : 0 < L.length) : ∃ g c, v = .slice (some ⟨g, 0, none⟩) L.length c ∧ L.length ≤ c ∧ c ≤ maxLen ∧ B ≤ g ∧ g < w.heap.size ∧ ∀ j (hj : j < L.length), ∃ ad cp,
    w.cell? ⟨g, j * 2, none⟩ = some (.int .i64 L[j].1) ∧ w.cell? ⟨g, j * 2 + 1, none⟩ = some (.slice ad L[j].2.length cp) ∧ SlB w (.slice ad L[j].2.length cp) L[j].2 := by
  have hge := h.ge
  have hse := h.se
  obtain ⟨cs, hown, _⟩ := h
  obtain ⟨g, c, rfl, hg⟩ := ownsRow_pos hown hp
  obtain ⟨a, c', e, h1, h2, h3⟩ := hse.elems
  cases e
  have hg2 := hge g rfl
  refine ⟨g, c, rfl, h1, h2, hg, hg2.2, fun j hj => ?_⟩
  obtain ⟨g', o', ad, cp, e, q1, q2, q3⟩ := h3 j hj
  cases e
  simp only [Nat.zero_add] at q1 q2
  exact ⟨ad, cp, q1, q2, q3⟩
theorem SE.keepB {w w' : World} {g o n c b : Nat} {L : List NB} (h : SE w (.slice (some ⟨g, o, none⟩) n c) L) (hk : Keeps [b] w w') (hg : g ≠ b) (hb : KB w w') : SE w' (.slice (some ⟨g, o, none⟩) n c) L := by
  obtain ⟨cs, ⟨h1, a, cap, e, h2, h3, h0, h4⟩, hE⟩ := h
  cases e
  refine ⟨cs, ⟨h1, _, _, rfl, h2, h3, by simp, fun hp => ?_⟩, hE.kb hb⟩
  obtain ⟨g', o', e, hc⟩ := h4 hp
  cases e
  refine ⟨g, o, rfl, fun j u hj => ?_⟩
  have := hc j u hj
  rw [hk.cell g _ (lt_of_cell this) (by simpa using hg)]
  exact this
/-- What holds ahead of each round: `j` payloads are handed over. -/
structure PopI (w w4 wr : World) (s a r g4 c4 : Nat) (vk : Value) (M : List NB) (j o1 : Nat) (vo : Value) : Prop where
  le : j ≤ M.length
  seq : ∀ i (hi : i < M.length), i < j → M[i].1 = (r : Int) + i + 1
  off : j < c4 → o1 = j * 2
  kl : KL wr w4.heap.size vo ((M.take j).map Prod.snd)
  early : SE w4 (.slice (some ⟨g4, o1, none⟩) (M.length - j) (c4 - j)) (M.drop j)
  blk : wr.heap[w.heap.size]? = some (.cells #[.int .i64 s, .int .i64 a, vk, .int .i64 ((r : Int) + j), .slice (some ⟨g4, o1, none⟩) (M.length - j) (c4 - j)] tyEnd)
  zblk : wr.heap[w.heap.size + 1]? = some zEnd
  keeps : Keeps [] w wr
  keeps4 : Keeps [w.heap.size] w4 wr
  kb : KB w4 wr
theorem PopI.dr {w w4 wr : World} {s a r g4 c4 : Nat} {vk : Value} {M : List NB} {j o1 : Nat} {vo : Value} (h : PopI w w4 wr s a r g4 c4 vk M j o1 vo) (E : REnd) (hr : E.received = r) (hM : E.early = M) :
    ∀ i, i ≤ j → DrR E { E with received := r + i, early := M.drop i } ((M.take i).map Prod.snd)
  | 0, _ => by
    have : ({ E with received := r + 0, early := M.drop 0 } : REnd) = E := by cases E; simp at hr hM; subst hr hM; rfl
    rw [this]; exact .refl
  | i + 1, hi => by
    have h1 := h.dr E hr hM i (by omega)
    have hl := h.le
    have hiM : i < M.length := by omega
    have h2 := h.seq i hiM (by omega)
    have h3 := DrR.step (l := M[i].2) (tl := M.drop (i + 1)) h1 (by
      show M.drop i = (((r + i : Nat) : Int) + 1, M[i].2) :: M.drop (i + 1)
      rw [List.drop_eq_getElem_cons hiM]
      congr 1
      exact Prod.ext (by rw [h2]; simp) rfl)
    have e1 : ({ E with received := r + i, early := M.drop i } : REnd).pop = { E with received := r + (i + 1), early := M.drop (i + 1) } := by
      unfold REnd.pop
      simp [Nat.add_assoc]
    rw [e1] at h3
    rw [List.take_succ_eq_append_getElem hiM, List.map_append]
    exact h3
theorem PopI.own {w w4 wr : World} {s a r g4 c4 : Nat} {vk : Value} {M : List NB} {j o1 : Nat} {vo : Value} (h : PopI w w4 wr s a r g4 c4 vk M j o1 vo) : ∀ b ∈ vo.ownBlock.toList, w4.heap.size ≤ b := fun b hb => by
  obtain ⟨cs, hown, _⟩ := h.kl
  exact ownBlock_ge hown b (by simpa using hb)
theorem PopI.step {w w4 wr w5 : World} {s a r g4 c4 : Nat} {vk : Value} {M : List NB} {j o1 o2 : Nat} {vo v5 : Value} (h : PopI w w4 wr s a r g4 c4 vk M j o1 vo) (hj : j < M.length) (hseq : M[j].1 = (r : Int) + j + 1)
    (hL : KL w5 w4.heap.size v5 ((M.take j).map Prod.snd ++ [M[j].2])) (hk : Keeps vo.ownBlock.toList wr w5) (hb : KB wr w5) (ho : (c4 - j = 1 ∧ o2 = o1) ∨ (c4 - j ≠ 1 ∧ o2 = o1 + 2)) (h4 : w.heap.size + 2 ≤ w4.heap.size) (hg4 : g4 ≠ w.heap.size) :
    PopI w w4 ((w5.setCell ⟨w.heap.size, 4, none⟩ (.slice (some ⟨g4, o2, none⟩) (M.length - (j + 1)) (c4 - (j + 1)))).setCell ⟨w.heap.size, 3, none⟩ (.int .i64 ((r : Int) + j + 1))) s a r g4 c4 vk M (j + 1) o2 v5 := by
  have hown := h.own
  have hb5 := (hk.block _ (Array.getElem?_eq_some_iff.1 h.blk).1 (fun hm => by have := hown _ hm; omega)).trans h.blk
  have hz5 := (hk.block _ (Array.getElem?_eq_some_iff.1 h.zblk).1 (fun hm => by have := hown _ hm; omega)).trans h.zblk
  obtain ⟨y0, y1, y2, y3, y4, yf, ylt⟩ := cells5 hb5
  have hb6 := set5_4 hb5 (.slice (some ⟨g4, o2, none⟩) (M.length - (j + 1)) (c4 - (j + 1)))
  obtain ⟨u0, u1, u2, u3, u4, uf, ult⟩ := cells5 hb6
  have hb7 := set5_3 hb6 (.int .i64 ((r : Int) + j + 1))
  have hk6 : Keeps [w.heap.size] w5 ((w5.setCell ⟨w.heap.size, 4, none⟩ (.slice (some ⟨g4, o2, none⟩) (M.length - (j + 1)) (c4 - (j + 1)))).setCell ⟨w.heap.size, 3, none⟩ (.int .i64 ((r : Int) + j + 1))) :=
    ((Keeps.refl _ _).setCell (.inr (by simp)) _).setCell (.inr (by simp)) _
  have hkb6 : KB w5 ((w5.setCell ⟨w.heap.size, 4, none⟩ (.slice (some ⟨g4, o2, none⟩) (M.length - (j + 1)) (c4 - (j + 1)))).setCell ⟨w.heap.size, 3, none⟩ (.int .i64 ((r : Int) + j + 1))) :=
    (KB.setCell w5 _ y4 (by simp)).trans (KB.setCell _ _ u3 (by simp))
  have hse := h.early
  have hoff := h.off
  refine ⟨hj, fun i hi hlt => ?_, fun hc => ?_, ?_, ?_, ?_, ?_, ?_, ?_, ?_⟩
  · rcases Nat.lt_succ_iff_lt_or_eq.1 hlt with e | e
    · exact h.seq i hi e
    · subst e; exact hseq
  · rcases ho with ⟨e, _⟩ | ⟨e, rfl⟩
    · omega
    · have := hoff (by omega); omega
  · rw [List.take_succ_eq_append_getElem hj, List.map_append]
    exact (KL.keep (S := [w.heap.size]) hL hk6 (fun b hb e => by
      obtain ⟨cs, hown5, _⟩ := hL
      have := ownBlock_ge hown5 _ e
      simp at hb; omega) hkb6)
  · have ht := hse.tail 1 (by simp; omega)
    rw [List.drop_drop, List.length_drop] at ht
    rw [show M.length - (j + 1) = M.length - j - 1 by omega, show c4 - (j + 1) = c4 - j - 1 by omega]
    rcases ho with ⟨e, rfl⟩ | ⟨e, rfl⟩
    · rw [if_pos e] at ht; simpa [Nat.add_comm] using ht
    · rw [if_neg e] at ht; simpa [Nat.add_comm] using ht
  · rw [hb7]
    simp [Int.add_assoc]
  · exact (hk6.block _ (Array.getElem?_eq_some_iff.1 hz5).1 (by simp)).trans hz5
  · exact (h.keeps.fresh hk (fun b hb => .inr (by have := hown b hb; omega))).fresh hk6 (by simp)
  · exact (h.keeps4.fresh hk (fun b hb => .inr (hown b hb))).trans hk6
  · exact h.kb.trans (hb.trans hkb6)
/-- The block of the slice `v` is no end's. -/
def NE (w : World) (v : Value) : Prop := ∀ b, v.ownBlock = some b → ∀ cs f, w.heap[b]? ≠ some (.cells cs tyEnd f)
theorem NE.keep {w w' : World} {v : Value} {S : List Nat} (h : NE w v) (hk : Keeps S w w') (hS : ∀ b ∈ S, v.ownBlock ≠ some b) (hlt : ∀ b, v.ownBlock = some b → b < w.heap.size) : NE w' v := fun b hb cs f e => by
  rw [hk.block b (hlt b hb) (fun hm => hS b hm hb)] at e
  exact h b hb cs f e
theorem NE.of_owns {w : World} {base e sz n : Nat} {v : Value} {cs : List Value} (h : w.ownsRow base e sz v n cs) (he : e ≠ tyEnd) : NE w v := fun b hb cs' f e2 => by
  rcases h.2 with ⟨rfl, _⟩ | ⟨g, cap, cur, rfl, _, hg, _⟩
  · simp [Value.ownBlock] at hb
  · simp [Value.ownBlock] at hb
    subst hb
    rw [hg] at e2
    simp only [Option.some.injEq, Obj.cells.injEq] at e2
    exact he e2.2.1
theorem NE.none (w : World) (n c : Nat) : NE w (.slice none n c) := fun b hb => by simp [Value.ownBlock] at hb
theorem PopI.fin {w w4 wr : World} {s a r g4 c4 : Nat} {vk : Value} {M : List NB} {j o1 : Nat} {vo : Value} (h : PopI w w4 wr s a r g4 c4 vk M j o1 vo) (kept : List Bytes) (L : List NB) (q : Nat) (rest : Bytes) (m cj o2 : Nat)
    (hk : SLs w vk kept) (hI : Ins L ((q : Int), rest) M) (hstop : ∀ l tl, M.drop j ≠ (((r + j : Nat) : Int) + 1, l) :: tl) (w7 : World) (g2 : Keeps [w.heap.size + 1] wr w7) (g3 : KB wr w7) (h4 : w.heap.size + 2 ≤ w4.heap.size) (hg4 : w.heap.size + 2 ≤ g4) (hg4l : g4 < w4.heap.size) (hty : ∀ cs f, w4.heap[g4]? ≠ some (.cells cs tyEnd f))
    (hm : M.length - j = m) (hc : c4 - j = cj) (ho : o1 = o2) :
    ∃ (E' : REnd) (ve' vo' : Value) (outs : List Bytes), Ending.returned (.tuple #[.agg #[.int .i64 s, .int .i64 a, vk, .int .i64 ((r : Int) + j), .slice (some ⟨g4, o2, none⟩) m cj], vo, .int .i64 0]) = .returned (.tuple #[.agg #[.int .i64 s, .int .i64 a, vk, .int .i64 E'.received, ve'], vo', .int .i64 0]) ∧
      RE w7 vk ve' { sent := s, acked := a, kept := kept, received := E'.received, early := E'.early } ∧ E' = { sent := s, acked := a, kept := kept, received := E'.received, early := E'.early } ∧ KL w7 w.heap.size vo' outs ∧ (∃ M, Ins L ((q : Int), rest) M ∧ DrR { sent := s, acked := a, kept := kept, received := r, early := M } E' outs) ∧ (∀ l tl, E'.early ≠ ((E'.received : Int) + 1, l) :: tl) ∧ Keeps [] w w7 ∧ ∀ b, ve'.ownBlock = some b → w.heap.size ≤ b ∧ b < w7.heap.size ∧ ∀ cs f, w7.heap[b]? ≠ some (.cells cs tyEnd f) := by
  have hown := h.own
  have hkall := h.keeps.fresh g2 (by simp)
  subst hm hc ho
  have hear := (h.early.keepB h.keeps4 (by omega) h.kb).keepB g2 (by omega) g3
  exact ⟨⟨s, a, kept, r + j, M.drop j⟩, _, _, (M.take j).map Prod.snd, rfl, ⟨hk.keeps hkall, hear⟩, rfl,
    KL.keep (S := [w.heap.size + 1]) (h.kl.mono (by omega)) g2 (fun b hb e => by have := hown b (by simpa using e); simp at hb; omega) g3,
    ⟨M, hI, h.dr ⟨s, a, kept, r, M⟩ rfl rfl j (Nat.le_refl j)⟩, hstop, hkall, fun b e => by have q1 := h.keeps4.size; have q2 := g2.size; cases e; show _ ≤ g4 ∧ g4 < _ ∧ ∀ cs f, w7.heap[g4]? ≠ _; refine ⟨by omega, by omega, fun cs f e2 => hty cs f ?_⟩; rw [g2.block g4 (by omega) (by simp; omega), h.keeps4.block g4 hg4l (by simp; omega)] at e2; exact e2⟩
def mPop (T b : Nat) (w : World) : Nat := T - (intOf ((w.cell? ⟨b, 3, none⟩).getD undef)).toNat
set_option maxRecDepth 100000 in
set_option maxHeartbeats 10000000 in
theorem recvR_new0 (w : World) (E : REnd) (vk ve vd : Value) (t rest : Bytes) (q : Nat) (h : RE w vk ve E) (hd : SlB w vd (1 :: t)) (hr : readU t = some (q, rest)) (hq0 : 0 < q) (hrc : E.received < 1099511627776) (hf : q ≤ E.received + 1024) (hle0 : E.received < q) (hno : ∀ x ∈ E.early, x.1 ≠ (q : Int)) (hlen : E.early.length < 1099511627770) (hrl : rest.length ≤ 140737488350000) :
    Calls Try.prog 31 #[.agg #[.int .i64 E.sent, .int .i64 E.acked, vk, .int .i64 E.received, ve], vd] w fun e w' => ∃ E' ve' vo outs, e = .returned (.tuple #[.agg #[.int .i64 E.sent, .int .i64 E.acked, vk, .int .i64 E'.received, ve'], vo, .int .i64 0]) ∧ RE w' vk ve' { sent := E.sent, acked := E.acked, kept := E.kept, received := E'.received, early := E'.early } ∧ E' = { sent := E.sent, acked := E.acked, kept := E.kept, received := E'.received, early := E'.early } ∧ KL w' w.heap.size vo outs ∧ (∃ M, Ins E.early ((q : Int), rest) M ∧ DrR { E with early := M } E' outs) ∧ (∀ l tl, E'.early ≠ ((E'.received : Int) + 1, l) :: tl) ∧ Keeps [] w w' ∧ ∀ b, ve'.ownBlock = some b → w.heap.size ≤ b ∧ b < w'.heap.size ∧ ∀ cs f, w'.heap[b]? ≠ some (.cells cs tyEnd f) := by
  have hq64 := (readU_drop hr).2
  obtain ⟨s, hse⟩ : ∃ s, E.sent = s := ⟨_, rfl⟩
  obtain ⟨a, hae⟩ : ∃ a, E.acked = a := ⟨_, rfl⟩
  obtain ⟨r, hre⟩ : ∃ r, E.received = r := ⟨_, rfl⟩
  obtain ⟨bk, ck, rfl, hkm⟩ := h.kept.form
  obtain ⟨be, ce, rfl⟩ := h.early.form
  obtain ⟨nk, hnk⟩ : ∃ n, E.kept.length = n := ⟨_, rfl⟩
  obtain ⟨ne, hne⟩ : ∃ n, E.early.length = n := ⟨_, rfl⟩
  rw [hse, hae, hre, hnk, hne]
  rw [hnk, hne] at h
  rw [hre] at hrc hf hle0
  replace h := Lib.hid h
  clear hse hae hnk
  replace hne := Lib.hid hne
  replace hre := Lib.hid hre
  rcases hd.cases with ⟨h0, _⟩ | ⟨g, o, cp, rfl, hn, hm, hp, hg, hc⟩
  · cases h0
  · have k0 := hc 0 (by simp)
    simp only [Nat.add_zero, List.getElem_cons_zero] at k0
    have ht := hd.tail 1 (by simp)
    simp only [List.length_cons, List.drop_succ_cons, List.drop_zero, Nat.add_sub_cancel] at ht
    have ht0 : 0 < t.length := by cases t with | nil => cases hr | cons a b => simp
    obtain ⟨N, hN⟩ : ∃ N, t.length = N := ⟨_, rfl⟩
    simp only [List.length_cons, hN] at hn ht ht0 ⊢
    have nz : ((N : Int) + 1 == 0) = false := by simp; omega
    have nq1 : ¬ q = 0 := by omega
    have nq2 : (q == 0) = false := by simp; omega
    have nq3 : decide (q = 0) = false := by simp; omega
    have nq : ((q : Int) == 0) = false := by simp; omega
    clear hd hc hp
    have hcp1 : ¬ cp = 1 := by omega
    rw [if_neg hcp1] at ht
    have hRd := box_reader w (.cells #[.int .i64 s, .int .i64 a, .slice bk nk ck, .int .i64 r, .slice be ne ce] tyEnd) zEnd _ t ht
    replace hRd := Lib.hid hRd
    clear ht hN
    replace hr := Lib.hid hr
    have k0' : w.cell? ⟨g, o, none⟩ = some (.int .u8 1) := k0
    clear k0
    go_enter Try.func31, Try.ntmps31
    go_wp2_with fail
    refine (uintR_c _ _ _ t hRd.out).mono ?_
    rintro e w1 ⟨rfl, ⟨v1, hR1⟩, hk1⟩
    obtain ⟨hsz1, hk01, hb1, hr1⟩ := after_reader hk1
    have k1 : w1.cell? ⟨g, o, none⟩ = _ := hk01.val k0'
    obtain ⟨p0, p1, p2, p3, p4, pf, plt⟩ := cells5 hb1
    obtain ⟨z0, z1, z2, z3, z4, zf, zlt⟩ := cells5 hr1
    rw [show rdU t = (q, rest, 0) by simp [rdU, hr.out]] at hR1 ⊢
    obtain ⟨v1a, v1c, rfl⟩ := hR1.2.form
    replace hR1 : RdR w1 (w.heap.size + 1 + 1) (.slice v1a rest.length v1c) rest 0 := hR1
    obtain ⟨c0, c1, _, _, clt⟩ := cell2_of hR1.1
    replace hk01 := Lib.hid hk01
    have hq2 : (0 : Int) < q := by omega
    have hq3 : ¬ (q : Int) = 0 := by omega
    have hd1 : decide ((q : Int) = 0) = false := by simp; omega
    have hbe : decide ((r : Int) + 1024 < q) = false := by simp; omega
    have hbi : ¬ (r : Int) + 1024 < q := by omega
    have hle2 : decide ((q : Int) ≤ r) = false := by simp; omega
    have hle3 : ¬ (q : Int) ≤ r := by omega
    replace hlen := Lib.hid hlen
    replace hno := Lib.hid hno
    go_wp2_with fail
    refine (find_c _ _ _ (q : Int) ((h.out.early.keeps hk01.out))).mono ?_
    rintro e w2 ⟨hres, hk2⟩
    rcases hres with ⟨k, rfl, x, hx, hxq⟩ | ⟨rfl, _⟩
    · exact absurd hxq (hno.out x hx)
    · have hr2 := (hk2.block _ zlt (by simp)).trans hr1
      have hb2 := (hk2.block _ plt (by simp)).trans hb1
      have hR2 := hR1.keeps hk2
      have hk02 : Hid (Keeps [] w w2) := hk01.out.trans hk2
      obtain ⟨p0, p1, p2, p3, p4, pf, plt⟩ := cells5 hb2
      obtain ⟨z0, z1, z2, z3, z4, zf, zlt⟩ := cells5 hr2
      obtain ⟨c0, c1, _, _, clt⟩ := cell2_of hR2.1
      clear hr1 hb1 hk2 hk1 hR1
      obtain ⟨EN, hEN⟩ : ∃ n, E.early.length = n := ⟨_, rfl⟩
      go_wp2
      have hw2 : w.heap.size + 3 ≤ w2.heap.size := by omega
      refine Free.wp_region_chain (fun i => i == 4 || i == 9 || i == 11 || i == 13) (fun i => true) (fun j b => j = 9 ∧ w2.heap.size ≤ b ∨ j = 13 ∧ b = w.heap.size) (by kernel_rfl) (by kernel_rfl) (by kernel_rfl) ?_
      (repeat (first | (apply Free.cw_pure rfl rfl; (intro w'; go_simp <;> exact rfl); go_frame) | (apply Free.cw_steady rfl rfl rfl; (intro w' hS; have q0 := Free.sx_cell hS p4 (fun j hp hT => Or.elim hT (fun h => by have := h.2; omega) (fun h => by obtain ⟨rfl, _⟩ := h; exact absurd hp (by decide +kernel))); have q1 := Free.sx_cell hS c0 (fun j hp hT => Or.elim hT (fun h => by have := h.2; omega) (fun h => by have := h.2; omega)); go_simp <;> exact rfl); go_frame) | (refine Free.cw_skip rfl ?_; go_frame)))
      refine Free.cw_loud rfl rfl (fun K hK => ?_)
      go_wp2
      refine hK _ _ rfl (Free.KeepsP.alloc _ _ _) ?_
      clear hK K
      (repeat (first | (apply Free.cw_pure rfl rfl; (intro w'; go_simp <;> exact rfl); go_frame) | (apply Free.cw_steady rfl rfl rfl; (intro w' hS; have q0 := Free.sx_cell hS p4 (fun j hp hT => Or.elim hT (fun h => by have := h.2; omega) (fun h => by obtain ⟨rfl, _⟩ := h; exact absurd hp (by decide +kernel))); have q1 := Free.sx_cell hS c0 (fun j hp hT => Or.elim hT (fun h => by have := h.2; omega) (fun h => by have := h.2; omega)); go_simp <;> exact rfl); go_frame) | (refine Free.cw_skip rfl ?_; go_frame)))
      refine Free.cw_loud rfl rfl (fun K hK => ?_)
      refine wp_appB _ w2.heap.size (.slice (some ⟨w2.heap.size, 0, none⟩) 0 0) [] _ _ rfl rfl _ rest rfl (Buf.fresh w2.drew) (hR2.2.keeps ((Keeps.refl [] w2).drew.alloc _)) (by simp; omega) (by simp) (fun v3 w3 hB3 hG3 => ?_)
      refine hK _ _ rfl (Free.KeepsP.of hG3.keepsO (fun b hb => .inl ⟨rfl, by simp [Value.ownBlock] at hb; omega⟩)) ?_
      clear hK K
      have hk23 : Keeps [] w2 w3 := hG3.keeps ((Keeps.refl [] w2).drew.alloc _) (by simp [Value.ownBlock])
      rw [List.nil_append] at hB3
      have hS3 := hB3.slB
      obtain ⟨a3, c3, rfl⟩ := hS3.form
      go_frame
      (repeat (first | (apply Free.cw_pure rfl rfl; (intro w'; go_simp <;> exact rfl); go_frame) | (apply Free.cw_steady rfl rfl rfl; (intro w' hS; have q0 := Free.sx_cell hS p4 (fun j hp hT => Or.elim hT (fun h => by have := h.2; omega) (fun h => by obtain ⟨rfl, _⟩ := h; exact absurd hp (by decide +kernel))); go_simp <;> exact rfl); go_frame) | (refine Free.cw_skip rfl ?_; go_frame)))
      refine Free.cw_loud rfl rfl (fun K hK => ?_)
      go_wp2_with fail
      refine (insert_c _ _ E.early (q : Int) a3 rest.length c3 rest (h.out.early.keeps (hk02.out.trans hk23)) hS3 hlen.out).mono ?_
      rintro e w4 ⟨v4, M, rfl, hO4, hI4, hk4⟩
      refine hK _ _ rfl (Free.KeepsP.of hk4 (by simp)) ?_
      clear hK K
      obtain ⟨k0, hk0', hMe, hlo0, hge0⟩ := id hI4
      have hMp : 0 < M.length := by rw [hMe]; simp; omega
      have hMl : M.length = EN + 1 := by rw [hMe, ← hEN]; simp; omega
      obtain ⟨g4, c4, rfl, hc4, hc4m, hg4, hg4l, hcell4⟩ := hO4.parts hMp
      clear hMe hlo0 hge0 hk0'
      have hse4 := hO4.se
      obtain ⟨ML, hML⟩ : ∃ n, M.length = n := ⟨_, rfl⟩
      rw [hML] at hMl hMp hc4 hse4 ⊢
      replace hML := Lib.hid hML
      have hENb : EN < 1099511627770 := by have := hlen.out; omega
      clear hEN
      have hMLb : ML < 1099511627771 := by omega
      have hMl' := Lib.hid hMl
      clear hMl
      have hty4 : Hid (∀ cs f, w4.heap[g4]? ≠ some (.cells cs tyEnd f)) := by
        obtain ⟨cs0, hown0, _⟩ := hO4
        exact NE.of_owns hown0 (by decide) g4 rfl
      have hk24 : Keeps [] w2 w4 := hk23.trans hk4
      have hb4 := (hk24.block _ plt (by simp)).trans hb2
      have hz4 := (hk24.block _ zlt (by simp)).trans hr2
      have hsz4 := hk24.size
      obtain ⟨y0, y1, y2, y3, y4, yf, ylt⟩ := cells5 hb4
      (repeat (apply Free.cw_pure rfl rfl; (intro w'; go_simp <;> exact rfl); go_frame))
      refine Free.cw_loud rfl rfl (fun K hK => ?_)
      go_wp2
      refine hK _ _ rfl (Free.KeepsP.setCell _ (.inr ⟨trivial, rfl⟩) _) ?_
      clear hK K
      refine Free.cw_nil ?_
      have hb5 := set5_4 hb4 (.slice (some ⟨g4, 0, none⟩) ML c4)
      have hk45 : Keeps [w.heap.size] w4 (w4.setCell ⟨w.heap.size, 4, none⟩ (.slice (some ⟨g4, 0, none⟩) ML c4)) := (Keeps.refl _ _).setCell (.inr (by simp)) _
      have hz5 := (hk45.block _ (by omega) (by simp)).trans hz4
      have hkb45 : KB w4 (w4.setCell ⟨w.heap.size, 4, none⟩ (.slice (some ⟨g4, 0, none⟩) ML c4)) := KB.setCell w4 _ y4 (by simp)
      have hk05 : Keeps [] w (w4.setCell ⟨w.heap.size, 4, none⟩ (.slice (some ⟨g4, 0, none⟩) ML c4)) := (hk02.out.trans hk24).fresh hk45 (by simp)
      have hsz5 : (w4.setCell ⟨w.heap.size, 4, none⟩ (.slice (some ⟨g4, 0, none⟩) ML c4)).heap.size = w4.heap.size := by simp
      have hg4w : w.heap.size + 3 ≤ g4 := by have := hk23.size; omega
      clear hb4 hz4 hb2 hr2 hR2 p0 p1 p2 p3 p4 pf plt z0 z1 z2 z3 z4 zf zlt c0 c1 clt y0 y1 y2 y3 y4 yf ylt hB3 hG3 hS3 hk23 hO4 hk4 hk24 hk02
      generalize (w4.setCell ⟨w.heap.size, 4, none⟩ (.slice (some ⟨g4, 0, none⟩) ML c4)) = w5 at *
      have hkl5 := KL.fresh w5
      have hka : Keeps [] w5 (w5.alloc (.cells #[] 23)) := (Keeps.refl [] w5).alloc _
      have hI0 : Hid (PopI w w4 (w5.alloc (.cells #[] 23)) s a r g4 c4 (.slice bk nk ck) M 0 0 (.slice (some ⟨w4.heap.size, 0, none⟩) 0 0)) := 
        ⟨by omega, fun i _ h => by omega, fun _ => rfl, (by rw [← hsz5]; exact hkl5.mono (Nat.le_refl _)), by simpa [hML.out] using hse4, by simpa [hML.out] using (hka.block _ (by omega) (by simp)).trans hb5, (hka.block _ (by omega) (by simp)).trans hz5, hk05.trans hka, hk45.trans (hka.of_nil), hkb45.trans hka.kb0⟩
      clear hb5 hz5 hkl5 hka hk05 hk45 hkb45
      replace hcell4 := Lib.hid hcell4
      replace hI4 := Lib.hid hI4
      clear hse4
      go_wp2
      have hwq : IntKind.i64.wrap (q : Int) = q := IntWalk.i64_in _ ⟨by omega, by omega⟩
      simp only [hwq]
      clear hwq
      go_loopw [9] (fun vo wr => ∃ (j o1 : Nat) (ao : Option Addr) (co : Nat), vo = .slice ao j co ∧ PopI w w4 wr s a r g4 c4 (.slice bk nk ck) M j o1 (.slice ao j co)) (fun _ wr => mPop (r + ML) w.heap.size wr)
      case atStart => exact ⟨0, 0, _, _, rfl, hI0.out⟩
      case round =>
        obtain ⟨j, o1, ao, co, rfl, hI⟩ := hrel
        obtain ⟨x0, x1, x2, x3, x4, xf, xlt⟩ := cells5 hI.blk
        have hjle := hI.le
        have hzb := hI.zblk
        rw [hML.out] at hjle x4
        clear hI0
        by_cases hlt : j < ML
        · have hjM : j < M.length := by rw [hML.out]; exact hlt
          obtain ⟨ad, cp1, e1, e2, hX⟩ := hcell4.out j hjM
          have ho := hI.off (by omega)
          rw [ho] at x4
          have hg4l' := hI.keeps4.cell g4 (j * 2) hg4l (by simp; omega)
          have hg4m' := hI.keeps4.cell g4 (j * 2 + 1) hg4l (by simp; omega)
          rw [e1] at hg4l'
          rw [e2] at hg4m'
          obtain ⟨m, hm'⟩ : ∃ m, ML - j = m := ⟨_, rfl⟩
          obtain ⟨cj, hcj⟩ : ∃ m, c4 - j = m := ⟨_, rfl⟩
          rw [hm', hcj] at x4
          have hm0 : 0 < m := by omega
          have hm1 : (0 : Int) < m := by omega
          have hmc : m ≤ cj := by omega
          have hX' := hX.kb hI.kb
          obtain ⟨sq, hsq⟩ : ∃ x, M[j].1 = x := ⟨_, rfl⟩
          obtain ⟨sl, hsl⟩ : ∃ x, M[j].2 = x := ⟨_, rfl⟩
          rw [hsq] at hg4l'
          rw [hsl] at hg4m' hX'
          obtain ⟨sn, hsn⟩ : ∃ x, sl.length = x := ⟨_, rfl⟩
          rw [hsn] at hg4m' hX'
          replace hsq := Lib.hid hsq
          replace hsl := Lib.hid hsl
          replace hsn := Lib.hid hsn
          replace hI := Lib.hid hI
          replace hX' := Lib.hid hX'
          replace hzb := Lib.hid hzb
          clear e1 e2 ho hX
          by_cases hseq : sq = (r : Int) + j + 1
          · have hsq1 : ((sq : Int) == (r : Int) + j + 1) = true := by simp [hseq]
            have hkl := hI.out.kl.keepN ((Keeps.refl [] wr).drewN 0)
            have hown := hI.out.own
            by_cases hc1 : cj = 1
            · have hIs := fun (w6 : World) (v6 : Value) h1 h2 h3 => hI.out.step (w5 := w6) (v5 := v6) (o2 := o1) hjM (hsq.out.trans hseq) h1 h2 h3 (.inl ⟨by omega, rfl⟩) (by omega) (by omega)
              replace hIs := Lib.hid hIs
              clear hseq
              go_wp2
              (refine wp_region_quiet_lit (by kernel_rfl) (by kernel_rfl) ?_; (repeat (first | go_big_quiet_step (fail) | quiet_step (fail))); with_reducible refine wpQuiet_nil ?_; intro _ hw'; obtain ⟨nq, hw''⟩ := hw'; subst hw'')
              go_wp2_with (
                  at_builtin
                  (refine wpl_pushL _ w4.heap.size _ _ ((M.take j).map Prod.snd) sl rfl _ _ rfl rfl rfl (hI.out.kl.keepN ((Keeps.refl [] wr).drewN _)) (hX'.out.keeps ((Keeps.refl [] wr).drewN _)) (by simp; omega) (by have := hI.out.keeps4.size; simpa using this) ?_; intro v6 w6 hL6 hG6 hkb6)
                  have hk6 : Keeps (Value.slice ao j co).ownBlock.toList wr w6 := (((Keeps.refl [] wr).drewN _).alloc _).of_nil.trans hG6.keepsO
                  have hb6 := (hk6.block _ xlt (fun hm => by have := hown _ hm; omega)).trans hI.out.blk
                  rw [hML.out, hm', hcj] at hb6
                  obtain ⟨a6, c6, rfl⟩ : ∃ a c, v6 = .slice a (j + 1) c := by obtain ⟨a, c, rfl⟩ := hL6.form; exact ⟨a, c, by simp; omega⟩
                  have ho1 := hI.out.off (by omega)
                  have hfin := hIs.out w6 _ (by rw [hsl.out]; exact hL6) hk6 (hkb6)
                  rw [hML.out, show ML - (j + 1) = m - 1 by omega, show c4 - (j + 1) = 0 by omega, ho1] at hfin
                  have hm3 := (cells5 hfin.blk).2.2.2.1
                  replace hm3 := Lib.hid hm3
                  replace hx3 := Lib.hid x3
                  replace hfin := Lib.hid hfin
                  obtain ⟨y0, y1, y2, y3, y4, yf, ylt⟩ := cells5 hb6
                  rw [ho1] at y4
                  clear hG6 hL6 hkb6 hk6 hb6 hkl hown hIs hI x0 x1 x2 x3 x4 xf xlt hg4l' hg4m')
              go_roundw
              case rel => exact ⟨j + 1, j * 2, a6, c6, rfl, hfin.out⟩
              case measure => simp only [mPop, hm3.out, hx3.out, Option.getD, intOf]; omega
            · have hIs := fun (w6 : World) (v6 : Value) h1 h2 h3 => hI.out.step (w5 := w6) (v5 := v6) (o2 := o1 + 2) hjM (hsq.out.trans hseq) h1 h2 h3 (.inr ⟨by omega, rfl⟩) (by omega) (by omega)
              replace hIs := Lib.hid hIs
              clear hseq
              go_wp2
              (refine wp_region_quiet_lit (by kernel_rfl) (by kernel_rfl) ?_; (repeat (first | go_big_quiet_step (fail) | quiet_step (fail))); with_reducible refine wpQuiet_nil ?_; intro _ hw'; obtain ⟨nq, hw''⟩ := hw'; subst hw'')
              go_wp2_with (
                  at_builtin
                  (refine wpl_pushL _ w4.heap.size _ _ ((M.take j).map Prod.snd) sl rfl _ _ rfl rfl rfl (hI.out.kl.keepN ((Keeps.refl [] wr).drewN _)) (hX'.out.keeps ((Keeps.refl [] wr).drewN _)) (by simp; omega) (by have := hI.out.keeps4.size; simpa using this) ?_; intro v6 w6 hL6 hG6 hkb6)
                  have hk6 : Keeps (Value.slice ao j co).ownBlock.toList wr w6 := (((Keeps.refl [] wr).drewN _).alloc _).of_nil.trans hG6.keepsO
                  have hb6 := (hk6.block _ xlt (fun hm => by have := hown _ hm; omega)).trans hI.out.blk
                  rw [hML.out, hm', hcj] at hb6
                  obtain ⟨a6, c6, rfl⟩ : ∃ a c, v6 = .slice a (j + 1) c := by obtain ⟨a, c, rfl⟩ := hL6.form; exact ⟨a, c, by simp; omega⟩
                  have ho1 := hI.out.off (by omega)
                  have hfin := hIs.out w6 _ (by rw [hsl.out]; exact hL6) hk6 (hkb6)
                  rw [hML.out, show ML - (j + 1) = m - 1 by omega, show c4 - (j + 1) = cj - 1 by omega, ho1] at hfin
                  have hm3 := (cells5 hfin.blk).2.2.2.1
                  replace hm3 := Lib.hid hm3
                  replace hx3 := Lib.hid x3
                  replace hfin := Lib.hid hfin
                  obtain ⟨y0, y1, y2, y3, y4, yf, ylt⟩ := cells5 hb6
                  rw [ho1] at y4
                  clear hG6 hL6 hkb6 hk6 hb6 hkl hown hIs hI x0 x1 x2 x3 x4 xf xlt hg4l' hg4m')
              go_roundw
              case rel => exact ⟨j + 1, j * 2 + 2, a6, c6, rfl, hfin.out⟩
              case measure => simp only [mPop, hm3.out, hx3.out, Option.getD, intOf]; omega
          · obtain ⟨z0, z1, z2, z3, z4, zf, zlt⟩ := cells5 hzb.out
            have hsq0 : ((sq : Int) == (r : Int) + j + 1) = false := by simpa using hseq
            have ho1 := hI.out.off (by omega)
            replace ho1 := Lib.hid ho1
            go_wp2
            (refine wp_region_quiet_lit (by kernel_rfl) (by kernel_rfl) ?_; (repeat (first | go_big_quiet_step (fail) | quiet_step (fail))); with_reducible refine wpQuiet_nil ?_; intro _ hw'; obtain ⟨nq, hw''⟩ := hw'; subst hw'')
            have hfin := set5_all (w := wr.drewN nq) hzb.out (by simp [noB]) (.int .i64 s) (.int .i64 a) (.slice bk nk ck) (.int .i64 ((r : Int) + j)) (.slice (some ⟨g4, j * 2, none⟩) m cj)
            replace hfin := Lib.hid hfin
            go_wp2
            obtain ⟨g1, g2, g3⟩ := hfin.out
            refine bodyPost_ret (results_end3 rfl _ _ _ _ _ _ _ _ _ _ rfl g1) rfl ?_
            have hstop : ∀ l tl, M.drop j ≠ (((r + j : Nat) : Int) + 1, l) :: tl := fun l tl he' => by
              rw [List.drop_eq_getElem_cons hjM] at he'
              have e1 : M[j].1 = (((r + j : Nat) : Int) + 1) := by rw [(List.cons.inj he').1]
              rw [hsq.out] at e1
              exact hseq (by rw [e1]; simp)
            exact hI.out.fin _ _ q rest _ _ _ h.out.kept hI4.out hstop _ (((Keeps.refl _ wr).drewN nq).trans g2) g3 (by omega) (by omega) hg4l hty4.out (by rw [hML.out]; exact hm') hcj ho1.out
        · have hjL : ML - j = 0 := by omega
          rw [hjL] at x4
          obtain ⟨z0, z1, z2, z3, z4, zf, zlt⟩ := cells5 hzb
          replace hI := Lib.hid hI
          replace hzb := Lib.hid hzb
          go_wp2
          (refine wp_region_quiet_lit (by kernel_rfl) (by kernel_rfl) ?_; (repeat (first | go_big_quiet_step (fail) | quiet_step (fail))); with_reducible refine wpQuiet_nil ?_; intro _ hw'; obtain ⟨nq, hw''⟩ := hw'; subst hw'')
          have hfin := set5_all (w := wr.drewN nq) hzb.out (by simp [noB]) (.int .i64 s) (.int .i64 a) (.slice bk nk ck) (.int .i64 ((r : Int) + j)) (.slice (some ⟨g4, o1, none⟩) 0 (c4 - j))
          replace hfin := Lib.hid hfin
          go_wp2
          obtain ⟨g1, g2, g3⟩ := hfin.out
          refine bodyPost_ret (results_end3 rfl _ _ _ _ _ _ _ _ _ _ rfl g1) rfl ?_
          have hstop : ∀ l tl, M.drop j ≠ (((r + j : Nat) : Int) + 1, l) :: tl := fun l tl he' => by
            rw [List.drop_of_length_le (by rw [hML.out]; omega)] at he'
            cases he'
          exact hI.out.fin _ _ q rest _ _ _ h.out.kept hI4.out hstop _ (((Keeps.refl _ wr).drewN nq).trans g2) g3 (by omega) (by omega) hg4l hty4.out (by rw [hML.out]; omega) rfl rfl
end Go.Proofs.Ytilmcdieihmiaaa

namespace Go.Proofs.Ytilmcdieihmiaaa
open Go.RowKit

/-- A number as it is taken for an unsigned one. -/
def uOf (N : Int) : Nat := (N % 18446744073709551616).toNat
theorem uOf_lt (N : Int) : uOf N < 18446744073709551616 := by unfold uOf; omega
theorem wrap_uOf (N : Int) : IntKind.u64.wrap N = uOf N := by rw [IntKind.wrap_u64]; unfold uOf; omega
set_option maxRecDepth 100000 in
set_option maxHeartbeats 2000000 in
theorem dataRi_c (w : World) (v0 : Value) (l : List UInt8) (n : Int) (h : SlB w v0 l) (hl : l.length ≤ 140737488355000) :
    Calls Try.prog 29 #[.int .i64 n, v0] w fun e w' => ∃ v', e = .returned v' ∧ Buf w' w.heap.size v' (dataB (uOf n) l) ∧ Keeps [] w w' := by
  have hu := uOf_lt n
  have hw := wrap_uOf n
  obtain ⟨m, hm⟩ : ∃ m, uOf n = m := ⟨_, rfl⟩
  rw [hm] at hu hw ⊢
  clear hm
  obtain ⟨a0, c0, rfl⟩ := h.form
  replace h := Lib.hid h
  go_enter Try.func29, Try.ntmps29
  go_wp2_with fail
  refine (refU_c _ _ [1] m (Buf.one w 1 rfl).slB (by omega) (by simp)).mono ?_
  rintro e w1 ⟨v1, rfl, hB1, hk01⟩
  have hk1 : Keeps [] w w1 := ((Keeps.refl [] w).alloc _).trans hk01
  have hlen := encU_len (n := m) (by omega)
  obtain ⟨a1, c1, rfl⟩ := hB1.form
  have hsz := hk1.size
  have hB1 := Lib.hid (hB1.mono (b' := w.heap.size) (by simp))
  replace hk1 := Lib.hid hk1
  clear hk01
  go_wp2_with (at_builtin; (refine wpl_appB _ w.heap.size _ _ rfl _ _ rfl rfl _ l rfl hB1.out (h.out.keeps hk1.out) (by simp; omega) (by omega) ?_; intro v2 w2 hB2 hG2))
  go_ret
  exact ⟨_, rfl, hB2, hG2.keeps hk1.out (fun b hb => ownBlock_ge hB1.out b hb)⟩

set_option maxRecDepth 100000 in
set_option maxHeartbeats 2000000 in
theorem ackRi_c (w : World) (n : Int) :
    Calls Try.prog 30 #[.int .i64 n] w fun e w' => ∃ v', e = .returned v' ∧ Buf w' w.heap.size v' (ackB (uOf n)) ∧ Keeps [] w w' := by
  have hu := uOf_lt n
  have hw := wrap_uOf n
  obtain ⟨m, hm⟩ : ∃ m, uOf n = m := ⟨_, rfl⟩
  rw [hm] at hu hw ⊢
  clear hm
  go_enter Try.func30, Try.ntmps30
  go_wp2_with fail
  refine (refU_c _ _ [2] m (Buf.one w 2 rfl).slB (by omega) (by simp)).mono ?_
  rintro e w1 ⟨v1, rfl, hB1, hk01⟩
  have hk1 : Keeps [] w w1 := ((Keeps.refl [] w).alloc _).trans hk01
  have hB1 := Lib.hid (hB1.mono (b' := w.heap.size) (by simp))
  replace hk1 := Lib.hid hk1
  clear hk01
  go_wp2
  go_ret
  exact ⟨_, rfl, hB1.out, hk1.out⟩
end Go.Proofs.Ytilmcdieihmiaaa

namespace Go.Proofs.Ytilmcdieihmiaaa
open Go.RowKit

theorem SLs.elems {w : World} {v : Value} {ls : List Bytes} (h : SLs w v ls) : ∃ a c, v = .slice a ls.length c ∧ ∀ k (hk : k < ls.length), ∃ g o ad cp, a = some ⟨g, o, none⟩ ∧ w.cell? ⟨g, o + k, none⟩ = some (.slice ad ls[k].length cp) ∧ SlB w (.slice ad ls[k].length cp) ls[k] := by
  rcases h.cases with ⟨rfl, a, c, rfl⟩ | ⟨g, o, c, rfl, _, _, _, hc⟩
  · exact ⟨a, c, rfl, fun k hk => by simp at hk⟩
  · refine ⟨_, c, rfl, fun k hk => ?_⟩
    obtain ⟨x, hx, hX⟩ := hc k hk
    obtain ⟨ad, cp, rfl⟩ := hX.form
    exact ⟨g, o, ad, cp, rfl, hx, hX⟩
set_option maxRecDepth 100000 in
set_option maxHeartbeats 4000000 in
theorem datagramsR_c (w : World) (s A r : Nat) (vk ve : Value) (P : List Bytes) (h : SLs w vk P) (hs : A + P.length < 1099511627777) (hl : ∀ l ∈ P, l.length ≤ 140737488355000) :
    Calls Try.prog 46 #[.agg #[.int .i64 s, .int .i64 A, vk, .int .i64 r, ve]] w fun e w' => ∃ v', e = .returned v' ∧ KL w' w.heap.size v' (dgF A P) ∧ Keeps [] w w' := by
  obtain ⟨ak, ck, rfl, hel⟩ := h.elems
  obtain ⟨K, hK⟩ : ∃ K, P.length = K := ⟨_, rfl⟩
  rw [hK] at hs ⊢
  clear h
  replace hel := Lib.hid hel
  replace hK := Lib.hid hK
  replace hl := Lib.hid hl
  go_enter Try.func46, Try.ntmps46
  go_wp2
  have hKL0 : KL ((w.alloc (.cells #[.int .i64 s, .int .i64 A, .slice ak K ck, .int .i64 r, ve] tyEnd)).alloc (.cells #[] 23)) (w.heap.size + 1) (.slice (some ⟨w.heap.size + 1, 0, none⟩) 0 0) [] := by
    simpa using KL.fresh (w.alloc (.cells #[.int .i64 s, .int .i64 A, .slice ak K ck, .int .i64 r, ve] tyEnd))
  have hb0 : ((w.alloc (.cells #[.int .i64 s, .int .i64 A, .slice ak K ck, .int .i64 r, ve] tyEnd)).alloc (.cells #[] 23)).heap[w.heap.size]? = some (.cells #[.int .i64 s, .int .i64 A, .slice ak K ck, .int .i64 r, ve] tyEnd (0, 0)) :=
    (((Keeps.refl [] (w.alloc (.cells #[.int .i64 s, .int .i64 A, .slice ak K ck, .int .i64 r, ve] tyEnd))).alloc (.cells #[] 23)).block w.heap.size (by simp) (by simp)).trans (heap_alloc_new w _)
  have hk0 : Keeps [] w ((w.alloc (.cells #[.int .i64 s, .int .i64 A, .slice ak K ck, .int .i64 r, ve] tyEnd)).alloc (.cells #[] 23)) := ((Keeps.refl [] w).alloc _).alloc _
  replace hKL0 := Lib.hid hKL0
  replace hb0 := Lib.hid hb0
  replace hk0 := Lib.hid hk0
  go_loopw [3, 4] (fun out i wr => ∃ (k : Nat) (ao : Option Addr) (co : Nat), i = .int .i64 k ∧ k ≤ K ∧ out = .slice ao k co ∧ KL wr (w.heap.size + 1) (.slice ao k co) ((dgF A P).take k) ∧ Keeps [] w wr ∧ wr.heap[w.heap.size]? = some (.cells #[.int .i64 s, .int .i64 A, .slice ak K ck, .int .i64 r, ve] tyEnd (0, 0))) (fun _ i _ => K - (intOf i).toNat)
  case atStart => exact ⟨0, _, _, rfl, by omega, rfl, by simpa using hKL0.out, hk0.out, hb0.out⟩
  case round =>
    obtain ⟨k, ao, co, rfl, hk, rfl, hL, hkw, hbox⟩ := hrel
    clear hKL0 hb0 hk0
    obtain ⟨p0, p1, p2, p3, p4, pf, plt⟩ := cells5 hbox
    replace hbox := Lib.hid hbox
    clear p0 p3 p4 pf
    by_cases hlt2 : k < K
    · obtain ⟨g, o, ad, cp, rfl, hx, hX⟩ := hel.out k (by rw [hK.out]; exact hlt2)
      have hxr := hkw.val hx
      have hglt : g < w.heap.size := lt_of_cell hx
      replace hX := hX.keeps hkw
      have hll := hl.out _ (List.getElem_mem (l := P) (n := k) (by rw [hK.out]; exact hlt2))
      generalize hPk : (P[k]'(by rw [hK.out]; exact hlt2)) = Pk at *
      obtain ⟨LL, hLL⟩ : ∃ LL, Pk.length = LL := ⟨_, rfl⟩
      rw [hLL] at hxr hX
      clear hx
      replace hX := Lib.hid hX
      replace hL := Lib.hid hL
      replace hLL := Lib.hid hLL
      replace hPk := Lib.hid hPk
      replace hkw := Lib.hid hkw
      have hsz := hkw.out.size
      go_wp2
      refine Free.wp_region_chain (fun i => i == 11 || i == 12 || i == 13) (fun i => true) (fun j b => j = 13 ∧ w.heap.size + 1 ≤ b) (by kernel_rfl) (by kernel_rfl) (by kernel_rfl) ?_
      (repeat (first | (apply Free.cw_pure rfl rfl; (intro w'; go_simp <;> exact rfl); go_frame) | (apply Free.cw_steady rfl rfl rfl; (intro w' hS; have q0 := Free.sx_cell hS p1 (fun j _ e => by have := e.2; omega); have q1 := Free.sx_cell hS p2 (fun j _ e => by have := e.2; omega); have q2 := Free.sx_cell hS hxr (fun j _ e => by have := e.2; omega); go_simp <;> exact rfl); go_frame) | (refine Free.cw_skip rfl ?_; go_frame)))
      refine Free.cw_loud rfl rfl (fun K hK => ?_)
      go_wp2_with fail
      refine (dataR_c _ _ Pk (A + 1 + k) (hX.out.kb (KB.drew _)) (by omega) (by omega)).mono ?_
      rintro e w3 ⟨v3, rfl, hB3, hk3⟩
      refine hK _ _ rfl (Free.KeepsP.of hk3 (by simp)) ?_
      clear hK
      have hkr3 : Keeps [] wr w3 := (Keeps.refl [] wr).drew.trans hk3
      have hL3 := hL.out.keepN hkr3
      have hsz3 := hkr3.size
      have hS3 := hB3.slB
      obtain ⟨a3, c3', rfl⟩ := hB3.form
      clear hB3
      generalize hDL : dataB (A + 1 + k) Pk = DD at *
      obtain ⟨DL, hDLl⟩ : ∃ DL, DD.length = DL := ⟨_, rfl⟩
      rw [hDLl] at hS3 ⊢
      replace hDL := Lib.hid hDL
      replace hDLl := Lib.hid hDLl
      replace hk3 := Lib.hid hk3
      have hb3 := (hkr3.block _ plt (by simp)).trans hbox.out
      refine Free.cw_loud rfl rfl (fun K hK => ?_)
      go_wp2
      refine hK _ _ rfl (Free.KeepsP.alloc _ _ _) ?_
      clear hK
      refine Free.cw_loud rfl rfl (fun K hK => ?_)
      refine wp_pushL w3 (w.heap.size + 1) (.slice ao k co) _ ((dgF A P).take k) DD _ _ rfl rfl rfl hL3 hS3 (by simp; omega) (by omega) (fun v4 w4 hL4 hG4 hkb4 => ?_)
      refine hK _ _ rfl (Free.KeepsP.of hG4.keepsO (fun b hb => ⟨rfl, (ge_own hL3 b (by simpa using hb)).1⟩)) ?_
      clear hK
      rw [← hDL.out, ← hPk.out, dgF_step A P k (by rw [hK.out]; exact hlt2)] at hL4
      have hown : ∀ b, (Value.slice ao k co).ownBlock = some b → w.heap.size + 1 ≤ b := fun b hb => (ge_own hL3 b hb).1
      have hk5 : Keeps (Value.slice ao k co).ownBlock.toList w3 w4 := hG4.alloc_left.keepsO
      have hk4 : Keeps [] w w4 := (hkw.out.trans hkr3).fresh hk5 (fun x hx => .inr (by have := hown x (by simpa using hx); omega))
      have hb4 := (hk5.block _ (by omega) (fun hm => by have := hown _ (by simpa using hm); omega)).trans hb3
      obtain ⟨a4, c4, rfl⟩ : ∃ a c, v4 = .slice a (k + 1) c := by
        obtain ⟨a, c, rfl⟩ := hL4.form
        exact ⟨a, c, by rw [List.length_take, dgF_len, hK.out, Nat.min_eq_left (by omega)]⟩
      replace hL4 := Lib.hid hL4
      replace hk4 := Lib.hid hk4
      replace hb4 := Lib.hid hb4
      clear hG4 hkb4 hL3 hS3 hk5 hb3 hown
      (repeat (apply Free.cw_pure rfl rfl; (intro w'; go_simp <;> exact rfl); go_frame))
      refine Free.cw_nil ?_
      go_wp2
      go_roundw
      case rel => exact ⟨k + 1, a4, c4, rfl, by omega, rfl, hL4.out, hk4.out, hb4.out⟩
      case measure => simp [intOf]; omega
    · have hkk : k = K := by omega
      subst hkk
      rw [List.take_of_length_le (by rw [dgF_len, hK.out]; omega)] at hL
      replace hL := Lib.hid hL
      replace hkw := Lib.hid hkw
      go_wp2
      go_ret
      exact ⟨_, rfl, hL.out.mono (by omega), hkw.out⟩
end Go.Proofs.Ytilmcdieihmiaaa
