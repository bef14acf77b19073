/- A channel receives a datagram. -/
import Derived.Test.YtilmcdieihmiaaaAccept
namespace Go.Proofs.Ytilmcdieihmiaaa
open Go.RowKit

/-- What is left after a number is an end of what there was. -/
theorem readU_drop {l r : List UInt8} {x : Nat} (h : readU l = some (x, r)) : (∃ j, j ≤ l.length ∧ r = l.drop j) ∧ x < 18446744073709551616 := by
  cases l with
  | nil => cases h
  | cons k t =>
    rw [readU] at h
    split at h
    · rename_i hc
      simp only [Option.some.injEq, Prod.mk.injEq] at h
      obtain ⟨rfl, rfl⟩ := h
      refine ⟨⟨k.toNat + 1, by simp; omega, by simp⟩, ?_⟩
      have h1 := valU_lt k.toNat (t.take k.toNat) (by simp; omega)
      have h2 : 256 ^ k.toNat ≤ 256 ^ 8 := Nat.pow_le_pow_right (by decide) hc.1
      have h3 : (256 : Nat) ^ 8 = 18446744073709551616 := by decide
      omega
    · cases h
theorem digs_head {n : Nat} (h : 0 < n) : ∃ b t, digs n = b :: t ∧ b ≠ 0 := by
  induction n using Nat.strongRecOn with
  | _ n ih =>
    rw [digs_pos h]
    rcases Nat.eq_zero_or_pos (n / 256) with e | e
    · rw [e, digs_zero]
      refine ⟨UInt8.ofNat (n % 256), [], rfl, fun e0 => ?_⟩
      have := congrArg UInt8.toNat e0
      simp at this; omega
    · obtain ⟨b, t, h1, h2⟩ := ih (n / 256) (by omega) e
      exact ⟨b, t ++ [UInt8.ofNat (n % 256)], by rw [h1]; rfl, h2⟩
theorem readU_encU (n : Nat) (l : List UInt8) (h : n < 18446744073709551616) : readU (encU n ++ l) = some (n, l) := by
  have h8 := digs_len8 h
  have hk : (UInt8.ofNat (digs n).length).toNat = (digs n).length := by simp; omega
  have hhead : 0 < (digs n).length → (digs n ++ l).headD 1 ≠ 0 := fun hp => by
    rcases Nat.eq_zero_or_pos n with e | e
    · rw [e, digs_zero] at hp; simp at hp
    · obtain ⟨b, t, h1, h2⟩ := digs_head e
      rw [h1]; simpa using h2
  simp only [encU, List.cons_append, readU, hk]
  rw [if_pos ⟨h8, by simp, hhead⟩]
  simp [valU_digs]

/- A datagram of a payload: what the end does with it is what it does in taking the payload. -/
set_option maxRecDepth 100000 in
set_option maxHeartbeats 4000000 in
theorem receive_data (Φ : World → Value → Int → World → Prop) (w : World) (bc : Nat) (v0 : Value) (t rest : List UInt8) (q : Nat) (h : SlB w v0 (1 :: t)) (hl : t.length ≤ 140737488355000) (hr : readU t = some (q, rest)) (hq : 0 < q)
    (hacc : ∀ w1 v1, Keeps [] w w1 → SlB w1 v1 rest → Calls Try.prog 43 #[.pointer (some ⟨bc, 0, none⟩), .int .u64 q, v1] w1 fun e w' => ∃ v k, e = .returned (.tuple #[v, .int .i64 k]) ∧ Φ w1 v k w') :
    Calls Try.prog 13 #[.pointer (some ⟨bc, 0, none⟩), v0] w fun e w' => ∃ v k w1, e = .returned (.tuple #[v, .int .i64 k]) ∧ Keeps [] w w1 ∧ Φ w1 v k w' := by
  obtain ⟨⟨j, hj, hdrop⟩, hq64⟩ := readU_drop hr
  rcases h.cases with ⟨h0, _⟩ | ⟨g, o, cp, rfl, hn, hm, hp, hg, hc⟩
  · cases h0
  · have k0 := hc 0 (by simp)
    simp only [Nat.add_zero, List.getElem_cons_zero] at k0
    have ht := h.tail 1 (by simp)
    simp only [List.length_cons, List.drop_succ_cons, List.drop_zero, Nat.add_sub_cancel] at ht
    have hte : SlB w (.slice (if cp = t.length + 1 - rest.length then some ⟨g, o, none⟩ else some ⟨g, o + (t.length + 1 - rest.length), none⟩) rest.length (cp - (t.length + 1 - rest.length))) rest := by
      have := h.tail (t.length + 1 - rest.length) (by simp)
      rw [hdrop] at this ⊢
      simp only [List.length_cons, List.length_drop] at this ⊢
      rw [show t.length + 1 - (t.length + 1 - (t.length - j)) = t.length - j by omega, show t.length + 1 - (t.length - j) = j + 1 by omega] at this
      rw [show t.length + 1 - (t.length - j) = j + 1 by omega]
      simpa using this
    have hrl : rest.length ≤ t.length := by rw [hdrop]; simp
    have ht0 : 0 < t.length := by cases t with | nil => cases hr | cons a b => simp
    obtain ⟨N, hN⟩ : ∃ N, t.length = N := ⟨_, rfl⟩
    obtain ⟨R, hR⟩ : ∃ R, rest.length = R := ⟨_, rfl⟩
    simp only [List.length_cons, hN, hR] at hn hm ht hte ht0 hrl hl hc hp h ⊢
    have hNh := Lib.hid hN
    have hRh := Lib.hid hR
    have hcp1 : ¬ cp = 1 := by omega
    rw [if_neg hcp1] at ht
    replace hr := Lib.hid hr
    replace ht := Lib.hid ht
    replace hte := Lib.hid hte
    replace hacc := Lib.hid hacc
    clear hc h hdrop hj hN hR
    have hq2 : (0 : Int) < q := by omega
    go_enter Try.func13, Try.ntmps13
    go_wp2_with fail
    refine (newReader_c _ _ _ ht.out (by have := hNh.out; omega)).mono ?_
    rintro e w1 ⟨br, vr, rfl, hbr, hR1, hk1⟩
    replace hR1 := Lib.hid hR1
    go_wp2_with fail
    refine (uint_ok _ br _ _ _ _ hR1.out hr.out).mono ?_
    rintro e w2 ⟨rfl, ⟨vr2, hR2⟩, hk2⟩
    have hk02 : Keeps [] w w2 := hk1.fresh hk2 (by simp; omega)
    have k02 : w2.cell? ⟨g, o, none⟩ = some (.int .u8 1) := (hk02.val k0)
    replace hR2 := Lib.hid hR2
    replace hk02 := Lib.hid hk02
    clear hk1 hk2 hR1
    go_wp2_with fail
    refine (left_c _ br _ _ _ hR2.out).mono ?_
    rintro e w3 ⟨rfl, rfl⟩
    simp only [hRh.out]
    by_cases hR0 : R = 0
    · have hrn : rest = [] := List.length_eq_zero_iff.1 (by rw [hRh.out]; exact hR0)
      subst hR0
      go_wp2_with fail
      refine (done_c _ br _ _ _ hR2.out).mono ?_
      rintro e w3 ⟨rfl, rfl⟩
      rw [show doneE rest 0 = 0 by rw [hrn]; rfl]
      go_wp2_with fail
      refine (left_c _ br _ _ _ hR2.out).mono ?_
      rintro e w3 ⟨rfl, rfl⟩
      simp only [hRh.out]
      by_cases hc0 : cp = N + 1
      · subst hc0
        simp only [Nat.sub_zero, ite_true, Nat.sub_self] at hte
        go_wp2_with fail
        refine (hacc.out _ _ hk02.out (hte.out.keeps hk02.out)).mono ?_
        rintro e w4 ⟨v, k, rfl, hΦ⟩
        replace hΦ := Lib.hid hΦ
        go_wp2
        go_ret2
        exact ⟨v, k, _, rfl, hk02.out, hΦ.out⟩
      · have hte := hte.out
        simp only [Nat.sub_zero, if_neg hc0] at hte
        replace hte := Lib.hid hte
        go_wp2_with fail
        refine (hacc.out _ _ hk02.out (hte.out.keeps hk02.out)).mono ?_
        rintro e w4 ⟨v, k, rfl, hΦ⟩
        replace hΦ := Lib.hid hΦ
        go_wp2
        go_ret2
        exact ⟨v, k, _, rfl, hk02.out, hΦ.out⟩
    · have hR1 : 0 < R := by omega
      have hRi : ((R : Int) == 0) = false := by simp; omega
      go_wp2_with fail
      refine (left_c _ br _ _ _ hR2.out).mono ?_
      rintro e w3 ⟨rfl, rfl⟩
      simp only [hRh.out]
      have hc0 : ¬ cp = N + 1 - R := by omega
      have hte := hte.out
      simp only [if_neg hc0] at hte
      rw [show Value.slice (some ⟨g, o + (N + 1 - R), none⟩) R (cp - (N + 1 - R)) = Value.slice (some ⟨g, o + (N + 1 - R), none⟩) (N + 1 - (N + 1 - R)) (cp - (N + 1 - R)) by rw [show N + 1 - (N + 1 - R) = R by omega]] at hte
      replace hte := Lib.hid hte
      go_wp2_with fail
      refine (hacc.out _ _ hk02.out (hte.out.keeps hk02.out)).mono ?_
      rintro e w4 ⟨v, k, rfl, hΦ⟩
      replace hΦ := Lib.hid hΦ
      go_wp2
      go_ret2
      exact ⟨v, k, _, rfl, hk02.out, hΦ.out⟩
end Go.Proofs.Ytilmcdieihmiaaa
