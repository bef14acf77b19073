/- The digits of a number to the base 256, and its encoding on the wire. No program. -/
namespace Go.Proofs.Ytilmcdieihmiaaa

/-- The digits of a number, the most significant one first. -/
def digs (n : Nat) : List UInt8 := if h : n = 0 then [] else digs (n / 256) ++ [UInt8.ofNat (n % 256)]
termination_by n
decreasing_by omega
theorem digs_zero : digs 0 = [] := by rw [digs]; simp
theorem digs_pos {n : Nat} (h : 0 < n) : digs n = digs (n / 256) ++ [UInt8.ofNat (n % 256)] := by rw [digs]; simp [show n ≠ 0 by omega]
theorem digs_len_pos {n : Nat} (h : 0 < n) : (digs n).length = (digs (n / 256)).length + 1 := by rw [digs_pos h]; simp
theorem digs_len_lt : ∀ (k n : Nat), n < 256 ^ k → (digs n).length ≤ k
  | 0, n, h => by have : n = 0 := by simpa using h
                  subst this; simp [digs_zero]
  | k + 1, n, h => by
    rcases Nat.eq_zero_or_pos n with rfl | hp
    · simp [digs_zero]
    · rw [digs_len_pos hp]
      have := digs_len_lt k (n / 256) (by rw [Nat.pow_succ] at h; omega)
      omega
theorem digs_len8 {n : Nat} (h : n < 18446744073709551616) : (digs n).length ≤ 8 := digs_len_lt 8 n (by simpa using h)
theorem digs_lt : ∀ (k n : Nat), (digs n).length = k → n < 256 ^ k
  | 0, n, h => by
    rcases Nat.eq_zero_or_pos n with rfl | hp
    · simp
    · rw [digs_len_pos hp] at h; omega
  | k + 1, n, h => by
    rcases Nat.eq_zero_or_pos n with rfl | hp
    · exact Nat.pow_pos (by omega)
    · rw [digs_len_pos hp] at h
      have := digs_lt k (n / 256) (by omega)
      rw [Nat.pow_succ]; omega
/-- The digit with `i` digits behind it. -/
theorem digs_get : ∀ (k n i : Nat), (digs n).length = k → i < k → (digs n)[k - 1 - i]? = some (UInt8.ofNat (n / 256 ^ i % 256))
  | 0, n, i, _, hi => by omega
  | k + 1, n, i, h, hi => by
    rcases Nat.eq_zero_or_pos n with rfl | hp
    · simp [digs_zero] at h
    · have h2 := digs_len_pos hp
      rw [digs_pos hp]
      cases i with
      | zero => rw [List.getElem?_append_right (by omega), show k + 1 - 1 - 0 - (digs (n / 256)).length = 0 from by omega]; simp
      | succ i =>
        rw [List.getElem?_append_left (by omega)]
        have := digs_get k (n / 256) i (by omega) (by omega)
        rw [show k + 1 - 1 - (i + 1) = k - 1 - i by omega, this, Nat.div_div_eq_div_mul, Nat.pow_succ, Nat.mul_comm 256]
/-- The encoding of a number. -/
def encU (n : Nat) : List UInt8 := UInt8.ofNat (digs n).length :: digs n
theorem encU_len {n : Nat} (h : n < 18446744073709551616) : (encU n).length ≤ 9 := by have := digs_len8 h; simp [encU]; omega
/-- A data datagram, an acknowledgement. -/
def dataB (n : Nat) (l : List UInt8) : List UInt8 := [1] ++ encU n ++ l
def ackB (n : Nat) : List UInt8 := [2] ++ encU n
/-- The number that digits stand for. -/
def valU (l : List UInt8) : Nat := l.foldl (fun n b => n * 256 + b.toNat) 0
theorem valU_snoc (l : List UInt8) (b : UInt8) : valU (l ++ [b]) = valU l * 256 + b.toNat := by simp [valU]
theorem valU_lt : ∀ (k : Nat) (l : List UInt8), l.length = k → valU l < 256 ^ k
  | 0, l, h => by rw [List.length_eq_zero_iff.1 h]; simp [valU]
  | k + 1, l, h => by
    obtain ⟨m, b, rfl⟩ : ∃ m b, l = m ++ [b] := ⟨l.dropLast, l.getLast (by intro e; subst e; simp at h), (List.dropLast_concat_getLast _).symm⟩
    have := valU_lt k m (by simpa using h)
    have hb := b.toNat_lt
    rw [valU_snoc, Nat.pow_succ]; omega
theorem valU_digs (n : Nat) : valU (digs n) = n := by
  induction n using Nat.strongRecOn with
  | _ n ih =>
    rcases Nat.eq_zero_or_pos n with rfl | hp
    · simp [digs_zero, valU]
    · rw [digs_pos hp, valU_snoc, ih (n / 256) (by omega)]
      simp; omega
theorem digs_valU : ∀ (k : Nat) (l : List UInt8), l.length = k → (∀ b, l[0]? = some b → b ≠ 0) → digs (valU l) = l
  | 0, l, h, _ => by rw [List.length_eq_zero_iff.1 h]; simp [valU, digs_zero]
  | k + 1, l, h, h0 => by
    obtain ⟨m, b, rfl⟩ : ∃ m b, l = m ++ [b] := ⟨l.dropLast, l.getLast (by intro e; subst e; simp at h), (List.dropLast_concat_getLast _).symm⟩
    have hm : m.length = k := by simpa using h
    have hb := b.toNat_lt
    rcases Nat.eq_zero_or_pos k with rfl | hk
    · have : m = [] := List.length_eq_zero_iff.1 hm
      subst this
      have hb0 : b ≠ 0 := h0 b (by simp)
      have hp : 0 < b.toNat := by
        rcases Nat.eq_zero_or_pos b.toNat with e | e
        · exact absurd (UInt8.toNat_inj.1 (by simpa using e)) hb0
        · exact e
      simp only [valU, List.nil_append, List.foldl_cons, List.foldl_nil, Nat.zero_mul, Nat.zero_add]
      rw [digs_pos hp, show b.toNat / 256 = 0 by omega, digs_zero, show b.toNat % 256 = b.toNat by omega]; simp
    · have h0' : ∀ c, m[0]? = some c → c ≠ 0 := fun c hc => h0 c (by rw [List.getElem?_append_left (by omega)]; exact hc)
      have ih := digs_valU k m hm h0'
      have hpos : 0 < valU m := by
        rcases Nat.eq_zero_or_pos (valU m) with e | e
        · rw [e, digs_zero] at ih; subst ih; simp at hm; omega
        · exact e
      rw [valU_snoc, digs_pos (by omega), show (valU m * 256 + b.toNat) / 256 = valU m by omega, ih, show (valU m * 256 + b.toNat) % 256 = b.toNat by omega]; simp
end Go.Proofs.Ytilmcdieihmiaaa
