/- The contract of the reference's encoding of a number. -/
import Derived.Test.YtilmcdieihmiaaaWire
namespace Go.Proofs.Ytilmcdieihmiaaa
open Go.RowKit

theorem Buf.mono {w : World} {b b' : Nat} {v : Value} {l : List UInt8} (h : Buf w b v l) (hb : b' ≤ b) : Buf w b' v l := by
  refine ⟨h.1, ?_⟩
  rcases h.2 with hn | ⟨g, cap, cur, rfl, hg, rest⟩
  · exact .inl hn
  · exact .inr ⟨g, cap, cur, rfl, by omega, rest⟩
set_option maxRecDepth 100000 in
set_option maxHeartbeats 2000000 in
theorem refU_c (w : World) (v0 : Value) (l : List UInt8) (n : Nat) (h : SlB w v0 l) (hn : n < 18446744073709551616) (hl : l.length ≤ 140737488355000) :
    Calls Try.prog 49 #[v0, .int .u64 n] w fun e w' => ∃ v', e = .returned v' ∧ Buf w' w.heap.size v' (l ++ encU n) ∧ Keeps [] w w' := by
  obtain ⟨a0, c0, rfl⟩ := h.form
  replace h := Lib.hid h
  go_enter Try.func49, Try.ntmps49
  go_wp2_with fail
  go_loopw [1, 5] (fun n' d wr => ∃ (m : Nat) (L : List UInt8), m ≤ n ∧ n' = .int .u64 m ∧ Hid (digs n = digs m ++ L) ∧ Buf wr w.heap.size d L ∧ Keeps [] w wr) (fun n' _ _ => (intOf n').toNat)
  case atStart => exact ⟨n, [], by omega, rfl, by show _ = _; simp, Buf.fresh w, (Keeps.refl [] w).alloc _⟩
  case round =>
    obtain ⟨m, L, hm, rfl, hL, hB, hk⟩ := hrel
    obtain ⟨aL, cL, rfl⟩ := hB.form
    have hsz := hk.size
    have hLl : L.length ≤ 8 := by
      have h1 := congrArg List.length hL.out
      have h2 := digs_len8 (n := n) (by omega)
      simp at h1; omega
    replace hB := Lib.hid hB
    replace hk := Lib.hid hk
    by_cases hp : 0 < m
    · have hd : Hid (digs n = digs (m / 256) ++ (UInt8.ofNat (m % 256) :: L)) := by show _ = _; rw [hL.out, digs_pos hp]; simp
      clear hL
      go_wp2_with (at_builtin; (refine wpl_appB _ w.heap.size (.slice (some ⟨_, 0, none⟩) 1 1) [UInt8.ofNat (m % 256)] rfl _ _ rfl rfl _ L rfl ((Buf.one _ (UInt8.ofNat (m % 256)) (by simp)).mono (by omega)) (hB.out.slB.keeps ((Keeps.refl [] _).alloc _)) (by simp; omega) (by simp; omega) ?_; intro v2 w2 hB2 hG2))
      go_roundw
      case rel => exact ⟨m / 256, _, by omega, by go_num, hd, hB2, hG2.keeps (hk.out.alloc _) (by simp [Value.ownBlock]; omega)⟩
      case measure => simp [intOf]; omega
    · have hm0 : m = 0 := by omega
      have hdL : Hid (digs n = L) := by show _ = _; rw [hL.out, hm0, digs_zero]; simp
      clear hL hm
      subst hm0
      go_wp2_with (first
        | (at_builtin; (refine wpl_appB _ wr.heap.size (.slice (some ⟨wr.heap.size, 0, none⟩) 0 0) [] rfl (.tmp 17) (.tmp 18) rfl rfl _ l rfl (Buf.fresh wr) ((h.out.keeps hk.out).keeps ((Keeps.refl [] _).alloc _)) (by simp; omega) (by simp) ?_; intro v2 w2 hB2 hG2; have hkk2 := Lib.hid (hG2.keeps ((Keeps.refl [] wr).alloc _) (by simp [Value.ownBlock])); have hB2' := Lib.hid hB2; clear hB2 hG2))
        | (at_builtin; (refine wpl_pushB _ wr.heap.size v2 _ _ rfl (.tmp 19) (.tmp 23) rfl rfl rfl hB2'.out (UInt8.ofNat L.length) (by simp; omega) (by simp; omega) (by have := hkk2.out.size; omega) ?_; intro v3 w3 hB3 hG3; have hkk3 := Lib.hid (hG3.keeps hkk2.out (fun b hb => ownBlock_ge hB2'.out b hb)); have hB3' := Lib.hid hB3; clear hB3 hG3))
        | (at_builtin; (refine wpl_appB _ wr.heap.size v3 _ rfl (.tmp 24) (.tmp 25) rfl rfl _ L rfl hB3'.out (hB.out.slB.keeps hkk3.out) (by simp; omega) (by have := hkk3.out.size; omega) ?_; intro v4 w4 hB4 hG4; have hkk4 := Lib.hid (hG4.keeps hkk3.out (fun b hb => ownBlock_ge hB3'.out b hb)); have hB4' := Lib.hid hB4; clear hB4 hG4)))
      go_ret
      refine ⟨_, rfl, ?_, hk.out.trans hkk4.out⟩
      have := hB4'.out.mono hsz
      rw [← hdL.out] at this
      simpa [encU] using this
end Go.Proofs.Ytilmcdieihmiaaa
