/- Texts that the laws lean on, in the order in which they build. The contract of the reference's encoding of a number. The contracts of the datagrams' makers. The contracts of package wire's reader of bytes. The closure that reads a number, where it fails. The closure that reads a number, where it succeeds. The contracts of package wire's reader of numbers, and the reference's. A region that draws its order, walked once in the order of the text: the operations that act ('loud') are in one fixed order with each other; every other operation either is ordered against all of them, or is 'steady': it yields the same value in every world that can come up. Of whatever program. One end of a channel in memory, and what its small functions do. A channel's Send. The closure that takes the next payload out of the map. -/
import Derived.Test.YtilmcdieihmiaaaK1
import Derived.Maps.OwnOps
import Derived.Maps.Ext
set_option linter.unusedVariables false
set_option linter.unusedSimpArgs false
namespace Go.Proofs.Ytilmcdieihmiaaa
open Go.RowKit

theorem Buf.mono {w : World} {b b' : Nat} {v : Value} {l : List UInt8} (h : Buf w b v l) (hb : b' ≤ b) : Buf w b' v l := by
  refine ⟨h.1, ?_⟩
  rcases h.2 with hn | ⟨g, cap, cur, rfl, hg, rest⟩
  · exact .inl hn
  · exact .inr ⟨g, cap, cur, rfl, by omega, rest⟩
set_option maxRecDepth 100000 in
set_option maxHeartbeats 2000000 in
theorem refU_c (w : World) (v0 : Value) (l : List UInt8) (n : Nat) (h : SlB w v0 l) (hn : n < 18446744073709551616) (hl : l.length ≤ 140737488355000) :
    Calls Try.prog 49 #[v0, .int .u64 n] w fun e w' => ∃ v', e = .returned v' ∧ Buf w' w.heap.size v' (l ++ encU n) ∧ Keeps [] w w' := by
  obtain ⟨a0, c0, rfl⟩ := h.form
  replace h := Lib.hid h
  go_enter Try.func49, Try.ntmps49
  go_wp2_with fail
  go_loopw [1, 5] (fun n' d wr => ∃ (m : Nat) (L : List UInt8), m ≤ n ∧ n' = .int .u64 m ∧ Hid (digs n = digs m ++ L) ∧ Buf wr w.heap.size d L ∧ Keeps [] w wr) (fun n' _ _ => (intOf n').toNat)
  case atStart => exact ⟨n, [], by omega, rfl, by show _ = _; simp, Buf.fresh w, (Keeps.refl [] w).alloc _⟩
  case round =>
    obtain ⟨m, L, hm, rfl, hL, hB, hk⟩ := hrel
    obtain ⟨aL, cL, rfl⟩ := hB.form
    have hsz := hk.size
    have hLl : L.length ≤ 8 := by
      have h1 := congrArg List.length hL.out
      have h2 := digs_len8 (n := n) (by omega)
      simp at h1; omega
    replace hB := Lib.hid hB
    replace hk := Lib.hid hk
    by_cases hp : 0 < m
    · have hd : Hid (digs n = digs (m / 256) ++ (UInt8.ofNat (m % 256) :: L)) := by show _ = _; rw [hL.out, digs_pos hp]; simp
      clear hL
      go_wp2_with (at_builtin; (refine wpl_appB _ w.heap.size (.slice (some ⟨_, 0, none⟩) 1 1) [UInt8.ofNat (m % 256)] rfl _ _ rfl rfl _ L rfl ((Buf.one _ (UInt8.ofNat (m % 256)) (by simp)).mono (by omega)) (hB.out.slB.keeps ((Keeps.refl [] _).alloc _)) (by simp; omega) (by simp; omega) ?_; intro v2 w2 hB2 hG2))
      go_roundw
      case rel => exact ⟨m / 256, _, by omega, by go_num, hd, hB2, hG2.keeps (hk.out.alloc _) (by simp [Value.ownBlock]; omega)⟩
      case measure => simp [intOf]; omega
    · have hm0 : m = 0 := by omega
      have hdL : Hid (digs n = L) := by show _ = _; rw [hL.out, hm0, digs_zero]; simp
      clear hL hm
      subst hm0
      go_wp2_with (first
        | (at_builtin; (refine wpl_appB _ wr.heap.size (.slice (some ⟨wr.heap.size, 0, none⟩) 0 0) [] rfl (.tmp 17) (.tmp 18) rfl rfl _ l rfl (Buf.fresh wr) ((h.out.keeps hk.out).keeps ((Keeps.refl [] _).alloc _)) (by simp; omega) (by simp) ?_; intro v2 w2 hB2 hG2; have hkk2 := Lib.hid (hG2.keeps ((Keeps.refl [] wr).alloc _) (by simp [Value.ownBlock])); have hB2' := Lib.hid hB2; clear hB2 hG2))
        | (at_builtin; (refine wpl_pushB _ wr.heap.size v2 _ _ rfl (.tmp 19) (.tmp 23) rfl rfl rfl hB2'.out (UInt8.ofNat L.length) (by simp; omega) (by simp; omega) (by have := hkk2.out.size; omega) ?_; intro v3 w3 hB3 hG3; have hkk3 := Lib.hid (hG3.keeps hkk2.out (fun b hb => ownBlock_ge hB2'.out b hb)); have hB3' := Lib.hid hB3; clear hB3 hG3))
        | (at_builtin; (refine wpl_appB _ wr.heap.size v3 _ rfl (.tmp 24) (.tmp 25) rfl rfl _ L rfl hB3'.out (hB.out.slB.keeps hkk3.out) (by simp; omega) (by have := hkk3.out.size; omega) ?_; intro v4 w4 hB4 hG4; have hkk4 := Lib.hid (hG4.keeps hkk3.out (fun b hb => ownBlock_ge hB3'.out b hb)); have hB4' := Lib.hid hB4; clear hB4 hG4)))
      go_ret
      refine ⟨_, rfl, ?_, hk.out.trans hkk4.out⟩
      have := hB4'.out.mono hsz
      rw [← hdL.out] at this
      simpa [encU] using this
end Go.Proofs.Ytilmcdieihmiaaa

namespace Go.Proofs.Ytilmcdieihmiaaa
open Go.RowKit

set_option maxRecDepth 100000 in
set_option maxHeartbeats 2000000 in
theorem data_c (w : World) (v0 : Value) (l : List UInt8) (n : Nat) (h : SlB w v0 l) (hn : n < 9223372036854775808) (hl : l.length ≤ 140737488355000) :
    Calls Try.prog 38 #[.int .i64 n, v0] w fun e w' => ∃ v', e = .returned v' ∧ Buf w' w.heap.size v' (dataB n l) ∧ Keeps [] w w' := by
  obtain ⟨a0, c0, rfl⟩ := h.form
  replace h := Lib.hid h
  go_enter Try.func38, Try.ntmps38
  go_wp2_with fail
  refine (appU_c _ w.heap.size _ [1] n (Buf.one w 1 rfl) (by omega) (by simp) (by simp)).mono ?_
  rintro e w1 ⟨v1, rfl, hB1, hG1⟩
  have hk1 : Keeps [] w w1 := hG1.keeps ((Keeps.refl [] w).alloc _) (by simp [Value.ownBlock])
  have hlen := encU_len (n := n) (by omega)
  obtain ⟨a1, c1, rfl⟩ := hB1.form
  have hsz := hk1.size
  replace hB1 := Lib.hid hB1
  replace hk1 := Lib.hid hk1
  clear hG1
  go_wp2_with (at_builtin; (refine wpl_appB _ w.heap.size _ _ rfl _ _ rfl rfl _ l rfl hB1.out (h.out.keeps hk1.out) (by simp; omega) (by omega) ?_; intro v2 w2 hB2 hG2))
  go_ret
  exact ⟨_, rfl, hB2, hG2.keeps hk1.out (fun b hb => ownBlock_ge hB1.out b hb)⟩

set_option maxRecDepth 100000 in
set_option maxHeartbeats 2000000 in
theorem ack_c (w : World) (bc : Nat) (n : Nat) (h : w.cell? ⟨bc, 2, none⟩ = some (.int .i64 n)) (hn : n < 9223372036854775808) :
    Calls Try.prog 47 #[.pointer (some ⟨bc, 0, none⟩)] w fun e w' => ∃ v', e = .returned v' ∧ Buf w' w.heap.size v' (ackB n) ∧ Keeps [] w w' := by
  have hlt := lt_of_cell h
  go_enter Try.func47, Try.ntmps47
  go_wp2_with fail
  refine (appU_c _ w.heap.size _ [2] n (Buf.one w 2 rfl) (by omega) (by simp) (by simp)).mono ?_
  rintro e w1 ⟨v1, rfl, hB1, hG1⟩
  have hk1 : Keeps [] w w1 := hG1.keeps ((Keeps.refl [] w).alloc _) (by simp [Value.ownBlock])
  replace hB1 := Lib.hid hB1
  replace hk1 := Lib.hid hk1
  clear hG1
  go_wp2
  go_ret
  exact ⟨_, rfl, hB1.out, hk1.out⟩

set_option maxRecDepth 100000 in
set_option maxHeartbeats 2000000 in
theorem dataR_c (w : World) (v0 : Value) (l : List UInt8) (n : Nat) (h : SlB w v0 l) (hn : n < 9223372036854775808) (hl : l.length ≤ 140737488355000) :
    Calls Try.prog 29 #[.int .i64 n, v0] w fun e w' => ∃ v', e = .returned v' ∧ Buf w' w.heap.size v' (dataB n l) ∧ Keeps [] w w' := by
  obtain ⟨a0, c0, rfl⟩ := h.form
  replace h := Lib.hid h
  go_enter Try.func29, Try.ntmps29
  go_wp2_with fail
  refine (refU_c _ _ [1] n (Buf.one w 1 rfl).slB (by omega) (by simp)).mono ?_
  rintro e w1 ⟨v1, rfl, hB1, hk01⟩
  have hk1 : Keeps [] w w1 := ((Keeps.refl [] w).alloc _).trans hk01
  have hlen := encU_len (n := n) (by omega)
  obtain ⟨a1, c1, rfl⟩ := hB1.form
  have hsz := hk1.size
  have hB1 := Lib.hid (hB1.mono (b' := w.heap.size) (by simp))
  replace hk1 := Lib.hid hk1
  clear hk01
  go_wp2_with (at_builtin; (refine wpl_appB _ w.heap.size _ _ rfl _ _ rfl rfl _ l rfl hB1.out (h.out.keeps hk1.out) (by simp; omega) (by omega) ?_; intro v2 w2 hB2 hG2))
  go_ret
  exact ⟨_, rfl, hB2, hG2.keeps hk1.out (fun b hb => ownBlock_ge hB1.out b hb)⟩

set_option maxRecDepth 100000 in
set_option maxHeartbeats 2000000 in
theorem ackR_c (w : World) (n : Nat) (hn : n < 9223372036854775808) :
    Calls Try.prog 30 #[.int .i64 n] w fun e w' => ∃ v', e = .returned v' ∧ Buf w' w.heap.size v' (ackB n) ∧ Keeps [] w w' := by
  go_enter Try.func30, Try.ntmps30
  go_wp2_with fail
  refine (refU_c _ _ [2] n (Buf.one w 2 rfl).slB (by omega) (by simp)).mono ?_
  rintro e w1 ⟨v1, rfl, hB1, hk01⟩
  have hk1 : Keeps [] w w1 := ((Keeps.refl [] w).alloc _).trans hk01
  have hB1 := Lib.hid (hB1.mono (b' := w.heap.size) (by simp))
  replace hk1 := Lib.hid hk1
  clear hk01
  go_wp2
  go_ret
  exact ⟨_, rfl, hB1.out, hk1.out⟩
end Go.Proofs.Ytilmcdieihmiaaa

namespace Go.Proofs.Ytilmcdieihmiaaa
open Go.RowKit

/-- What a number's encoding at the head of `l` gives: the number and the rest. -/
def readU : List UInt8 → Option (Nat × List UInt8)
  | [] => none
  | k :: t => if k.toNat ≤ 8 ∧ k.toNat ≤ t.length ∧ (0 < k.toNat → t.headD 1 ≠ 0) then some (valU (t.take k.toNat), t.drop k.toNat) else none
/-- The reader at block `br`: what is left is the slice `v`, which reads as `l`; its error is `e`. -/
def Rd (w : World) (br : Nat) (v : Value) (l : List UInt8) (e : Int) : Prop := w.heap[br]? = some (.cells #[v, .int .i64 e] 115 (0, 0)) ∧ SlB w v l

theorem cell2_of {w : World} {b : Nat} {u v : Value} {t : TypeId} (h : w.heap[b]? = some (.cells #[u, v] t (0, 0))) : w.cell? ⟨b, 0, none⟩ = some u ∧ w.cell? ⟨b, 1, none⟩ = some v ∧ w.frozen? ⟨b, 0, none⟩ = false ∧ w.frozen? ⟨b, 1, none⟩ = false ∧ b < w.heap.size := by
  refine ⟨by simp [World.cell?, h], by simp [World.cell?, h], by simp [World.frozen?, h], by simp [World.frozen?, h], (Array.getElem?_eq_some_iff.1 h).1⟩

set_option maxRecDepth 100000 in
set_option maxHeartbeats 1000000 in
theorem newReader_c (w : World) (v0 : Value) (l : List UInt8) (h : SlB w v0 l) (hl : l.length ≤ 140737488355328) :
    Calls Try.prog 39 #[v0] w fun e w' => ∃ br v', e = .returned (.pointer (some ⟨br, 0, none⟩)) ∧ w.heap.size ≤ br ∧ Rd w' br v' l 0 ∧ Keeps [] w w' := by
  obtain ⟨a0, c0, rfl⟩ := h.form
  replace h := Lib.hid h
  go_enter Try.func39, Try.ntmps39
  go_wp2_with fail
  refine (clone_c _ (.inr rfl) _ _ l h.out hl).mono ?_
  rintro e w1 ⟨v1, rfl, hB1, hk1⟩
  obtain ⟨a1, c1, rfl⟩ := hB1.form
  have hsz := hk1.size
  replace hB1 := Lib.hid hB1
  replace hk1 := Lib.hid hk1
  go_wp2
  go_ret
  refine ⟨w1.heap.size, .slice a1 l.length c1, rfl, hsz, ⟨heap_alloc_new _ _, (hB1.out.keep ((Keeps.refl [] w1).alloc _)).slB⟩, hk1.out.alloc _⟩

set_option maxRecDepth 100000 in
set_option maxHeartbeats 1000000 in
theorem left_c (w : World) (br : Nat) (v : Value) (l : List UInt8) (e : Int) (h : Rd w br v l e) :
    Calls Try.prog 41 #[.pointer (some ⟨br, 0, none⟩)] w fun e w' => e = .returned (.int .i64 l.length) ∧ w = w' := by
  obtain ⟨c0, c1, f0, f1, hlt⟩ := cell2_of h.1
  obtain ⟨a0, cap0, rfl⟩ := h.2.form
  clear h
  go_enter Try.func41, Try.ntmps41
  go_wp2
  go_ret
  exact ⟨rfl, rfl⟩

/-- The error of a reader at the end. -/
def doneE (l : List UInt8) (e : Int) : Int := if e = 0 ∧ l ≠ [] then 11 else e
set_option maxRecDepth 100000 in
set_option maxHeartbeats 1000000 in
theorem done_c (w : World) (br : Nat) (v : Value) (l : List UInt8) (e : Int) (h : Rd w br v l e) :
    Calls Try.prog 42 #[.pointer (some ⟨br, 0, none⟩)] w fun en w' => en = .returned (.int .i64 (doneE l e)) ∧ w = w' := by
  obtain ⟨c0, c1, f0, f1, hlt⟩ := cell2_of h.1
  obtain ⟨a0, cap0, rfl⟩ := h.2.form
  clear h
  by_cases he : e = 0
  · subst he
    by_cases hl : l = []
    · subst hl
      go_enter Try.func42, Try.ntmps42
      go_wp2
      go_ret
      exact ⟨by simp [doneE], rfl⟩
    · have hp : 0 < l.length := List.length_pos_iff.2 hl
      replace hl := Lib.hid hl
      go_enter Try.func42, Try.ntmps42
      go_wp2
      go_ret
      exact ⟨by simp [doneE, hl.out], rfl⟩
  · have he2 : (e == 0) = false := by simp [he]
    replace he := Lib.hid he
    go_enter Try.func42, Try.ntmps42
    go_wp2
    go_ret
    exact ⟨by simp [doneE, he.out], rfl⟩

theorem cell1_of {w : World} {b : Nat} {u : Value} {t : TypeId} (h : w.heap[b]? = some (.cells #[u] t (0, 0))) : w.cell? ⟨b, 0, none⟩ = some u ∧ w.frozen? ⟨b, 0, none⟩ = false ∧ b < w.heap.size := by
  refine ⟨by simp [World.cell?, h], by simp [World.frozen?, h], (Array.getElem?_eq_some_iff.1 h).1⟩

end Go.Proofs.Ytilmcdieihmiaaa

namespace Go.Proofs.Ytilmcdieihmiaaa
open Go.RowKit

set_option maxRecDepth 100000 in
set_option maxHeartbeats 2000000 in
theorem uint1_bad (w : World) (br b1 b2 : Nat) (v : Value) (l : List UInt8) (h : Rd w br v l 0) (h1 : w.cell? ⟨b1, 0, none⟩ = some (.pointer (some ⟨br, 0, none⟩))) (hr : readU l = none) :
    Calls Try.prog 66 #[.pointer (some ⟨b1, 0, none⟩), .pointer (some ⟨b2, 0, none⟩)] w fun en w' => en = .returned (.int .i64 11) ∧ Keeps [] w w' := by
  obtain ⟨c0, c1, f0, f1, hlt⟩ := cell2_of h.1
  rcases h.2.cases with ⟨rfl, a, cp, rfl, _, _⟩ | ⟨g, o, cp, rfl, hn, hm, hp, hg, hc⟩
  · clear h hr
    go_enter Try.func66, Try.ntmps66
    go_wp2
    (refine wp_region_quiet_lit (by kernel_rfl) (by kernel_rfl) ?_; (repeat (first | go_big_quiet_step (fail) | quiet_step (fail))); with_reducible refine wpQuiet_nil ?_; intro _ hw'; obtain ⟨nq, hw''⟩ := hw'; subst hw'')
    go_wp2
    go_ret
    exact ⟨rfl, (Keeps.refl _ _).drewN _⟩
  · obtain ⟨k, t, rfl⟩ : ∃ k t, l = k :: t := by cases l with | nil => simp at hp | cons k t => exact ⟨k, t, rfl⟩
    have k0 := hc 0 (by simp)
    have k1 : 0 < t.length → w.cell? ⟨g, o + 1, none⟩ = some (.int .u8 ((t.headD 1).toNat : Int)) := fun ht => by
      have := hc 1 (by simp; omega)
      rw [this]; cases t with | nil => simp at ht | cons a b => rfl
    simp only [Nat.add_zero, List.getElem_cons_zero] at k0
    clear hc h hp
    have hcond : ¬ (k.toNat ≤ 8 ∧ k.toNat ≤ t.length ∧ (0 < k.toNat → t.headD 1 ≠ 0)) := fun hh => by
      rw [readU, if_pos hh] at hr; cases hr
    clear hr
    have hk := k.toNat_lt
    simp only [List.length_cons] at *
    generalize (t.headD 1) = t0 at *
    generalize k.toNat = kk at *
    generalize t.length = N at *
    have hNN : (N : Int) + 1 ≤ 9223372036854775807 := by unfold maxLen at hm; omega
    by_cases h8 : kk ≤ 8
    · have d8 : decide ((8 : Int) < (kk : Int)) = false := by simp; omega
      by_cases hN : kk ≤ N
      · have dN : decide ((N : Int) + 1 ≤ (kk : Int)) = false := by simp; omega
        have hk0 : 0 < kk := by
          rcases Nat.eq_zero_or_pos kk with e | e
          · exact absurd ⟨h8, hN, fun h => by omega⟩ hcond
          · exact e
        have dk : (0 : Int) < (kk : Int) := by omega
        have ht0 : t0 = 0 := by
          rcases Classical.em (t0 = 0) with e | e
          · exact e
          · exact absurd ⟨h8, hN, fun _ => e⟩ hcond
        subst ht0
        have k1' := k1 (by omega)
        simp at k1'
        clear hcond k1
        go_enter Try.func66, Try.ntmps66
        go_wp2
        (refine wp_region_quiet_lit (by kernel_rfl) (by kernel_rfl) ?_; (repeat (first | go_big_quiet_step (fail) | quiet_step (fail))); with_reducible refine wpQuiet_nil ?_; intro _ hw'; obtain ⟨nq, hw''⟩ := hw'; subst hw'')
        go_wp2
        go_ret
        exact ⟨rfl, (Keeps.refl _ _).drewN _⟩
      · have dN : (N : Int) + 1 ≤ (kk : Int) := by omega
        clear hcond k1
        go_enter Try.func66, Try.ntmps66
        go_wp2
        (refine wp_region_quiet_lit (by kernel_rfl) (by kernel_rfl) ?_; (repeat (first | go_big_quiet_step (fail) | quiet_step (fail))); with_reducible refine wpQuiet_nil ?_; intro _ hw'; obtain ⟨nq, hw''⟩ := hw'; subst hw'')
        go_wp2
        go_ret
        exact ⟨rfl, (Keeps.refl _ _).drewN _⟩
    · have d8 : (8 : Int) < (kk : Int) := by omega
      clear hcond k1
      go_enter Try.func66, Try.ntmps66
      go_wp2
      (refine wp_region_quiet_lit (by kernel_rfl) (by kernel_rfl) ?_; (repeat (first | go_big_quiet_step (fail) | quiet_step (fail))); with_reducible refine wpQuiet_nil ?_; intro _ hw'; obtain ⟨nq, hw''⟩ := hw'; subst hw'')
      go_wp2
      go_ret
      exact ⟨rfl, (Keeps.refl _ _).drewN _⟩

end Go.Proofs.Ytilmcdieihmiaaa

namespace Go.Proofs.Ytilmcdieihmiaaa
open Go.RowKit

theorem set2_0 {w : World} {b : Nat} {u v : Value} {t : TypeId} (h : w.heap[b]? = some (.cells #[u, v] t (0, 0))) (u' : Value) : (w.setCell ⟨b, 0, none⟩ u').heap[b]? = some (.cells #[u', v] t (0, 0)) := by
  obtain ⟨hlt, hk⟩ := Array.getElem?_eq_some_iff.1 h
  simp [World.setCell, Array.getElem?_modify, h]
theorem set2_1 {w : World} {b : Nat} {u v : Value} {t : TypeId} (h : w.heap[b]? = some (.cells #[u, v] t (0, 0))) (v' : Value) : (w.setCell ⟨b, 1, none⟩ v').heap[b]? = some (.cells #[u, v'] t (0, 0)) := by
  obtain ⟨hlt, hk⟩ := Array.getElem?_eq_some_iff.1 h
  simp [World.setCell, Array.getElem?_modify, h]
/-- One byte more, as the machine reckons it. -/
theorem or_byte (x y : Nat) (hx : (x : Int) < 72057594037927936) (hy : (y : Int) ≤ 255) : bits .or .u64 ((x : Int) * 256) (y : Int) = ((x * 256 + y : Nat) : Int) := by
  have h := u64_or_nat (x * 256) y (by omega) (by omega)
  have h2 : x * 256 + y = x * 256 ||| y := by
    have := Nat.shiftLeft_add_eq_or_of_lt (i := 8) (b := y) (by omega) x
    simpa [Nat.shiftLeft_eq] using this
  rw [h2, ← h]; simp

theorem rd_nobyte {w : World} {br : Nat} {v : Value} {l : List UInt8} {e : Int} (h : Rd w br v l e) : ∀ o x, w.cell? ⟨br, o, none⟩ ≠ some (.int .u8 x) := by
  obtain ⟨a, c, rfl⟩ := h.2.form
  exact no_byte h.1 (by simp)
theorem rd_tail (w wr : World) (br b2 g o N cp : Nat) (k : UInt8) (t : List UInt8) (j : Nat) (h : Rd w br (.slice (some ⟨g, o, none⟩) (t.length + 1) cp) (k :: t) 0) (hk : Keeps [b2] w wr)
    (hb : wr.heap[b2]? = some (.cells #[.int .u64 (valU (t.take j))] 83 (0, 0))) (hb0 : w.heap[b2]? = some (.cells #[.int .u64 0] 83 (0, 0))) (hN : t.length = N) (hj : j ≤ N) (hbr : br ≠ b2) :
    (wr.setCell ⟨br, 0, none⟩ (.slice (if cp = 1 + j then some ⟨g, o, none⟩ else some ⟨g, o + (1 + j), none⟩) (N + 1 - (1 + j)) (cp - (1 + j)))).drew.heap[b2]? = some (.cells #[.int .u64 (valU (t.take j))] 83 (0, 0)) ∧
    (∃ v', Rd (wr.setCell ⟨br, 0, none⟩ (.slice (if cp = 1 + j then some ⟨g, o, none⟩ else some ⟨g, o + (1 + j), none⟩) (N + 1 - (1 + j)) (cp - (1 + j)))).drew br v' (t.drop j) 0) ∧
    Keeps [br, b2] w (wr.setCell ⟨br, 0, none⟩ (.slice (if cp = 1 + j then some ⟨g, o, none⟩ else some ⟨g, o + (1 + j), none⟩) (N + 1 - (1 + j)) (cp - (1 + j)))).drew := by
  subst hN
  obtain ⟨q0, _, _, _, hlt⟩ := cell2_of h.1
  have hbr' := (hk.block br hlt (by simp; omega)).trans h.1
  have htl := SlB.tail h.2 (1 + j) (by simp; omega)
  have hk2 : Keeps [br, b2] w wr := hk.mono (fun x hx => by simp at hx; simp [hx])
  have hkb : KB w wr := hk.kb (by intro b hb; simp at hb; subst hb; exact no_byte hb0 (by simp))
  refine ⟨?_, ⟨_, ⟨set2_0 hbr' _, ?_⟩⟩, (hk2.setCell (.inr (by simp)) _).drew⟩
  · exact (Below.heap_setCell _ _ _ _ (by simp; omega)).trans hb
  · simp only [List.length_cons, Nat.add_comm 1 j, List.drop_succ_cons] at htl ⊢
    exact htl.kb (hkb.trans ((KB.setCell wr _ (cell2_of hbr').1 (by simp)).trans (KB.drew _)))

set_option maxRecDepth 100000 in
set_option maxHeartbeats 2000000 in
theorem uint1_ok (w : World) (br b1 b2 : Nat) (v : Value) (l rest : List UInt8) (x : Nat) (h : Rd w br v l 0) (h1 : w.cell? ⟨b1, 0, none⟩ = some (.pointer (some ⟨br, 0, none⟩))) (h2 : w.heap[b2]? = some (.cells #[.int .u64 0] 83 (0, 0)))
    (hne : b1 ≠ b2 ∧ br ≠ b2) (hr : readU l = some (x, rest)) :
    Calls Try.prog 66 #[.pointer (some ⟨b1, 0, none⟩), .pointer (some ⟨b2, 0, none⟩)] w fun en w' => en = .returned (.int .i64 0) ∧ w'.heap[b2]? = some (.cells #[.int .u64 x] 83 (0, 0)) ∧ (∃ v', Rd w' br v' rest 0) ∧ Keeps [br, b2] w w' := by
  obtain ⟨c0, c1, f0, f1, hlt⟩ := cell2_of h.1
  obtain ⟨e0, fe0, hlt2⟩ := cell1_of h2
  rcases h.2.cases with ⟨rfl, a, cp, rfl, _, _⟩ | ⟨g, o, cp, rfl, hn, hm, hp, hg, hc⟩
  · cases hr
  · obtain ⟨k, t, rfl⟩ : ∃ k t, l = k :: t := by cases l with | nil => simp at hp | cons k t => exact ⟨k, t, rfl⟩
    have k0 := hc 0 (by simp)
    have hgb : g ≠ b2 := fun e => by subst e; exact no_byte h2 (by simp) _ _ k0
    have k1 : 0 < t.length → w.cell? ⟨g, o + 1, none⟩ = some (.int .u8 ((t.headD 1).toNat : Int)) := fun ht => by
      have := hc 1 (by simp; omega)
      rw [this]; cases t with | nil => simp at ht | cons a b => rfl
    have kj : ∀ j (hj : j < t.length), w.cell? ⟨g, o + 1 + j, none⟩ = some (.int .u8 (t[j].toNat : Int)) := fun j hj => by
      have := hc (j + 1) (by simp; omega)
      rw [show o + 1 + j = o + (j + 1) by omega, this]; rfl
    simp only [Nat.add_zero, List.getElem_cons_zero] at k0
    clear hc hp
    have hcond : k.toNat ≤ 8 ∧ k.toNat ≤ t.length ∧ (0 < k.toNat → t.headD 1 ≠ 0) := by
      rcases Classical.em (k.toNat ≤ 8 ∧ k.toNat ≤ t.length ∧ (0 < k.toNat → t.headD 1 ≠ 0)) with e | e
      · exact e
      · rw [readU, if_neg e] at hr; cases hr
    rw [readU, if_pos hcond] at hr
    simp only [Option.some.injEq, Prod.mk.injEq] at hr
    obtain ⟨h8, hN, ht0⟩ := hcond
    obtain ⟨hx, hrest⟩ := hr
    have hk : k.toNat ≤ 255 := by have := k.toNat_lt; omega
    have hh := Lib.hid h
    have hh2 := Lib.hid h2
    replace hx := Lib.hid hx
    replace hrest := Lib.hid hrest
    replace kj := Lib.hid kj
    clear h h2
    simp only [List.length_cons] at *
    obtain ⟨t0, htt0⟩ : ∃ t0, t.headD 1 = t0 := ⟨_, rfl⟩
    rw [htt0] at k1 ht0
    clear htt0
    obtain ⟨kk, hkk⟩ : ∃ kk, k.toNat = kk := ⟨_, rfl⟩
    rw [hkk] at k0 h8 hN ht0 hk hx hrest
    clear hkk
    obtain ⟨N, hNt⟩ : ∃ N, t.length = N := ⟨_, rfl⟩
    rw [hNt] at hN k1 hn c0
    replace hNt := Lib.hid hNt
    have hNN : (N : Int) + 1 ≤ 9223372036854775807 := by unfold maxLen at hm; omega
    have d8 : decide ((8 : Int) < (kk : Int)) = false := by simp; omega
    have nz : ((N : Int) + 1 == 0) = false := by simp; omega
    have wk : IntKind.i64.wrap (kk : Int) = kk := IntWalk.i64_in _ (by omega)
    have dN : decide ((N : Int) + 1 ≤ (kk : Int)) = false := by simp; omega
    have hfacts : (∃ _ : (0 : Int) < (kk : Int), 0 < kk ∧ w.cell? ⟨g, o + 1, none⟩ = some (.int .u8 (t0.toNat : Int)) ∧ ((t0.toNat : Int) == 0) = false) ∨ (decide ((0 : Int) < (kk : Int)) = false ∧ decide (0 < kk) = false) := by
      by_cases hk0 : 0 < kk
      · refine .inl ⟨by omega, hk0, k1 (by omega), ?_⟩
        have := ht0 hk0
        have h9 : t0.toNat ≠ 0 := fun e => this (UInt8.toNat_inj.1 (by simpa using e))
        simp; omega
      · exact .inr ⟨by simp; omega, by simp; omega⟩
    clear ht0 k1
    have hcp : 1 < cp ∨ (cp = 1 ∧ N = 0 ∧ kk = 0) := by omega
    rcases hcp with hcp | ⟨hcp1, hcp2, hcp3⟩
    · rcases hfacts with ⟨dk, hk0, k1', t0n⟩ | ⟨dk, dk2⟩
      all_goals
        go_enter Try.func66, Try.ntmps66
        go_wp2
        (refine wp_region_quiet_lit (by kernel_rfl) (by kernel_rfl) ?_; (repeat (first | go_big_quiet_step (fail) | quiet_step (fail))); with_reducible refine wpQuiet_nil ?_; intro _ hw'; obtain ⟨nq, hw''⟩ := hw'; subst hw'')
        go_wp2
        go_loopw [5, 69] (fun _ i wr => ∃ j : Nat, j ≤ kk ∧ i = .int .i64 j ∧ wr.heap[b2]? = some (.cells #[.int .u64 (valU (t.take j))] 83 (0, 0)) ∧ Keeps [b2] w wr) (fun _ i _ => kk - (intOf i).toNat)
        case atStart => exact ⟨0, by omega, rfl, hh2.out, (Keeps.refl _ w).drewN _⟩
        case round =>
          obtain ⟨j, hj, rfl, hb2, hkw⟩ := hrel
          obtain ⟨eb, fb, lb⟩ := cell1_of hb2
          have q0 := (hkw.cell br 0 hlt (by simp; omega)).trans c0
          have q1 := (hkw.frozen br 0 hlt (by simp; omega)).trans f0
          have q2 := (hkw.cell b1 0 (lt_of_cell h1) (by simp; omega)).trans h1
          have hvl := valU_lt j (t.take j) (by rw [List.length_take]; have := hNt.out; omega)
          by_cases hlt3 : j < kk
          · have hjt : j < t.length := by have := hNt.out; omega
            have hcj := (hkw.cell g (o + 1 + j) hg (by simp; omega)).trans (kj.out j hjt)
            have hb8 : (t[j].toNat : Int) ≤ 255 := by have := t[j].toNat_lt; omega
            have hstep : Hid (valU (t.take (j + 1)) = valU (t.take j) * 256 + t[j].toNat) := by show _ = _; rw [List.take_succ_eq_append_getElem hjt, valU_snoc]
            have hvb : (valU (t.take j) : Int) < 72057594037927936 := by
              have : (256 : Nat) ^ j ≤ 256 ^ 7 := Nat.pow_le_pow_right (by omega) (by omega)
              omega
            clear hvl
            generalize t[j].toNat = y at *
            generalize hvv : valU (t.take j) = vv at *
            replace hb2 := Lib.hid hb2
            replace hkw := Lib.hid hkw
            replace hvv := Lib.hid hvv
            go_wp2
            go_roundw
            case rel => exact ⟨j + 1, by omega, by go_num, by rw [or_byte _ _ hvb hb8, hstep.out]; exact one_setCell hb2.out, hkw.out.setCell (.inr (by simp)) _⟩
            case measure => simp [intOf]; omega
          · have hjk : j = kk := by omega
            subst hjk
            replace hb2 := Lib.hid hb2
            replace hkw := Lib.hid hkw
            clear hvl
            go_wp2
            go_region
            have hfin := rd_tail w wr br b2 g o N cp k t j hh.out hkw.out hb2.out hh2.out hNt.out hN (by omega)
            rw [hx.out, hrest.out] at hfin
            generalize hW : (wr.setCell ⟨br, 0, none⟩ (.slice (if cp = 1 + j then some ⟨g, o, none⟩ else some ⟨g, o + (1 + j), none⟩) (N + 1 - (1 + j)) (cp - (1 + j)))).drew = W at *
            replace hfin := Lib.hid hfin
            clear hW
            (repeat go_step)
            go_ret
            exact ⟨rfl, hfin.out⟩
    · clear hfacts
      subst hcp1 hcp2 hcp3
      have k0' : w.cell? ⟨g, o, none⟩ = some (.int .u8 0) := by simpa using k0
      simp only [Nat.zero_add] at c0
      have c0' : w.cell? ⟨br, 0, none⟩ = some (.slice (some ⟨g, o, none⟩) 1 1) := c0
      clear hk h8 k0 d8 dN wk c0 nz hm hn hN hNN
      go_enter Try.func66, Try.ntmps66
      go_wp2
      (refine wp_region_quiet_lit (by kernel_rfl) (by kernel_rfl) ?_; (repeat (first | go_big_quiet_step (fail) | quiet_step (fail))); with_reducible refine wpQuiet_nil ?_; intro _ hw'; obtain ⟨nq, hw''⟩ := hw'; subst hw'')
      go_wp2
      go_loopw [5, 69] (fun _ i wr => i = .int .i64 0 ∧ ∃ n, wr = w.drewN n) (fun _ i _ => 0)
      case atStart => exact ⟨rfl, _, rfl⟩
      case round =>
        obtain ⟨rfl, n, rfl⟩ := hrel
        have hkw : Keeps [b2] w (w.drewN n) := (Keeps.refl _ w).drewN n
        have hfin := rd_tail w (w.drewN n) br b2 g o 0 1 k t 0 hh.out hkw (by simpa [valU] using hh2.out) hh2.out hNt.out (by omega) hne.2
        rw [hx.out, hrest.out] at hfin
        simp only [Nat.add_zero, if_true, Nat.zero_add, Nat.sub_self] at hfin
        clear hkw
        replace hfin := Lib.hid hfin
        go_wp2
        go_region
        (repeat go_step)
        go_ret
        exact ⟨rfl, hfin.out⟩
end Go.Proofs.Ytilmcdieihmiaaa

namespace Go.Proofs.Ytilmcdieihmiaaa
open Go.RowKit

theorem Rd.keeps {w w' : World} {br : Nat} {v : Value} {l : List UInt8} {e : Int} (h : Rd w br v l e) (hk : Keeps [] w w') : Rd w' br v l e :=
  ⟨(hk.block br (cell2_of h.1).2.2.2.2 (by simp)).trans h.1, h.2.keeps hk⟩

theorem two_boxes (w : World) (p : Value) : ((w.alloc (.cells #[p] 81)).alloc (.cells #[.int .u64 0] 83)).heap[w.heap.size + 1]? = some (.cells #[.int .u64 0] 83 (0, 0)) := by
  have := heap_alloc_new (w.alloc (.cells #[p] 81)) (.cells #[.int .u64 0] 83)
  simpa using this
theorem Keeps.back {S : List Nat} {a b c : World} (h : Keeps [] a b) (k : Keeps S b c) {T : List Nat} (hT : ∀ x ∈ S, x ∈ T ∨ a.heap.size ≤ x) : Keeps T a c :=
  (h.of_nil (T := T)).trans' k hT
theorem rd_set_ok {w : World} {br : Nat} {v : Value} {l : List UInt8} {e : Int} (h : Rd w br v l e) (e' : Int) : Rd (w.setCell ⟨br, 1, none⟩ (.int .i64 e')) br v l e' :=
  ⟨set2_1 h.1 _, h.2.kb (KB.setCell w _ (cell2_of h.1).2.1 (by simp))⟩
theorem rd_set_bad {w : World} {br : Nat} {v : Value} {l : List UInt8} {e : Int} (h : Rd w br v l e) (e' : Int) : Rd ((w.setCell ⟨br, 1, none⟩ (.int .i64 e')).setCell ⟨br, 0, none⟩ (.slice none 0 0)) br (.slice none 0 0) [] e' :=
  ⟨set2_0 (set2_1 h.1 _) _, SlB.nil _⟩
set_option maxRecDepth 100000 in
set_option maxHeartbeats 2000000 in
theorem uint_ok (w : World) (br : Nat) (v : Value) (l rest : List UInt8) (x : Nat) (h : Rd w br v l 0) (hr : readU l = some (x, rest)) :
    Calls Try.prog 40 #[.pointer (some ⟨br, 0, none⟩)] w fun en w' => en = .returned (.int .u64 x) ∧ (∃ v', Rd w' br v' rest 0) ∧ Keeps [br] w w' := by
  obtain ⟨c0, c1, f0, f1, hlt⟩ := cell2_of h.1
  have hne : ¬ w.heap.size = br := by omega
  have hne2 : ¬ w.heap.size + 1 = br := by omega
  obtain ⟨a0, cp0, rfl⟩ := h.2.form
  have hkA : Keeps [] w ((w.alloc (.cells #[.pointer (some ⟨br, 0, none⟩)] 81)).alloc (.cells #[.int .u64 0] 83)) := ((Keeps.refl [] w).alloc _).alloc _
  have hc := uint1_ok _ br w.heap.size (w.heap.size + 1) _ l rest x (h.keeps hkA) (by simp) (two_boxes w _) ⟨by omega, by omega⟩ hr
  replace h := Lib.hid h
  replace hkA := Lib.hid hkA
  replace hc := Lib.hid hc
  replace hr := Lib.hid hr
  clear c0
  go_enter Try.func40, Try.ntmps40
  go_wp2_with (first
    | (go_at_call 66; refine hc.out.mono ?_; rintro e w3 ⟨rfl, hb2, ⟨v3, hR3⟩, hk3⟩; obtain ⟨d0, d1, g0, g1, hlt3⟩ := cell2_of hR3.1; obtain ⟨e0, _, hlt4⟩ := cell1_of hb2; have hk4 := Lib.hid hk3; have hR4 := Lib.hid hR3; clear hk3 hR3 hb2)
    | go_in)
  go_ret
  exact ⟨rfl, ⟨v3, rd_set_ok hR4.out 0⟩, (hkA.out.of_nil.trans' hk4.out (by simp)).setCell (.inr (by simp)) _⟩

set_option maxRecDepth 100000 in
set_option maxHeartbeats 2000000 in
theorem uint_bad (w : World) (br : Nat) (v : Value) (l : List UInt8) (h : Rd w br v l 0) (hr : readU l = none) :
    Calls Try.prog 40 #[.pointer (some ⟨br, 0, none⟩)] w fun en w' => en = .returned (.int .u64 0) ∧ Rd w' br (.slice none 0 0) [] 11 ∧ Keeps [br] w w' := by
  obtain ⟨c0, c1, f0, f1, hlt⟩ := cell2_of h.1
  have hne : ¬ w.heap.size = br := by omega
  have hne2 : ¬ w.heap.size + 1 = br := by omega
  obtain ⟨a0, cp0, rfl⟩ := h.2.form
  have hkA : Keeps [] w ((w.alloc (.cells #[.pointer (some ⟨br, 0, none⟩)] 81)).alloc (.cells #[.int .u64 0] 83)) := ((Keeps.refl [] w).alloc _).alloc _
  have hc := uint1_bad _ br w.heap.size (w.heap.size + 1) _ l (h.keeps hkA) (by simp) hr
  have h2 := two_boxes w (.pointer (some ⟨br, 0, none⟩))
  replace h2 := Lib.hid h2
  replace h := Lib.hid h
  replace hkA := Lib.hid hkA
  replace hc := Lib.hid hc
  replace hr := Lib.hid hr
  clear c0
  go_enter Try.func40, Try.ntmps40
  go_wp2_with (first
    | (go_at_call 66; refine hc.out.mono ?_; rintro e w3 ⟨rfl, hk3⟩; have hR3 := (h.out.keeps hkA.out).keeps hk3; obtain ⟨d0, d1, g0, g1, hlt3⟩ := cell2_of hR3.1; have hk4 := Lib.hid hk3; have hR4 := Lib.hid hR3; have h22 := Lib.hid ((hk3.block _ (by simp) (by simp)).trans h2.out); obtain ⟨e0, _, hlt4⟩ := cell1_of h22.out; clear hk3 hR3)
    | go_in)
  go_ret
  exact ⟨rfl, rd_set_bad hR4.out 11, (((hkA.out.trans hk4.out).of_nil).setCell (.inr (by simp)) _).setCell (.inr (by simp)) _⟩

/-- Both in one: what a number's reading gives and leaves. -/
def rdU (l : List UInt8) : Nat × List UInt8 × Int := match readU l with | some (x, r) => (x, r, 0) | none => (0, [], 11)
theorem uint_c (w : World) (br : Nat) (v : Value) (l : List UInt8) (h : Rd w br v l 0) :
    Calls Try.prog 40 #[.pointer (some ⟨br, 0, none⟩)] w fun en w' => en = .returned (.int .u64 (rdU l).1) ∧ (∃ v', Rd w' br v' (rdU l).2.1 (rdU l).2.2) ∧ Keeps [br] w w' := by
  cases hr : readU l with
  | none =>
    have e : rdU l = (0, [], 11) := by simp [rdU, hr]
    rw [e]
    exact (uint_bad w br v l h hr).mono fun _ _ ⟨h1, h2, h3⟩ => ⟨h1, ⟨_, h2⟩, h3⟩
  | some p =>
    obtain ⟨x, r⟩ := p
    have e : rdU l = (x, r, 0) := by simp [rdU, hr]
    rw [e]
    exact uint_ok w br v l r x h hr
end Go.Proofs.Ytilmcdieihmiaaa

namespace Go.Proofs.Ytilmcdieihmiaaa
namespace Free
open Go Go.RowKit

def plainRes : Result Next → Prop
  | .ok (.value _) _ => True
  | .ok .skip _ => True
  | .halt _ _ => True
  | _ => False

section
variable (P : Program) (ops : Array Oper) (lo st : Nat → Bool) (T : Nat → Nat → Prop) (w0 : World) (Q : Act → World → Prop) (a0 : Act)

/-- THE WALK, in the order of the text. -/
def cwalk : List Oper → Nat → Act → World → Prop
  | [], _, a, w => Q a w
  | o :: r, i, a, w =>
    if Region.wanted o (yielded ops a.tmps) then
      if lo i then o.wp P a w (fun a' w' => a'.defers = a.defers ∧ KeepsP (T i) w w' ∧ cwalk r (i + 1) a' w') (fun _ _ _ => False)
      else if st i then ∃ c, (∀ w', KeepsP (sx ops T i) w0 w' → Quiet P o a w' c) ∧ cwalk r (i + 1) (a.put o.dst c) w
      else ∃ c, Quiet P o a w c ∧ cwalk r (i + 1) (a.put o.dst c) w
    else cwalk r (i + 1) (a.put o.dst undef) w

/-- What the region's text must be like; asked of the kernel. -/
def chainB : Bool := (List.range ops.size).all fun j => (List.range j).all fun i =>
  (!(lo i && lo j) || pre ops i j) && (!(lo i && !lo j && !st j) || pre ops i j) && (!(lo j && !lo i && !st i) || pre ops i j)
structure Chain : Prop where
  ll : ∀ i j, i < j → j < ops.size → lo i = true → lo j = true → pre ops i j = true
  lr : ∀ i j, i < j → j < ops.size → lo i = true → lo j = false → st j = false → pre ops i j = true
  rl : ∀ i j, i < j → j < ops.size → lo i = false → st i = false → lo j = true → pre ops i j = true
variable {ops lo st} in
theorem chain_of (h : chainB ops lo st = true) : Chain ops lo st := by
  have h1 : ∀ i j, i < j → j < ops.size → ((!(lo i && lo j) || pre ops i j) && (!(lo i && !lo j && !st j) || pre ops i j) && (!(lo j && !lo i && !st i) || pre ops i j)) = true := fun i j hij hj =>
    List.all_eq_true.1 (List.all_eq_true.1 h j (List.mem_range.2 hj)) i (List.mem_range.2 hij)
  refine ⟨fun i j a b c d => ?_, fun i j a b c d e => ?_, fun i j a b c d e => ?_⟩
  · have := h1 i j a b; simp [c, d] at this; exact this
  · have := h1 i j a b; simp [c, d, e] at this; exact this
  · have := h1 i j a b; simp [c, d, e] at this; exact this

def OKs (u : Nat → Value) (j : Nat) : Prop := ∀ o, ops[j]? = some o →
  if Region.wanted o (yielded ops (lex ops a0 u j).tmps) then ∀ w', KeepsP (sx ops T j) w0 w' → Quiet P o (lex ops a0 u j) w' (u j) else u j = undef
def StN (u : Nat → Value) (j : Nat) (w : World) : Prop := ∀ o, ops[j]? = some o →
  if Region.wanted o (yielded ops (lex ops a0 u j).tmps) then Quiet P o (lex ops a0 u j) w (u j) else u j = undef

variable {P ops lo st T w0 Q a0}
theorem OKs_congr {u u' : Nat → Value} {j : Nat} (h : ∀ i, i ≤ j → u i = u' i) (k : OKs P ops T w0 a0 u j) : OKs P ops T w0 a0 u' j := by
  intro o ho
  have := k o ho
  rw [lex_congr (fun i hi => h i (by omega)), h j (Nat.le_refl _)] at this
  exact this

/-- Some way in which an operation may end. -/
theorem some_end {o : Oper} {a : Act} {w : World} {K : Act → World → Prop} (h : o.wp P a w K (fun _ _ _ => False)) (hK : ∀ a' w', K a' w' → a'.defers = a.defers) : ∃ v w', K (a.put o.dst v) w' := by
  unfold Oper.wp at h
  generalize (execOp a.eval o).run P w = r at h
  cases r with
  | halt x w' => cases x <;> simp only [Oper.upon] at h
  | ok n w' =>
    cases n <;> simp only [Oper.upon] at h
    case value v => exact ⟨v, w', h⟩
    case skip => exact ⟨_, w', h⟩
    case defer d =>
      have := hK _ _ h
      cases hd : o.dst <;> simp [Act.put, hd] at this
    case enter f args =>
      obtain ⟨e, w'', fr, hR, _⟩ := h []
      cases e with
      | returned v => exact ⟨v, w'', hR⟩
      | panicked ch => exact hR.elim
      | outgrown => obtain ⟨_, _, hf⟩ := hR; exact hf.elim
    case row r args =>
      obtain ⟨v, w'', hR, _⟩ := h default []
      exact ⟨v, w'', hR⟩
/-- An operation that looks at the same. -/
theorem wp_moved {o : Oper} {a b : Act} {w : World} {K : Act → World → Prop} {K' : Act → World → Prop} {Q' : Exit → Act → World → Prop} (h : o.wp P a w K (fun _ _ _ => False)) (hK : ∀ a' w', K a' w' → a'.defers = a.defers)
    (e : execOp b.eval o = execOp a.eval o) (hk : ∀ v w', K (a.put o.dst v) w' → K' (b.put o.dst v) w') : o.wp P b w K' Q' := by
  unfold Oper.wp at h ⊢
  rw [e]
  generalize (execOp a.eval o).run P w = r at h ⊢
  cases r with
  | halt x w' => cases x <;> simp only [Oper.upon] at h
  | ok n w' =>
    cases n <;> simp only [Oper.upon] at h ⊢
    case value v => exact hk _ _ h
    case skip => exact hk _ _ h
    case defer d =>
      have := hK _ _ h
      cases hd : o.dst <;> simp [Act.put, hd] at this
    case enter f args =>
      refine Calls.mono h fun e w'' hR => ?_
      cases e with
      | returned v => exact hk _ _ hR
      | panicked ch => exact hR.elim
      | outgrown => obtain ⟨_, _, hf⟩ := hR; exact hf.elim
    case row r args => exact Rows.mono h fun v w'' hR => hk _ _ hR

theorem cw_head {r : List Oper} {k : Nat} {o : Oper} (hr : ops.toList.drop k = o :: r) : ops[k]? = some o ∧ ops.toList.drop (k + 1) = r := by
  refine ⟨?_, ?_⟩
  · have := congrArg (fun x : List Oper => x[0]?) hr
    simpa using this
  · have := congrArg List.tail hr
    simpa using this

/-- What a walk that has come to `k` in the world `w` says of all that follows. -/
theorem unroll (hok : Ok ops) : ∀ (r : List Oper) (k : Nat) (u0 : Nat → Value) (w : World), ops.toList.drop k = r → cwalk P ops lo st T w0 Q r k (lex ops a0 u0 k) w →
    ∃ u, (∀ j, j < k → u j = u0 j) ∧ (∀ j, k ≤ j → lo j = false → st j = true → OKs P ops T w0 a0 u j) ∧
      (∀ j, k ≤ j → (∀ l, k ≤ l → l ≤ j → lo l = false) → st j = false → StN P ops a0 u j w) ∧
      (∀ l, l < ops.size → k ≤ l → lo l = true → (∀ i, k ≤ i → i < l → lo i = false) → cwalk P ops lo st T w0 Q (ops.toList.drop l) l (lex ops a0 u l) w) ∧
      ((∀ l, k ≤ l → l < ops.size → lo l = false) → Q (lex ops a0 u ops.size) w)
  | [], k, u0, w, hr, h => by
    have hn : ops.size ≤ k := by simpa using hr
    have hx : lex ops a0 u0 k = lex ops a0 u0 ops.size := fill_congr _ 0 _ fun j _ hj => by
      have : j < ops.size := by simpa using hj
      exact ⟨by simp [this]; omega, fun _ => rfl⟩
    have hnone : ∀ j, k ≤ j → ops[j]? = none := fun j hj => by simp; omega
    refine ⟨u0, fun _ _ => rfl, fun j hj _ _ o ho => ?_, fun j hj _ _ o ho => ?_, fun l hl hk _ _ => by omega, fun _ => by rw [← hx]; exact h⟩
    · rw [hnone j hj] at ho; cases ho
    · rw [hnone j hj] at ho; cases ho
  | o :: r, k, u0, w, hr, h => by
    obtain ⟨ho, hr'⟩ := cw_head hr
    have hks : k < ops.size := (Array.getElem?_eq_some_iff.1 ho).1
    have hlex : ∀ c, lex ops a0 (fun j => if j = k then c else u0 j) k = lex ops a0 u0 k := fun c => lex_congr fun j hj => by simp; intro e; omega
    have hsucc : ∀ c, lex ops a0 (fun j => if j = k then c else u0 j) (k + 1) = (lex ops a0 u0 k).put o.dst c := fun c => by rw [lex_succ hok _ k o ho, hlex]; simp
    have h0 := h
    -- one step: the value `c`, the world `w1`
    have go : ∀ (c : Value) (w1 : World), cwalk P ops lo st T w0 Q r (k + 1) ((lex ops a0 u0 k).put o.dst c) w1 → (lo k = false → w1 = w) →
        (lo k = false → st k = true → if Region.wanted o (yielded ops (lex ops a0 u0 k).tmps) then ∀ w', KeepsP (sx ops T k) w0 w' → Quiet P o (lex ops a0 u0 k) w' c else c = undef) →
        (lo k = false → st k = false → if Region.wanted o (yielded ops (lex ops a0 u0 k).tmps) then Quiet P o (lex ops a0 u0 k) w c else c = undef) →
        ∃ u, (∀ j, j < k → u j = u0 j) ∧ (∀ j, k ≤ j → lo j = false → st j = true → OKs P ops T w0 a0 u j) ∧
          (∀ j, k ≤ j → (∀ l, k ≤ l → l ≤ j → lo l = false) → st j = false → StN P ops a0 u j w) ∧
          (∀ l, l < ops.size → k ≤ l → lo l = true → (∀ i, k ≤ i → i < l → lo i = false) → cwalk P ops lo st T w0 Q (ops.toList.drop l) l (lex ops a0 u l) w) ∧
          ((∀ l, k ≤ l → l < ops.size → lo l = false) → Q (lex ops a0 u ops.size) w) := by
      intro c w1 hcw hw1 hs1 hs2
      obtain ⟨u, e1, e2, e3, e4, e5⟩ := unroll hok r (k + 1) (fun j => if j = k then c else u0 j) w1 hr' (by rw [hsucc]; exact hcw)
      have hlow : ∀ j, j < k → u j = u0 j := fun j hj => by rw [e1 j (by omega)]; simp; intro e; omega
      have huk : u k = c := by rw [e1 k (by omega)]; simp
      have hlk : lex ops a0 u k = lex ops a0 u0 k := lex_congr hlow
      refine ⟨u, hlow, fun j hj h1 h2 => ?_, fun j hj h1 h2 => ?_, fun l hl hkl h1 h2 => ?_, fun h1 => ?_⟩
      · by_cases e : j = k
        · subst e
          intro o' ho'
          rw [ho] at ho'; cases ho'
          rw [hlk, huk]; exact hs1 h1 h2
        · exact e2 j (by omega) h1 h2
      · have hlk0 := h1 k (Nat.le_refl _) hj
        have hww := hw1 hlk0
        by_cases e : j = k
        · subst e
          intro o' ho'
          rw [ho] at ho'; cases ho'
          rw [hlk, huk]; exact hs2 hlk0 h2
        · have := e3 j (by omega) (fun l a b => h1 l (by omega) b) h2
          rw [hww] at this
          exact this
      · by_cases e : l = k
        · subst e
          rw [hr, hlk]; exact h0
        · have hlk0 := h2 k (Nat.le_refl _) (by omega)
          have := e4 l hl (by omega) h1 (fun i a b => h2 i (by omega) b)
          rw [hw1 hlk0] at this
          exact this
      · have := e5 (fun l a b => h1 l (by omega) b)
        rw [hw1 (h1 k (Nat.le_refl _) hks)] at this
        exact this
    unfold cwalk at h
    by_cases hw : Region.wanted o (yielded ops (lex ops a0 u0 k).tmps) = true
    · rw [if_pos hw] at h
      by_cases hl : lo k = true
      · rw [if_pos hl] at h
        obtain ⟨v, w1, _, _, hc1⟩ := some_end h (fun _ _ hh => hh.1)
        exact go v w1 hc1 (fun e => by rw [hl] at e; cases e) (fun e => by rw [hl] at e; cases e) (fun e => by rw [hl] at e; cases e)
      · rw [if_neg hl] at h
        by_cases hs : st k = true
        · rw [if_pos hs] at h
          obtain ⟨c, hq, hc⟩ := h
          exact go c w hc (fun _ => rfl) (fun _ _ => by rw [if_pos hw]; exact hq) (fun _ e => by rw [hs] at e; cases e)
        · rw [if_neg hs] at h
          obtain ⟨c, hq, hc⟩ := h
          exact go c w hc (fun _ => rfl) (fun _ e => absurd e hs) (fun _ _ => by rw [if_pos hw]; exact hq)
    · rw [if_neg hw] at h
      exact go undef w h (fun _ => rfl) (fun _ _ => by rw [if_neg hw]) (fun _ _ => by rw [if_neg hw])

/-- What holds at every point of a run in whatever order. -/
structure CInv (P : Program) (ops : Array Oper) (lo st : Nat → Bool) (T : Nat → Nat → Prop) (w0 : World) (Q : Act → World → Prop) (a0 : Act) (listed : Array Bool) (b : Act) (w : World) (k : Nat) (u : Nat → Value) : Prop where
  size : listed.size = ops.size
  closed : ∀ (i : Nat) (o : Oper), ops[i]? = some o → listed.getD i false = true → ∀ e ∈ o.after, Region.binds .any e = true → listed.getD e.on false = true
  good : KeepsP (fun b => ∃ j, listed.getD j false = true ∧ T j b) w0 w
  frame : b = fill u (fun j => listed.getD j false) ops.toList 0 a0
  loudk : ∀ j, j < ops.size → lo j = true → (listed.getD j false = true ↔ j < k)
  below : ∀ j, j < k → j < ops.size → lo j = false → st j = false → listed.getD j false = true
  stab : ∀ j, lo j = false → st j = true → OKs P ops T w0 a0 u j
  seg : ∀ j, k ≤ j → (∀ l, k ≤ l → l ≤ j → lo l = false) → st j = false → StN P ops a0 u j w
  next : ∀ l, l < ops.size → k ≤ l → lo l = true → (∀ i, k ≤ i → i < l → lo i = false) → cwalk P ops lo st T w0 Q (ops.toList.drop l) l (lex ops a0 u l) w
  fin : (∀ l, k ≤ l → l < ops.size → lo l = false) → Q (lex ops a0 u ops.size) w

theorem getD_lt {listed : Array Bool} {j : Nat} (h : listed.getD j false = true) : j < listed.size := by
  rcases Nat.lt_or_ge j listed.size with h1 | h1
  · exact h1
  · simp [Array.getD, Nat.not_lt.2 h1] at h

theorem lex_agree (hok : Ok ops) (u : Nat → Value) {j : Nat} (hj : j < ops.size) : Agree (ops[j].looksAt ops) (lex ops a0 u j) (fill u (fun k => pre ops k j && decide (k < ops.size)) ops.toList 0 a0) := by
  have hp' : ops[j]? = some ops[j] := by simp [hj]
  refine fill_agree _ 0 _ _ (Agree.refl _ _) fun k p hp hne t ht => ?_
  have hpk : ops[k]? = some p := by simpa using hp
  have hk : k < ops.size := (Array.getElem?_eq_some_iff.1 hpk).1
  simp only [Nat.zero_add] at hne
  have hkj : j ≠ k := fun e => by
    subst e
    have : pre ops j j = false := by
      cases hpp : pre ops j j
      · rfl
      · have := pre_lt hok (j + 1) j (by omega) hj j hj hpp; omega
    simp [this] at hne
  rcases hok.apart j _ k p hp' hpk hkj with h | h | h
  · have := pre_lt hok (j + 1) j (by omega) hj k hk h
    simp [this, h, hk] at hne
  · have h9 := pre_lt hok (k + 1) k (by omega) hk j hj h
    have h10 : pre ops k j = false := by
      cases hpp : pre ops k j
      · rfl
      · have := pre_lt hok (j + 1) j (by omega) hj k hk hpp; omega
    simp [h10] at hne
    omega
  · exact (Oper.apart_spec h).1 t ht

/-- The frame at hand agrees with the frame in the order of the text on what an operation that is ready looks at. -/
theorem ready_agree (hok : Ok ops) {listed : Array Bool} {u : Nat → Value} {i : Nat} {o : Oper} (ho : ops[i]? = some o) (hnl : listed.getD i false = false)
    (hc : ∀ (i : Nat) (o : Oper), ops[i]? = some o → listed.getD i false = true → ∀ e ∈ o.after, Region.binds .any e = true → listed.getD e.on false = true)
    (hedge : ∀ e ∈ o.after, Region.binds .any e = true → listed.getD e.on false = true) :
    Agree (o.looksAt ops) (lex ops a0 u i) (fill u (fun j => listed.getD j false) ops.toList 0 a0) := by
  have hlt : i < ops.size := (Array.getElem?_eq_some_iff.1 ho).1
  have hpre : ∀ j, j < ops.size → pre ops j i = true → listed.getD j false = true := closed_pre hok hc (i + 1) i (by omega) o ho hedge
  refine fill_agree _ 0 _ _ (Agree.refl _ _) fun j p hp hne t ht => ?_
  have hp' : ops[j]? = some p := by simpa using hp
  have hj : j < ops.size := (Array.getElem?_eq_some_iff.1 hp').1
  simp only [Nat.zero_add] at hne
  have hji : i ≠ j := fun e => by
    subst e
    rw [hnl] at hne
    simp at hne
  rcases hok.apart i o j p ho hp' hji with h | h | h
  · have h2 := pre_lt hok (i + 1) i (by omega) hlt j hj h
    rw [hpre j hj h] at hne
    simp [h2] at hne
  · have h2 := pre_lt hok (j + 1) j (by omega) hj i hlt h
    have h3 : listed.getD j false = false := by
      cases h4 : listed.getD j false
      · rfl
      · have := closed_pre hok hc (j + 1) j (by omega) p hp' (hc j p hp' h4) i hlt h
        rw [hnl] at this
        cases this
    rw [h3] at hne
    simp at hne
    omega
  · exact (Oper.apart_spec h).1 t ht

/-- Two readings of the walk give the same values to what has come up already. -/
theorem same_vals (hok : Ok ops) {listed : Array Bool} {u u' : Nat → Value} {i : Nat} (hnl : listed.getD i false = false) (hsz : listed.size = ops.size)
    (hc : ∀ (i : Nat) (o : Oper), ops[i]? = some o → listed.getD i false = true → ∀ e ∈ o.after, Region.binds .any e = true → listed.getD e.on false = true)
    (hlow : ∀ j, j < i → u' j = u j) (hs : ∀ j, i < j → listed.getD j false = true → OKs P ops T w0 a0 u j ∧ OKs P ops T w0 a0 u' j) :
    ∀ n j, j < n → listed.getD j false = true → u' j = u j
  | 0, j, h, _ => by omega
  | n + 1, j, h, hl => by
    have ih := same_vals hok hnl hsz hc hlow hs n
    rcases Nat.lt_trichotomy j i with hji | hji | hji
    · exact hlow j hji
    · subst hji; rw [hnl] at hl; cases hl
    · have hj : j < ops.size := by rw [← hsz]; exact getD_lt hl
      have hoj : ops[j]? = some ops[j] := by simp [hj]
      obtain ⟨k1, k2⟩ := hs j hji hl
      have hpre : ∀ q, q < ops.size → pre ops q j = true → listed.getD q false = true := closed_pre hok hc (j + 1) j (by omega) _ hoj (hc j _ hoj hl)
      have hag : Agree (ops[j].looksAt ops) (lex ops a0 u' j) (lex ops a0 u j) := by
        have e1 := lex_agree (a0 := a0) hok u hj
        have e2 := lex_agree (a0 := a0) hok u' hj
        have e3 : fill u' (fun k => pre ops k j && decide (k < ops.size)) ops.toList 0 a0 = fill u (fun k => pre ops k j && decide (k < ops.size)) ops.toList 0 a0 :=
          fill_congr _ 0 _ fun q _ _ => ⟨rfl, fun hq => by
            simp only [Bool.and_eq_true, decide_eq_true_eq] at hq
            exact ih q (by have := pre_lt hok (j + 1) j (by omega) hj q hq.2 hq.1; omega) (hpre q hq.2 hq.1)⟩
        rw [e3] at e2
        exact ⟨e2.1.trans e1.1.symm, fun t ht => (e2.2 t ht).trans (e1.2 t ht).symm⟩
      have hwn := wanted_agree (o := ops[j]) hag
      have hex := exec_agree hag (hok.sel j _ hoj)
      have q1 := k1 _ hoj
      have q2 := k2 _ hoj
      rw [hwn] at q2
      by_cases hwant : Region.wanted ops[j] (yielded ops (lex ops a0 u j).tmps) = true
      · rw [if_pos hwant] at q1 q2
        exact quiet_one (q2 w0 (KeepsP.refl _ _)) (q1 w0 (KeepsP.refl _ _)) hex
      · rw [if_neg hwant] at q1 q2
        rw [q1, q2]

theorem chain_any (hok : Ok ops) (hch : Chain ops lo st) {Q' : Exit → Act → World → Prop} (hQ : ∀ a w, Q a w → Q' .normal a w) :
    ∀ (fuel : Nat) (listed : Array Bool) (b : Act) (w : World) (k : Nat) (u : Nat → Value), CInv P ops lo st T w0 Q a0 listed b w k u → count listed ops.size = fuel → wpAny P .any ops Q' fuel listed b w := by
  have fin : ∀ (listed : Array Bool) (b : Act) (w : World) (k : Nat) (u : Nat → Value), CInv P ops lo st T w0 Q a0 listed b w k u → (∀ i, i < ops.size → listed.getD i false = true) → Q' .normal b w := by
    intro listed b w k u hI hall
    refine hQ _ _ ?_
    have : fill u (fun j => listed.getD j false) ops.toList 0 a0 = lex ops a0 u ops.size := fill_congr _ 0 _ fun j _ hj => by
      have : j < ops.size := by simpa using hj
      exact ⟨by rw [hall j this]; simp [this], fun _ => rfl⟩
    rw [hI.frame, this]
    refine hI.fin fun l hl hls => ?_
    cases hlo : lo l
    · rfl
    · have := (hI.loudk l hls hlo).1 (hall l hls)
      omega
  intro fuel
  induction fuel with
  | zero =>
    intro listed b w k u hI hc
    have hall : ∀ i, i < ops.size → listed.getD i false = true := fun i hi => by
      have := List.countP_eq_zero.1 hc i (List.mem_range.2 hi)
      simpa using this
    refine ⟨?_, fin listed b w k u hI hall⟩
    refine List.eq_nil_iff_forall_not_mem.2 fun i hi => ?_
    obtain ⟨h1, o, ho, _⟩ := mem_ready.1 hi
    have hlt : i < ops.size := (Array.getElem?_eq_some_iff.1 ho).1
    have h2 := hall i hlt
    have hs : i < listed.size := by rw [hI.size]; exact hlt
    simp [Array.getD, hs] at h1 h2
    rw [h1] at h2
    cases h2
  | succ fuel ih =>
    intro listed b w k u hI hc
    refine ⟨fun hr => fin listed b w k u hI (fun i hi => ready_sub hok hr hI.size (i + 1) i (by omega) hi), fun i hi => ?_⟩
    obtain ⟨h1, o, ho, hedge⟩ := mem_ready.1 hi
    have hlt : i < ops.size := (Array.getElem?_eq_some_iff.1 ho).1
    have hs : i < listed.size := by rw [hI.size]; exact hlt
    have hnl : listed.getD i false = false := by simpa [Array.getD, hs] using h1
    have hcount : count (listed.setIfInBounds i true) ops.size = fuel := by
      have := count_set hs hnl ops.size hlt
      omega
    have hpre : ∀ j, j < ops.size → pre ops j i = true → listed.getD j false = true := closed_pre hok hI.closed (i + 1) i (by omega) o ho hedge
    have hprej : ∀ j, listed.getD j false = true → pre ops i j = false := fun j hj => by
      cases hpp : pre ops i j
      · rfl
      · have hj' : j < ops.size := by rw [← hI.size]; exact getD_lt hj
        have := closed_pre hok hI.closed (j + 1) j (by omega) ops[j] (by simp [hj']) (hI.closed j ops[j] (by simp [hj']) hj) i hlt hpp
        rw [hnl] at this; cases this
    have hag : Agree (o.looksAt ops) (lex ops a0 u i) b := by rw [hI.frame]; exact ready_agree hok ho hnl hI.closed hedge
    have hex := exec_agree hag (hok.sel i o ho)
    have hwa := wanted_agree (o := o) hag
    have hclosed' : ∀ (k : Nat) (p : Oper), ops[k]? = some p → (listed.setIfInBounds i true).getD k false = true → ∀ e ∈ p.after, Region.binds .any e = true → (listed.setIfInBounds i true).getD e.on false = true := by
      intro k p hp hk e he hb
      rw [getD_set hs] at hk ⊢
      by_cases e1 : e.on = i
      · rw [if_pos e1]
      · rw [if_neg e1]
        by_cases e2 : k = i
        · subst e2; rw [ho] at hp; cases hp; exact hedge e he hb
        · rw [if_neg e2] at hk; exact hI.closed k p hp hk e he hb
    have hput : ∀ (u' : Nat → Value), (∀ j, listed.getD j false = true → u' j = u j) → b.put o.dst (u' i) = fill u' (fun j => (listed.setIfInBounds i true).getD j false) ops.toList 0 a0 := fun u' hu' => by
      have e1 : b = fill u' (fun j => listed.getD j false) ops.toList 0 a0 := by
        rw [hI.frame]; exact fill_congr _ 0 _ fun j _ _ => ⟨rfl, fun hj => (hu' j hj).symm⟩
      rw [e1]
      refine (fill_put (i := i) (o := o) hnl (by rw [getD_set hs, if_pos rfl]) (fun j hj => by rw [getD_set hs, if_neg hj]) _ 0 _ (Nat.zero_le _) (by simpa using ho) (fun j p hp hne t ht => ?_)).symm
      exact hok.dst i o j p ho (by simpa using hp) (by omega) t ht
    -- a read has come up
    have nextR : lo i = false → wpAny P .any ops Q' fuel (listed.setIfInBounds i true) (b.put o.dst (u i)) w := fun hlo => by
      refine ih _ _ _ k u ⟨by simp [hI.size], hclosed', hI.good.mono (fun b ⟨q, hq, ht⟩ => ⟨q, (by rw [getD_set hs]; split <;> first | rfl | exact hq), ht⟩), hput u (fun _ _ => rfl), fun j hj hl => ?_, fun j hj hjs h1 h2 => ?_, hI.stab, hI.seg, hI.next, hI.fin⟩ hcount
      · rw [getD_set hs, if_neg (fun e => by subst e; rw [hlo] at hl; cases hl)]
        exact hI.loudk j hj hl
      · rw [getD_set hs]
        split
        · rfl
        · exact hI.below j hj hjs h1 h2
    -- a loud one has come up (or is passed over)
    have nextL : lo i = true → ∀ (v : Value) (w' : World), KeepsP (T i) w w' → cwalk P ops lo st T w0 Q (ops.toList.drop (i + 1)) (i + 1) ((lex ops a0 u i).put o.dst v) w' → k ≤ i → (∀ l, k ≤ l → l < i → lo l = false) →
        wpAny P .any ops Q' fuel (listed.setIfInBounds i true) (b.put o.dst v) w' := fun hlo v w' hkw hcw hki hno => by
      have hgood' : KeepsP (fun b => ∃ j, (listed.setIfInBounds i true).getD j false = true ∧ T j b) w0 w' := (hI.good.mono (fun b ⟨q, hq, ht⟩ => ⟨q, (by rw [getD_set hs]; split <;> first | rfl | exact hq), ht⟩)).trans (hkw.mono (fun b hb => ⟨i, (by rw [getD_set hs, if_pos rfl]), hb⟩))
      have hlex : ∀ c, lex ops a0 (fun j => if j = i then c else u j) i = lex ops a0 u i := fun c => lex_congr fun j hj => by simp; intro e; omega
      have hsucc : lex ops a0 (fun j => if j = i then v else u j) (i + 1) = (lex ops a0 u i).put o.dst v := by rw [lex_succ hok _ i o ho, hlex]; simp
      obtain ⟨u', e1, e2, e3, e4, e5⟩ := unroll (P := P) (lo := lo) (st := st) (T := T) (w0 := w0) (Q := Q) (a0 := a0) hok _ (i + 1) (fun j => if j = i then v else u j) w' rfl (by rw [hsucc]; exact hcw)
      have hlow : ∀ j, j < i → u' j = u j := fun j hj => by rw [e1 j (by omega)]; simp; intro e; omega
      have hui : u' i = v := by rw [e1 i (by omega)]; simp
      have hsteady : ∀ j, i < j → listed.getD j false = true → lo j = false ∧ st j = true := fun j hj hl => by
        have hjs : j < ops.size := by rw [← hI.size]; exact getD_lt hl
        have hp := hprej j hl
        cases hlj : lo j
        · refine ⟨rfl, ?_⟩
          cases hsj : st j
          · have := hch.lr i j hj hjs hlo hlj hsj
            rw [hp] at this; cases this
          · rfl
        · have := hch.ll i j hj hjs hlo hlj
          rw [hp] at this; cases this
      have hsame : ∀ j, listed.getD j false = true → u' j = u j := fun j hj =>
        same_vals (P := P) (T := T) (w0 := w0) (a0 := a0) hok hnl hI.size hI.closed hlow (fun j hj hl => by
          obtain ⟨a, b⟩ := hsteady j hj hl
          exact ⟨hI.stab j a b, e2 j (by omega) a b⟩) (j + 1) j (by omega) hj
      have hfr := hput u' hsame
      rw [hui] at hfr
      refine ih _ _ _ (i + 1) u' ⟨by simp [hI.size], hclosed', hgood', hfr, fun j hj hl => ?_, fun j hj hjs h1 h2 => ?_, fun j h1 h2 => ?_, e3, e4, e5⟩ hcount
      · rw [getD_set hs]
        by_cases e : j = i
        · subst e; simp
        · rw [if_neg e, hI.loudk j hj hl]
          constructor
          · intro h; omega
          · intro h
            rcases Nat.lt_or_ge j k with h9 | h9
            · exact h9
            · have := hno j h9 (by omega)
              rw [hl] at this; cases this
      · rw [getD_set hs]
        by_cases e : j = i
        · rw [if_pos e]
        · rw [if_neg e]
          exact hpre j hjs (hch.rl j i (by omega) hlt h1 h2 hlo)
      · by_cases hj : j < i
        · exact OKs_congr (fun q hq => (hlow q (by omega)).symm) (hI.stab j h1 h2)
        · exact e2 j (by
            rcases Nat.lt_or_ge i j with e | e
            · omega
            · have e' : j = i := by omega
              rw [e', hlo] at h1; cases h1) h1 h2
    unfold wpOp
    simp only [ho]
    by_cases hlo : lo i = true
    · -- loud
      have hki : k ≤ i := by
        rcases Nat.lt_or_ge i k with h9 | h9
        · have := (hI.loudk i hlt hlo).2 h9
          rw [hnl] at this; cases this
        · exact h9
      have hno : ∀ l, k ≤ l → l < i → lo l = false := fun l h9 h10 => by
        cases hl : lo l
        · rfl
        · have h11 := hpre l (by omega) (hch.ll l i h10 hlt hl hlo)
          have := (hI.loudk l (by omega) hl).1 h11
          omega
      have hcw := hI.next i hlt hki hlo hno
      have hdrop : ops.toList.drop i = o :: ops.toList.drop (i + 1) := by
        rw [List.drop_eq_getElem_cons (by simpa using hlt)]
        have := (Array.getElem?_eq_some_iff.1 ho).2
        simp [this]
      rw [hdrop] at hcw
      unfold cwalk at hcw
      rw [hwa] at hcw
      by_cases hwant : Region.wanted o (yielded ops b.tmps) = true
      · rw [if_pos hwant]
        rw [if_pos hwant, if_pos hlo] at hcw
        exact .inl (wp_moved hcw (fun _ _ hh => hh.1) hex.symm fun v w' hh => nextL hlo v w' hh.2.1 hh.2.2 hki hno)
      · rw [if_neg hwant]
        rw [if_neg hwant] at hcw
        exact nextL hlo undef w (KeepsP.refl _ _) hcw hki hno
    · have hlo' : lo i = false := by simpa using hlo
      by_cases hst : st i = true
      · have hq := hI.stab i hlo' hst o ho
        rw [hwa] at hq
        by_cases hwant : Region.wanted o (yielded ops b.tmps) = true
        · rw [if_pos hwant]
          rw [if_pos hwant] at hq
          have hcl : KeepsP (sx ops T i) w0 w := hI.good.mono (fun b ⟨q, hq9, ht⟩ => ⟨q, (fun e => by rw [e, hnl] at hq9; cases hq9), hprej q hq9, ht⟩)
          exact .inl (wp_of_quiet (hq w hcl) hex.symm (nextR hlo'))
        · rw [if_neg hwant]
          rw [if_neg hwant] at hq
          rw [← hq]; exact nextR hlo'
      · have hst' : st i = false := by simpa using hst
        have hki : k ≤ i := by
          rcases Nat.lt_or_ge i k with h9 | h9
          · have := hI.below i h9 hlt hlo' hst'
            rw [hnl] at this; cases this
          · exact h9
        have hno : ∀ l, k ≤ l → l ≤ i → lo l = false := fun l h9 h10 => by
          cases hl : lo l
          · rfl
          · have hli : l < i := by
              rcases Nat.lt_or_ge l i with e | e
              · exact e
              · have : l = i := by omega
                subst this; rw [hlo'] at hl; cases hl
            have h11 := hpre l (by omega) (hch.lr l i hli hlt hl hlo' hst')
            have := (hI.loudk l (by omega) hl).1 h11
            omega
        have hq := hI.seg i hki hno hst' o ho
        rw [hwa] at hq
        by_cases hwant : Region.wanted o (yielded ops b.tmps) = true
        · rw [if_pos hwant]
          rw [if_pos hwant] at hq
          exact .inl (wp_of_quiet hq hex.symm (nextR hlo'))
        · rw [if_neg hwant]
          rw [if_neg hwant] at hq
          rw [← hq]; exact nextR hlo'

theorem wp_region_chain {id : Nat} {l : List Oper} {a : Act} {w : World} {Q' : Exit → Act → World → Prop} (lo st : Nat → Bool) (T : Nat → Nat → Prop) (hm : P.follows .mixedOrders = true) (hB : okB l.toArray = true) (hC : chainB l.toArray lo st = true)
    (h : cwalk P l.toArray lo st T w.drew (fun a' w' => Q' .normal a' w') l 0 a w.drew) : (Code.region id l.toArray true).wp P Q' a w := by
  refine wp_region_any hm ?_
  have hok := ok_of hB
  have hch := chain_of hC
  have hlex0 : ∀ u, lex l.toArray a u 0 = a := fun u => (fill_congr (v' := u) (S' := fun _ => false) _ 0 _ (fun j _ _ => ⟨by simp, fun _ => rfl⟩)).trans (fill_none _ 0 _)
  obtain ⟨u, _, e2, e3, e4, e5⟩ := unroll (P := P) (lo := lo) (st := st) (T := T) (w0 := w.drew) (Q := fun a' w' => Q' .normal a' w') (a0 := a) hok l 0 (fun _ => undef) w.drew (by simp) (by rw [hlex0]; exact h)
  have hno : ∀ j, (Array.replicate l.toArray.size false).getD j false = false := fun j => by
    simp only [Array.getD_eq_getD_getElem?, Array.getElem?_replicate]
    split <;> rfl
  refine chain_any (Q := fun a' w' => Q' .normal a' w') (a0 := a) hok hch (fun _ _ h => h) _ _ _ _ 0 u ⟨by simp, fun i o _ hi => ?_, KeepsP.refl _ _, ?_, fun j _ _ => ?_, fun j hj => by omega, fun j h1 h2 => e2 j (by omega) h1 h2, e3, e4, e5⟩ ?_
  · rw [hno] at hi; cases hi
  · refine ((fill_congr (v' := u) (S' := fun _ => false) _ 0 _ (fun j _ _ => ⟨by simp only [hno], fun _ => rfl⟩)).trans (fill_none _ 0 _)).symm
  · rw [hno]; simp
  · unfold count
    rw [List.countP_eq_length.2 (fun i hi => ?_)]
    · simp
    · rw [hno]; rfl

def PlainS (P : Program) (e : Sem Next) : Prop := ∀ w, plainRes (e.run P w)
theorem PlainS.pure {P : Program} (v : Value) : PlainS P (Sem.pure (.value v)) := fun _ => trivial
theorem PlainS.bind {P : Program} {α : Type} (s : Sem α) (f : α → Sem Next) (h : ∀ x, PlainS P (f x)) : PlainS P (s >>= f) := fun w => by
  rw [Sem.run_bind]
  generalize s.run P w = r
  cases r with
  | ok a w' => exact h a w'
  | halt x w' => trivial
theorem PlainS.val {P : Program} (s : Sem Value) : PlainS P (do Pure.pure (.value (← s))) := PlainS.bind s _ fun x => PlainS.pure x
theorem PlainS.of_ok {P : Program} {e : Sem Next} (h : ∀ w, ∃ v, e.run P w = .ok (.value v) w) : PlainS P e := fun w => by obtain ⟨v, hv⟩ := h w; rw [hv]; trivial
/-- The kinds of operation that yield a value and neither call, defer nor communicate. -/
def plainOp : Op → Bool
  | .move _ | .assign _ | .pick .. | .build .. | .load .. | .binOp .. | .unOp .. | .convert .. | .makeInterface .. | .makeFunc .. | .slice .. | .fieldAddr .. | .field .. | .indexAddr .. | .index .. | .lookup .. | .extract .. => true
  | .call { callee := .builtin .len, .. } | .call { callee := .builtin .cap, .. } | .call { callee := .builtin .min, .. } | .call { callee := .builtin .max, .. } => true
  | _ => false
theorem plain_exec (P : Program) (o : Oper) (h : plainOp o.op = true) (ev : Operand → Value) : PlainS P (execOp ev o) := by
  obtain ⟨dst, op, ty, pos, after, guard⟩ := o
  cases op <;> simp only [plainOp, Bool.false_eq_true] at h <;> try exact PlainS.val _
  · exact PlainS.pure _
  · exact PlainS.pure _
  · exact PlainS.bind _ _ fun x => PlainS.pure _
  · rename_i c
    obtain ⟨callee, args, ats⟩ := c
    cases callee with
    | value f => simp at h
    | invoke r m => simp at h
    | builtin b => cases b <;> first | (exfalso; simp at h; done) | exact PlainS.val _

variable {P : Program} {ops : Array Oper} {lo st : Nat → Bool} {T : Nat → Nat → Prop} {w0 : World} {Q : Act → World → Prop}
theorem cw_nil {a : Act} {w : World} (h : Q a w) {i : Nat} : cwalk P ops lo st T w0 Q [] i a w := h
theorem cw_want {o : Oper} {r : List Oper} {i : Nat} {a : Act} {w : World} {c : Value} (hw : Region.wanted o (yielded ops a.tmps) = true) (hlo : lo i = false) (hst : st i = false) (hq : Quiet P o a w c)
    (h : cwalk P ops lo st T w0 Q r (i + 1) (a.put o.dst c) w) : cwalk P ops lo st T w0 Q (o :: r) i a w := by
  unfold cwalk
  rw [if_pos hw, if_neg (by rw [hlo]; simp), if_neg (by rw [hst]; simp)]
  exact ⟨c, hq, h⟩
theorem cw_skip {o : Oper} {r : List Oper} {i : Nat} {a : Act} {w : World} (hw : Region.wanted o (yielded ops a.tmps) = false)
    (h : cwalk P ops lo st T w0 Q r (i + 1) (a.put o.dst undef) w) : cwalk P ops lo st T w0 Q (o :: r) i a w := by
  unfold cwalk
  rw [if_neg (by rw [hw]; simp)]
  exact h
/-- An operation that reads, walked by the walk's own words. -/
theorem cw_read {o : Oper} {r : List Oper} {i : Nat} {a : Act} {w : World} (hg : o.guard = none) (hlo : lo i = false) (hst : st i = false) (hp : plainOp o.op = true)
    (h : ∀ K : Act → World → Prop, (∀ a', cwalk P ops lo st T w0 Q r (i + 1) a' w → K a' w) → o.wp P a w K (fun _ _ _ => False)) : cwalk P ops lo st T w0 Q (o :: r) i a w := by
  have h1 := h (fun a' w' => w' = w ∧ cwalk P ops lo st T w0 Q r (i + 1) a' w) (fun _ hh => ⟨rfl, hh⟩)
  have hpl := plain_exec P o hp a.eval w
  have hq : ∃ c, Quiet P o a w c ∧ cwalk P ops lo st T w0 Q r (i + 1) (a.put o.dst c) w := by
    unfold Oper.wp at h1
    unfold Quiet
    generalize (execOp a.eval o).run P w = x at h1 hpl
    cases x with
    | halt e w' => cases e <;> simp only [Oper.upon] at h1
    | ok n w' =>
      cases n <;> simp only [plainRes] at hpl <;> simp only [Oper.upon] at h1
      · exact ⟨_, ⟨h1.1, rfl⟩, h1.2⟩
      · exact ⟨_, ⟨h1.1, rfl⟩, h1.2⟩
  obtain ⟨c, hq, hc⟩ := hq
  exact cw_want (by simp [Region.wanted, hg]) hlo hst hq hc
theorem cw_move {o : Oper} {r : List Oper} {i : Nat} {a : Act} {w : World} (x : Operand) (ho : o.op = .move x ∨ o.op = .assign x) (hg : o.guard = none) (hlo : lo i = false)
    (h : cwalk P ops lo st T w0 Q r (i + 1) (a.put o.dst (a.eval x)) w) : cwalk P ops lo st T w0 Q (o :: r) i a w := by
  have hq : ∀ w', Quiet P o a w' (a.eval x) := fun w' => by
    unfold Quiet execOp
    rcases ho with ho | ho <;> rw [ho] <;> exact ⟨rfl, rfl⟩
  unfold cwalk
  rw [if_pos (by simp [Region.wanted, hg]), if_neg (by rw [hlo]; simp)]
  split
  · exact ⟨_, fun w' _ => hq w', h⟩
  · exact ⟨_, hq w, h⟩
/-- A nil check of a pointer that is not nil. -/
theorem cw_nilCheck {o : Oper} {r : List Oper} {i : Nat} {a : Act} {w : World} (x : Operand) (p : Addr) (ho : o.op = .nilCheck x) (hx : a.eval x = .pointer (some p)) (hg : o.guard = none) (hlo : lo i = false)
    (h : cwalk P ops lo st T w0 Q r (i + 1) (a.put o.dst (.pointer (some p))) w) : cwalk P ops lo st T w0 Q (o :: r) i a w := by
  have hq : ∀ w', Quiet P o a w' (.pointer (some p)) := fun w' => by
    unfold Quiet execOp
    rw [ho]; simp only [hx]
    exact ⟨rfl, rfl⟩
  unfold cwalk
  rw [if_pos (by simp [Region.wanted, hg]), if_neg (by rw [hlo]; simp)]
  split
  · exact ⟨_, fun w' _ => hq w', h⟩
  · exact ⟨_, hq w, h⟩
/-- An operation that reads what the loud ones that may come up before it leave alone. -/
theorem cw_steady {o : Oper} {r : List Oper} {i : Nat} {a : Act} {w : World} {c : Value} (hg : o.guard = none) (hlo : lo i = false) (hst : st i = true)
    (hq : ∀ w', KeepsP (sx ops T i) w0 w' → Quiet P o a w' c) (h : cwalk P ops lo st T w0 Q r (i + 1) (a.put o.dst c) w) : cwalk P ops lo st T w0 Q (o :: r) i a w := by
  unfold cwalk
  rw [if_pos (by simp [Region.wanted, hg]), if_neg (by rw [hlo]; simp), if_pos hst]
  exact ⟨c, hq, h⟩
/-- .. whatever the loud ones do. -/
theorem cw_pure {o : Oper} {r : List Oper} {i : Nat} {a : Act} {w : World} {c : Value} (hg : o.guard = none) (hlo : lo i = false)
    (hq : ∀ w', Quiet P o a w' c) (h : cwalk P ops lo st T w0 Q r (i + 1) (a.put o.dst c) w) : cwalk P ops lo st T w0 Q (o :: r) i a w := by
  unfold cwalk
  rw [if_pos (by simp [Region.wanted, hg]), if_neg (by rw [hlo]; simp)]
  split
  · exact ⟨c, fun w' _ => hq w', h⟩
  · exact ⟨c, hq w, h⟩
/-- The cells that an operation may count on. -/
theorem sx_cell {i b off : Nat} {v : Value} {w' : World} (hk : KeepsP (sx ops T i) w0 w') (hc : w0.cell? ⟨b, off, none⟩ = some v) (hT : ∀ j, pre ops i j = false → ¬ T j b) : w'.cell? ⟨b, off, none⟩ = some v :=
  (hk.cell b off (lt_of_cell hc) (fun ⟨j, _, h1, h2⟩ => hT j h1 h2)).trans hc
/-- A loud operation, walked by the walk's own words. -/
theorem cw_loud {o : Oper} {r : List Oper} {i : Nat} {a : Act} {w : World} (hg : o.guard = none) (hlo : lo i = true)
    (h : ∀ K : Act → World → Prop, (∀ a' w', a'.defers = a.defers → KeepsP (T i) w w' → cwalk P ops lo st T w0 Q r (i + 1) a' w' → K a' w') → o.wp P a w K (fun _ _ _ => False)) : cwalk P ops lo st T w0 Q (o :: r) i a w := by
  unfold cwalk
  rw [if_pos (by simp [Region.wanted, hg]), if_pos hlo]
  exact h _ fun a' w' h1 h2 h3 => ⟨h1, h2, h3⟩
attribute [irreducible] cwalk
end
end Free
end Go.Proofs.Ytilmcdieihmiaaa

namespace Go.Proofs.Ytilmcdieihmiaaa
open Go.RowKit

/-- How a map's element reads when it is only handed on: as itself. -/
def rawR (v : Value) : Option (DataW Value × List MemPlace) := some (.held v, [])
theorem infoL : (Try.prog.info? 23).map (fun i => (i.zero, i.size, i.bytes)) = some (some (.slice none 0 0), 1, 24) := by kernel_rfl

abbrev Bytes := List UInt8
structure Chan where
  sent : Nat
  acked : Nat
  received : Nat
  kept : List Bytes
  early : Int → Option Bytes

def noB (u : Value) : Prop := ∀ x, u ≠ .int .u8 x
/-- A list of byte strings in memory of the call's own. -/
def KL (w : World) (B : Nat) (v : Value) (ls : List Bytes) : Prop :=
  ∃ cs : List Value, w.ownsRow B 23 1 v ls.length cs ∧ (∀ (k : Nat) (c : Value) (l : Bytes), cs[k]? = some c → ls[k]? = some l → SlB w c l) ∧ AllC w v noB
/-- The map of what has come too early. -/
def ME (w : World) (bm n : Nat) (early : Int → Option Bytes) : Prop :=
  ∃ D, w.ownsMap Try.prog 3 rawR bm n D ∧ ∀ s : Int, (Lit.int .i64 s).wf = true →
    (early s = none → Maps.has D (.int .i64 s) = false) ∧ ∀ l, early s = some l → Maps.has D (.int .i64 s) = true ∧ ∃ v, (∀ z, D.atKey (.int .i64 s) z = .held v) ∧ SlB w v l
theorem KL.form {w : World} {B : Nat} {v : Value} {ls : List Bytes} (h : KL w B v ls) : ∃ a c, v = .slice a ls.length c := by
  obtain ⟨cs, hown, _⟩ := h
  rcases hown.2 with ⟨rfl, h0⟩ | ⟨g, cap, cur, rfl, _⟩
  · rw [h0]; exact ⟨_, _, rfl⟩
  · exact ⟨_, _, rfl⟩
theorem KL.keep {w w' : World} {B : Nat} {v : Value} {ls : List Bytes} {S : List Nat} (h : KL w B v ls) (hk : Keeps S w w') (hS : ∀ b ∈ S, v.ownBlock ≠ some b) (hb : KB w w') : KL w' B v ls := by
  obtain ⟨cs, hown, hel, hall⟩ := h
  refine ⟨cs, ?_, fun k c l h1 h2 => (hel k c l h1 h2).kb hb, fun g hg o u hu => ?_⟩
  · refine ⟨hown.1, ?_⟩
    rcases hown.2 with hn | ⟨g, cap, cur, rfl, hb, hg, rest⟩
    · exact .inl hn
    · exact .inr ⟨g, cap, cur, rfl, hb, (hk.block g (Array.getElem?_eq_some_iff.1 hg).1 (fun hm => hS g hm rfl)).trans hg, rest⟩
  · rcases hown.2 with ⟨rfl, _⟩ | ⟨g', cap, cur, rfl, _, hgb, _⟩
    · simp [Value.ownBlock] at hg
    · have e : g' = g := by simpa [Value.ownBlock] using hg
      subst e
      rw [hk.cell g' o (Array.getElem?_eq_some_iff.1 hgb).1 (fun hm => hS g' hm rfl)] at hu
      exact hall g' rfl o u hu
/-- One byte string more. -/
theorem wp_pushL {o : Oper} {a : Act} {K : Act → World → Prop} {Q : Exit → Act → World → Prop} (w : World) (B : Nat) (v c : Value) (ls : List Bytes) (l : Bytes) (s t : Operand)
    (ho : o.op = .call { callee := .builtin .append, args := #[s, t], argTypes := #[22, 22] }) (hs : a.eval s = v) (ht : a.eval t = .slice (some ⟨w.heap.size, 0, none⟩) 1 1)
    (h : KL w B v ls) (hc : SlB w c l) (hl : ls.length < 1099511627776) (hB : B ≤ w.heap.size)
    (hK : ∀ v' w', KL w' B v' (ls ++ [l]) → Grw (w.alloc (.cells #[c] 23)) w' v v' → KB w w' → K (a.put o.dst v') w') : o.wp Try.prog a (w.alloc (.cells #[c] 23)) K Q := by
  obtain ⟨i0, hi, hz0, hz1, hz2⟩ := info_parts infoL
  obtain ⟨cs, hown, hel, hall⟩ := h
  obtain ⟨ac, cc, rfl⟩ := hc.form
  refine wp_append_x s t _ ho B 23 i0 (.slice none 0 0) 1 24 Try.underlying22 hi hz0 hz1 hz2 rfl (by decide) v ls.length cs hs (hown.alloc _) _ 1 [.slice ac l.length cc] ht (Sl.one w _ _) (by simp [Value.oneCell']) (by unfold maxLen; omega) (by omega) (by simp; omega) ?_
  intro v' w' h1 h2 h3
  have hall' : AllC (w.alloc (.cells #[.slice ac l.length cc] 23)) v noB := fun g hg o u hu => by
    have hlt := (hown.lt g hg).2
    rw [((Keeps.refl [] w).alloc _).cell g o hlt (by simp)] at hu
    exact hall g hg o u hu
  have hkb : KB w w' := (KB.alloc w _).trans (h2.kb hall')
  refine hK v' w' ⟨cs ++ [.slice ac l.length cc], by simpa using h1, fun k c' l' e1 e2 => ?_, h3 noB (by simp [noB]) (by simp [Value.cells, noB]) hall'⟩ h2 hkb
  have hlen : cs.length = ls.length := by have := hown.1; omega
  rcases Nat.lt_or_ge k cs.length with hk | hk
  · rw [List.getElem?_append_left hk] at e1
    rw [List.getElem?_append_left (by omega)] at e2
    exact (hel k c' l' e1 e2).kb hkb
  · rw [List.getElem?_append_right hk] at e1
    rw [List.getElem?_append_right (by omega)] at e2
    have : k - cs.length = 0 := by
      have := (List.getElem?_eq_some_iff.1 e1).1
      simp at this; omega
    rw [this] at e1
    rw [show k - ls.length = 0 by omega] at e2
    simp at e1 e2
    subst e1 e2
    exact hc.kb hkb
/-- .. at the operation. -/
theorem wpl_pushL {ops : Array Oper} {rest : List Oper} {o : Oper} {a : Act} {Q : Exit → Act → World → Prop} (w : World) (B : Nat) (v c : Value) (ls : List Bytes) (l : Bytes) (hg : o.guard = none) (s t : Operand)
    (ho : o.op = .call { callee := .builtin .append, args := #[s, t], argTypes := #[22, 22] }) (hs : a.eval s = v) (ht : a.eval t = .slice (some ⟨w.heap.size, 0, none⟩) 1 1)
    (h : KL w B v ls) (hc : SlB w c l) (hl : ls.length < 1099511627776) (hB : B ≤ w.heap.size)
    (hK : ∀ v' w', KL w' B v' (ls ++ [l]) → Grw (w.alloc (.cells #[c] 23)) w' v v' → KB w w' → wpList Try.prog ops Q rest (a.put o.dst v') w') : wpList Try.prog ops Q (o :: rest) a (w.alloc (.cells #[c] 23)) :=
  wpList_plain hg fun _ hK' => wp_pushL w B v c ls l s t ho hs ht h hc hl hB fun v' w' h1 h2 h3 => hK' _ _ (hK v' w' h1 h2 h3)
structure Ch (w : World) (B bc bm n : Nat) (vk : Value) (C : Chan) : Prop where
  blk : w.heap[bc]? = some (.cells #[.int .i64 C.sent, .int .i64 C.acked, .int .i64 C.received, vk, .map (some bm)] 79 (0, 0))
  kept : KL w B vk C.kept
  early : ME w bm n C.early

theorem Ch.cells {w : World} {B bc bm n : Nat} {vk : Value} {C : Chan} (h : Ch w B bc bm n vk C) :
    w.cell? ⟨bc, 0, none⟩ = some (.int .i64 C.sent) ∧ w.cell? ⟨bc, 1, none⟩ = some (.int .i64 C.acked) ∧ w.cell? ⟨bc, 2, none⟩ = some (.int .i64 C.received) ∧ w.cell? ⟨bc, 3, none⟩ = some vk ∧ w.cell? ⟨bc, 4, none⟩ = some (.map (some bm)) ∧
    (∀ o, w.frozen? ⟨bc, o, none⟩ = false) ∧ bc < w.heap.size := by
  have h1 := h.blk
  refine ⟨by simp [World.cell?, h1], by simp [World.cell?, h1], by simp [World.cell?, h1], by simp [World.cell?, h1], by simp [World.cell?, h1], fun o => by simp [World.frozen?, h1], (Array.getElem?_eq_some_iff.1 h1).1⟩

set_option maxRecDepth 100000 in
set_option maxHeartbeats 2000000 in
theorem new_c (w : World) : Calls Try.prog 11 #[] w fun e w' => ∃ bc bm, e = .returned (.pointer (some ⟨bc, 0, none⟩)) ∧ w.heap.size ≤ bc ∧ w.heap.size ≤ bm ∧ bc ≠ bm ∧ Ch w' w'.heap.size bc bm 0 (.slice none 0 0) ⟨0, 0, 0, [], fun _ => none⟩ ∧ Keeps [] w w' := by
  have hmm := @run_makeMap Try.prog
  go_enter Try.func11, Try.ntmps11
  go_wp2
  go_ret
  refine ⟨w.heap.size + 1, w.heap.size, rfl, by omega, by omega, by omega, ⟨by simpa using heap_alloc_new (w.alloc (.map #[] 0)) _, ?_, ?_⟩, ((Keeps.refl _ w).alloc _).alloc _⟩
  · exact ⟨[], World.ownsRow_nil _ _ _ _, by simp, fun g hg => by simp [Value.ownBlock] at hg⟩
  · exact ⟨.map [], (World.ownsMap_made w _ _ _).alloc _, fun s _ => ⟨fun _ => rfl, by simp⟩⟩

set_option maxRecDepth 100000 in
set_option maxHeartbeats 2000000 in
theorem sent_c (w : World) (B bc bm n : Nat) (vk : Value) (C : Chan) (h : Ch w B bc bm n vk C) : Calls Try.prog 26 #[.pointer (some ⟨bc, 0, none⟩)] w fun e w' => e = .returned (.int .i64 C.sent) ∧ w = w' := by
  obtain ⟨c0, c1, c2, c3, c4, cf, hlt⟩ := h.cells
  clear h c1 c2 c3 c4 cf
  go_enter Try.func26, Try.ntmps26
  go_wp2
  go_ret
  exact ⟨rfl, rfl⟩
set_option maxRecDepth 100000 in
set_option maxHeartbeats 2000000 in
theorem acked_c (w : World) (B bc bm n : Nat) (vk : Value) (C : Chan) (h : Ch w B bc bm n vk C) : Calls Try.prog 25 #[.pointer (some ⟨bc, 0, none⟩)] w fun e w' => e = .returned (.int .i64 C.acked) ∧ w = w' := by
  obtain ⟨c0, c1, c2, c3, c4, cf, hlt⟩ := h.cells
  clear h c0 c2 c3 c4 cf
  go_enter Try.func25, Try.ntmps25
  go_wp2
  go_ret
  exact ⟨rfl, rfl⟩
set_option maxRecDepth 100000 in
set_option maxHeartbeats 2000000 in
theorem received_c (w : World) (B bc bm n : Nat) (vk : Value) (C : Chan) (h : Ch w B bc bm n vk C) : Calls Try.prog 15 #[.pointer (some ⟨bc, 0, none⟩)] w fun e w' => e = .returned (.int .i64 C.received) ∧ w = w' := by
  obtain ⟨c0, c1, c2, c3, c4, cf, hlt⟩ := h.cells
  clear h c0 c1 c3 c4 cf
  go_enter Try.func15, Try.ntmps15
  go_wp2
  go_ret
  exact ⟨rfl, rfl⟩
end Go.Proofs.Ytilmcdieihmiaaa

namespace Go.Proofs.Ytilmcdieihmiaaa
open Go.RowKit

theorem Ch.nobyte {w : World} {B bc bm n : Nat} {vk : Value} {C : Chan} (h : Ch w B bc bm n vk C) : ∀ o x, w.cell? ⟨bc, o, none⟩ ≠ some (.int .u8 x) := by
  obtain ⟨cs, hown, _⟩ := h.kept
  refine no_byte h.blk ?_
  rcases hown.2 with ⟨rfl, _⟩ | ⟨g, cap, cur, rfl, _⟩ <;> simp
theorem set5_0 {w : World} {b : Nat} {x0 x1 x2 x3 x4 : Value} {t : TypeId} (h : w.heap[b]? = some (.cells #[x0, x1, x2, x3, x4] t (0, 0))) (u : Value) : (w.setCell ⟨b, 0, none⟩ u).heap[b]? = some (.cells #[u, x1, x2, x3, x4] t (0, 0)) := by
  simp [World.setCell, Array.getElem?_modify, h]
theorem set5_3 {w : World} {b : Nat} {x0 x1 x2 x3 x4 : Value} {t : TypeId} (h : w.heap[b]? = some (.cells #[x0, x1, x2, x3, x4] t (0, 0))) (u : Value) : (w.setCell ⟨b, 3, none⟩ u).heap[b]? = some (.cells #[x0, x1, x2, u, x4] t (0, 0)) := by
  simp [World.setCell, Array.getElem?_modify, h]
theorem ME.keep {w w' : World} {bm n : Nat} {early : Int → Option Bytes} {S : List Nat} (h : ME w bm n early) (hk : Keeps S w w') (hS : bm ∉ S) (hb : KB w w') : ME w' bm n early := by
  obtain ⟨D, hown, hD⟩ := h
  refine ⟨D, owns_keep hown hk hS, fun s hs => ⟨(hD s hs).1, fun l hl => ?_⟩⟩
  obtain ⟨h1, v, h2, h3⟩ := (hD s hs).2 l hl
  exact ⟨h1, v, h2, h3.kb hb⟩
theorem ME.lt {w : World} {bm n : Nat} {early : Int → Option Bytes} (h : ME w bm n early) : bm < w.heap.size := by obtain ⟨D, hown, _⟩ := h; exact hown.lt
theorem ME.nocell {w : World} {bm n : Nat} {early : Int → Option Bytes} (h : ME w bm n early) (o : Nat) : w.cell? ⟨bm, o, none⟩ = none := by obtain ⟨D, hown, _⟩ := h; exact owns_no_cells hown o
theorem Ch.ne {w : World} {B bc bm n : Nat} {vk : Value} {C : Chan} (h : Ch w B bc bm n vk C) : bm ≠ bc := fun e => by
  have := h.early.nocell 0
  rw [e, h.cells.1] at this; cases this
theorem KL.ne_map {w : World} {B bm n : Nat} {v : Value} {ls : List Bytes} {early : Int → Option Bytes} (h : KL w B v ls) (hm : ME w bm n early) : v.ownBlock ≠ some bm := fun e => by
  obtain ⟨cs, hown, _⟩ := h
  obtain ⟨D, hm, _⟩ := hm
  obtain ⟨es, c, hb, _⟩ := hm
  rcases hown.2 with ⟨rfl, _⟩ | ⟨g, cap, cur, rfl, _, hg, _⟩
  · simp [Value.ownBlock] at e
  · have : g = bm := by simpa [Value.ownBlock] using e
    subst this
    rw [hb] at hg; cases hg
theorem Ch.keeps {w w' : World} {B bc bm n : Nat} {vk : Value} {C : Chan} (h : Ch w B bc bm n vk C) (hk : Keeps [] w w') : Ch w' B bc bm n vk C :=
  ⟨(hk.block bc h.cells.2.2.2.2.2.2 (by simp)).trans h.blk, h.kept.keep hk (by simp) hk.kb0, h.early.keep hk (by simp) hk.kb0⟩
theorem Ch.keepS {w w' : World} {B bc bm n : Nat} {vk : Value} {C : Chan} {S : List Nat} (h : Ch w B bc bm n vk C) (hk : Keeps S w w') (h1 : bc ∉ S) (h2 : bm ∉ S) (h3 : ∀ b ∈ S, vk.ownBlock ≠ some b) (hkb : KB w w') : Ch w' B bc bm n vk C :=
  ⟨(hk.block bc h.cells.2.2.2.2.2.2 h1).trans h.blk, h.kept.keep hk h3 hkb, h.early.keep hk h2 hkb⟩
/-- What the state is behind the store of the longer list. -/
theorem send_fin (w w3 : World) (B bc bm n : Nat) (vk vk' : Value) (C : Chan) (l : Bytes) (h : Ch w B bc bm n vk C) (hk : Keeps (bc :: vk.ownBlock.toList) w w3) (hkb : KB w w3)
    (hb3 : w3.heap[bc]? = some (.cells #[.int .i64 ((C.sent : Int) + 1), .int .i64 C.acked, .int .i64 C.received, vk, .map (some bm)] 79 (0, 0))) (hL : KL w3 B vk' (C.kept ++ [l])) (hcb : vk.ownBlock ≠ some bc) (hcb' : vk'.ownBlock ≠ some bc)
    (_hsw : vk'.ownBlock = vk.ownBlock ∨ ∃ k, vk'.ownBlock = some k ∧ w.heap.size ≤ k) :
    Ch (w3.setCell ⟨bc, 3, none⟩ vk') B bc bm n vk' { C with sent := C.sent + 1, kept := C.kept ++ [l] } ∧ Keeps (bc :: vk.ownBlock.toList) w (w3.setCell ⟨bc, 3, none⟩ vk') ∧ KB w (w3.setCell ⟨bc, 3, none⟩ vk') ∧ KB w3 (w3.setCell ⟨bc, 3, none⟩ vk') := by
  have hvk : ∀ x, vk ≠ .int .u8 x := by
    obtain ⟨cs, hown, _⟩ := h.kept
    rcases hown.2 with ⟨rfl, _⟩ | ⟨g, cap, cur, rfl, _⟩ <;> simp
  have hkb2 : KB w3 (w3.setCell ⟨bc, 3, none⟩ vk') := KB.setCell w3 _ (u := vk) (by simp [World.cell?, hb3]) hvk
  have hk2 : Keeps [bc] w3 (w3.setCell ⟨bc, 3, none⟩ vk') := (Keeps.refl _ _).setCell (.inr (by simp)) _
  refine ⟨⟨?_, hL.keep hk2 (by simpa using hcb') hkb2, ?_⟩, hk.trans (hk2.mono (by simp)), hkb.trans hkb2, hkb2⟩
  · have := set5_3 hb3 vk'
    simpa using this
  · refine (h.early.keep hk ?_ hkb).keep hk2 (by simpa using h.ne) hkb2
    simp only [List.mem_cons, not_or]
    exact ⟨h.ne, by simpa using h.kept.ne_map h.early⟩
set_option maxRecDepth 100000 in
set_option maxHeartbeats 2000000 in
theorem send_c (w : World) (B bc bm n : Nat) (vk v0 : Value) (C : Chan) (l : Bytes) (h : Ch w B bc bm n vk C) (hp : SlB w v0 l) (hl : l.length ≤ 140737488355000) (hs : C.sent < 1099511627776) (hk : C.kept.length < 1099511627776) (hB : B ≤ w.heap.size) (hcb : vk.ownBlock ≠ some bc) :
    Calls Try.prog 12 #[.pointer (some ⟨bc, 0, none⟩), v0] w fun e w' => ∃ vk' vd, e = .returned (.tuple #[.int .i64 (C.sent + 1 : Nat), vd]) ∧
      Ch w' B bc bm n vk' { C with sent := C.sent + 1, kept := C.kept ++ [l] } ∧ SlB w' vd (dataB (C.sent + 1) l) ∧ Keeps (bc :: vk.ownBlock.toList) w w' ∧ KB w w' ∧ vk'.ownBlock ≠ some bc ∧
      (vk'.ownBlock = vk.ownBlock ∨ ∃ k, vk'.ownBlock = some k ∧ w.heap.size ≤ k) := by
  obtain ⟨c0, c1, c2, c3, c4, cf, hlt⟩ := h.cells
  have f0 := cf 0
  obtain ⟨a0, cp0, rfl⟩ := hp.form
  obtain ⟨i0, hi, hz0, hz1, hz2⟩ := info_parts infoL
  replace h := Lib.hid h
  replace hp := Lib.hid hp
  clear cf
  go_enter Try.func12, Try.ntmps12
  go_wp2
  generalize hW1 : w.setCell ⟨bc, 0, none⟩ (.int .i64 ((C.sent : Int) + 1)) = w1 at *
  have hb1 : w1.heap[bc]? = some (.cells #[.int .i64 ((C.sent : Int) + 1), .int .i64 C.acked, .int .i64 C.received, vk, .map (some bm)] 79 (0, 0)) := by rw [← hW1]; exact set5_0 h.out.blk _
  have hk1 : Keeps [bc] w w1 := by rw [← hW1]; exact (Keeps.refl _ w).setCell (.inr (by simp)) _
  have q0 : w1.cell? ⟨bc, 0, none⟩ = some (.int .i64 ((C.sent : Int) + 1)) := by simp [World.cell?, hb1]
  have q3 : w1.cell? ⟨bc, 3, none⟩ = some vk := by simp [World.cell?, hb1]
  have lt1 : bc < w1.heap.size := (Array.getElem?_eq_some_iff.1 hb1).1
  have hkl : ∀ w2, Keeps [] w1.drew w2 → KL w2 B vk C.kept := fun w2 hk2 => (h.out.kept.keep hk1 (by simpa using hcb) (hk1.kb (by intro b hb; simp at hb; subst hb; exact h.out.nobyte))).keep ((Keeps.refl [] w1).drew.trans hk2) (by simp) ((Keeps.refl [] w1).drew.trans hk2).kb0
  replace hkl := Lib.hid hkl
  have hsz1 := hk1.size
  clear hW1 c0 c1 c2 c3 c4 f0
  replace hb1 := Lib.hid hb1
  replace hk1 := Lib.hid hk1
  refine Free.wp_region_chain (fun i => i == 6 || i == 7 || i == 8 || i == 11) (fun i => true) (fun j b => j = 8 ∧ vk.ownBlock = some b ∨ j = 11 ∧ b = bc) (by kernel_rfl) (by kernel_rfl) (by kernel_rfl) ?_
  (repeat (apply Free.cw_pure rfl rfl; (intro w'; go_simp <;> exact rfl); go_frame))
  apply Free.cw_steady rfl rfl rfl
  · intro w' hS
    have q3' := Free.sx_cell hS (v := vk) (b := bc) (off := 3) q3 (fun j hp hT => by
      rcases hT with ⟨rfl, hT⟩ | ⟨rfl, _⟩
      · exact hcb hT
      · exact absurd hp (by decide +kernel))
    go_simp <;> exact rfl
  go_frame
  (repeat (apply Free.cw_pure rfl rfl; (intro w'; go_simp <;> exact rfl); go_frame))
  refine Free.cw_loud rfl rfl (fun K hK => ?_)
  go_wp2_with fail
  refine (clone_c _ (.inl rfl) _ _ l ((hp.out.kb (hk1.out.kb (by intro b hb; simp at hb; subst hb; exact h.out.nobyte))).kb (KB.drew _)) (by omega)).mono ?_
  rintro e w2 ⟨v2, rfl, hB2, hk2⟩
  refine hK _ _ rfl (Free.KeepsP.of hk2 (by simp)) ?_
  clear hK K
  obtain ⟨a2, cp2, rfl⟩ := hB2.form
  replace hB2 := Lib.hid hB2
  replace hk2 := Lib.hid hk2
  refine Free.cw_loud rfl rfl (fun K hK => ?_)
  go_wp2
  refine hK _ _ rfl (Free.KeepsP.alloc _ _ _) ?_
  clear hK K
  refine Free.cw_loud rfl rfl (fun K hK => ?_)
  refine wp_pushL w2 B vk _ C.kept l _ _ rfl rfl rfl (hkl.out w2 hk2.out) hB2.out.slB hk (by have := hk2.out.size; simp at this; omega) (fun v3 w3 hL3 hG30 hkb3 => ?_)
  have hG3 := hG30.alloc_left
  have hb3 : w3.heap[bc]? = some (.cells #[.int .i64 ((C.sent : Int) + 1), .int .i64 C.acked, .int .i64 C.received, vk, .map (some bm)] 79 (0, 0)) :=
    (hG3.keepsO.block bc (by have := hk2.out.size; simp at this; omega) (by simpa using hcb)).trans ((hk2.out.block bc lt1 (by simp)).trans hb1.out)
  obtain ⟨a3, cp3, rfl⟩ : ∃ a c, v3 = .slice a (C.kept.length + 1) c := by simpa using hL3.form
  refine hK _ _ rfl ?_ ?_
  · exact Free.KeepsP.of hG30.keepsO (fun b hb => .inl ⟨rfl, by simpa using hb⟩)
  have r3 : w3.cell? ⟨bc, 3, none⟩ = some vk := by simp [World.cell?, hb3]
  have fr3 : w3.frozen? ⟨bc, 3, none⟩ = false := by simp [World.frozen?, hb3]
  have hcb3 : (Value.slice a3 (C.kept.length + 1) cp3).ownBlock ≠ some bc := by
    rcases hG3.own with e | ⟨k, e, hk⟩
    · rw [e]; exact hcb
    · rw [e]; intro e2; cases e2; have := hk2.out.size; simp at this; omega
  go_frame
  clear hK K
  generalize hvk' : Value.slice a3 (C.kept.length + 1) cp3 = vk' at *
  replace hb3 := Lib.hid hb3
  replace hL3 := Lib.hid hL3
  replace hG3 := Lib.hid hG3
  replace hkb3 := Lib.hid hkb3
  (repeat (apply Free.cw_pure rfl rfl; (intro w'; go_simp <;> exact rfl); go_frame))
  refine Free.cw_loud rfl rfl (fun K hK => ?_)
  subst hvk'
  go_wp2
  refine hK _ _ rfl (Free.KeepsP.setCell _ (.inr ⟨trivial, rfl⟩) _) ?_
  clear hK K
  refine Free.cw_nil ?_
  have hk3 : Keeps (bc :: vk.ownBlock.toList) w w3 := ((hk1.out.mono (by simp)).trans (((Keeps.refl [] w1).drew.trans hk2.out).of_nil)).trans (hG3.out.keepsO.mono (fun b hb => List.mem_cons_of_mem _ hb))
  have hkbw : KB w w3 := ((hk1.out.kb (by intro b hb; simp at hb; subst hb; exact h.out.nobyte)).trans (((Keeps.refl [] w1).drew.trans hk2.out).kb0)).trans hkb3.out
  have hfin := send_fin w w3 B bc bm n vk (.slice a3 (C.kept.length + 1) cp3) C l h.out hk3 hkbw hb3.out hL3.out hcb hcb3 (by rcases hG3.out.own with e | ⟨k, e, hk⟩; exact .inl e; exact .inr ⟨k, e, by have := hk2.out.size; simp at this; omega⟩)
  have hpf := (hp.out.kb hkbw).kb hfin.2.2.2
  have hsw : Hid ((Value.slice a3 (C.kept.length + 1) cp3).ownBlock = vk.ownBlock ∨ ∃ k, (Value.slice a3 (C.kept.length + 1) cp3).ownBlock = some k ∧ w.heap.size ≤ k) := (by rcases hG3.out.own with e | ⟨k, e, hk⟩; exact .inl e; exact .inr ⟨k, e, by have := hk2.out.size; simp at this; omega⟩)
  clear hb3 hL3 hG3 hkb3 hG30 hk3 hkbw r3 fr3 hkl hk1 hk2 hb1 hB2 q0 q3
  generalize (w3.setCell ⟨bc, 3, none⟩ (.slice a3 (C.kept.length + 1) cp3)) = W at *
  obtain ⟨hCh, hkW, hkbW, _⟩ := hfin
  obtain ⟨c0, c1, c2, c3, c4, cf, hlt4⟩ := hCh.cells
  have c0' : W.cell? ⟨bc, 0, none⟩ = some (.int .i64 ((C.sent : Int) + 1)) := c0
  clear c0 c1 c2 c3 c4 cf
  replace hCh := Lib.hid hCh
  replace hkW := Lib.hid hkW
  replace hkbW := Lib.hid hkbW
  replace hpf := Lib.hid hpf
  go_wp2
  refine Free.wp_region_chain (fun i => i == 9) (fun i => true) (fun _ _ => False) (by kernel_rfl) (by kernel_rfl) (by kernel_rfl) ?_
  (repeat (apply Free.cw_pure rfl rfl; (intro w'; go_simp <;> exact rfl); go_frame))
  apply Free.cw_steady rfl rfl rfl
  · intro w' hS
    have q := Free.sx_cell hS (v := .int .i64 ((C.sent : Int) + 1)) (b := bc) (off := 0) c0' (fun j hp hT => hT)
    go_simp <;> exact rfl
  go_frame
  (repeat (apply Free.cw_pure rfl rfl; (intro w'; go_simp <;> exact rfl); go_frame))
  apply Free.cw_steady rfl rfl rfl
  · intro w' hS
    have q := Free.sx_cell hS (v := .int .i64 ((C.sent : Int) + 1)) (b := bc) (off := 0) c0' (fun j hp hT => hT)
    go_simp <;> exact rfl
  go_frame
  (repeat (apply Free.cw_pure rfl rfl; (intro w'; go_simp <;> exact rfl); go_frame))
  refine Free.cw_loud rfl rfl (fun K hK => ?_)
  go_wp2_with fail
  refine (data_c _ _ l (C.sent + 1) (hpf.out.kb (KB.drew _)) (by omega) (by omega)).mono ?_
  rintro e w5 ⟨v5, rfl, hB5, hk5⟩
  generalize hDD : dataB (C.sent + 1) l = DD at hB5
  replace hDD := Lib.hid hDD
  refine hK _ _ rfl (Free.KeepsP.of hk5 (by simp)) ?_
  clear hK K
  obtain ⟨a5, cp5, rfl⟩ := hB5.form
  replace hB5 := Lib.hid hB5
  replace hk5 := Lib.hid hk5
  (repeat (apply Free.cw_pure rfl rfl; (intro w'; go_simp <;> exact rfl); go_frame))
  refine Free.cw_nil ?_
  go_wp2
  go_ret2
  have hk6 : Keeps [] W w5 := (Keeps.refl [] W).drew.trans hk5.out
  exact ⟨_, _, rfl, hCh.out.keeps hk6, (by rw [hDD.out]; exact hB5.out.slB), hkW.out.trans hk6.of_nil, hkbW.out.trans hk6.kb0, hcb3, hsw.out⟩
end Go.Proofs.Ytilmcdieihmiaaa

namespace Go.Proofs.Ytilmcdieihmiaaa
open Go.RowKit

theorem lawI : Maps.Keyed Try.prog 3 := Maps.int_keyed Try.underlying3
theorem zeroL (w : World) : (zeroValue 23).run Try.prog w = .ok (.slice none 0 0) w := by kernel_rfl
/-- A look-up. -/
theorem ME.look {w : World} {bm n : Nat} {early : Int → Option Bytes} (h : ME w bm n early) (s : Int) (hs : (Lit.int .i64 s).wf = true) :
    (early s = none → ∀ nq, (Instr.lookup 77 (.map (some bm)) (.int .i64 s) true).run Try.prog (w.drewN nq) = .ok (.tuple #[.slice none 0 0, .bool false]) (w.drewN nq)) ∧
    ∀ l, early s = some l → ∃ v, (∀ nq, (Instr.lookup 77 (.map (some bm)) (.int .i64 s) true).run Try.prog (w.drewN nq) = .ok (.tuple #[v, .bool true]) (w.drewN nq)) ∧ SlB w v l := by
  obtain ⟨D, hown, hD⟩ := h
  have key : ∀ nq, ∃ v ps, (Instr.lookup 77 (.map (some bm)) (.int .i64 s) true).run Try.prog (w.drewN nq) = .ok (.tuple #[v, .bool (Maps.has D (.int .i64 s))]) (w.drewN nq) ∧ rawR v = some (D.atKey (.int .i64 s) (.held (.slice none 0 0)), ps) := fun nq =>
    World.ownsMap.look_ok (w := w.drewN nq) hown lawI Try.underlying77 (zeroL _) (zd := .held (.slice none 0 0)) (zp := []) rfl (Maps.keyOf_int_mk Try.underlying3 hs)
  refine ⟨fun he nq => ?_, fun l he => ?_⟩
  · obtain ⟨v, ps, hrun, hv⟩ := key nq
    simp only [rawR, Option.some.injEq, Prod.mk.injEq] at hv
    have h1 := (hD s hs).1 he
    rw [h1] at hrun
    have h2 := Maps.atKey_of_not_has h1 (.held (Value.slice none 0 0))
    rw [h2] at hv
    have : v = .slice none 0 0 := by have := hv.1; cases this; rfl
    rw [this] at hrun; exact hrun
  · obtain ⟨h1, v', h2, h3⟩ := (hD s hs).2 l he
    refine ⟨v', fun nq => ?_, h3⟩
    obtain ⟨v, ps, hrun, hv⟩ := key nq
    simp only [rawR, Option.some.injEq, Prod.mk.injEq] at hv
    rw [h1] at hrun
    rw [h2] at hv
    have : v = v' := by have := hv.1; cases this; rfl
    rw [this] at hrun
    exact hrun
/-- A payload is taken out. -/
theorem ME.drop {w : World} {bm n : Nat} {early : Int → Option Bytes} (h : ME w bm n early) (s : Int) (hs : (Lit.int .i64 s).wf = true) (ty : TypeId) :
    ∃ w', (Builtin.delete_ #[77, 3] ty #[.map (some bm), .int .i64 s]).run Try.prog w = .ok (.tuple #[]) w' ∧ ME w' bm n (fun k => if k = s then none else early k) ∧ Keeps [bm] w w' ∧ KB w w' := by
  obtain ⟨D, hown, hD⟩ := h
  obtain ⟨w', hrun, hown', ht⟩ := hown.drop lawI Try.underlying77 (Maps.keyOf_int_mk Try.underlying3 hs) ty
  have hk := Keeps.of_grown ht.grown
  have hkb : KB w w' := hk.kb (by intro b hb o x; simp at hb; subst hb; rw [owns_no_cells hown]; simp)
  refine ⟨w', hrun, ⟨_, hown', fun k hkw => ?_⟩, hk, hkb⟩
  by_cases e : k = s
  · subst e
    simp only [if_true]
    exact ⟨fun _ => Maps.has_del_same .., by simp⟩
  · simp only [if_neg e]
    have hne : (Lit.int .i64 k) ≠ (Lit.int .i64 s) := by simpa using e
    rw [Maps.has_del_other hne]
    refine ⟨(hD k hkw).1, fun l hl => ?_⟩
    obtain ⟨h1, v, h2, h3⟩ := (hD k hkw).2 l hl
    exact ⟨h1, v, fun z => by rw [Maps.atKey_del_other hne]; exact h2 z, h3.kb hkb⟩
/-- A payload is put in. -/
theorem ME.put {w : World} {bm n : Nat} {early : Int → Option Bytes} (h : ME w bm n early) (s : Int) (hs : (Lit.int .i64 s).wf = true) (hn : n < maxLen) (v : Value) (l : Bytes) (hv : SlB w v l) :
    ∃ w', (Instr.mapUpdate 77 (.map (some bm)) (.int .i64 s) v).run Try.prog w = .ok () w' ∧ ME w' bm (n + 1) (fun k => if k = s then some l else early k) ∧ Keeps [bm] w w' ∧ KB w w' := by
  obtain ⟨D, hown, hD⟩ := h
  obtain ⟨w', hrun, hown', ht⟩ := hown.store lawI Try.underlying77 hn (Maps.keyOf_int_mk Try.underlying3 hs) (d := .held v) (ps := []) rfl
  have hk := Keeps.of_grown ht.grown
  have hkb : KB w w' := hk.kb (by intro b hb o x; simp at hb; subst hb; rw [owns_no_cells hown]; simp)
  refine ⟨w', hrun, ⟨_, hown', fun k hkw => ?_⟩, hk, hkb⟩
  have hlit : WideAt.IsKeyLit (Lit.int .i64 s) := by trivial
  by_cases e : k = s
  · subst e
    simp only [if_true]
    refine ⟨by simp, fun l' hl' => ?_⟩
    cases hl'
    exact ⟨Maps.has_put_same hown.isMap hlit _, v, fun z => Maps.atKey_put_same hown.isMap hlit _ z, hv.kb hkb⟩
  · simp only [if_neg e]
    have hne : (Lit.int .i64 k) ≠ (Lit.int .i64 s) := by simpa using e
    rw [Maps.has_put_other hne]
    refine ⟨(hD k hkw).1, fun l' hl' => ?_⟩
    obtain ⟨h1, v', h2, h3⟩ := (hD k hkw).2 l' hl'
    exact ⟨h1, v', fun z => by rw [Maps.atKey_put_other hne]; exact h2 z, h3.kb hkb⟩

/-- The end behind the taking of a payload. -/
def Chan.take (C : Chan) : Chan := { C with received := C.received + 1, early := fun k => if k = (C.received : Int) + 1 then none else C.early k }
theorem set5_2 {w : World} {b : Nat} {x0 x1 x2 x3 x4 : Value} {t : TypeId} (h : w.heap[b]? = some (.cells #[x0, x1, x2, x3, x4] t (0, 0))) (u : Value) : (w.setCell ⟨b, 2, none⟩ u).heap[b]? = some (.cells #[x0, x1, u, x3, x4] t (0, 0)) := by
  simp [World.setCell, Array.getElem?_modify, h]
theorem KB.int (w : World) {b o : Nat} {k : Int} (v : Value) (h : w.cell? ⟨b, o, none⟩ = some (.int .i64 k)) : KB w (w.setCell ⟨b, o, none⟩ v) := KB.setCell w v h (by simp)
theorem Ch.recv {w : World} {B bc bm n : Nat} {vk : Value} {C : Chan} (h : Ch w B bc bm n vk C) (hcb : vk.ownBlock ≠ some bc) (r : Nat) :
    Ch (w.setCell ⟨bc, 2, none⟩ (.int .i64 r)) B bc bm n vk { C with received := r } ∧ KB w (w.setCell ⟨bc, 2, none⟩ (.int .i64 r)) := by
  have hkb : KB w (w.setCell ⟨bc, 2, none⟩ (.int .i64 r)) := KB.int w _ h.cells.2.2.1
  have hk : Keeps [bc] w (w.setCell ⟨bc, 2, none⟩ (.int .i64 r)) := (Keeps.refl _ _).setCell (.inr (by simp)) _
  exact ⟨⟨set5_2 h.blk _, h.kept.keep hk (by simpa using hcb) hkb, h.early.keep hk (by simpa using h.ne) hkb⟩, hkb⟩

set_option maxRecDepth 100000 in
set_option maxHeartbeats 2000000 in
theorem next_no (w : World) (B bc bm n bp : Nat) (vk : Value) (C : Chan) (h : Ch w B bc bm n vk C) (hp : w.cell? ⟨bp, 0, none⟩ = some (.pointer (some ⟨bc, 0, none⟩))) (hr : C.received < 1099511627776) (he : C.early ((C.received : Int) + 1) = none) :
    Calls Try.prog 67 #[.pointer (some ⟨bp, 0, none⟩)] w fun e w' => e = .returned (.tuple #[.slice none 0 0, .bool false]) ∧ Keeps [] w w' := by
  obtain ⟨c0, c1, c2, c3, c4, cf, hlt⟩ := h.cells
  have hlk := (h.early.look ((C.received : Int) + 1) (WalkArith.wf_i64 (by omega))).1 he
  have hw1 : IntKind.i64.wrap ((C.received : Int) + 1) = (C.received : Int) + 1 := IntWalk.i64_in _ (by omega)
  clear h he c0 c1 c3 cf
  go_enter Try.func67, Try.ntmps67
  go_wp2
  (refine wp_region_quiet_lit (by kernel_rfl) (by kernel_rfl) ?_; (repeat (first | go_big_quiet_step (fail) | quiet_step (fail))); with_reducible refine wpQuiet_nil ?_; intro _ hw'; obtain ⟨nq, hw''⟩ := hw'; subst hw'')
  go_wp2
  go_ret2
  exact ⟨rfl, (Keeps.refl [] w).drewN _⟩

theorem next_fin {W w5 : World} {B bc bm n : Nat} {vk : Value} {C : Chan} (h : Ch W B bc bm n vk { C with received := C.received + 1 }) (hk : Keeps [bm] W w5) (hkb : KB W w5)
    (hM : ME w5 bm n (fun k => if k = (C.received : Int) + 1 then none else C.early k)) : Ch w5 B bc bm n vk C.take :=
  ⟨(hk.block bc h.cells.2.2.2.2.2.2 (by simpa using fun e => h.ne e.symm)).trans h.blk, h.kept.keep hk (by simpa using h.kept.ne_map h.early) hkb, hM⟩
set_option maxRecDepth 100000 in
set_option maxHeartbeats 2000000 in
theorem next_yes (w : World) (B bc bm n bp : Nat) (vk : Value) (C : Chan) (l : Bytes) (h : Ch w B bc bm n vk C) (hcb : vk.ownBlock ≠ some bc) (hp : w.cell? ⟨bp, 0, none⟩ = some (.pointer (some ⟨bc, 0, none⟩))) (hr : C.received < 1099511627776) (he : C.early ((C.received : Int) + 1) = some l) :
    Calls Try.prog 67 #[.pointer (some ⟨bp, 0, none⟩)] w fun e w' => ∃ v, e = .returned (.tuple #[v, .bool true]) ∧ SlB w' v l ∧ Ch w' B bc bm n vk C.take ∧ Keeps [bc, bm] w w' ∧ KB w w' := by
  obtain ⟨c0, c1, c2, c3, c4, cf, hlt⟩ := h.cells
  have f2 := cf 2
  obtain ⟨v, hlk, hv⟩ := (h.early.look ((C.received : Int) + 1) (WalkArith.wf_i64 (by omega))).2 l he
  obtain ⟨av, cv, rfl⟩ := hv.form
  have hw1 : IntKind.i64.wrap ((C.received : Int) + 1) = (C.received : Int) + 1 := IntWalk.i64_in _ (by omega)
  replace h := Lib.hid h
  replace hv := Lib.hid hv
  clear he c0 c1 c3 cf
  go_enter Try.func67, Try.ntmps67
  go_wp2
  (refine wp_region_quiet_lit (by kernel_rfl) (by kernel_rfl) ?_; (repeat (first | go_big_quiet_step (fail) | quiet_step (fail))); with_reducible refine wpQuiet_nil ?_; intro _ hw'; obtain ⟨nq, hw''⟩ := hw'; subst hw'')
  go_wp2
  have hC1 : Ch (w.drewN nq) B bc bm n vk C := h.out.keeps ((Keeps.refl [] w).drewN nq)
  have hC2 := hC1.recv hcb (C.received + 1)
  have hk2 : Keeps [bc] w ((w.drewN nq).setCell ⟨bc, 2, none⟩ (.int .i64 ((C.received + 1 : Nat) : Int))) := ((Keeps.refl [bc] w).drewN nq).setCell (.inr (by simp)) _
  have hkb2 : KB w ((w.drewN nq).setCell ⟨bc, 2, none⟩ (.int .i64 ((C.received + 1 : Nat) : Int))) := ((Keeps.refl [] w).drewN nq).kb0.trans hC2.2
  rw [show ((C.received + 1 : Nat) : Int) = (C.received : Int) + 1 by omega] at hk2 hkb2 hC2
  obtain ⟨hC2, _⟩ := hC2
  have hpW : ((w.drewN nq).setCell ⟨bc, 2, none⟩ (.int .i64 ((C.received : Int) + 1))).cell? ⟨bp, 0, none⟩ = some (.pointer (some ⟨bc, 0, none⟩)) := by
    rw [World.cell?_setCell_other]
    · exact hp
    · intro e; cases e
  have hv2 := hv.out.kb hkb2
  generalize (w.drewN nq).setCell ⟨bc, 2, none⟩ (.int .i64 ((C.received : Int) + 1)) = W at *
  obtain ⟨d0, d1, d2, d3, d4, df, dlt⟩ := hC2.cells
  have d2' : W.cell? ⟨bc, 2, none⟩ = some (.int .i64 ((C.received : Int) + 1)) := by simpa using d2
  clear d0 d1 d2 d3 df hlk hC1
  have hn2 : ¬ bc = bm := fun e => hC2.ne e.symm
  have hn1 : ¬ bp = bm := fun e => by have := hC2.early.nocell 0; rw [← e, hpW] at this; cases this
  replace hC2 := Lib.hid hC2
  replace hk2 := Lib.hid hk2
  replace hkb2 := Lib.hid hkb2
  replace hv2 := Lib.hid hv2
  refine Free.wp_region_chain (fun i => i == 8) (fun i => true) (fun j b => b = bm) (by kernel_rfl) (by kernel_rfl) (by kernel_rfl) ?_
  (repeat (first | (apply Free.cw_pure rfl rfl; (intro w'; go_simp <;> exact rfl); go_frame) | (apply Free.cw_steady rfl rfl rfl; (intro w' hS; have q0 := Free.sx_cell hS hpW (fun j _ e => hn1 e); have q1 := Free.sx_cell hS d2' (fun j _ e => hn2 e); have q2 := Free.sx_cell hS d4 (fun j _ e => hn2 e); go_simp <;> exact rfl); go_frame) | (refine Free.cw_skip rfl ?_; go_frame)))
  refine Free.cw_loud rfl rfl (fun K hK => ?_)
  obtain ⟨w5, hdel, hM5, hk5, hkb5⟩ := ME.drop (w := W.drew) (hC2.out.keeps ((Keeps.refl [] W).drew)).early ((C.received : Int) + 1) (WalkArith.wf_i64 (by omega)) 0
  have hC5 : Ch w5 B bc bm n vk C.take := next_fin hC2.out (((Keeps.refl [bm] W).drew).trans hk5) hkb5 hM5
  replace hM5 := Lib.hid hM5
  go_wp2
  refine hK _ _ rfl (Free.KeepsP.of hk5 (by simp)) ?_
  clear hK K hdel
  refine Free.cw_nil ?_
  have hkf : Keeps [bc, bm] w w5 := (hk2.out.mono (by simp)).trans ((((Keeps.refl [bm] W).drew).trans hk5).mono (by simp))
  have hkbf : KB w w5 := hkb2.out.trans hkb5
  have hvf := hv2.out.kb hkb5
  clear hk5 hkb5
  replace hC5 := Lib.hid hC5
  replace hkf := Lib.hid hkf
  replace hkbf := Lib.hid hkbf
  replace hvf := Lib.hid hvf
  go_wp2
  go_ret2
  exact ⟨_, rfl, hvf.out, hC5.out, hkf.out, hkbf.out⟩

/-- What the closure leaves, whether there was a payload or not. -/
def NX (w' : World) (B bc bm n : Nat) (vk : Value) (C : Chan) (v : Value) : Bool → Prop
  | true => ∃ l, C.early ((C.received : Int) + 1) = some l ∧ SlB w' v l ∧ Ch w' B bc bm n vk C.take
  | false => C.early ((C.received : Int) + 1) = none ∧ Ch w' B bc bm n vk C
theorem next_c (w : World) (B bc bm n bp : Nat) (vk : Value) (C : Chan) (h : Ch w B bc bm n vk C) (hcb : vk.ownBlock ≠ some bc) (hp : w.cell? ⟨bp, 0, none⟩ = some (.pointer (some ⟨bc, 0, none⟩))) (hr : C.received < 1099511627776) :
    Calls Try.prog 67 #[.pointer (some ⟨bp, 0, none⟩)] w fun e w' => ∃ a m c ok, e = .returned (.tuple #[.slice a m c, .bool ok]) ∧ NX w' B bc bm n vk C (.slice a m c) ok ∧ Keeps [bc, bm] w w' ∧ KB w w' := by
  cases he : C.early ((C.received : Int) + 1) with
  | none =>
    refine (next_no w B bc bm n bp vk C h hp hr he).mono ?_
    rintro e w' ⟨rfl, hk⟩
    exact ⟨none, 0, 0, false, rfl, ⟨he, h.keeps hk⟩, hk.of_nil, hk.kb0⟩
  | some l =>
    refine (next_yes w B bc bm n bp vk C l h hcb hp hr he).mono ?_
    rintro e w' ⟨v, rfl, hv, hC, hk, hkb⟩
    obtain ⟨a, c, rfl⟩ := hv.form
    exact ⟨a, l.length, c, true, rfl, ⟨l, he, hv, hC⟩, hk, hkb⟩
end Go.Proofs.Ytilmcdieihmiaaa
