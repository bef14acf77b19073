/- The contracts of the datagrams' makers. -/
import Derived.Test.YtilmcdieihmiaaaRefU
namespace Go.Proofs.Ytilmcdieihmiaaa
open Go.RowKit

set_option maxRecDepth 100000 in
set_option maxHeartbeats 2000000 in
theorem data_c (w : World) (v0 : Value) (l : List UInt8) (n : Nat) (h : SlB w v0 l) (hn : n < 9223372036854775808) (hl : l.length ≤ 140737488355000) :
    Calls Try.prog 38 #[.int .i64 n, v0] w fun e w' => ∃ v', e = .returned v' ∧ Buf w' w.heap.size v' (dataB n l) ∧ Keeps [] w w' := by
  obtain ⟨a0, c0, rfl⟩ := h.form
  replace h := Lib.hid h
  go_enter Try.func38, Try.ntmps38
  go_wp2_with fail
  refine (appU_c _ w.heap.size _ [1] n (Buf.one w 1 rfl) (by omega) (by simp) (by simp)).mono ?_
  rintro e w1 ⟨v1, rfl, hB1, hG1⟩
  have hk1 : Keeps [] w w1 := hG1.keeps ((Keeps.refl [] w).alloc _) (by simp [Value.ownBlock])
  have hlen := encU_len (n := n) (by omega)
  obtain ⟨a1, c1, rfl⟩ := hB1.form
  have hsz := hk1.size
  replace hB1 := Lib.hid hB1
  replace hk1 := Lib.hid hk1
  clear hG1
  go_wp2_with (at_builtin; (refine wpl_appB _ w.heap.size _ _ rfl _ _ rfl rfl _ l rfl hB1.out (h.out.keeps hk1.out) (by simp; omega) (by omega) ?_; intro v2 w2 hB2 hG2))
  go_ret
  exact ⟨_, rfl, hB2, hG2.keeps hk1.out (fun b hb => ownBlock_ge hB1.out b hb)⟩

set_option maxRecDepth 100000 in
set_option maxHeartbeats 2000000 in
theorem ack_c (w : World) (bc : Nat) (n : Nat) (h : w.cell? ⟨bc, 2, none⟩ = some (.int .i64 n)) (hn : n < 9223372036854775808) :
    Calls Try.prog 47 #[.pointer (some ⟨bc, 0, none⟩)] w fun e w' => ∃ v', e = .returned v' ∧ Buf w' w.heap.size v' (ackB n) ∧ Keeps [] w w' := by
  have hlt := lt_of_cell h
  go_enter Try.func47, Try.ntmps47
  go_wp2_with fail
  refine (appU_c _ w.heap.size _ [2] n (Buf.one w 2 rfl) (by omega) (by simp) (by simp)).mono ?_
  rintro e w1 ⟨v1, rfl, hB1, hG1⟩
  have hk1 : Keeps [] w w1 := hG1.keeps ((Keeps.refl [] w).alloc _) (by simp [Value.ownBlock])
  replace hB1 := Lib.hid hB1
  replace hk1 := Lib.hid hk1
  clear hG1
  go_wp2
  go_ret
  exact ⟨_, rfl, hB1.out, hk1.out⟩

set_option maxRecDepth 100000 in
set_option maxHeartbeats 2000000 in
theorem dataR_c (w : World) (v0 : Value) (l : List UInt8) (n : Nat) (h : SlB w v0 l) (hn : n < 9223372036854775808) (hl : l.length ≤ 140737488355000) :
    Calls Try.prog 29 #[.int .i64 n, v0] w fun e w' => ∃ v', e = .returned v' ∧ Buf w' w.heap.size v' (dataB n l) ∧ Keeps [] w w' := by
  obtain ⟨a0, c0, rfl⟩ := h.form
  replace h := Lib.hid h
  go_enter Try.func29, Try.ntmps29
  go_wp2_with fail
  refine (refU_c _ _ [1] n (Buf.one w 1 rfl).slB (by omega) (by simp)).mono ?_
  rintro e w1 ⟨v1, rfl, hB1, hk01⟩
  have hk1 : Keeps [] w w1 := ((Keeps.refl [] w).alloc _).trans hk01
  have hlen := encU_len (n := n) (by omega)
  obtain ⟨a1, c1, rfl⟩ := hB1.form
  have hsz := hk1.size
  have hB1 := Lib.hid (hB1.mono (b' := w.heap.size) (by simp))
  replace hk1 := Lib.hid hk1
  clear hk01
  go_wp2_with (at_builtin; (refine wpl_appB _ w.heap.size _ _ rfl _ _ rfl rfl _ l rfl hB1.out (h.out.keeps hk1.out) (by simp; omega) (by omega) ?_; intro v2 w2 hB2 hG2))
  go_ret
  exact ⟨_, rfl, hB2, hG2.keeps hk1.out (fun b hb => ownBlock_ge hB1.out b hb)⟩

set_option maxRecDepth 100000 in
set_option maxHeartbeats 2000000 in
theorem ackR_c (w : World) (n : Nat) (hn : n < 9223372036854775808) :
    Calls Try.prog 30 #[.int .i64 n] w fun e w' => ∃ v', e = .returned v' ∧ Buf w' w.heap.size v' (ackB n) ∧ Keeps [] w w' := by
  go_enter Try.func30, Try.ntmps30
  go_wp2_with fail
  refine (refU_c _ _ [2] n (Buf.one w 2 rfl).slB (by omega) (by simp)).mono ?_
  rintro e w1 ⟨v1, rfl, hB1, hk01⟩
  have hk1 : Keeps [] w w1 := ((Keeps.refl [] w).alloc _).trans hk01
  have hB1 := Lib.hid (hB1.mono (b' := w.heap.size) (by simp))
  replace hk1 := Lib.hid hk1
  clear hk01
  go_wp2
  go_ret
  exact ⟨_, rfl, hB1.out, hk1.out⟩
end Go.Proofs.Ytilmcdieihmiaaa
