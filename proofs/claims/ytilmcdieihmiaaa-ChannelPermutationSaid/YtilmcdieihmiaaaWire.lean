/- The contracts of package wire's writers of bytes. -/
import Derived.Test.YtilmcdieihmiaaaRows
import Derived.Test.YtilmcdieihmiaaaRep
import Derived.Test.YtilmcdieihmiaaaBy
import Derived.Test.YtilmcdieihmiaaaFree
namespace Go.Proofs.Ytilmcdieihmiaaa
open Go.RowKit

theorem infoB : (Try.prog.info? 5).map (fun i => (i.zero, i.size, i.bytes)) = some (some (.int .u8 0), 1, 1) := by kernel_rfl
/-- The slice `v` reads as the bytes `l`, and is the call's own: it lies in a block from `base` on, at its head. -/
def Buf (w : World) (base : Nat) (v : Value) (l : List UInt8) : Prop := w.ownsRow base 5 1 v l.length (bys l)
theorem Buf.slB {w : World} {base : Nat} {v : Value} {l : List UInt8} (h : Buf w base v l) : SlB w v l := Sl.of_owns h
theorem Buf.nil (w : World) (base : Nat) : Buf w base (.slice none 0 0) [] := World.ownsRow_nil _ _ _ _
theorem Buf.form {w : World} {base : Nat} {v : Value} {l : List UInt8} (h : Buf w base v l) : ∃ a cap, v = .slice a l.length cap := h.slB.form
theorem Buf.of {w : World} {base n : Nat} {v : Value} {l m : List UInt8} (h : w.ownsRow base 5 1 v n (bys l ++ bys m)) : Buf w base v (l ++ m) := by
  have h1 := h.1
  unfold Buf
  rw [bys_append]
  have : (l ++ m).length = n := by simpa using h1
  rw [this]
  exact h
theorem byte_of {x : Int} (h0 : 0 ≤ x) : Value.int .u8 (x % 256) = .int .u8 ((UInt8.ofNat x.toNat).toNat : Int) := by
  congr 1; simp; omega

theorem wpl_pushB {ops : Array Oper} {rest : List Oper} {o : Oper} {a : Act} {Q : Exit → Act → World → Prop} (w : World) (base : Nat) (v : Value) (l : List UInt8) (x : Int) (hg : o.guard = none) (s t : Operand)
    (ho : o.op = .call { callee := .builtin .append, args := #[s, t], argTypes := #[23, 23] }) (hs : a.eval s = v) (ht : a.eval t = .slice (some ⟨w.heap.size, 0, none⟩) 1 1)
    (h : Buf w base v l) (b : UInt8) (hb : x = (b.toNat : Int)) (hl : l.length ≤ 140737488355300) (hbase : base ≤ w.heap.size)
    (K : ∀ v' w', Buf w' base v' (l ++ [b]) → Grw w w' v v' → wpList Try.prog ops Q rest (a.put o.dst v') w') : wpList Try.prog ops Q (o :: rest) a (w.alloc (.cells #[.int .u8 x] 5)) := by
  obtain ⟨i0, hi, hz0, hz1, hz2⟩ := info_parts infoB
  subst hb
  refine wpl_append_x hg s t _ ho base 5 i0 (.int .u8 0) 1 1 Try.underlying23 hi hz0 hz1 hz2 rfl (by decide) v l.length (bys l) hs (h.alloc _) _ 1 (bys [b]) ht (SlB.one w b _) (bys_one _) (by unfold maxLen; omega) (by omega) (by simp; omega) ?_
  intro v' w' h1 h2 _
  exact K v' w' (Buf.of h1) h2.alloc_left

theorem shr_byte (n k : Nat) : (n : Int) / 2 ^ (8 * k) % 256 = ((UInt8.ofNat (n / 256 ^ k % 256)).toNat : Int) := by
  have e : (256 : Nat) ^ k = 2 ^ (8 * k) := by rw [Nat.pow_mul]
  rw [e]
  simp
  
set_option maxRecDepth 100000 in
set_option maxHeartbeats 1000000 in
theorem appU_c (w : World) (base : Nat) (v0 : Value) (l : List UInt8) (n : Nat) (h : Buf w base v0 l) (hn : n < 18446744073709551616) (hl : l.length ≤ 140737488355000) (hb : base ≤ w.heap.size) :
    Calls Try.prog 53 #[v0, .int .u64 n] w fun e w' => ∃ v', e = .returned v' ∧ Buf w' base v' (l ++ encU n) ∧ Grw w w' v0 v' := by
  obtain ⟨i0, hi, hz0, hz1, hz2⟩ := info_parts infoB
  obtain ⟨K, hK⟩ : ∃ K, K = (digs n).length := ⟨_, rfl⟩
  have hK8 : K ≤ 8 := by rw [hK]; exact digs_len8 hn
  replace hK := Lib.hid hK
  go_enter Try.func53, Try.ntmps53
  go_wp2
  go_loop [5, 6] (fun k r => ∃ (j : Nat) (x : Nat), j ≤ K ∧ x < 18446744073709551616 ∧ k = .int .i64 j ∧ r = .int .u64 x ∧ Hid (j + (digs x).length = K)) (fun _ r => (intOf r).toNat)
  case atStart => exact ⟨0, n, by omega, hn, rfl, rfl, by show _ = _; rw [hK.out]; simp⟩
  case round =>
    obtain ⟨j, x, hj, hx, rfl, rfl, hjx⟩ := hrel
    by_cases hp : 0 < x
    · have hd := digs_len_pos hp
      have hj2 : Hid (j + 1 + (digs (x / 256)).length = K) := by have := hjx.out; show _ = _; omega
      have hj3 : j + 1 ≤ K := by have := hj2.out; omega
      clear hd hjx
      go_wp2
      go_round
      case rel => exact ⟨j + 1, x / 256, hj3, by omega, by go_num, by go_num, hj2⟩
      case measure => simp [intOf]; omega
    · have hx0 : x = 0 := by omega
      have hjK : j = K := by have := hjx.out; rw [hx0, digs_zero] at this; simpa using this
      subst hjK
      have h0 := h
      obtain ⟨a0, c0, rfl⟩ := h.form
      replace h0 := Lib.hid h0
      clear h hjx hx0
      go_wp2_with (at_builtin; (refine wpl_pushB _ base _ l _ rfl _ _ rfl rfl rfl h0.out (UInt8.ofNat j) (by simp; omega) (by omega) hb ?_; intro v1 w1 hB1 hG1))
      go_loopw [0, 7] (fun v i wr => ∃ (m : Nat) (L : List UInt8), m ≤ j ∧ i = .int .i64 ((j : Int) - 1 - m) ∧ Hid (L = l ++ [UInt8.ofNat j] ++ (digs n).take m) ∧ Buf wr base v L ∧ Grw w wr (.slice a0 l.length c0) v) (fun _ i _ => (intOf i + 1).toNat)
      case atStart => exact ⟨0, _, by omega, by simp, by show _ = _; simp, hB1, hG1⟩
      case round =>
        obtain ⟨m, L, hm, rfl, hL, hB, hG⟩ := hrel
        obtain ⟨am, cm, rfl⟩ := hB.form
        clear hB1 hG1
        have hsz := hG.grown.size
        have hlen : L.length ≤ 140737488355300 := by
          rw [hL.out]; simp only [List.length_append, List.length_take, List.length_cons, List.length_nil]; omega
        replace hB := Lib.hid hB
        replace hG := Lib.hid hG
        by_cases hmj : m < j
        · have hdg := digs_get j n (j - 1 - m) hK.out.symm (by omega)
          have hdg2 : Hid ((digs n)[m]? = some (UInt8.ofNat (n / 256 ^ (j - 1 - m) % 256))) := by rw [show j - 1 - (j - 1 - m) = m by omega] at hdg; exact hdg
          clear hdg
          go_wp2_with (at_builtin; (refine wpl_pushB _ base _ _ _ rfl _ _ rfl rfl rfl hB.out (UInt8.ofNat (n / 256 ^ (j - 1 - m) % 256)) (shr_byte _ _) hlen (by omega) ?_; intro v2 w2 hB2 hG2))
          go_roundw
          case rel => exact ⟨m + 1, _, by omega, by go_num, by show _ = _; rw [hL.out, List.take_add_one, hdg2.out]; simp, hB2, hG.out.trans hG2⟩
          case measure => simp [intOf]; omega
        · have hmj : m = j := by omega
          have hfin : Hid (L = l ++ encU n) := by
            show _ = _
            rw [hL.out, hmj]; unfold encU; rw [← hK.out, List.take_of_length_le (by rw [← hK.out]; omega)]; simp
          clear hL
          go_wp2
          go_ret
          exact ⟨_, rfl, by rw [← hfin.out]; exact hB.out, hG.out⟩

/-- `append(v, v2...)` of bytes, `v` the call's own. -/
theorem wpl_appB {ops : Array Oper} {rest : List Oper} {o : Oper} {a : Act} {Q : Exit → Act → World → Prop} (w : World) (base : Nat) (v : Value) (l : List UInt8) (hg : o.guard = none) (s t : Operand)
    (ho : o.op = .call { callee := .builtin .append, args := #[s, t], argTypes := #[23, 23] }) (hs : a.eval s = v) (v2 : Value) (m : List UInt8) (ht : a.eval t = v2)
    (h : Buf w base v l) (h2 : SlB w v2 m) (hl : l.length + m.length ≤ 140737488355328) (hbase : base ≤ w.heap.size)
    (K : ∀ v' w', Buf w' base v' (l ++ m) → Grw w w' v v' → wpList Try.prog ops Q rest (a.put o.dst v') w') : wpList Try.prog ops Q (o :: rest) a w := by
  obtain ⟨i0, hi, hz0, hz1, hz2⟩ := info_parts infoB
  refine wpl_append_x hg s t _ ho base 5 i0 (.int .u8 0) 1 1 Try.underlying23 hi hz0 hz1 hz2 rfl (by decide) v l.length (bys l) hs h _ m.length (bys m) ht h2 (bys_one _) (by unfold maxLen; omega) (by omega) hbase ?_
  intro v' w' h1 h2 _
  exact K v' w' (Buf.of h1) h2
theorem Buf.fresh (w : World) : Buf (w.alloc (.cells #[] 5)) w.heap.size (.slice (some ⟨w.heap.size, 0, none⟩) 0 0) [] := ownsRow_empty w _ _ _ (Nat.le_refl _)
theorem Buf.one (w : World) (b : UInt8) {x : Int} (hx : x = (b.toNat : Int)) : Buf (w.alloc (.cells #[.int .u8 x] 5)) w.heap.size (.slice (some ⟨w.heap.size, 0, none⟩) 1 1) [b] := by
  subst hx
  exact ⟨rfl, .inr ⟨_, 1, _, rfl, Nat.le_refl _, heap_alloc_new _ _, Nat.le_refl _, by simp [maxLen], rfl, rfl⟩⟩
theorem Buf.keep {w w' : World} {base : Nat} {v : Value} {l : List UInt8} (h : Buf w base v l) (hk : Keeps [] w w') : Buf w' base v l := ownsRow_block h (fun b _ hb => hk.block b hb (by simp))
theorem SlB.cap {w : World} {v : Value} {l : List UInt8} (h : SlB w v l) : l.length ≤ maxLen := by obtain ⟨_, a, c, rfl, h1, h2, _⟩ := h; omega

set_option maxRecDepth 100000 in
set_option maxHeartbeats 1000000 in
theorem clone_c (f : Nat) (hf : f = 37 ∨ f = 64) (w : World) (v0 : Value) (l : List UInt8) (h : SlB w v0 l) (hl : l.length ≤ 140737488355328) :
    Calls Try.prog f #[v0] w fun e w' => ∃ v', e = .returned v' ∧ Buf w' w.heap.size v' l ∧ Keeps [] w w' := by
  have q22 : ∀ (w : World) (a : Option Addr) (n c n' c' : Nat), (binOp .eql 23 (.slice a n c) (.slice none n' c')).run Try.prog w = .ok (.bool a.isNone) w := fun w a n c n' c' => Lib.run_eql_slice_nil w _ _ a n c n' c' Try.underlying23
  obtain ⟨a0, c0, rfl⟩ := h.form
  cases a0 with
  | none =>
    have hl0 : l = [] := by
      rcases h.cases with ⟨e, _⟩ | ⟨g, o, cap, e, _⟩
      · exact e
      · cases e
    subst hl0
    replace h := Lib.hid h
    rcases hf with rfl | rfl
    all_goals
      first | go_enter Try.func37, Try.ntmps37 | go_enter Try.func64, Try.ntmps64
      go_wp2
      go_ret
      exact ⟨_, rfl, Buf.nil _ _, Keeps.refl _ _⟩
  | some ad =>
    replace h := Lib.hid h
    rcases hf with rfl | rfl
    all_goals
      first | go_enter Try.func37, Try.ntmps37 | go_enter Try.func64, Try.ntmps64
      go_wp2_with (at_builtin; (refine wpl_appB _ w.heap.size (.slice (some ⟨w.heap.size, 0, none⟩) 0 0) [] rfl _ _ rfl rfl _ l rfl (Buf.fresh w) (h.out.keeps ((Keeps.refl [] w).alloc _)) (by simp; omega) (by simp) ?_; intro v1 w1 hB1 hG1))
      go_ret
      exact ⟨_, rfl, hB1, hG1.keeps ((Keeps.refl [] w).alloc _) (by simp [Value.ownBlock])⟩

/-- Bytes as a string. -/
def str (l : List UInt8) : ByteArray := ⟨l.toArray⟩
theorem run_str {w : World} {v : Value} {l : List UInt8} (h : SlB w v l) : (convert 23 9 v).run Try.prog w = .ok (.string (str l)) w := by
  rcases h.cases with ⟨rfl, a, c, rfl, _, _⟩ | ⟨g, o, c, rfl, _, _, _, _, hc⟩
  · cases a with
    | none => exact run_convert_bytes_nil w _ _ Try.underlying23 Try.underlying5 _ _ _ Try.underlying9
    | some a =>
      have := run_convert_bytes_arg (P := Try.prog) w 23 5 Try.underlying23 Try.underlying5 a.block a.off 0 c [] rfl (fun i hi => by omega) 9 Try.underlying9
      rw [run_convert_bytes_string w _ _ 5 _ _ _ Try.underlying23 Try.underlying5 Try.underlying9] at this ⊢
      simp [Conv.bytesToString, loadCells, loadCellsFrom] at this ⊢
      rfl
  · have := run_convert_bytes_arg (P := Try.prog) w 23 5 Try.underlying23 Try.underlying5 g o l.length c (l.map fun b => (b.toNat : Int)) (by simp) (fun i hi => by rw [hc i hi]; simp [hi]) 9 Try.underlying9
    rw [this]
    simp [strOfNums, str, Function.comp_def]
theorem str_inj {l m : List UInt8} (h : str l = str m) : l = m := by simpa [str] using h

set_option maxRecDepth 100000 in
set_option maxHeartbeats 1000000 in
theorem same_c (w : World) (va vb : Value) (l m : List UInt8) (ha : SlB w va l) (hb : SlB w vb m) :
    Calls Try.prog 34 #[va, vb] w fun e w' => e = .returned (.bool (decide (l = m))) ∧ w = w' := by
  have h1 := run_str ha
  have h2 := run_str hb
  obtain ⟨a0, c0, rfl⟩ := ha.form
  obtain ⟨a1, c1, rfl⟩ := hb.form
  clear ha hb
  generalize hx : str l = x at *
  generalize hy : str m = y at *
  replace hx := Lib.hid hx
  replace hy := Lib.hid hy
  go_enter Try.func34, Try.ntmps34
  go_wp2
  go_ret
  refine ⟨?_, rfl⟩
  show Ending.returned (Value.bool (x.toList == y.toList)) = _
  rw [← hx.out, ← hy.out]
  have : (l == m) = decide (l = m) := by rw [Bool.eq_iff_iff]; simp
  simp [str, this]
end Go.Proofs.Ytilmcdieihmiaaa
