/- Texts that the laws lean on, in the order in which they build. The specification's before, answer, Find. The specification's Find. The specification's need. The digits of a number to the base 256, and its encoding on the wire. No program. (XWire, of a program without bytes.Clone.) The contracts of package wire's writers of bytes. The contract of the reference's encoding of a number. AppendBool; what the growth of a buffer leaves, draws between. The specification's encoding of a truth value. Integers on the wire: the program's AppendInt and the specification's Int. The byte form of a trace: the buffer in its variable; the closure that appends integers. The contracts of package wire's reader of bytes. The closure that reads a number, where it fails. The closure that reads a number, where it succeeds. The contracts of package wire's reader of numbers, and the reference's. wire's reader in whatever state: Uint, Bool. wire's reader: Count with whatever bound. The specification's comparison of byte strings. The reader: Int, Count in whatever state; bytes.Equal. The byte form of a trace (plain), and what appending leaves. Trace.Encode. (Printed by mktrenc.py.) Trace.pending. Trace.Refuse. The specification's Agree and Refuse. Trace.Agree. An element of eight cells is stored into an owned list. The lists of the specification's Answer: an answer recorded, a question opened; answers and history. The history of a trace that gathers holds the recorded answers: kept by the operations. The law's operations: their cells, what they do (plain). What holds of a trace after n operations (plain). -/
import Derived.Test.YtiplgpefapeapaaKC9
import Derived.Test.YtiplgpefapeapaaRows
import Derived.Lib.Zigzag
import Derived.Laws.Bits64
import Derived.Lib.Hide
set_option linter.unusedVariables false
set_option linter.unusedSimpArgs false
namespace Go.Proofs.Ytiplgpefapeapaa
open Go.RowKit

set_option maxRecDepth 100000 in
set_option maxHeartbeats 2000000 in
theorem beforeR_c (w : World) (x y : AnV) : Calls Try.prog 50 #[aV x, aV y] w fun e w' => e = .returned (.bool (decide (qlt x.q y.q))) ∧ Keeps [] w w' := by
  obtain ⟨x0, x1, x2, x3, x4, x5, x6, x7, x8, x9⟩ := x
  obtain ⟨y0, y1, y2, y3, y4, y5, y6, y7, y8, y9⟩ := y
  simp only [aV, AnV.v]
  have hkA : Keeps [] w ((w.alloc (.cells #[.int .i64 x0, .int .i64 x1, .int .u64 x2, .int .i64 x3, .bool x4, .bool x5, .int .i64 x6, .slice x7 x8 x9] tA)).alloc (.cells #[.int .i64 y0, .int .i64 y1, .int .u64 y2, .int .i64 y3, .bool y4, .bool y5, .int .i64 y6, .slice y7 y8 y9] tA)) := ((Keeps.refl _ _).alloc _).alloc _
  obtain ⟨r, hr⟩ : ∃ r, decide (qlt (AnV.q ⟨x0, x1, x2, x3, x4, x5, x6, x7, x8, x9⟩) (AnV.q ⟨y0, y1, y2, y3, y4, y5, y6, y7, y8, y9⟩)) = r := ⟨_, rfl⟩
  rw [hr]
  replace hkA := Lib.hid hkA
  by_cases a0 : x0 = y0
  · have b0 : (x0 != y0) = false := by simpa using a0
    by_cases a1 : x1 = y1
    · have b1 : (x1 != y1) = false := by simpa using a1
      have hd : decide ((x2 : Int) < (y2 : Int)) = r := by rw [← hr]; exact decide_eq_decide.2 (by unfold qlt AnV.q; simp only; omega)
      replace hr := Lib.hid hr
      replace a0 := Lib.hid a0
      replace a1 := Lib.hid a1
      go_enter Try.func50, Try.ntmps50
      go_wp2
      go_ret
      exact ⟨by first | (rw [← hd]; rfl) | (rw [← hd]; simp), hkA.out⟩
    · have b1 : (x1 != y1) = true := by simpa using a1
      have hd : decide (x1 < y1) = r := by rw [← hr]; exact decide_eq_decide.2 (by unfold qlt AnV.q; simp only; omega)
      replace hr := Lib.hid hr
      replace a0 := Lib.hid a0
      go_enter Try.func50, Try.ntmps50
      go_wp2
      go_ret
      exact ⟨by rw [← hd]; rfl, hkA.out⟩
  · have b0 : (x0 != y0) = true := by simpa using a0
    have hd : decide (x0 < y0) = r := by rw [← hr]; exact decide_eq_decide.2 (by unfold qlt AnV.q; simp only; omega)
    replace hr := Lib.hid hr
    go_enter Try.func50, Try.ntmps50
    go_wp2
    go_ret
    exact ⟨by rw [← hd]; rfl, hkA.out⟩
set_option maxRecDepth 100000 in
set_option maxHeartbeats 8000000 in
theorem answerR_c (w : World) (x : AnV) (y : Ans) (h : InR w x y) (hl : y.ins.length ≤ 1024) :
    Calls Try.prog 49 #[aV x] w fun e w' => e = .returned (.bool (ansOk y)) ∧ Keeps [] w w' := by
  obtain ⟨_, _, ev, hl1, hl2, _⟩ := h.ins.form
  have hins := h.ins
  obtain ⟨x0, x1, x2, x3, x4, x5, x6, x7, x8, x9⟩ := x
  have q0 := h.m
  have q1 := h.ow
  have q3 := h.ep
  have q6 := h.lu
  simp only [AnV.v] at ev hins
  simp only at q0 q1 q3 q6
  simp only [Value.slice.injEq] at ev
  obtain ⟨-, ev, -⟩ := ev
  have hx8m : x8 ≤ 9223372036854775807 := by unfold maxLen at hl2; omega
  have hok : ansOk y = (mach x0 && mach x1 && decide (0 ≤ x3) && decide (0 ≤ x6) && y.ins.all insOk) := by rw [ansOk_def, q0, q1, q3, q6]
  obtain ⟨r, hr⟩ : ∃ r, ansOk y = r := ⟨_, rfl⟩
  rw [hr]
  rw [hok] at hr
  obtain ⟨n1, hn1⟩ : ∃ b, mach x0 = b := ⟨_, rfl⟩
  obtain ⟨n2, hn2⟩ : ∃ b, mach x1 = b := ⟨_, rfl⟩
  have hd1 := fun W => machR_c x0 W
  have hd2 := fun W => machR_c x1 W
  rw [hn1] at hd1 hr
  rw [hn2] at hd2 hr
  have hbA := heap_alloc_new w (.cells #[.int .i64 x0, .int .i64 x1, .int .u64 x2, .int .i64 x3, .bool x4, .bool x5, .int .i64 x6, .slice x7 x8 x9] tA)
  have hkA := (Keeps.refl [] w).alloc (.cells #[.int .i64 x0, .int .i64 x1, .int .u64 x2, .int .i64 x3, .bool x4, .bool x5, .int .i64 x6, .slice x7 x8 x9] tA)
  have hinsn := Lib.hid (hins.keeps hkA)
  have hl8 : x8 ≤ 1024 := by omega
  replace hr := Lib.hid hr
  replace hd1 := Lib.hid hd1
  replace hd2 := Lib.hid hd2
  replace ev := Lib.hid ev
  replace hbA := Lib.hid hbA
  replace hkA := Lib.hid hkA
  clear h hins q0 q1 q3 q6 hok hn1 hn2 hl hl1 hl2
  simp only [aV, AnV.v]
  go_enter Try.func49, Try.ntmps49
  go_upto_region 1 with fail
  generalize (w.alloc (.cells #[.int .i64 x0, .int .i64 x1, .int .u64 x2, .int .i64 x3, .bool x4, .bool x5, .int .i64 x6, .slice x7 x8 x9] tA)) = WA at *
  obtain ⟨XA, hXA⟩ : ∃ X, w.heap.size = X := ⟨_, rfl⟩
  rw [hXA] at hbA ⊢
  replace hXA := Lib.hid hXA
  go_wp2
  go_loopw [3] (fun i wr => ∃ q : Nat, i = .int .i64 q ∧ q ≤ x8 ∧ Hid (∀ j (hj : j < y.ins.length), j < q → insOk y.ins[j] = true) ∧ Hid (Keeps [] WA wr)) (fun i _ => x8 - (intOf i).toNat)
  case atStart => exact ⟨0, rfl, by omega, Lib.hid (fun _ _ h => by omega), Lib.hid (Keeps.refl _ _)⟩
  case round =>
    obtain ⟨q, rfl, hq, hnq, hkq⟩ := hrel
    have hbr := (hkq.out.block _ (lt_of_blk hbA.out) (by simp)).trans hbA.out
    obtain ⟨g0, g1, g2, g3, g4, g5, g6, g7, gf, gl⟩ := cl8 hbr
    have hfin := Lib.hid (hkA.out.trans hkq.out)
    by_cases hltq : q < x8
    · have hlt2q : (q : Int) < x8 := by omega
      have hql : q < y.ins.length := by rw [← ev.out]; exact hltq
      obtain ⟨gi, oi, ci, hvi, hei⟩ := (hinsn.out.keeps hkq.out).elem hql
      rw [← ev.out] at hvi
      cases hvi
      obtain ⟨⟨z0, z1, z2⟩, hz⟩ : ∃ z, y.ins[q] = z := ⟨_, rfl⟩
      rw [hz] at hei
      have t0 := hei 0 _ rfl
      have t1 := hei 1 _ rfl
      have t2 := hei 2 _ rfl
      simp only [shT, Nat.add_zero] at t0 t1 t2
      obtain ⟨n3, hn3⟩ : ∃ b, mach z0 = b := ⟨_, rfl⟩
      have hd3 := fun W => machR_c z0 W
      rw [hn3] at hd3
      have hok : insOk y.ins[q] = (n3 && decide (0 ≤ z2)) := by rw [hz, ← hn3]; rfl
      replace hd3 := Lib.hid hd3
      replace hok := Lib.hid hok
      replace hz := Lib.hid hz
      clear hei hn3
      go_wp2_with fail
      refine (hd3.out _).mono ?_
      rintro e w' ⟨rfl, hw⟩
      obtain rfl := hw
      cases n3 with
      | false =>
        have hd : false = r := by rw [← hr.out, all_no hql (by rw [hok.out]; rfl)]; simp
        replace hd := Lib.hid hd
        go_wp2
        go_ret
        exact ⟨by rw [← hd.out]; rfl, hfin.out⟩
      | true =>
      by_cases h2 : z2 < 0
      · have hd : false = r := by rw [← hr.out, all_no hql (by rw [hok.out]; simpa using h2)]; simp
        replace hd := Lib.hid hd
        go_wp2
        go_ret
        exact ⟨by rw [← hd.out]; rfl, hfin.out⟩
      have h2d : decide (z2 < 0) = false := by simpa using h2
      have hnq2 : ∀ j (hj : j < y.ins.length), j < q + 1 → insOk y.ins[j] = true := fun j hj hjq => by
        by_cases e : j = q
        · subst e; rw [hok.out]; simpa using h2
        · exact hnq.out j hj (by omega)
      replace hnq2 := Lib.hid hnq2
      go_wp2
      go_roundw
      case rel => exact ⟨q + 1, rfl, by omega, hnq2, hkq⟩
      case measure => simp [intOf]; omega
    · have hlt2q : ¬ ((q : Int) < x8) := by omega
      have hall : y.ins.all insOk = true := all_take (fun j hj => hnq.out j hj (by have := ev.out; omega))
      rw [hall, Bool.and_true] at hr
      clear hnq hall
      go_wp2_with fail
      refine (hd1.out _).mono ?_
      rintro e w' ⟨rfl, hw⟩
      obtain rfl := hw
      cases n1 with
      | false =>
        have hd : false = r := by rw [← hr.out]; simp
        replace hd := Lib.hid hd
        go_wp2
        go_ret
        exact ⟨by rw [← hd.out]; rfl, hfin.out⟩
      | true =>
      go_wp2_with fail
      refine (hd2.out _).mono ?_
      rintro e w' ⟨rfl, hw⟩
      obtain rfl := hw
      cases n2 with
      | false =>
        have hd : false = r := by rw [← hr.out]; simp
        replace hd := Lib.hid hd
        go_wp2
        go_ret
        exact ⟨by rw [← hd.out]; rfl, hfin.out⟩
      | true =>
      by_cases h3 : 0 ≤ x3
      case neg =>
        have h3d : decide (0 ≤ x3) = false := by simpa using h3
        have hd : false = r := by rw [← hr.out, h3d]; simp
        replace hd := Lib.hid hd
        go_wp2
        go_ret
        exact ⟨by rw [← hd.out]; rfl, hfin.out⟩
      case pos =>
      have h3d : decide (0 ≤ x3) = true := by simpa using h3
      by_cases h6 : 0 ≤ x6
      case neg =>
        have h6d : decide (0 ≤ x6) = false := by simpa using h6
        have hd : false = r := by rw [← hr.out, h6d]; simp
        replace hd := Lib.hid hd
        go_wp2
        go_ret
        exact ⟨by rw [← hd.out]; rfl, hfin.out⟩
      case pos =>
      have h6d : decide (0 ≤ x6) = true := by simpa using h6
      have hd : true = r := by rw [← hr.out, h3d, h6d]; simp
      have hl9 : decide ((x8 : Int) ≤ 1024) = true := by simp; omega
      replace hd := Lib.hid hd
      go_wp2
      go_ret
      exact ⟨by rw [← hd.out]; rfl, hfin.out⟩
/-- The first answer of a machine for a stub, or the zero answer. -/
def findA (Y : List Ans) (q : Qn) : Ans := (Y.find? (fun a => decide (a.q = q))).getD ⟨0, 0, 0, 0, false, false, 0, []⟩
theorem findA_at {Y : List Ans} {q : Qn} {k : Nat} (hk : k < Y.length) (hno : ∀ j (hj : j < Y.length), j < k → Y[j].q ≠ q) (hq : Y[k].q = q) : findA Y q = Y[k] ∧ hasA Y q = true := by
  have : Y.find? (fun a => decide (a.q = q)) = some Y[k] := List.find?_eq_some_iff_getElem.2 ⟨by simpa using hq, k, hk, rfl, fun j hj => by simpa using hno j (by omega) hj⟩
  exact ⟨by unfold findA; rw [this]; rfl, hasA_iff.2 ⟨_, List.getElem_mem hk, hq⟩⟩
theorem findA_no {Y : List Ans} {q : Qn} (hno : ∀ j (hj : j < Y.length), Y[j].q ≠ q) : findA Y q = ⟨0, 0, 0, 0, false, false, 0, []⟩ ∧ hasA Y q = false := by
  have : Y.find? (fun a => decide (a.q = q)) = none := List.find?_eq_none.2 (fun c hc => by
    obtain ⟨j, hj, rfl⟩ := List.mem_iff_getElem.1 hc
    simpa using hno j hj)
  refine ⟨by unfold findA; rw [this]; rfl, ?_⟩
  cases e : hasA Y q with
  | false => rfl
  | true =>
    obtain ⟨a, ha, h2⟩ := hasA_iff.1 e
    obtain ⟨j, hj, rfl⟩ := List.mem_iff_getElem.1 ha
    exact absurd h2 (hno j hj)
theorem findA_lu (Y : List Ans) (q : Qn) : (findA Y q).lu = luL Y q := by
  unfold findA luL
  cases Y.find? (fun a => decide (a.q = q)) <;> rfl
def FindAP (w : World) (Y : List Ans) (q : Qn) (e : Ending) (w' : World) : Prop := ∃ x : AnV, e = .returned (.tuple #[aV x, .bool (hasA Y q)]) ∧ InR w' x (findA Y q) ∧ Keeps [] w w'
end Go.Proofs.Ytiplgpefapeapaa

namespace Go.Proofs.Ytiplgpefapeapaa
open Go.RowKit

theorem sizeA8 : (Try.prog.info? tA).map (·.size) = some 8 := by kernel_rfl
theorem load_an8 (w : World) (g : Nat) (t : TypeId) (x0 x1 x2 x3 x4 x5 x6 x7 : Value) (f : Nat × Nat) (hg : w.heap[g]? = some (.cells #[x0, x1, x2, x3, x4, x5, x6, x7] t f)) : (loadVar tA ⟨g, 0, none⟩).run Try.prog w = .ok (.agg #[x0, x1, x2, x3, x4, x5, x6, x7]) w :=
  run_loadVar_row w g t tA #[x0, x1, x2, x3, x4, x5, x6, x7] f _ hg Try.underlying41 rfl sizeA8
theorem results_an8 {fn : Func} {p u : Tmp} (h : fn.results = #[.cell p tA, .tmp u]) (tmps : Array Value) (w : World) (g : Nat) (t : TypeId) (x0 x1 x2 x3 x4 x5 x6 x7 : Value) (f : Nat × Nat) (hp : tmps.getD p undef = .pointer (some ⟨g, 0, none⟩))
    (hg : w.heap[g]? = some (.cells #[x0, x1, x2, x3, x4, x5, x6, x7] t f)) : (results fn tmps).run Try.prog w = .ok (.tuple #[.agg #[x0, x1, x2, x3, x4, x5, x6, x7], tmps.getD u undef]) w := by
  have hp' : tmps[p]?.getD undef = .pointer (some ⟨g, 0, none⟩) := by simpa using hp
  simp [results, h, hp', asAddr, load_an8 w g t x0 x1 x2 x3 x4 x5 x6 x7 f hg]
theorem R_old {α : Type} {s : Sh α} {w : World} {v : Value} {L : List α} (h : s.R w v L) : ∀ b, v.ownBlock = some b → L ≠ [] → b < w.heap.size := by
  intro b hb hne
  obtain ⟨_, a, c, rfl, _, _, _, h5⟩ := h
  have hp := s.pos
  have : 0 < L.length := List.length_pos_iff.2 hne
  have h6 : 1 * s.sz ≤ L.length * s.sz := Nat.mul_le_mul_right _ (by omega)
  obtain ⟨g, o, rfl, hc⟩ := h5 (by rw [Sh.cs_len]; omega)
  have hl : 0 < (s.cs L).length := by rw [Sh.cs_len]; omega
  have h7 := lt_of_cell (hc 0 _ (List.getElem?_eq_getElem hl))
  cases hb' : (Value.slice (some ⟨g, o, none⟩) L.length c).ownBlock with
  | none => rw [hb'] at hb; cases hb
  | some x =>
    rw [hb'] at hb; cases hb
    simp [Value.ownBlock] at hb'
    omega
set_option maxRecDepth 100000 in
set_option maxHeartbeats 8000000 in
theorem findR_c (w : World) (x : CtV) (Y : List Ans) (h : RdA w (slv x.va) Y) (m o' : Int) (n : Nat) :
    Calls Try.prog 21 #[ctV x, .int .i64 m, .int .i64 o', .int .u64 n] w fun e w' => FindAP w Y (m, o', n) e w' := by
  obtain ⟨x0, x1, x2, x3, x4, ⟨x5, x6, x7⟩, ⟨x8, x9, x10⟩⟩ := x
  simp only [slv] at h
  obtain ⟨_, _, e1, hla, hca⟩ := h.form
  simp only [Value.slice.injEq] at e1
  obtain ⟨-, e1, -⟩ := e1
  have hx6m : x6 ≤ 9223372036854775807 := by unfold maxLen at hca; omega
  have hkA0 := (Keeps.refl [] w).alloc (.cells #[.int .i64 x0, .int .i64 x1, .int .i64 x2, .int .u64 x3, .int .i64 x4, .slice x5 x6 x7, .slice x8 x9 x10] tCt)
  have hA0 := heap_alloc_new w (.cells #[.int .i64 x0, .int .i64 x1, .int .i64 x2, .int .u64 x3, .int .i64 x4, .slice x5 x6 x7, .slice x8 x9 x10] tCt)
  have hkA := hkA0.alloc (.cells #[.int .i64 0, .int .i64 0, .int .u64 0, .int .i64 0, .bool false, .bool false, .int .i64 0, .slice none 0 0] tA)
  have hk1 := (Keeps.refl [] (w.alloc (.cells #[.int .i64 x0, .int .i64 x1, .int .i64 x2, .int .u64 x3, .int .i64 x4, .slice x5 x6 x7, .slice x8 x9 x10] tCt))).alloc (.cells #[.int .i64 0, .int .i64 0, .int .u64 0, .int .i64 0, .bool false, .bool false, .int .i64 0, .slice none 0 0] tA)
  have hA := (hk1.block _ (lt_of_blk hA0) (by simp)).trans hA0
  have hR := an2 (w.alloc (.cells #[.int .i64 x0, .int .i64 x1, .int .i64 x2, .int .u64 x3, .int .i64 x4, .slice x5 x6 x7, .slice x8 x9 x10] tCt)) (.cells #[.int .i64 0, .int .i64 0, .int .u64 0, .int .i64 0, .bool false, .bool false, .int .i64 0, .slice none 0 0] tA) (b := w.heap.size + 1) (by simp)
  have hY := Lib.hid h
  replace e1 := Lib.hid e1
  replace hA := Lib.hid hA
  replace hR := Lib.hid hR
  replace hkA := Lib.hid hkA
  clear h hk1 hA0 hkA0
  simp only [ctV, slv]
  go_enter Try.func21, Try.ntmps21
  go_upto_region 1 with fail
  generalize hW : ((w.alloc (.cells #[.int .i64 x0, .int .i64 x1, .int .i64 x2, .int .u64 x3, .int .i64 x4, .slice x5 x6 x7, .slice x8 x9 x10] tCt)).alloc (.cells #[.int .i64 0, .int .i64 0, .int .u64 0, .int .i64 0, .bool false, .bool false, .int .i64 0, .slice none 0 0] tA)) = W at *
  clear hW
  obtain ⟨B, hB⟩ : ∃ B, w.heap.size = B := ⟨_, rfl⟩
  rw [hB] at hA hR ⊢
  replace hB := Lib.hid hB
  go_wp2
  go_loopw [10] (fun i wr => ∃ k : Nat, i = .int .i64 k ∧ k ≤ x6 ∧ Hid (∀ j (hj : j < Y.length), j < k → Y[j].q ≠ (m, o', n)) ∧ Hid (Keeps [] W wr)) (fun i _ => x6 - (intOf i).toNat)
  case atStart => exact ⟨0, rfl, by omega, Lib.hid (fun _ _ h => by omega), Lib.hid (Keeps.refl _ _)⟩
  case round =>
    obtain ⟨k, rfl, hk, hno, hkw⟩ := hrel
    have hAr := (hkw.out.block _ (lt_of_blk hA.out) (by simp)).trans hA.out
    have hRr := (hkw.out.block _ (lt_of_blk hR.out) (by simp)).trans hR.out
    obtain ⟨i0, i1, i2, i3, i4, i5, i6, if', il⟩ := cl7 hAr
    obtain ⟨r0, r1, r2, r3, r4, r5, r6, r7, rf', rl⟩ := cl8 hRr
    have hkF := hkA.out.trans hkw.out
    replace hkF := Lib.hid hkF
    by_cases hlt : k < x6
    · have hlt2 : (k : Int) < x6 := by omega
      have hkl : k < Y.length := by rw [← e1.out]; exact hlt
      obtain ⟨g, o, c', x, hv, hx, he⟩ := hY.out.elem hkl
      rw [← e1.out] at hv
      cases hv
      have hold := R_old hx.ins
      have m0 := hx.m
      have m1 := hx.ow
      have m2 := hx.n
      have hxx := hx
      obtain ⟨y0, y1, y2, y3, y4, y5, y6, y7, y8, y9⟩ := x
      have e0 := hkF.out.val (he 0 _ rfl)
      have e1' := hkF.out.val (he 1 _ rfl)
      have e2 := hkF.out.val (he 2 _ rfl)
      have e3 := hkF.out.val (he 3 _ rfl)
      have e4 := hkF.out.val (he 4 _ rfl)
      have e5 := hkF.out.val (he 5 _ rfl)
      have e6 := hkF.out.val (he 6 _ rfl)
      have e7 := hkF.out.val (he 7 _ rfl)
      simp only [AnV.v, Nat.add_zero] at e0 e1' e2 e3 e4 e5 e6 e7 m0 m1 m2
      have hgl := lt_of_cell e0
      have hno2 : ¬ (y0 = m ∧ y1 = o' ∧ y2 = n) → ∀ j (hj : j < Y.length), j < k + 1 → Y[j].q ≠ (m, o', n) := fun hn j hj hjk => by
        by_cases e : j = k
        · subst e
          intro e2
          unfold Ans.q at e2
          simp only [Prod.mk.injEq] at e2
          exact hn ⟨m0.trans e2.1, m1.trans e2.2.1, m2.trans e2.2.2⟩
        · exact hno.out j hj (by omega)
      have hyes : y0 = m → y1 = o' → y2 = n → findA Y (m, o', n) = Y[k] ∧ hasA Y (m, o', n) = true := fun a0 a1 a2 => findA_at hkl hno.out (by unfold Ans.q; rw [← m0, ← m1, ← m2, a0, a1, a2])
      have hkn := Lib.hid (hkw.out.trans ((Keeps.refl [] wr).alloc (.cells #[.int .i64 y0, .int .i64 y1, .int .u64 y2, .int .i64 y3, .bool y4, .bool y5, .int .i64 y6, .slice y7 y8 y9] tA)))
      replace hno2 := Lib.hid hno2
      replace hyes := Lib.hid hyes
      replace hxx := Lib.hid hxx
      replace hold := Lib.hid hold
      clear he hx m0 m1 m2 hno
      have hbN := heap_alloc_new wr (.cells #[.int .i64 y0, .int .i64 y1, .int .u64 y2, .int .i64 y3, .bool y4, .bool y5, .int .i64 y6, .slice y7 y8 y9] tA)
      have hka := (Keeps.refl [] wr).alloc (.cells #[.int .i64 y0, .int .i64 y1, .int .u64 y2, .int .i64 y3, .bool y4, .bool y5, .int .i64 y6, .slice y7 y8 y9] tA)
      have hRn := (hka.block _ (lt_of_blk hRr) (by simp)).trans hRr
      go_upto_region 5 with fail
      generalize (wr.alloc (.cells #[.int .i64 y0, .int .i64 y1, .int .u64 y2, .int .i64 y3, .bool y4, .bool y5, .int .i64 y6, .slice y7 y8 y9] tA)) = WN at *
      obtain ⟨XN, hXN⟩ : ∃ X, wr.heap.size = X := ⟨_, rfl⟩
      rw [hXN] at hbN ⊢
      replace hXN := Lib.hid hXN
      clear i0 i1 i2 i3 i4 i5 i6 if' il r0 r1 r2 r3 r4 r5 r6 r7 rf' rl e0 e1' e2 e3 e4 e5 e6 e7 hgl
      obtain ⟨r0, r1, r2, r3, r4, r5, r6, r7, rf', rl⟩ := cl8 hRn
      obtain ⟨e0, e1', e2, e3, e4, e5, e6, e7, ef, el⟩ := cl8 hbN
      by_cases a0 : y0 = m
      · have b0 : (y0 == m) = true := by simpa using a0
        by_cases a1 : y1 = o'
        · have b1 : (y1 == o') = true := by simpa using a1
          by_cases a2 : y2 = n
          · have b2 : ((y2 : Int) == (n : Int)) = true := by simp [a2]
            obtain ⟨hf1, hf2⟩ := hyes.out a0 a1 a2
            replace hf1 := Lib.hid hf1
            replace hf2 := Lib.hid hf2
            replace a0 := Lib.hid a0
            replace a1 := Lib.hid a1
            replace a2 := Lib.hid a2
            obtain ⟨s1, s2⟩ := sc8 (.int .i64 y0) (.int .i64 y1) (.int .u64 y2) (.int .i64 y3) (.bool y4) (.bool y5) (.int .i64 y6) (.slice y7 y8 y9) hRn
            have hin := Lib.hid ((hxx.out.ins.keeps (hkF.out.trans hka)).keepE s2 (fun b hb hne e => by
              simp only [List.mem_singleton] at hb
              subst hb
              have := hold.out _ e hne
              have := hB.out
              omega))
            have hin2 : Hid (InR w ⟨y0, y1, y2, y3, y4, y5, y6, y7, y8, y9⟩ Y[k]) := hxx
            have hkz := Lib.hid ((hkF.out.trans hka).fresh s2 (fun b hb => by simp only [List.mem_singleton] at hb; subst hb; exact .inr (by have := hB.out; omega)))
            replace s1 := Lib.hid s1
            clear s2 hka hRn hbN hRr hAr
            go_wp2
            refine bodyPost_ret (results_an8 rfl _ _ _ _ _ _ _ _ _ _ _ _ _ rfl s1.out) rfl ?_
            exact ⟨⟨y0, y1, y2, y3, y4, y5, y6, y7, y8, y9⟩, by rw [hf2.out]; rfl, by rw [hf1.out]; exact ⟨hin2.out.m, hin2.out.ow, hin2.out.n, hin2.out.ep, hin2.out.kn, hin2.out.rt, hin2.out.lu, hin.out⟩, hkz.out⟩
          · have b2 : ((y2 : Int) == (n : Int)) = false := by simp; omega
            have h2 := Lib.hid (hno2.out (fun h => a2 h.2.2))
            replace a0 := Lib.hid a0
            replace a1 := Lib.hid a1
            replace a2 := Lib.hid a2
            go_wp2
            go_roundw
            case rel => exact ⟨k + 1, rfl, by omega, h2, hkn⟩
            case measure => simp [intOf]; omega
        · have b1 : (y1 == o') = false := by simpa using a1
          have h2 := Lib.hid (hno2.out (fun h => a1 h.2.1))
          replace a0 := Lib.hid a0
          replace a1 := Lib.hid a1
          go_wp2
          go_roundw
          case rel => exact ⟨k + 1, rfl, by omega, h2, hkn⟩
          case measure => simp [intOf]; omega
      · have b0 : (y0 == m) = false := by simpa using a0
        have h2 := Lib.hid (hno2.out (fun h => a0 h.1))
        replace a0 := Lib.hid a0
        go_wp2
        go_roundw
        case rel => exact ⟨k + 1, rfl, by omega, h2, hkn⟩
        case measure => simp [intOf]; omega
    · have hlt2 : ¬ ((k : Int) < x6) := by omega
      obtain ⟨hf1, hf2⟩ := findA_no (Y := Y) (q := (m, o', n)) (fun j hj => hno.out j hj (by have := e1.out; omega))
      obtain ⟨s1, s2⟩ := sc8 (.int .i64 0) (.int .i64 0) (.int .u64 0) (.int .i64 0) (.bool false) (.bool false) (.int .i64 0) (.slice none 0 0) hRr
      have hkz := Lib.hid (hkF.out.fresh s2 (fun b hb => by simp only [List.mem_singleton] at hb; subst hb; exact .inr (by have := hB.out; omega)))
      replace hf1 := Lib.hid hf1
      replace hf2 := Lib.hid hf2
      replace s1 := Lib.hid s1
      clear s2
      go_wp2
      refine bodyPost_ret (results_an8 rfl _ _ _ _ _ _ _ _ _ _ _ _ _ rfl s1.out) rfl ?_
      exact ⟨(⟨0, 0, 0, 0, false, false, 0, none, 0, 0⟩ : AnV), by rw [hf2.out]; rfl, by rw [hf1.out]; exact ⟨rfl, rfl, rfl, rfl, rfl, rfl, rfl, Sh.R.nil _ _⟩, hkz.out⟩
end Go.Proofs.Ytiplgpefapeapaa

namespace Go.Proofs.Ytiplgpefapeapaa
open Go.RowKit

theorem insN_at (n : T3) : ∀ (l : List T3) (i : Nat), i ≤ l.length → (∀ j (hj : j < l.length), j < i → tlt l[j] n) → (∀ (hi : i < l.length), ¬ tlt l[i] n) → insN n l = l.take i ++ n :: l.drop i
  | [], i, hi, _, _ => by
    have : i = 0 := by simpa using hi
    subst this
    rfl
  | x :: r, 0, _, _, h2 => by
    have := h2 (by simp)
    simp only [List.getElem_cons_zero] at this
    unfold insN
    rw [if_neg this]
    rfl
  | x :: r, i + 1, hi, h1, h2 => by
    have h0 := h1 0 (by simp) (by omega)
    simp only [List.getElem_cons_zero] at h0
    unfold insN
    rw [if_pos h0, insN_at n r i (by simpa using hi) (fun j hj hji => by have := h1 (j + 1) (by simpa using hj) (by omega); simpa using this) (fun hi2 => by have := h2 (by simpa using hi2); simpa using this)]
    rfl
set_option maxRecDepth 100000 in
set_option maxHeartbeats 20000000 in
theorem needR_c (w : World) (v : Value) (L : List T3) (n : T3) (h : shT.R w v L) (hl : L.length ≤ 1000000000000) :
    Calls Try.prog 54 #[v, tV n] w fun e w' => ∃ v', e = .returned v' ∧ shT.O w' w.heap.size tN v' (insN n L) ∧ Keeps [] w w' := by
  obtain ⟨a, c, rfl, hlc, hcm, hnil⟩ := h.form
  have hel := fun k hk => h.elem (k := k) hk
  obtain ⟨M, hM⟩ : ∃ N, L.length = N := ⟨_, rfl⟩
  rw [hM] at hlc hl h ⊢
  have hcm2 : c ≤ 9223372036854775807 := by unfold maxLen at hcm; omega
  obtain ⟨n0, n1, n2⟩ := n
  have hkA : Keeps [] w (w.alloc (.cells #[.int .i64 n0, .int .u64 n1, .int .i64 n2] tN)) := (Keeps.refl _ _).alloc _
  have hb0 := heap_alloc_new w (.cells #[.int .i64 n0, .int .u64 n1, .int .i64 n2] tN)
  replace hel := Lib.hid hel
  replace hM := Lib.hid hM
  replace hkA := Lib.hid hkA
  replace hb0 := Lib.hid hb0
  replace h := Lib.hid h
  replace hnil := Lib.hid hnil
  simp only [tV]
  go_enter Try.func54, Try.ntmps54
  (go_upto_region 1 with fail; iterate 8 go_step)
  generalize (w.alloc (.cells #[.int .i64 n0, .int .u64 n1, .int .i64 n2] tN)) = WA at *
  obtain ⟨X, hX⟩ : ∃ X, w.heap.size = X := ⟨_, rfl⟩
  rw [hX] at hb0 ⊢
  replace hX := Lib.hid hX
  go_cut [5] from 6 to 53 (fun i wx => ∃ k : Nat, i = .int .i64 k ∧ k ≤ M ∧ Hid (∀ j (hj : j < L.length), j < k → tlt L[j] (n0, n1, n2)) ∧ Hid (∀ hj : k < L.length, ¬ tlt L[k] (n0, n1, n2)) ∧ Hid (Keeps [] WA wx))
  case first =>
    go_wp2
    go_loopw [5] (fun i wr => ∃ k : Nat, i = .int .i64 k ∧ k ≤ M ∧ Hid (∀ j (hj : j < L.length), j < k → tlt L[j] (n0, n1, n2)) ∧ Hid (Keeps [] WA wr)) (fun i _ => M - (intOf i).toNat)
    case atStart => exact ⟨0, rfl, by omega, Lib.hid (fun _ _ h => by omega), Lib.hid (Keeps.refl _ _)⟩
    case round =>
      obtain ⟨k, rfl, hk, hno, hkr⟩ := hrel
      obtain ⟨y0, y1, y2⟩ := cells3t ((hkr.out.block X (lt_of_blk hb0.out) (by simp)).trans hb0.out)
      have hkw := hkA.out.trans hkr.out
      replace hkw := Lib.hid hkw
      by_cases hlt : k < M
      · have hkl : k < L.length := by rw [hM.out]; exact hlt
        obtain ⟨g, o, c', hv, he⟩ := hel.out k hkl
        rw [hM.out] at hv
        cases hv
        obtain ⟨⟨p0, p1, p2⟩, hp⟩ : ∃ x, L[k] = x := ⟨_, rfl⟩
        rw [hp] at he
        have e0 := hkw.out.val (he 0 _ rfl)
        have e1 := hkw.out.val (he 1 _ rfl)
        simp only [shT, Nat.add_zero] at e0 e1
        have hyes : tlt (p0, p1, p2) (n0, n1, n2) → ∀ j (hj : j < L.length), j < k + 1 → tlt L[j] (n0, n1, n2) := fun hn j hj hjk => by
          by_cases e : j = k
          · subst e; rw [hp]; exact hn
          · exact hno.out j hj (by omega)
        have hnot : ¬ tlt (p0, p1, p2) (n0, n1, n2) → ∀ hj : k < L.length, ¬ tlt L[k] (n0, n1, n2) := fun hn hj => by rw [hp]; exact hn
        replace hyes := Lib.hid hyes
        replace hnot := Lib.hid hnot
        replace hp := Lib.hid hp
        clear he
        by_cases a0 : p0 < n0
        · have b0 : decide (p0 < n0) = true := by simpa using a0
          have hy := Lib.hid (hyes.out (.inl a0))
          replace a0 := Lib.hid a0
          go_wp2
          (refine wp_region_quiet_lit (by kernel_rfl) (by kernel_rfl) ?_; (repeat (first | go_big_quiet_step (fail) | quiet_step (fail))); with_reducible refine wpQuiet_nil ?_; intro _ hw'; obtain ⟨nq, hw''⟩ := hw'; subst hw'')
          go_wp2
          go_roundw
          case rel => exact ⟨k + 1, rfl, by omega, hy, Lib.hid (hkr.out.drewN _)⟩
          case measure => simp [intOf]; omega
        · have b0 : decide (p0 < n0) = false := by simpa using a0
          by_cases a1 : p0 = n0
          · have b1 : (p0 == n0) = true := by simpa using a1
            by_cases a2 : p1 < n1
            · have b2 : decide ((p1 : Int) < (n1 : Int)) = true := by simp; omega
              have hy := Lib.hid (hyes.out (.inr ⟨a1, a2⟩))
              replace a0 := Lib.hid a0
              replace a1 := Lib.hid a1
              replace a2 := Lib.hid a2
              go_wp2
              (refine wp_region_quiet_lit (by kernel_rfl) (by kernel_rfl) ?_; (repeat (first | go_big_quiet_step (fail) | quiet_step (fail))); with_reducible refine wpQuiet_nil ?_; intro _ hw'; obtain ⟨nq, hw''⟩ := hw'; subst hw'')
              go_wp2
              go_roundw
              case rel => exact ⟨k + 1, rfl, by omega, hy, Lib.hid (hkr.out.drewN _)⟩
              case measure => simp [intOf]; omega
            · have b2 : decide ((p1 : Int) < (n1 : Int)) = false := by simp; omega
              have hy := Lib.hid (hnot.out (by unfold tlt; simp only; omega))
              replace a0 := Lib.hid a0
              replace a1 := Lib.hid a1
              replace a2 := Lib.hid a2
              go_wp2
              (refine wp_region_quiet_lit (by kernel_rfl) (by kernel_rfl) ?_; (repeat (first | go_big_quiet_step (fail) | quiet_step (fail))); with_reducible refine wpQuiet_nil ?_; intro _ hw'; obtain ⟨nq, hw''⟩ := hw'; subst hw'')
              go_wp2
              go_meet
              case rel => exact ⟨k, rfl, by omega, hno, hy, Lib.hid (hkr.out.drewN _)⟩
          · have b1 : (p0 == n0) = false := by simpa using a1
            have hy := Lib.hid (hnot.out (by unfold tlt; simp only; omega))
            replace a0 := Lib.hid a0
            replace a1 := Lib.hid a1
            go_wp2
            (refine wp_region_quiet_lit (by kernel_rfl) (by kernel_rfl) ?_; (repeat (first | go_big_quiet_step (fail) | quiet_step (fail))); with_reducible refine wpQuiet_nil ?_; intro _ hw'; obtain ⟨nq, hw''⟩ := hw'; subst hw'')
            go_wp2
            go_meet
            case rel => exact ⟨k, rfl, by omega, hno, hy, Lib.hid (hkr.out.drewN _)⟩
      · have hy : Hid (∀ hj : k < L.length, ¬ tlt L[k] (n0, n1, n2)) := Lib.hid (fun hj => absurd hj (by rw [hM.out]; exact hlt))
        have hlt2 : decide ((k : Int) < (M : Int)) = false := by simp; omega
        go_wp2
        (refine wp_region_quiet_lit (by kernel_rfl) (by kernel_rfl) ?_; (repeat (first | go_big_quiet_step (fail) | quiet_step (fail))); with_reducible refine wpQuiet_nil ?_; intro _ hw'; obtain ⟨nq, hw''⟩ := hw'; subst hw'')
        go_wp2
        go_meet
        case rel => exact ⟨k, rfl, by omega, hno, hy, Lib.hid (hkr.out.drewN _)⟩
  case rest =>
    obtain ⟨k, rfl, hk, hno, hst, hkr⟩ := hcut
    have hres : insN (n0, n1, n2) L = L.take k ++ (n0, n1, n2) :: L.drop k := insN_at (n0, n1, n2) L k (by rw [hM.out]; exact hk) hno.out hst.out
    obtain ⟨y0, y1, y2⟩ := cells3t ((hkr.out.block X (lt_of_blk hb0.out) (by simp)).trans hb0.out)
    have hkw := hkA.out.trans hkr.out
    replace hkw := Lib.hid hkw
    have hkc := hkw.out
    have hXl := lt_of_cell y0
    have hRk := h.out.keeps hkc
    have hT1 := hRk.init' k (by rw [hM.out]; exact hk)
    have hT2 := hRk.tail' k (by rw [hM.out]; exact hk)
    rw [hM.out] at hT2
    replace hT2 : shT.R wc (.slice (if c = k then a else a.map (·.add (k * 3))) (M - k) (c - k)) (L.drop k) := hT2
    have f1 : (0 : Int) ≤ (k : Int) := by omega
    have f2 : (k : Int) ≤ (c : Int) := by omega
    have f3 : (k : Int) ≤ (M : Int) := by omega
    have hlt1 : (L.take k).length ≤ 1000000000000 := by rw [List.length_take, hM.out]; omega
    have hlt2 : (L.drop k).length ≤ 1000000000000 := by rw [List.length_drop, hM.out]; omega
    replace hkc := Lib.hid hkc
    replace hT1 := Lib.hid hT1
    replace hT2 := Lib.hid hT2
    replace hlt1 := Lib.hid hlt1
    replace hlt2 := Lib.hid hlt2
    replace hres := Lib.hid hres
    clear hRk hkr
    go_wp2
    have hn : Ins.Nums 4 6 7 11 := by unfold Ins.Nums; decide
    refine Free.wp_region_free (by kernel_rfl) (by kernel_rfl) (fun i => i == 0 || i == 4 || i == 6 || i == 7 || i == 11) (Ins.F shT 4 6 7 11 wc.drew.heap.size tN (L.take k) (n0, n1, n2) (L.drop k)) (Ins.T 7 11 wc.drew.heap.size) (Ins.K 7 11) (Ins.stable (.inr (by kernel_rfl))) ?_
    apply Free.walk_loud rfl rfl
    · intro w' hg hf; clear hf
      have hwB := hg.size
      go_simp
      exact Ins.fE hn hwB
    intro v0
    (apply Free.walk_quiet rfl rfl; (intro w' hg hf; clear hf; go_simp <;> exact rfl))
    (apply Free.walk_quiet rfl rfl; (intro w' hg hf; clear hf; go_simp <;> exact rfl))
    (apply Free.walk_quiet rfl rfl; (intro w' hg hf; clear hf; go_simp <;> exact rfl))
    apply Free.walk_loud rfl rfl
    · intro w' hg hf
      have hF0 : Ins.F shT 4 6 7 11 wc.drew.heap.size tN (L.take k) (n0, n1, n2) (L.drop k) 0 v0 w' := by simpa using hf 0 (by decide) (by kernel_rfl)
      clear hf
      exact Ins.lA hn infoN rfl Try.underlying35 hg (fun b h => Ins.low h) hF0 (hT1.out.keeps (Keeps.refl [] wc).drew) _ _ rfl (by simp [Act.eval, Act.put]) (by simp [Act.eval, Act.put]) (by have := hlt1.out; omega)
    intro v4
    apply Free.walk_quiet rfl rfl
    · intro w' hg hf; clear hf
      have r0 := (hg.cell _ _ (lt_of_cell y0) (fun h => Nat.not_le_of_lt (lt_of_cell y0) (Ins.low h))).trans y0
      have r1 := (hg.cell _ _ (lt_of_cell y1) (fun h => Nat.not_le_of_lt (lt_of_cell y1) (Ins.low h))).trans y1
      have r2 := (hg.cell _ _ (lt_of_cell y2) (fun h => Nat.not_le_of_lt (lt_of_cell y2) (Ins.low h))).trans y2
      go_simp <;> exact rfl
    apply Free.walk_loud rfl rfl
    · intro w' hg hf; clear hf
      have hwB := hg.size
      go_simp
      exact Ins.fM hn hwB _ rfl
    intro v6
    apply Free.walk_loud rfl rfl
    · intro w' hg hf
      have hFA : Ins.F shT 4 6 7 11 wc.drew.heap.size tN (L.take k) (n0, n1, n2) (L.drop k) 4 v4 w' := by simpa using hf 4 (by decide) (by kernel_rfl)
      have hFM : Ins.F shT 4 6 7 11 wc.drew.heap.size tN (L.take k) (n0, n1, n2) (L.drop k) 6 v6 w' := by simpa using hf 6 (by decide) (by kernel_rfl)
      clear hf
      exact Ins.lA2 hn infoN rfl Try.underlying35 hg hFA hFM _ _ rfl (by simp [Act.eval, Act.put]) (by simp [Act.eval, Act.put]) (by have := hlt1.out; omega)
    intro v7
    (apply Free.walk_quiet rfl rfl; (intro w' hg hf; clear hf; go_simp <;> exact rfl))
    (apply Free.walk_quiet rfl rfl; (intro w' hg hf; clear hf; go_simp <;> exact rfl))
    (apply Free.walk_quiet rfl rfl; (intro w' hg hf; clear hf; go_simp <;> exact rfl))
    apply Free.walk_loud rfl rfl
    · intro w' hg hf
      have hFA : Ins.F shT 4 6 7 11 wc.drew.heap.size tN (L.take k) (n0, n1, n2) (L.drop k) 7 v7 w' := by simpa using hf 7 (by decide) (by kernel_rfl)
      clear hf
      exact Ins.lA3 hn (by decide) infoN rfl Try.underlying35 hg (fun b h => Ins.low h) hFA (hT2.out.keeps (Keeps.refl [] wc).drew) _ _ rfl (by simp [Act.eval, Act.put]) (by simp [Act.eval, Act.put]) (by have := hlt1.out; have := hlt2.out; omega)
    intro v11
    (apply Free.walk_quiet rfl rfl; (intro w' hg hf; clear hf; go_simp <;> exact rfl))
    refine Free.walk_nil ?_
    intro wF hg hf
    have hFin : Ins.F shT 4 6 7 11 wc.drew.heap.size tN (L.take k) (n0, n1, n2) (L.drop k) 11 v11 wF := by simpa using hf 11 (by decide) (by kernel_rfl)
    have hO := Lib.hid (hFin.2.2.2.2 rfl (by decide))
    have hk := Lib.hid (hg.to ((Keeps.refl [] wc).drew) (fun b h => .inr (Ins.lowA h)))
    clear hf hg hFin
    go_wp2
    all_goals
      go_ret
      exact ⟨_, rfl, (by rw [hres.out]; have := Ins.O_le hO.out (show w.heap.size ≤ wc.drew.heap.size from hkc.out.size); rw [List.append_assoc, List.singleton_append] at this; exact this), (hkc.out.trans hk.out)⟩
end Go.Proofs.Ytiplgpefapeapaa

namespace Go.Proofs.Ytiplgpefapeapaa

/-- The digits of a number, the most significant one first. -/
def digs (n : Nat) : List UInt8 := if h : n = 0 then [] else digs (n / 256) ++ [UInt8.ofNat (n % 256)]
termination_by n
decreasing_by omega
theorem digs_zero : digs 0 = [] := by rw [digs]; simp
theorem digs_pos {n : Nat} (h : 0 < n) : digs n = digs (n / 256) ++ [UInt8.ofNat (n % 256)] := by rw [digs]; simp [show n ≠ 0 by omega]
theorem digs_len_pos {n : Nat} (h : 0 < n) : (digs n).length = (digs (n / 256)).length + 1 := by rw [digs_pos h]; simp
theorem digs_len_lt : ∀ (k n : Nat), n < 256 ^ k → (digs n).length ≤ k
  | 0, n, h => by have : n = 0 := by simpa using h
                  subst this; simp [digs_zero]
  | k + 1, n, h => by
    rcases Nat.eq_zero_or_pos n with rfl | hp
    · simp [digs_zero]
    · rw [digs_len_pos hp]
      have := digs_len_lt k (n / 256) (by rw [Nat.pow_succ] at h; omega)
      omega
theorem digs_len8 {n : Nat} (h : n < 18446744073709551616) : (digs n).length ≤ 8 := digs_len_lt 8 n (by simpa using h)
theorem digs_lt : ∀ (k n : Nat), (digs n).length = k → n < 256 ^ k
  | 0, n, h => by
    rcases Nat.eq_zero_or_pos n with rfl | hp
    · simp
    · rw [digs_len_pos hp] at h; omega
  | k + 1, n, h => by
    rcases Nat.eq_zero_or_pos n with rfl | hp
    · exact Nat.pow_pos (by omega)
    · rw [digs_len_pos hp] at h
      have := digs_lt k (n / 256) (by omega)
      rw [Nat.pow_succ]; omega
/-- The digit with `i` digits behind it. -/
theorem digs_get : ∀ (k n i : Nat), (digs n).length = k → i < k → (digs n)[k - 1 - i]? = some (UInt8.ofNat (n / 256 ^ i % 256))
  | 0, n, i, _, hi => by omega
  | k + 1, n, i, h, hi => by
    rcases Nat.eq_zero_or_pos n with rfl | hp
    · simp [digs_zero] at h
    · have h2 := digs_len_pos hp
      rw [digs_pos hp]
      cases i with
      | zero => rw [List.getElem?_append_right (by omega), show k + 1 - 1 - 0 - (digs (n / 256)).length = 0 from by omega]; simp
      | succ i =>
        rw [List.getElem?_append_left (by omega)]
        have := digs_get k (n / 256) i (by omega) (by omega)
        rw [show k + 1 - 1 - (i + 1) = k - 1 - i by omega, this, Nat.div_div_eq_div_mul, Nat.pow_succ, Nat.mul_comm 256]
/-- The encoding of a number. -/
def encU (n : Nat) : List UInt8 := UInt8.ofNat (digs n).length :: digs n
theorem encU_len {n : Nat} (h : n < 18446744073709551616) : (encU n).length ≤ 9 := by have := digs_len8 h; simp [encU]; omega
/-- A data datagram, an acknowledgement. -/
def dataB (n : Nat) (l : List UInt8) : List UInt8 := [1] ++ encU n ++ l
def ackB (n : Nat) : List UInt8 := [2] ++ encU n
/-- The number that digits stand for. -/
def valU (l : List UInt8) : Nat := l.foldl (fun n b => n * 256 + b.toNat) 0
theorem valU_snoc (l : List UInt8) (b : UInt8) : valU (l ++ [b]) = valU l * 256 + b.toNat := by simp [valU]
theorem valU_lt : ∀ (k : Nat) (l : List UInt8), l.length = k → valU l < 256 ^ k
  | 0, l, h => by rw [List.length_eq_zero_iff.1 h]; simp [valU]
  | k + 1, l, h => by
    obtain ⟨m, b, rfl⟩ : ∃ m b, l = m ++ [b] := ⟨l.dropLast, l.getLast (by intro e; subst e; simp at h), (List.dropLast_concat_getLast _).symm⟩
    have := valU_lt k m (by simpa using h)
    have hb := b.toNat_lt
    rw [valU_snoc, Nat.pow_succ]; omega
theorem valU_digs (n : Nat) : valU (digs n) = n := by
  induction n using Nat.strongRecOn with
  | _ n ih =>
    rcases Nat.eq_zero_or_pos n with rfl | hp
    · simp [digs_zero, valU]
    · rw [digs_pos hp, valU_snoc, ih (n / 256) (by omega)]
      simp; omega
theorem digs_valU : ∀ (k : Nat) (l : List UInt8), l.length = k → (∀ b, l[0]? = some b → b ≠ 0) → digs (valU l) = l
  | 0, l, h, _ => by rw [List.length_eq_zero_iff.1 h]; simp [valU, digs_zero]
  | k + 1, l, h, h0 => by
    obtain ⟨m, b, rfl⟩ : ∃ m b, l = m ++ [b] := ⟨l.dropLast, l.getLast (by intro e; subst e; simp at h), (List.dropLast_concat_getLast _).symm⟩
    have hm : m.length = k := by simpa using h
    have hb := b.toNat_lt
    rcases Nat.eq_zero_or_pos k with rfl | hk
    · have : m = [] := List.length_eq_zero_iff.1 hm
      subst this
      have hb0 : b ≠ 0 := h0 b (by simp)
      have hp : 0 < b.toNat := by
        rcases Nat.eq_zero_or_pos b.toNat with e | e
        · exact absurd (UInt8.toNat_inj.1 (by simpa using e)) hb0
        · exact e
      simp only [valU, List.nil_append, List.foldl_cons, List.foldl_nil, Nat.zero_mul, Nat.zero_add]
      rw [digs_pos hp, show b.toNat / 256 = 0 by omega, digs_zero, show b.toNat % 256 = b.toNat by omega]; simp
    · have h0' : ∀ c, m[0]? = some c → c ≠ 0 := fun c hc => h0 c (by rw [List.getElem?_append_left (by omega)]; exact hc)
      have ih := digs_valU k m hm h0'
      have hpos : 0 < valU m := by
        rcases Nat.eq_zero_or_pos (valU m) with e | e
        · rw [e, digs_zero] at ih; subst ih; simp at hm; omega
        · exact e
      rw [valU_snoc, digs_pos (by omega), show (valU m * 256 + b.toNat) / 256 = valU m by omega, ih, show (valU m * 256 + b.toNat) % 256 = b.toNat by omega]; simp
end Go.Proofs.Ytiplgpefapeapaa

namespace Go.Proofs.Ytiplgpefapeapaa
open Go.RowKit

theorem infoB : (Try.prog.info? 5).map (fun i => (i.zero, i.size, i.bytes)) = some (some (.int .u8 0), 1, 1) := by kernel_rfl
/-- The slice `v` reads as the bytes `l`, and is the call's own: it lies in a block from `base` on, at its head. -/
def Buf (w : World) (base : Nat) (v : Value) (l : List UInt8) : Prop := w.ownsRow base 5 1 v l.length (bys l)
theorem Buf.slB {w : World} {base : Nat} {v : Value} {l : List UInt8} (h : Buf w base v l) : SlB w v l := Sl.of_owns h
theorem Buf.nil (w : World) (base : Nat) : Buf w base (.slice none 0 0) [] := World.ownsRow_nil _ _ _ _
theorem Buf.form {w : World} {base : Nat} {v : Value} {l : List UInt8} (h : Buf w base v l) : ∃ a cap, v = .slice a l.length cap := h.slB.form
theorem Buf.of {w : World} {base n : Nat} {v : Value} {l m : List UInt8} (h : w.ownsRow base 5 1 v n (bys l ++ bys m)) : Buf w base v (l ++ m) := by
  have h1 := h.1
  unfold Buf
  rw [bys_append]
  have : (l ++ m).length = n := by simpa using h1
  rw [this]
  exact h
theorem byte_of {x : Int} (h0 : 0 ≤ x) : Value.int .u8 (x % 256) = .int .u8 ((UInt8.ofNat x.toNat).toNat : Int) := by
  congr 1; simp; omega

theorem wpl_pushB {ops : Array Oper} {rest : List Oper} {o : Oper} {a : Act} {Q : Exit → Act → World → Prop} (w : World) (base : Nat) (v : Value) (l : List UInt8) (x : Int) (hg : o.guard = none) (s t : Operand)
    (ho : o.op = .call { callee := .builtin .append, args := #[s, t], argTypes := #[46, 46] }) (hs : a.eval s = v) (ht : a.eval t = .slice (some ⟨w.heap.size, 0, none⟩) 1 1)
    (h : Buf w base v l) (b : UInt8) (hb : x = (b.toNat : Int)) (hl : l.length ≤ 140737488355300) (hbase : base ≤ w.heap.size)
    (K : ∀ v' w', Buf w' base v' (l ++ [b]) → Grw w w' v v' → wpList Try.prog ops Q rest (a.put o.dst v') w') : wpList Try.prog ops Q (o :: rest) a (w.alloc (.cells #[.int .u8 x] 5)) := by
  obtain ⟨i0, hi, hz0, hz1, hz2⟩ := info_parts infoB
  subst hb
  refine wpl_append_x hg s t _ ho base 5 i0 (.int .u8 0) 1 1 Try.underlying46 hi hz0 hz1 hz2 rfl (by decide) v l.length (bys l) hs (h.alloc _) _ 1 (bys [b]) ht (SlB.one w b _) (bys_one _) (by unfold maxLen; omega) (by omega) (by simp; omega) ?_
  intro v' w' h1 h2 _
  exact K v' w' (Buf.of h1) h2.alloc_left

theorem shr_byte (n k : Nat) : (n : Int) / 2 ^ (8 * k) % 256 = ((UInt8.ofNat (n / 256 ^ k % 256)).toNat : Int) := by
  have e : (256 : Nat) ^ k = 2 ^ (8 * k) := by rw [Nat.pow_mul]
  rw [e]
  simp
  
/-- `append(v, v2...)` of bytes, `v` the call's own. -/
theorem wpl_appB {ops : Array Oper} {rest : List Oper} {o : Oper} {a : Act} {Q : Exit → Act → World → Prop} (w : World) (base : Nat) (v : Value) (l : List UInt8) (hg : o.guard = none) (s t : Operand)
    (ho : o.op = .call { callee := .builtin .append, args := #[s, t], argTypes := #[46, 46] }) (hs : a.eval s = v) (v2 : Value) (m : List UInt8) (ht : a.eval t = v2)
    (h : Buf w base v l) (h2 : SlB w v2 m) (hl : l.length + m.length ≤ 140737488355328) (hbase : base ≤ w.heap.size)
    (K : ∀ v' w', Buf w' base v' (l ++ m) → Grw w w' v v' → wpList Try.prog ops Q rest (a.put o.dst v') w') : wpList Try.prog ops Q (o :: rest) a w := by
  obtain ⟨i0, hi, hz0, hz1, hz2⟩ := info_parts infoB
  refine wpl_append_x hg s t _ ho base 5 i0 (.int .u8 0) 1 1 Try.underlying46 hi hz0 hz1 hz2 rfl (by decide) v l.length (bys l) hs h _ m.length (bys m) ht h2 (bys_one _) (by unfold maxLen; omega) (by omega) hbase ?_
  intro v' w' h1 h2 _
  exact K v' w' (Buf.of h1) h2
theorem Buf.fresh (w : World) : Buf (w.alloc (.cells #[] 5)) w.heap.size (.slice (some ⟨w.heap.size, 0, none⟩) 0 0) [] := ownsRow_empty w _ _ _ (Nat.le_refl _)
theorem Buf.one (w : World) (b : UInt8) {x : Int} (hx : x = (b.toNat : Int)) : Buf (w.alloc (.cells #[.int .u8 x] 5)) w.heap.size (.slice (some ⟨w.heap.size, 0, none⟩) 1 1) [b] := by
  subst hx
  exact ⟨rfl, .inr ⟨_, 1, _, rfl, Nat.le_refl _, heap_alloc_new _ _, Nat.le_refl _, by simp [maxLen], rfl, rfl⟩⟩
theorem Buf.keep {w w' : World} {base : Nat} {v : Value} {l : List UInt8} (h : Buf w base v l) (hk : Keeps [] w w') : Buf w' base v l := ownsRow_block h (fun b _ hb => hk.block b hb (by simp))
theorem SlB.cap {w : World} {v : Value} {l : List UInt8} (h : SlB w v l) : l.length ≤ maxLen := by obtain ⟨_, a, c, rfl, h1, h2, _⟩ := h; omega

/-- Bytes as a string. -/
def str (l : List UInt8) : ByteArray := ⟨l.toArray⟩
theorem run_str {w : World} {v : Value} {l : List UInt8} (h : SlB w v l) : (convert 46 9 v).run Try.prog w = .ok (.string (str l)) w := by
  rcases h.cases with ⟨rfl, a, c, rfl, _, _⟩ | ⟨g, o, c, rfl, _, _, _, _, hc⟩
  · cases a with
    | none => exact run_convert_bytes_nil w _ _ Try.underlying46 Try.underlying5 _ _ _ Try.underlying9
    | some a =>
      have := run_convert_bytes_arg (P := Try.prog) w 46 5 Try.underlying46 Try.underlying5 a.block a.off 0 c [] rfl (fun i hi => by omega) 9 Try.underlying9
      rw [run_convert_bytes_string w _ _ 5 _ _ _ Try.underlying46 Try.underlying5 Try.underlying9] at this ⊢
      simp [Conv.bytesToString, loadCells, loadCellsFrom] at this ⊢
      rfl
  · have := run_convert_bytes_arg (P := Try.prog) w 46 5 Try.underlying46 Try.underlying5 g o l.length c (l.map fun b => (b.toNat : Int)) (by simp) (fun i hi => by rw [hc i hi]; simp [hi]) 9 Try.underlying9
    rw [this]
    simp [strOfNums, str, Function.comp_def]
theorem str_inj {l m : List UInt8} (h : str l = str m) : l = m := by simpa [str] using h

end Go.Proofs.Ytiplgpefapeapaa

namespace Go.Proofs.Ytiplgpefapeapaa
open Go.RowKit

theorem Buf.mono {w : World} {b b' : Nat} {v : Value} {l : List UInt8} (h : Buf w b v l) (hb : b' ≤ b) : Buf w b' v l := by
  refine ⟨h.1, ?_⟩
  rcases h.2 with hn | ⟨g, cap, cur, rfl, hg, rest⟩
  · exact .inl hn
  · exact .inr ⟨g, cap, cur, rfl, by omega, rest⟩
set_option maxRecDepth 100000 in
set_option maxHeartbeats 2000000 in
theorem refU_c (w : World) (v0 : Value) (l : List UInt8) (n : Nat) (h : SlB w v0 l) (hn : n < 18446744073709551616) (hl : l.length ≤ 140737488355000) :
    Calls Try.prog 34 #[v0, .int .u64 n] w fun e w' => ∃ v', e = .returned v' ∧ Buf w' w.heap.size v' (l ++ encU n) ∧ Keeps [] w w' := by
  obtain ⟨a0, c0, rfl⟩ := h.form
  replace h := Lib.hid h
  go_enter Try.func34, Try.ntmps34
  go_wp2_with fail
  go_loopw [1, 5] (fun n' d wr => ∃ (m : Nat) (L : List UInt8), m ≤ n ∧ n' = .int .u64 m ∧ Hid (digs n = digs m ++ L) ∧ Buf wr w.heap.size d L ∧ Keeps [] w wr) (fun n' _ _ => (intOf n').toNat)
  case atStart => exact ⟨n, [], by omega, rfl, by show _ = _; simp, Buf.fresh w, (Keeps.refl [] w).alloc _⟩
  case round =>
    obtain ⟨m, L, hm, rfl, hL, hB, hk⟩ := hrel
    obtain ⟨aL, cL, rfl⟩ := hB.form
    have hsz := hk.size
    have hLl : L.length ≤ 8 := by
      have h1 := congrArg List.length hL.out
      have h2 := digs_len8 (n := n) (by omega)
      simp at h1; omega
    replace hB := Lib.hid hB
    replace hk := Lib.hid hk
    by_cases hp : 0 < m
    · have hd : Hid (digs n = digs (m / 256) ++ (UInt8.ofNat (m % 256) :: L)) := by show _ = _; rw [hL.out, digs_pos hp]; simp
      clear hL
      go_wp2_with (at_builtin; (refine wpl_appB _ w.heap.size (.slice (some ⟨_, 0, none⟩) 1 1) [UInt8.ofNat (m % 256)] rfl _ _ rfl rfl _ L rfl ((Buf.one _ (UInt8.ofNat (m % 256)) (by simp)).mono (by omega)) (hB.out.slB.keeps ((Keeps.refl [] _).alloc _)) (by simp; omega) (by simp; omega) ?_; intro v2 w2 hB2 hG2))
      go_roundw
      case rel => exact ⟨m / 256, _, by omega, by go_num, hd, hB2, hG2.keeps (hk.out.alloc _) (by simp [Value.ownBlock]; omega)⟩
      case measure => simp [intOf]; omega
    · have hm0 : m = 0 := by omega
      have hdL : Hid (digs n = L) := by show _ = _; rw [hL.out, hm0, digs_zero]; simp
      clear hL hm
      subst hm0
      go_wp2_with (first
        | (at_builtin; (refine wpl_appB _ wr.heap.size (.slice (some ⟨wr.heap.size, 0, none⟩) 0 0) [] rfl (.tmp 17) (.tmp 18) rfl rfl _ l rfl (Buf.fresh wr) ((h.out.keeps hk.out).keeps ((Keeps.refl [] _).alloc _)) (by simp; omega) (by simp) ?_; intro v2 w2 hB2 hG2; have hkk2 := Lib.hid (hG2.keeps ((Keeps.refl [] wr).alloc _) (by simp [Value.ownBlock])); have hB2' := Lib.hid hB2; clear hB2 hG2))
        | (at_builtin; (refine wpl_pushB _ wr.heap.size v2 _ _ rfl (.tmp 19) (.tmp 23) rfl rfl rfl hB2'.out (UInt8.ofNat L.length) (by simp; omega) (by simp; omega) (by have := hkk2.out.size; omega) ?_; intro v3 w3 hB3 hG3; have hkk3 := Lib.hid (hG3.keeps hkk2.out (fun b hb => ownBlock_ge hB2'.out b hb)); have hB3' := Lib.hid hB3; clear hB3 hG3))
        | (at_builtin; (refine wpl_appB _ wr.heap.size v3 _ rfl (.tmp 24) (.tmp 25) rfl rfl _ L rfl hB3'.out (hB.out.slB.keeps hkk3.out) (by simp; omega) (by have := hkk3.out.size; omega) ?_; intro v4 w4 hB4 hG4; have hkk4 := Lib.hid (hG4.keeps hkk3.out (fun b hb => ownBlock_ge hB3'.out b hb)); have hB4' := Lib.hid hB4; clear hB4 hG4)))
      go_ret
      refine ⟨_, rfl, ?_, hk.out.trans hkk4.out⟩
      have := hB4'.out.mono hsz
      rw [← hdL.out] at this
      simpa [encU] using this
end Go.Proofs.Ytiplgpefapeapaa

namespace Go.Proofs.Ytiplgpefapeapaa
open Go.RowKit

def encB (b : Bool) : List UInt8 := [if b then 1 else 0]
theorem Grw.ne {w w' : World} {v v' : Value} (g : Grw w w' v v') {X : Nat} (hv : v.ownBlock ≠ some X) (hX : X < w.heap.size) : v'.ownBlock ≠ some X := by
  rcases g.own with e | ⟨k, e, hk⟩
  · rw [e]; exact hv
  · rw [e]; intro h; cases h; omega
/-- What the growth of a buffer leaves, draws and other makings between. -/
structure GK (a w : World) (v v' : Value) : Prop where
  keeps : Keeps v.ownBlock.toList a w
  own : v'.ownBlock = v.ownBlock ∨ ∃ k, v'.ownBlock = some k ∧ a.heap.size ≤ k
theorem GK.refl (a : World) (v : Value) : GK a a v v := ⟨Keeps.refl _ _, .inl rfl⟩
theorem GK.then {a w w' : World} {v v' : Value} (h : GK a w v v') (k : Keeps [] w w') : GK a w' v v' := ⟨h.keeps.trans k.of_nil, h.own⟩
theorem GK.grw {a w w' : World} {v v' x : Value} (h : GK a w v v') (k : Grw w w' v' x) : GK a w' v x := by
  refine ⟨h.keeps.fresh k.keepsO (fun b hb => ?_), ?_⟩
  · rcases h.own with e | ⟨j, e, hj⟩
    · rw [e] at hb; exact .inl hb
    · rw [e] at hb; simp at hb; subst hb; exact .inr hj
  · rcases k.own with e | ⟨j, e, hj⟩
    · rw [e]; exact h.own
    · exact .inr ⟨j, e, Nat.le_trans h.keeps.size hj⟩
theorem GK.nil {w0 a w : World} {v v' : Value} (h : GK a w v v') (hk : Keeps [] w0 a) (hv : ∀ b, v.ownBlock = some b → w0.heap.size ≤ b) : Keeps [] w0 w :=
  hk.fresh h.keeps (fun b hb => .inr (hv b (by simpa using hb)))
theorem Grw.keepsP {w w' : World} {v v' : Value} (g : Grw w w' v v') {X : Nat} (hv : v.ownBlock ≠ some X) : Free.KeepsP (fun b => b ≠ X) w w' :=
  Free.KeepsP.grown g.grown (fun k e h => hv (by rw [e, h]))
end Go.Proofs.Ytiplgpefapeapaa

namespace Go.Proofs.Ytiplgpefapeapaa
open Go.RowKit

set_option maxRecDepth 100000 in
set_option maxHeartbeats 2000000 in
theorem refB_c (w : World) (v0 : Value) (l : List UInt8) (b : Bool) (h : SlB w v0 l) (hl : l.length ≤ 140737488355000) :
    Calls Try.prog 35 #[v0, .bool b] w fun e w' => ∃ v', e = .returned v' ∧ SlB w' v' (l ++ encB b) ∧ Keeps [] w w' := by
  obtain ⟨a0, c0, rfl⟩ := h.form
  replace h := Lib.hid h
  cases b
  · go_enter Try.func35, Try.ntmps35
    go_wp2_with (first
      | (at_builtin; (refine wpl_appB _ w.heap.size (.slice (some ⟨w.heap.size, 0, none⟩) 0 0) [] rfl (.tmp 11) (.tmp 12) rfl rfl _ l rfl (Buf.fresh w) (h.out.keeps ((Keeps.refl [] w).alloc _)) (by simp; omega) (by simp) ?_; intro v2 w2 hB2 hG2; have hkk2 := Lib.hid (hG2.keeps ((Keeps.refl [] w).alloc _) (by simp [Value.ownBlock])); have hB2' := Lib.hid hB2; clear hB2 hG2))
      | (at_builtin; (refine wpl_pushB _ w.heap.size v2 _ _ rfl (.tmp 13) (.tmp 14) rfl rfl rfl hB2'.out (0 : UInt8) (by rfl) (by simp; omega) (by have := hkk2.out.size; omega) ?_; intro v3 w3 hB3 hG3; have hkk3 := Lib.hid (hG3.keeps hkk2.out (fun b hb => ownBlock_ge hB2'.out b hb)); have hB3' := Lib.hid hB3; clear hB3 hG3)))
    go_ret
    exact ⟨_, rfl, by have := hB3'.out.slB; simpa [encB] using this, hkk3.out⟩
  · go_enter Try.func35, Try.ntmps35
    go_wp2_with (first
      | (at_builtin; (refine wpl_appB _ w.heap.size (.slice (some ⟨w.heap.size, 0, none⟩) 0 0) [] rfl (.tmp 6) (.tmp 7) rfl rfl _ l rfl (Buf.fresh w) (h.out.keeps ((Keeps.refl [] w).alloc _)) (by simp; omega) (by simp) ?_; intro v2 w2 hB2 hG2; have hkk2 := Lib.hid (hG2.keeps ((Keeps.refl [] w).alloc _) (by simp [Value.ownBlock])); have hB2' := Lib.hid hB2; clear hB2 hG2))
      | (at_builtin; (refine wpl_pushB _ w.heap.size v2 _ _ rfl (.tmp 8) (.tmp 9) rfl rfl rfl hB2'.out (1 : UInt8) (by rfl) (by simp; omega) (by have := hkk2.out.size; omega) ?_; intro v3 w3 hB3 hG3; have hkk3 := Lib.hid (hG3.keeps hkk2.out (fun b hb => ownBlock_ge hB2'.out b hb)); have hB3' := Lib.hid hB3; clear hB3 hG3)))
    go_ret
    exact ⟨_, rfl, by have := hB3'.out.slB; simpa [encB] using this, hkk3.out⟩
end Go.Proofs.Ytiplgpefapeapaa

namespace Go.Proofs.Ytiplgpefapeapaa
open Go.RowKit Go.ChangeShapes

/-- The number that stands for an integer on the wire. -/
def zig (n : Int) : Nat := if 0 ≤ n then (2 * n).toNat else (-2 * n - 1).toNat
def encI (n : Int) : List UInt8 := encU (zig n)
theorem zig_lt {n : Int} (h : -9223372036854775808 ≤ n ∧ n ≤ 9223372036854775807) : zig n < 18446744073709551616 := by unfold zig; split <;> omega
theorem zig_inj {m n : Int} (h : zig m = zig n) : m = n := by unfold zig at h; split at h <;> split at h <;> omega
theorem zig_pos {n : Int} (h0 : 0 ≤ n) : (zig n : Int) = 2 * n := by unfold zig; rw [if_pos h0]; omega
theorem zig_neg {n : Int} (h0 : n < 0) : (zig n : Int) = -2 * n - 1 := by unfold zig; rw [if_neg (by omega)]; omega
theorem xor_pos {n : Int} (h0 : 0 ≤ n) (hn : n ≤ 9223372036854775807) : bits .xor .u64 (n * 2) (n / 9223372036854775808) = zig n := by
  have e : n / 9223372036854775808 = ((0 : Nat) : Int) := by omega
  obtain ⟨k, rfl⟩ : ∃ k : Nat, n = k := ⟨n.toNat, by omega⟩
  rw [e, show ((k : Int) * 2) = ((k * 2 : Nat) : Int) by omega, bits_xor_u64_nat _ _ (by omega) (by omega), zig_pos h0]
  simp
  omega
theorem xor_neg {n : Int} (h0 : n < 0) (hn : -9223372036854775808 ≤ n) : bits .xor .u64 (IntKind.u64.wrap (IntKind.u64.wrap n * 2)) (IntKind.u64.wrap (n / 9223372036854775808)) = zig n := by
  have e : n / 9223372036854775808 = -1 := by omega
  have e1 : IntKind.u64.wrap (-1) = ((18446744073709551615 : Nat) : Int) := by decide
  have e2 : IntKind.u64.wrap n = n + 18446744073709551616 := by rw [IntKind.wrap_u64]; omega
  have e3 : IntKind.u64.wrap ((n + 18446744073709551616) * 2) = (((2 * n + 18446744073709551616).toNat : Nat) : Int) := by rw [IntKind.wrap_u64]; omega
  rw [e, e1, e2, e3, bits_xor_u64_nat _ _ (by omega) (by decide), zig_neg h0, Nat.xor_comm]
  have := Go.Lib.xor_ones64 (2 * n + 18446744073709551616).toNat (by omega)
  rw [show (18446744073709551615 : Nat) = 2 ^ 64 - 1 by decide, this]
  omega
set_option maxRecDepth 100000 in
set_option maxHeartbeats 2000000 in
theorem refInt_c (w : World) (v0 : Value) (l : List UInt8) (n : Int) (h : SlB w v0 l) (hn : -9223372036854775808 ≤ n ∧ n ≤ 9223372036854775807) (hl : l.length ≤ 140737488355000) :
    Calls Try.prog 33 #[v0, .int .i64 n] w fun e w' => ∃ v', e = .returned v' ∧ SlB w' v' (l ++ encI n) ∧ Keeps [] w w' := by
  have hc := refU_c w v0 l (zig n) h (zig_lt hn) hl
  replace hc := Lib.hid hc
  by_cases h0 : 0 ≤ n
  · go_enter Try.func33, Try.ntmps33
    go_wp2_with fail
    rw [← zig_pos h0]
    refine hc.out.mono ?_
    rintro e w' ⟨v', rfl, hB, hk⟩
    replace hB := Lib.hid hB.slB
    go_wp2
    go_ret
    exact ⟨_, rfl, hB.out, hk⟩
  · replace h0 : n < 0 := by omega
    go_enter Try.func33, Try.ntmps33
    go_wp2_with fail
    rw [show 2 * -(n + 1) + 1 = (zig n : Int) by rw [zig_neg h0]; omega]
    refine hc.out.mono ?_
    rintro e w' ⟨v', rfl, hB, hk⟩
    replace hB := Lib.hid hB.slB
    go_wp2
    go_ret
    exact ⟨_, rfl, hB.out, hk⟩
end Go.Proofs.Ytiplgpefapeapaa

namespace Go.Proofs.Ytiplgpefapeapaa
open Go.RowKit Go.ChangeShapes

abbrev tB : Nat := 5
abbrev tBs : Nat := 46
/-- Every block but those of bytes and of buffers' variables is as it was. -/
structure KB8 (w w' : World) : Prop where
  sz : w.heap.size ≤ w'.heap.size
  b : ∀ (b : Nat) (cs : Array Value) (t : TypeId) (f : Nat × Nat), w.heap[b]? = some (Obj.cells cs t f) → t ≠ tB → t ≠ tBs → w'.heap[b]? = some (Obj.cells cs t f)
theorem KB8.refl (w : World) : KB8 w w := ⟨Nat.le_refl _, fun _ _ _ _ h _ _ => h⟩
theorem KB8.trans {a b c : World} (h : KB8 a b) (k : KB8 b c) : KB8 a c := ⟨Nat.le_trans h.sz k.sz, fun i cs t f hx h1 h2 => k.b i cs t f (h.b i cs t f hx h1 h2) h1 h2⟩
theorem blk_lt {w : World} {b : Nat} {o : Obj} (h : w.heap[b]? = some o) : b < w.heap.size := (Array.getElem?_eq_some_iff.1 h).1
theorem Keeps.kb8 {w w' : World} (h : Keeps [] w w') : KB8 w w' := ⟨h.size, fun b cs t f hx _ _ => (h.block b (blk_lt hx) (by simp)).trans hx⟩
/-- The variable in block `bb` holds a buffer of these bytes, all of it made since `w0`. -/
structure EB (w0 w : World) (bb : Nat) (l : List UInt8) : Prop where
  v : ∃ v, w.heap[bb]? = some (.cells #[v] tBs (0, 0)) ∧ Buf w w0.heap.size v l
  k : Keeps [] w0 w
  ge : w0.heap.size ≤ bb
theorem EB.keeps {w0 w w' : World} {bb : Nat} {l : List UInt8} (h : EB w0 w bb l) (hk : Keeps [] w w') : EB w0 w' bb l := by
  obtain ⟨v, h1, h2⟩ := h.v
  exact ⟨⟨v, (hk.block _ (blk_lt h1) (by simp)).trans h1, h2.keep hk⟩, h.k.trans hk, h.ge⟩
theorem EB.new (w : World) : EB w (w.alloc (.cells #[.slice none 0 0] tBs)) w.heap.size [] :=
  ⟨⟨_, heap_alloc_new _ _, Buf.nil _ _⟩, (Keeps.refl _ _).alloc _, Nat.le_refl _⟩
theorem Buf.tagB {w : World} {base : Nat} {v : Value} {l : List UInt8} (h : Buf w base v l) {b : Nat} (hb : v.ownBlock = some b) : base ≤ b ∧ ∃ (cs : Array Value), w.heap[b]? = some (Obj.cells cs tB (0, 0)) := by
  rcases h.2 with ⟨rfl, _⟩ | ⟨g, cap, cur, rfl, h1, hg, _⟩
  · simp [Value.ownBlock] at hb
  · simp [Value.ownBlock] at hb; subst hb; exact ⟨h1, _, hg⟩
theorem Buf.sep {w : World} {base : Nat} {v : Value} {l : List UInt8} (h : Buf w base v l) {b : Nat} {cs : Array Value} {t : TypeId} {f : Nat × Nat} (hb : w.heap[b]? = some (.cells cs t f)) (ht : t ≠ tB) : v.ownBlock ≠ some b := fun e => by
  obtain ⟨_, cs', hc⟩ := h.tagB e
  rw [hb] at hc
  cases hc
  exact ht rfl
theorem Grw.kb8 {w w' : World} {base : Nat} {v v' : Value} {l : List UInt8} (hG : Grw w w' v v') (h : Buf w base v l) : KB8 w w' :=
  ⟨hG.keepsO.size, fun b cs t f hx h1 _ => (hG.keepsO.block b (blk_lt hx) (fun hm => h.sep hx h1 (by simpa using hm))).trans hx⟩
theorem Buf.keepN {w w' : World} {base : Nat} {v : Value} {l : List UInt8} {S : List Nat} (h : Buf w base v l) (hk : Keeps S w w') (hS : ∀ b ∈ S, v.ownBlock ≠ some b) : Buf w' base v l := by
  refine ⟨h.1, ?_⟩
  rcases h.2 with hn | ⟨g, cap, cur, rfl, hb, hg, rest⟩
  · exact .inl hn
  · exact .inr ⟨g, cap, cur, rfl, hb, (hk.block g (blk_lt hg) (fun hm => hS g hm (by simp [Value.ownBlock]))).trans hg, rest⟩
theorem setCz {w : World} {b : Nat} {cs : Array Value} {t : TypeId} {f : Nat × Nat} (h : w.heap[b]? = some (.cells cs t f)) (o : Nat) (v : Value) : (w.setCell ⟨b, o, none⟩ v).heap[b]? = some (.cells (cs.setIfInBounds o v) t f) := by
  simp [World.setCell, Array.getElem?_modify, h]
/-- The buffer has grown and is stored again. -/
theorem EB.put {w0 w w1 w2 : World} {bb : Nat} {l l' : List UInt8} {v v' : Value} (h : EB w0 w bb l) (hk : Keeps [] w w1) (hb : w1.heap[bb]? = some (.cells #[v] tBs (0, 0))) (hB : Buf w1 w0.heap.size v l) (hG : Grw w1 w2 v v') (hB2 : Buf w2 w0.heap.size v' l') :
    EB w0 (w2.setCell ⟨bb, 0, none⟩ v') bb l' ∧ KB8 w1 (w2.setCell ⟨bb, 0, none⟩ v') ∧ (∀ o, w2.frozen? ⟨bb, o, none⟩ = false) ∧ w2.heap[bb]? = some (.cells #[v] tBs (0, 0)) := by
  have hb2 : w2.heap[bb]? = some (.cells #[v] tBs (0, 0)) := (hG.keepsO.block bb (blk_lt hb) (fun hm => hB.sep hb (by decide) (by simpa using hm))).trans hb
  have hks : Keeps [bb] w2 (w2.setCell ⟨bb, 0, none⟩ v') := (Keeps.refl _ _).setCell (.inr (by simp)) _
  have hk12 : Keeps [] w0 w2 := (h.k.trans hk).fresh hG.keepsO (fun b hm => .inr (hB.tagB (by simpa using hm)).1)
  refine ⟨⟨⟨v', ?_, ?_⟩, hk12.fresh hks (fun b hm => by simp only [List.mem_singleton] at hm; subst hm; exact .inr h.ge), h.ge⟩, ?_, fun o => by simp [World.frozen?, hb2], hb2⟩
  · have e := setCz hb2 0 v'
    simpa using e
  · exact hB2.keepN hks (fun b hm e => by
      simp only [List.mem_singleton] at hm
      subst hm
      exact hB2.sep hb2 (by decide) e)
  · exact ⟨Nat.le_trans hG.keepsO.size hks.size, fun b cs t f hx h1 h2 => by
      have h3 := (hG.kb8 hB).b b cs t f hx h1 h2
      exact (hks.block b (blk_lt h3) (fun hm => by simp only [List.mem_singleton] at hm; subst hm; rw [hb2] at h3; cases h3; exact h2 rfl)).trans h3⟩
def flatI (L : List Int) : List UInt8 := (L.map encI).flatten
theorem encI_len {n : Int} (h : W64 n) : (encI n).length ≤ 9 := encU_len (zig_lt (w64_iff.1 h))
theorem flatI_len : ∀ {L : List Int}, (∀ z ∈ L, W64 z) → (flatI L).length ≤ 9 * L.length
  | [], _ => by simp [flatI]
  | z :: L, h => by
    have h1 := encI_len (h z (by simp))
    have h2 := flatI_len (L := L) (fun y hy => h y (by simp [hy]))
    simp only [flatI, List.map_cons, List.flatten_cons, List.length_append, List.length_cons] at h2 ⊢
    omega
theorem flatI_take (L : List Int) (k : Nat) (hk : k < L.length) : flatI (L.take (k + 1)) = flatI (L.take k) ++ encI L[k] := by
  unfold flatI
  rw [List.take_succ_eq_append_getElem hk, List.map_append, List.flatten_append]
  simp
end Go.Proofs.Ytiplgpefapeapaa

namespace Go.Proofs.Ytiplgpefapeapaa
open Go.RowKit

/-- What a number's encoding at the head of `l` gives: the number and the rest. -/
def readU : List UInt8 → Option (Nat × List UInt8)
  | [] => none
  | k :: t => if k.toNat ≤ 8 ∧ k.toNat ≤ t.length ∧ (0 < k.toNat → t.headD 1 ≠ 0) then some (valU (t.take k.toNat), t.drop k.toNat) else none
/-- Bytes kept, and the tags of blocks of bytes. -/
def KV (w w' : World) : Prop := KB w w' ∧ ∀ (b : Nat) (cs : Array Value), w.heap[b]? = some (Obj.cells cs tB (0, 0)) → ∃ cs' : Array Value, w'.heap[b]? = some (Obj.cells cs' tB (0, 0))
theorem KV.trans {a b c : World} (h : KV a b) (k : KV b c) : KV a c := ⟨h.1.trans k.1, fun x cs hx => by obtain ⟨cs', h'⟩ := h.2 x cs hx; exact k.2 x cs' h'⟩
theorem KV.drew (w : World) : KV w w.drew := ⟨KB.drew w, fun _ cs h => ⟨cs, h⟩⟩
theorem KV.setCell (w : World) {b o : Nat} {u : Value} (v : Value) (h : w.cell? ⟨b, o, none⟩ = some u) (hu : ∀ x, u ≠ .int .u8 x) : KV w (w.setCell ⟨b, o, none⟩ v) :=
  ⟨KB.setCell w v h hu, fun x cs hx => by
    by_cases e : x = b
    · subst e
      obtain ⟨hlt, hk⟩ := Array.getElem?_eq_some_iff.1 hx
      simp [World.setCell, Array.getElem?_modify, hx]
    · exact ⟨cs, by
        rw [← hx]
        simp [World.setCell, Array.getElem?_modify, Ne.symm e]⟩⟩
theorem Keeps.kv {S : List Nat} {w w' : World} (h : Keeps S w w') (hS : ∀ b ∈ S, ∀ o x, w.cell? ⟨b, o, none⟩ ≠ some (.int .u8 x)) (hT : ∀ b ∈ S, ∀ cs : Array Value, w.heap[b]? ≠ some (Obj.cells cs tB (0, 0))) : KV w w' :=
  ⟨h.kb hS, fun b cs hb => ⟨cs, (h.block b (Array.getElem?_eq_some_iff.1 hb).1 (fun hm => hT b hm cs hb)).trans hb⟩⟩
theorem Keeps.kv0 {w w' : World} (h : Keeps [] w w') : KV w w' := h.kv (by simp) (by simp)
/-- A slice of bytes that lies in a block of bytes. -/
structure SlV (w : World) (v : Value) (l : List UInt8) : Prop where
  b : SlB w v l
  t : ∀ g : Nat, v.ownBlock = some g → ∃ cs : Array Value, w.heap[g]? = some (Obj.cells cs tB (0, 0))
namespace SlV
variable {w w' : World} {v : Value} {l : List UInt8}
theorem form (h : SlV w v l) : ∃ a cap, v = .slice a l.length cap := h.b.form
theorem cap (h : SlV w v l) : l.length ≤ maxLen := h.b.cap
theorem cases (h : SlV w v l) :
    (l = [] ∧ ∃ a cap, v = .slice a 0 cap ∧ cap ≤ maxLen ∧ (a = none → cap = 0)) ∨
    ∃ g o cap, v = .slice (some ⟨g, o, none⟩) l.length cap ∧ l.length ≤ cap ∧ cap ≤ maxLen ∧ 0 < l.length ∧ g < w.heap.size ∧ ∀ k (hk : k < l.length), w.cell? ⟨g, o + k, none⟩ = some (.int .u8 (l[k].toNat : Int)) := h.b.cases
theorem kv (h : SlV w v l) (hk : KV w w') : SlV w' v l := ⟨h.b.kb hk.1, fun g hg => by obtain ⟨cs, hc⟩ := h.t g hg; exact hk.2 g cs hc⟩
theorem keeps (h : SlV w v l) (hk : Keeps [] w w') : SlV w' v l := h.kv hk.kv0
theorem kb (h : SlV w v l) (hk : KV w w') : SlV w' v l := h.kv hk
theorem nil (w : World) : SlV w (.slice none 0 0) [] := ⟨SlB.nil w, fun g hg => by cases hg⟩
theorem tail {g o n cap : Nat} (h : SlV w (.slice (some ⟨g, o, none⟩) n cap) l) (a : Nat) (ha : a ≤ l.length) :
    SlV w (.slice (if cap = a then some ⟨g, o, none⟩ else some ⟨g, o + a, none⟩) (l.length - a) (cap - a)) (l.drop a) :=
  ⟨h.b.tail a ha, fun x hx => h.t x (by split at hx <;> exact hx)⟩
end SlV
theorem Buf.slV {w : World} {base : Nat} {v : Value} {l : List UInt8} (h : Buf w base v l) : SlV w v l := ⟨h.slB, fun _ hg => (h.tagB hg).2⟩
theorem cell2_of {w : World} {b : Nat} {u v : Value} {t : TypeId} (h : w.heap[b]? = some (.cells #[u, v] t (0, 0))) : w.cell? ⟨b, 0, none⟩ = some u ∧ w.cell? ⟨b, 1, none⟩ = some v ∧ w.frozen? ⟨b, 0, none⟩ = false ∧ w.frozen? ⟨b, 1, none⟩ = false ∧ b < w.heap.size := by
  refine ⟨by simp [World.cell?, h], by simp [World.cell?, h], by simp [World.frozen?, h], by simp [World.frozen?, h], (Array.getElem?_eq_some_iff.1 h).1⟩

/-- The error of a reader at the end. -/
def doneE (l : List UInt8) (e : Int) : Int := if e = 0 ∧ l ≠ [] then 11 else e
theorem cell1_of {w : World} {b : Nat} {u : Value} {t : TypeId} (h : w.heap[b]? = some (.cells #[u] t (0, 0))) : w.cell? ⟨b, 0, none⟩ = some u ∧ w.frozen? ⟨b, 0, none⟩ = false ∧ b < w.heap.size := by
  refine ⟨by simp [World.cell?, h], by simp [World.frozen?, h], (Array.getElem?_eq_some_iff.1 h).1⟩

end Go.Proofs.Ytiplgpefapeapaa

namespace Go.Proofs.Ytiplgpefapeapaa
open Go.RowKit

end Go.Proofs.Ytiplgpefapeapaa

namespace Go.Proofs.Ytiplgpefapeapaa
open Go.RowKit

theorem set2_0 {w : World} {b : Nat} {u v : Value} {t : TypeId} (h : w.heap[b]? = some (.cells #[u, v] t (0, 0))) (u' : Value) : (w.setCell ⟨b, 0, none⟩ u').heap[b]? = some (.cells #[u', v] t (0, 0)) := by
  obtain ⟨hlt, hk⟩ := Array.getElem?_eq_some_iff.1 h
  simp [World.setCell, Array.getElem?_modify, h]
theorem set2_1 {w : World} {b : Nat} {u v : Value} {t : TypeId} (h : w.heap[b]? = some (.cells #[u, v] t (0, 0))) (v' : Value) : (w.setCell ⟨b, 1, none⟩ v').heap[b]? = some (.cells #[u, v'] t (0, 0)) := by
  obtain ⟨hlt, hk⟩ := Array.getElem?_eq_some_iff.1 h
  simp [World.setCell, Array.getElem?_modify, h]
/-- One byte more, as the machine reckons it. -/
theorem or_byte (x y : Nat) (hx : (x : Int) < 72057594037927936) (hy : (y : Int) ≤ 255) : bits .or .u64 ((x : Int) * 256) (y : Int) = ((x * 256 + y : Nat) : Int) := by
  have h := u64_or_nat (x * 256) y (by omega) (by omega)
  have h2 : x * 256 + y = x * 256 ||| y := by
    have := Nat.shiftLeft_add_eq_or_of_lt (i := 8) (b := y) (by omega) x
    simpa [Nat.shiftLeft_eq] using this
  rw [h2, ← h]; simp

end Go.Proofs.Ytiplgpefapeapaa

namespace Go.Proofs.Ytiplgpefapeapaa
open Go.RowKit

theorem Keeps.back {S : List Nat} {a b c : World} (h : Keeps [] a b) (k : Keeps S b c) {T : List Nat} (hT : ∀ x ∈ S, x ∈ T ∨ a.heap.size ≤ x) : Keeps T a c :=
  (h.of_nil (T := T)).trans' k hT
/-- Both in one: what a number's reading gives and leaves. -/
def rdU (l : List UInt8) : Nat × List UInt8 × Int := match readU l with | some (x, r) => (x, r, 0) | none => (0, [], 11)
end Go.Proofs.Ytiplgpefapeapaa

namespace Go.Proofs.Ytiplgpefapeapaa
open Go.RowKit

/-- A reader's state: what is left, and the error. -/
abbrev RS := List UInt8 × Int
def rU (s : RS) : Nat × RS := if s.2 = 0 then (match readU s.1 with | some (x, r) => (x, (r, 0)) | none => (0, ([], 11))) else (0, s)
def readB : List UInt8 → Option (Bool × List UInt8)
  | [] => none
  | k :: t => if k.toNat ≤ 1 then some (k.toNat == 1, t) else none
def rB (s : RS) : Bool × RS := if s.2 = 0 then (match readB s.1 with | some (x, r) => (x, (r, 0)) | none => (false, ([], 11))) else (false, s)
end Go.Proofs.Ytiplgpefapeapaa

namespace Go.Proofs.Ytiplgpefapeapaa
open Go.RowKit

def cEK (K n : Nat) (l : List UInt8) : Int := if K < n then 8 else if l.length < n then 11 else 0
def rCK (K : Nat) (l : List UInt8) : Nat × RS := match readU l with | some (n, r) => if cEK K n r = 0 then (n, (r, 0)) else (0, ([], cEK K n r)) | none => (0, ([], 11))
theorem rCK_le (K : Nat) (l : List UInt8) : (rCK K l).1 ≤ K := by
  unfold rCK
  split
  · rename_i n r _
    split
    · rename_i h
      unfold cEK at h
      split at h
      · cases h
      · show n ≤ K
        omega
    · simp
  · simp
theorem readU_lt {l r : List UInt8} {n : Nat} (h : readU l = some (n, r)) : n < 18446744073709551616 := by
  cases l with
  | nil => cases h
  | cons k t =>
    rcases Classical.em (k.toNat ≤ 8 ∧ k.toNat ≤ t.length ∧ (0 < k.toNat → t.headD 1 ≠ 0)) with hc | hc
    · rw [readU, if_pos hc] at h
      simp only [Option.some.injEq, Prod.mk.injEq] at h
      rw [← h.1]
      have := valU_lt k.toNat (t.take k.toNat) (by rw [List.length_take]; omega)
      have h2 : (256 : Nat) ^ k.toNat ≤ 256 ^ 8 := Nat.pow_le_pow_right (by omega) hc.1
      omega
    · rw [readU, if_neg hc] at h; cases h
end Go.Proofs.Ytiplgpefapeapaa

namespace Go.Proofs.Ytiplgpefapeapaa
open Go.RowKit Go.ChangeShapes

end Go.Proofs.Ytiplgpefapeapaa

namespace Go.Proofs.Ytiplgpefapeapaa
open Go.RowKit Go.ChangeShapes

/-- The integer that a number on the wire stands for. -/
def uzig (n : Nat) : Int := if n % 2 = 0 then ((n / 2 : Nat) : Int) else -((n / 2 : Nat) : Int) - 1
theorem uzig_zig (n : Int) : uzig (zig n) = n := by unfold uzig zig; split <;> split <;> omega
theorem uzig_fit {n : Nat} (h : n < 18446744073709551616) : W64 (uzig n) := by
  unfold uzig
  split <;> exact w64_iff.2 ⟨by omega, by omega⟩
def rI (s : RS) : Int × RS := (uzig (rU s).1, (rU s).2)
theorem rU_lt (s : RS) : (rU s).1 < 18446744073709551616 := by
  unfold rU
  split
  · split
    · rename_i x r h; exact readU_lt h
    · show (0 : Nat) < _; decide
  · show (0 : Nat) < _; decide
theorem rI_fit (s : RS) : W64 (rI s).1 := uzig_fit (rU_lt s)
theorem xor_zero (k : Nat) (hk : k < 9223372036854775808) : bits .xor .i64 (k : Int) 0 = k := by
  show IntKind.i64.wrap ((BitVec.ofInt 64 (k : Int) ^^^ BitVec.ofInt 64 0).toNat : Int) = _
  have h2 : (BitVec.ofInt 64 (k : Int)).toNat = k := by
    rw [BitVec.ofInt_natCast, BitVec.toNat_ofNat]; exact Nat.mod_eq_of_lt (by omega)
  have h3 : (BitVec.ofInt 64 0).toNat = 0 := by decide
  rw [BitVec.toNat_xor, h2, h3, Nat.xor_zero, IntKind.wrap_i64]
  omega
theorem xor_ones (k : Nat) (hk : k < 9223372036854775808) : bits .xor .i64 (k : Int) (-1) = -(k : Int) - 1 := by
  have h := Go.Lib.i64_not k hk
  rw [← h]
  simp only [bits, BitVec.xor_comm]
def rCS (K : Nat) (s : RS) : Nat × RS := if s.2 = 0 then rCK K s.1 else (0, s)
theorem rCS_le (K : Nat) (s : RS) : (rCS K s).1 ≤ K := by
  unfold rCS
  split
  · exact rCK_le K s.1
  · simp
end Go.Proofs.Ytiplgpefapeapaa

namespace Go.Proofs.Ytiplgpefapeapaa
open Go.RowKit Go.ChangeShapes

def encX (x : T3) : List UInt8 := encI x.1 ++ encU x.2.1 ++ encI x.2.2
def encA0 (a : Ans) : List UInt8 := encI a.m ++ encI a.ow ++ encU a.n ++ encI a.ep ++ encB a.kn ++ encB a.rt ++ encI a.lu ++ encU a.ins.length
def encXs (L : List T3) : List UInt8 := (L.map encX).flatten
def encA (a : Ans) : List UInt8 := encA0 a ++ encXs a.ins
def encH (L : List Ans) : List UInt8 := (L.map encA).flatten
def encT0 (t : Tr) : List UInt8 := encI t.im ++ encI t.is ++ encI t.st.1 ++ encU t.st.2.1 ++ encI t.st.2.2 ++ encU t.told.toNat ++ encU t.hist.length
def encT (t : Tr) : List UInt8 := encT0 t ++ encH t.hist ++ encU t.ag.length ++ encB t.rf
theorem encXs_take (L : List T3) (k : Nat) (hk : k < L.length) : encXs (L.take (k + 1)) = encXs (L.take k) ++ encX L[k] := by
  unfold encXs
  rw [List.take_succ_eq_append_getElem hk, List.map_append, List.flatten_append]
  simp
theorem encH_take (L : List Ans) (k : Nat) (hk : k < L.length) : encH (L.take (k + 1)) = encH (L.take k) ++ encA L[k] := by
  unfold encH
  rw [List.take_succ_eq_append_getElem hk, List.map_append, List.flatten_append]
  simp
/-- Numbers that fit. -/
structure InsFit (x : T3) : Prop where
  a : W64 x.1
  n : x.2.1 < 18446744073709551616
  c : W64 x.2.2
theorem encX_len {x : T3} (h : InsFit x) : (encX x).length ≤ 27 := by
  have h1 := encI_len h.a
  have h2 := encU_len h.n
  have h3 := encI_len h.c
  simp only [encX, List.length_append]
  omega
theorem encXs_len : ∀ {L : List T3}, (∀ x ∈ L, InsFit x) → (encXs L).length ≤ 27 * L.length
  | [], _ => by simp [encXs]
  | x :: L, h => by
    have h1 := encX_len (h x (by simp))
    have h2 := encXs_len (L := L) (fun y hy => h y (by simp [hy]))
    simp only [encXs, List.map_cons, List.flatten_cons, List.length_append, List.length_cons] at h2 ⊢
    omega
theorem Ans.Ok.fitI {a : Ans} (h : a.Ok) : ∀ x ∈ a.ins, InsFit x := fun x hx => ⟨(h.ins x hx).1, (h.ins x hx).2.1, (h.ins x hx).2.2⟩
theorem encA0_len {a : Ans} (h : a.Ok) : (encA0 a).length ≤ 56 := by
  have h1 := encI_len h.q.1
  have h2 := encI_len h.q.2.1
  have h3 := encU_len h.q.2.2
  have h4 := encI_len h.ep
  have h5 := encI_len h.lu
  have h6 := encU_len (n := a.ins.length) (by have := h.len; omega)
  simp only [encA0, encB, List.length_append, List.length_cons, List.length_nil, Ans.q] at h1 h2 h3 ⊢
  omega
theorem encA_len {a : Ans} (h : a.Ok) (hi : a.ins.length ≤ 1000) : (encA a).length ≤ 27100 := by
  have h1 := encA0_len h
  have h2 := encXs_len h.fitI
  simp only [encA, List.length_append]
  omega
theorem encH_len : ∀ {L : List Ans}, (∀ a ∈ L, a.Ok ∧ a.ins.length ≤ 1000) → (encH L).length ≤ 27100 * L.length
  | [], _ => by simp [encH]
  | a :: L, h => by
    have h1 := encA_len (h a (by simp)).1 (h a (by simp)).2
    have h2 := encH_len (L := L) (fun y hy => h y (by simp [hy]))
    simp only [encH, List.map_cons, List.flatten_cons, List.length_append, List.length_cons] at h2 ⊢
    omega
/-- The trace's own numbers fit. -/
structure Tr.Num (t : Tr) : Prop where
  im : W64 t.im
  is : W64 t.is
  s0 : W64 t.st.1
  s1 : t.st.2.1 < 18446744073709551616
  s2 : W64 t.st.2.2
theorem EB.kp {w0 w w' : World} {bb : Nat} {l l' : List UInt8} (h : EB w0 w bb l) (k : EB w0 w' bb l') (hs : w.heap.size ≤ w'.heap.size) : Free.KeepsP (fun b => w0.heap.size ≤ b) w w' :=
  ⟨k.k.os.trans h.k.os.symm, k.k.tape.trans h.k.tape.symm, k.k.output.trans h.k.output.symm, hs, fun b _ hn => (k.k.block b (by omega) (by simp)).trans (h.k.block b (by omega) (by simp)).symm⟩
theorem csZ : ∀ zs : List Int, shZ.cs zs = zs.map (.int .i64)
  | [] => rfl
  | z :: zs => by
    show shZ.cf z ++ shZ.cs zs = _
    rw [csZ zs]
    rfl
theorem made_ints (w : World) (zs : List Int) (xs : Array Value) (n : Nat) (hx : xs.toList = zs.map (.int .i64)) (hn : zs.length = n) (hm : n ≤ 1000) : ∀ w', KB8 (w.alloc (.cells xs 3)) w' → shZ.R w' (.slice (some ⟨w.heap.size, 0, none⟩) n n) zs := fun w' hk => by
  subst hn
  have hn := heap_alloc_new w (.cells xs 3)
  have hb := hk.b _ _ _ _ hn (by decide) (by decide)
  have hR := Sh.R.made shZ w zs xs 3 (by rw [hx, csZ]) (by unfold maxLen; omega) zs.length rfl
  obtain ⟨h1, a, c, e, h2, h3, h4, h5⟩ := hR
  cases e
  refine ⟨h1, _, _, rfl, h2, h3, h4, fun hp => ?_⟩
  obtain ⟨g, o, e, hc⟩ := h5 hp
  cases e
  exact ⟨_, _, rfl, fun j u hj => (World.cell?_of_block (w := w.alloc (.cells xs 3)) (a := ⟨w.heap.size, 0 + j, none⟩) (by rw [hb, hn])).trans (hc j u hj)⟩
theorem EB.open {w0 w : World} {bb : Nat} {l : List UInt8} (h : EB w0 w bb l) : ∃ a N c, w.heap[bb]? = some (.cells #[.slice a N c] tBs (0, 0)) ∧ Buf w w0.heap.size (.slice a N c) l := by
  obtain ⟨v, h1, h2⟩ := h.v
  obtain ⟨a, c, rfl⟩ := h2.form
  exact ⟨a, _, c, h1, h2⟩
/-- What a call that appends and the store of its result leave. -/
def EPost (w0 w : World) (bb : Nat) (v : Value) (l : List UInt8) (e : Ending) (w2 : World) : Prop :=
  ∃ a N c, e = .returned (.slice a N c) ∧ Hid (w2.heap[bb]? = some (.cells #[v] tBs (0, 0))) ∧ Hid (EB w0 (w2.setCell ⟨bb, 0, none⟩ (.slice a N c)) bb l) ∧ Hid (KB8 w (w2.setCell ⟨bb, 0, none⟩ (.slice a N c))) ∧
    Hid ((w2.setCell ⟨bb, 0, none⟩ (.slice a N c)).heap[bb]? = some (.cells #[.slice a N c] tBs (0, 0))) ∧ Hid (Buf (w2.setCell ⟨bb, 0, none⟩ (.slice a N c)) w0.heap.size (.slice a N c) l) ∧ Hid (Free.KeepsP (fun b => v.ownBlock = some b ∨ w.heap.size ≤ b) w w2)
theorem EB.post {w0 w w2 : World} {bb : Nat} {l l' : List UInt8} {v v' : Value} (hE : EB w0 w bb l) (hbb : w.heap[bb]? = some (.cells #[v] tBs (0, 0))) (hB : Buf w w0.heap.size v l) (hB2 : Buf w2 w0.heap.size v' l') (hG : Grw w w2 v v') : EPost w0 w bb v l' (.returned v') w2 := by
  obtain ⟨a, c, hv⟩ := hB2.form
  subst hv
  obtain ⟨p1, p2, p3, p4⟩ := hE.put (Keeps.refl _ _) hbb hB hG hB2
  have p5 : (w2.setCell ⟨bb, 0, none⟩ (.slice a l'.length c)).heap[bb]? = some (.cells #[.slice a l'.length c] tBs (0, 0)) := by
    have e := setCz p4 0 (.slice a l'.length c)
    simpa using e
  obtain ⟨v3, q1, q2⟩ := p1.v
  have e3 : v3 = .slice a l'.length c := by rw [p5] at q1; cases q1; rfl
  subst e3
  exact ⟨a, _, c, rfl, Lib.hid p4, Lib.hid p1, Lib.hid p2, Lib.hid p5, Lib.hid q2, Lib.hid (Free.KeepsP.of hG.keepsO (fun b hb => .inl (by simpa using hb)))⟩
theorem EB.call {f : Nat} {args : Array Value} {w0 w : World} {bb : Nat} {l x : List UInt8} {v : Value} (hE : EB w0 w bb l) (hbb : w.heap[bb]? = some (.cells #[v] tBs (0, 0))) (hB : Buf w w0.heap.size v l)
    (hc : Calls Try.prog f args w fun e w' => ∃ v', e = .returned v' ∧ Buf w' w0.heap.size v' (l ++ x) ∧ Grw w w' v v') : Calls Try.prog f args w (EPost w0 w bb v (l ++ x)) :=
  hc.mono fun e w2 ⟨v', he, hB2, hG⟩ => by subst he; exact hE.post hbb hB hB2 hG
theorem EPost.low {w0 w : World} {bb : Nat} {v : Value} {l l' : List UInt8} (hB : Buf w w0.heap.size v l) (hE : EB w0 w bb l') : ∀ b, v.ownBlock = some b ∨ w.heap.size ≤ b → w0.heap.size ≤ b := fun b hb => by
  rcases hb with h | h
  · exact (hB.tagB h).1
  · exact Nat.le_trans hE.k.size h
end Go.Proofs.Ytiplgpefapeapaa

namespace Go.Proofs.Ytiplgpefapeapaa
open Go.RowKit Go.ChangeShapes

end Go.Proofs.Ytiplgpefapeapaa

namespace Go.Proofs.Ytiplgpefapeapaa
open Go.RowKit
def PendPost (w : World) (t : Tr) (m : Int) (e : Ending) (w' : World) : Prop :=
  ∃ r : Int, e = .returned (.int .i64 r) ∧ Keeps [] w w' ∧ ((t.state ≠ 1 ∧ r = 9) ∨ (t.state = 1 ∧ ∃ P Y p, SortedA t Y ∧ ClaimsP t Y P ∧ P[t.ag.length]? = some p ∧ r = (if p.m = m then 0 else 1)))
end Go.Proofs.Ytiplgpefapeapaa

namespace Go.Proofs.Ytiplgpefapeapaa
open Go.RowKit
namespace TrM
variable {w : World} {B bt bm : Nat} {vo vh vg : Value} {t : Tr}
end TrM
end Go.Proofs.Ytiplgpefapeapaa

namespace Go.Proofs.Ytiplgpefapeapaa
open Go.RowKit

def Tr.agreeT (t : Tr) (m : Int) : Tr × Int :=
  if t.state ≠ 1 then (t, 9) else match t.clm[t.ag.length]? with
  | some p => if p.m ≠ m then (t, 1) else ({ t with ag := t.ag ++ [m], state := if t.ag.length + 1 = t.clm.length then 2 else t.state }, 0)
  | none => (t, 0)
def Tr.refuseT (t : Tr) (m : Int) : Tr × Int :=
  if t.state ≠ 1 then (t, 9) else match t.clm[t.ag.length]? with
  | some p => if p.m ≠ m then (t, 1) else ({ t with state := 4, rf := true }, 0)
  | none => (t, 0)
def RPost (w : World) (x0 : RfV) (r : Tr × Int) (e : Ending) (w' : World) : Prop := ∃ x, e = .returned (.tuple #[rfV x, .int .i64 r.2]) ∧ RfR w' x r.1 ∧ Keeps [] w w' ∧ Fsh w w' x0 x
theorem Fsh_ag {w w' : World} {x x' : RfV} (h1 : x'.vo = x.vo) (h2 : x'.va = x.va) (h4 : x'.vh = x.vh) (h3 : ∀ b, (slv x'.vg).ownBlock = some b → w.heap.size ≤ b ∧ b < w'.heap.size) : Fsh w w' x x' := fun b hb => by
  rcases mem_blks.1 hb with e | e | e | e
  · exact .inl (mem_blks.2 (.inl (h1 ▸ e)))
  · exact .inl (mem_blks.2 (.inr (.inl (h2 ▸ e))))
  · exact .inr (h3 b e)
  · exact .inl (mem_blks.2 (.inr (.inr (.inr (h4 ▸ e)))))
theorem RPost.same {w W : World} {x : RfV} {t : Tr} {r : Tr × Int} {n : Int} (hr : r = (t, n)) (hR : RfR W x t) (hk : Keeps [] w W) : RPost w x r (.returned (.tuple #[rfV x, .int .i64 n])) W := by
  subst hr
  exact ⟨x, rfl, hR, hk, fun b hb => .inl hb⟩
end Go.Proofs.Ytiplgpefapeapaa

namespace Go.Proofs.Ytiplgpefapeapaa
open Go.RowKit
namespace TrM
variable {w w' : World} {B bt bm : Nat} {vo vh vg : Value} {t : Tr}
end TrM
end Go.Proofs.Ytiplgpefapeapaa

namespace Go.Proofs.Ytiplgpefapeapaa
open Go Go.RowKit

theorem ownsRow_set {w : World} {base e size n : Nat} {ys : List Value} {g cap : Nat} (h : w.ownsRow base e size (.slice (some ⟨g, 0, none⟩) n cap) n ys) (i : Nat) (c : Value) :
    (w.setCell ⟨g, i, none⟩ c).ownsRow base e size (.slice (some ⟨g, 0, none⟩) n cap) n (ys.set i c) := by
  obtain ⟨hl, h2⟩ := h
  rcases h2 with ⟨e, _⟩ | ⟨g', cap', cur, e, hb, hg, hle, hm, hsz, ht⟩
  · cases e
  · cases e
    refine ⟨by simpa using hl, .inr ⟨g, cap, cur.setIfInBounds i c, rfl, hb, setCs hg i c, hle, hm, by simpa using hsz, ?_⟩⟩
    rw [Array.toList_setIfInBounds, List.take_set, ht]
theorem set8_list {A C : List Value} {x0 x1 x2 x3 x4 x5 x6 x7 y0 y1 y2 y3 y4 y5 y6 y7 : Value} {m : Nat} (hm : A.length = m) :
    ((((((((A ++ ([x0, x1, x2, x3, x4, x5, x6, x7] ++ C)).set m y0).set (m + 1) y1).set (m + 2) y2).set (m + 3) y3).set (m + 4) y4).set (m + 5) y5).set (m + 6) y6).set (m + 7) y7 = A ++ ([y0, y1, y2, y3, y4, y5, y6, y7] ++ C) := by
  subst hm
  repeat rw [List.set_append_right (by omega)]
  simp
theorem cs_split (L : List AnV) (k : Nat) (hk : k < L.length) (y : AnV) : shA.cs L = shA.cs (L.take k) ++ (shA.cf L[k] ++ shA.cs (L.drop (k + 1))) ∧ shA.cs (L.set k y) = shA.cs (L.take k) ++ (shA.cf y ++ shA.cs (L.drop (k + 1))) := by
  refine ⟨?_, ?_⟩
  · have h : L = L.take k ++ (L[k] :: L.drop (k + 1)) := by rw [List.getElem_cons_drop, List.take_append_drop]
    rw [congrArg shA.cs h, Sh.cs_append]
    rfl
  · rw [List.set_eq_take_append_cons_drop, if_pos hk, Sh.cs_append]
    rfl
theorem O_set8 {w : World} {B e n c g : Nat} {L : List AnV} (h : shA.O w B e (.slice (some ⟨g, 0, none⟩) n c) L) (hn : L.length = n) (k : Nat) (hk : k < L.length) (y : AnV) :
    shA.O ((((((((w.setCell ⟨g, k * 8, none⟩ (.int .i64 y.m)).setCell ⟨g, k * 8 + 1, none⟩ (.int .i64 y.ow)).setCell ⟨g, k * 8 + 2, none⟩ (.int .u64 y.n)).setCell ⟨g, k * 8 + 3, none⟩ (.int .i64 y.ep)).setCell ⟨g, k * 8 + 4, none⟩ (.bool y.kn)).setCell ⟨g, k * 8 + 5, none⟩ (.bool y.rt)).setCell ⟨g, k * 8 + 6, none⟩ (.int .i64 y.lu)).setCell ⟨g, k * 8 + 7, none⟩ y.v) B e (.slice (some ⟨g, 0, none⟩) n c) (L.set k y) := by
  unfold Sh.O at h ⊢
  rw [hn] at h
  rw [List.length_set, hn]
  have h8 := ownsRow_set (ownsRow_set (ownsRow_set (ownsRow_set (ownsRow_set (ownsRow_set (ownsRow_set (ownsRow_set h (k * 8) (.int .i64 y.m)) (k * 8 + 1) (.int .i64 y.ow)) (k * 8 + 2) (.int .u64 y.n)) (k * 8 + 3) (.int .i64 y.ep)) (k * 8 + 4) (.bool y.kn)) (k * 8 + 5) (.bool y.rt)) (k * 8 + 6) (.int .i64 y.lu)) (k * 8 + 7) y.v
  obtain ⟨e1, e2⟩ := cs_split L k hk y
  have hA : (shA.cs (L.take k)).length = k * 8 := by
    rw [Sh.cs_len, List.length_take, Nat.min_eq_left (by omega)]
    rfl
  rw [e1, show shA.cf L[k] = [.int .i64 L[k].m, .int .i64 L[k].ow, .int .u64 L[k].n, .int .i64 L[k].ep, .bool L[k].kn, .bool L[k].rt, .int .i64 L[k].lu, L[k].v] from rfl, set8_list hA] at h8
  rw [e2]
  exact h8
theorem keeps8 (w : World) (g m : Nat) (x0 x1 x2 x3 x4 x5 x6 x7 : Value) : Keeps [g] w ((((((((w.setCell ⟨g, m, none⟩ x0).setCell ⟨g, m + 1, none⟩ x1).setCell ⟨g, m + 2, none⟩ x2).setCell ⟨g, m + 3, none⟩ x3).setCell ⟨g, m + 4, none⟩ x4).setCell ⟨g, m + 5, none⟩ x5).setCell ⟨g, m + 6, none⟩ x6).setCell ⟨g, m + 7, none⟩ x7) := by
  refine ((((((((Keeps.refl _ w).setCell ?_ _).setCell ?_ _).setCell ?_ _).setCell ?_ _).setCell ?_ _).setCell ?_ _).setCell ?_ _).setCell ?_ _ <;> exact .inr (by simp)
end Go.Proofs.Ytiplgpefapeapaa

namespace Go.Proofs.Ytiplgpefapeapaa
open Go.RowKit

theorem RA.set {w : World} {X : List AnV} {qs : Qs} {k : Nat} {y : AnV} {q : Qn} {a : Ans} (h : RA w X qs) (hy : InA w y a) : RA w (X.set k y) (qs.set k (q, some a)) := by
  obtain ⟨hl, hh⟩ := h
  refine ⟨by simp [hl], fun j u p hu hp => ?_⟩
  rw [List.getElem?_set] at hu hp
  by_cases hj : k = j
  · rw [if_pos hj] at hu hp
    split at hu
    · split at hp
      · cases hu; cases hp; exact hy
      · cases hp
    · cases hu
  · rw [if_neg hj] at hu hp
    exact hh j u p hu hp
theorem RA.open {w : World} {X : List AnV} {qs : Qs} {q : Qn} (h : RA w X qs) : RA w (X ++ [AnV.zero]) (qs ++ [(q, none)]) := by
  obtain ⟨hl, hh⟩ := h
  refine ⟨by simp [hl], fun j u p hu hp => ?_⟩
  by_cases hj : j < X.length
  · rw [List.getElem?_append_left hj] at hu
    rw [List.getElem?_append_left (by omega)] at hp
    exact hh j u p hu hp
  · rw [List.getElem?_append_right (by omega)] at hu hp
    rw [← hl] at hp
    obtain ⟨i, hi⟩ : ∃ i, j - X.length = i := ⟨_, rfl⟩
    rw [hi] at hu hp
    cases i with
    | zero => simp at hu hp; subst hu hp; rfl
    | succ i => simp at hu
theorem RA.all {w w' : World} {X : List AnV} {qs : Qs} (h : RA w X qs) (hk : ∀ (x : AnV) (b : Ans), InA w x b → InA w' x b) : RA w' X qs := by
  refine ⟨h.1, fun j u p hu hp => ?_⟩
  have h1 := h.2 j u p hu hp
  obtain ⟨q, v⟩ := p
  cases v with
  | some b => exact hk u b h1
  | none => exact h1
def Tr.answerR (t : Tr) (a : Ans) : Tr × Int :=
  if t.state ≠ 0 then (t, 9) else if isOpen a.q t.qs = false then (t, 6) else
  if a.kn = false then ({ t.take a with state := 4 }, 0) else if a.rt = true then ({ t.take a with state := 3 }, 0) else
  if t.rec'.any (fun p => Ans.odd a.m a.ep p.2) then ({ t.take a with state := 4 }, 0) else (((t.take a).put a).close, 0)
def oddAt (a : Ans) (p : Qn × Option Ans) : Bool := match p.2 with | some b => Ans.odd a.m a.ep b | none => false
theorem rec_odd (a : Ans) : ∀ qs : Qs, (recOf qs).any (fun p => Ans.odd a.m a.ep p.2) = qs.any (oddAt a)
  | [] => rfl
  | (x, none) :: r => by rw [recOf_none, List.any_cons, rec_odd a r]; rfl
  | (x, some b) :: r => by rw [recOf_some, List.any_cons, List.any_cons, rec_odd a r]; rfl
theorem odd_none {a : Ans} {qs : Qs} (h : ∀ j (hj : j < qs.length), oddAt a qs[j] = false) : (recOf qs).any (fun p => Ans.odd a.m a.ep p.2) = false := by
  rw [rec_odd, List.any_eq_false]
  intro p hp
  obtain ⟨j, hj, rfl⟩ := List.getElem_of_mem hp
  rw [h j hj]
  decide
theorem odd_some {a : Ans} {qs : Qs} {j : Nat} (hj : j < qs.length) (h : oddAt a qs[j] = true) : (recOf qs).any (fun p => Ans.odd a.m a.ep p.2) = true := by
  rw [rec_odd, List.any_eq_true]
  exact ⟨_, List.getElem_mem hj, h⟩
theorem setQ_set {q : Qn} {a : Ans} : ∀ {qs : Qs} (_ : (qs.map (·.1)).Nodup) (k : Nat) (hk : k < qs.length), qs[k].1 = q → setQ q a qs = qs.set k (q, some a)
  | [], _, _, h, _ => by simp at h
  | (x, u) :: r, hn, 0, _, e => by
    obtain ⟨h1, h2⟩ := List.nodup_cons.1 hn
    simp only [List.getElem_cons_zero] at e
    subst e
    rw [setQ_cons, if_pos rfl, setQ_same h1]
    rfl
  | (x, u) :: r, hn, k + 1, hk, e => by
    obtain ⟨h1, h2⟩ := List.nodup_cons.1 hn
    have hk' : k < r.length := by simpa using hk
    simp only [List.getElem_cons_succ] at e
    have hx : x ≠ q := fun e2 => h1 (by rw [e2, ← e]; exact List.mem_map.2 ⟨_, List.getElem_mem hk', rfl⟩)
    rw [setQ_cons, if_neg hx, setQ_set h2 k hk' e]
    rfl
theorem isOpen_at {t : Tr} (h : t.Inv) {q : Qn} {k : Nat} (hk : k < t.qs.length) (e : t.qs[k].1 = q) : isOpen q t.qs = !t.qs[k].2.isSome := by
  have hm := List.getElem_mem hk
  obtain ⟨⟨q', u⟩, hp⟩ : ∃ p, t.qs[k] = p := ⟨_, rfl⟩
  rw [hp] at hm e ⊢
  simp only at e
  subst e
  cases u with
  | none => exact isOpen_mem.2 hm
  | some b =>
    unfold isOpen
    simp only [Option.isSome_some, Bool.not_true, decide_eq_false_iff_not]
    intro h2
    have := nd_val h.nd hm h2
    cases this
theorem isOpen_not {t : Tr} {q : Qn} (h : q ∉ t.op) : isOpen q t.qs = false := by
  unfold isOpen
  simp only [decide_eq_false_iff_not]
  exact fun h2 => h (List.mem_map.2 ⟨_, h2, rfl⟩)
theorem LRd.snoc {w : World} {X : List AnV} {Y : List Ans} {x : AnV} {y : Ans} (h : LRd w X Y) (hx : InR w x y) : LRd w (X ++ [x]) (Y ++ [y]) := by
  obtain ⟨hl, hh⟩ := h
  refine ⟨by simp [hl], fun k u v hu hv => ?_⟩
  by_cases hk : k < X.length
  · rw [List.getElem?_append_left hk] at hu
    rw [List.getElem?_append_left (by omega)] at hv
    exact hh k u v hu hv
  · rw [List.getElem?_append_right (by omega)] at hu hv
    rw [← hl] at hv
    obtain ⟨j, hj⟩ : ∃ j, k - X.length = j := ⟨_, rfl⟩
    rw [hj] at hu hv
    cases j with
    | zero => simp at hu hv; subst hu hv; exact hx
    | succ j => simp at hu
theorem O_some {α : Type} {s : Sh α} {w : World} {B e : Nat} {v : Value} {L : List α} (h : s.O w B e v L) (hl : 0 < L.length) : ∃ g cap cur, v = .slice (some ⟨g, 0, none⟩) L.length cap ∧ B ≤ g ∧ w.heap[g]? = some (.cells cur e (0, 0)) ∧ L.length ≤ cap ∧ cur.size = cap * s.sz := by
  rcases h.2 with ⟨_, e⟩ | ⟨g, cap, cur, rfl, h1, h2, h3, _, h5, _⟩
  · omega
  · exact ⟨g, cap, cur, rfl, h1, h2, h3, h5⟩
theorem cells8f {w : World} {b : Nat} {x0 x1 x2 x3 x4 x5 x6 x7 : Value} {t : TypeId} (h : w.heap[b]? = some (.cells #[x0, x1, x2, x3, x4, x5, x6, x7] t (0, 0))) :
    w.cell? ⟨b, 0, none⟩ = some x0 ∧ w.cell? ⟨b, 1, none⟩ = some x1 ∧ w.cell? ⟨b, 2, none⟩ = some x2 ∧ w.cell? ⟨b, 3, none⟩ = some x3 ∧ w.cell? ⟨b, 4, none⟩ = some x4 ∧ w.cell? ⟨b, 5, none⟩ = some x5 ∧ w.cell? ⟨b, 6, none⟩ = some x6 ∧ w.cell? ⟨b, 7, none⟩ = some x7 ∧ (∀ o, w.frozen? ⟨b, o, none⟩ = false) ∧ b < w.heap.size := by
  refine ⟨?_, ?_, ?_, ?_, ?_, ?_, ?_, ?_, fun o => ?_, lt_of_blk h⟩ <;> simp [World.cell?, World.frozen?, h]
/-- While a trace gathers, its history are the recorded answers. -/
def Tr.HistOk (t : Tr) : Prop := t.state = 0 → ∀ b, b ∈ t.hist ↔ ∃ p ∈ t.rec', p.2 = b
theorem Tr.answerR_eq {t : Tr} {a : Ans} (h : t.HistOk) : t.answerR a = t.answer a := by
  unfold Tr.answerR Tr.answer
  by_cases hs : t.state = 0
  · have he : (t.rec'.any fun p => Ans.odd a.m a.ep p.2) = (t.hist ++ [a]).any (Ans.odd a.m a.ep) := by
      rw [Bool.eq_iff_iff, List.any_eq_true, List.any_eq_true]
      constructor
      · rintro ⟨p, hp, ho⟩
        exact ⟨p.2, List.mem_append_left _ ((h hs p.2).2 ⟨p, hp, rfl⟩), ho⟩
      · rintro ⟨b, hb, ho⟩
        rcases List.mem_append.1 hb with hb | hb
        · obtain ⟨p, hp, rfl⟩ := (h hs b).1 hb
          exact ⟨p, hp, ho⟩
        · rw [List.mem_singleton.1 hb] at ho
          simp [Ans.odd] at ho
    rw [he]
  · rw [if_pos hs, if_pos hs]
end Go.Proofs.Ytiplgpefapeapaa

namespace Go.Proofs.Ytiplgpefapeapaa
open Go.RowKit

theorem Tr.put_rec {t : Tr} {a : Ans} (hn : t.op.Nodup) (ho : isOpen a.q t.qs = true) (b : Ans) : (∃ p ∈ ((t.take a).put a).rec', p.2 = b) ↔ b = a ∨ ∃ p ∈ t.rec', p.2 = b := by
  have hm := isOpen_mem.1 ho
  have hq : a.q ∈ t.qs.map (·.1) := List.mem_map.2 ⟨_, hm, rfl⟩
  have hr : ((t.take a).put a).rec' = recOf (setQ a.q a t.qs) := fold_rec _ _ _
  rw [hr]
  constructor
  · rintro ⟨⟨k, c⟩, hp, rfl⟩
    rcases (setQ_mem hq k (some c)).1 (recOf_keys.1 hp) with ⟨_, e⟩ | ⟨_, e⟩
    · exact .inl (Option.some.inj e)
    · exact .inr ⟨(k, c), recOf_keys.2 e, rfl⟩
  · rintro (rfl | ⟨⟨k, c⟩, hp, rfl⟩)
    · exact ⟨(b.q, b), recOf_keys.2 ((setQ_mem hq _ _).2 (.inl ⟨rfl, rfl⟩)), rfl⟩
    · refine ⟨(k, c), recOf_keys.2 ((setQ_mem hq _ _).2 ?_), rfl⟩
      have hp2 : (k, some c) ∈ t.qs := recOf_keys.1 hp
      by_cases e : k = a.q
      · subst e
        have := nd_val hn hm hp2
        cases this
      · exact .inr ⟨e, hp2⟩
theorem Tr.HistOk.new (im is : Int) (st : T3) : (Tr.new im is st).HistOk := fun _ b => by simp [Tr.new, Tr.rec', recOf]
theorem Tr.close_hist (t : Tr) : t.close.hist = t.hist ∧ t.close.rec' = t.rec' ∧ (t.close.state = 0 → t.state = 0) := by
  unfold Tr.close
  split
  · exact ⟨rfl, rfl, fun h => by simp at h⟩
  · exact ⟨rfl, rfl, id⟩
theorem Tr.HistOk.answer {t : Tr} {a : Ans} (h : t.HistOk) (hi : t.Inv) : (t.answer a).1.HistOk := by
  unfold Tr.answer
  split
  · exact h
  split
  · exact h
  split
  · exact fun hs => by simp at hs
  split
  · exact fun hs => by simp at hs
  split
  · exact fun hs => by simp at hs
  rename_i h0 ho _ _ _
  intro _ b
  obtain ⟨e1, e2, _⟩ := Tr.close_hist ((t.take a).put a)
  simp only [e1, e2]
  have ho2 : isOpen a.q t.qs = true := by simpa using ho
  rw [Tr.put_rec hi.nd ho2, ← h (by simpa using h0) b]
  show b ∈ t.hist ++ [a] ↔ _
  simp [or_comm]
theorem Tr.HistOk.refuse {t : Tr} (h : t.HistOk) (m : Int) : (t.refuseT m).1.HistOk := by
  unfold Tr.refuseT
  split
  · exact h
  split
  · split
    · exact h
    · exact fun hs => by simp at hs
  · exact h
theorem Tr.HistOk.agree {t : Tr} (h : t.HistOk) (m : Int) : (t.agreeT m).1.HistOk := by
  unfold Tr.agreeT
  split
  · exact h
  rename_i h1
  split
  · split
    · exact h
    · intro hs
      simp only at hs
      split at hs
      · cases hs
      · have : t.state = 1 := by simpa using h1
        omega
  · exact h
theorem Tr.mid_zero {t : Tr} {a : Ans} (hn : t.op.Nodup) {k : Nat} (hk : k < t.qs.length) (e : t.qs[k].1 = a.q) : (t.mid a 0).qs = t.qs.set k (a.q, some a) ∧ (t.mid a 0).op = t.op := by
  have h1 : (t.mid a 0).qs = setQ a.q a t.qs := by unfold Tr.mid; simp
  refine ⟨by rw [h1, setQ_set hn k hk e], ?_⟩
  unfold Tr.op
  rw [h1, setQ_keys]
theorem Tr.mid_take (t : Tr) (a : Ans) (i : Nat) : (t.mid a i).hist = t.hist ++ [a] ∧ (t.mid a i).state = t.state ∧ (t.mid a i).im = t.im ∧ (t.mid a i).is = t.is ∧ (t.mid a i).st = t.st ∧ (t.mid a i).told = t.told ∧ (t.mid a i).ag = t.ag ∧ (t.mid a i).rf = t.rf := ⟨rfl, rfl, rfl, rfl, rfl, rfl, rfl, rfl⟩
theorem Tr.mid_rk {t : Tr} {a : Ans} (hi : t.Inv) (ho : isOpen a.q t.qs = true) (hk : a.kn = true) (i : Nat) : ∀ p ∈ (t.mid a i).rec', p.2.kn = true := by
  intro p hp
  have hr : (t.mid a i).rec' = recOf (setQ a.q a t.qs) := fold_rec _ _ _
  rw [hr] at hp
  obtain ⟨q, b⟩ := p
  have hm := isOpen_mem.1 ho
  rcases (setQ_mem (List.mem_map.2 ⟨_, hm, rfl⟩) q (some b)).1 (recOf_keys.1 hp) with ⟨_, e⟩ | ⟨_, e⟩
  · rw [Option.some.inj e]; exact hk
  · exact hi.rk (q, b) (recOf_keys.2 e)
end Go.Proofs.Ytiplgpefapeapaa

namespace Go.Proofs.Ytiplgpefapeapaa
open Go.ChangeShapes Go.WideShapes Go.ChangeAt Go.RowKit

structure Op3 where
  k : Nat
  i : Int
  near : Bool
  a : Ans
structure Op3.Fit (o : Op3) : Prop where
  k : o.k < 256
  i : W64 o.i
  a : o.a.Fit
/-- The cells of an operation. -/
def OpC (w : World) (cs : List Value) (o : Op3) : Prop := ∃ x : AnV, cs = .int .u8 o.k :: .int .i64 o.i :: .bool o.near :: x.cs ∧ InR w x o.a ∧ o.Fit
theorem OpC.keeps {w w' : World} {cs : List Value} {o : Op3} (h : OpC w cs o) (hk : Keeps [] w w') : OpC w' cs o := by
  obtain ⟨x, h1, h2, h3⟩ := h
  exact ⟨x, h1, h2.keep hk (by simp), h3⟩
/-- A list of operations that is read. -/
def LO (w : World) (v : Value) (L : List Op3) : Prop := Gen.SlR OpC 11 w v L
theorem LO.keeps {w w' : World} {v : Value} {L : List Op3} (h : LO w v L) (hk : Keeps [] w w') : LO w' v L := Gen.SlR.keeps h hk (fun _ _ h => h.keeps hk)
theorem LO.elem {w : World} {v : Value} {L : List Op3} (h : LO w v L) {k : Nat} (hk : k < L.length) : ∃ g o c x, v = .slice (some ⟨g, o, none⟩) L.length c ∧ InR w x L[k].a ∧ L[k].Fit ∧
    w.cell? ⟨g, o + k * 11, none⟩ = some (.int .u8 L[k].k) ∧ w.cell? ⟨g, o + k * 11 + 1, none⟩ = some (.int .i64 L[k].i) ∧ w.cell? ⟨g, o + k * 11 + 2, none⟩ = some (.bool L[k].near) ∧ w.cell? ⟨g, o + k * 11 + 3, none⟩ = some (.int .i64 x.m) ∧ w.cell? ⟨g, o + k * 11 + 4, none⟩ = some (.int .i64 x.ow) ∧
    w.cell? ⟨g, o + k * 11 + 5, none⟩ = some (.int .u64 x.n) ∧ w.cell? ⟨g, o + k * 11 + 6, none⟩ = some (.int .i64 x.ep) ∧ w.cell? ⟨g, o + k * 11 + 7, none⟩ = some (.bool x.kn) ∧ w.cell? ⟨g, o + k * 11 + 8, none⟩ = some (.bool x.rt) ∧ w.cell? ⟨g, o + k * 11 + 9, none⟩ = some (.int .i64 x.lu) ∧ w.cell? ⟨g, o + k * 11 + 10, none⟩ = some x.v := by
  obtain ⟨g, o, c, xs, h1, h2, ⟨x, e, h3, h4⟩, h5⟩ := Gen.SlR.elem h (by decide) hk
  subst e
  exact ⟨g, o, c, x, h1, h3, h4, h5 0 _ rfl, h5 1 _ rfl, h5 2 _ rfl, h5 3 _ rfl, h5 4 _ rfl, h5 5 _ rfl, h5 6 _ rfl, h5 7 _ rfl, h5 8 _ rfl, h5 9 _ rfl, h5 10 _ rfl⟩
/-- The questions without an answer. -/
def opens (qs : Qs) : List Qn := (qs.filter (fun p => !p.2.isSome)).map (·.1)
theorem opens_snoc (qs : Qs) (p : Qn × Option Ans) : opens (qs ++ [p]) = opens qs ++ if p.2.isSome then [] else [p.1] := by
  unfold opens
  rw [List.filter_append, List.map_append]
  obtain ⟨q, u⟩ := p
  cases u <;> simp
theorem opens_len (qs : Qs) : (opens qs).length ≤ qs.length := by unfold opens; rw [List.length_map]; exact List.length_filter_le _ _
theorem opens_mem {qs : Qs} {q : Qn} (h : q ∈ opens qs) : q ∈ qs.map (·.1) := by
  unfold opens at h
  obtain ⟨p, hp, rfl⟩ := List.mem_map.1 h
  exact List.mem_map.2 ⟨p, (List.mem_filter.1 hp).1, rfl⟩
/-- The chosen one. -/
def pick (i : Int) (n : Nat) : Nat := (Int.tmod (Int.tmod i n + n) n).toNat
theorem pick_lt {i : Int} {n : Nat} (h : 0 < n) : pick i n < n ∧ (pick i n : Int) = Int.tmod (Int.tmod i n + n) n ∧ 0 ≤ Int.tmod i n + n ∧ Int.tmod i n + n ≤ 2 * n := by
  have h1 := Int.tmod_lt_of_pos i (show (0 : Int) < n by omega)
  have h2 := Int.lt_tmod_of_pos i (show (0 : Int) < n by omega)
  have h3 := Int.tmod_lt_of_pos (Int.tmod i n + n) (show (0 : Int) < n by omega)
  have h4 := Int.tmod_nonneg (a := Int.tmod i n + n) (n : Int) (by omega)
  unfold pick
  omega
def Op3.aim (o : Op3) (qs : Qs) : Ans := if o.k ≤ 1 ∧ 0 < (opens qs).length then (match (opens qs)[pick o.i (opens qs).length]? with | some q => { o.a with m := q.1, ow := q.2.1, n := q.2.2 } | none => o.a) else o.a
theorem aim_in {o : Op3} {qs : Qs} (h1 : o.k ≤ 1) (h2 : 0 < (opens qs).length) : o.aim qs = { o.a with m := ((opens qs)[pick o.i (opens qs).length]'(pick_lt h2).1).1, ow := ((opens qs)[pick o.i (opens qs).length]'(pick_lt h2).1).2.1, n := ((opens qs)[pick o.i (opens qs).length]'(pick_lt h2).1).2.2 } := by
  unfold Op3.aim
  rw [if_pos ⟨h1, h2⟩, List.getElem?_eq_getElem (pick_lt h2).1]
theorem aim_out {o : Op3} {qs : Qs} (h : ¬ (o.k ≤ 1 ∧ 0 < (opens qs).length)) : o.aim qs = o.a := by unfold Op3.aim; rw [if_neg h]
theorem aim_ins (o : Op3) (qs : Qs) : (o.aim qs).ins = o.a.ins := by
  unfold Op3.aim
  split
  · split <;> rfl
  · rfl
/-- The machine that a reply is for. -/
def Op3.mach (o : Op3) (t : Tr) : Int := if o.near = true ∧ t.state = 1 then (match t.clm[t.ag.length]? with | some p => p.m | none => o.i) else o.i
def Op3.step (o : Op3) (t : Tr) : Tr :=
  if o.k ≤ 3 then (t.answer (o.aim t.qs)).1 else if o.k = 4 then t.queries.1 else if o.k = 5 then (t.agreeT (o.mach t)).1 else if o.k = 6 then (t.refuseT (o.mach t)).1 else t
end Go.Proofs.Ytiplgpefapeapaa

namespace Go.Proofs.Ytiplgpefapeapaa
open Go.RowKit

/-- A trace after n operations of at most five entries each. -/
structure Tr.Bnd (t : Tr) (n : Nat) : Prop where
  ho : t.HistOk
  qs : t.qs.length ≤ 1 + 5 * n
  ne : t.qs ≠ []
  hl : t.hist.length ≤ n
  hi : ∀ a ∈ t.hist, a.ins.length ≤ 5
  ag : t.ag.length ≤ n
  tl : ∃ tn : Nat, t.told = tn ∧ tn ≤ t.qs.length
  s1 : t.state = 1 → t.ag.length < t.clm.length
  s0 : t.state = 0 → t.ag = []
  rf : t.rf = true → t.state = 4
theorem Tr.clm_qs {t u : Tr} (h : u.qs = t.qs) : u.clm = t.clm := by
  cases t; cases u
  simp only at h
  subst h
  rfl
theorem Tr.clm_pos {t : Tr} (h : t.Inv) (hn : t.rec' ≠ []) : 0 < t.clm.length := by
  have hs := srtOf_sorted h
  have hp : ClaimsP t (srtOf t.qs) t.clm := refOf_claims hs.2
  obtain ⟨h1, _⟩ := ClaimsP.at' hs.2 hp
  rw [h1]
  obtain ⟨_, _, h3⟩ := rawOf_eq t (outsOf (srtOf t.qs)) (srtOf t.qs) hs.2
  obtain ⟨p, hpm⟩ := List.exists_mem_of_ne_nil _ hn
  have hm : p.2 ∈ srtOf t.qs := hs.1.mem_iff.2 (List.mem_map.2 ⟨p, hpm, rfl⟩)
  have := (h3 p.2.m).2 ⟨p.2, hm, rfl⟩
  exact List.length_pos_of_mem this
theorem Tr.Bnd.new (im is : Int) (st : T3) : (Tr.new im is st).Bnd 0 :=
  ⟨Tr.HistOk.new im is st, by simp [Tr.new], by simp [Tr.new], by simp [Tr.new], by simp [Tr.new], by simp [Tr.new], ⟨0, rfl, by simp [Tr.new]⟩, by simp [Tr.new], by simp [Tr.new], by simp [Tr.new]⟩
theorem Tr.Bnd.mono {t : Tr} {n m : Nat} (h : t.Bnd n) (hm : n ≤ m) : t.Bnd m := ⟨h.ho, by have := h.qs; omega, h.ne, by have := h.hl; omega, h.hi, by have := h.ag; omega, h.tl, h.s1, h.s0, h.rf⟩
theorem setQ_length (q : Qn) (a : Ans) (qs : Qs) : (setQ q a qs).length = qs.length := by unfold setQ; simp
theorem fold_ge (m : Int) : ∀ (l : List T3) (qs : Qs), qs.length ≤ (l.foldl (openQ m) qs).length
  | [], _ => Nat.le_refl _
  | x :: l, qs => Nat.le_trans (by unfold openQ; split <;> simp) (fold_ge m l (openQ m qs x))
theorem Tr.Bnd.answer {t : Tr} {n : Nat} {a : Ans} (h : t.Bnd n) (hi : t.Inv) (hi' : (t.answer a).1.Inv) (ha : a.ins.length ≤ 5) : (t.answer a).1.Bnd (n + 1) := by
  have hho := h.ho.answer (a := a) hi
  have hist : ∀ b ∈ t.hist ++ [a], b.ins.length ≤ 5 := fun b hb => by
    rcases List.mem_append.1 hb with hb | hb
    · exact h.hi b hb
    · rw [List.mem_singleton.1 hb]; exact ha
  have hl : (t.hist ++ [a]).length ≤ n + 1 := by have := h.hl; simp; omega
  have hg : t.ag.length ≤ n + 1 := by have := h.ag; omega
  have hq : t.qs.length ≤ 1 + 5 * (n + 1) := by have := h.qs; omega
  revert hho hi'
  unfold Tr.answer
  split
  · exact fun _ _ => h.mono (by omega)
  rename_i h0
  have h0 : t.state = 0 := by simpa using h0
  have hrf : t.rf = false := by
    cases e : t.rf with
    | false => rfl
    | true => have := h.rf e; omega
  split
  · exact fun _ _ => h.mono (by omega)
  split
  · exact fun _ hho => ⟨hho, hq, h.ne, hl, hist, hg, h.tl, by simp, by simp, fun _ => rfl⟩
  split
  · exact fun _ hho => ⟨hho, hq, h.ne, hl, hist, hg, h.tl, by simp, by simp, fun e => by simp [Tr.take, hrf] at e⟩
  split
  · exact fun _ hho => ⟨hho, hq, h.ne, hl, hist, hg, h.tl, by simp, by simp, fun _ => rfl⟩
  intro hi' hho
  obtain ⟨tn, e1, e2⟩ := h.tl
  have hlen : ((t.take a).put a).qs.length ≤ 1 + 5 * (n + 1) := by
    have := fold_len a.m a.ins (setQ a.q a t.qs)
    rw [setQ_length] at this
    have h2 := h.qs
    show (a.ins.foldl (openQ a.m) (setQ a.q a t.qs)).length ≤ _
    omega
  have hge : t.qs.length ≤ ((t.take a).put a).qs.length := by
    have := fold_ge a.m a.ins (setQ a.q a t.qs)
    rw [setQ_length] at this
    exact this
  have hpos : 0 < t.qs.length := List.length_pos_iff.2 h.ne
  have hne : ((t.take a).put a).qs ≠ [] := List.length_pos_iff.1 (by omega)
  unfold Tr.close at hho hi' ⊢
  by_cases hall : allQ ((t.take a).put a).qs = true
  · simp only [hall, if_true] at hho hi' ⊢
    refine ⟨hho, hlen, hne, hl, hist, hg, ⟨tn, e1, by simp only; omega⟩, fun _ => ?_, by simp, fun e => by simp [Tr.take, Tr.put, hrf] at e⟩
    have hag : ((t.take a).put a).ag = [] := h.s0 h0
    have hcp := Tr.clm_pos hi' (fun e => by
      have := (rec_len ((t.take a).put a).qs).2.2 hall
      have e' : recOf ((t.take a).put a).qs = [] := e
      rw [e'] at this
      simp at this
      omega)
    show ((t.take a).put a).ag.length < _
    rw [hag]
    exact hcp
  · simp only [hall] at hho hi' ⊢
    exact ⟨hho, hlen, hne, hl, hist, hg, ⟨tn, e1, by simp only [Bool.false_eq_true, if_false]; omega⟩, fun e => by simp [Tr.take, Tr.put, h0] at e, fun _ => h.s0 h0, fun e => by simp [Tr.take, Tr.put, hrf] at e⟩
theorem Tr.Bnd.queries {t : Tr} {n : Nat} (h : t.Bnd n) : t.queries.1.Bnd (n + 1) := by
  unfold Tr.queries
  split
  · exact h.mono (by omega)
  · exact ⟨h.ho, by have := h.qs; simp only; omega, h.ne, by have := h.hl; simp only; omega, h.hi, by have := h.ag; simp only; omega, ⟨t.qs.length, rfl, Nat.le_refl _⟩, h.s1, h.s0, h.rf⟩
theorem Tr.Bnd.agree {t : Tr} {n : Nat} (h : t.Bnd n) (m : Int) : (t.agreeT m).1.Bnd (n + 1) := by
  have hho := h.ho.agree m
  revert hho
  unfold Tr.agreeT
  split
  · exact fun _ => h.mono (by omega)
  rename_i h1
  have h1 : t.state = 1 := by simpa using h1
  have hlt := h.s1 h1
  split
  · split
    · exact fun _ => h.mono (by omega)
    · intro hho
      refine ⟨hho, by have := h.qs; simp only; omega, h.ne, by have := h.hl; simp only; omega, h.hi, by have := h.ag; simp; omega, h.tl, fun e => ?_, fun e => ?_, fun e => ?_⟩
      · simp only at e
        split at e
        · omega
        · rename_i hne
          have e2 := @Tr.clm_qs t { t with ag := t.ag ++ [m], state := if t.ag.length + 1 = t.clm.length then 2 else t.state } rfl
          rw [e2]
          simp only [List.length_append, List.length_cons, List.length_nil]
          omega
      · simp only at e
        split at e <;> omega
      · have := h.rf e
        omega
  · exact fun _ => h.mono (by omega)
theorem Tr.Bnd.refuse {t : Tr} {n : Nat} (h : t.Bnd n) (m : Int) : (t.refuseT m).1.Bnd (n + 1) := by
  have hho := h.ho.refuse m
  revert hho
  unfold Tr.refuseT
  split
  · exact fun _ => h.mono (by omega)
  split
  · split
    · exact fun _ => h.mono (by omega)
    · intro hho
      exact ⟨hho, by have := h.qs; simp only; omega, h.ne, by have := h.hl; simp only; omega, h.hi, by have := h.ag; simp only; omega, h.tl, by simp, by simp, fun _ => rfl⟩
  · exact fun _ => h.mono (by omega)
/-- The aimed answer fits. -/
theorem aim_fit {o : Op3} {t : Tr} (h : o.Fit) (hi : t.Inv) : (o.aim t.qs).Fit := by
  by_cases hc : o.k ≤ 1 ∧ 0 < (opens t.qs).length
  · rw [aim_in hc.1 hc.2]
    have hm := opens_mem (List.getElem_mem (pick_lt (i := o.i) hc.2).1)
    have hq := hi.ok _ hm
    exact ⟨hq, h.a.ep, h.a.lu, h.a.ins⟩
  · rw [aim_out hc]; exact h.a
theorem Op3.step_bnd {o : Op3} {t : Tr} {n : Nat} (h : t.Bnd n) (hi : t.Inv) (hi' : (o.step t).Inv) (ha : o.a.ins.length ≤ 5) : (o.step t).Bnd (n + 1) := by
  revert hi'
  unfold Op3.step
  split
  · exact fun hi' => h.answer hi hi' (by rw [aim_ins]; exact ha)
  split
  · exact fun _ => h.queries
  split
  · exact fun _ => h.agree _
  split
  · exact fun _ => h.refuse _
  · exact fun _ => h.mono (by omega)
/-- A run of operations. -/
def runT (L : List Op3) (t : Tr) : Tr := L.foldl (fun t o => o.step t) t
theorem runT_snoc (L : List Op3) (o : Op3) (t : Tr) : runT (L ++ [o]) t = o.step (runT L t) := by unfold runT; rw [List.foldl_append]; rfl
theorem runT_take (L : List Op3) (t : Tr) (k : Nat) (hk : k < L.length) : runT (L.take (k + 1)) t = L[k].step (runT (L.take k) t) := by
  rw [List.take_succ_eq_append_getElem hk, runT_snoc]
end Go.Proofs.Ytiplgpefapeapaa
