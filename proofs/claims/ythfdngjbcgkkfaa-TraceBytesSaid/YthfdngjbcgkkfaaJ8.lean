/- Texts that the laws lean on, in the order in which they build. The specification's Sorted. The specification's put. The specification's ClaimsOf. The specification's ClaimsOf: the walk. The specification's New and Queries. -/
import Derived.Test.YthfdngjbcgkkfaaJ7
import Derived.Deep.CutRange
set_option linter.unusedVariables false
set_option linter.unusedSimpArgs false
namespace Go.Proofs.Ythfdngjbcgkkfaa
open Go.RowKit

theorem LRd.ins {w : World} {X : List AnV} {Y : List Ans} {x : AnV} {y : Ans} (h : LRd w X Y) (hx : InR w x y) (k : Nat) : LRd w (X.take k ++ [x] ++ X.drop k) (Y.take k ++ y :: Y.drop k) := by
  obtain ⟨hl, hh⟩ := h
  refine ⟨by simp; omega, fun j a b ha hb => ?_⟩
  rw [List.append_assoc, List.singleton_append] at ha
  have htl : (X.take k).length = (Y.take k).length := by simp [hl]
  by_cases h1 : j < (X.take k).length
  · rw [List.getElem?_append_left h1] at ha
    rw [List.getElem?_append_left (by omega)] at hb
    rw [List.getElem?_take] at ha hb
    split at ha
    · rename_i hjk
      rw [if_pos hjk] at hb
      exact hh j a b ha hb
    · cases ha
  · rw [List.getElem?_append_right (by omega)] at ha
    rw [List.getElem?_append_right (by omega)] at hb
    rw [← htl] at hb
    obtain ⟨i, hi⟩ : ∃ i, j - (X.take k).length = i := ⟨_, rfl⟩
    rw [hi] at ha hb
    cases i with
    | zero => simp at ha hb; subst ha hb; exact hx
    | succ i =>
      simp only [List.getElem?_cons_succ, List.getElem?_drop] at ha hb
      exact hh _ a b ha hb
theorem insO_len (l : List Ans) (p : Qn × Option Ans) : (insO l p).length ≤ l.length + 1 := by
  unfold insO
  split
  · rw [(insA_perm _ _).length_eq]; simp
  · omega
def SortPost (w : World) (t : Tr) (e : Ending) (w' : World) : Prop := ∃ v, e = .returned v ∧ RdA w' v (srtOf t.qs) ∧ Keeps [] w w'
set_option maxRecDepth 100000 in
set_option maxHeartbeats 20000000 in
theorem sortedR_c (w : World) (x : RfV) (t : Tr) (h : RfR w x t) (hr : ∀ p ∈ t.rec', p.2.kn = true) (hl : t.qs.length ≤ 1000) :
    Calls Try.prog 22 #[rfV x] w (SortPost w t) := by
  have hans := fun (W : World) (hk : Keeps [] w W) (k : Nat) (hkq : k < t.qs.length) => answeredR_c W x t k (h.keeps hk) hr hkq
  obtain ⟨XA, hXA, hXR⟩ := h.an
  have hO := h.op
  obtain ⟨x0, x1, x2, x3, x4, x5, ⟨x6, x7, x8⟩, ⟨x9, x10, x11⟩, x12, ⟨x13, x14, x15⟩, x16, ⟨x17, x18, x19⟩⟩ := x
  simp only [slv, rfV] at hXA hans hO
  have hx7 : t.qs.length = x7 := by
    obtain ⟨_, _, e, _⟩ := hO.form
    simp only [Value.slice.injEq] at e
    rw [e.2.1]; simp [Tr.op]
  have hx10 : XA.length = x10 := by
    obtain ⟨_, _, e, _⟩ := hXA.form
    simp only [Value.slice.injEq] at e
    exact e.2.1.symm
  have hx1010 : x7 = x10 := by rw [← hx10, hXR.1, hx7]
  subst hx1010
  rw [hx7] at hl
  have hel := fun k hk => hXA.elem (k := k) hk
  have hb0 := ((Keeps.refl [] (w.alloc (.cells #[.int .i64 x0, .int .i64 x1, .int .i64 x2, .int .u64 x3, .int .i64 x4, .int .i64 x5, .slice x6 x7 x8, .slice x9 x7 x11, .int .i64 x12, .slice x13 x14 x15, .bool x16, .slice x17 x18 x19] tR))).alloc (.cells #[] tA)).block _ (by simp) (by simp) |>.trans (heap_alloc_new w (.cells #[.int .i64 x0, .int .i64 x1, .int .i64 x2, .int .u64 x3, .int .i64 x4, .int .i64 x5, .slice x6 x7 x8, .slice x9 x7 x11, .int .i64 x12, .slice x13 x14 x15, .bool x16, .slice x17 x18 x19] tR))
  have hkA : Keeps [] w ((w.alloc (.cells #[.int .i64 x0, .int .i64 x1, .int .i64 x2, .int .u64 x3, .int .i64 x4, .int .i64 x5, .slice x6 x7 x8, .slice x9 x7 x11, .int .i64 x12, .slice x13 x14 x15, .bool x16, .slice x17 x18 x19] tR)).alloc (.cells #[] tA)) := ((Keeps.refl _ _).alloc _).alloc _
  have hfr := Sh.O.fresh shA (w.alloc (.cells #[.int .i64 x0, .int .i64 x1, .int .i64 x2, .int .u64 x3, .int .i64 x4, .int .i64 x5, .slice x6 x7 x8, .slice x9 x7 x11, .int .i64 x12, .slice x13 x14 x15, .bool x16, .slice x17 x18 x19] tR)) w.heap.size tA (by simp)
  rw [show (w.alloc (.cells #[.int .i64 x0, .int .i64 x1, .int .i64 x2, .int .u64 x3, .int .i64 x4, .int .i64 x5, .slice x6 x7 x8, .slice x9 x7 x11, .int .i64 x12, .slice x13 x14 x15, .bool x16, .slice x17 x18 x19] tR)).heap.size = w.heap.size + 1 by simp] at hfr
  replace h := Lib.hid h
  replace hkA := Lib.hid hkA
  replace hb0 := Lib.hid hb0
  replace hfr := Lib.hid hfr
  replace hel := Lib.hid hel
  replace hans := Lib.hid hans
  replace hx7 := Lib.hid hx7
  replace hx10 := Lib.hid hx10
  replace hO := Lib.hid hO
  replace hXA := Lib.hid hXA
  replace hXR := Lib.hid hXR
  clear hr
  simp only [rfV, slv]
  go_enter Try.func22, Try.ntmps22
  go_wp2
  generalize ((w.alloc (.cells #[.int .i64 x0, .int .i64 x1, .int .i64 x2, .int .u64 x3, .int .i64 x4, .int .i64 x5, .slice x6 x7 x8, .slice x9 x7 x11, .int .i64 x12, .slice x13 x14 x15, .bool x16, .slice x17 x18 x19] tR)).alloc (.cells #[] tA)) = W at *
  go_loopw [3, 4] (fun ov i wr => ∃ (k : Nat) (X : List AnV), i = .int .i64 k ∧ k ≤ x7 ∧ Hid (shA.O wr w.heap.size tA ov X) ∧ Hid (LRd wr X ((t.qs.take k).foldl insO [])) ∧ Hid (Keeps [] w wr) ∧ Hid (wr.heap[w.heap.size]? = some (.cells #[.int .i64 x0, .int .i64 x1, .int .i64 x2, .int .u64 x3, .int .i64 x4, .int .i64 x5, .slice x6 x7 x8, .slice x9 x7 x11, .int .i64 x12, .slice x13 x14 x15, .bool x16, .slice x17 x18 x19] tR))) (fun _ i _ => x7 - (intOf i).toNat)
  case atStart => exact ⟨0, [], rfl, by omega, hfr, Lib.hid ⟨rfl, fun k x y h => by simp at h⟩, hkA, hb0⟩
  case round =>
    obtain ⟨k, X, rfl, hk, hOr, hLr, hkr, hbx⟩ := hrel
    obtain ⟨y0, y1, y2, y3, y4, y5, y6, y7, y8, y9, y10, y11, yf, yl⟩ := cells12 hbx.out
    by_cases hlt : k < x7
    · have hkq : k < t.qs.length := by rw [hx7.out]; exact hlt
      have hkX : k < XA.length := by rw [hx10.out]; exact hlt
      have hfold : (t.qs.take (k + 1)).foldl insO [] = insO ((t.qs.take k).foldl insO []) t.qs[k] := by rw [List.take_succ_eq_append_getElem hkq, List.foldl_append]; rfl
      have hYl : ((t.qs.take k).foldl insO []).length ≤ 1000 := by
        have : ∀ (l : List (Qn × Option Ans)) (a : List Ans), (l.foldl insO a).length ≤ a.length + l.length := by
          intro l
          induction l with
          | nil => intro a; simp
          | cons p l ih => intro a; rw [List.foldl_cons]; have := ih (insO a p); have := insO_len a p; simp; omega
        have := this (t.qs.take k) []
        simp at this
        omega
      have hra := hXR.out.2 k _ _ (List.getElem?_eq_getElem hkX) (List.getElem?_eq_getElem hkq)
      obtain ⟨⟨pq, pu⟩, hp⟩ : ∃ p, t.qs[k] = p := ⟨_, rfl⟩
      rw [hp] at hfold hra
      obtain ⟨Y, hY⟩ : ∃ Y, (t.qs.take k).foldl insO [] = Y := ⟨_, rfl⟩
      rw [hY] at hfold hYl hLr
      have hac := hans.out wr hkr.out k hkq
      rw [hp] at hac
      replace hac := Lib.hid hac
      replace hp := Lib.hid hp
      replace hY := Lib.hid hY
      cases pu with
      | none =>
        have hf2 : (t.qs.take (k + 1)).foldl insO [] = Y := by rw [hfold]; rfl
        replace hf2 := Lib.hid hf2
        clear hfold hra
        go_wp2_with fail
        refine hac.out.mono ?_
        rintro e w1 ⟨rfl, hka⟩
        have hO1 := Lib.hid (hOr.out.keeps hka)
        have hL1 : Hid (LRd w1 X ((t.qs.take (k + 1)).foldl insO [])) := Lib.hid (by rw [hf2.out]; exact hLr.out.keeps hka)
        have hk1 := Lib.hid (hkr.out.trans hka)
        have hbx1 := Lib.hid ((hka.block _ (lt_of_blk hbx.out) (by simp)).trans hbx.out)
        clear hka
        go_wp2
        go_roundw
        case rel => exact ⟨k + 1, X, rfl, by omega, hO1, hL1, hk1, hbx1⟩
        case measure => simp [intOf]; omega
      | some a =>
        have hfold2 : (t.qs.take (k + 1)).foldl insO [] = insA a Y := by rw [hfold]; rfl
        have hxr : InR w XA[k] a := InA.r hra
        have hXl := hLr.out.1
        obtain ⟨oa, oc, rfl⟩ := hOr.out.form
        obtain ⟨N, hN⟩ : ∃ n, X.length = n := ⟨_, rfl⟩
        rw [hN] at hOr hXl ⊢
        have hN1 : N ≤ 1000 := by omega
        obtain ⟨g, o, c', hv, he⟩ := hel.out k hkX
        rw [hx10.out] at hv
        cases hv
        obtain ⟨xa, hxa⟩ : ∃ x, XA[k] = x := ⟨_, rfl⟩
        rw [hxa] at hxr he
        obtain ⟨y0, y1, y2, y3, y4, y5, y6, y7, y8, y9⟩ := xa
        replace hfold := Lib.hid hfold2
        replace hxr := Lib.hid hxr
        replace hN := Lib.hid hN
        replace hxa := Lib.hid hxa
        replace hXl := Lib.hid hXl
        replace he := Lib.hid he
        clear hfold2 hra
        go_wp2_with fail
        refine hac.out.mono ?_
        rintro e w1 ⟨rfl, hka⟩
        have hO1 := hOr.out.keeps hka
        have hL1 := hLr.out.keeps hka
        have hk1 := hkr.out.trans hka
        have hbx1 := (hka.block _ (lt_of_blk hbx.out) (by simp)).trans hbx.out
        have e0 := hk1.val (he.out 0 _ rfl)
        have e1 := hk1.val (he.out 1 _ rfl)
        have e2 := hk1.val (he.out 2 _ rfl)
        have e3 := hk1.val (he.out 3 _ rfl)
        have e4 := hk1.val (he.out 4 _ rfl)
        have e5 := hk1.val (he.out 5 _ rfl)
        have e6 := hk1.val (he.out 6 _ rfl)
        have e7 := hk1.val (he.out 7 _ rfl)
        simp only [shA, AnV.v, Nat.add_zero] at e0 e1 e2 e3 e4 e5 e6 e7
        have z7 := (cells12 hbx1).2.2.2.2.2.2.2.1
        have hxq : AnV.q ⟨y0, y1, y2, y3, y4, y5, y6, y7, y8, y9⟩ = a.q := by
          have hm := hxr.out.m
          have hw := hxr.out.ow
          have hn := hxr.out.n
          unfold AnV.q Ans.q
          simp only at hm hw hn ⊢
          rw [hm, hw, hn]
        replace hO1 := Lib.hid hO1
        replace hL1 := Lib.hid hL1
        replace hk1 := Lib.hid hk1
        replace hbx1 := Lib.hid hbx1
        replace hxq := Lib.hid hxq
        clear hka hac
        (go_upto_region 6 with fail; iterate 8 go_step)
        go_cut [5] from 7 to 51 (fun kv wx => ∃ kk : Nat, kv = .int .i64 kk ∧ kk ≤ N ∧ Hid (∀ j (hj : j < Y.length), j < kk → qlt Y[j].q a.q) ∧ Hid (∀ hj : kk < Y.length, ¬ qlt Y[kk].q a.q) ∧ Hid (Keeps [] w1 wx))
        case first =>
          go_wp2
          go_loopw [5] (fun i wr => ∃ j : Nat, i = .int .i64 j ∧ j ≤ N ∧ Hid (∀ i (hi : i < Y.length), i < j → qlt Y[i].q a.q) ∧ Hid (Keeps [] w1 wr)) (fun i _ => N - (intOf i).toNat)
          case atStart => exact ⟨0, rfl, by omega, Lib.hid (fun _ _ h => by omega), Lib.hid (Keeps.refl _ _)⟩
          case round =>
            obtain ⟨j, rfl, hj, hlow, hkj⟩ := hrel
            by_cases hltj : j < N
            · have hjX : j < X.length := by rw [hN.out]; exact hltj
              have hjY : j < Y.length := by rw [← hXl.out]; exact hltj
              obtain ⟨g3, o3, c3, hv3, he3⟩ := (hO1.out.keeps hkj.out).r.elem hjX
              rw [hN.out] at hv3
              cases hv3
              have hjr := (hL1.out.keeps hkj.out).2 j _ _ (List.getElem?_eq_getElem hjX) (List.getElem?_eq_getElem hjY)
              have hjq : (X[j]).q = Y[j].q := by
                have hm := hjr.m
                have hw := hjr.ow
                have hn := hjr.n
                unfold AnV.q Ans.q
                rw [hm, hw, hn]
              obtain ⟨u, hu⟩ : ∃ u, X[j] = u := ⟨_, rfl⟩
              rw [hu] at he3 hjq
              obtain ⟨u0, u1, u2, u3, u4, u5, u6, u7, u8, u9⟩ := u
              have f0 := he3 0 _ rfl
              have f1 := he3 1 _ rfl
              have f2 := he3 2 _ rfl
              have f3 := he3 3 _ rfl
              have f4 := he3 4 _ rfl
              have f5 := he3 5 _ rfl
              have f6 := he3 6 _ rfl
              have f7 := he3 7 _ rfl
              simp only [shA, AnV.v, Nat.add_zero] at f0 f1 f2 f3 f4 f5 f6 f7
              have d0 := hkj.out.val e0
              have d1 := hkj.out.val e1
              have d2 := hkj.out.val e2
              have d3 := hkj.out.val e3
              have d4 := hkj.out.val e4
              have d5 := hkj.out.val e5
              have d6 := hkj.out.val e6
              have d7 := hkj.out.val e7
              have x7j := hkj.out.val z7
              have hlc := fun w => lessR_c w ⟨u0, u1, u2, u3, u4, u5, u6, u7, u8, u9⟩ ⟨y0, y1, y2, y3, y4, y5, y6, y7, y8, y9⟩
              rw [hjq, hxq.out] at hlc
              simp only [aV, AnV.v] at hlc
              obtain ⟨b, hb⟩ : ∃ b, decide (qlt Y[j].q a.q) = b := ⟨_, rfl⟩
              rw [hb] at hlc
              replace hlc := Lib.hid hlc
              replace hu := Lib.hid hu
              replace hb := Lib.hid hb
              replace hjq := Lib.hid hjq
              clear he3 hjr
              go_wp2
              refine Free.wp_region_chain (fun i => i == 14) (fun i => true) (fun _ _ => False) (by kernel_rfl) (by kernel_rfl) (by kernel_rfl) ?_
              (repeat (first | (apply Free.cw_pureW rfl rfl; (intro w'; go_simp <;> exact rfl); go_frame) | (apply Free.cw_steadyW rfl rfl rfl; (intro w' hS; have q0 := Free.sx_cell hS f0 (fun _ _ hT => hT); have q1 := Free.sx_cell hS f1 (fun _ _ hT => hT); have q2 := Free.sx_cell hS f2 (fun _ _ hT => hT); have q3 := Free.sx_cell hS f3 (fun _ _ hT => hT); have q4 := Free.sx_cell hS f4 (fun _ _ hT => hT); have q5 := Free.sx_cell hS f5 (fun _ _ hT => hT); have q6 := Free.sx_cell hS f6 (fun _ _ hT => hT); have q7 := Free.sx_cell hS f7 (fun _ _ hT => hT); have q8 := Free.sx_cell hS x7j (fun _ _ hT => hT); have q9 := Free.sx_cell hS d0 (fun _ _ hT => hT); have q10 := Free.sx_cell hS d1 (fun _ _ hT => hT); have q11 := Free.sx_cell hS d2 (fun _ _ hT => hT); have q12 := Free.sx_cell hS d3 (fun _ _ hT => hT); have q13 := Free.sx_cell hS d4 (fun _ _ hT => hT); have q14 := Free.sx_cell hS d5 (fun _ _ hT => hT); have q15 := Free.sx_cell hS d6 (fun _ _ hT => hT); have q16 := Free.sx_cell hS d7 (fun _ _ hT => hT); go_simp <;> exact rfl); go_frame) | (refine Free.cw_skip rfl ?_; go_frame)))
              refine Free.cw_loudW rfl rfl (fun K hK => ?_)
              go_wp2_with fail
              refine (hlc.out _).mono ?_
              rintro e w5 ⟨rfl, hk5⟩
              refine hK _ _ rfl (Free.KeepsP.of hk5 (by simp)) ?_
              clear hK K hlc
              (repeat (apply Free.cw_pureW rfl rfl; (intro w'; go_simp <;> exact rfl); go_frame))
              refine Free.cw_nil ?_
              have hkj5 := Lib.hid (hkj.out.trans (((Keeps.refl [] wr).drew).trans hk5))
              clear hk5
              cases b with
              | true =>
                have hlow2 : ∀ i (hi : i < Y.length), i < j + 1 → qlt Y[i].q a.q := fun i hi hij => by
                  by_cases e : i = j
                  · subst e; exact of_decide_eq_true hb.out
                  · exact hlow.out i hi (by omega)
                replace hlow2 := Lib.hid hlow2
                go_wp2
                go_roundw
                case rel => exact ⟨j + 1, rfl, by omega, hlow2, hkj5⟩
                case measure => simp [intOf]; omega
              | false =>
                have hst : Hid (∀ hj : j < Y.length, ¬ qlt Y[j].q a.q) := Lib.hid (fun _ => of_decide_eq_false hb.out)
                go_wp2
                go_meet
                case rel => exact ⟨j, rfl, by omega, hlow, hst, hkj5⟩
            · have hst : Hid (∀ hj : j < Y.length, ¬ qlt Y[j].q a.q) := Lib.hid (fun hj => absurd hj (by rw [← hXl.out]; exact hltj))
              have hdf : decide ((j : Int) < (N : Int)) = false := by simp; omega
              go_wp2
              refine Free.wp_region_chain (fun i => i == 14) (fun i => true) (fun _ _ => False) (by kernel_rfl) (by kernel_rfl) (by kernel_rfl) ?_
              (repeat (first | (apply Free.cw_pureW rfl rfl; (intro w'; go_simp <;> exact rfl); go_frame) | (apply Free.cw_steadyW rfl rfl rfl; (intro w' hS; have q0 := Free.sx_cell hS z7 (fun _ _ hT => hT); go_simp <;> exact rfl); go_frame) | (refine Free.cw_skip rfl ?_; go_frame)))
              refine Free.cw_nil ?_
              go_wp2
              go_meet
              case rel => exact ⟨j, rfl, by omega, hlow, hst, Lib.hid hkj.out.drew⟩
        case rest =>
          obtain ⟨kk, rfl, hkk, hlow, hst, hkc1⟩ := hcut
          have hins : insA a Y = Y.take kk ++ a :: Y.drop kk := insA_at a Y kk (by rw [← hXl.out]; exact hkk) hlow.out hst.out
          have hkc := hk1.out.trans hkc1.out
          have hOc := hO1.out.keeps hkc1.out
          have hLc := hL1.out.keeps hkc1.out
          have hbxc := (hkc1.out.block _ (lt_of_blk hbx1.out) (by simp)).trans hbx1.out
          replace e0 := hkc1.out.val e0
          replace e1 := hkc1.out.val e1
          replace e2 := hkc1.out.val e2
          replace e3 := hkc1.out.val e3
          replace e4 := hkc1.out.val e4
          replace e5 := hkc1.out.val e5
          replace e6 := hkc1.out.val e6
          replace e7 := hkc1.out.val e7
          replace z7 := hkc1.out.val z7
          have hwcs : w.heap.size ≤ wc.drew.heap.size := hkc.size
          obtain ⟨_, _, ev, hNc, hoc, _⟩ := hOc.r.form
          rw [hN.out] at ev hNc
          simp only [Value.slice.injEq] at ev
          have hNc2 : N ≤ oc := by rw [ev.2.2]; exact hNc
          have hoc2 : oc ≤ 9223372036854775807 := by rw [ev.2.2]; unfold maxLen at hoc; omega
          clear ev hNc hoc
          have hT1 := hOc.r.init' kk (by rw [hN.out]; exact hkk)
          have hT2 := hOc.r.tail' kk (by rw [hN.out]; exact hkk)
          rw [hN.out] at hT2
          replace hT2 : shA.R wc (.slice (if oc = kk then oa else oa.map (·.add (kk * 8))) (N - kk) (oc - kk)) (X.drop kk) := hT2
          have f1 : (0 : Int) ≤ (kk : Int) := by omega
          have f2 : (kk : Int) ≤ (oc : Int) := by omega
          have f3 : (kk : Int) ≤ (N : Int) := by omega
          have hlt1 : (X.take kk).length ≤ 1000 := by rw [List.length_take, hN.out]; omega
          have hlt2 : (X.drop kk).length ≤ 1000 := by rw [List.length_drop, hN.out]; omega
          replace hins := Lib.hid hins
          replace hkc := Lib.hid hkc
          replace hOc := Lib.hid hOc
          replace hLc := Lib.hid hLc
          replace hbxc := Lib.hid hbxc
          replace hT1 := Lib.hid hT1
          replace hT2 := Lib.hid hT2
          replace hlt1 := Lib.hid hlt1
          replace hlt2 := Lib.hid hlt2
          clear hkc1 hlow hst
          go_wp2
          have hn : Ins.Nums 4 10 11 15 := by unfold Ins.Nums; decide
          refine Free.wp_region_free (by kernel_rfl) (by kernel_rfl) (fun i => i == 0 || i == 4 || i == 10 || i == 11 || i == 15) (Ins.F shA 4 10 11 15 wc.drew.heap.size tA (X.take kk) (⟨y0, y1, y2, y3, y4, y5, y6, y7, y8, y9⟩ : AnV) (X.drop kk)) (Ins.T 11 15 wc.drew.heap.size) (Ins.K 11 15) (Ins.stable (.inr (by kernel_rfl))) ?_
          apply Free.walk_loud rfl rfl
          · intro w' hg hf; clear hf
            have hwB := hg.size
            go_simp
            exact Ins.fE hn hwB
          intro v0
          (apply Free.walk_quiet rfl rfl; (intro w' hg hf; clear hf; go_simp <;> exact rfl))
          (apply Free.walk_quiet rfl rfl; (intro w' hg hf; clear hf; go_simp <;> exact rfl))
          (apply Free.walk_quiet rfl rfl; (intro w' hg hf; clear hf; go_simp <;> exact rfl))
          apply Free.walk_loud rfl rfl
          · intro w' hg hf
            have hF0 : Ins.F shA 4 10 11 15 wc.drew.heap.size tA (X.take kk) (⟨y0, y1, y2, y3, y4, y5, y6, y7, y8, y9⟩ : AnV) (X.drop kk) 0 v0 w' := by simpa using hf 0 (by decide) (by kernel_rfl)
            clear hf
            exact Ins.lA hn infoA rfl Try.underlying27 hg (fun b h => Ins.low h) hF0 (hT1.out.keeps (Keeps.refl [] wc).drew) _ _ rfl (by simp [Act.eval, Act.put]) (by simp [Act.eval, Act.put]) (by have := hlt1.out; omega)
          intro v4
          (apply Free.walk_quiet rfl rfl; (intro w' hg hf; clear hf; go_simp <;> exact rfl))
          apply Free.walk_quiet rfl rfl
          · intro w' hg hf; clear hf
            have r0 := (hg.cell _ _ (lt_of_cell z7) (fun h => Nat.not_le_of_lt (lt_of_cell z7) (Ins.low h))).trans z7
            have r1 := (hg.cell _ _ (lt_of_cell e0) (fun h => Nat.not_le_of_lt (lt_of_cell e0) (Ins.low h))).trans e0
            have r2 := (hg.cell _ _ (lt_of_cell e1) (fun h => Nat.not_le_of_lt (lt_of_cell e1) (Ins.low h))).trans e1
            have r3 := (hg.cell _ _ (lt_of_cell e2) (fun h => Nat.not_le_of_lt (lt_of_cell e2) (Ins.low h))).trans e2
            have r4 := (hg.cell _ _ (lt_of_cell e3) (fun h => Nat.not_le_of_lt (lt_of_cell e3) (Ins.low h))).trans e3
            have r5 := (hg.cell _ _ (lt_of_cell e4) (fun h => Nat.not_le_of_lt (lt_of_cell e4) (Ins.low h))).trans e4
            have r6 := (hg.cell _ _ (lt_of_cell e5) (fun h => Nat.not_le_of_lt (lt_of_cell e5) (Ins.low h))).trans e5
            have r7 := (hg.cell _ _ (lt_of_cell e6) (fun h => Nat.not_le_of_lt (lt_of_cell e6) (Ins.low h))).trans e6
            have r8 := (hg.cell _ _ (lt_of_cell e7) (fun h => Nat.not_le_of_lt (lt_of_cell e7) (Ins.low h))).trans e7
            go_simp <;> exact rfl
          (apply Free.walk_quiet rfl rfl; (intro w' hg hf; clear hf; go_simp <;> exact rfl))
          (apply Free.walk_quiet rfl rfl; (intro w' hg hf; clear hf; go_simp <;> exact rfl))
          apply Free.walk_quiet rfl rfl
          · intro w' hg hf; clear hf
            have r0 := (hg.cell _ _ (lt_of_cell z7) (fun h => Nat.not_le_of_lt (lt_of_cell z7) (Ins.low h))).trans z7
            have r1 := (hg.cell _ _ (lt_of_cell e0) (fun h => Nat.not_le_of_lt (lt_of_cell e0) (Ins.low h))).trans e0
            have r2 := (hg.cell _ _ (lt_of_cell e1) (fun h => Nat.not_le_of_lt (lt_of_cell e1) (Ins.low h))).trans e1
            have r3 := (hg.cell _ _ (lt_of_cell e2) (fun h => Nat.not_le_of_lt (lt_of_cell e2) (Ins.low h))).trans e2
            have r4 := (hg.cell _ _ (lt_of_cell e3) (fun h => Nat.not_le_of_lt (lt_of_cell e3) (Ins.low h))).trans e3
            have r5 := (hg.cell _ _ (lt_of_cell e4) (fun h => Nat.not_le_of_lt (lt_of_cell e4) (Ins.low h))).trans e4
            have r6 := (hg.cell _ _ (lt_of_cell e5) (fun h => Nat.not_le_of_lt (lt_of_cell e5) (Ins.low h))).trans e5
            have r7 := (hg.cell _ _ (lt_of_cell e6) (fun h => Nat.not_le_of_lt (lt_of_cell e6) (Ins.low h))).trans e6
            have r8 := (hg.cell _ _ (lt_of_cell e7) (fun h => Nat.not_le_of_lt (lt_of_cell e7) (Ins.low h))).trans e7
            go_simp <;> exact rfl
          apply Free.walk_loud rfl rfl
          · intro w' hg hf; clear hf
            have hwB := hg.size
            go_simp
            exact Ins.fM hn hwB _ rfl
          intro v10
          apply Free.walk_loud rfl rfl
          · intro w' hg hf
            have hFA : Ins.F shA 4 10 11 15 wc.drew.heap.size tA (X.take kk) (⟨y0, y1, y2, y3, y4, y5, y6, y7, y8, y9⟩ : AnV) (X.drop kk) 4 v4 w' := by simpa using hf 4 (by decide) (by kernel_rfl)
            have hFM : Ins.F shA 4 10 11 15 wc.drew.heap.size tA (X.take kk) (⟨y0, y1, y2, y3, y4, y5, y6, y7, y8, y9⟩ : AnV) (X.drop kk) 10 v10 w' := by simpa using hf 10 (by decide) (by kernel_rfl)
            clear hf
            exact Ins.lA2 hn infoA rfl Try.underlying27 hg hFA hFM _ _ rfl (by simp [Act.eval, Act.put]) (by simp [Act.eval, Act.put]) (by have := hlt1.out; omega)
          intro v11
          (apply Free.walk_quiet rfl rfl; (intro w' hg hf; clear hf; go_simp <;> exact rfl))
          (apply Free.walk_quiet rfl rfl; (intro w' hg hf; clear hf; go_simp <;> exact rfl))
          (apply Free.walk_quiet rfl rfl; (intro w' hg hf; clear hf; go_simp <;> exact rfl))
          apply Free.walk_loud rfl rfl
          · intro w' hg hf
            have hFA : Ins.F shA 4 10 11 15 wc.drew.heap.size tA (X.take kk) (⟨y0, y1, y2, y3, y4, y5, y6, y7, y8, y9⟩ : AnV) (X.drop kk) 11 v11 w' := by simpa using hf 11 (by decide) (by kernel_rfl)
            clear hf
            exact Ins.lA3 hn (by decide) infoA rfl Try.underlying27 hg (fun b h => Ins.low h) hFA (hT2.out.keeps (Keeps.refl [] wc).drew) _ _ rfl (by simp [Act.eval, Act.put]) (by simp [Act.eval, Act.put]) (by have := hlt1.out; have := hlt2.out; omega)
          intro v15
          (apply Free.walk_quiet rfl rfl; (intro w' hg hf; clear hf; go_simp <;> exact rfl))
          refine Free.walk_nil ?_
          intro wF hg hf
          have hFin : Ins.F shA 4 10 11 15 wc.drew.heap.size tA (X.take kk) (⟨y0, y1, y2, y3, y4, y5, y6, y7, y8, y9⟩ : AnV) (X.drop kk) 15 v15 wF := by simpa using hf 15 (by decide) (by kernel_rfl)
          have hO := Lib.hid (hFin.2.2.2.2 rfl (by decide))
          have hk := Lib.hid (hg.to ((Keeps.refl [] wc).drew) (fun b h => .inr (Ins.lowA h)))
          clear hf hg hFin
          have hOf := Lib.hid (Ins.O_le hO.out hwcs)
          have hkw' := Lib.hid (hkc.out.trans hk.out)
          have hL2 := (hLc.out.keeps hk.out).ins (hxr.out.keeps hkw'.out) kk
          rw [← hins.out, ← hfold.out] at hL2
          have hbx2 := Lib.hid ((hk.out.block _ (lt_of_blk hbxc.out) (by simp)).trans hbxc.out)
          replace hL2 := Lib.hid hL2
          clear hO
          go_wp2
          all_goals
            go_roundw
            case rel => exact ⟨k + 1, _, rfl, by omega, hOf, hL2, hkw', hbx2⟩
            case measure => simp [intOf]; omega
    · have hkx : k = x7 := by omega
      subst hkx
      have hall : (t.qs.take k).foldl insO [] = srtOf t.qs := by rw [← hx7.out, List.take_length]; rfl
      rw [hall] at hLr
      go_wp2
      go_ret
      exact ⟨_, rfl, ⟨X, hOr.out.r, hLr.out⟩, hkr.out⟩
end Go.Proofs.Ythfdngjbcgkkfaa

namespace Go.Proofs.Ythfdngjbcgkkfaa
open Go.RowKit

set_option maxRecDepth 100000 in
set_option maxHeartbeats 20000000 in
theorem putR_c (w : World) (v : Value) (L : List T3) (n : T3) (h : shT.R w v L) (hl : L.length ≤ 1000000000000) :
    Calls Try.prog 46 #[v, tV n] w fun e w' => ∃ v', e = .returned v' ∧ ((v' = v ∧ putN n L = L) ∨ shT.O w' w.heap.size tN v' (putN n L)) ∧ Keeps [] w w' := by
  obtain ⟨a, c, rfl, hlc, hcm, hnil⟩ := h.form
  have hel := fun k hk => h.elem (k := k) hk
  obtain ⟨M, hM⟩ : ∃ N, L.length = N := ⟨_, rfl⟩
  rw [hM] at hlc hl h ⊢
  have hcm2 : c ≤ 9223372036854775807 := by unfold maxLen at hcm; omega
  obtain ⟨n0, n1, n2⟩ := n
  have hkA : Keeps [] w (w.alloc (.cells #[.int .i64 n0, .int .u64 n1, .int .i64 n2] tN)) := (Keeps.refl _ _).alloc _
  have hb0 := heap_alloc_new w (.cells #[.int .i64 n0, .int .u64 n1, .int .i64 n2] tN)
  replace hel := Lib.hid hel
  replace hM := Lib.hid hM
  replace hkA := Lib.hid hkA
  replace hb0 := Lib.hid hb0
  replace h := Lib.hid h
  replace hnil := Lib.hid hnil
  simp only [tV]
  go_enter Try.func46, Try.ntmps46
  (go_upto_region 1 with fail; iterate 8 go_step)
  generalize (w.alloc (.cells #[.int .i64 n0, .int .u64 n1, .int .i64 n2] tN)) = WA at *
  obtain ⟨X, hX⟩ : ∃ X, w.heap.size = X := ⟨_, rfl⟩
  rw [hX] at hb0 ⊢
  replace hX := Lib.hid hX
  go_cut [5] from 6 to 78 (fun i wx => ∃ k : Nat, i = .int .i64 k ∧ k ≤ M ∧ Hid (∀ j (hj : j < L.length), j < k → tlt L[j] (n0, n1, n2)) ∧ Hid (∀ hj : k < L.length, ¬ tlt L[k] (n0, n1, n2)) ∧ Hid (Keeps [] WA wx))
  case first =>
    go_wp2
    go_loopw [5] (fun i wr => ∃ k : Nat, i = .int .i64 k ∧ k ≤ M ∧ Hid (∀ j (hj : j < L.length), j < k → tlt L[j] (n0, n1, n2)) ∧ Hid (Keeps [] WA wr)) (fun i _ => M - (intOf i).toNat)
    case atStart => exact ⟨0, rfl, by omega, Lib.hid (fun _ _ h => by omega), Lib.hid (Keeps.refl _ _)⟩
    case round =>
      obtain ⟨k, rfl, hk, hno, hkr⟩ := hrel
      obtain ⟨y0, y1, y2⟩ := cells3t ((hkr.out.block X (lt_of_blk hb0.out) (by simp)).trans hb0.out)
      have hkw := hkA.out.trans hkr.out
      replace hkw := Lib.hid hkw
      by_cases hlt : k < M
      · have hkl : k < L.length := by rw [hM.out]; exact hlt
        obtain ⟨g, o, c', hv, he⟩ := hel.out k hkl
        rw [hM.out] at hv
        cases hv
        obtain ⟨⟨p0, p1, p2⟩, hp⟩ : ∃ x, L[k] = x := ⟨_, rfl⟩
        rw [hp] at he
        have e0 := hkw.out.val (he 0 _ rfl)
        have e1 := hkw.out.val (he 1 _ rfl)
        simp only [shT, Nat.add_zero] at e0 e1
        have hyes : tlt (p0, p1, p2) (n0, n1, n2) → ∀ j (hj : j < L.length), j < k + 1 → tlt L[j] (n0, n1, n2) := fun hn j hj hjk => by
          by_cases e : j = k
          · subst e; rw [hp]; exact hn
          · exact hno.out j hj (by omega)
        have hnot : ¬ tlt (p0, p1, p2) (n0, n1, n2) → ∀ hj : k < L.length, ¬ tlt L[k] (n0, n1, n2) := fun hn hj => by rw [hp]; exact hn
        replace hyes := Lib.hid hyes
        replace hnot := Lib.hid hnot
        replace hp := Lib.hid hp
        clear he
        by_cases a0 : p0 < n0
        · have b0 : decide (p0 < n0) = true := by simpa using a0
          have hy := Lib.hid (hyes.out (.inl a0))
          replace a0 := Lib.hid a0
          go_wp2
          (refine wp_region_quiet_lit (by kernel_rfl) (by kernel_rfl) ?_; (repeat (first | go_big_quiet_step (fail) | quiet_step (fail))); with_reducible refine wpQuiet_nil ?_; intro _ hw'; obtain ⟨nq, hw''⟩ := hw'; subst hw'')
          go_wp2
          go_roundw
          case rel => exact ⟨k + 1, rfl, by omega, hy, Lib.hid (hkr.out.drewN _)⟩
          case measure => simp [intOf]; omega
        · have b0 : decide (p0 < n0) = false := by simpa using a0
          by_cases a1 : p0 = n0
          · have b1 : (p0 == n0) = true := by simpa using a1
            by_cases a2 : p1 < n1
            · have b2 : decide ((p1 : Int) < (n1 : Int)) = true := by simp; omega
              have hy := Lib.hid (hyes.out (.inr ⟨a1, a2⟩))
              replace a0 := Lib.hid a0
              replace a1 := Lib.hid a1
              replace a2 := Lib.hid a2
              go_wp2
              (refine wp_region_quiet_lit (by kernel_rfl) (by kernel_rfl) ?_; (repeat (first | go_big_quiet_step (fail) | quiet_step (fail))); with_reducible refine wpQuiet_nil ?_; intro _ hw'; obtain ⟨nq, hw''⟩ := hw'; subst hw'')
              go_wp2
              go_roundw
              case rel => exact ⟨k + 1, rfl, by omega, hy, Lib.hid (hkr.out.drewN _)⟩
              case measure => simp [intOf]; omega
            · have b2 : decide ((p1 : Int) < (n1 : Int)) = false := by simp; omega
              have hy := Lib.hid (hnot.out (by unfold tlt; simp only; omega))
              replace a0 := Lib.hid a0
              replace a1 := Lib.hid a1
              replace a2 := Lib.hid a2
              go_wp2
              (refine wp_region_quiet_lit (by kernel_rfl) (by kernel_rfl) ?_; (repeat (first | go_big_quiet_step (fail) | quiet_step (fail))); with_reducible refine wpQuiet_nil ?_; intro _ hw'; obtain ⟨nq, hw''⟩ := hw'; subst hw'')
              go_wp2
              go_meet
              case rel => exact ⟨k, rfl, by omega, hno, hy, Lib.hid (hkr.out.drewN _)⟩
          · have b1 : (p0 == n0) = false := by simpa using a1
            have hy := Lib.hid (hnot.out (by unfold tlt; simp only; omega))
            replace a0 := Lib.hid a0
            replace a1 := Lib.hid a1
            go_wp2
            (refine wp_region_quiet_lit (by kernel_rfl) (by kernel_rfl) ?_; (repeat (first | go_big_quiet_step (fail) | quiet_step (fail))); with_reducible refine wpQuiet_nil ?_; intro _ hw'; obtain ⟨nq, hw''⟩ := hw'; subst hw'')
            go_wp2
            go_meet
            case rel => exact ⟨k, rfl, by omega, hno, hy, Lib.hid (hkr.out.drewN _)⟩
      · have hy : Hid (∀ hj : k < L.length, ¬ tlt L[k] (n0, n1, n2)) := Lib.hid (fun hj => absurd hj (by rw [hM.out]; exact hlt))
        have hlt2 : decide ((k : Int) < (M : Int)) = false := by simp; omega
        go_wp2
        (refine wp_region_quiet_lit (by kernel_rfl) (by kernel_rfl) ?_; (repeat (first | go_big_quiet_step (fail) | quiet_step (fail))); with_reducible refine wpQuiet_nil ?_; intro _ hw'; obtain ⟨nq, hw''⟩ := hw'; subst hw'')
        go_wp2
        go_meet
        case rel => exact ⟨k, rfl, by omega, hno, hy, Lib.hid (hkr.out.drewN _)⟩
  case rest =>
    obtain ⟨k, rfl, hk, hno, hst, hkr⟩ := hcut
    have hat := putN_at (n0, n1, n2) L k (by rw [hM.out]; exact hk) hno.out hst.out
    obtain ⟨y0, y1, y2⟩ := cells3t ((hkr.out.block X (lt_of_blk hb0.out) (by simp)).trans hb0.out)
    have hkw := hkA.out.trans hkr.out
    replace hkw := Lib.hid hkw
    replace hat := Lib.hid hat
    go_upto_region 4 with fail
    go_cut [65] from 6 to 78 (fun b wx => b = .bool (decide (∃ hi : k < L.length, L[k].1 = n0 ∧ L[k].2.1 = n1)) ∧ Hid (Keeps [] wc wx))
    case first =>
      by_cases hlt : k < M
      · have hkl : k < L.length := by rw [hM.out]; exact hlt
        obtain ⟨g, o, c', hv, he⟩ := hel.out k hkl
        rw [hM.out] at hv
        cases hv
        obtain ⟨⟨p0, p1, p2⟩, hp⟩ : ∃ x, L[k] = x := ⟨_, rfl⟩
        rw [hp] at he
        have e0 := hkw.out.val (he 0 _ rfl)
        have e1 := hkw.out.val (he 1 _ rfl)
        simp only [shT, Nat.add_zero] at e0 e1
        have hdec : ∀ q : Bool, (q = true ↔ (p0 = n0 ∧ p1 = n1)) → decide (∃ hi : k < L.length, L[k].1 = n0 ∧ L[k].2.1 = n1) = q := fun q hq => by
          rw [Bool.eq_iff_iff, decide_eq_true_iff, hq]
          exact ⟨fun ⟨_, h1, h2⟩ => by rw [hp] at h1 h2; exact ⟨h1, h2⟩, fun ⟨h1, h2⟩ => ⟨hkl, by rw [hp]; exact h1, by rw [hp]; exact h2⟩⟩
        replace hdec := Lib.hid hdec
        replace hp := Lib.hid hp
        clear he
        by_cases a1 : p0 = n0
        · have b1 : (p0 == n0) = true := by simpa using a1
          by_cases a2 : p1 = n1
          · have b2 : ((p1 : Int) == (n1 : Int)) = true := by simp [a2]
            have hd := Lib.hid (hdec.out true (by simp [a1, a2]))
            replace a1 := Lib.hid a1
            replace a2 := Lib.hid a2
            go_wp2
            (refine wp_region_quiet_lit (by kernel_rfl) (by kernel_rfl) ?_; (repeat (first | go_big_quiet_step (fail) | quiet_step (fail))); with_reducible refine wpQuiet_nil ?_; intro _ hw'; obtain ⟨nq, hw''⟩ := hw'; subst hw'')
            go_wp2
            go_meet
            case rel => exact ⟨by rw [hd.out], Lib.hid ((Keeps.refl _ _).drewN _)⟩
          · have b2 : ((p1 : Int) == (n1 : Int)) = false := by simp; omega
            have hd := Lib.hid (hdec.out false (by simp [a1, a2]))
            replace a1 := Lib.hid a1
            replace a2 := Lib.hid a2
            go_wp2
            (refine wp_region_quiet_lit (by kernel_rfl) (by kernel_rfl) ?_; (repeat (first | go_big_quiet_step (fail) | quiet_step (fail))); with_reducible refine wpQuiet_nil ?_; intro _ hw'; obtain ⟨nq, hw''⟩ := hw'; subst hw'')
            go_wp2
            go_meet
            case rel => exact ⟨by rw [hd.out], Lib.hid ((Keeps.refl _ _).drewN _)⟩
        · have b1 : (p0 == n0) = false := by simpa using a1
          have hd := Lib.hid (hdec.out false (by simp [a1]))
          replace a1 := Lib.hid a1
          go_wp2
          (refine wp_region_quiet_lit (by kernel_rfl) (by kernel_rfl) ?_; (repeat (first | go_big_quiet_step (fail) | quiet_step (fail))); with_reducible refine wpQuiet_nil ?_; intro _ hw'; obtain ⟨nq, hw''⟩ := hw'; subst hw'')
          go_wp2
          go_meet
          case rel => exact ⟨by rw [hd.out], Lib.hid ((Keeps.refl _ _).drewN _)⟩
      · have hd : decide (∃ hi : k < L.length, L[k].1 = n0 ∧ L[k].2.1 = n1) = false := decide_eq_false (fun ⟨h1, _⟩ => by rw [hM.out] at h1; exact hlt h1)
        have hlt2 : decide ((k : Int) < (M : Int)) = false := by simp; omega
        replace hd := Lib.hid hd
        go_wp2
        (refine wp_region_quiet_lit (by kernel_rfl) (by kernel_rfl) ?_; (repeat (first | go_big_quiet_step (fail) | quiet_step (fail))); with_reducible refine wpQuiet_nil ?_; intro _ hw'; obtain ⟨nq, hw''⟩ := hw'; subst hw'')
        go_wp2
        go_meet
        case rel => exact ⟨by rw [hd.out], Lib.hid ((Keeps.refl _ _).drewN _)⟩
    case rest =>
      obtain ⟨rfl, hk4⟩ := hcut
      by_cases hfd : ∃ hi : k < L.length, L[k].1 = n0 ∧ L[k].2.1 = n1
      · have hres : putN (n0, n1, n2) L = L := by rw [hat.out, if_pos hfd]
        rw [decide_eq_true hfd]
        have hkf := Lib.hid (hkw.out.trans hk4.out)
        replace hres := Lib.hid hres
        replace hfd := Lib.hid hfd
        go_wp2
        go_ret
        exact ⟨_, rfl, .inl ⟨rfl, hres.out⟩, hkf.out⟩
      · have hres : putN (n0, n1, n2) L = L.take k ++ (n0, n1, n2) :: L.drop k := by rw [hat.out, if_neg hfd]
        rw [decide_eq_false hfd]
        have hkc := hkw.out.trans hk4.out
        obtain ⟨y0, y1, y2⟩ := cells3t ((hk4.out.block X (lt_of_blk ((hkr.out.block X (lt_of_blk hb0.out) (by simp)).trans hb0.out)) (by simp)).trans ((hkr.out.block X (lt_of_blk hb0.out) (by simp)).trans hb0.out))
        have hXl := lt_of_cell y0
        have hRk := h.out.keeps hkc
        have hT1 := hRk.init' k (by rw [hM.out]; exact hk)
        have hT2 := hRk.tail' k (by rw [hM.out]; exact hk)
        rw [hM.out] at hT2
        replace hT2 : shT.R wc (.slice (if c = k then a else a.map (·.add (k * 3))) (M - k) (c - k)) (L.drop k) := hT2
        have f1 : (0 : Int) ≤ (k : Int) := by omega
        have f2 : (k : Int) ≤ (c : Int) := by omega
        have f3 : (k : Int) ≤ (M : Int) := by omega
        have hlt1 : (L.take k).length ≤ 1000000000000 := by rw [List.length_take, hM.out]; omega
        have hlt2 : (L.drop k).length ≤ 1000000000000 := by rw [List.length_drop, hM.out]; omega
        replace hkc := Lib.hid hkc
        replace hT1 := Lib.hid hT1
        replace hT2 := Lib.hid hT2
        replace hlt1 := Lib.hid hlt1
        replace hlt2 := Lib.hid hlt2
        replace hres := Lib.hid hres
        replace hfd := Lib.hid hfd
        clear hRk hk4 hkr
        go_wp2
        have hn : Ins.Nums 4 6 7 11 := by unfold Ins.Nums; decide
        refine Free.wp_region_free (by kernel_rfl) (by kernel_rfl) (fun i => i == 0 || i == 4 || i == 6 || i == 7 || i == 11) (Ins.F shT 4 6 7 11 wc.drew.heap.size tN (L.take k) (n0, n1, n2) (L.drop k)) (Ins.T 7 11 wc.drew.heap.size) (Ins.K 7 11) (Ins.stable (.inr (by kernel_rfl))) ?_
        apply Free.walk_loud rfl rfl
        · intro w' hg hf; clear hf
          have hwB := hg.size
          go_simp
          exact Ins.fE hn hwB
        intro v0
        (apply Free.walk_quiet rfl rfl; (intro w' hg hf; clear hf; go_simp <;> exact rfl))
        (apply Free.walk_quiet rfl rfl; (intro w' hg hf; clear hf; go_simp <;> exact rfl))
        (apply Free.walk_quiet rfl rfl; (intro w' hg hf; clear hf; go_simp <;> exact rfl))
        apply Free.walk_loud rfl rfl
        · intro w' hg hf
          have hF0 : Ins.F shT 4 6 7 11 wc.drew.heap.size tN (L.take k) (n0, n1, n2) (L.drop k) 0 v0 w' := by simpa using hf 0 (by decide) (by kernel_rfl)
          clear hf
          exact Ins.lA hn infoN rfl Try.underlying42 hg (fun b h => Ins.low h) hF0 (hT1.out.keeps (Keeps.refl [] wc).drew) _ _ rfl (by simp [Act.eval, Act.put]) (by simp [Act.eval, Act.put]) (by have := hlt1.out; omega)
        intro v4
        apply Free.walk_quiet rfl rfl
        · intro w' hg hf; clear hf
          have r0 := (hg.cell _ _ (lt_of_cell y0) (fun h => Nat.not_le_of_lt (lt_of_cell y0) (Ins.low h))).trans y0
          have r1 := (hg.cell _ _ (lt_of_cell y1) (fun h => Nat.not_le_of_lt (lt_of_cell y1) (Ins.low h))).trans y1
          have r2 := (hg.cell _ _ (lt_of_cell y2) (fun h => Nat.not_le_of_lt (lt_of_cell y2) (Ins.low h))).trans y2
          go_simp <;> exact rfl
        apply Free.walk_loud rfl rfl
        · intro w' hg hf; clear hf
          have hwB := hg.size
          go_simp
          exact Ins.fM hn hwB _ rfl
        intro v6
        apply Free.walk_loud rfl rfl
        · intro w' hg hf
          have hFA : Ins.F shT 4 6 7 11 wc.drew.heap.size tN (L.take k) (n0, n1, n2) (L.drop k) 4 v4 w' := by simpa using hf 4 (by decide) (by kernel_rfl)
          have hFM : Ins.F shT 4 6 7 11 wc.drew.heap.size tN (L.take k) (n0, n1, n2) (L.drop k) 6 v6 w' := by simpa using hf 6 (by decide) (by kernel_rfl)
          clear hf
          exact Ins.lA2 hn infoN rfl Try.underlying42 hg hFA hFM _ _ rfl (by simp [Act.eval, Act.put]) (by simp [Act.eval, Act.put]) (by have := hlt1.out; omega)
        intro v7
        (apply Free.walk_quiet rfl rfl; (intro w' hg hf; clear hf; go_simp <;> exact rfl))
        (apply Free.walk_quiet rfl rfl; (intro w' hg hf; clear hf; go_simp <;> exact rfl))
        (apply Free.walk_quiet rfl rfl; (intro w' hg hf; clear hf; go_simp <;> exact rfl))
        apply Free.walk_loud rfl rfl
        · intro w' hg hf
          have hFA : Ins.F shT 4 6 7 11 wc.drew.heap.size tN (L.take k) (n0, n1, n2) (L.drop k) 7 v7 w' := by simpa using hf 7 (by decide) (by kernel_rfl)
          clear hf
          exact Ins.lA3 hn (by decide) infoN rfl Try.underlying42 hg (fun b h => Ins.low h) hFA (hT2.out.keeps (Keeps.refl [] wc).drew) _ _ rfl (by simp [Act.eval, Act.put]) (by simp [Act.eval, Act.put]) (by have := hlt1.out; have := hlt2.out; omega)
        intro v11
        (apply Free.walk_quiet rfl rfl; (intro w' hg hf; clear hf; go_simp <;> exact rfl))
        refine Free.walk_nil ?_
        intro wF hg hf
        have hFin : Ins.F shT 4 6 7 11 wc.drew.heap.size tN (L.take k) (n0, n1, n2) (L.drop k) 11 v11 wF := by simpa using hf 11 (by decide) (by kernel_rfl)
        have hO := Lib.hid (hFin.2.2.2.2 rfl (by decide))
        have hk := Lib.hid (hg.to ((Keeps.refl [] wc).drew) (fun b h => .inr (Ins.lowA h)))
        clear hf hg hFin
        go_wp2
        all_goals
          go_ret
          exact ⟨_, rfl, .inr (by rw [hres.out]; have := Ins.O_le hO.out (show w.heap.size ≤ wc.drew.heap.size from hkc.out.size); rw [List.append_assoc, List.singleton_append] at this; exact this), (hkc.out.trans hk.out)⟩
end Go.Proofs.Ythfdngjbcgkkfaa

namespace Go.Proofs.Ythfdngjbcgkkfaa
open Go.RowKit

/-- A list of needs, in a block of needs. -/
def Nd (w : World) (v : Value) (L : List T3) : Prop := shT.R w v L ∧ ∀ b, v.ownBlock = some b → ∃ (cs : Array Value) (f : Nat × Nat), w.heap[b]? = some (Obj.cells cs tN f)
theorem Nd.nil (w : World) : Nd w (.slice none 0 0) [] := ⟨Sh.R.nil _ _, fun b h => by simp [Value.ownBlock] at h⟩
theorem Nd.of_O {w : World} {B : Nat} {v : Value} {L : List T3} (h : shT.O w B tN v L) : Nd w v L := ⟨h.r, fun b hb => by obtain ⟨cs, hc⟩ := h.tag b hb; exact ⟨cs, _, hc⟩⟩
theorem Nd.keepS {w w' : World} {v : Value} {L : List T3} {S : List Nat} (h : Nd w v L) (hk : Keeps S w w') (hS : ∀ b ∈ S, ∀ (cs : Array Value) (f : Nat × Nat), w.heap[b]? ≠ some (Obj.cells cs tN f)) : Nd w' v L := by
  refine ⟨h.1.keepS hk (fun b hb e => ?_), fun b hb => ?_⟩
  · obtain ⟨cs, f, hc⟩ := h.2 b e
    exact hS b hb cs f hc
  · obtain ⟨cs, f, hc⟩ := h.2 b hb
    exact ⟨cs, f, (hk.block b (lt_of_blk' hc) (fun hm => hS b hm cs f hc)).trans hc⟩
theorem Nd.keeps {w w' : World} {v : Value} {L : List T3} (h : Nd w v L) (hk : Keeps [] w w') : Nd w' v L := h.keepS hk (by simp)
theorem Nd.put {w w' : World} {v v' : Value} {L : List T3} {n : T3} (h : Nd w v L) (hk : Keeps [] w w') (hp : (v' = v ∧ putN n L = L) ∨ shT.O w' w.heap.size tN v' (putN n L)) : Nd w' v' (putN n L) := by
  rcases hp with ⟨rfl, e⟩ | hO
  · rw [e]; exact h.keeps hk
  · exact Nd.of_O hO
structure CRt (w : World) (x : ClV) (p : PCl) : Prop where
  m : x.m = p.m
  ep : x.ep = p.ep
  st : Nd w (slv x.v1) p.st
  sc : Nd w (slv x.v2) p.sc
  ch : Nd w (slv x.v3) p.ch
theorem CRt.keepS {w w' : World} {x : ClV} {p : PCl} {S : List Nat} (h : CRt w x p) (hk : Keeps S w w') (hS : ∀ b ∈ S, ∀ (cs : Array Value) (f : Nat × Nat), w.heap[b]? ≠ some (Obj.cells cs tN f)) : CRt w' x p := ⟨h.m, h.ep, h.st.keepS hk hS, h.sc.keepS hk hS, h.ch.keepS hk hS⟩
def Rows' (w : World) (C : List ClV) (P : List PCl) : Prop := C.length = P.length ∧ ∀ (j : Nat) (x : ClV) (p : PCl), C[j]? = some x → P[j]? = some p → CRt w x p
theorem Rows'.keepS {w w' : World} {C : List ClV} {P : List PCl} {S : List Nat} (h : Rows' w C P) (hk : Keeps S w w') (hS : ∀ b ∈ S, ∀ (cs : Array Value) (f : Nat × Nat), w.heap[b]? ≠ some (Obj.cells cs tN f)) : Rows' w' C P := ⟨h.1, fun j x p h1 h2 => (h.2 j x p h1 h2).keepS hk hS⟩
theorem Rows'.keeps {w w' : World} {C : List ClV} {P : List PCl} (h : Rows' w C P) (hk : Keeps [] w w') : Rows' w' C P := h.keepS hk (by simp)
theorem Rows'.snoc {w : World} {C : List ClV} {P : List PCl} {x : ClV} {p : PCl} (h : Rows' w C P) (hx : CRt w x p) : Rows' w (C ++ [x]) (P ++ [p]) := by
  obtain ⟨hl, hh⟩ := h
  refine ⟨by simp [hl], fun j a b ha hb => ?_⟩
  by_cases e : j < C.length
  · rw [List.getElem?_append_left e] at ha
    rw [List.getElem?_append_left (by omega)] at hb
    exact hh j a b ha hb
  · rw [List.getElem?_append_right (by omega)] at ha
    rw [List.getElem?_append_right (by omega), ← hl] at hb
    obtain ⟨i, hi⟩ : ∃ i, j - C.length = i := ⟨_, rfl⟩
    rw [hi] at ha hb
    cases i with
    | zero => simp at ha hb; subst ha hb; exact hx
    | succ i => simp at ha
theorem Rows'.setL {w : World} {C : List ClV} {R : List PCl} {c d : PCl} {y : ClV} {n : Nat} (h : Rows' w C (R ++ [c])) (hn : R.length = n) (hy : CRt w y d) : Rows' w (C.set n y) (R ++ [d]) := by
  obtain ⟨hl, hh⟩ := h
  refine ⟨by simpa using hl, fun j a b ha hb => ?_⟩
  rw [List.getElem?_set] at ha
  by_cases e : n = j
  · subst e
    rw [← hn, List.getElem?_append_right (Nat.le_refl _)] at hb
    simp at hb
    subst hb
    rw [if_pos rfl] at ha
    split at ha
    · cases ha; exact hy
    · cases ha
  · rw [if_neg e] at ha
    by_cases e2 : j < R.length
    · rw [List.getElem?_append_left e2] at hb
      exact hh j a b ha (by rw [List.getElem?_append_left e2]; exact hb)
    · have : j < C.length := (List.getElem?_eq_some_iff.1 ha).1
      simp at hl
      omega
theorem Rows'.lc {w : World} {v : Value} {C : List ClV} {P : List PCl} (h : Rows' w C P) (hR : shC.R w v C) : LC w v P := ⟨C, hR, h.1, fun k x p h1 h2 => by
  have := h.2 k x p h1 h2
  exact ⟨this.m, this.ep, this.st.1, this.sc.1, this.ch.1⟩⟩
theorem putN_len (n : T3) : ∀ l : List T3, (putN n l).length ≤ l.length + 1
  | [] => by simp [putN]
  | x :: r => by
    unfold putN
    split
    · have := putN_len n r; simp; omega
    · split
      · simp
      · simp
theorem scR_fold_len (t : Tr) (m : Int) : ∀ (l acc : List T3), (l.foldl (scR t m) acc).length ≤ acc.length + l.length
  | [], acc => by simp
  | x :: r, acc => by
    rw [List.foldl_cons]
    have h1 := scR_fold_len t m r (scR t m acc x)
    have h2 := putN_len (scN t m x) acc
    unfold scR at h1 h2 ⊢
    simp; omega
theorem refOf_len (t : Tr) (O : List (Qn × Int)) (Y : List Ans) (hY : ∀ a ∈ Y, a.ins.length ≤ 100000) : LenLe (refOf t O Y) (Y.length * 100001) := by
  induction Y using snoc_ind with
  | h0 => intro k hk; simp [refOf] at hk
  | hs Y a ih =>
    have ih := ih (fun b hb => hY b (by simp [hb]))
    have ha := hY a (by simp)
    have e : refOf t O (Y ++ [a]) = refC t O (refOf t O Y) a := by unfold refOf; rw [List.foldl_append]; rfl
    rw [e]
    have hb : (Y ++ [a]).length * 100001 = Y.length * 100001 + 100001 := by rw [List.length_append, List.length_singleton, Nat.add_mul, Nat.one_mul]
    rw [hb]
    obtain ⟨K, hK⟩ : ∃ K, Y.length * 100001 = K := ⟨_, rfl⟩
    rw [hK] at ih ⊢
    clear hK hb
    have h1 := ih.openC a
    obtain ⟨n, hn, _⟩ := openC_pos (refOf t O Y) a
    rcases nil_or_snoc (openC (refOf t O Y) a) with h | ⟨R, c, h⟩
    · rw [h] at hn; simp at hn
    · rw [refC_at h]
      rw [h] at h1
      have hR : ∀ k (hk : k < R.length) (j : Nat), j < 3 → (R[k].at j).length ≤ K := fun k hk j hj => by
        have := h1 k (by simp; omega) j hj
        rw [List.getElem_append_left hk] at this; exact this
      have hc : ∀ j, j < 3 → (c.at j).length ≤ K := fun j hj => by
        have := h1 R.length (by simp) j hj
        rw [List.getElem_append_right (Nat.le_refl _)] at this; simpa using this
      intro k hk j hj
      by_cases e2 : k < R.length
      · rw [List.getElem_append_left e2]; have := hR k e2 j hj; omega
      · have hkk : k = R.length := by simp at hk; omega
        subst hkk
        rw [List.getElem_append_right (Nat.le_refl _)]
        simp only [Nat.sub_self, List.getElem_cons_zero]
        match j, hj with
        | 0, _ =>
          have := hc 0 (by omega)
          simp only [PCl.at] at this
          show (stR O a c.st).length ≤ _
          unfold stR
          split
          · have := putN_len (a.ow, a.n, ‹Int›) c.st; omega
          · omega
        | 1, _ =>
          have := hc 1 (by omega)
          simp only [PCl.at] at this
          show (a.ins.foldl (scR t a.m) c.sc).length ≤ _
          have := scR_fold_len t a.m a.ins c.sc
          omega
        | 2, _ =>
          have := hc 2 (by omega)
          simp only [PCl.at] at this
          show (chR O a c.ch).length ≤ _
          unfold chR
          split
          · omega
          · have := putN_len (a.ow, a.n, 0) c.ch; omega
/-- Five cells of a row are stored. -/
theorem setRow5 {w : World} {B g n c : Nat} {L : List ClV} (h : shC.O w B tC (.slice (some ⟨g, 0, none⟩) n c) L) {k : Nat} (hk : k < L.length) (y : ClV) :
    shC.O (((((w.setCell ⟨g, k * 5, none⟩ (.int .i64 y.m)).setCell ⟨g, k * 5 + 1, none⟩ (.int .i64 y.ep)).setCell ⟨g, k * 5 + 2, none⟩ (slv y.v1)).setCell ⟨g, k * 5 + 3, none⟩ (slv y.v2)).setCell ⟨g, k * 5 + 4, none⟩ (slv y.v3)) B tC (.slice (some ⟨g, 0, none⟩) n c) (L.set k y) := by
  obtain ⟨z, hz⟩ : ∃ z, L[k] = z := ⟨_, rfl⟩
  have h1 := h.set hk { z with m := y.m } 0 (.int .i64 y.m) (by rw [hz]; rfl) (by decide) rfl
  have hk1 : k < (L.set k { z with m := y.m }).length := by simpa using hk
  have h2 := h1.set hk1 { z with m := y.m, ep := y.ep } 1 (.int .i64 y.ep) (by simp [shC, ClV.cs]) (by decide) rfl
  rw [List.set_set] at h2
  have h3 := h2.set (by simpa using hk) { z with m := y.m, ep := y.ep, v1 := y.v1 } 2 (slv y.v1) (by simp [shC, ClV.cs]) (by decide) rfl
  rw [List.set_set] at h3
  have h4 := h3.set (by simpa using hk) { z with m := y.m, ep := y.ep, v1 := y.v1, v2 := y.v2 } 3 (slv y.v2) (by simp [shC, ClV.cs]) (by decide) rfl
  rw [List.set_set] at h4
  have h5 := h4.set (by simpa using hk) y 4 (slv y.v3) (by simp [shC, ClV.cs]) (by decide) rfl
  rw [List.set_set] at h5
  exact h5
end Go.Proofs.Ythfdngjbcgkkfaa

namespace Go.Proofs.Ythfdngjbcgkkfaa
open Go.RowKit

/-- A list of claims that is read, its needs in blocks of needs. -/
def LCt (w : World) (v : Value) (P : List PCl) : Prop := ∃ C, shC.R w v C ∧ Rows' w C P
theorem LCt.lc {w : World} {v : Value} {P : List PCl} (h : LCt w v P) : LC w v P := by obtain ⟨C, h1, h2⟩ := h; exact h2.lc h1
theorem LCt.keeps {w w' : World} {v : Value} {P : List PCl} (h : LCt w v P) (hk : Keeps [] w w') : LCt w' v P := by obtain ⟨C, h1, h2⟩ := h; exact ⟨C, h1.keeps hk, h2.keeps hk⟩
theorem LCt.elem {w : World} {v : Value} {P : List PCl} (h : LCt w v P) {k : Nat} (hk : k < P.length) : ∃ g o c x, v = .slice (some ⟨g, o, none⟩) P.length c ∧ CRt w x P[k] ∧ w.cell? ⟨g, o + k * 5, none⟩ = some (.int .i64 x.m) ∧ w.cell? ⟨g, o + k * 5 + 1, none⟩ = some (.int .i64 x.ep) ∧
    w.cell? ⟨g, o + k * 5 + 2, none⟩ = some (slv x.v1) ∧ w.cell? ⟨g, o + k * 5 + 3, none⟩ = some (slv x.v2) ∧ w.cell? ⟨g, o + k * 5 + 4, none⟩ = some (slv x.v3) := by
  obtain ⟨C, h1, h2⟩ := h
  have hkC : k < C.length := by rw [h2.1]; exact hk
  obtain ⟨g, o, c, e, he⟩ := h1.elem hkC
  rw [h2.1] at e
  refine ⟨g, o, c, C[k], e, h2.2 k _ _ (List.getElem?_eq_getElem hkC) (List.getElem?_eq_getElem hk), ?_, ?_, ?_, ?_, ?_⟩
  · simpa [shC] using he 0 _ rfl
  · simpa [shC] using he 1 _ rfl
  · simpa [shC] using he 2 _ rfl
  · simpa [shC] using he 3 _ rfl
  · simpa [shC] using he 4 _ rfl
def ClmsR (w : World) (t : Tr) (Y : List Ans) (e : Ending) (w' : World) : Prop := ∃ v, e = .returned v ∧ LCt w' v (refOf t (outsOf Y) Y) ∧ Keeps [] w w'
theorem tag_C {w : World} {b : Nat} {cs : Array Value} {f : Nat × Nat} (h : w.heap[b]? = some (Obj.cells cs tC f)) : ∀ (cs' : Array Value) (f' : Nat × Nat), w.heap[b]? ≠ some (Obj.cells cs' tN f') := fun cs' f' e => by rw [h] at e; cases e
theorem crow5 {w : World} {gc n : Nat} {C1 : List ClV} {cc : Nat} (h : shC.R w (.slice (some ⟨gc, 0, none⟩) (n + 1) cc) C1) (hn : n < C1.length) :
    w.cell? ⟨gc, n * 5, none⟩ = some (.int .i64 C1[n].m) ∧ w.cell? ⟨gc, n * 5 + 1, none⟩ = some (.int .i64 C1[n].ep) ∧ w.cell? ⟨gc, n * 5 + 2, none⟩ = some (slv C1[n].v1) ∧ w.cell? ⟨gc, n * 5 + 3, none⟩ = some (slv C1[n].v2) ∧ w.cell? ⟨gc, n * 5 + 4, none⟩ = some (slv C1[n].v3) := by
  obtain ⟨g', o', c', e, he⟩ := h.elem hn
  simp only [Value.slice.injEq, Option.some.injEq, Addr.mk.injEq] at e
  obtain ⟨⟨rfl, rfl, _⟩, _, _⟩ := e
  refine ⟨?_, ?_, ?_, ?_, ?_⟩
  · simpa [shC] using he 0 _ rfl
  · simpa [shC] using he 1 _ rfl
  · simpa [shC] using he 2 _ rfl
  · simpa [shC] using he 3 _ rfl
  · simpa [shC] using he 4 _ rfl
theorem st5k {w : World} {g k : Nat} {t : TypeId} {cs : Array Value} {f : Nat × Nat} (x0 x1 x2 x3 x4 : Value) (h : w.heap[g]? = some (.cells cs t f)) :
    Keeps [g] w (((((w.setCell ⟨g, k * 5, none⟩ x0).setCell ⟨g, k * 5 + 1, none⟩ x1).setCell ⟨g, k * 5 + 2, none⟩ x2).setCell ⟨g, k * 5 + 3, none⟩ x3).setCell ⟨g, k * 5 + 4, none⟩ x4) := by
  refine (((((Keeps.refl _ w).setCell ?_ _).setCell ?_ _).setCell ?_ _).setCell ?_ _).setCell ?_ _ <;> exact .inr (by simp)
set_option maxRecDepth 100000 in
set_option maxHeartbeats 20000000 in
theorem claimsOfR_c (w : World) (v : Value) (Y : List Ans) (t : Tr) (h : RdA w v Y) (hlu : ∀ q, luL Y q = luOf t q) (hlen : Y.length ≤ 1000) (hins : ∀ a ∈ Y, a.ins.length ≤ 100000) :
    Calls Try.prog 23 #[v] w (ClmsR w t Y) := by
  obtain ⟨a0, c0, rfl, hlc, hcm⟩ := h.form
  have hel := fun k hk => h.elem (k := k) hk
  have hluc := fun (W : World) (hk : Keeps [] w W) (m o : Int) (n : Nat) => lastUseR_c W _ Y m o n (h.keeps hk)
  have houtc := fun (W : World) (hk : Keeps [] w W) (m cl : Int) (n : Nat) => outR_c W _ Y m cl n (h.keeps hk)
  obtain ⟨M, hM⟩ : ∃ N, Y.length = N := ⟨_, rfl⟩
  rw [hM] at hlc hlen hluc houtc ⊢
  obtain ⟨O, hO⟩ : ∃ O, outsOf Y = O := ⟨_, rfl⟩
  unfold ClmsR
  rw [hO]
  have hOg : ∀ q, outL Y q = MapS.get q O := fun q => by rw [← hO]; exact (outsOf_get Y q).symm
  have hfr := Sh.O.fresh shC w w.heap.size tC (Nat.le_refl _)
  have hkA := (Keeps.refl [] w).alloc (.cells #[] tC)
  replace h := Lib.hid h
  replace hel := Lib.hid hel
  replace hluc := Lib.hid hluc
  replace houtc := Lib.hid houtc
  replace hM := Lib.hid hM
  replace hO := Lib.hid hO
  replace hOg := Lib.hid hOg
  replace hfr := Lib.hid hfr
  replace hkA := Lib.hid hkA
  replace hlu := Lib.hid hlu
  replace hins := Lib.hid hins
  go_enter Try.func23, Try.ntmps23
  go_wp2
  generalize w.alloc (.cells #[] tC) = W at *
  go_loopw [3, 4] (fun rv i wr => ∃ (k : Nat) (C : List ClV), i = .int .i64 k ∧ k ≤ M ∧ Hid (shC.O wr w.heap.size tC rv C) ∧ Hid (Rows' wr C (refOf t O (Y.take k))) ∧ Hid (Keeps [] w wr)) (fun _ i _ => M - (intOf i).toNat)
  case atStart => exact ⟨0, [], rfl, by omega, hfr, Lib.hid ⟨rfl, fun j x p h => by simp at h⟩, hkA⟩
  case round =>
    obtain ⟨k, C, rfl, hk, hC, hRw, hkr⟩ := hrel
    by_cases hlt : k < M
    · have hkY : k < Y.length := by rw [hM.out]; exact hlt
      have hstep : refOf t O (Y.take (k + 1)) = refC t O (refOf t O (Y.take k)) Y[k] := by unfold refOf; rw [List.take_succ_eq_append_getElem hkY, List.foldl_append]; rfl
      have hbd : LenLe (refOf t O (Y.take k)) (k * 100001) := by
        have := refOf_len t O (Y.take k) (fun a ha => hins.out a (List.mem_of_mem_take ha))
        rwa [List.length_take, Nat.min_eq_left (by omega)] at this
      obtain ⟨g, o, c', x, hv, hx, he⟩ := hel.out k hkY
      rw [hM.out] at hv
      cases hv
      have hai := hins.out Y[k] (List.getElem_mem _)
      obtain ⟨P, hP⟩ : ∃ P, refOf t O (Y.take k) = P := ⟨_, rfl⟩
      obtain ⟨a, ha⟩ : ∃ a, Y[k] = a := ⟨_, rfl⟩
      rw [hP, ha] at hstep
      rw [hP] at hbd hRw
      rw [ha] at hx hai
      have m0 := hx.m
      have m1 := hx.ow
      have m2 := hx.n
      have m3 := hx.ep
      have m7 := hx.ins
      have m7f := hx.ins.form
      obtain ⟨x0, x1, x2, x3, x4, x5, x6, x7, x8, x9⟩ := x
      simp only [AnV.v] at m0 m1 m2 m3 m7 m7f
      have hx8 : a.ins.length = x8 := by obtain ⟨_, _, e, _⟩ := m7f; simp only [Value.slice.injEq] at e; exact e.2.1.symm
      have e0 := hkr.out.val (he 0 _ rfl)
      have e1 := hkr.out.val (he 1 _ rfl)
      have e2 := hkr.out.val (he 2 _ rfl)
      have e3 := hkr.out.val (he 3 _ rfl)
      have e4 := hkr.out.val (he 4 _ rfl)
      have e5 := hkr.out.val (he 5 _ rfl)
      have e6 := hkr.out.val (he 6 _ rfl)
      have e7 := hkr.out.val (he 7 _ rfl)
      simp only [AnV.v, Nat.add_zero] at e0 e1 e2 e3 e4 e5 e6 e7
      have hbA := heap_alloc_new wr (.cells #[.int .i64 x0, .int .i64 x1, .int .u64 x2, .int .i64 x3, .bool x4, .bool x5, .int .i64 x6, .slice x7 x8 x9] tA)
      have hkA0 := (Keeps.refl [] wr).alloc (.cells #[.int .i64 x0, .int .i64 x1, .int .u64 x2, .int .i64 x3, .bool x4, .bool x5, .int .i64 x6, .slice x7 x8 x9] tA)
      have hkwA := hkr.out.trans hkA0
      have hCA := hC.out.keeps hkA0
      have hRA := hRw.out.keeps hkA0
      obtain ⟨ra, rc, rfl⟩ := hC.out.form
      obtain ⟨NP, hNP⟩ : ∃ n, C.length = n := ⟨_, rfl⟩
      rw [hNP] at hCA ⊢
      have hPl : P.length = NP := by rw [← hRw.out.1]; exact hNP
      have hPk : NP ≤ M := by
        have : ∀ (l : List Ans) (Q : List PCl), (l.foldl (refC t O) Q).length ≤ Q.length + l.length := by
          intro l
          induction l with
          | nil => intro Q; simp
          | cons b l ih =>
            intro Q
            rw [List.foldl_cons]
            have h1 := ih (refC t O Q b)
            have h2 : (refC t O Q b).length ≤ Q.length + 1 := by
              obtain ⟨n, h3, h4⟩ := openC_pos Q b
              rcases nil_or_snoc (openC Q b) with h | ⟨R, c, h⟩
              · rw [h] at h3; simp at h3
              · rw [refC_at h]; rw [h] at h3; simp at h3 ⊢; omega
            simp; omega
        have := this (Y.take k) []
        rw [← hPl, ← hP]
        unfold refOf
        simp at this
        omega
      replace hkA0 := Lib.hid hkA0
      replace hkwA := Lib.hid hkwA
      replace hbA := Lib.hid hbA
      replace hCA := Lib.hid hCA
      replace hRA := Lib.hid hRA
      replace m0 := Lib.hid m0
      replace m1 := Lib.hid m1
      replace m2 := Lib.hid m2
      replace m3 := Lib.hid m3
      replace m7 := Lib.hid m7
      replace hx8 := Lib.hid hx8
      replace hP := Lib.hid hP
      replace ha := Lib.hid ha
      replace hstep := Lib.hid hstep
      replace hbd := Lib.hid hbd
      replace hNP := Lib.hid hNP
      replace hPl := Lib.hid hPl
      clear he hx m7f hC hRw
      go_upto_region 6 with fail
      generalize (wr.alloc (.cells #[.int .i64 x0, .int .i64 x1, .int .u64 x2, .int .i64 x3, .bool x4, .bool x5, .int .i64 x6, .slice x7 x8 x9] tA)) = WA at *
      obtain ⟨XA, hXA⟩ : ∃ X, wr.heap.size = X := ⟨_, rfl⟩
      rw [hXA] at hbA ⊢
      replace hXA := Lib.hid hXA
      clear e0 e1 e2 e3 e4 e5 e6 e7
      go_cut [35] from 11 to 126 (fun b wx => b = .bool (newC P a) ∧ wx = WA.drew)
      case first =>
        obtain ⟨y0, y1, y2, y3, y4, y5, y6, y7, yf, ylt⟩ := cells8 hbA.out
        cases NP with
        | zero =>
          have hnb := newC_nil hPl.out a
          replace hnb := Lib.hid hnb
          refine Free.wp_region_chain (fun i => false) (fun i => true) (fun _ _ => False) (by kernel_rfl) (by kernel_rfl) (by kernel_rfl) ?_
          (repeat (first | (apply Free.cw_pureW rfl rfl; (intro w'; go_simp <;> exact rfl); go_frame) | (apply Free.cw_steadyW rfl rfl rfl; (intro w' hS; have q0 := Free.sx_cell hS y0 (fun _ _ hT => hT); go_simp <;> exact rfl); go_frame) | (refine Free.cw_skip rfl ?_; go_frame)))
          refine Free.cw_nil ?_
          go_wp2
          go_meet
          case rel => exact ⟨by rw [hnb.out], rfl⟩
        | succ n =>
          have hnb := newC_at hPl.out a
          have hwn : IntKind.i64.wrap (n : Int) = (n : Int) := IntWalk.i64_in _ (by omega)
          have hnn : (n : Int) < (n : Int) + 1 := by omega
          have hnC : n < C.length := by rw [hNP.out]; omega
          obtain ⟨gc, cc, ev, _, _, _⟩ := hCA.out.form1 (by omega)
          rw [hNP.out] at ev
          cases ev
          obtain ⟨m0c, _⟩ := crow5 hCA.out.r hnC
          have hrm := (hRA.out.2 n _ _ (List.getElem?_eq_getElem hnC) (List.getElem?_eq_getElem (by rw [hPl.out]; omega))).m
          rw [hrm] at m0c
          rw [← m0.out] at hnb
          replace hnb := Lib.hid hnb
          clear hrm
          refine Free.wp_region_chain (fun i => false) (fun i => true) (fun _ _ => False) (by kernel_rfl) (by kernel_rfl) (by kernel_rfl) ?_
          (repeat (first | (apply Free.cw_pureW rfl rfl; (intro w'; go_simp <;> exact rfl); go_frame) | (apply Free.cw_steadyW rfl rfl rfl; (intro w' hS; have q0 := Free.sx_cell hS y0 (fun _ _ hT => hT); have q1 := Free.sx_cell hS m0c (fun _ _ hT => hT); go_simp <;> exact rfl); go_frame) | (refine Free.cw_skip rfl ?_; go_frame)))
          refine Free.cw_nil ?_
          go_wp2
          go_meet
          case rel =>
            have hz : ((n : Int) + 1 == 0) = false := by simp; omega
            exact ⟨by rw [hnb.out, hz, Bool.false_or], rfl⟩
      case rest =>
        obtain ⟨rfl, rfl⟩ := hcut
        have hCD := hCA.out.keeps ((Keeps.refl [] WA).drew)
        have hRD := hRA.out.keeps ((Keeps.refl [] WA).drew)
        have hkD : Keeps [] w WA.drew := hkwA.out.drew
        have hbD := (((Keeps.refl [] WA).drew).block XA (lt_of_blk hbA.out) (by simp)).trans hbA.out
        generalize WA.drew = WD at *
        replace hCD := Lib.hid hCD
        replace hRD := Lib.hid hRD
        replace hkD := Lib.hid hkD
        replace hbD := Lib.hid hbD
        clear hCA hRA hkwA hbA
        go_upto_if 35 with fail
        go_cut [3] from 11 to 126 (fun cv wx => ∃ C1, Hid (shC.O wx w.heap.size tC cv C1) ∧ Hid (Rows' wx C1 (openC P a)) ∧ Hid (Keeps [] w wx) ∧ Hid (wx.heap[XA]? = some (.cells #[.int .i64 x0, .int .i64 x1, .int .u64 x2, .int .i64 x3, .bool x4, .bool x5, .int .i64 x6, .slice x7 x8 x9] tA)))
        case first =>
          obtain ⟨nb, hnb⟩ : ∃ b, newC P a = b := ⟨_, rfl⟩
          rw [hnb]
          cases nb with
          | false =>
            have hoc := openC_old hnb
            replace hnb := Lib.hid hnb
            go_wp2
            go_meet
            case rel => exact ⟨C, hCD, by rw [hoc]; exact hRD, hkD, hbD⟩
          | true =>
            have hoc := openC_new hnb
            replace hnb := Lib.hid hnb
            replace hoc := Lib.hid hoc
            obtain ⟨y0, y1, y2, y3, y4, y5, y6, y7, yf, ylt⟩ := cells8 hbD.out
            have hmade := Sh.R.made shC WD [(⟨x0, x3, nilT, nilT, nilT⟩ : ClV)] #[.int .i64 x0, .int .i64 x3, .slice none 0 0, .slice none 0 0, .slice none 0 0] tC rfl (by simp [maxLen]) 1 rfl
            have hkM := (Keeps.refl [] WD).alloc (.cells #[.int .i64 x0, .int .i64 x3, .slice none 0 0, .slice none 0 0, .slice none 0 0] tC)
            have hCM := hCD.out.keeps hkM
            have hkwM := hkD.out.trans hkM
            have hRM := hRD.out.keeps hkM
            have hbM := (hkM.block _ (lt_of_blk hbD.out) (by simp)).trans hbD.out
            have hsz := hkwM.size
            replace hmade := Lib.hid hmade
            replace hCM := Lib.hid hCM
            replace hkwM := Lib.hid hkwM
            replace hRM := Lib.hid hRM
            replace hbM := Lib.hid hbM
            clear hkM
            go_wp2_with (at_builtin; (refine Sh.wpl_app shC w.heap.size infoC rfl Try.underlying39 (.slice ra NP rc) (.slice (some ⟨WD.heap.size, 0, none⟩) 1 1) C [(⟨x0, x3, nilT, nilT, nilT⟩ : ClV)] rfl _ _ rfl rfl rfl hCM.out hmade.out (by rw [hNP.out]; simp only [List.length_singleton]; omega) hsz ?_; intro v5 w5 hO5 hG5; have hk5 := Sh.O.grew hkwM.out hCM.out hG5 (Nat.le_refl _); have htg := fun b (hb : b ∈ (Value.slice ra NP rc).ownBlock.toList) => hCM.out.tag b (by simpa using hb); have hR5 := (hRM.out.keepS hG5.keepsO (fun b hb cs f e => by obtain ⟨cs', hc⟩ := htg b hb; exact tag_C hc cs f e)).snoc (x := ⟨x0, x3, nilT, nilT, nilT⟩) (p := ⟨a.m, a.ep, [], [], []⟩) ⟨m0.out, m3.out, Nd.nil _, Nd.nil _, Nd.nil _⟩; have hb5 := (hG5.keepsO.block _ (lt_of_blk hbM.out) (fun hm => by obtain ⟨cs', hc⟩ := htg _ hm; exact tag_ne hbM.out hc (by decide) rfl)).trans hbM.out; rw [← hoc.out] at hR5; replace hO5 := Lib.hid hO5; replace hk5 := Lib.hid hk5; replace hR5 := Lib.hid hR5; replace hb5 := Lib.hid hb5; clear hG5 htg))
            go_meet
            case rel => exact ⟨_, hO5, hR5, hk5, hb5⟩
        case rest =>
          obtain ⟨C1, hC1, hR1, hk1, hb1⟩ := hcut
          obtain ⟨n, hn1, hnP⟩ := openC_pos P a
          obtain ⟨R, c, hRc⟩ : ∃ R c, openC P a = R ++ [c] := by
            rcases nil_or_snoc (openC P a) with h | ⟨R, c, h⟩
            · rw [h] at hn1; simp at hn1
            · exact ⟨R, c, h⟩
          have hRn : R.length = n := by rw [hRc] at hn1; simpa using hn1
          have hn1000 : n ≤ 1000 := by rw [hPl.out] at hnP; omega
          have hres : refOf t O (Y.take (k + 1)) = R ++ [refA t O c a] := by rw [hstep.out]; exact refC_at hRc
          have hbc : ∀ j, j < 3 → (c.at j).length ≤ k * 100001 := fun j hj => by
            have h1 := hbd.out.openC a
            rw [hRc] at h1
            have := h1 R.length (by simp) j hj
            rw [List.getElem_append_right (Nat.le_refl _)] at this
            simpa using this
          rw [hRc] at hR1
          have hC1l : C1.length = n + 1 := by rw [hR1.out.1]; simp [hRn]
          have hnC : n < C1.length := by omega
          obtain ⟨gc, cc1, ev, hgB, cs9, hg9⟩ := hC1.out.form1 (by omega)
          rw [hC1l] at ev
          subst ev
          have hcr : CRt wc C1[n] c := hR1.out.2 n _ _ (List.getElem?_eq_getElem hnC) (by rw [← hRn, List.getElem?_append_right (Nat.le_refl _)]; simp)
          obtain ⟨r0, r1, r2, r3, r4⟩ := crow5 hC1.out.r hnC
          obtain ⟨cx, hcx⟩ : ∃ cx, C1[n] = cx := ⟨_, rfl⟩
          rw [hcx] at hcr r0 r1 r2 r3 r4
          have hcm := hcr.m
          have hcep := hcr.ep
          have hcst := hcr.st
          have hcsc := hcr.sc
          have hcch := hcr.ch
          obtain ⟨d0, d1, ⟨d2, d3, d4⟩, ⟨d5, d6, d7⟩, ⟨d8, d9, d10⟩⟩ := cx
          simp only [slv] at r0 r1 r2 r3 r4 hcst hcsc hcch hcm hcep
          have hwn : IntKind.i64.wrap (n : Int) = (n : Int) := IntWalk.i64_in _ (by omega)
          have hnn : (n : Int) < (n : Int) + 1 := by omega
          have hkB := (Keeps.refl [] wc).alloc (.cells #[.int .i64 d0, .int .i64 d1, .slice d2 d3 d4, .slice d5 d6 d7, .slice d8 d9 d10] tC)
          have hbB := heap_alloc_new wc (.cells #[.int .i64 d0, .int .i64 d1, .slice d2 d3 d4, .slice d5 d6 d7, .slice d8 d9 d10] tC)
          have hkwB := hk1.out.trans hkB
          have hb1B := (hkB.block XA (lt_of_blk hb1.out) (by simp)).trans hb1.out
          have hC1B := hC1.out.keeps hkB
          have hR1B := hR1.out.keeps hkB
          have hstB := hcst.keeps hkB
          have hscB := hcsc.keeps hkB
          have hchB := hcch.keeps hkB
          have hXAl := lt_of_blk hb1.out
          have hgcl := lt_of_blk hg9
          have hwXB : w.heap.size ≤ wc.heap.size := hk1.out.size
          obtain ⟨y0, y1, y2, y3, y4, y5, y6, y7, yf, ylt⟩ := cells8 hb1.out
          replace hres := Lib.hid hres
          replace hbc := Lib.hid hbc
          replace hRn := Lib.hid hRn
          replace hkB := Lib.hid hkB
          replace hbB := Lib.hid hbB
          replace hkwB := Lib.hid hkwB
          replace hb1B := Lib.hid hb1B
          replace hC1B := Lib.hid hC1B
          replace hR1B := Lib.hid hR1B
          replace hstB := Lib.hid hstB
          replace hscB := Lib.hid hscB
          replace hchB := Lib.hid hchB
          replace hcm := Lib.hid hcm
          replace hcep := Lib.hid hcep
          replace hC1l := Lib.hid hC1l
          replace hcx := Lib.hid hcx
          clear hcr hcst hcsc hcch hC1 hR1 hk1 hRc hn1 hnP hg9 hgB
          go_wp2
          generalize (wc.alloc (.cells #[.int .i64 d0, .int .i64 d1, .slice d2 d3 d4, .slice d5 d6 d7, .slice d8 d9 d10] tC)) = WB at *
          obtain ⟨XB, hXB⟩ : ∃ X, wc.heap.size = X := ⟨_, rfl⟩
          rw [hXB] at hbB hXAl hgcl hwXB ⊢
          replace hXB := Lib.hid hXB
          clear y0 y1 y2 y3 y4 y5 y6 y7 yf ylt r0 r1 r2 r3 r4
          have hXAB : XA ≠ XB := by omega
          have hgcB : gc ≠ XB := by omega
          go_loopw [7] (fun i wl => ∃ (j : Nat) (sa : Option Addr) (sn sc : Nat), i = .int .i64 j ∧ j ≤ x8 ∧ Hid (wl.heap[XB]? = some (.cells #[.int .i64 d0, .int .i64 d1, .slice d2 d3 d4, .slice sa sn sc, .slice d8 d9 d10] tC)) ∧ Hid (Nd wl (.slice sa sn sc) ((a.ins.take j).foldl (scR t a.m) c.sc)) ∧ Hid (Keeps [XB] WB wl)) (fun i _ => x8 - (intOf i).toNat)
          case atStart => exact ⟨0, d5, d6, d7, rfl, by omega, hbB, hscB, Lib.hid (Keeps.refl _ _)⟩
          case round =>
            obtain ⟨j, sa, sn, sc, rfl, hj, hbx, hNd, hkl⟩ := hrel
            have hkw := hkwB.out.fresh hkl.out (fun b hb => by simp at hb; subst hb; exact .inr hwXB)
            have hb1r := (hkl.out.block XA (lt_of_blk hb1B.out) (by simp [hXAB])).trans hb1B.out
            obtain ⟨y0, y1, y2, y3, y4, y5, y6, y7, yf, ylt⟩ := cells8 hb1r
            obtain ⟨z0, z1, z2, z3, z4, zl⟩ := cells5 hbx.out
            replace hkw := Lib.hid hkw
            replace hb1r := Lib.hid hb1r
            by_cases hltj : j < x8
            · have hjl : j < a.ins.length := by rw [hx8.out]; exact hltj
              obtain ⟨gs, os, cs', hvs, hes⟩ := m7.out.elem hjl
              rw [hx8.out] at hvs
              cases hvs
              obtain ⟨⟨p0, p1, p2⟩, hp⟩ : ∃ x, a.ins[j] = x := ⟨_, rfl⟩
              have hfo : (a.ins.take (j + 1)).foldl (scR t a.m) c.sc = putN (p0, p1, luL Y (p0, x0, p1)) ((a.ins.take j).foldl (scR t a.m) c.sc) := by
                rw [List.take_succ_eq_append_getElem hjl, List.foldl_append, hp, hlu.out, m0.out]; rfl
              have hfl : ((a.ins.take j).foldl (scR t a.m) c.sc).length ≤ 1000000000 := by
                have h1 := scR_fold_len t a.m (a.ins.take j) c.sc
                have h2 := hbc.out 1 (by omega)
                simp only [PCl.at] at h2
                rw [List.length_take] at h1
                omega
              rw [hp] at hes
              have f0 := hkw.out.val (hes 0 _ rfl)
              have f1 := hkw.out.val (hes 1 _ rfl)
              simp only [shT, Nat.add_zero] at f0 f1
              have hgs : gs ≠ XB := by
                have := lt_of_cell (hes 0 _ rfl)
                omega
              have hlc := hluc.out _ (hkw.out.drew) p0 x0 p1
              obtain ⟨lu, hlu2⟩ : ∃ l, luL Y (p0, x0, p1) = l := ⟨_, rfl⟩
              rw [hlu2] at hfo hlc
              obtain ⟨SL, hSL⟩ : ∃ l, (a.ins.take j).foldl (scR t a.m) c.sc = l := ⟨_, rfl⟩
              rw [hSL] at hfo hfl hNd
              replace hfo := Lib.hid hfo
              replace hfl := Lib.hid hfl
              replace hlc := Lib.hid hlc
              replace hp := Lib.hid hp
              replace hlu2 := Lib.hid hlu2
              replace hSL := Lib.hid hSL
              clear hes
              go_wp2
              refine Free.wp_region_chain (fun i => i == 29 || i == 31 || i == 33) (fun i => true) (fun j b => j = 33 ∧ b = XB) (by kernel_rfl) (by kernel_rfl) (by kernel_rfl) ?_
              (repeat (first | (apply Free.cw_pure rfl rfl; (intro w'; go_simp <;> exact rfl); go_frame) | (apply Free.cw_steady rfl rfl rfl; (intro w' hS; have q0 := Free.sx_cell hS z3 (fun j hp hT => by obtain ⟨rfl, _⟩ := hT; exact absurd hp (by decide +kernel)); have q1 := Free.sx_cell hS y7 (fun _ _ hT => hXAB hT.2); have q2 := Free.sx_cell hS y0 (fun _ _ hT => hXAB hT.2); have q3 := Free.sx_cell hS f0 (fun _ _ hT => hgs hT.2); have q4 := Free.sx_cell hS f1 (fun _ _ hT => hgs hT.2); go_simp <;> exact rfl); go_frame) | (refine Free.cw_skip rfl ?_; go_frame)))
              refine Free.cw_loud rfl rfl (fun K hK => ?_)
              go_wp2_with fail
              refine hlc.out.mono ?_
              rintro e w2 ⟨rfl, hk2⟩
              refine hK _ _ rfl (Free.KeepsP.of hk2 (by simp)) ?_
              clear hK K hlc
              have hk2d := ((Keeps.refl [] wr).drew).trans hk2
              have hNd2 := hNd.out.keeps hk2d
              replace hk2d := Lib.hid hk2d
              replace hNd2 := Lib.hid hNd2
              clear hk2
              (repeat (apply Free.cw_pure rfl rfl; (intro w'; go_simp <;> exact rfl); go_frame))
              refine Free.cw_loud rfl rfl (fun K hK => ?_)
              go_wp2_with fail
              have hpc := putR_c w2 (.slice sa sn sc) SL (p0, p1, lu) hNd2.out.1 (by have := hfl.out; omega)
              simp only [tV] at hpc
              refine hpc.mono ?_
              rintro e w3 ⟨v', rfl, hpp, hk3⟩
              refine hK _ _ rfl (Free.KeepsP.of hk3 (by simp)) ?_
              clear hK K hpc
              have hNd3 := hNd2.out.put hk3 hpp
              rw [← hfo.out] at hNd3
              have hk3w := hk2d.out.trans hk3
              have hbx3 := (hk3w.block XB zl (by simp)).trans hbx.out
              obtain ⟨pa, pc, rfl, _⟩ := hNd3.1.form
              obtain ⟨pn, hpn⟩ : ∃ n, ((a.ins.take (j + 1)).foldl (scR t a.m) c.sc).length = n := ⟨_, rfl⟩
              rw [hpn] at hNd3 ⊢
              obtain ⟨q0, q1, q2, q3, q4, ql⟩ := cells5 hbx3
              have qf : ∀ o, w3.frozen? ⟨XB, o, none⟩ = false := fun o => by simp [World.frozen?, hbx3]
              have hkS : Keeps [XB] w3 (w3.setCell ⟨XB, 3, none⟩ (.slice pa pn pc)) := (Keeps.refl _ _).setCell (.inr (by simp)) _
              have hbS := setCs hbx3 3 (.slice pa pn pc)
              have hNdS := hNd3.keepS hkS (fun b hb => by simp at hb; subst hb; exact tag_C hbx3)
              have hklS := (hkl.out.trans hk3w.of_nil).trans hkS
              replace hpn := Lib.hid hpn
              replace hbS := Lib.hid hbS
              replace hNdS := Lib.hid hNdS
              replace hklS := Lib.hid hklS
              clear hNd3 hk3 hpp hk3w hbx3
              (repeat (apply Free.cw_pure rfl rfl; (intro w'; go_simp <;> exact rfl); go_frame))
              refine Free.cw_loud rfl rfl (fun K hK => ?_)
              go_wp2
              refine hK _ _ rfl (Free.KeepsP.of hkS (fun b hb => ⟨trivial, by simpa using hb⟩)) ?_
              clear hK K
              generalize (w3.setCell ⟨XB, 3, none⟩ (.slice pa pn pc)) = w4 at *
              clear hkS q0 q1 q2 q3 q4 ql qf
              (repeat (apply Free.cw_pure rfl rfl; (intro w'; go_simp <;> exact rfl); go_frame))
              refine Free.cw_nil ?_
              go_wp2
              go_roundw
              case rel => exact ⟨j + 1, pa, pn, pc, rfl, by omega, hbS, hNdS, hklS⟩
              case measure => simp [intOf]; omega
            · have hjx : j = x8 := by omega
              subst hjx
              rw [show a.ins.take j = a.ins from List.take_of_length_le (by rw [hx8.out]; exact Nat.le_refl _)] at hNd
              have hoc := houtc.out wr hkw.out x1 x0 x2
              rw [hOg.out] at hoc
              have hkl0 : WB.heap.size ≤ wr.heap.size := hkl.out.size
              have hst3 := hstB.out.keepS hkl.out (fun b hb => by simp at hb; subst hb; exact tag_C hbB.out)
              have hch3 := hchB.out.keepS hkl.out (fun b hb => by simp at hb; subst hb; exact tag_C hbB.out)
              have hgcw : gc < WB.heap.size := Nat.lt_of_lt_of_le hgcl (Nat.le_of_lt (lt_of_blk hbB.out))
              have hgBw : w.heap.size ≤ gc := hC1B.out.ge gc (by simp [Value.ownBlock])
              have fin : ∀ (W : World) (y : ClV), Keeps [XB] WB W → CRt W y (refA t O c a) →
                  Hid (shC.O (((((W.setCell ⟨gc, n * 5, none⟩ (.int .i64 y.m)).setCell ⟨gc, n * 5 + 1, none⟩ (.int .i64 y.ep)).setCell ⟨gc, n * 5 + 2, none⟩ (slv y.v1)).setCell ⟨gc, n * 5 + 3, none⟩ (slv y.v2)).setCell ⟨gc, n * 5 + 4, none⟩ (slv y.v3)) w.heap.size tC (.slice (some ⟨gc, 0, none⟩) (n + 1) cc1) (C1.set n y)) ∧
                  Hid (Rows' (((((W.setCell ⟨gc, n * 5, none⟩ (.int .i64 y.m)).setCell ⟨gc, n * 5 + 1, none⟩ (.int .i64 y.ep)).setCell ⟨gc, n * 5 + 2, none⟩ (slv y.v1)).setCell ⟨gc, n * 5 + 3, none⟩ (slv y.v2)).setCell ⟨gc, n * 5 + 4, none⟩ (slv y.v3)) (C1.set n y) (refOf t O (Y.take (k + 1)))) ∧
                  Hid (Keeps [] w (((((W.setCell ⟨gc, n * 5, none⟩ (.int .i64 y.m)).setCell ⟨gc, n * 5 + 1, none⟩ (.int .i64 y.ep)).setCell ⟨gc, n * 5 + 2, none⟩ (slv y.v1)).setCell ⟨gc, n * 5 + 3, none⟩ (slv y.v2)).setCell ⟨gc, n * 5 + 4, none⟩ (slv y.v3))) := fun W y hkW hy => by
                have hOW := hC1B.out.keepS hkW (fun b hb e => by simp [Value.ownBlock] at e; simp at hb; omega)
                obtain ⟨cs, hcs⟩ := hOW.tag gc (by simp [Value.ownBlock])
                have hRW := (hR1B.out.keepS hkW (fun b hb => by simp at hb; subst hb; exact tag_C hbB.out)).setL hRn.out hy
                rw [← hres.out] at hRW
                have hk5 := st5k (k := n) (.int .i64 y.m) (.int .i64 y.ep) (slv y.v1) (slv y.v2) (slv y.v3) hcs
                exact ⟨Lib.hid (setRow5 hOW (by rw [hC1l.out]; omega) y), Lib.hid (hRW.keepS hk5 (fun b hb => by simp at hb; subst hb; exact tag_C hcs)), Lib.hid ((hkwB.out.fresh hkW (fun b hb => by simp at hb; subst hb; exact .inr hwXB)).fresh hk5 (fun b hb => by simp at hb; subst hb; exact .inr hgBw))⟩
              have hgo : MapS.get (a.ow, a.m, a.n) O = MapS.get (x1, x0, x2) O := by rw [m0.out, m1.out, m2.out]
              obtain ⟨go, hgo2⟩ : ∃ g, MapS.get (x1, x0, x2) O = g := ⟨_, rfl⟩
              rw [hgo2] at hoc hgo
              replace fin := Lib.hid fin
              replace hst3 := Lib.hid hst3
              replace hch3 := Lib.hid hch3
              replace hoc := Lib.hid hoc
              replace hgo2 := Lib.hid hgo2
              replace hkl0 := Lib.hid hkl0
              cases go with
              | some o2 =>
                have hstR : stR O a c.st = putN (x1, x2, o2) c.st := by unfold stR; rw [hgo, m1.out, m2.out]
                have hchR : chR O a c.ch = c.ch := by unfold chR; rw [hgo]
                replace hstR := Lib.hid hstR
                replace hchR := Lib.hid hchR
                replace hgo := Lib.hid hgo
                go_wp2_with fail
                refine hoc.out.mono ?_
                rintro e w2 ⟨rfl, hk2⟩
                have hpc := fun (h : shT.R w2 (.slice d2 d3 d4) c.st) => putR_c w2 (.slice d2 d3 d4) c.st (x1, x2, o2) h (by have := hbc.out 0 (by omega); simp only [PCl.at] at this; omega)
                simp only [tV] at hpc
                replace hpc := Lib.hid (hpc (hst3.out.keeps hk2).1)
                have hbx2 := (hk2.block XB zl (by simp)).trans hbx.out
                obtain ⟨z0, z1, z2, z3, z4, zl2⟩ := cells5 hbx2
                have hb12 := (hk2.block XA ylt (by simp)).trans hb1r.out
                obtain ⟨y0, y1, y2, y3, y4, y5, y6, y7, yf, ylt2⟩ := cells8 hb12
                replace hbx2 := Lib.hid hbx2
                replace hb12 := Lib.hid hb12
                clear hoc
                go_wp2_with fail
                refine hpc.out.mono ?_
                rintro e w3 ⟨v', rfl, hpp, hk3⟩
                have hp3 := (hst3.out.keeps hk2).put hk3 hpp
                have hk3w := hk2.trans hk3
                have hbx3 := (hk3.block XB zl2 (by simp)).trans hbx2.out
                obtain ⟨pa, pc, rfl, _⟩ := hp3.1.form
                obtain ⟨pn, hpn⟩ : ∃ n, (putN (x1, x2, o2) c.st).length = n := ⟨_, rfl⟩
                rw [hpn] at hp3 ⊢
                obtain ⟨q0, q1, q2, q3, q4, ql⟩ := cells5 hbx3
                have qf : ∀ o, w3.frozen? ⟨XB, o, none⟩ = false := fun o => by simp [World.frozen?, hbx3]
                have hkS : Keeps [XB] w3 (w3.setCell ⟨XB, 2, none⟩ (.slice pa pn pc)) := (Keeps.refl _ _).setCell (.inr (by simp)) _
                have hp4 := hp3.keepS hkS (fun b hb => by simp at hb; subst hb; exact tag_C hbx3)
                have hsc4 := (hNd.out.keeps hk3w).keepS hkS (fun b hb => by simp at hb; subst hb; exact tag_C hbx3)
                have hch4 := (hch3.out.keeps hk3w).keepS hkS (fun b hb => by simp at hb; subst hb; exact tag_C hbx3)
                have hklS := (hkl.out.trans hk3w.of_nil).trans hkS
                replace hp4 := Lib.hid hp4
                obtain ⟨g1, g2, g3⟩ := fin.out _ ⟨d0, d1, (pa, pn, pc), (sa, sn, sc), (d8, d9, d10)⟩ hklS ⟨hcm.out, hcep.out, by show Nd _ _ (stR O a c.st); rw [hstR.out]; exact hp4.out, hsc4, by show Nd _ _ (chR O a c.ch); rw [hchR.out]; exact hch4⟩
                have hkg : gc < w3.heap.size := Nat.lt_of_lt_of_le (Nat.lt_of_lt_of_le hgcw (hkl0.out)) (hk3w.size)
                have hgc3 := (((hC1B.out.keepS hkl.out (fun b hb e => by simp [Value.ownBlock] at e; simp at hb; omega)).keeps hk3w).r)
                obtain ⟨r0, r1, r2, r3, r4⟩ := crow5 hgc3 (by rw [hC1l.out]; omega)
                have hgf : ∀ o, w3.frozen? ⟨gc, o, none⟩ = false := fun o => by
                  obtain ⟨cs, hc⟩ := ((hC1B.out.keepS hkl.out (fun b hb e => by simp [Value.ownBlock] at e; simp at hb; omega)).keeps hk3w).tag gc (by simp [Value.ownBlock])
                  simp [World.frozen?, hc]
                replace hpn := Lib.hid hpn
                clear hp3 hpp hk3 hk2 hk3w hkS hpc hklS hp4 hgc3 hsc4 fin hch4
                go_wp2
                go_roundw
                case rel => exact ⟨k + 1, _, rfl, by omega, g1, g2, g3⟩
                case measure => simp [intOf]; omega
              | none =>
                have hstR : stR O a c.st = c.st := by unfold stR; rw [hgo]
                have hchR : chR O a c.ch = putN (x1, x2, 0) c.ch := by unfold chR; rw [hgo, m1.out, m2.out]
                replace hstR := Lib.hid hstR
                replace hchR := Lib.hid hchR
                replace hgo := Lib.hid hgo
                go_wp2_with fail
                refine hoc.out.mono ?_
                rintro e w2 ⟨rfl, hk2⟩
                have hpc := fun (h : shT.R w2 (.slice d8 d9 d10) c.ch) => putR_c w2 (.slice d8 d9 d10) c.ch (x1, x2, 0) h (by have := hbc.out 2 (by omega); simp only [PCl.at] at this; omega)
                simp only [tV] at hpc
                replace hpc := Lib.hid (hpc (hch3.out.keeps hk2).1)
                have hbx2 := (hk2.block XB zl (by simp)).trans hbx.out
                obtain ⟨z0, z1, z2, z3, z4, zl2⟩ := cells5 hbx2
                have hb12 := (hk2.block XA ylt (by simp)).trans hb1r.out
                obtain ⟨y0, y1, y2, y3, y4, y5, y6, y7, yf, ylt2⟩ := cells8 hb12
                replace hbx2 := Lib.hid hbx2
                replace hb12 := Lib.hid hb12
                clear hoc
                go_wp2_with fail
                refine hpc.out.mono ?_
                rintro e w3 ⟨v', rfl, hpp, hk3⟩
                have hp3 := (hch3.out.keeps hk2).put hk3 hpp
                have hk3w := hk2.trans hk3
                have hbx3 := (hk3.block XB zl2 (by simp)).trans hbx2.out
                obtain ⟨pa, pc, rfl, _⟩ := hp3.1.form
                obtain ⟨pn, hpn⟩ : ∃ n, (putN (x1, x2, 0) c.ch).length = n := ⟨_, rfl⟩
                rw [hpn] at hp3 ⊢
                obtain ⟨q0, q1, q2, q3, q4, ql⟩ := cells5 hbx3
                have qf : ∀ o, w3.frozen? ⟨XB, o, none⟩ = false := fun o => by simp [World.frozen?, hbx3]
                have hkS : Keeps [XB] w3 (w3.setCell ⟨XB, 4, none⟩ (.slice pa pn pc)) := (Keeps.refl _ _).setCell (.inr (by simp)) _
                have hp4 := hp3.keepS hkS (fun b hb => by simp at hb; subst hb; exact tag_C hbx3)
                have hsc4 := (hNd.out.keeps hk3w).keepS hkS (fun b hb => by simp at hb; subst hb; exact tag_C hbx3)
                have hst4 := (hst3.out.keeps hk3w).keepS hkS (fun b hb => by simp at hb; subst hb; exact tag_C hbx3)
                have hklS := (hkl.out.trans hk3w.of_nil).trans hkS
                replace hp4 := Lib.hid hp4
                obtain ⟨g1, g2, g3⟩ := fin.out _ ⟨d0, d1, (d2, d3, d4), (sa, sn, sc), (pa, pn, pc)⟩ hklS ⟨hcm.out, hcep.out, by show Nd _ _ (stR O a c.st); rw [hstR.out]; exact hst4, hsc4, by show Nd _ _ (chR O a c.ch); rw [hchR.out]; exact hp4.out⟩
                have hkg : gc < w3.heap.size := Nat.lt_of_lt_of_le (Nat.lt_of_lt_of_le hgcw (hkl0.out)) (hk3w.size)
                have hgc3 := (((hC1B.out.keepS hkl.out (fun b hb e => by simp [Value.ownBlock] at e; simp at hb; omega)).keeps hk3w).r)
                obtain ⟨r0, r1, r2, r3, r4⟩ := crow5 hgc3 (by rw [hC1l.out]; omega)
                have hgf : ∀ o, w3.frozen? ⟨gc, o, none⟩ = false := fun o => by
                  obtain ⟨cs, hc⟩ := ((hC1B.out.keepS hkl.out (fun b hb e => by simp [Value.ownBlock] at e; simp at hb; omega)).keeps hk3w).tag gc (by simp [Value.ownBlock])
                  simp [World.frozen?, hc]
                replace hpn := Lib.hid hpn
                clear hp3 hpp hk3 hk2 hk3w hkS hpc hklS hp4 hgc3 hsc4 fin hst4
                go_wp2
                go_roundw
                case rel => exact ⟨k + 1, _, rfl, by omega, g1, g2, g3⟩
                case measure => simp [intOf]; omega
    · have hkx : k = M := by omega
      subst hkx
      have hall : refOf t O (Y.take k) = refOf t O Y := by rw [← hM.out, List.take_length]
      rw [hall] at hRw
      go_wp2
      go_ret
      exact ⟨_, rfl, ⟨C, hC.out.r, hRw.out⟩, hkr.out⟩
end Go.Proofs.Ythfdngjbcgkkfaa

namespace Go.Proofs.Ythfdngjbcgkkfaa
open Go.RowKit

theorem sizeR : (Try.prog.info? tR).map (·.size) = some 12 := by kernel_rfl
theorem load_rf (w : World) (g : Nat) (t : TypeId) (x0 x1 x2 x3 x4 x5 x6 x7 x8 x9 x10 x11 : Value) (f : Nat × Nat) (hg : w.heap[g]? = some (.cells #[x0, x1, x2, x3, x4, x5, x6, x7, x8, x9, x10, x11] t f)) : (loadVar tR ⟨g, 0, none⟩).run Try.prog w = .ok (.agg #[x0, x1, x2, x3, x4, x5, x6, x7, x8, x9, x10, x11]) w :=
  run_loadVar_row w g t tR #[x0, x1, x2, x3, x4, x5, x6, x7, x8, x9, x10, x11] f _ hg Try.underlying56 rfl sizeR
theorem results_rf {fn : Func} {p u : Tmp} (h : fn.results = #[.cell p tR, .tmp u]) (tmps : Array Value) (w : World) (g : Nat) (t : TypeId) (x0 x1 x2 x3 x4 x5 x6 x7 x8 x9 x10 x11 : Value) (f : Nat × Nat) (hp : tmps.getD p undef = .pointer (some ⟨g, 0, none⟩))
    (hg : w.heap[g]? = some (.cells #[x0, x1, x2, x3, x4, x5, x6, x7, x8, x9, x10, x11] t f)) : (results fn tmps).run Try.prog w = .ok (.tuple #[.agg #[x0, x1, x2, x3, x4, x5, x6, x7, x8, x9, x10, x11], tmps.getD u undef]) w := by
  have hp' : tmps[p]?.getD undef = .pointer (some ⟨g, 0, none⟩) := by simpa using hp
  simp [results, h, hp', asAddr, load_rf w g t x0 x1 x2 x3 x4 x5 x6 x7 x8 x9 x10 x11 f hg]
/-- Twelve cells are stored. -/
theorem st12 {w : World} {X : Nat} {t : TypeId} {x0 x1 x2 x3 x4 x5 x6 x7 x8 x9 x10 x11 u0 u1 u2 u3 u4 u5 u6 u7 u8 u9 u10 u11 : Value} (h2 : w.heap[X]? = some (.cells #[u0, u1, u2, u3, u4, u5, u6, u7, u8, u9, u10, u11] t (0, 0))) :
    ((((((((((((w.setCell ⟨X, 0, none⟩ x0).setCell ⟨X, 1, none⟩ x1).setCell ⟨X, 2, none⟩ x2).setCell ⟨X, 3, none⟩ x3).setCell ⟨X, 4, none⟩ x4).setCell ⟨X, 5, none⟩ x5).setCell ⟨X, 6, none⟩ x6).setCell ⟨X, 7, none⟩ x7).setCell ⟨X, 8, none⟩ x8).setCell ⟨X, 9, none⟩ x9).setCell ⟨X, 10, none⟩ x10).setCell ⟨X, 11, none⟩ x11).heap[X]? = some (.cells #[x0, x1, x2, x3, x4, x5, x6, x7, x8, x9, x10, x11] t (0, 0)) ∧
    Keeps [X] w ((((((((((((w.setCell ⟨X, 0, none⟩ x0).setCell ⟨X, 1, none⟩ x1).setCell ⟨X, 2, none⟩ x2).setCell ⟨X, 3, none⟩ x3).setCell ⟨X, 4, none⟩ x4).setCell ⟨X, 5, none⟩ x5).setCell ⟨X, 6, none⟩ x6).setCell ⟨X, 7, none⟩ x7).setCell ⟨X, 8, none⟩ x8).setCell ⟨X, 9, none⟩ x9).setCell ⟨X, 10, none⟩ x10).setCell ⟨X, 11, none⟩ x11) := by
  have hk : Keeps [X] w ((((((((((((w.setCell ⟨X, 0, none⟩ x0).setCell ⟨X, 1, none⟩ x1).setCell ⟨X, 2, none⟩ x2).setCell ⟨X, 3, none⟩ x3).setCell ⟨X, 4, none⟩ x4).setCell ⟨X, 5, none⟩ x5).setCell ⟨X, 6, none⟩ x6).setCell ⟨X, 7, none⟩ x7).setCell ⟨X, 8, none⟩ x8).setCell ⟨X, 9, none⟩ x9).setCell ⟨X, 10, none⟩ x10).setCell ⟨X, 11, none⟩ x11) := by
    refine ((((((((((((Keeps.refl _ w).setCell ?_ _).setCell ?_ _).setCell ?_ _).setCell ?_ _).setCell ?_ _).setCell ?_ _).setCell ?_ _).setCell ?_ _).setCell ?_ _).setCell ?_ _).setCell ?_ _).setCell ?_ _ <;> exact .inr (by simp)
  refine ⟨?_, hk⟩
  clear hk
  have s1 := setCs h2 0 x0
  generalize w.setCell ⟨X, 0, none⟩ x0 = w1 at s1 ⊢
  have s2 := setCs s1 1 x1
  generalize w1.setCell ⟨X, 1, none⟩ x1 = w2 at s2 ⊢
  have s3 := setCs s2 2 x2
  generalize w2.setCell ⟨X, 2, none⟩ x2 = w3 at s3 ⊢
  have s4 := setCs s3 3 x3
  generalize w3.setCell ⟨X, 3, none⟩ x3 = w4 at s4 ⊢
  have s5 := setCs s4 4 x4
  generalize w4.setCell ⟨X, 4, none⟩ x4 = w5 at s5 ⊢
  have s6 := setCs s5 5 x5
  generalize w5.setCell ⟨X, 5, none⟩ x5 = w6 at s6 ⊢
  have s7 := setCs s6 6 x6
  generalize w6.setCell ⟨X, 6, none⟩ x6 = w7 at s7 ⊢
  have s8 := setCs s7 7 x7
  generalize w7.setCell ⟨X, 7, none⟩ x7 = w8 at s8 ⊢
  have s9 := setCs s8 8 x8
  generalize w8.setCell ⟨X, 8, none⟩ x8 = w9 at s9 ⊢
  have s10 := setCs s9 9 x9
  generalize w9.setCell ⟨X, 9, none⟩ x9 = w10 at s10 ⊢
  have s11 := setCs s10 10 x10
  generalize w10.setCell ⟨X, 10, none⟩ x10 = w11 at s11 ⊢
  have s12 := setCs s11 11 x11
  simpa using s12
theorem shA_zero : shA.cf AnV.zero = [.int .i64 0, .int .i64 0, .int .u64 (0 : Nat), .int .i64 0, .bool false, .bool false, .int .i64 0, .slice none 0 0] := rfl
set_option maxRecDepth 100000 in
set_option maxHeartbeats 4000000 in
theorem newR_c (w : World) (im is : Int) (st : T3) :
    Calls Try.prog 19 #[idV im is, tV st] w fun e w' => ∃ x, e = .returned (rfV x) ∧ RfR w' x (Tr.new im is st) ∧ Keeps [] w w' ∧ ∀ b ∈ blks x, w.heap.size ≤ b ∧ b < w'.heap.size := by
  obtain ⟨s0, s1, s2⟩ := st
  go_enter Try.func19, Try.ntmps19
  go_wp2
  obtain ⟨w2, hw2⟩ : ∃ x, (w.alloc (.cells #[.int .i64 im, .int .i64 is] 23)).alloc (.cells #[.int .i64 s0, .int .u64 s1, .int .i64 s2] tN) = x := ⟨_, rfl⟩
  have hz2 : w2.heap.size = w.heap.size + 1 + 1 := by rw [← hw2]; simp
  have hk2 : Keeps [] w w2 := by rw [← hw2]; exact ((Keeps.refl _ _).alloc _).alloc _
  rw [hw2, ← hz2]
  have hb3 := heap_alloc_new w2 (.cells #[.int .i64 im, .int .i64 is, .int .i64 s0, .int .u64 s1, .int .i64 s2, .int .i64 0, .slice (some ⟨w2.heap.size + 1 + 1, 0, none⟩) 1 1, .slice (some ⟨w2.heap.size + 1 + 1 + 1, 0, none⟩) 1 1, .int .i64 0, .slice none 0 0, .bool false, .slice none 0 0] tR)
  have hk3 := hk2.alloc (.cells #[.int .i64 im, .int .i64 is, .int .i64 s0, .int .u64 s1, .int .i64 s2, .int .i64 0, .slice (some ⟨w2.heap.size + 1 + 1, 0, none⟩) 1 1, .slice (some ⟨w2.heap.size + 1 + 1 + 1, 0, none⟩) 1 1, .int .i64 0, .slice none 0 0, .bool false, .slice none 0 0] tR)
  obtain ⟨w3, hw3⟩ : ∃ x, w2.alloc (.cells #[.int .i64 im, .int .i64 is, .int .i64 s0, .int .u64 s1, .int .i64 s2, .int .i64 0, .slice (some ⟨w2.heap.size + 1 + 1, 0, none⟩) 1 1, .slice (some ⟨w2.heap.size + 1 + 1 + 1, 0, none⟩) 1 1, .int .i64 0, .slice none 0 0, .bool false, .slice none 0 0] tR) = x := ⟨_, rfl⟩
  have hz3 : w3.heap.size = w2.heap.size + 1 := by rw [← hw3]; simp
  rw [hw3] at hb3 hk3 ⊢
  obtain ⟨w4, hw4⟩ : ∃ x, w3.alloc (.cells #[.int .i64 im, .int .u64 s1, .int .i64 s0] tN) = x := ⟨_, rfl⟩
  have hz4 : w4.heap.size = w3.heap.size + 1 := by rw [← hw4]; simp
  have hk4 : Keeps [] w3 w4 := by rw [← hw4]; exact (Keeps.refl _ _).alloc _
  have hO := Sh.O.one shT w4 (im, s1, s0) #[.int .i64 im, .int .u64 s1, .int .i64 s0] tN 0 rfl (by omega)
  have hk5 := hk4.alloc (.cells #[.int .i64 im, .int .u64 s1, .int .i64 s0] tN)
  obtain ⟨w5, hw5⟩ : ∃ x, w4.alloc (.cells #[.int .i64 im, .int .u64 s1, .int .i64 s0] tN) = x := ⟨_, rfl⟩
  have hz5 : w5.heap.size = w4.heap.size + 1 := by rw [← hw5]; simp
  rw [hw5] at hO hk5
  have hA := Sh.O.one shA w5 AnV.zero #[.int .i64 0, .int .i64 0, .int .u64 (0 : Nat), .int .i64 0, .bool false, .bool false, .int .i64 0, .slice none 0 0] tA 0 rfl (by omega)
  have hk6 := hk5.alloc (.cells #[.int .i64 0, .int .i64 0, .int .u64 (0 : Nat), .int .i64 0, .bool false, .bool false, .int .i64 0, .slice none 0 0] tA)
  have hk56 : Keeps [] w5 _ := (Keeps.refl [] w5).alloc (.cells #[.int .i64 0, .int .i64 0, .int .u64 (0 : Nat), .int .i64 0, .bool false, .bool false, .int .i64 0, .slice none 0 0] tA)
  rw [show w4.heap.size = w2.heap.size + 1 + 1 by omega] at hO
  rw [show w5.heap.size = w2.heap.size + 1 + 1 + 1 by omega] at hA
  rw [show (w3.alloc (.cells #[.int .i64 im, .int .u64 s1, .int .i64 s0] 26)) = w4 from hw4, show (w4.alloc (.cells #[.int .i64 im, .int .u64 s1, .int .i64 s0] 26)) = w5 from hw5]
  refine bodyPost_ret (results_cell_row rfl _ _ _ _ _ _ _ rfl ((hk6.block _ (lt_of_blk hb3) (by simp)).trans hb3) Try.underlying56 rfl (by kernel_rfl)) ?_ ?_
  · rfl
  · refine ⟨⟨im, is, s0, s1, s2, 0, (some ⟨w2.heap.size + 1 + 1, 0, none⟩, 1, 1), (some ⟨w2.heap.size + 1 + 1 + 1, 0, none⟩, 1, 1), 0, (none, 0, 0), false, (none, 0, 0)⟩, rfl, ⟨rfl, rfl, rfl, rfl, rfl, rfl, rfl, rfl, hO.r.keeps hk56, ⟨[AnV.zero], hA.r, rfl, fun k x p h1 h2 => ?_⟩, Sh.R.nil _ _, ⟨[], Sh.R.nil _ _, rfl, fun k x y h => by simp at h⟩⟩, hk3.trans hk6, fun b hb => ?_⟩
    cases k with
    | zero =>
      simp [Tr.new] at h1 h2
      subst h1 h2
      rfl
    | succ k => simp at h1
    have h1 := hO.lt
    have h2 := hA.lt
    have hs1 := hk3.size
    have hs2 := hk6.size
    simp [blks, Value.ownBlock] at hb
    rcases hb with rfl | rfl
    · have h3 := h1 _ rfl
      simp only at h3
      exact ⟨by omega, by simp; omega⟩
    · exact ⟨by omega, by simp; omega⟩
def QsRPost (w : World) (x0 : RfV) (r : Tr × List T3) (e : Ending) (w' : World) : Prop := ∃ x v, e = .returned (.tuple #[rfV x, v]) ∧ RfR w' x r.1 ∧ shT.O w' w.heap.size tN v r.2 ∧ Keeps [] w w' ∧ Fsh w w' x0 x
set_option maxRecDepth 100000 in
set_option maxHeartbeats 10000000 in
theorem queriesR_c (w : World) (x : RfV) (t : Tr) (tn : Nat) (h : RfR w x t) (hr : ∀ p ∈ t.rec', p.2.kn = true) (ht : t.told = tn) (htn : tn ≤ t.qs.length) (hl : t.qs.length ≤ 100000) :
    Calls Try.prog 37 #[rfV x] w (QsRPost w x t.queries) := by
  have hO := h.op
  have hst := h.st
  have htl := h.told
  have hkB0 : ∀ A : Obj, Keeps [] w (w.alloc A) := fun A => (Keeps.refl _ _).alloc _
  by_cases hs : t.state = 0
  case neg =>
    have hq : t.queries = (t, []) := by unfold Tr.queries; rw [if_pos hs]
    rw [hq]
    obtain ⟨x0, x1, x2, x3, x4, x5, ⟨x6, x7, x8⟩, ⟨x9, x10, x11⟩, x12, ⟨x13, x14, x15⟩, x16, ⟨x17, x18, x19⟩⟩ := x
    simp only [slv] at hst htl
    have hsb : (x5 != 0) = true := by rw [hst]; simpa using hs
    have hb1 := heap_alloc_new (w.alloc (.cells #[.int .i64 x0, .int .i64 x1, .int .i64 x2, .int .u64 x3, .int .i64 x4, .int .i64 x5, .slice x6 x7 x8, .slice x9 x10 x11, .int .i64 x12, .slice x13 x14 x15, .bool x16, .slice x17 x18 x19] tR)) (.cells #[.int .i64 x0, .int .i64 x1, .int .i64 x2, .int .u64 x3, .int .i64 x4, .int .i64 x5, .slice x6 x7 x8, .slice x9 x10 x11, .int .i64 x12, .slice x13 x14 x15, .bool x16, .slice x17 x18 x19] tR)
    rw [show (w.alloc (.cells #[.int .i64 x0, .int .i64 x1, .int .i64 x2, .int .u64 x3, .int .i64 x4, .int .i64 x5, .slice x6 x7 x8, .slice x9 x10 x11, .int .i64 x12, .slice x13 x14 x15, .bool x16, .slice x17 x18 x19] tR)).heap.size = w.heap.size + 1 by simp] at hb1
    have hkA : Keeps [] w (((w.alloc (.cells #[.int .i64 x0, .int .i64 x1, .int .i64 x2, .int .u64 x3, .int .i64 x4, .int .i64 x5, .slice x6 x7 x8, .slice x9 x10 x11, .int .i64 x12, .slice x13 x14 x15, .bool x16, .slice x17 x18 x19] tR)).alloc (.cells #[.int .i64 x0, .int .i64 x1, .int .i64 x2, .int .u64 x3, .int .i64 x4, .int .i64 x5, .slice x6 x7 x8, .slice x9 x10 x11, .int .i64 x12, .slice x13 x14 x15, .bool x16, .slice x17 x18 x19] tR)).alloc (.cells #[] tN)) := (((Keeps.refl _ _).alloc _).alloc _).alloc _
    have hb2 := ((Keeps.refl [] ((w.alloc (.cells #[.int .i64 x0, .int .i64 x1, .int .i64 x2, .int .u64 x3, .int .i64 x4, .int .i64 x5, .slice x6 x7 x8, .slice x9 x10 x11, .int .i64 x12, .slice x13 x14 x15, .bool x16, .slice x17 x18 x19] tR)).alloc (.cells #[.int .i64 x0, .int .i64 x1, .int .i64 x2, .int .u64 x3, .int .i64 x4, .int .i64 x5, .slice x6 x7 x8, .slice x9 x10 x11, .int .i64 x12, .slice x13 x14 x15, .bool x16, .slice x17 x18 x19] tR))).alloc (.cells #[] tN)).block _ (lt_of_blk hb1) (by simp) |>.trans hb1
    have hfr := Sh.O.fresh shT ((w.alloc (.cells #[.int .i64 x0, .int .i64 x1, .int .i64 x2, .int .u64 x3, .int .i64 x4, .int .i64 x5, .slice x6 x7 x8, .slice x9 x10 x11, .int .i64 x12, .slice x13 x14 x15, .bool x16, .slice x17 x18 x19] tR)).alloc (.cells #[.int .i64 x0, .int .i64 x1, .int .i64 x2, .int .u64 x3, .int .i64 x4, .int .i64 x5, .slice x6 x7 x8, .slice x9 x10 x11, .int .i64 x12, .slice x13 x14 x15, .bool x16, .slice x17 x18 x19] tR)) w.heap.size tN (by simp; omega)
    rw [show ((w.alloc (.cells #[.int .i64 x0, .int .i64 x1, .int .i64 x2, .int .u64 x3, .int .i64 x4, .int .i64 x5, .slice x6 x7 x8, .slice x9 x10 x11, .int .i64 x12, .slice x13 x14 x15, .bool x16, .slice x17 x18 x19] tR)).alloc (.cells #[.int .i64 x0, .int .i64 x1, .int .i64 x2, .int .u64 x3, .int .i64 x4, .int .i64 x5, .slice x6 x7 x8, .slice x9 x10 x11, .int .i64 x12, .slice x13 x14 x15, .bool x16, .slice x17 x18 x19] tR)).heap.size = w.heap.size + 1 + 1 by simp] at hfr
    replace h := Lib.hid h
    replace hkA := Lib.hid hkA
    replace hb2 := Lib.hid hb2
    replace hfr := Lib.hid hfr
    replace hs := Lib.hid hs
    clear hb1 hO hst htl hq
    simp only [rfV, slv]
    go_enter Try.func37, Try.ntmps37
    go_wp2
    refine bodyPost_ret (results_rf rfl _ _ _ _ _ _ _ _ _ _ _ _ _ _ _ _ _ rfl hb2.out) ?_ ?_
    · rfl
    · exact ⟨⟨x0, x1, x2, x3, x4, x5, (x6, x7, x8), (x9, x10, x11), x12, (x13, x14, x15), x16, (x17, x18, x19)⟩, _, rfl, h.out.keeps hkA.out, hfr.out, hkA.out, fun b hb => .inl hb⟩
  case pos =>
    have hq : t.queries = ({ t with told := t.qs.length }, (t.qs.drop tn).filterMap askOf) := by unfold Tr.queries; rw [if_neg (by simp [hs]), ht]; rfl
    rw [hq]
    have hel := fun k hk => hO.elem (k := k) hk
    have hans := fun (W : World) (hk : Keeps [] w W) (k : Nat) (hkq : k < t.qs.length) => answeredR_c W x t k (h.keeps hk) hr hkq
    obtain ⟨_, _, -, hl1, hl2, -⟩ := hO.form
    obtain ⟨x0, x1, x2, x3, x4, x5, ⟨x6, x7, x8⟩, ⟨x9, x10, x11⟩, x12, ⟨x13, x14, x15⟩, x16, ⟨x17, x18, x19⟩⟩ := x
    simp only [slv, rfV] at hst htl hel hans hO
    have hx7 : t.qs.length = x7 := by
      obtain ⟨_, _, e, _⟩ := hO.form
      simp only [Value.slice.injEq] at e
      rw [e.2.1]; simp [Tr.op]
    have hx12 : x12 = tn := by rw [htl, ht]
    have hx5 : x5 = 0 := by rw [hst, hs]
    subst hx12 hx5
    rw [hx7] at htn hl ⊢
    have hb1 := heap_alloc_new (w.alloc (.cells #[.int .i64 x0, .int .i64 x1, .int .i64 x2, .int .u64 x3, .int .i64 x4, .int .i64 0, .slice x6 x7 x8, .slice x9 x10 x11, .int .i64 tn, .slice x13 x14 x15, .bool x16, .slice x17 x18 x19] tR)) (.cells #[.int .i64 0, .int .i64 0, .int .i64 0, .int .u64 0, .int .i64 0, .int .i64 0, .slice none 0 0, .slice none 0 0, .int .i64 0, .slice none 0 0, .bool false, .slice none 0 0] tR)
    rw [show (w.alloc (.cells #[.int .i64 x0, .int .i64 x1, .int .i64 x2, .int .u64 x3, .int .i64 x4, .int .i64 0, .slice x6 x7 x8, .slice x9 x10 x11, .int .i64 tn, .slice x13 x14 x15, .bool x16, .slice x17 x18 x19] tR)).heap.size = w.heap.size + 1 by simp] at hb1
    have hkA : Keeps [] w (((w.alloc (.cells #[.int .i64 x0, .int .i64 x1, .int .i64 x2, .int .u64 x3, .int .i64 x4, .int .i64 0, .slice x6 x7 x8, .slice x9 x10 x11, .int .i64 tn, .slice x13 x14 x15, .bool x16, .slice x17 x18 x19] tR)).alloc (.cells #[.int .i64 0, .int .i64 0, .int .i64 0, .int .u64 0, .int .i64 0, .int .i64 0, .slice none 0 0, .slice none 0 0, .int .i64 0, .slice none 0 0, .bool false, .slice none 0 0] tR)).alloc (.cells #[] tN)) := (((Keeps.refl _ _).alloc _).alloc _).alloc _
    have hb2 := ((Keeps.refl [] ((w.alloc (.cells #[.int .i64 x0, .int .i64 x1, .int .i64 x2, .int .u64 x3, .int .i64 x4, .int .i64 0, .slice x6 x7 x8, .slice x9 x10 x11, .int .i64 tn, .slice x13 x14 x15, .bool x16, .slice x17 x18 x19] tR)).alloc (.cells #[.int .i64 0, .int .i64 0, .int .i64 0, .int .u64 0, .int .i64 0, .int .i64 0, .slice none 0 0, .slice none 0 0, .int .i64 0, .slice none 0 0, .bool false, .slice none 0 0] tR))).alloc (.cells #[] tN)).block _ (lt_of_blk hb1) (by simp) |>.trans hb1
    have hb3 := (((Keeps.refl [] (w.alloc (.cells #[.int .i64 x0, .int .i64 x1, .int .i64 x2, .int .u64 x3, .int .i64 x4, .int .i64 0, .slice x6 x7 x8, .slice x9 x10 x11, .int .i64 tn, .slice x13 x14 x15, .bool x16, .slice x17 x18 x19] tR))).alloc (.cells #[.int .i64 0, .int .i64 0, .int .i64 0, .int .u64 0, .int .i64 0, .int .i64 0, .slice none 0 0, .slice none 0 0, .int .i64 0, .slice none 0 0, .bool false, .slice none 0 0] tR)).alloc (.cells #[] tN)).block _ (by simp) (by simp) |>.trans (heap_alloc_new w (.cells #[.int .i64 x0, .int .i64 x1, .int .i64 x2, .int .u64 x3, .int .i64 x4, .int .i64 0, .slice x6 x7 x8, .slice x9 x10 x11, .int .i64 tn, .slice x13 x14 x15, .bool x16, .slice x17 x18 x19] tR))
    have hfr := Sh.O.fresh shT ((w.alloc (.cells #[.int .i64 x0, .int .i64 x1, .int .i64 x2, .int .u64 x3, .int .i64 x4, .int .i64 0, .slice x6 x7 x8, .slice x9 x10 x11, .int .i64 tn, .slice x13 x14 x15, .bool x16, .slice x17 x18 x19] tR)).alloc (.cells #[.int .i64 0, .int .i64 0, .int .i64 0, .int .u64 0, .int .i64 0, .int .i64 0, .slice none 0 0, .slice none 0 0, .int .i64 0, .slice none 0 0, .bool false, .slice none 0 0] tR)) w.heap.size tN (by simp; omega)
    rw [show ((w.alloc (.cells #[.int .i64 x0, .int .i64 x1, .int .i64 x2, .int .u64 x3, .int .i64 x4, .int .i64 0, .slice x6 x7 x8, .slice x9 x10 x11, .int .i64 tn, .slice x13 x14 x15, .bool x16, .slice x17 x18 x19] tR)).alloc (.cells #[.int .i64 0, .int .i64 0, .int .i64 0, .int .u64 0, .int .i64 0, .int .i64 0, .slice none 0 0, .slice none 0 0, .int .i64 0, .slice none 0 0, .bool false, .slice none 0 0] tR)).heap.size = w.heap.size + 1 + 1 by simp] at hfr
    replace h := Lib.hid h
    replace hkA := Lib.hid hkA
    replace hb2 := Lib.hid hb2
    replace hb3 := Lib.hid hb3
    replace hfr := Lib.hid hfr
    replace hel := Lib.hid hel
    replace hans := Lib.hid hans
    replace hs := Lib.hid hs
    replace hx7 := Lib.hid hx7
    replace hO := Lib.hid hO
    clear hb1 hst htl hq hkB0 hr
    simp only [rfV, slv]
    go_enter Try.func37, Try.ntmps37
    go_wp2
    generalize (((w.alloc (.cells #[.int .i64 x0, .int .i64 x1, .int .i64 x2, .int .u64 x3, .int .i64 x4, .int .i64 0, .slice x6 x7 x8, .slice x9 x10 x11, .int .i64 tn, .slice x13 x14 x15, .bool x16, .slice x17 x18 x19] tR)).alloc (.cells #[.int .i64 0, .int .i64 0, .int .i64 0, .int .u64 0, .int .i64 0, .int .i64 0, .slice none 0 0, .slice none 0 0, .int .i64 0, .slice none 0 0, .bool false, .slice none 0 0] tR)).alloc (.cells #[] tN)) = W at *
    go_loopw [4, 5] (fun ov i wr => ∃ k : Nat, i = .int .i64 k ∧ tn ≤ k ∧ k ≤ x7 ∧ Hid (shT.O wr w.heap.size tN ov (((t.qs.drop tn).take (k - tn)).filterMap askOf)) ∧ Hid (Keeps [] w wr) ∧ Hid (wr.heap[w.heap.size]? = some (.cells #[.int .i64 x0, .int .i64 x1, .int .i64 x2, .int .u64 x3, .int .i64 x4, .int .i64 0, .slice x6 x7 x8, .slice x9 x10 x11, .int .i64 tn, .slice x13 x14 x15, .bool x16, .slice x17 x18 x19] tR)) ∧ Hid (wr.heap[w.heap.size + 1]? = some (.cells #[.int .i64 0, .int .i64 0, .int .i64 0, .int .u64 0, .int .i64 0, .int .i64 0, .slice none 0 0, .slice none 0 0, .int .i64 0, .slice none 0 0, .bool false, .slice none 0 0] tR))) (fun _ i _ => x7 - (intOf i).toNat)
    case atStart => exact ⟨tn, rfl, by omega, by omega, by rw [Nat.sub_self]; exact hfr, hkA, hb3, hb2⟩
    case round =>
      obtain ⟨k, rfl, hk1, hk2, hOr, hkr, hbx, hbz⟩ := hrel
      obtain ⟨y0, y1, y2, y3, y4, y5, y6, y7, y8, y9, y10, y11, yf, yl⟩ := cells12 hbx.out
      by_cases hlt : k < x7
      · have hkq : k < t.qs.length := by rw [hx7.out]; exact hlt
        have hstep : ((t.qs.drop tn).take (k + 1 - tn)).filterMap askOf = ((t.qs.drop tn).take (k - tn)).filterMap askOf ++ (askOf t.qs[k]).toList := by
          have h1 := ask_step (t.qs.drop tn) (k - tn) (by simp; omega)
          rw [show k - tn + 1 = k + 1 - tn by omega] at h1
          rw [h1]
          congr 2
          simp [show tn + (k - tn) = k by omega]
        obtain ⟨⟨⟨p0, p1, p2⟩, pu⟩, hp⟩ : ∃ p, t.qs[k] = p := ⟨_, rfl⟩
        rw [hp] at hstep
        have hac := hans.out wr hkr.out k hkq
        rw [hp] at hac
        replace hac := Lib.hid hac
        cases pu with
        | some a =>
          have hstep2 : ((t.qs.drop tn).take (k + 1 - tn)).filterMap askOf = ((t.qs.drop tn).take (k - tn)).filterMap askOf := by rw [hstep]; simp [askOf]
          replace hstep2 := Lib.hid hstep2
          replace hp := Lib.hid hp
          clear hstep
          go_wp2_with fail
          refine hac.out.mono ?_
          rintro e w1 ⟨rfl, hka⟩
          have hO1 := hOr.out.keeps hka
          rw [← hstep2.out] at hO1
          have hk1w := hkr.out.trans hka
          have hbx1 := (hka.block _ (lt_of_blk hbx.out) (by simp)).trans hbx.out
          have hbz1 := (hka.block _ (lt_of_blk hbz.out) (by simp)).trans hbz.out
          replace hO1 := Lib.hid hO1
          replace hk1w := Lib.hid hk1w
          replace hbx1 := Lib.hid hbx1
          replace hbz1 := Lib.hid hbz1
          go_wp2
          go_roundw
          case rel => exact ⟨k + 1, rfl, by omega, by omega, hO1, hk1w, hbx1, hbz1⟩
          case measure => simp [intOf]; omega
        | none =>
          have hstep2 : ((t.qs.drop tn).take (k + 1 - tn)).filterMap askOf = ((t.qs.drop tn).take (k - tn)).filterMap askOf ++ [(p0, p2, p1)] := by rw [hstep]; simp [askOf]
          obtain ⟨L0, hL0⟩ : ∃ l, ((t.qs.drop tn).take (k - tn)).filterMap askOf = l := ⟨_, rfl⟩
          have hL0l : L0.length ≤ 100000 := by
            rw [← hL0]
            exact Nat.le_trans (List.length_filterMap_le _ _) (by simp; omega)
          rw [hL0] at hstep2 hOr
          obtain ⟨oa, oc, rfl⟩ := hOr.out.form
          obtain ⟨N0, hN0⟩ : ∃ n, L0.length = n := ⟨_, rfl⟩
          rw [hN0] at hOr hL0l ⊢
          obtain ⟨g, o, c', hv, he⟩ := hel.out k (by simp [Tr.op]; omega)
          have hpe : (t.op.map ndq)[k]'(by simp [Tr.op]; omega) = (p0, p2, p1) := by simp [Tr.op, hp, ndq]
          rw [hpe] at he
          rw [show (t.op.map ndq).length = x7 by simp [Tr.op]; exact hx7.out] at hv
          cases hv
          replace hstep2 := Lib.hid hstep2
          replace hp := Lib.hid hp
          replace hN0 := Lib.hid hN0
          clear hstep hpe
          go_wp2_with fail
          refine hac.out.mono ?_
          rintro e w1 ⟨rfl, hka⟩
          have hk1w := hkr.out.trans hka
          have hbx1 := (hka.block _ (lt_of_blk hbx.out) (by simp)).trans hbx.out
          obtain ⟨y0, y1, y2, y3, y4, y5, y6, y7, y8, y9, y10, y11, yf, yl⟩ := cells12 hbx1
          have hbz1 := (hka.block _ (lt_of_blk hbz.out) (by simp)).trans hbz.out
          have e0 := hk1w.val (he 0 _ rfl)
          have e1 := hk1w.val (he 1 _ rfl)
          have e2 := hk1w.val (he 2 _ rfl)
          simp only [shT, Nat.add_zero] at e0 e1 e2
          have hmade := Sh.R.made shT w1 [(p0, p2, p1)] #[.int .i64 p0, .int .u64 p2, .int .i64 p1] tN rfl (by simp [maxLen]) 1 rfl
          have hkM := (Keeps.refl [] w1).alloc (.cells #[.int .i64 p0, .int .u64 p2, .int .i64 p1] tN)
          have hOA := (hOr.out.keeps hka).keeps hkM
          have hkwM := hk1w.trans hkM
          have hsz := hkwM.size
          have hbxM := (hkM.block _ (lt_of_blk hbx1) (by simp)).trans hbx1
          have hbzM := (hkM.block _ (lt_of_blk hbz1) (by simp)).trans hbz1
          have hon : ∀ b, (Value.slice oa N0 oc).ownBlock = some b → b ≠ w.heap.size ∧ b ≠ w.heap.size + 1 := fun b hb => by
            obtain ⟨cs, hc⟩ := hOA.tag b hb
            refine ⟨fun e => ?_, fun e => ?_⟩
            · subst e; exact tag_ne hbxM hc (by decide) rfl
            · subst e; exact tag_ne hbzM hc (by decide) rfl
          replace hmade := Lib.hid hmade
          replace hOA := Lib.hid hOA
          replace hkwM := Lib.hid hkwM
          replace hbxM := Lib.hid hbxM
          replace hbzM := Lib.hid hbzM
          replace hbz1 := Lib.hid hbz1
          replace hbx1 := Lib.hid hbx1
          replace hon := Lib.hid hon
          clear he hkM hac
          go_wp2_with (at_builtin; (refine Sh.wpl_app shT w.heap.size infoN rfl Try.underlying42 (.slice oa N0 oc) (.slice (some ⟨w1.heap.size, 0, none⟩) 1 1) L0 [(p0, p2, p1)] rfl _ _ rfl rfl rfl hOA.out hmade.out (by rw [hN0.out]; simp; omega) hsz ?_; intro v5 w5 hO5 hG5; rw [← hstep2.out] at hO5; have hk5 := Sh.O.grew hkwM.out hOA.out hG5 (Nat.le_refl _); have hbx5 := (hG5.keepsO.block _ (lt_of_blk hbxM.out) (fun hm => (hon.out _ (by simpa using hm)).1 rfl)).trans hbxM.out; have hbz5 := (hG5.keepsO.block _ (lt_of_blk hbzM.out) (fun hm => (hon.out _ (by simpa using hm)).2 rfl)).trans hbzM.out; replace hO5 := Lib.hid hO5; replace hk5 := Lib.hid hk5; replace hbx5 := Lib.hid hbx5; replace hbz5 := Lib.hid hbz5; clear hG5))
          go_roundw
          case rel => exact ⟨k + 1, rfl, by omega, by omega, hO5, hk5, hbx5, hbz5⟩
          case measure => simp [intOf]; omega
      · have hkx : k = x7 := by omega
        subst hkx
        rw [show ((t.qs.drop tn).take (k - tn)) = t.qs.drop tn from List.take_of_length_le (by rw [List.length_drop, hx7.out]; omega)] at hOr
        obtain ⟨z0, z1, z2, z3, z4, z5, z6, z7, z8, z9, z10, z11, zf, zl⟩ := cells12 hbz.out
        have hks : Keeps [w.heap.size] wr (wr.setCell ⟨w.heap.size, 8, none⟩ (.int .i64 (k : Int))) := (Keeps.refl _ _).setCell (.inr (by simp)) _
        have hbzs := (hks.block _ (lt_of_blk hbz.out) (by simp)).trans hbz.out
        obtain ⟨s1, s2⟩ := st12 (x0 := .int .i64 x0) (x1 := .int .i64 x1) (x2 := .int .i64 x2) (x3 := .int .u64 x3) (x4 := .int .i64 x4) (x5 := .int .i64 0) (x6 := .slice x6 k x8) (x7 := .slice x9 x10 x11) (x8 := .int .i64 (k : Int)) (x9 := .slice x13 x14 x15) (x10 := .bool x16) (x11 := .slice x17 x18 x19) hbzs
        have hkf := (hkr.out.fresh hks (fun b hb => by simp at hb; subst hb; exact .inr (Nat.le_refl _))).fresh s2 (fun b hb => by simp at hb; subst hb; exact .inr (by omega))
        have hkO := (hks.mono (T := [w.heap.size, w.heap.size + 1]) (by simp)).trans (s2.mono (by simp))
        have hve := hOr.out.keepS hkO (fun b hb e => by
          obtain ⟨cs, hc⟩ := hOr.out.tag b e
          simp at hb
          rcases hb with rfl | rfl
          · exact tag_ne hbx.out hc (by decide) rfl
          · exact tag_ne hbz.out hc (by decide) rfl)
        have hRe := h.out.keeps hkf
        replace s1 := Lib.hid s1
        replace s2 := Lib.hid s2
        replace hkf := Lib.hid hkf
        replace hve := Lib.hid hve
        replace hRe := Lib.hid hRe
        clear hkO hks hbzs
        go_wp2
        refine bodyPost_ret (results_rf rfl _ _ _ _ _ _ _ _ _ _ _ _ _ _ _ _ _ rfl s1.out) ?_ ?_
        · rfl
        · have hE := hRe.out
          exact ⟨⟨x0, x1, x2, x3, x4, 0, (x6, k, x8), (x9, x10, x11), k, (x13, x14, x15), x16, (x17, x18, x19)⟩, _, rfl, ⟨hE.im, hE.is, hE.s0, hE.s1, hE.s2, hE.st, rfl, hE.rf, hE.op, hE.an, hE.ag, hE.hi⟩, hve.out, hkf.out, fun b hb => .inl hb⟩
end Go.Proofs.Ythfdngjbcgkkfaa
