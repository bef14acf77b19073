/- The walk of the law on datagrams in any order: the loops. -/
import Derived.Test.YtilmcdieihmiaaaPerm
namespace Go.Proofs.Ytilmcdieihmiaaa
open Go.RowKit

theorem KL.fresh (w : World) : KL (w.alloc (.cells #[] 23)) w.heap.size (.slice (some ⟨w.heap.size, 0, none⟩) 0 0) [] :=
  ⟨[], ownsRow_empty w _ _ _ (Nat.le_refl _), by simp, AllC.of_block (heap_alloc_new w _) (by simp)⟩
theorem perm_big (w : World) (v0 v1 : Value) (P : List Bytes) (R : List UInt8) (h0 : SLs w v0 P) (h1 : SlB w v1 R) (hb : 20 < P.length ∨ 100 < R.length) :
    Calls Try.prog 3 #[v0, v1] w fun e w' => e = .returned (.bool true) ∧ Keeps [] w w' := by
  obtain ⟨a0, c0, rfl, hm0⟩ := h0.form
  have hm1 := h1.cap
  obtain ⟨a1, c1, rfl⟩ := h1.form
  clear h0 h1
  unfold maxLen at hm0 hm1
  by_cases hP : 20 < P.length
  · clear hb
    go_enter Try.func3, Try.ntmps3
    go_wp2_with fail
    refine (awake_c _).mono ?_
    rintro e w2 ⟨rfl, hk⟩
    go_wp2_with fail
    go_ret
    exact ⟨rfl, hk⟩
  · have hR : 100 < R.length := by omega
    clear hb
    go_enter Try.func3, Try.ntmps3
    go_wp2_with fail
    refine (awake_c _).mono ?_
    rintro e w2 ⟨rfl, hk⟩
    go_wp2_with fail
    go_ret
    exact ⟨rfl, hk⟩

set_option maxRecDepth 100000 in
set_option maxHeartbeats 4000000 in
theorem perm_c (w : World) (v0 v1 : Value) (P : List Bytes) (R : List UInt8) (h0 : SLs w v0 P) (h1 : SlB w v1 R) :
    Calls Try.prog 3 #[v0, v1] w fun e w' => e = .returned (.bool true) ∧ Keeps [] w w' := by
  by_cases hbig : 20 < P.length ∨ 100 < R.length
  · exact perm_big w v0 v1 P R h0 h1 hbig
  obtain ⟨N, hN⟩ : ∃ N, P.length = N := ⟨_, rfl⟩
  obtain ⟨M, hM⟩ : ∃ M, R.length = M := ⟨_, rfl⟩
  have hN20 : N ≤ 20 := by omega
  have hM100 : M ≤ 100 := by omega
  clear hbig
  have hP : ∀ k, k < N → ∃ (hk : k < P.length) (g o c : Nat) (ad : Option Addr) (cp : Nat), v0 = .slice (some ⟨g, o, none⟩) N c ∧ w.cell? ⟨g, o + k, none⟩ = some (.slice ad P[k].length cp) ∧ SlB w (.slice ad P[k].length cp) P[k] := fun k hk => by
    rcases h0.cases with ⟨rfl, _⟩ | ⟨g, o, c, rfl, _, _, _, hc⟩
    · simp at hN; omega
    · obtain ⟨x, hx, hX⟩ := hc k (by omega)
      obtain ⟨ad, cp, rfl⟩ := hX.form
      exact ⟨by omega, g, o, c, ad, cp, by rw [hN], hx, hX⟩
  have hR : ∀ k, k < M → ∃ (hk : k < R.length) (g o c : Nat), v1 = .slice (some ⟨g, o, none⟩) M c ∧ w.cell? ⟨g, o + k, none⟩ = some (.int .u8 (R[k].toNat : Int)) := fun k hk => by
    rcases h1.cases with ⟨rfl, _⟩ | ⟨g, o, c, rfl, _, _, _, _, hc⟩
    · simp at hM; omega
    · exact ⟨by omega, g, o, c, by rw [hM], hc k (by omega)⟩
  have hs0 := h0
  obtain ⟨a0, c0, e0, _⟩ := h0.form
  obtain ⟨a1, c1, e1⟩ := h1.form
  rw [hN] at e0
  rw [hM] at e1
  clear h0 h1
  subst e0 e1
  replace hN := Lib.hid hN
  replace hM := Lib.hid hM
  replace hP := Lib.hid hP
  replace hR := Lib.hid hR
  replace hs0 := Lib.hid hs0
  go_enter Try.func3, Try.ntmps3
  go_wp2_with fail
  refine (awake_c _).mono ?_
  rintro e w0 ⟨rfl, hk0⟩
  go_wp2_with fail
  refine (new_c _).mono ?_
  rintro e w1 ⟨ba, ma, rfl, ga1, ga2, ga3, hA, hk1⟩
  go_wp2_with fail
  refine (new_c _).mono ?_
  rintro e w2 ⟨bb, mb, rfl, gb1, gb2, gb3, hB, hk2⟩
  have ha := hA.cells.2.2.2.2.2.2
  have hma := hA.early.lt
  have hA2 := (hA.keeps hk2).base rfl w2.heap.size
  have hB2 := hB.base rfl w2.heap.size
  have hb := hB.cells.2.2.2.2.2.2
  have hmb := hB.early.lt
  have hk02 := (hk0.trans hk1).trans hk2
  have hsz0 := hk0.size
  have hsz1 := hk1.size
  have hsz2 := hk2.size
  clear hA hB hk1 hk2 hk0
  replace hA2 := Lib.hid hA2
  replace hB2 := Lib.hid hB2
  replace hk02 := Lib.hid hk02
  -- LOOPS
  go_wp2_with fail
  have hKL0 : KL (w2.alloc (.cells #[] 23)) w2.heap.size (.slice (some ⟨w2.heap.size, 0, none⟩) 0 0) [] := KL.fresh w2
  have hkA : Keeps [] w2 (w2.alloc (.cells #[] 23)) := (Keeps.refl [] w2).alloc _
  have hS0 : Hid (S1 w (w2.alloc (.cells #[] 23)) P w2.heap.size ba ma bb mb 0 (.slice none 0 0) (.slice (some ⟨w2.heap.size, 0, none⟩) 0 0)) :=
    ⟨by simpa using hA2.out.keeps hkA, by simpa using hKL0, hB2.out.keeps hkA, by simp [Value.ownBlock], hk02.out.trans hkA, (hk02.out.trans hkA).kb0, by simp, fun _ _ h => by omega⟩
  clear hKL0 hkA hA2 hB2
  go_loopw [7, 8] (fun all i wr => ∃ (k : Nat) (vk : Value) (aa : Option Addr) (ca : Nat), i = .int .i64 k ∧ k ≤ N ∧ vk.ownBlock ≠ some ba ∧ all = .slice aa k ca ∧ S1 w wr P w2.heap.size ba ma bb mb k vk (.slice aa k ca)) (fun _ i _ => N - (intOf i).toNat)
  case atStart => exact ⟨0, _, _, _, rfl, by omega, by simp [Value.ownBlock], rfl, hS0.out⟩
  case round =>
    obtain ⟨k, vk, aa, ca, rfl, hkN, hcb, rfl, hS⟩ := hrel
    clear hS0
    by_cases hlt : k < N
    · obtain ⟨_, g, o, c, ad, cp, hv, hx, hX⟩ := hP.out k hlt
      cases hv
      have hxr : wr.cell? ⟨g, o + k, none⟩ = _ := hS.keeps.val hx
      replace hX := hX.keeps hS.keeps
      by_cases hlong : 100 < (P[k]'(by rw [hN.out]; exact hlt)).length
      · generalize (P[k]'(by rw [hN.out]; exact hlt)).length = LL at *
        replace hkw := Lib.hid hS.keeps
        clear hX hx hS
        go_wp2
        go_ret
        exact ⟨rfl, hkw.out⟩
      · obtain ⟨LL, hLL⟩ : ∃ LL, (P[k]'(by rw [hN.out]; exact hlt)).length = LL := ⟨_, rfl⟩
        rw [hLL] at hxr hX hlong
        replace hLL := Lib.hid hLL
        replace hX := Lib.hid hX
        replace hS := Lib.hid hS
        clear hx
        have hLL100 : LL ≤ 100 := by omega
        clear hlong
        go_wp2_with fail
        refine (send_c _ w2.heap.size ba ma 0 vk _ _ (P[k]'(by rw [hN.out]; exact hlt)) hS.out.a hX.out (by rw [hLL.out]; omega) (by show k < _; omega) (by show (P.take k).length < _; simp; omega) hS.out.size hcb).mono ?_
        rintro e w3 ⟨vk3, vd, he, hA3, hd3, hk3, hkb3, hcb3, how3⟩
        replace he : e = .returned (.tuple #[.int .i64 ((k : Int) + 1), vd]) := he
        subst he
        replace hd3 : SlB w3 vd (dataB (k + 1) (P[k]'(by rw [hN.out]; exact hlt))) := hd3
        obtain ⟨ad3, cd3, rfl⟩ := hd3.form
        generalize hDL : (dataB (k + 1) (P[k]'(by rw [hN.out]; exact hlt))).length = DL at *
        have hall3 := hS.out.all.keep hk3 (fun b hb e => by
          have h1 := ge_own hS.out.all b e
          simp at hb
          rcases hb with rfl | hb
          · omega
          · exact hS.out.sep b hb e) hkb3
        have hsz3 := hk3.size
        replace hd3 := Lib.hid hd3
        replace hk3 := Lib.hid hk3
        replace hkb3 := Lib.hid hkb3
        replace how3 := Lib.hid how3
        replace hA3 := Lib.hid hA3
        replace hcb3 := Lib.hid hcb3
        go_wp2_with (at_builtin; (refine wpl_pushL _ w2.heap.size _ _ ((dgs P).take k) (dataB (k + 1) (P[k]'(by rw [hN.out]; exact hlt))) rfl _ _ rfl rfl rfl hall3 hd3.out (by simp; omega) (by have := hS.out.size; omega) ?_; intro v4 w4 hL4 hG4 hkb4))
        obtain ⟨a4, c4, rfl⟩ : ∃ a c, v4 = .slice a (k + 1) c := by
          obtain ⟨a, c, rfl⟩ := hL4.form
          exact ⟨a, c, by simp [dgs_len, hN.out]; omega⟩
        have hfin := hS.out.send (by omega) (by rw [hN.out]; exact hlt) ⟨by omega, by omega, by omega, by omega, by omega, by omega⟩ (by omega) (by rw [hLL.out]; exact hLL100) hA3.out hk3.out hkb3.out how3.out hd3.out hL4 hG4 hkb4
        replace hfin := Lib.hid hfin
        clear hL4 hG4 hkb4 hall3
        go_wp2
        go_roundw
        case rel => exact ⟨k + 1, vk3, a4, c4, rfl, by omega, hcb3.out, rfl, hfin.out⟩
        case measure => simp [intOf]; omega
    · have hkk : k = N := by omega
      subst hkk
      have hshort : Hid (∀ j (h : j < P.length), P[j].length ≤ 100) := fun j h => hS.short j h (by rw [hN.out] at h; exact h)
      have hall := hS.all
      rw [List.take_of_length_le (by rw [dgs_len, hN.out]; omega)] at hall
      have hbase := hS.size
      have hS20 : Hid (S2 w (wr.alloc (.cells #[] 23)) P M w2.heap.size bb mb 0 0 ⟨0, 0, 0, [], fun _ => none⟩ [] (.slice aa k ca) (.slice (some ⟨wr.heap.size, 0, none⟩) 0 0)) := by
        have hkA : Keeps [] wr (wr.alloc (.cells #[] 23)) := (Keeps.refl [] wr).alloc _
        refine ⟨hall.keep hkA (by simp) hkA.kb0, hS.b.keeps hkA, Inv.start P, (KL.fresh wr).mono hbase, ?_, hS.keeps.trans hkA, by have := hkA.size; omega, by omega, fun t ht h => by omega⟩
        intro x hx e
        have h1 := (ge_own hall _ e).2
        simp [Value.ownBlock] at hx
        omega
      clear hS hall hcb
      replace hs0' := Lib.hid hs0
      go_wp2
      go_loopw [11, 12] (fun got i wr => ∃ (j n : Nat) (C : Chan) (gotL : List Bytes), i = .int .i64 j ∧ j ≤ M + k ∧ (∃ a c, got = .slice a gotL.length c) ∧ S2 w wr P M w2.heap.size bb mb j n C gotL (.slice aa k ca) got) (fun _ i _ => M + k - (intOf i).toNat)
      case atStart => exact ⟨0, 0, _, [], rfl, by omega, ⟨_, _, rfl⟩, hS20.out⟩
      case round =>
        obtain ⟨j, n, C, gotL, rfl, hj, ⟨ag, cgot, rfl⟩, hS⟩ := hrel
        clear hS20
        by_cases hjM : j < M + k
        · by_cases hjm : j < M
          · by_cases hk0 : k = 0
            · subst hk0
              have hfin : Hid (S2 w wr P M w2.heap.size bb mb (j + 1) n C gotL (.slice aa 0 ca) (.slice ag gotL.length cgot)) :=
                ⟨hS.all, hS.b, hS.inv, hS.got, hS.sep, hS.keeps, hS.size, by have := hS.count; omega, fun t ht _ => by rw [hN.out] at ht; omega⟩
              clear hS
              go_wp2
              go_roundw
              case rel => exact ⟨j + 1, n, C, gotL, rfl, by omega, ⟨_, _, rfl⟩, hfin.out⟩
              case measure => simp [intOf]; omega
            · obtain ⟨_, g1, o1, d1, hv1, hr⟩ := hR.out j hjm
              cases hv1
              have hrr := hS.keeps.val hr
              have hr255 : (R[j]'(by rw [hM.out]; exact hjm)).toNat ≤ 255 := by have := (R[j]'(by rw [hM.out]; exact hjm)).toNat_lt; omega
              generalize hrb : (R[j]'(by rw [hM.out]; exact hjm)).toNat = rb at *
              replace hrb := Lib.hid hrb
              have hmod : Int.tmod (rb : Int) (k : Int) = ((rb % k : Nat) : Int) := by simp [Int.tmod]
              have hkkN : rb % k < k := Nat.mod_lt _ (by omega)
              obtain ⟨kk, hkk⟩ : ∃ kk, rb % k = kk := ⟨_, rfl⟩
              rw [hkk] at hmod hkkN
              clear hr
              have hkz : ((k : Int) == 0) = false := by simp; omega
              have HKJ : M ≤ j → kk = j - M := fun _ => by omega
              obtain ⟨gg, go, hva, hcell⟩ : ∃ gg go, aa = some ⟨gg, go, none⟩ ∧ Hid (∀ t (ht : t < (dgs P).length), ∃ c, wr.cell? ⟨gg, go + t, none⟩ = some c ∧ SlB wr c (dgs P)[t]) := by
                rcases hS.all.sls.cases with ⟨h0, _⟩ | ⟨gg, go, cg, e, _, _, _, hc⟩
                · have := congrArg List.length h0; rw [dgs_len, hN.out] at this; simp at this; omega
                · cases e; exact ⟨gg, go, rfl, hc⟩
              subst hva
              replace hS := Lib.hid hS
              obtain ⟨x, hx, hX⟩ := hcell.out kk (by rw [dgs_len, hN.out]; exact hkkN)
              rw [dgs_get P kk (by rw [hN.out]; exact hkkN)] at hX
              obtain ⟨ax, cx, rfl⟩ := hX.form
              have hshk := hshort.out kk (by rw [hN.out]; exact hkkN)
              generalize hDL : (dataB (kk + 1) (P[kk]'(by rw [hN.out]; exact hkkN))).length = DL at *
              replace hX := Lib.hid hX
              replace hDL := Lib.hid hDL
              go_wp2_with fail
              refine (recv_c _ w2.heap.size bb mb n _ _ C (kk + 1) _ hS.out.b (by simp [Value.ownBlock]) hX.out (by omega) (by omega) (by have := hS.out.inv.recv; rw [hN.out] at this; omega) (by have := hS.out.count; omega) (by omega) (hS.out.inv.near (by rw [hN.out]; omega))).mono ?_
              rintro e w3 ⟨v3, C3, outs, n3, rfl, hL3, hB3, hn3, hG3, hk3, hkb3⟩
              have hgotk := hS.out.got.keep hk3 (fun b hb e => by have := (ge_own hS.out.got b e).1; simp at hb; omega) hkb3
              have hol : gotL.length ≤ 20 := by have h1 := congrArg List.length hS.out.inv.got; have h2 := hN.out; simp only [List.length_take] at h1; omega
              have hol3 : outs.length ≤ 20 := by
                have h := (hS.out.inv.step (List.getElem?_eq_getElem (by rw [hN.out]; exact hkkN)) hG3).1
                have h1 := congrArg List.length h.got
                simp at h1; rw [hN.out] at h1; omega
              obtain ⟨a3, c3, rfl⟩ := hL3.form
              replace hB3 := Lib.hid hB3
              replace hG3 := Lib.hid hG3
              replace hk3h := Lib.hid hk3
              replace hkb3 := Lib.hid hkb3
              clear hk3
              go_wp2_with (at_builtin; (refine wpl_appL _ w2.heap.size _ _ gotL outs rfl _ _ rfl rfl rfl hgotk hL3.sls (by omega) (by have := hS.out.size; have := hk3h.out.size; omega) ?_; intro v4 w4 hL4 hG4 hkb4))
              obtain ⟨a4, c4, rfl⟩ := hL4.form
              replace hL4 := Lib.hid hL4
              replace hG4 := Lib.hid hG4
              replace hkb4 := Lib.hid hkb4
              have hfin : Hid (S2 w w4 P M w2.heap.size bb mb (j + 1) n3 C3 (gotL ++ outs) (.slice (some ⟨gg, go, none⟩) k ca) (.slice a4 (gotL ++ outs).length c4)) := hS.out.recv (by omega) ⟨by omega, by omega, by omega, by omega⟩ (by rw [hN.out]; exact hkkN) HKJ hB3.out hn3 hG3.out hk3h.out hkb3.out hL4.out hG4.out hkb4.out
              generalize hgl : (gotL ++ outs).length = GL at *
              go_roundw
              case rel => exact ⟨j + 1, n3, C3, gotL ++ outs, rfl, by omega, ⟨a4, c4, by rw [hgl]⟩, hfin.out⟩
              case measure => simp [intOf]; omega
          · obtain ⟨kk, hkk⟩ : ∃ kk, j - M = kk := ⟨_, rfl⟩
            have hjs : (j : Int) - M = kk := by omega
            have hkkN : kk < k := by omega
            have HKJ : M ≤ j → kk = j - M := fun _ => by omega
            obtain ⟨gg, go, hva, hcell⟩ : ∃ gg go, aa = some ⟨gg, go, none⟩ ∧ Hid (∀ t (ht : t < (dgs P).length), ∃ c, wr.cell? ⟨gg, go + t, none⟩ = some c ∧ SlB wr c (dgs P)[t]) := by
              rcases hS.all.sls.cases with ⟨h0, _⟩ | ⟨gg, go, cg, e, _, _, _, hc⟩
              · have := congrArg List.length h0; rw [dgs_len, hN.out] at this; simp at this; omega
              · cases e; exact ⟨gg, go, rfl, hc⟩
            subst hva
            replace hS := Lib.hid hS
            obtain ⟨x, hx, hX⟩ := hcell.out kk (by rw [dgs_len, hN.out]; exact hkkN)
            rw [dgs_get P kk (by rw [hN.out]; exact hkkN)] at hX
            obtain ⟨ax, cx, rfl⟩ := hX.form
            have hshk := hshort.out kk (by rw [hN.out]; exact hkkN)
            generalize hDL : (dataB (kk + 1) (P[kk]'(by rw [hN.out]; exact hkkN))).length = DL at *
            replace hX := Lib.hid hX
            replace hDL := Lib.hid hDL
            go_wp2_with fail
            refine (recv_c _ w2.heap.size bb mb n _ _ C (kk + 1) _ hS.out.b (by simp [Value.ownBlock]) hX.out (by omega) (by omega) (by have := hS.out.inv.recv; rw [hN.out] at this; omega) (by have := hS.out.count; omega) (by omega) (hS.out.inv.near (by rw [hN.out]; omega))).mono ?_
            rintro e w3 ⟨v3, C3, outs, n3, rfl, hL3, hB3, hn3, hG3, hk3, hkb3⟩
            have hgotk := hS.out.got.keep hk3 (fun b hb e => by have := (ge_own hS.out.got b e).1; simp at hb; omega) hkb3
            have hol : gotL.length ≤ 20 := by have h1 := congrArg List.length hS.out.inv.got; have h2 := hN.out; simp only [List.length_take] at h1; omega
            have hol3 : outs.length ≤ 20 := by
              have h := (hS.out.inv.step (List.getElem?_eq_getElem (by rw [hN.out]; exact hkkN)) hG3).1
              have h1 := congrArg List.length h.got
              simp at h1; rw [hN.out] at h1; omega
            obtain ⟨a3, c3, rfl⟩ := hL3.form
            replace hB3 := Lib.hid hB3
            replace hG3 := Lib.hid hG3
            replace hk3h := Lib.hid hk3
            replace hkb3 := Lib.hid hkb3
            clear hk3
            go_wp2_with (at_builtin; (refine wpl_appL _ w2.heap.size _ _ gotL outs rfl _ _ rfl rfl rfl hgotk hL3.sls (by omega) (by have := hS.out.size; have := hk3h.out.size; omega) ?_; intro v4 w4 hL4 hG4 hkb4))
            obtain ⟨a4, c4, rfl⟩ := hL4.form
            replace hL4 := Lib.hid hL4
            replace hG4 := Lib.hid hG4
            replace hkb4 := Lib.hid hkb4
            have hfin : Hid (S2 w w4 P M w2.heap.size bb mb (j + 1) n3 C3 (gotL ++ outs) (.slice (some ⟨gg, go, none⟩) k ca) (.slice a4 (gotL ++ outs).length c4)) := hS.out.recv (by omega) ⟨by omega, by omega, by omega, by omega⟩ (by rw [hN.out]; exact hkkN) HKJ hB3.out hn3 hG3.out hk3h.out hkb3.out hL4.out hG4.out hkb4.out
            generalize hgl : (gotL ++ outs).length = GL at *
            go_roundw
            case rel => exact ⟨j + 1, n3, C3, gotL ++ outs, rfl, by omega, ⟨a4, c4, by rw [hgl]⟩, hfin.out⟩
            case measure => simp [intOf]; omega
        · have hjj : j = M + k := by omega
          subst hjj
          obtain ⟨hgot, hrec⟩ := hS.inv.all (fun t ht => hS.seen t ht (by rw [hN.out] at ht; omega))
          have hgl : gotL.length = k := by rw [hgot, hN.out]
          have hr : C.received = k := by rw [hrec, hN.out]
          have hsg := hS.got.sls
          rw [hgot, hN.out] at hsg
          have hsp := hs0.out.keeps hS.keeps
          rw [hgl]
          have hb3 := hS.b
          have hk3 := hS.keeps
          clear hS hgot hrec
          replace hsg := Lib.hid hsg
          replace hsp := Lib.hid hsp
          replace hb3 := Lib.hid hb3
          replace hk3 := Lib.hid hk3
          go_wp2_with fail
          refine (texts_c _ _ _ P P hsg.out hsp.out).mono ?_
          rintro e w5 ⟨rfl, hk5⟩
          rw [decide_eq_true rfl]
          go_wp2_with fail
          refine (received_c _ w2.heap.size bb mb n _ C (hb3.out.keeps hk5)).mono ?_
          rintro e w6 ⟨rfl, rfl⟩
          rw [hr]
          go_wp2
          go_ret
          exact ⟨rfl, hk3.out.trans hk5⟩
end Go.Proofs.Ytilmcdieihmiaaa
