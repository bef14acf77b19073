/- Texts that the laws lean on, in the order in which they build. Touching a cleared table, plain. The law Touches, walked. (Printed by mksctc.py.) The operations among a law's arguments, opened. (Printed by mkscop.py.) -/
import Derived.Test.YtblaaafpglomnaaK8
set_option linter.unusedVariables false
set_option linter.unusedSimpArgs false
namespace Go.Proofs.Ytblaaafpglomnaa
open Go.RowKit Go

theorem lst_upd (r : Rw) (S : List Rw) : lst (upd r S) = (lst S).map (fun e => if e.key = r.1.key then r.1 else e) := by
  unfold lst upd
  rw [List.map_map, List.map_map]
  refine List.map_congr_left fun x _ => ?_
  simp only [Function.comp]
  split <;> rfl
theorem clr_off {S : List Rw} {e : En} (h : e ∈ lst (clrS S)) : e.tc = false := by
  unfold lst clrS at h
  rw [List.map_map] at h
  obtain ⟨r, _, rfl⟩ := List.mem_map.1 h
  rfl
theorem clrE_of {e : En} (h : e.tc = false) : clrE e = e := by
  obtain ⟨cl, n, im, is, o, i, d, tc, wk, gb, lm, ls⟩ := e
  simp only at h
  subst h
  rfl
theorem count_key : ∀ {S : List Rw} {k : Ky} {r : Rw}, SortedS S → fnd k S = some r → (lst S).countP (fun e => decide (e.key = k)) = 1
  | [], _, _, _, h => by cases h
  | x :: t, k, r, hs, h => by
    obtain ⟨h1, h2⟩ := List.pairwise_cons.1 hs
    rw [fnd_cons] at h
    have hc : (lst (x :: t)).countP (fun e => decide (e.key = k)) = (lst t).countP (fun e => decide (e.key = k)) + if x.1.key = k then 1 else 0 := by
      show ((x.1 :: lst t)).countP _ = _
      rw [List.countP_cons]
      simp
    rw [hc]
    split at h
    · rename_i e
      rw [if_pos e]
      have : (lst t).countP (fun e => decide (e.key = k)) = 0 := by
        refine List.countP_eq_zero.2 fun y hy => ?_
        obtain ⟨z, hz, rfl⟩ := List.mem_map.1 hy
        have := klt_ne (h1 z hz)
        rw [e] at this
        simpa using fun h => this h.symm
      rw [this]
    · rename_i e
      rw [if_neg e, count_key h2 h]
/-- What a touch does to a cleared table. -/
structure Tched (c : Int) (m : Nat) (L L' : List En) (code : Int) : Prop where
  len : L'.length = L.length
  off : ∀ i (h : i < L'.length), clrE L'[i] = L[i]'(by rw [← len]; exact h)
  key : ∀ i (h : i < L'.length), L'[i].tc = true → L'[i].cl = c ∧ L'[i].n = m
  cnt : L'.countP (fun e => e.tc) = if code = 0 then 1 else 0
  code : code = 0 ∨ code = 6
theorem tched {S : List Rw} (g : SortedS S) (c : Int) (m : Nat) : Tched c m (lst (clrS S)) (lst (touchS (c, m) (clrS S)).2) (touchS (c, m) (clrS S)).1 := by
  have hs := sorted_clr g
  cases hf : fnd (c, m) (clrS S) with
  | none =>
    have ht : touchS (c, m) (clrS S) = (6, clrS S) := by unfold touchS; rw [hf]
    rw [ht]
    refine ⟨rfl, fun i h => clrE_of (clr_off (List.getElem_mem h)), fun i h ht => ?_, ?_, .inr rfl⟩
    · rw [clr_off (List.getElem_mem h)] at ht; cases ht
    · rw [if_neg (show ¬ ((6 : Int) = 0) by decide)]
      exact List.countP_eq_zero.2 fun e he => by rw [clr_off he]; simp
  | some r =>
    have ht : touchS (c, m) (clrS S) = (0, upd (tch r.1, r.2) (clrS S)) := by unfold touchS; rw [hf]
    rw [ht]
    obtain ⟨hm, hk⟩ := fnd_some hf
    have hk2 : (tch r.1).key = (c, m) := hk
    have hr : r.1 ∈ lst (clrS S) := List.mem_map.2 ⟨r, hm, rfl⟩
    simp only [lst_upd, hk2]
    have huniq : ∀ e ∈ lst (clrS S), e.key = (c, m) → e = r.1 := fun e he hek => by
      obtain ⟨x, hx, rfl⟩ := List.mem_map.1 he
      have h1 := fnd_mem hs hx
      rw [hek, hf] at h1
      cases h1
      rfl
    refine ⟨by simp, fun i h => ?_, fun i h hti => ?_, ?_, .inl rfl⟩
    · simp only [List.getElem_map]
      have hi : i < (lst (clrS S)).length := by simpa using h
      split
      · rename_i he
        rw [huniq _ (List.getElem_mem hi) he]
        show clrE (tch r.1) = r.1
        have := clr_off hr
        have h2 : clrE (tch r.1) = clrE r.1 := rfl
        rw [h2, clrE_of this]
      · exact clrE_of (clr_off (List.getElem_mem hi))
    · simp only [List.getElem_map] at hti ⊢
      have hi : i < (lst (clrS S)).length := by simpa using h
      split at hti
      · rename_i he
        rw [if_pos he]
        have := hk2
        simp only [En.key, Prod.mk.injEq] at this
        exact this
      · rw [clr_off (List.getElem_mem hi)] at hti; cases hti
    · rw [if_pos rfl, List.countP_map, ← count_key hs hf]
      refine List.countP_congr fun e he => ?_
      simp only [Function.comp]
      split
      · rename_i hek
        simp [hek, tch]
      · rename_i hek
        rw [clr_off he]
        simp [hek]
end Go.Proofs.Ytblaaafpglomnaa

namespace Go.Proofs.Ytblaaafpglomnaa
open Go Go.RowKit
attribute [local go_sem] Oper.semAt_some

set_option maxRecDepth 100000 in
set_option maxHeartbeats 8000000 in
theorem touches_c (w : World) (v0 : Value) (l : List OpT) (c : Int) (m : Nat) (h : shO.R w v0 l) (hok : ∀ o ∈ l, o.ok) (hc : W64 c) (hm : m < 18446744073709551616) :
    Calls Try.prog 3 #[v0, .int .i64 c, .int .u64 m] w fun e w' => e = .returned (.bool true) ∧ Keeps [] w w' := by
  obtain ⟨a0, c0, rfl, hlc, hcm, _⟩ := h.form
  obtain ⟨M, hM⟩ : ∃ N, l.length = N := ⟨_, rfl⟩
  rw [hM] at hlc h ⊢
  have hMx : M ≤ 9223372036854775807 := by unfold Go.maxLen at hcm; omega
  have haw := fun W => awake_c W
  replace hM := Lib.hid hM
  replace h := Lib.hid h
  replace hok := Lib.hid hok
  replace haw := Lib.hid haw
  by_cases hbig : 40 < M
  · have hb2 : (40 : Int) < M := by omega
    go_enter Try.func3, Try.ntmps3
    go_wp2_with fail
    refine (haw.out _).mono ?_
    rintro e w1 ⟨rfl, hk1⟩
    replace hk1 := Lib.hid hk1
    go_wp2
    go_ret
    exact ⟨rfl, hk1.out⟩
  have hb2 : decide ((40 : Int) < M) = false := by simp; omega
  have hgS := runS_good hok.out
  have hlS := runS_len l
  rw [hM.out] at hlS
  have hrc := run_c w _ l h.out hok.out (by rw [hM.out]; omega)
  have htp := tched hgS.srt c m
  have hgt : Good (touchS (c, m) (clrS (runS l))).2 := hgS.clr.touch
  have hgc := hgS.clr
  have hky : ∀ r ∈ runS l, kOk r.1.key := fun r hr => ⟨(hgS.ok r hr).1.cl, (hgS.ok r hr).1.n⟩
  obtain ⟨S, hSe⟩ : ∃ S, runS l = S := ⟨_, rfl⟩
  rw [hSe] at hgS hlS hrc htp hgt hgc hky
  have hlc2 : (clrS S).length ≤ 100000 := by rw [len_clr]; omega
  have hsl : S.length ≤ 100000 := by omega
  have hto := fun W bt bm t => touch_c W bt bm (clrS S) c m t ⟨hc, hm⟩ hlc2
  have hcl := fun W bt bm t => clear_c W bt bm S t hgS.srt hsl hky
  have hl1 := fun W bt bm t => list_c W bt bm (clrS S) t hgc
  have hl2 := fun W bt bm t => list_c W bt bm (touchS (c, m) (clrS S)).2 t hgt
  obtain ⟨z, hz⟩ : ∃ z, (touchS (c, m) (clrS S)).1 = z := ⟨_, rfl⟩
  obtain ⟨S2, hS2⟩ : ∃ S2, (touchS (c, m) (clrS S)).2 = S2 := ⟨_, rfl⟩
  rw [hz, hS2] at htp
  simp only [hz, hS2] at hto hl2
  obtain ⟨L1, hL1⟩ : ∃ L, lst (clrS S) = L := ⟨_, rfl⟩
  obtain ⟨L2, hL2⟩ : ∃ L, lst S2 = L := ⟨_, rfl⟩
  rw [hL1, hL2] at htp
  simp only [hL1] at hl1
  simp only [hL2] at hl2
  have hn2 : L2.length ≤ 100 := by
    rw [htp.len, ← hL1]
    simp only [lst, List.length_map]
    rw [len_clr]; omega
  replace hrc := Lib.hid hrc
  replace hto := Lib.hid hto
  replace hcl := Lib.hid hcl
  replace hl1 := Lib.hid hl1
  replace hl2 := Lib.hid hl2
  replace htp := Lib.hid htp
  clear hgS hlS hgt hgc hky hlc2 hsl hz hS2 hL1 hL2 hSe
  go_enter Try.func3, Try.ntmps3
  go_wp2_with fail
  refine hrc.out.mono ?_
  rintro e w1 ⟨bt, bm, v1, rfl, t1, hR1, k1, hb1, hb2'⟩
  obtain ⟨a1, c1, rfl, _⟩ := hR1.form
  have hkB : Keeps [] w1 (w1.alloc (.cells #[.slice a1 S.length c1] tTb)) := (Keeps.refl _ _).alloc _
  have t2 := Lib.hid (t1.keeps hkB)
  have hk2 := Lib.hid (k1.trans hkB)
  clear hrc t1 hR1 k1 hkB
  go_wp2_with fail
  refine (hcl.out _ bt bm t2.out).mono ?_
  rintro e w3 ⟨rfl, t3, k3⟩
  have hk3 := Lib.hid (hk2.out.fresh k3 (fun b hb => .inr (by simp at hb; omega)))
  replace t3 := Lib.hid t3
  clear k3 t2 hk2 hcl
  go_wp2_with fail
  refine (hl1.out w3 bt bm t3.out).mono ?_
  rintro e w4 ⟨v4, rfl, hO4, k4⟩
  have t4 := Lib.hid (t3.out.keeps k4)
  have hk4 := Lib.hid (hk3.out.trans k4)
  have hR4 := hO4.r
  have hg4 := hO4.lt
  obtain ⟨a4, c4, rfl⟩ := hO4.form
  obtain ⟨N, hN⟩ : ∃ N, L2.length = N := ⟨_, rfl⟩
  have hN1 : L1.length = N := by rw [← htp.out.len]; exact hN
  rw [hN1] at hR4 hg4 ⊢
  have hnc := t4.out.mp.noCells ktK
  replace hR4 := Lib.hid hR4
  replace hnc := Lib.hid hnc
  clear hO4 k4 t3 hk3 hl1 hg4
  go_wp2_with fail
  refine (hto.out w4 bt bm t4.out).mono ?_
  rintro e w5 ⟨rfl, t5, k5⟩
  have hk5 := Lib.hid (hk4.out.fresh k5 (fun b hb => .inr (by simp at hb; omega)))
  have hR5 := Lib.hid (hR4.out.keepN k5 (fun b hb oo => by simp at hb; subst hb; exact hnc.out oo))
  replace t5 := Lib.hid t5
  clear k5 t4 hk4 hto hR4 hnc
  go_wp2_with fail
  refine (hl2.out w5 bt bm t5.out).mono ?_
  rintro e w6 ⟨v6, rfl, hO6, k6⟩
  have hk6 := Lib.hid (hk5.out.trans k6)
  have hR6 := Lib.hid hO6.r
  have hR6b := Lib.hid (hR5.out.keeps k6)
  obtain ⟨a6, c6, rfl⟩ := hO6.form
  rw [hN] at hR6 hn2 ⊢
  replace hN := Lib.hid hN
  replace hN1 := Lib.hid hN1
  clear hO6 k6 t5 hk5 hR5 hl2
  go_wp2
  go_loopw [13, 45] (fun nv iv wr => ∃ q k : Nat, nv = .int .i64 q ∧ iv = .int .i64 k ∧ k ≤ N ∧ Hid (q = (L2.take k).countP (fun e => e.tc)) ∧ q ≤ 100 ∧ Hid (Keeps [] w6 wr)) (fun _ iv _ => N - (intOf iv).toNat)
  case atStart => exact ⟨0, 0, rfl, rfl, by omega, Lib.hid (by simp), by omega, Lib.hid (Keeps.refl _ _)⟩
  case round =>
    obtain ⟨q, k, rfl, rfl, hk, hq, hqm, hkw⟩ := hrel
    by_cases hlt : k < N
    · have hk2 : k < L2.length := by rw [hN.out]; exact hlt
      have hk1 : k < L1.length := by rw [hN1.out]; exact hlt
      have hlt2 : (k : Int) < N := by omega
      obtain ⟨g2, o2, d2, hv2, he2⟩ := (hR6.out.keeps hkw.out).elem hk2
      rw [hN.out] at hv2
      cases hv2
      obtain ⟨g1, o1, d1, hv1, he1⟩ := (hR6b.out.keeps hkw.out).elem hk1
      rw [hN1.out] at hv1
      cases hv1
      have hoff := htp.out.off k hk2
      have hkey := htp.out.key k hk2
      have hcs : (L2.take (k + 1)).countP (fun e => e.tc) = q + if L2[k].tc = true then 1 else 0 := by
        rw [List.take_succ_eq_append_getElem hk2, List.countP_append, ← hq.out]
        simp [List.countP_cons]
      obtain ⟨b, hb⟩ : ∃ b, L1[k] = b := ⟨_, rfl⟩
      obtain ⟨⟨x0, x1, x2, x3, x4, x5, x6, x7, x8, x9, x10, x11⟩, he⟩ : ∃ e, L2[k] = e := ⟨_, rfl⟩
      rw [he] at he2 hoff hkey hcs
      rw [hb] at he1 hoff
      subst hoff
      have e0 := he2 0 _ rfl
      have f0 := he1 0 _ rfl
      have e1 := he2 1 _ rfl
      have f1 := he1 1 _ rfl
      have e2 := he2 2 _ rfl
      have f2 := he1 2 _ rfl
      have e3 := he2 3 _ rfl
      have f3 := he1 3 _ rfl
      have e4 := he2 4 _ rfl
      have f4 := he1 4 _ rfl
      have e5 := he2 5 _ rfl
      have f5 := he1 5 _ rfl
      have e6 := he2 6 _ rfl
      have f6 := he1 6 _ rfl
      have e7 := he2 7 _ rfl
      have f7 := he1 7 _ rfl
      have e8 := he2 8 _ rfl
      have f8 := he1 8 _ rfl
      have e9 := he2 9 _ rfl
      have f9 := he1 9 _ rfl
      have e10 := he2 10 _ rfl
      have f10 := he1 10 _ rfl
      have e11 := he2 11 _ rfl
      have f11 := he1 11 _ rfl
      simp only [shE, En.cs, clrE, Nat.add_zero] at e0 e1 e2 e3 e4 e5 e6 e7 e8 e9 e10 e11 f0 f1 f2 f3 f4 f5 f6 f7 f8 f9 f10 f11
      simp only at hkey hcs
      have hgx := lt_of_cell e0
      have hgy := lt_of_cell f0
      have hkA := Lib.hid (hkw.out.trans ((Keeps.refl [] wr).alloc (.cells #[.int .i64 x0, .int .u64 x1, .int .i64 x2, .int .i64 x3, .int .i64 x4, .int .i64 x5, .int .i64 x6, .bool false, .bool x8, .bool x9, .int .i64 x10, .int .i64 x11] tE)))
      have hbY := heap_alloc_new wr (.cells #[.int .i64 x0, .int .u64 x1, .int .i64 x2, .int .i64 x3, .int .i64 x4, .int .i64 x5, .int .i64 x6, .bool false, .bool x8, .bool x9, .int .i64 x10, .int .i64 x11] tE)
      have hkA1 : Keeps [] wr (wr.alloc (.cells #[.int .i64 x0, .int .u64 x1, .int .i64 x2, .int .i64 x3, .int .i64 x4, .int .i64 x5, .int .i64 x6, .bool false, .bool x8, .bool x9, .int .i64 x10, .int .i64 x11] tE)) := (Keeps.refl [] wr).alloc _
      have h0 := (hkA1.cell _ _ hgy (by simp)).trans f0
      have h1 := (hkA1.cell _ _ hgy (by simp)).trans f1
      have h2 := (hkA1.cell _ _ hgy (by simp)).trans f2
      have h3 := (hkA1.cell _ _ hgy (by simp)).trans f3
      have h4 := (hkA1.cell _ _ hgy (by simp)).trans f4
      have h5 := (hkA1.cell _ _ hgy (by simp)).trans f5
      have h6 := (hkA1.cell _ _ hgy (by simp)).trans f6
      have h7 := (hkA1.cell _ _ hgy (by simp)).trans f7
      have h8 := (hkA1.cell _ _ hgy (by simp)).trans f8
      have h9 := (hkA1.cell _ _ hgy (by simp)).trans f9
      have h10 := (hkA1.cell _ _ hgy (by simp)).trans f10
      have h11 := (hkA1.cell _ _ hgy (by simp)).trans f11
      obtain ⟨y0, y1, y2, y3, y4, y5, y6, y7, y8, y9, y10, y11, _⟩ := cells12 hbY
      have hnq := fun w => neE w ⟨x0, x1, x2, x3, x4, x5, x6, false, x8, x9, x10, x11⟩ ⟨x0, x1, x2, x3, x4, x5, x6, false, x8, x9, x10, x11⟩
      simp only [enV] at hnq
      rw [decide_eq_false (fun h => h rfl)] at hnq
      replace he := Lib.hid he
      replace hb := Lib.hid hb
      clear he1 he2 hbY hkw hkA1
      cases x7 with
      | true =>
        obtain ⟨rfl, rfl⟩ := hkey rfl
        simp only [if_true] at hcs
        have hq2 : Hid (q + 1 = (L2.take (k + 1)).countP (fun e => e.tc)) := Lib.hid hcs.symm
        have hqk : q + 1 ≤ 100 := by
          rw [hq2.out]
          exact Nat.le_trans List.countP_le_length (by rw [List.length_take]; omega)
        clear hkey hcs hq
        go_wp2
        refine Free.wp_region_chain (fun i => false) (fun i => true) (fun j b => False) (by kernel_rfl) (by kernel_rfl) (by kernel_rfl) ?_
        (repeat (first | (apply Free.cw_pure rfl rfl; (intro w'; go_simp <;> exact rfl); go_frame) | (apply Free.cw_steady rfl rfl rfl; (intro w' hS2; have z0 := Free.sx_cell hS2 y0 (fun _ _ hT => hT); have z1 := Free.sx_cell hS2 y1 (fun _ _ hT => hT); have z2 := Free.sx_cell hS2 y2 (fun _ _ hT => hT); have z3 := Free.sx_cell hS2 y3 (fun _ _ hT => hT); have z4 := Free.sx_cell hS2 y4 (fun _ _ hT => hT); have z5 := Free.sx_cell hS2 y5 (fun _ _ hT => hT); have z6 := Free.sx_cell hS2 y6 (fun _ _ hT => hT); have z7 := Free.sx_cell hS2 y7 (fun _ _ hT => hT); have z8 := Free.sx_cell hS2 y8 (fun _ _ hT => hT); have z9 := Free.sx_cell hS2 y9 (fun _ _ hT => hT); have z10 := Free.sx_cell hS2 y10 (fun _ _ hT => hT); have z11 := Free.sx_cell hS2 y11 (fun _ _ hT => hT); have z12 := Free.sx_cell hS2 h0 (fun _ _ hT => hT); have z13 := Free.sx_cell hS2 h1 (fun _ _ hT => hT); have z14 := Free.sx_cell hS2 h2 (fun _ _ hT => hT); have z15 := Free.sx_cell hS2 h3 (fun _ _ hT => hT); have z16 := Free.sx_cell hS2 h4 (fun _ _ hT => hT); have z17 := Free.sx_cell hS2 h5 (fun _ _ hT => hT); have z18 := Free.sx_cell hS2 h6 (fun _ _ hT => hT); have z19 := Free.sx_cell hS2 h7 (fun _ _ hT => hT); have z20 := Free.sx_cell hS2 h8 (fun _ _ hT => hT); have z21 := Free.sx_cell hS2 h9 (fun _ _ hT => hT); have z22 := Free.sx_cell hS2 h10 (fun _ _ hT => hT); have z23 := Free.sx_cell hS2 h11 (fun _ _ hT => hT); go_simp <;> exact rfl); go_frame)))
        refine Free.cw_nil ?_
        clear e0 e1 e2 e3 e4 e5 e6 e7 e8 e9 e10 e11 f0 f1 f2 f3 f4 f5 f6 f7 f8 f9 f10 f11 h0 h1 h2 h3 h4 h5 h6 h7 h8 h9 h10 h11 y0 y1 y2 y3 y4 y5 y6 y7 y8 y9 y10 y11
        go_wp2
        go_roundw
        case rel => exact ⟨q + 1, k + 1, rfl, rfl, by omega, hq2, hqk, Lib.hid hkA.out.drew⟩
        case measure => simp [intOf]; omega
      | false =>
        have hq2 : Hid (q = (L2.take (k + 1)).countP (fun e => e.tc)) := Lib.hid (by rw [hcs]; simp)
        clear hkey hcs hq
        go_wp2
        refine Free.wp_region_chain (fun i => false) (fun i => true) (fun j b => False) (by kernel_rfl) (by kernel_rfl) (by kernel_rfl) ?_
        (repeat (first | (apply Free.cw_pure rfl rfl; (intro w'; go_simp <;> exact rfl); go_frame) | (apply Free.cw_steady rfl rfl rfl; (intro w' hS2; have z0 := Free.sx_cell hS2 y0 (fun _ _ hT => hT); have z1 := Free.sx_cell hS2 y1 (fun _ _ hT => hT); have z2 := Free.sx_cell hS2 y2 (fun _ _ hT => hT); have z3 := Free.sx_cell hS2 y3 (fun _ _ hT => hT); have z4 := Free.sx_cell hS2 y4 (fun _ _ hT => hT); have z5 := Free.sx_cell hS2 y5 (fun _ _ hT => hT); have z6 := Free.sx_cell hS2 y6 (fun _ _ hT => hT); have z7 := Free.sx_cell hS2 y7 (fun _ _ hT => hT); have z8 := Free.sx_cell hS2 y8 (fun _ _ hT => hT); have z9 := Free.sx_cell hS2 y9 (fun _ _ hT => hT); have z10 := Free.sx_cell hS2 y10 (fun _ _ hT => hT); have z11 := Free.sx_cell hS2 y11 (fun _ _ hT => hT); have z12 := Free.sx_cell hS2 h0 (fun _ _ hT => hT); have z13 := Free.sx_cell hS2 h1 (fun _ _ hT => hT); have z14 := Free.sx_cell hS2 h2 (fun _ _ hT => hT); have z15 := Free.sx_cell hS2 h3 (fun _ _ hT => hT); have z16 := Free.sx_cell hS2 h4 (fun _ _ hT => hT); have z17 := Free.sx_cell hS2 h5 (fun _ _ hT => hT); have z18 := Free.sx_cell hS2 h6 (fun _ _ hT => hT); have z19 := Free.sx_cell hS2 h7 (fun _ _ hT => hT); have z20 := Free.sx_cell hS2 h8 (fun _ _ hT => hT); have z21 := Free.sx_cell hS2 h9 (fun _ _ hT => hT); have z22 := Free.sx_cell hS2 h10 (fun _ _ hT => hT); have z23 := Free.sx_cell hS2 h11 (fun _ _ hT => hT); go_simp <;> exact rfl); go_frame)))
        refine Free.cw_nil ?_
        clear e0 e1 e2 e3 e4 e5 e6 e7 e8 e9 e10 e11 f0 f1 f2 f3 f4 f5 f6 f7 f8 f9 f10 f11 h0 h1 h2 h3 h4 h5 h6 h7 h8 h9 h10 h11 y0 y1 y2 y3 y4 y5 y6 y7 y8 y9 y10 y11
        go_wp2
        go_roundw
        case rel => exact ⟨q, k + 1, rfl, rfl, by omega, hq2, hqm, Lib.hid hkA.out.drew⟩
        case measure => simp [intOf]; omega
    · have hkN : k = N := by omega
      have hqe : q = if z = 0 then 1 else 0 := by
        rw [hq.out, List.take_of_length_le (by rw [hN.out]; omega)]; exact htp.out.cnt
      have hzc := htp.out.code
      have hlt2 : decide ((k : Int) < N) = false := by simp; omega
      replace hkN := Lib.hid hkN
      clear hq
      rcases hzc with rfl | rfl
      · simp only [if_true] at hqe
        subst hqe
        go_wp2_with fail
        refine (haw.out _).mono ?_
        rintro e w7 ⟨rfl, hk7⟩
        replace hk7 := Lib.hid hk7
        go_wp2
        go_ret
        exact ⟨rfl, (hk6.out.trans hkw.out).trans hk7.out⟩
      · have hqe2 : q = 0 := by rw [hqe]; decide
        subst hqe2
        clear hqe
        go_wp2_with fail
        refine (haw.out _).mono ?_
        rintro e w7 ⟨rfl, hk7⟩
        replace hk7 := Lib.hid hk7
        go_wp2
        go_ret
        exact ⟨rfl, (hk6.out.trans hkw.out).trans hk7.out⟩
end Go.Proofs.Ytblaaafpglomnaa

namespace Go.Proofs.Ytblaaafpglomnaa
open Go Go.ChangeShapes Go.WideShapes Go.ChangeAt Go.RowKit

theorem w64_wf {x : Int} (h : (Lit.int .i64 x).wf = true) : W64 x := h
theorem u64_nat {x : Int} (h : (Lit.int .u64 x).wf = true) : ∃ n : Nat, x = n ∧ n < 18446744073709551616 := by
  have hb : 0 ≤ x ∧ x ≤ 18446744073709551615 := by simpa [Lit.wf, IntKind.min, IntKind.max, IntKind.signed, IntKind.bits] using h
  exact ⟨x.toNat, by omega, by omega⟩
set_option maxRecDepth 100000 in
set_option maxHeartbeats 1000000 in
theorem cs_id {w : World} {cs : List Value} (h : Gen.Cs Try.prog w 36 cs) : ∃ m s : Int, cs = [.int .i64 m, .int .i64 s] ∧ W64 m ∧ W64 s := by
  obtain ⟨hl, hall⟩ := Gen.Cs.struct Try.underlying36 h
  rw [show Try.prog.cellsOf 36 = 2 by kernel_rfl] at hl
  obtain ⟨a, b, rfl⟩ : ∃ a b, cs = [a, b] := by
    match cs, hl with
    | [a, b], _ => exact ⟨a, b, rfl⟩
  have h0 := hall 0 _ rfl
  have h1 := hall 1 _ rfl
  replace h0 : Gen.Cs Try.prog w 3 (([a, b].drop 0).take (Try.prog.cellsOf 3)) := h0
  replace h1 : Gen.Cs Try.prog w 3 (([a, b].drop 1).take (Try.prog.cellsOf 3)) := h1
  rw [show Try.prog.cellsOf 3 = 1 by kernel_rfl] at h0 h1
  obtain ⟨m, hm, wm⟩ := Gen.Cs.int Try.underlying3 h0
  obtain ⟨s, hs, ws⟩ := Gen.Cs.int Try.underlying3 h1
  simp at hm hs
  subst hm hs
  exact ⟨m, s, rfl, w64_wf wm, w64_wf ws⟩
set_option maxRecDepth 100000 in
set_option maxHeartbeats 1000000 in
theorem cs_tid {w : World} {cs : List Value} (h : Gen.Cs Try.prog w 37 cs) : ∃ m s : Int, cs = [.int .i64 m, .int .i64 s] ∧ W64 m ∧ W64 s := by
  obtain ⟨hl, hall⟩ := Gen.Cs.struct Try.underlying37 h
  rw [show Try.prog.cellsOf 37 = 2 by kernel_rfl] at hl
  obtain ⟨a, b, rfl⟩ : ∃ a b, cs = [a, b] := by
    match cs, hl with
    | [a, b], _ => exact ⟨a, b, rfl⟩
  have h0 := hall 0 _ rfl
  have h1 := hall 1 _ rfl
  replace h0 : Gen.Cs Try.prog w 3 (([a, b].drop 0).take (Try.prog.cellsOf 3)) := h0
  replace h1 : Gen.Cs Try.prog w 3 (([a, b].drop 1).take (Try.prog.cellsOf 3)) := h1
  rw [show Try.prog.cellsOf 3 = 1 by kernel_rfl] at h0 h1
  obtain ⟨m, hm, wm⟩ := Gen.Cs.int Try.underlying3 h0
  obtain ⟨s, hs, ws⟩ := Gen.Cs.int Try.underlying3 h1
  simp at hm hs
  subst hm hs
  exact ⟨m, s, rfl, w64_wf wm, w64_wf ws⟩
set_option maxRecDepth 100000 in
set_option maxHeartbeats 1000000 in
theorem cs_ent {w : World} {cs : List Value} (h : Gen.Cs Try.prog w 39 cs) : ∃ e : En, cs = e.cs ∧ e.ok := by
  obtain ⟨hl, hall⟩ := Gen.Cs.struct Try.underlying39 h
  rw [show Try.prog.cellsOf 39 = 12 by kernel_rfl] at hl
  obtain ⟨a0, a1, a2, a3, a4, a5, a6, a7, a8, a9, a10, a11, rfl⟩ : ∃ a0 a1 a2 a3 a4 a5 a6 a7 a8 a9 a10 a11, cs = [a0, a1, a2, a3, a4, a5, a6, a7, a8, a9, a10, a11] := by
    match cs, hl with
    | [a0, a1, a2, a3, a4, a5, a6, a7, a8, a9, a10, a11], _ => exact ⟨a0, a1, a2, a3, a4, a5, a6, a7, a8, a9, a10, a11, rfl⟩
  have h0 := hall 0 _ rfl
  replace h0 : Gen.Cs Try.prog w 3 (([a0, a1, a2, a3, a4, a5, a6, a7, a8, a9, a10, a11].drop 0).take (Try.prog.cellsOf 3)) := h0
  rw [show Try.prog.cellsOf 3 = 1 by kernel_rfl] at h0
  have h1 := hall 1 _ rfl
  replace h1 : Gen.Cs Try.prog w 23 (([a0, a1, a2, a3, a4, a5, a6, a7, a8, a9, a10, a11].drop 1).take (Try.prog.cellsOf 23)) := h1
  rw [show Try.prog.cellsOf 23 = 1 by kernel_rfl] at h1
  have h2 := hall 2 _ rfl
  replace h2 : Gen.Cs Try.prog w 36 (([a0, a1, a2, a3, a4, a5, a6, a7, a8, a9, a10, a11].drop 2).take (Try.prog.cellsOf 36)) := h2
  rw [show Try.prog.cellsOf 36 = 2 by kernel_rfl] at h2
  have h3 := hall 3 _ rfl
  replace h3 : Gen.Cs Try.prog w 3 (([a0, a1, a2, a3, a4, a5, a6, a7, a8, a9, a10, a11].drop 4).take (Try.prog.cellsOf 3)) := h3
  rw [show Try.prog.cellsOf 3 = 1 by kernel_rfl] at h3
  have h4 := hall 4 _ rfl
  replace h4 : Gen.Cs Try.prog w 3 (([a0, a1, a2, a3, a4, a5, a6, a7, a8, a9, a10, a11].drop 5).take (Try.prog.cellsOf 3)) := h4
  rw [show Try.prog.cellsOf 3 = 1 by kernel_rfl] at h4
  have h5 := hall 5 _ rfl
  replace h5 : Gen.Cs Try.prog w 3 (([a0, a1, a2, a3, a4, a5, a6, a7, a8, a9, a10, a11].drop 6).take (Try.prog.cellsOf 3)) := h5
  rw [show Try.prog.cellsOf 3 = 1 by kernel_rfl] at h5
  have h6 := hall 6 _ rfl
  replace h6 : Gen.Cs Try.prog w 4 (([a0, a1, a2, a3, a4, a5, a6, a7, a8, a9, a10, a11].drop 7).take (Try.prog.cellsOf 4)) := h6
  rw [show Try.prog.cellsOf 4 = 1 by kernel_rfl] at h6
  have h7 := hall 7 _ rfl
  replace h7 : Gen.Cs Try.prog w 4 (([a0, a1, a2, a3, a4, a5, a6, a7, a8, a9, a10, a11].drop 8).take (Try.prog.cellsOf 4)) := h7
  rw [show Try.prog.cellsOf 4 = 1 by kernel_rfl] at h7
  have h8 := hall 8 _ rfl
  replace h8 : Gen.Cs Try.prog w 4 (([a0, a1, a2, a3, a4, a5, a6, a7, a8, a9, a10, a11].drop 9).take (Try.prog.cellsOf 4)) := h8
  rw [show Try.prog.cellsOf 4 = 1 by kernel_rfl] at h8
  have h9 := hall 9 _ rfl
  replace h9 : Gen.Cs Try.prog w 37 (([a0, a1, a2, a3, a4, a5, a6, a7, a8, a9, a10, a11].drop 10).take (Try.prog.cellsOf 37)) := h9
  rw [show Try.prog.cellsOf 37 = 2 by kernel_rfl] at h9
  obtain ⟨x0, e0, w0⟩ := Gen.Cs.int Try.underlying3 h0
  obtain ⟨x1, e1, w1⟩ := Gen.Cs.int Try.underlying23 h1
  obtain ⟨x2, y2, e2, w2, v2⟩ := cs_id h2
  obtain ⟨x3, e3, w3⟩ := Gen.Cs.int Try.underlying3 h3
  obtain ⟨x4, e4, w4⟩ := Gen.Cs.int Try.underlying3 h4
  obtain ⟨x5, e5, w5⟩ := Gen.Cs.int Try.underlying3 h5
  obtain ⟨x6, e6⟩ := Gen.Cs.bool Try.underlying4 h6
  obtain ⟨x7, e7⟩ := Gen.Cs.bool Try.underlying4 h7
  obtain ⟨x8, e8⟩ := Gen.Cs.bool Try.underlying4 h8
  obtain ⟨x9, y9, e9, w9, v9⟩ := cs_tid h9
  simp at e0 e1 e2 e3 e4 e5 e6 e7 e8 e9
  obtain ⟨e2a, e2b⟩ := e2
  obtain ⟨e9a, e9b⟩ := e9
  subst e0 e1 e2a e2b e3 e4 e5 e6 e7 e8 e9a e9b
  obtain ⟨n, rfl, hn⟩ := u64_nat w1
  exact ⟨⟨x0, n, x2, y2, x3, x4, x5, x6, x7, x8, x9, y9⟩, rfl, ⟨w64_wf w0, hn, w2, v2, w64_wf w3, w64_wf w4, w64_wf w5, w9, v9⟩⟩
def OpRel (w : World) (cs : List Value) (x : OpT) : Prop := cs = shO.cf x ∧ x.ok
set_option maxRecDepth 100000 in
set_option maxHeartbeats 1000000 in
theorem cs_op {w : World} {cs : List Value} (h : Gen.Cs Try.prog w 43 cs) : ∃ x, OpRel w cs x := by
  obtain ⟨hl, hall⟩ := Gen.Cs.struct Try.underlying43 h
  rw [show Try.prog.cellsOf 43 = 14 by kernel_rfl] at hl
  obtain ⟨k0, a0, a1, a2, a3, a4, a5, a6, a7, a8, a9, a10, a11, hh, rfl⟩ : ∃ k0 a0 a1 a2 a3 a4 a5 a6 a7 a8 a9 a10 a11 hh, cs = [k0, a0, a1, a2, a3, a4, a5, a6, a7, a8, a9, a10, a11, hh] := by
    match cs, hl with
    | [k0, a0, a1, a2, a3, a4, a5, a6, a7, a8, a9, a10, a11, hh], _ => exact ⟨k0, a0, a1, a2, a3, a4, a5, a6, a7, a8, a9, a10, a11, hh, rfl⟩
  have h0 := hall 0 _ rfl
  have h1 := hall 1 _ rfl
  have h2 := hall 2 _ rfl
  replace h0 : Gen.Cs Try.prog w 5 (([k0, a0, a1, a2, a3, a4, a5, a6, a7, a8, a9, a10, a11, hh].drop 0).take (Try.prog.cellsOf 5)) := h0
  replace h1 : Gen.Cs Try.prog w 39 (([k0, a0, a1, a2, a3, a4, a5, a6, a7, a8, a9, a10, a11, hh].drop 1).take (Try.prog.cellsOf 39)) := h1
  replace h2 : Gen.Cs Try.prog w 3 (([k0, a0, a1, a2, a3, a4, a5, a6, a7, a8, a9, a10, a11, hh].drop 13).take (Try.prog.cellsOf 3)) := h2
  rw [show Try.prog.cellsOf 5 = 1 by kernel_rfl] at h0
  rw [show Try.prog.cellsOf 39 = 12 by kernel_rfl] at h1
  rw [show Try.prog.cellsOf 3 = 1 by kernel_rfl] at h2
  obtain ⟨k, hk, wk⟩ := Gen.Cs.int Try.underlying5 h0
  obtain ⟨e, he, hok⟩ := cs_ent h1
  obtain ⟨B, hB, wB⟩ := Gen.Cs.int Try.underlying3 h2
  simp at hk hB
  simp [En.cs] at he
  obtain ⟨e0, e1, e2, e3, e4, e5, e6, e7, e8, e9, e10, e11⟩ := he
  subst hk hB e0 e1 e2 e3 e4 e5 e6 e7 e8 e9 e10 e11
  have hb : 0 ≤ k ∧ k ≤ 255 := by simpa [Lit.wf, IntKind.min, IntKind.max, IntKind.signed, IntKind.bits] using wk
  obtain ⟨m, rfl⟩ : ∃ m : Nat, k = m := ⟨k.toNat, by omega⟩
  exact ⟨⟨m, e, B⟩, rfl, by show m < 256; omega, hok, w64_wf wB⟩
set_option maxRecDepth 100000 in
set_option maxHeartbeats 1000000 in
theorem open_ops {H : Type} {enc : TypeId × Value → H} {W : World} {base : Nat} {r : Reach} {v : Value} {d : DataW H} {ps : List MemPlace} (hv : Value.okWide Try.prog W r base 22 v)
    (h : DataW.Trod enc Try.prog W 0 (fun _ => true) true 22 v d ps) : ∃ L, shO.R W v L ∧ ∀ o ∈ L, o.ok := by
  obtain ⟨a0, n0, c0, rfl⟩ := okWide_slice Try.underlying22 hv
  obtain ⟨L, hL, _⟩ := Gen.SlR.open (R := OpRel) Try.underlying22 (show Try.prog.cellsOf 43 = 14 by kernel_rfl) (by decide) (fun cs hcs => cs_op hcs) (Gen.Cs.of_trod rfl h)
  refine ⟨L, Sh.R.of_slR (fun _ _ h => h.1) hL, fun o ho => ?_⟩
  obtain ⟨cs, _, h2⟩ := hL
  obtain ⟨k, hk, rfl⟩ := List.mem_iff_getElem.1 ho
  exact (h2 k hk).2
end Go.Proofs.Ytblaaafpglomnaa
