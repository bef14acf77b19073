/- Texts that the laws lean on, in the order in which they build. The comparison of scions; slices.SortedFunc over them. (Printed by mklsh.py.) The program's Scions. strings.Join; the holders of a stub. The lines of a certificate, and the program's Format. The specification's WellFormed. -/
import Derived.Test.YtiplgpefapeapaaGreatDoorL8
import Derived.Lib.Join
set_option linter.unusedVariables false
set_option linter.unusedSimpArgs false
namespace Go.Proofs.YtiplgpefapeapaaGreatDoor
open Go.RowKit Go.Sort Go.Shelf Go.Proofs Go

def cfQ (x y : Qn) : Int := orL [cI x.1 y.1, cI x.2.1 y.2.1, cI x.2.2 y.2.2]
theorem ltQ_iff (x y : Qn) : ltOf cfQ x y = decide (qlt x y) := by
  unfold ltOf cfQ
  rw [decide_eq_decide, orL_lt, orL_lt, orL_lt, cI_lt, cI_lt, cI_lt, cI_zero, cI_zero, cI_zero]
  simp only [orL, qlt]
  omega
theorem swoQ : SWO (ltOf cfQ) where
  irrefl x := by rw [ltQ_iff]; simp [qlt_irrefl]
  trans x y z h1 h2 := by
    rw [ltQ_iff] at *
    exact decide_eq_true (qlt_trans (of_decide_eq_true h1) (of_decide_eq_true h2))
  ntrans x y z h1 h2 := by
    rw [ltQ_iff] at *
    have h1 := of_decide_eq_false h1
    have h2 := of_decide_eq_false h2
    refine decide_eq_false (fun h => ?_)
    unfold qlt at *
    omega
set_option maxRecDepth 100000 in
set_option maxHeartbeats 2000000 in
theorem cmpS_c (x y : Qn) (w : World) : Calls Tryz.prog 20 #[qV x, qV y] w fun e w' => e = .returned (.int .i64 (cfQ x y)) ∧ ∃ q os, w' = grow (w.drewN q) os := by
  obtain ⟨r, hr⟩ : ∃ r, cfQ x y = r := ⟨_, rfl⟩
  rw [hr]
  obtain ⟨x0, x1, x2⟩ := x
  obtain ⟨y0, y1, y2⟩ := y
  replace hr := Lib.hid hr
  have hk2 : Keeps [] (w.alloc (.cells #[.int .i64 x0, .int .i64 x1, .int .u64 x2] tK)) ((w.alloc (.cells #[.int .i64 x0, .int .i64 x1, .int .u64 x2] tK)).alloc (.cells #[.int .i64 y0, .int .i64 y1, .int .u64 y2] tK)) := (Keeps.refl _ _).alloc _
  have b1 := (hk2.block w.heap.size (by simp) (by simp)).trans (heap_alloc_new w (.cells #[.int .i64 x0, .int .i64 x1, .int .u64 x2] tK))
  have b2 := heap_alloc_new (w.alloc (.cells #[.int .i64 x0, .int .i64 x1, .int .u64 x2] tK)) (.cells #[.int .i64 y0, .int .i64 y1, .int .u64 y2] tK)
  rw [show (w.alloc (.cells #[.int .i64 x0, .int .i64 x1, .int .u64 x2] tK)).heap.size = w.heap.size + 1 by simp] at b2
  have hgr : (w.alloc (.cells #[.int .i64 x0, .int .i64 x1, .int .u64 x2] tK)).alloc (.cells #[.int .i64 y0, .int .i64 y1, .int .u64 y2] tK) = grow w #[.cells #[.int .i64 x0, .int .i64 x1, .int .u64 x2] tK, .cells #[.int .i64 y0, .int .i64 y1, .int .u64 y2] tK] := by
    rw [alloc_eq_grow, alloc_eq_grow, grow_grow]; rfl
  replace hgr := Lib.hid hgr
  simp only [qV]
  go_enter Tryz.func20, Tryz.ntmps20
  go_wp2
  generalize (w.alloc (.cells #[.int .i64 x0, .int .i64 x1, .int .u64 x2] tK)).alloc (.cells #[.int .i64 y0, .int .i64 y1, .int .u64 y2] tK) = W at *
  obtain ⟨p0, p1, p2⟩ := cells3t b1
  obtain ⟨s0, s1, s2⟩ := cells3t b2
  clear b1 b2 hk2
  refine Free.wp_region_chain (fun i => i == 4 || i == 9 || i == 14 || i == 15 || i == 16) (fun i => true) (fun _ _ => False) (by kernel_rfl) (by kernel_rfl) (by kernel_rfl) ?_
  (repeat (first | (apply Free.cw_pure rfl rfl; (intro w'; go_simp <;> exact rfl); go_frame) | (apply Free.cw_steady rfl rfl rfl; (intro w' hS; have q0 := Free.sx_cell hS p0 (fun _ _ hT => hT); have q1 := Free.sx_cell hS p1 (fun _ _ hT => hT); have q2 := Free.sx_cell hS p2 (fun _ _ hT => hT); have q3 := Free.sx_cell hS s0 (fun _ _ hT => hT); have q4 := Free.sx_cell hS s1 (fun _ _ hT => hT); have q5 := Free.sx_cell hS s2 (fun _ _ hT => hT); go_simp <;> exact rfl); go_frame) | (refine Free.cw_skip rfl ?_; go_frame)))
  refine Free.cw_loud rfl rfl (fun K hK => ?_)
  go_wp2_with fail
  refine (compareI_c x0 y0 _).mono ?_
  rintro e _ ⟨rfl, rfl⟩
  refine hK _ _ rfl (Free.KeepsP.refl _ _) ?_
  clear hK K
  (repeat (first | (apply Free.cw_pure rfl rfl; (intro w'; go_simp <;> exact rfl); go_frame) | (apply Free.cw_steady rfl rfl rfl; (intro w' hS; have q0 := Free.sx_cell hS p0 (fun _ _ hT => hT); have q1 := Free.sx_cell hS p1 (fun _ _ hT => hT); have q2 := Free.sx_cell hS p2 (fun _ _ hT => hT); have q3 := Free.sx_cell hS s0 (fun _ _ hT => hT); have q4 := Free.sx_cell hS s1 (fun _ _ hT => hT); have q5 := Free.sx_cell hS s2 (fun _ _ hT => hT); go_simp <;> exact rfl); go_frame) | (refine Free.cw_skip rfl ?_; go_frame)))
  refine Free.cw_loud rfl rfl (fun K hK => ?_)
  go_wp2_with fail
  refine (compareI_c x1 y1 _).mono ?_
  rintro e _ ⟨rfl, rfl⟩
  refine hK _ _ rfl (Free.KeepsP.refl _ _) ?_
  clear hK K
  (repeat (first | (apply Free.cw_pure rfl rfl; (intro w'; go_simp <;> exact rfl); go_frame) | (apply Free.cw_steady rfl rfl rfl; (intro w' hS; have q0 := Free.sx_cell hS p0 (fun _ _ hT => hT); have q1 := Free.sx_cell hS p1 (fun _ _ hT => hT); have q2 := Free.sx_cell hS p2 (fun _ _ hT => hT); have q3 := Free.sx_cell hS s0 (fun _ _ hT => hT); have q4 := Free.sx_cell hS s1 (fun _ _ hT => hT); have q5 := Free.sx_cell hS s2 (fun _ _ hT => hT); go_simp <;> exact rfl); go_frame) | (refine Free.cw_skip rfl ?_; go_frame)))
  refine Free.cw_loud rfl rfl (fun K hK => ?_)
  go_wp2_with fail
  refine (compareU_c x2 y2 _).mono ?_
  rintro e _ ⟨rfl, rfl⟩
  refine hK _ _ rfl (Free.KeepsP.refl _ _) ?_
  clear hK K
  (repeat (apply Free.cw_pure rfl rfl; (intro w'; go_simp <;> exact rfl); go_frame))
  refine Free.cw_loud rfl rfl (fun K hK => ?_)
  go_wp2
  refine hK _ _ rfl (Free.KeepsP.alloc _ _ _) ?_
  clear hK K
  (repeat (apply Free.cw_pure rfl rfl; (intro w'; go_simp <;> exact rfl); go_frame))
  refine Free.cw_loud rfl rfl (fun K hK => ?_)
  go_wp2_with fail
  refine (or_c _ _ _ ((shZ_of3 W (cI x0 y0) (cI x1 y1) (cI x2 y2) 3).keeps ((Keeps.refl [] _).drew))).mono ?_
  rintro e _ ⟨rfl, rfl⟩
  refine hK _ _ rfl (Free.KeepsP.refl _ _) ?_
  clear hK K
  (repeat (apply Free.cw_pure rfl rfl; (intro w'; go_simp <;> exact rfl); go_frame))
  refine Free.cw_nil ?_
  go_wp2
  go_ret
  exact ⟨by rw [← hr.out]; rfl, 1, _, by rw [hgr.out, alloc_eq_grow, grow_grow]; rfl⟩
/-- slices.SortFunc over needs. -/
theorem sortS_c (w : World) (B : Nat) (v : Value) (L : List Qn) (h : shQ.O w B tK v L) (hl : L.length ≤ 1000000000000) :
    Calls Tryz.prog 39 #[v, .func (.func 20) #[] #[]] w fun e w' => e = .returned (.tuple #[]) ∧ ∃ L', L'.Perm L ∧ L'.Pairwise (fun x y => ¬ qlt y x) ∧ shQ.O w' B tK v L' ∧ Keeps v.ownBlock.toList w w' := by
  obtain ⟨_, h2⟩ := id h
  rcases h2 with ⟨rfl, h0⟩ | ⟨g, cap, cur, rfl, hb, hg, _⟩
  · have hL : L = [] := by
      cases L with
      | nil => rfl
      | cons x t => simp [Sh.cs, shQ] at h0
    subst hL
    refine (AnyF.slices_SortFunc_none Tryz.sortScion none 0 (.func (.func 20) #[] #[]) w).mono ?_
    rintro e w' ⟨rfl, rfl⟩
    exact ⟨rfl, [], List.Perm.refl _, List.Pairwise.nil, h, Keeps.refl _ _⟩
  · have hgl : g < w.heap.size := (Array.getElem?_eq_some_iff.1 hg).1
    have eg : ∀ args w, (callFunc 20 args).run Tryz.prog w = .ok (.enter 20 args) w := enters_of Tryz.func20 (by kernel_rfl) rfl
    have hcmp : CmpLays Tryz.prog 20 #[] shQ.cf 3 cfQ g 0 L.toArray.size w := fun m os dk hs x y => cmpS_c x y _
    have hcon := AnyQ.slices_SortFunc Tryz.sortScion 3 (fun w => by kernel_rfl) (fun w => by kernel_rfl) shQ.cf shQ.len shQ.one cfQ swoQ 20 #[] g 0 cap L.toArray w eg hcmp h.holds hgl (by simp; omega)
    simp only [List.size_toArray] at hcon
    refine hcon.mono ?_
    rintro e w' ⟨rfl, d', m, os, hp, hs, rfl⟩
    have hp' : PermIn 0 L.toArray.size L.toArray d' := by simpa using hp
    obtain ⟨hd, hpl⟩ := Sh.perm_of_permIn hp'
    have hd2 : d'.size = L.length := by simpa using hd
    rw [← hd2] at hs
    have hpw := Sh.pairwise_of_sortedIn hs
    obtain ⟨h3, h4⟩ := Sh.O.sorted (m := m) (os := os) h hd2
    exact ⟨rfl, d'.toList, by simpa using hpl, hpw.imp (fun h => by rw [ltQ_iff] at h; exact of_decide_eq_false h), h3, h4⟩
set_option maxRecDepth 100000 in
set_option maxHeartbeats 4000000 in
theorem sortedFunc_c (w : World) (lb : Array Value) (S : List Nat) (T : List (Qn × Int)) (N : Nat) (hst : KeysSt w lb S (fun ss => ss.Perm (keyL T)) N) (hS : ∀ b ∈ S, b < w.heap.size) (hN : N ≤ 1000000) (hl : T.length ≤ 1000000) :
    Calls Tryz.prog 18 #[.func (.func 40) #[] lb, .func (.func 20) #[] #[]] w fun e w' => ∃ v K, e = .returned v ∧ K.Perm (keyL T) ∧ K.Pairwise (fun x y => ¬ qlt y x) ∧ shQ.O w' w.heap.size tK v K ∧ Keeps [] w w' := by
  have hTl : (keyL T).length = T.length := by simp [keyL]
  replace hst := Lib.hid hst
  replace hTl := Lib.hid hTl
  go_enter Tryz.func18, Tryz.ntmps18
  go_wp2_with fail
  refine (collect_c w lb S _ N hst.out hS hN).mono ?_
  rintro e w1 ⟨v, xs, rfl, h1, h2, h3⟩
  obtain ⟨a, c, rfl⟩ := h2.form
  have hxl : xs.length = T.length := by rw [h1.length_eq, hTl.out]
  have hsort := sortS_c w1 (w.heap.size + 1) _ xs h2 (by omega)
  have hge := h2.ge
  replace h1 := Lib.hid h1
  replace h2 := Lib.hid h2
  replace h3 := Lib.hid h3
  replace hge := Lib.hid hge
  replace hsort := Lib.hid hsort
  obtain ⟨M, hM⟩ : ∃ M, xs.length = M := ⟨_, rfl⟩
  rw [hM] at hsort hge ⊢
  replace hM := Lib.hid hM
  replace hxl := Lib.hid hxl
  go_wp2_with fail
  refine hsort.out.mono ?_
  rintro e w2 ⟨rfl, L', hp, hpw, hO, hk⟩
  have hpp := Lib.hid (hp.trans h1.out)
  replace hpw := Lib.hid hpw
  replace hp := Lib.hid hp
  have hk2 := h3.out.fresh hk (fun b hb => .inr (by have := hge.out b (by simpa using hb); omega))
  replace hO := Lib.hid hO
  replace hk2 := Lib.hid hk2
  go_wp2
  go_ret
  refine ⟨_, L', rfl, hpp.out, hpw.out, ?_, hk2.out⟩
  have h9 := hO.out
  refine ⟨h9.1, ?_⟩
  rcases h9.2 with hn | ⟨g, cap, cur, e, hb, rest⟩
  · exact .inl hn
  · exact .inr ⟨g, cap, cur, e, by omega, rest⟩
end Go.Proofs.YtiplgpefapeapaaGreatDoor

namespace Go.Proofs.YtiplgpefapeapaaGreatDoor
open Go.RowKit Go

theorem strict_of {K : List Qn} (h : K.Pairwise (fun x y => ¬ qlt y x)) (hn : K.Nodup) : K.Pairwise qlt := by
  refine (List.Pairwise.and h hn).imp (fun {x y} hh => ?_)
  by_cases e : qlt x y
  · exact e
  · exact absurd (qlt_total e hh.1) hh.2
theorem outsF_len : ∀ (Y : List Ans) (acc : List (Qn × Int)), (∀ a ∈ Y, a.ins.length ≤ 1000) → (Y.foldl outsA acc).length ≤ acc.length + 1000 * Y.length
  | [], acc, _ => by simp
  | a :: Y, acc, h => by
    have h1 := outsF_len Y (outsA acc a) (fun b hb => h b (by simp [hb]))
    have h2 : (outsA acc a).length ≤ acc.length + a.ins.length := out_fold_len a.m a.ins acc
    have h3 := h a (by simp)
    simp only [List.foldl_cons, List.length_cons]
    omega
theorem outsOf_len (Y : List Ans) (h : ∀ a ∈ Y, a.ins.length ≤ 1000) : (outsOf Y).length ≤ 1000 * Y.length := by
  have := outsF_len Y [] h
  simpa [outsOf] using this
theorem M_atK {w w' : World} {bm : Nat} {L : List (Qn × Int)} (h : MapS.M ktK zV w bm L) (hb : w'.heap[bm]? = w.heap[bm]?) : MapS.M ktK zV w' bm L := by
  obtain ⟨⟨D, ⟨es, clock, hb', F, hs, hD⟩, h2, h3⟩, ha, hw⟩ := h
  exact ⟨⟨D, ⟨es, clock, hb.trans hb', F, hs, hD⟩, h2, h3⟩, ha, hw⟩
def ScpPost (w : World) (Y : List Ans) (e : Ending) (w' : World) : Prop := ∃ v, e = .returned v ∧ shT.R w' v (scL Y) ∧ Keeps [] w w'
set_option maxRecDepth 100000 in
set_option maxHeartbeats 16000000 in
theorem scionsP_c (w : World) (x : CtV) (c : Ct) (h : CtW w x c) (hfit : ∀ a ∈ c.an, a.Fit) (hf : c.Few) :
    Calls Tryz.prog 7 #[ctV x] w fun e w' => ScpPost w c.an e w' := by
  have hcF := fun W (hk : Keeps [] w W) => found_c W x c (h.keeps hk) hfit hf
  have hlo := outsOf_len c.an hf.ins
  have hfn := hf.an
  obtain ⟨Y, hY⟩ : ∃ Y, c.an = Y := ⟨_, rfl⟩
  rw [hY] at hlo hfn hcF ⊢
  obtain ⟨x0, x1, x2, x3, x4, ⟨x5, x6, x7⟩, ⟨x8, x9, x10⟩⟩ := x
  have hA := heap_alloc_new w (.cells #[.int .i64 x0, .int .i64 x1, .int .i64 x2, .int .u64 x3, .int .i64 x4, .slice x5 x6 x7, .slice x8 x9 x10] tCt)
  have hkA := (Keeps.refl [] w).alloc (.cells #[.int .i64 x0, .int .i64 x1, .int .i64 x2, .int .u64 x3, .int .i64 x4, .slice x5 x6 x7, .slice x8 x9 x10] tCt)
  replace hcF := Lib.hid hcF
  replace hA := Lib.hid hA
  replace hkA := Lib.hid hkA
  clear h hfit hf hY
  simp only [ctV, slv] at hcF ⊢
  go_enter Tryz.func7, Tryz.ntmps7
  go_upto_region 1 with fail
  generalize (w.alloc (.cells #[.int .i64 x0, .int .i64 x1, .int .i64 x2, .int .u64 x3, .int .i64 x4, .slice x5 x6 x7, .slice x8 x9 x10] tCt)) = W at *
  obtain ⟨B, hB⟩ : ∃ B, w.heap.size = B := ⟨_, rfl⟩
  rw [hB] at hA ⊢
  replace hB := Lib.hid hB
  have hcf := Lib.hid (hcF.out W hkA.out)
  obtain ⟨i0, i1, i2, i3, i4, i5, i6, if', il⟩ := cl7 hA.out
  go_wp2_with fail
  refine hcf.out.mono ?_
  rintro e w1 ⟨bM, rfl, hM, hge, hkM⟩
  have hk1 := Lib.hid (hkA.out.trans hkM)
  replace hge := Lib.hid (Nat.le_trans hkA.out.size hge)
  clear i0 i1 i2 i3 i4 i5 i6 if' il hcf hcF hkM
  -- maps.Keys
  have hk2 := (Keeps.refl [] w1).alloc (.cells #[.map (some bM)] 52)
  have hM2 := hM.keeps ktK hk2
  have hb2 := (cell1 (heap_alloc_new w1 (.cells #[.map (some bM)] 52))).1
  have hz2 : (w1.alloc (.cells #[.map (some bM)] 52)).heap.size = w1.heap.size + 1 := by simp
  have hst := keys1_stops 7 w1.heap.size bM [w1.heap.size] (outsOf Y) _ (by omega) hb2 hM2 (by simp) (fun b hb => by simp at hb; subst hb; omega)
  have hsf := sortedFunc_c _ _ _ (outsOf Y) _ hst (fun b hb => by simp at hb; subst hb; omega) (by omega) (by omega)
  replace hsf := Lib.hid hsf
  replace hk2 := Lib.hid hk2
  replace hM := Lib.hid hM
  clear hst hM2 hb2
  go_wp2_with fail
  refine (mapsKeys_c bM w1).mono ?_
  rintro e w2 ⟨rfl, rfl⟩
  go_wp2_with fail
  refine hsf.out.mono ?_
  rintro e w3 ⟨vK, K9, rfl, hKp, hKs, hKO, hk3⟩
  have hok : ∀ q ∈ K9, qOk q := fun q hq => by
    obtain ⟨p, hp, rfl⟩ := List.mem_map.1 (hKp.mem_iff.1 hq)
    exact hM.out.ok p hp
  have hKl : K9.length ≤ 1000000 := by rw [hKp.length_eq]; simp only [keyL, List.length_map]; omega
  have hk13 := hk2.out.trans hk3
  have hM3 := Lib.hid (hM.out.keeps ktK hk13)
  have hk3w := Lib.hid (hk1.out.trans hk13)
  have hbl := Lib.hid (Nat.lt_of_lt_of_le hM.out.lt hk13.size)
  have hres : Hid (scK Y K9 = scL Y) := Lib.hid (scK_eq (strict_of hKs (hKp.nodup_iff.2 (outsOf_nd Y))) hKp)
  have hKR := Lib.hid hKO.r
  obtain ⟨ka, kc, rfl⟩ := hKO.form
  obtain ⟨N, hN⟩ : ∃ N, K9.length = N := ⟨_, rfl⟩
  rw [hN] at hKR hKl ⊢
  replace hN := Lib.hid hN
  replace hok := Lib.hid hok
  clear hKp hKs hKO hk3 hsf hk2 hM hk13 hz2 hk1
  go_wp2
  go_loopw [5, 15] (fun ov i wr => ∃ (k : Nat), i = .int .i64 k ∧ k ≤ N ∧ Hid (shT.O wr w3.heap.size tI ov (scK Y (K9.take k))) ∧ Hid (Keeps [] w3 wr)) (fun _ i _ => N - (intOf i).toNat)
  case atStart => exact ⟨0, rfl, by omega, Lib.hid (Sh.O.nil _ _ _ _), Lib.hid (Keeps.refl _ _)⟩
  case round =>
    obtain ⟨k, rfl, hk, hO, hkw⟩ := hrel
    obtain ⟨oa, oc, rfl⟩ := hO.out.form
    have hLk : (scK Y (K9.take k)).length = k := by unfold scK; rw [List.length_map, List.length_take]; have := hN.out; omega
    rw [hLk] at hO ⊢
    replace hLk := Lib.hid hLk
    by_cases hlt : k < N
    · have hlt2 : (k : Int) < N := by omega
      have hlt3 : decide ((k : Int) < (N : Int)) = true := by simp; omega
      have hkl : k < K9.length := by rw [hN.out]; exact hlt
      obtain ⟨g, o, c', hv, he⟩ := (hKR.out.keeps hkw.out).elem hkl
      rw [hN.out] at hv
      cases hv
      have hst : scK Y (K9.take (k + 1)) = scK Y (K9.take k) ++ [(K9[k].2.1, K9[k].2.2, (MapS.get K9[k] (outsOf Y)).getD 0)] := by unfold scK; rw [List.take_succ_eq_append_getElem hkl, List.map_append]; rfl
      have hqk := hok.out _ (List.getElem_mem hkl)
      obtain ⟨⟨q0, q1, q2⟩, hq⟩ : ∃ q, K9[k] = q := ⟨_, rfl⟩
      rw [hq] at he hst hqk
      have g0 := he 0 _ rfl
      have g1 := he 1 _ rfl
      have g2 := he 2 _ rfl
      simp only [shQ, Nat.add_zero] at g0 g1 g2 hst
      obtain ⟨z, hz⟩ : ∃ z, (MapS.get (q0, q1, q2) (outsOf Y)).getD 0 = z := ⟨_, rfl⟩
      rw [hz] at hst
      have hkn := Lib.hid ((Keeps.refl [] wr).alloc (.cells #[.int .i64 q0, .int .i64 q1, .int .u64 q2] tK))
      have hbA := Lib.hid (heap_alloc_new wr (.cells #[.int .i64 q0, .int .i64 q1, .int .u64 q2] tK))
      have hnX : Hid ((Value.slice oa k oc).ownBlock ≠ some wr.heap.size) := Lib.hid (fun e => by have := hO.out.lt _ e; omega)
      have hnM : Hid ((Value.slice oa k oc).ownBlock ≠ some bM) := Lib.hid (fun e => by have := hO.out.ge _ e; have := hbl.out; omega)
      have hMr := Lib.hid (hM3.out.keeps ktK hkw.out)
      replace hst := Lib.hid hst
      replace hqk := Lib.hid hqk
      replace hz := Lib.hid hz
      replace hq := Lib.hid hq
      clear he
      go_upto_region 7 with fail
      clear g0 g1 g2
      generalize (wr.alloc (.cells #[.int .i64 q0, .int .i64 q1, .int .u64 q2] tK)) = WA at *
      obtain ⟨X, hX⟩ : ∃ X, wr.heap.size = X := ⟨_, rfl⟩
      rw [hX] at hbA hnX ⊢
      replace hX := Lib.hid hX
      obtain ⟨p0, p1, p2⟩ := cells3t hbA.out
      have hMA := Lib.hid (hMr.out.keeps ktK hkn.out)
      refine Free.wp_region_chain (fun i => i == 9 || i == 10) (fun i => true) (fun _ b => (Value.slice oa k oc).ownBlock = some b) (by kernel_rfl) (by kernel_rfl) (by kernel_rfl) ?_
      (repeat (first | (apply Free.cw_pure rfl rfl; (intro w'; go_simp <;> exact rfl); go_frame) | (apply Free.cw_steady rfl rfl rfl; (intro w' hS; have q0 := Free.sx_cell hS p0 (fun _ _ hT => hnX.out hT); have q1 := Free.sx_cell hS p1 (fun _ _ hT => hnX.out hT); have q2 := Free.sx_cell hS p2 (fun _ _ hT => hnX.out hT); go_simp <;> exact rfl); go_frame) | (refine Free.cw_skip rfl ?_; go_frame)))
      have hlook : Hid (∀ w', Free.KeepsP (fun b => (Value.slice oa k oc).ownBlock = some b) WA.drew w' → (Instr.lookup 52 (.map (some bM)) (qV (q0, q1, q2)) false).run Tryz.prog w' = .ok (.int .i64 z) w') := Lib.hid (fun w' hkk => by
        have h1 := MapS.M.look ktK Tryz.underlying52 (zV 0) zeroZ (M_atK hMA.out (hkk.block bM hMA.out.lt (fun e => hnM.out e))) hqk.out
        rw [← hz.out]
        refine h1.trans ?_
        cases MapS.get (q0, q1, q2) (outsOf Y) <;> rfl)
      apply Free.cw_steady rfl rfl rfl
      · intro w' hS
        have h9 := hlook.out w' (hS.mono (fun b hb => by obtain ⟨j, _, _, h⟩ := hb; exact h))
        clear hS
        go_simp <;> exact rfl
      go_frame
      (repeat (first | (apply Free.cw_pure rfl rfl; (intro w'; go_simp <;> exact rfl); go_frame) | (apply Free.cw_steady rfl rfl rfl; (intro w' hS; have q0 := Free.sx_cell hS p0 (fun _ _ hT => hnX.out hT); have q1 := Free.sx_cell hS p1 (fun _ _ hT => hnX.out hT); have q2 := Free.sx_cell hS p2 (fun _ _ hT => hnX.out hT); go_simp <;> exact rfl); go_frame) | (refine Free.cw_skip rfl ?_; go_frame)))
      refine Free.cw_loud rfl rfl (fun K hK => ?_)
      go_wp2
      refine hK _ _ rfl (Free.KeepsP.alloc _ _ _) ?_
      clear hK K
      have hmade := ((Sh.O.one shT WA (q1, q2, z) #[.int .i64 q1, .int .u64 q2, .int .i64 z] tI 0 rfl (Nat.zero_le _)).r).keeps (Keeps.refl [] _).drew
      have hA9 : Keeps [] WA (WA.alloc (.cells #[.int .i64 q1, .int .u64 q2, .int .i64 z] tI)).drew := ((Keeps.refl [] WA).alloc _).drew
      have hkr9 := hkn.out.trans hA9
      obtain ⟨bm, ebm⟩ : ∃ x, WA.heap.size = x := ⟨_, rfl⟩
      rw [ebm] at hmade ⊢
      generalize (WA.alloc (.cells #[.int .i64 q1, .int .u64 q2, .int .i64 z] tI)).drew = w9 at *
      have hO9 := Lib.hid (hO.out.keeps hkr9)
      have hk9 := Lib.hid (hkw.out.trans hkr9)
      replace hmade := Lib.hid hmade
      replace ebm := Lib.hid ebm
      clear hkr9 hA9
      (repeat (first | (apply Free.cw_pure rfl rfl; (intro w'; go_simp <;> exact rfl); go_frame) | (apply Free.cw_steady rfl rfl rfl; (intro w' hS; have q0 := Free.sx_cell hS p0 (fun _ _ hT => hnX.out hT); have q1 := Free.sx_cell hS p1 (fun _ _ hT => hnX.out hT); have q2 := Free.sx_cell hS p2 (fun _ _ hT => hnX.out hT); go_simp <;> exact rfl); go_frame) | (refine Free.cw_skip rfl ?_; go_frame)))
      refine Free.cw_loud rfl rfl (fun K hK => ?_)
      refine Sh.owp_app shT w3.heap.size infoI rfl Tryz.underlying34 (.slice oa k oc) (.slice (some ⟨bm, 0, none⟩) 1 1) (scK Y (K9.take k)) [(q1, q2, z)] (.tmp 19) (.tmp 28) rfl rfl rfl hO9.out hmade.out (by rw [hLk.out]; simp; omega) hk9.out.size ?_
      intro v5 w5 hO5 hG5
      refine hK _ _ rfl (Free.KeepsP.of hG5.keepsO (fun b hb => by simpa using hb)) ?_
      clear hK K
      have hk5 := Lib.hid (hk9.out.fresh hG5.keepsO (fun b hb => .inr (hO9.out.ge b (by simpa using hb))))
      rw [← hst.out] at hO5
      replace hO5 := Lib.hid hO5
      clear hG5 hmade hO9 hk9
      (repeat (first | (apply Free.cw_pure rfl rfl; (intro w'; go_simp <;> exact rfl); go_frame) | (apply Free.cw_steady rfl rfl rfl; (intro w' hS; have q0 := Free.sx_cell hS p0 (fun _ _ hT => hnX.out hT); have q1 := Free.sx_cell hS p1 (fun _ _ hT => hnX.out hT); have q2 := Free.sx_cell hS p2 (fun _ _ hT => hnX.out hT); go_simp <;> exact rfl); go_frame) | (refine Free.cw_skip rfl ?_; go_frame)))
      refine Free.cw_nil ?_
      clear p0 p1 p2
      go_wp2
      go_roundw
      case rel => exact ⟨k + 1, rfl, by omega, hO5, hk5⟩
      case measure => simp [intOf]; omega
    · have hlt2 : decide ((k : Int) < (N : Int)) = false := by simp; omega
      have hlt4 : ¬ ((k : Int) < N) := by omega
      have hkN : k = K9.length := by rw [hN.out]; omega
      have e : scK Y (K9.take k) = scL Y := by rw [hkN, List.take_length]; exact hres.out
      rw [e] at hO
      replace hkN := Lib.hid hkN
      replace e := Lib.hid e
      go_wp2
      go_ret
      exact ⟨_, rfl, hO.out.r, hk3w.out.trans hkw.out⟩
end Go.Proofs.YtiplgpefapeapaaGreatDoor

namespace Go.Proofs.YtiplgpefapeapaaGreatDoor
open Go.RowKit Go Go.Shelf

theorem bX : Builder.Extra Tryz.prog Tryz.laysJoin_ren where
  sizeBuilder := by kernel_rfl
  liesBuilder := by kernel_rfl
  t5 := Tryz.underlying5
  a5 := Tryz.isAgg5
  z5 := Tryz.sizeOf5
  v5 := Tryz.zeroValue5
  infoByte := by kernel_rfl
  cellsByte := by kernel_rfl
  sizeByte := by kernel_rfl
  neB5 := by decide
def sepT : List UInt8 := [44, 32]
theorem join_c (w : World) (v : Value) (L : List (List UInt8)) (h : shS.R w v L) (hl : L.length ≤ 1000) (hlen : (Lib.join L sepT).length ≤ 1000000) :
    Calls Tryz.prog 53 #[v, .string ⟨#[44, 32]⟩] w fun e w' => e = .returned (bstr (Lib.join L sepT)) ∧ Keeps [] w w' := by
  obtain ⟨a, c, rfl, hlc, hcm, _⟩ := h.form
  by_cases h0 : L = []
  · subst h0
    refine (Any.strings_Join_none Tryz.laysJoin bX a c _ w).mono ?_
    rintro e w' ⟨rfl, rfl⟩
    exact ⟨rfl, Keeps.refl _ _⟩
  · have hpos : 0 < L.length := List.length_pos_iff.2 h0
    obtain ⟨g, o, c', hv, he⟩ := h.elem hpos
    cases hv
    have hcell : ∀ (j : Nat) (x : ByteArray), (L.map (fun l => (⟨l.toArray⟩ : ByteArray)))[j]? = some x → w.cell? ⟨g, o + j, none⟩ = some (.string x) := fun j x hx => by
      rw [List.getElem?_map] at hx
      cases hj : L[j]? with
      | none => rw [hj] at hx; simp at hx
      | some l =>
        rw [hj] at hx
        simp only [Option.map_some, Option.some.injEq] at hx
        obtain ⟨hjl, e⟩ := List.getElem?_eq_some_iff.1 hj
        obtain ⟨g', o', c', hv', he'⟩ := h.elem hjl
        cases hv'
        have := he' 0 _ rfl
        rw [e] at this
        rw [← hx]
        simpa [shS, bstr] using this
    have hm : (L.map (fun l => (⟨l.toArray⟩ : ByteArray))).map (·.data.toList) = L := by rw [List.map_map]; simp [Function.comp_def]
    have hc := Any.strings_Join Tryz.laysJoin bX g o c (L.map (fun l => (⟨l.toArray⟩ : ByteArray))) ⟨#[44, 32]⟩ w hcell (lt_of_cell (hcell 0 ⟨(L[0]).toArray⟩ (by simp [List.getElem?_eq_getElem hpos]))) (by simp; omega) (by simpa using hlc) (by rw [hm]; exact Nat.le_trans hlen (by omega))
    rw [hm, List.length_map] at hc
    refine hc.mono ?_
    rintro e w' ⟨rfl, hb⟩
    exact ⟨rfl, Keeps.of_below hb⟩
/-- The text of the holders. -/
def hoL (L : List T3) : List (List UInt8) := L.map (fun x => prT x.1 x.2.1)
def hoT (L : List T3) : List UInt8 := if L = [] then [110, 111, 116, 104, 105, 110, 103] else Lib.join (hoL L) sepT
theorem joinTail_len (k : Nat) : ∀ (L : List (List UInt8)), (∀ l ∈ L, l.length ≤ k) → (Lib.joinTail sepT L).length ≤ (k + 2) * L.length
  | [], _ => by simp [Lib.joinTail]
  | x :: r, h => by
    have h1 := joinTail_len k r (fun l hl => h l (by simp [hl]))
    have h2 := h x (by simp)
    have e : Lib.joinTail sepT (x :: r) = sepT ++ x ++ Lib.joinTail sepT r := by simp [Lib.joinTail]
    rw [e, List.length_append, List.length_append, List.length_cons, Nat.mul_succ]
    have : sepT.length = 2 := rfl
    omega
theorem join_len (k : Nat) : ∀ (L : List (List UInt8)), (∀ l ∈ L, l.length ≤ k) → (Lib.join L sepT).length ≤ (k + 2) * L.length
  | [], _ => by simp [Lib.join_nil]
  | x :: r, h => by
    have h1 := joinTail_len k r (fun l hl => h l (by simp [hl]))
    have h2 := h x (by simp)
    rw [Lib.join_cons, List.length_append, List.length_cons, Nat.mul_succ]
    omega
def T3ok (x : T3) : Prop := W64 x.1 ∧ x.2.1 < 18446744073709551616
theorem hoL_len (L : List T3) (h : ∀ x ∈ L, T3ok x) : ∀ l ∈ hoL L, l.length ≤ 42 := fun l hl => by
  obtain ⟨x, hx, rfl⟩ := List.mem_map.1 hl
  exact prT_len _ _ (h x hx).1 (h x hx).2
theorem infoStr : (Tryz.prog.info? 9).map (fun i => (i.zero, i.size, i.bytes)) = some (some (bstr []), 1, 16) := by kernel_rfl
set_option maxRecDepth 100000 in
set_option maxHeartbeats 16000000 in
theorem holders_c (w : World) (v : Value) (L : List T3) (h : shT.R w v L) (hl : L.length ≤ 1000) (hok : ∀ x ∈ L, T3ok x) (ht : TabW w) :
    Calls Tryz.prog 30 #[v] w fun e w' => e = .returned (bstr (hoT L)) ∧ Keeps [] w w' := by
  obtain ⟨va, vc, rfl, hlc, hcm, _⟩ := h.form
  obtain ⟨N, hN⟩ : ∃ N, L.length = N := ⟨_, rfl⟩
  rw [hN] at h hl hlc ⊢
  by_cases h0 : N = 0
  · subst h0
    have hL : L = [] := List.eq_nil_of_length_eq_zero hN
    have e : hoT L = [110, 111, 116, 104, 105, 110, 103] := by rw [hL]; rfl
    rw [e]
    clear h hL e hok hN
    go_enter Tryz.func30, Tryz.ntmps30
    go_wp2
    go_ret
    exact ⟨rfl, Keeps.refl _ _⟩
  · have hne : ((N : Int) == 0) = false := by simp; omega
    have hne2 : decide ((N : Int) = 0) = false := by simp; omega
    have hL : L ≠ [] := fun e => h0 (by rw [← hN, e]; rfl)
    have e : hoT L = Lib.join (hoL L) sepT := by unfold hoT; rw [if_neg hL]
    rw [e]
    replace h := Lib.hid h
    replace hN := Lib.hid hN
    replace hok := Lib.hid hok
    clear hL e
    go_enter Tryz.func30, Tryz.ntmps30
    go_wp2
    go_loopw [3, 11] (fun ov i wr => ∃ (k : Nat), i = .int .i64 k ∧ k ≤ N ∧ Hid (shS.O wr w.heap.size 9 ov (hoL (L.take k))) ∧ Hid (Keeps [] w wr)) (fun _ i _ => N - (intOf i).toNat)
    case atStart => exact ⟨0, rfl, by omega, Lib.hid (Sh.O.nil _ _ _ _), Lib.hid (Keeps.refl _ _)⟩
    case round =>
      obtain ⟨k, rfl, hk, hO, hkw⟩ := hrel
      obtain ⟨oa, oc, rfl⟩ := hO.out.form
      have hLk : (hoL (L.take k)).length = k := by unfold hoL; rw [List.length_map, List.length_take]; have := hN.out; omega
      rw [hLk] at hO ⊢
      replace hLk := Lib.hid hLk
      by_cases hlt : k < N
      · have hlt2 : (k : Int) < N := by omega
        have hlt3 : decide ((k : Int) < (N : Int)) = true := by simp; omega
        have hkl : k < L.length := by rw [hN.out]; exact hlt
        obtain ⟨g, o, c', hv, he⟩ := (h.out.keeps hkw.out).elem hkl
        rw [hN.out] at hv
        cases hv
        have hst : hoL (L.take (k + 1)) = hoL (L.take k) ++ [prT L[k].1 L[k].2.1] := by unfold hoL; rw [List.take_succ_eq_append_getElem hkl, List.map_append]; rfl
        have hxo := hok.out _ (List.getElem_mem hkl)
        obtain ⟨⟨q0, q1, q2⟩, hq⟩ : ∃ q, L[k] = q := ⟨_, rfl⟩
        rw [hq] at he hst hxo
        have g0 := he 0 _ rfl
        have g1 := he 1 _ rfl
        have g2 := he 2 _ rfl
        simp only [shT, Nat.add_zero] at g0 g1 g2 hst
        have hkn := Lib.hid ((Keeps.refl [] wr).alloc (.cells #[.int .i64 q0, .int .u64 q1, .int .i64 q2] tI))
        have hbA := Lib.hid (heap_alloc_new wr (.cells #[.int .i64 q0, .int .u64 q1, .int .i64 q2] tI))
        replace hst := Lib.hid hst
        replace hxo := Lib.hid hxo
        replace hq := Lib.hid hq
        clear he
        go_upto_region 7 with fail
        clear g0 g1 g2
        generalize (wr.alloc (.cells #[.int .i64 q0, .int .u64 q1, .int .i64 q2] tI)) = WA at *
        obtain ⟨X, hX⟩ : ∃ X, wr.heap.size = X := ⟨_, rfl⟩
        rw [hX] at hbA ⊢
        replace hX := Lib.hid hX
        obtain ⟨p0, p1, p2⟩ := cells3t hbA.out
        have hkA := Lib.hid (hkw.out.trans hkn.out)
        have hcall := Lib.hid (pairP_c WA q0 q1 hxo.out.1 hxo.out.2 (ht.keeps hkA.out))
        go_wp2_with fail
        refine hcall.out.mono ?_
        rintro e w1 ⟨rfl, hk1⟩
        have hmade := Lib.hid (Sh.R.made shS w1 [prT q0 q1] #[bstr (prT q0 q1)] 9 rfl (by simp [maxLen]) 1 rfl)
        have hkr1 := (hkn.out.trans hk1).alloc (.cells #[bstr (prT q0 q1)] 9)
        have hO1 := Lib.hid (hO.out.keeps hkr1)
        have hk9 := Lib.hid (hkw.out.trans hkr1)
        clear hk1 hkr1 hcall p0 p1 p2
        unfold bstr at hmade hO1 hk9 ⊢
        go_wp2_with (first
          | (at_builtin; (refine Sh.wpl_app shS w.heap.size infoStr rfl Tryz.underlying40 (.slice oa k oc) (.slice (some ⟨w1.heap.size, 0, none⟩) 1 1) (hoL (L.take k)) [prT q0 q1] rfl _ _ rfl rfl rfl ?hA ?hB ?hC ?hD ?_); (case hA => exact hO1.out); (case hB => exact hmade.out); (case hC => rw [hLk.out]; simp only [List.length_singleton]; omega); (case hD => exact hk9.out.size); intro v5 w5 hO5 hG5; have hk5 := hk9.out.fresh hG5.keepsO (fun b hb => .inr (hO1.out.ge b (by simpa using hb))); rw [← hst.out] at hO5; replace hO5 := Lib.hid hO5; replace hk5 := Lib.hid hk5; clear hG5)
          | fail)
        go_roundw
        case rel => exact ⟨k + 1, rfl, by omega, hO5, hk5⟩
        case measure => simp [intOf]; omega
      · have hlt2 : ¬ ((k : Int) < N) := by omega
        have hlt3 : decide ((k : Int) < (N : Int)) = false := by simp; omega
        have hkN : k = L.length := by rw [hN.out]; omega
        have e : hoL (L.take k) = hoL L := by rw [hkN, List.take_length]
        rw [e] at hO
        have hj : (Lib.join (hoL L) sepT).length ≤ 1000000 := by
          have := join_len 42 (hoL L) (hoL_len L hok.out)
          have h2 : (hoL L).length = L.length := List.length_map ..
          have h3 := hN.out
          rw [h2, h3] at this
          omega
        have hcall := Lib.hid (join_c wr _ (hoL L) hO.out.r (by have : (hoL L).length = L.length := List.length_map ..; have h3 := hN.out; omega) hj)
        replace hkN := Lib.hid hkN
        replace e := Lib.hid e
        clear hj
        go_wp2_with fail
        refine hcall.out.mono ?_
        rintro e w1 ⟨rfl, hk1⟩
        have hk2 := Lib.hid (hkw.out.trans hk1)
        clear hk1 hcall
        go_wp2
        go_ret
        exact ⟨rfl, hk2.out⟩
end Go.Proofs.YtiplgpefapeapaaGreatDoor

namespace Go.Proofs.YtiplgpefapeapaaGreatDoor
open Go.RowKit Go

/-! the words -/
def wTr : List UInt8 := [116, 114, 97, 99, 101, 32]
def wOf : List UInt8 := [32, 111, 102, 32, 115, 116, 117, 98, 32]
def wMa : List UInt8 := [109, 97, 99, 104, 105, 110, 101, 32]
def wEp : List UInt8 := [44, 32, 101, 112, 111, 99, 104, 32]
def wSt : List UInt8 := [58, 32, 115, 116, 117, 98, 32]
def wIs : List UInt8 := [32, 105, 115, 32]
def wUn : List UInt8 := [117, 110, 107, 110, 111, 119, 110]
def wRo : List UInt8 := [114, 111, 111, 116, 101, 100]
def wHe : List UInt8 := [104, 101, 108, 100, 32, 98, 121, 32]
def wCo : List UInt8 := [99, 111, 110, 100, 101, 109, 110, 101, 100, 58, 32]
def wSc : List UInt8 := [32, 115, 99, 105, 111, 110, 115]
def wNo : List UInt8 := [105, 110, 118, 97, 108, 105, 100]
/-- The first line. -/
def hdT (im is s0 : Int) (s1 : Nat) : List UInt8 := wTr ++ Lib.itoa im ++ [47] ++ Lib.itoa is ++ wOf ++ prT s0 s1
/-- The line of an answer. -/
def anH (a : Ans) : List UInt8 := wMa ++ Lib.itoa a.m ++ wEp ++ Lib.itoa a.ep ++ wSt ++ prT a.ow a.n ++ wIs
def anT (a : Ans) : List UInt8 := anH a ++ (if a.kn = false then wUn else if a.rt = true then wRo else wHe ++ hoT a.ins)
/-- The last line. -/
def enT (n : Nat) : List UInt8 := wCo ++ Lib.itoa n ++ wSc
def fmT (c : Ct) : List (List UInt8) := if wf c = true then [hdT c.im c.is c.st.1 c.st.2.1] ++ c.an.map anT ++ [enT (scL c.an).length] else [wNo]
def FmPost (w : World) (c : Ct) (e : Ending) (w' : World) : Prop := ∃ v, e = .returned v ∧ shS.R w' v (fmT c) ∧ Keeps [] w w'
theorem hoT_len (L : List T3) (h : ∀ x ∈ L, T3ok x) (hl : L.length ≤ 1000) : (hoT L).length ≤ 1000000 := by
  unfold hoT
  split
  · simp
  · have := join_len 42 (hoL L) (hoL_len L h)
    have h2 : (hoL L).length = L.length := List.length_map ..
    rw [h2] at this
    omega
set_option maxRecDepth 100000 in
set_option maxHeartbeats 32000000 in
theorem formatP_c (w : World) (x : CtV) (c : Ct) (h : CtW w x c) (hfit : c.Fit0) (hf : c.Few) (ht : TabW w) :
    Calls Tryz.prog 13 #[ctV x] w fun e w' => FmPost w c e w' := by
  have hcF := fun W (hk : Keeps [] w W) => formed_c W x c (h.keeps hk) hf
  have hcS := fun W (hk : Keeps [] w W) => scionsP_c W x c (h.keeps hk) hfit.an hf
  have him := h.im
  have his := h.is
  have hs0 := h.s0
  have hs1 := h.s1
  have han := h.an
  have hfi := hfit.im
  have hfs := hfit.is
  have hft := hfit.st
  obtain ⟨x0, x1, x2, x3, x4, ⟨x5, x6, x7⟩, ⟨x8, x9, x10⟩⟩ := x
  simp only at him his hs0 hs1
  have hA := heap_alloc_new w (.cells #[.int .i64 x0, .int .i64 x1, .int .i64 x2, .int .u64 x3, .int .i64 x4, .slice x5 x6 x7, .slice x8 x9 x10] tCt)
  have hkA := (Keeps.refl [] w).alloc (.cells #[.int .i64 x0, .int .i64 x1, .int .i64 x2, .int .u64 x3, .int .i64 x4, .slice x5 x6 x7, .slice x8 x9 x10] tCt)
  replace hcF := Lib.hid hcF
  replace hcS := Lib.hid hcS
  replace hA := Lib.hid hA
  replace hkA := Lib.hid hkA
  replace han := Lib.hid han
  replace ht := Lib.hid ht
  simp only [ctV, slv] at hcF hcS han ⊢
  by_cases hwf : wf c = true
  · have hfm : fmT c = [hdT c.im c.is c.st.1 c.st.2.1] ++ c.an.map anT ++ [enT (scL c.an).length] := by unfold fmT; rw [if_pos hwf]
    unfold FmPost
    rw [hfm]
    rw [hwf] at hcF
    replace hfm := Lib.hid hfm
    replace hwf := Lib.hid hwf
    replace h := Lib.hid h
    replace hfit := Lib.hid hfit
    replace hf := Lib.hid hf
    replace hft := Lib.hid hft
    replace hfi := Lib.hid hfi
    replace hfs := Lib.hid hfs
    rw [← him, ← his, ← hs0, ← hs1]
    replace him := Lib.hid him
    replace his := Lib.hid his
    replace hs0 := Lib.hid hs0
    replace hs1 := Lib.hid hs1
    go_enter Tryz.func13, Tryz.ntmps13
    go_upto_region 1 with fail
    generalize (w.alloc (.cells #[.int .i64 x0, .int .i64 x1, .int .i64 x2, .int .u64 x3, .int .i64 x4, .slice x5 x6 x7, .slice x8 x9 x10] tCt)) = W at *
    obtain ⟨B, hB⟩ : ∃ B, w.heap.size = B := ⟨_, rfl⟩
    rw [hB] at hA ⊢
    replace hB := Lib.hid hB
    have hcf := Lib.hid (hcF.out W hkA.out)
    obtain ⟨i0, i1, i2, i3, i4, i5, i6, if', il⟩ := cl7 hA.out
    go_wp2_with fail
    refine hcf.out.mono ?_
    rintro e w1 ⟨rfl, hk1⟩
    have hA1 := Lib.hid ((hk1.block _ (lt_of_blk hA.out) (by simp)).trans hA.out)
    have hkw1 := Lib.hid (hkA.out.trans hk1)
    clear i0 i1 i2 i3 i4 i5 i6 if' il hk1 hcf hcF hA
    obtain ⟨i0, i1, i2, i3, i4, i5, i6, if', il⟩ := cl7 hA1.out
    have hcall1 := fun W (hk : Keeps [] w W) => itoa_c W x0 (by rw [him.out]; exact hfi.out) (ht.out.keeps hk)
    have hcall2 := fun W (hk : Keeps [] w W) => itoa_c W x1 (by rw [his.out]; exact hfs.out) (ht.out.keeps hk)
    have hcall3 := fun W (hk : Keeps [] w W) => pairP_c W x2 x3 (by rw [hs0.out]; exact hft.out.1) (by rw [hs1.out]; exact hft.out.2.1) (ht.out.keeps hk)
    have hl1 := itoa_len x0 (by rw [him.out]; exact hfi.out)
    have hl2 := itoa_len x1 (by rw [his.out]; exact hfs.out)
    have hl3 := prT_len x2 x3 (by rw [hs0.out]; exact hft.out.1) (by rw [hs1.out]; exact hft.out.2.1)
    have hhd : hdT x0 x1 x2 x3 = wTr ++ Lib.itoa x0 ++ [47] ++ Lib.itoa x1 ++ wOf ++ prT x2 x3 := rfl
    obtain ⟨t1, e1⟩ : ∃ t, Lib.itoa x0 = t := ⟨_, rfl⟩
    obtain ⟨t2, e2⟩ : ∃ t, Lib.itoa x1 = t := ⟨_, rfl⟩
    obtain ⟨t3, e3⟩ : ∃ t, prT x2 x3 = t := ⟨_, rfl⟩
    simp only [e1, e2, e3] at hcall1 hcall2 hcall3 hl1 hl2 hl3 hhd
    replace hhd := Lib.hid hhd
    clear e1 e2 e3
    have hle1 : ¬ 9223372036854775807 < 6 + t1.length := by omega
    have hle2 : ¬ 9223372036854775807 < 6 + t1.length + 1 := by omega
    have hle3 : ¬ 9223372036854775807 < 6 + t1.length + 1 + t2.length := by omega
    have hle4 : ¬ 9223372036854775807 < 6 + t1.length + 1 + t2.length + 9 := by omega
    have hle5 : ¬ 9223372036854775807 < 6 + t1.length + 1 + t2.length + 9 + t3.length := by omega
    replace hcall1 := Lib.hid hcall1
    replace hcall2 := Lib.hid hcall2
    replace hcall3 := Lib.hid hcall3
    go_upto_region 3 with fail
    refine Free.wp_region_chain (fun i => i == 3 || i == 9 || i == 18 || i == 20) (fun i => true) (fun _ _ => False) (by kernel_rfl) (by kernel_rfl) (by kernel_rfl) ?_
    (repeat (first | (apply Free.cw_pure rfl rfl; (intro w'; go_simp <;> exact rfl); go_frame) | (apply Free.cw_steady rfl rfl rfl; (intro w' hS; have q0 := Free.sx_cell hS i0 (fun _ _ hT => hT); have q1 := Free.sx_cell hS i1 (fun _ _ hT => hT); have q2 := Free.sx_cell hS i2 (fun _ _ hT => hT); have q3 := Free.sx_cell hS i3 (fun _ _ hT => hT); go_simp <;> exact rfl); go_frame) | (refine Free.cw_skip rfl ?_; go_frame)))
    refine Free.cw_loud rfl rfl (fun K hK => ?_)
    go_wp2_with fail
    refine (hcall1.out w1.drew hkw1.out.drew).mono ?_
    rintro e w2 ⟨rfl, hk2⟩
    refine hK _ _ rfl (Free.KeepsP.of hk2 (by simp)) ?_
    clear hK K
    have hd2 := Lib.hid ((Keeps.refl [] w1).drew.trans hk2)
    replace hk2 := Lib.hid (hkw1.out.drew.trans hk2)
    unfold bstr
    (repeat (first | (apply Free.cw_pure rfl rfl; (intro w'; go_simp <;> exact rfl); go_frame) | (apply Free.cw_steady rfl rfl rfl; (intro w' hS; have q0 := Free.sx_cell hS i0 (fun _ _ hT => hT); have q1 := Free.sx_cell hS i1 (fun _ _ hT => hT); have q2 := Free.sx_cell hS i2 (fun _ _ hT => hT); have q3 := Free.sx_cell hS i3 (fun _ _ hT => hT); go_simp <;> exact rfl); go_frame) | (refine Free.cw_skip rfl ?_; go_frame)))
    refine Free.cw_loud rfl rfl (fun K hK => ?_)
    go_wp2_with fail
    refine (hcall2.out w2 hk2.out).mono ?_
    rintro e w3 ⟨rfl, hk3⟩
    refine hK _ _ rfl (Free.KeepsP.of hk3 (by simp)) ?_
    clear hK K
    replace hk2 := Lib.hid (hk2.out.trans hk3)
    replace hd2 := Lib.hid (hd2.out.trans hk3)
    clear hk3
    unfold bstr
    (repeat (first | (apply Free.cw_pure rfl rfl; (intro w'; go_simp <;> exact rfl); go_frame) | (apply Free.cw_steady rfl rfl rfl; (intro w' hS; have q0 := Free.sx_cell hS i0 (fun _ _ hT => hT); have q1 := Free.sx_cell hS i1 (fun _ _ hT => hT); have q2 := Free.sx_cell hS i2 (fun _ _ hT => hT); have q3 := Free.sx_cell hS i3 (fun _ _ hT => hT); go_simp <;> exact rfl); go_frame) | (refine Free.cw_skip rfl ?_; go_frame)))
    refine Free.cw_loud rfl rfl (fun K hK => ?_)
    go_wp2_with fail
    refine (hcall3.out w3 hk2.out).mono ?_
    rintro e w4 ⟨rfl, hk4⟩
    refine hK _ _ rfl (Free.KeepsP.of hk4 (by simp)) ?_
    clear hK K
    replace hk2 := Lib.hid (hk2.out.trans hk4)
    replace hd2 := Lib.hid (hd2.out.trans hk4)
    clear hk4
    unfold bstr
    (repeat (first | (apply Free.cw_pure rfl rfl; (intro w'; go_simp <;> exact rfl); go_frame) | (apply Free.cw_steady rfl rfl rfl; (intro w' hS; have q0 := Free.sx_cell hS i0 (fun _ _ hT => hT); have q1 := Free.sx_cell hS i1 (fun _ _ hT => hT); have q2 := Free.sx_cell hS i2 (fun _ _ hT => hT); have q3 := Free.sx_cell hS i3 (fun _ _ hT => hT); go_simp <;> exact rfl); go_frame) | (refine Free.cw_skip rfl ?_; go_frame)))
    refine Free.cw_loud rfl rfl (fun K hK => ?_)
    go_wp2
    refine hK _ _ rfl (Free.KeepsP.alloc _ _ _) ?_
    clear hK K
    have hval : Value.string ({ data := #[116, 114, 97, 99, 101, 32] } ++ { data := t1.toArray } ++ { data := #[47] } ++ { data := t2.toArray } ++ { data := #[32, 111, 102, 32, 115, 116, 117, 98, 32] } ++ { data := t3.toArray }) = bstr (hdT x0 x1 x2 x3) := by
      rw [hhd.out]
      show Value.string ({ data := wTr.toArray } ++ { data := t1.toArray } ++ { data := [47].toArray } ++ { data := t2.toArray } ++ { data := wOf.toArray } ++ { data := t3.toArray }) = _
      rw [bs_add, bs_add, bs_add, bs_add, bs_add]
      rfl
    rw [hval]
    obtain ⟨h0, eh0⟩ : ∃ l, hdT x0 x1 x2 x3 = l := ⟨_, rfl⟩
    rw [eh0]
    obtain ⟨sv, esv⟩ : ∃ v, bstr h0 = v := ⟨_, rfl⟩
    rw [esv]
    replace esv := Lib.hid esv
    have hBw : B + 1 ≤ w4.heap.size := by
      have h1 := lt_of_blk hA1.out
      have h2 := hd2.out.size
      omega
    have hO0 := Sh.O.one shS w4 h0 #[sv] 9 (B + 1) (by show [sv] = [bstr h0]; rw [esv.out]) hBw
    have hk5 := (Keeps.refl [] w4).alloc (.cells #[sv] 9)
    have hA5 := Lib.hid (((hd2.out.trans hk5).block _ (lt_of_blk hA1.out) (by simp)).trans hA1.out)
    have hkw5 := Lib.hid (hk2.out.trans hk5)
    obtain ⟨bm, ebm⟩ : ∃ x, w4.heap.size = x := ⟨_, rfl⟩
    rw [ebm] at hO0 ⊢
    generalize (w4.alloc (.cells #[sv] 9)) = w5 at *
    replace hO0 := Lib.hid hO0
    replace ebm := Lib.hid ebm
    replace eh0 := Lib.hid eh0
    clear hval hk5 hd2 hk2 hle1 hle2 hle3 hle4 hle5 hl1 hl2 hl3 hcall1 hcall2 hcall3 hhd hBw
    (repeat (apply Free.cw_pure rfl rfl; (intro w'; go_simp <;> exact rfl); go_frame))
    refine Free.cw_nil ?_
    clear i0 i1 i2 i3 i4 i5 i6 if' il
    obtain ⟨i0, i1, i2, i3, i4, i5, i6, if', il⟩ := cl7 hA5.out
    obtain ⟨_, _, e1, hla, hca⟩ := han.out.form
    simp only [Value.slice.injEq] at e1
    obtain ⟨-, e1, -⟩ := e1
    have hx6m : x6 ≤ 1000 := by have := hf.out.an; omega
    replace e1 := Lib.hid e1
    go_wp2
    go_loopw [3, 35] (fun ov i wr => ∃ (k : Nat), i = .int .i64 k ∧ k ≤ x6 ∧ Hid (shS.O wr (B + 1) 9 ov ([h0] ++ (c.an.take k).map anT)) ∧ Hid (wr.heap[B]? = some (.cells #[.int .i64 x0, .int .i64 x1, .int .i64 x2, .int .u64 x3, .int .i64 x4, .slice x5 x6 x7, .slice x8 x9 x10] tCt)) ∧ Hid (Keeps [] w wr)) (fun _ i _ => x6 - (intOf i).toNat)
    case atStart => exact ⟨0, rfl, by omega, hO0, hA5, hkw5⟩
    case round =>
      clear i0 i1 i2 i3 i4 i5 i6 if' il hO0
      obtain ⟨k, rfl, hk, hO, hAk, hkw⟩ := hrel
      obtain ⟨oa, oc, rfl⟩ := hO.out.form
      have hLk : ([h0] ++ (c.an.take k).map anT).length = k + 1 := by simp only [List.length_append, List.length_singleton, List.length_map, List.length_take]; have := e1.out; omega
      rw [hLk] at hO ⊢
      replace hLk := Lib.hid hLk
      by_cases hlt : k < x6
      · have hlt2 : (k : Int) < x6 := by omega
        have hkl : k < c.an.length := by rw [← e1.out]; exact hlt
        obtain ⟨g, o, c', y, hv, hy, he⟩ := (han.out.keeps hkw.out).elem hkl
        rw [← e1.out] at hv
        cases hv
        have hst : [h0] ++ (c.an.take (k + 1)).map anT = ([h0] ++ (c.an.take k).map anT) ++ [anT c.an[k]] := by rw [List.take_succ_eq_append_getElem hkl, List.map_append, List.append_assoc]; rfl
        have hao := hfit.out.an _ (List.getElem_mem hkl)
        have hai := hf.out.ins _ (List.getElem_mem hkl)
        obtain ⟨a, ha⟩ : ∃ a, c.an[k] = a := ⟨_, rfl⟩
        rw [ha] at hy hst hao hai
        have r0 := hy.m
        have r1 := hy.ow
        have r2 := hy.n
        have r3 := hy.ep
        have r4 := hy.kn
        have r5 := hy.rt
        have hins := hy.ins
        obtain ⟨y0, y1, y2, y3, y4, y5, y6, y7, y8, y9⟩ := y
        simp only [AnV.v] at r0 r1 r2 r3 r4 r5 hins
        have g0 := he 0 _ rfl
        have g1 := he 1 _ rfl
        have g2 := he 2 _ rfl
        have g3 := he 3 _ rfl
        have g4 := he 4 _ rfl
        have g5 := he 5 _ rfl
        have g6 := he 6 _ rfl
        have g7 := he 7 _ rfl
        simp only [AnV.v, Nat.add_zero] at g0 g1 g2 g3 g4 g5 g6 g7
        have hkn := Lib.hid ((Keeps.refl [] wr).alloc (.cells #[.int .i64 y0, .int .i64 y1, .int .u64 y2, .int .i64 y3, .bool y4, .bool y5, .int .i64 y6, .slice y7 y8 y9] tA))
        have hbA := Lib.hid (heap_alloc_new wr (.cells #[.int .i64 y0, .int .i64 y1, .int .u64 y2, .int .i64 y3, .bool y4, .bool y5, .int .i64 y6, .slice y7 y8 y9] tA))
        have hh : anH a = wMa ++ Lib.itoa y0 ++ wEp ++ Lib.itoa y3 ++ wSt ++ prT y1 y2 ++ wIs := by rw [r0, r1, r2, r3]; rfl
        have hta : anT a = anH a ++ (if y4 = false then wUn else if y5 = true then wRo else wHe ++ hoT a.ins) := by rw [r4, r5]; rfl
        have q1 := itoa_len y0 (by rw [r0]; exact hao.q.1)
        have q2 := itoa_len y3 (by rw [r3]; exact hao.ep)
        have q3 := prT_len y1 y2 (by rw [r1]; exact hao.q.2.1) (by rw [r2]; exact hao.q.2.2)
        have hc1 := fun W (hk : Keeps [] w W) => itoa_c W y0 (by rw [r0]; exact hao.q.1) (ht.out.keeps hk)
        have hc2 := fun W (hk : Keeps [] w W) => itoa_c W y3 (by rw [r3]; exact hao.ep) (ht.out.keeps hk)
        have hc3 := fun W (hk : Keeps [] w W) => pairP_c W y1 y2 (by rw [r1]; exact hao.q.2.1) (by rw [r2]; exact hao.q.2.2) (ht.out.keeps hk)
        obtain ⟨t1, z1⟩ : ∃ t, Lib.itoa y0 = t := ⟨_, rfl⟩
        obtain ⟨t2, z2⟩ : ∃ t, Lib.itoa y3 = t := ⟨_, rfl⟩
        obtain ⟨t3, z3⟩ : ∃ t, prT y1 y2 = t := ⟨_, rfl⟩
        simp only [z1, z2, z3] at hc1 hc2 hc3 q1 q2 q3 hh
        have hle1 : ¬ 9223372036854775807 < 8 + t1.length := by omega
        have hle2 : ¬ 9223372036854775807 < 8 + t1.length + 8 := by omega
        have hle3 : ¬ 9223372036854775807 < 8 + t1.length + 8 + t2.length := by omega
        have hle4 : ¬ 9223372036854775807 < 8 + t1.length + 8 + t2.length + 7 := by omega
        have hle5 : ¬ 9223372036854775807 < 8 + t1.length + 8 + t2.length + 7 + t3.length := by omega
        have hle6 : ¬ 9223372036854775807 < 8 + t1.length + 8 + t2.length + 7 + t3.length + 4 := by omega
        have hhl : (anH a).length ≤ 200 := by rw [hh]; simp only [List.length_append]; show 8 + t1.length + 8 + t2.length + 7 + t3.length + 4 ≤ 200; omega
        have hinsn := Lib.hid (hins.keeps hkn.out)
        have hiok : Hid (∀ x ∈ a.ins, T3ok x) := Lib.hid (fun x hx => ⟨(hao.ins x hx).1, (hao.ins x hx).2.1⟩)
        replace hc1 := Lib.hid hc1
        replace hc2 := Lib.hid hc2
        replace hc3 := Lib.hid hc3
        replace hst := Lib.hid hst
        replace ha := Lib.hid ha
        replace hh := Lib.hid hh
        replace hta := Lib.hid hta
        replace hhl := Lib.hid hhl
        replace hao := Lib.hid hao
        clear he hy hins z1 z2 z3 r0 r1 r2 r3 r4 r5
        go_upto_region 7 with fail
        clear g0 g1 g2 g3 g4 g5 g6 g7
        generalize (wr.alloc (.cells #[.int .i64 y0, .int .i64 y1, .int .u64 y2, .int .i64 y3, .bool y4, .bool y5, .int .i64 y6, .slice y7 y8 y9] tA)) = WA at *
        obtain ⟨X, hX⟩ : ∃ X, wr.heap.size = X := ⟨_, rfl⟩
        rw [hX] at hbA ⊢
        replace hX := Lib.hid hX
        obtain ⟨g0, g1, g2, g3, g4, g5, g6, g7, gf, gl⟩ := cl8 hbA.out
        have hkA9 := Lib.hid (hkw.out.trans hkn.out)
        refine Free.wp_region_chain (fun i => i == 2 || i == 7 || i == 14) (fun i => true) (fun _ _ => False) (by kernel_rfl) (by kernel_rfl) (by kernel_rfl) ?_
        (repeat (first | (apply Free.cw_pure rfl rfl; (intro w'; go_simp <;> exact rfl); go_frame) | (apply Free.cw_steady rfl rfl rfl; (intro w' hS; have q0 := Free.sx_cell hS g0 (fun _ _ hT => hT); have q1 := Free.sx_cell hS g1 (fun _ _ hT => hT); have q2 := Free.sx_cell hS g2 (fun _ _ hT => hT); have q3 := Free.sx_cell hS g3 (fun _ _ hT => hT); go_simp <;> exact rfl); go_frame) | (refine Free.cw_skip rfl ?_; go_frame)))
        refine Free.cw_loud rfl rfl (fun K hK => ?_)
        go_wp2_with fail
        refine (hc1.out WA.drew hkA9.out.drew).mono ?_
        rintro e w2 ⟨rfl, hk2⟩
        refine hK _ _ rfl (Free.KeepsP.of hk2 (by simp)) ?_
        clear hK K
        have hd2 := Lib.hid ((Keeps.refl [] WA).drew.trans hk2)
        clear hk2
        unfold bstr
        (repeat (first | (apply Free.cw_pure rfl rfl; (intro w'; go_simp <;> exact rfl); go_frame) | (apply Free.cw_steady rfl rfl rfl; (intro w' hS; have q0 := Free.sx_cell hS g0 (fun _ _ hT => hT); have q1 := Free.sx_cell hS g1 (fun _ _ hT => hT); have q2 := Free.sx_cell hS g2 (fun _ _ hT => hT); have q3 := Free.sx_cell hS g3 (fun _ _ hT => hT); go_simp <;> exact rfl); go_frame) | (refine Free.cw_skip rfl ?_; go_frame)))
        refine Free.cw_loud rfl rfl (fun K hK => ?_)
        go_wp2_with fail
        refine (hc2.out w2 (hkA9.out.trans hd2.out)).mono ?_
        rintro e w3 ⟨rfl, hk2⟩
        refine hK _ _ rfl (Free.KeepsP.of hk2 (by simp)) ?_
        clear hK K
        replace hd2 := Lib.hid (hd2.out.trans hk2)
        clear hk2
        unfold bstr
        (repeat (first | (apply Free.cw_pure rfl rfl; (intro w'; go_simp <;> exact rfl); go_frame) | (apply Free.cw_steady rfl rfl rfl; (intro w' hS; have q0 := Free.sx_cell hS g0 (fun _ _ hT => hT); have q1 := Free.sx_cell hS g1 (fun _ _ hT => hT); have q2 := Free.sx_cell hS g2 (fun _ _ hT => hT); have q3 := Free.sx_cell hS g3 (fun _ _ hT => hT); go_simp <;> exact rfl); go_frame) | (refine Free.cw_skip rfl ?_; go_frame)))
        refine Free.cw_loud rfl rfl (fun K hK => ?_)
        go_wp2_with fail
        refine (hc3.out w3 (hkA9.out.trans hd2.out)).mono ?_
        rintro e w4 ⟨rfl, hk2⟩
        refine hK _ _ rfl (Free.KeepsP.of hk2 (by simp)) ?_
        clear hK K
        replace hd2 := Lib.hid (hd2.out.trans hk2)
        clear hk2
        unfold bstr
        (repeat (first | (apply Free.cw_pure rfl rfl; (intro w'; go_simp <;> exact rfl); go_frame) | (apply Free.cw_steady rfl rfl rfl; (intro w' hS; have q0 := Free.sx_cell hS g0 (fun _ _ hT => hT); have q1 := Free.sx_cell hS g1 (fun _ _ hT => hT); have q2 := Free.sx_cell hS g2 (fun _ _ hT => hT); have q3 := Free.sx_cell hS g3 (fun _ _ hT => hT); go_simp <;> exact rfl); go_frame) | (refine Free.cw_skip rfl ?_; go_frame)))
        have hval : Value.string ({ data := #[109, 97, 99, 104, 105, 110, 101, 32] } ++ { data := t1.toArray } ++ { data := #[44, 32, 101, 112, 111, 99, 104, 32] } ++ { data := t2.toArray } ++ { data := #[58, 32, 115, 116, 117, 98, 32] } ++ { data := t3.toArray } ++ { data := #[32, 105, 115, 32] }) = .string { data := (anH a).toArray } := by
          rw [hh.out]
          show Value.string ({ data := wMa.toArray } ++ { data := t1.toArray } ++ { data := wEp.toArray } ++ { data := t2.toArray } ++ { data := wSt.toArray } ++ { data := t3.toArray } ++ { data := wIs.toArray }) = _
          rw [bs_add, bs_add, bs_add, bs_add, bs_add, bs_add]
        rw [hval]
        obtain ⟨hd, ehd⟩ : ∃ l, anH a = l := ⟨_, rfl⟩
        rw [ehd] at hta hhl ⊢
        have hx4 := Lib.hid ((hd2.out.block _ (lt_of_blk hbA.out) (by simp)).trans hbA.out)
        have hins4 := Lib.hid (hinsn.out.keeps hd2.out)
        have hk4 := Lib.hid (hkA9.out.trans hd2.out)
        clear hval g0 g1 g2 g3 g4 g5 g6 g7 gf gl hle1 hle2 hle3 hle4 hle5 hle6 hc1 hc2 hc3 hh q1 q2 q3
        obtain ⟨g0, g1, g2, g3, g4, g5, g6, g7, gf, gl⟩ := cl8 hx4.out
        refine Free.cw_nil ?_
        have hlu : ¬ 9223372036854775807 < hd.length + 7 := by have := hhl.out; omega
        have hlr : ¬ 9223372036854775807 < hd.length + 6 := by have := hhl.out; omega
        replace ehd := Lib.hid ehd
        by_cases b4 : y4 = false
        · subst b4
          have hv : Value.string ({ data := hd.toArray } ++ { data := #[117, 110, 107, 110, 111, 119, 110] }) = bstr (anT a) := by
            rw [hta.out, if_pos rfl]
            show Value.string ({ data := hd.toArray } ++ { data := wUn.toArray }) = _
            rw [bs_add]
            rfl
          replace hv := Lib.hid hv
          have hmade := Lib.hid (Sh.R.made shS w4 [anT a] #[Value.string ({ data := hd.toArray } ++ { data := #[117, 110, 107, 110, 111, 119, 110] })] 9 (by show [Value.string ({ data := hd.toArray } ++ { data := #[117, 110, 107, 110, 111, 119, 110] })] = [bstr _]; rw [hv.out]) (by simp [maxLen]) 1 rfl)
          have hkr1 := (hkn.out.trans hd2.out).alloc (.cells #[Value.string ({ data := hd.toArray } ++ { data := #[117, 110, 107, 110, 111, 119, 110] })] 9)
          have hO1 := Lib.hid (hO.out.keeps hkr1)
          have hk9 := Lib.hid (hkw.out.trans hkr1)
          have hA9 := Lib.hid ((hkr1.block _ (lt_of_blk hAk.out) (by simp)).trans hAk.out)
          have hs9 : B + 1 ≤ (w4.alloc (.cells #[Value.string ({ data := hd.toArray } ++ { data := #[117, 110, 107, 110, 111, 119, 110] })] 9)).heap.size := by have h1 := lt_of_blk hA9.out; omega
          clear hkr1
          go_wp2_with (first
            | (at_builtin; (refine Sh.wpl_app shS (B + 1) infoStr rfl Tryz.underlying40 (.slice oa (k + 1) oc) (.slice (some ⟨w4.heap.size, 0, none⟩) 1 1) ([h0] ++ (c.an.take k).map anT) [anT a] rfl _ _ rfl rfl rfl ?hA ?hB ?hC ?hD ?_); (case hA => exact hO1.out); (case hB => exact hmade.out); (case hC => rw [hLk.out]; simp only [List.length_singleton]; omega); (case hD => exact hs9); intro v5 w5 hO5 hG5; have hk5 := hk9.out.fresh hG5.keepsO (fun b hb => .inr (by have h2 := hO1.out.ge b (by simpa using hb); have h5 := hB.out; omega)); have hA5 := (hG5.keepsO.block B (lt_of_blk hA9.out) (fun hb => by have h2 := hO1.out.ge B (by simpa using hb); omega)).trans hA9.out; rw [← hst.out] at hO5; replace hO5 := Lib.hid hO5; replace hk5 := Lib.hid hk5; replace hA5 := Lib.hid hA5; clear hG5)
            | fail)
          go_roundw
          case rel => exact ⟨k + 1, rfl, by omega, hO5, hA5, hk5⟩
          case measure => simp [intOf]; omega
        · have b4' : y4 = true := by cases y4 <;> simp_all
          subst b4'
          by_cases b5 : y5 = true
          · subst b5
            have hv : Value.string ({ data := hd.toArray } ++ { data := #[114, 111, 111, 116, 101, 100] }) = bstr (anT a) := by
              rw [hta.out, if_neg (by decide), if_pos rfl]
              show Value.string ({ data := hd.toArray } ++ { data := wRo.toArray }) = _
              rw [bs_add]
              rfl
            replace hv := Lib.hid hv
            have hmade := Lib.hid (Sh.R.made shS w4 [anT a] #[Value.string ({ data := hd.toArray } ++ { data := #[114, 111, 111, 116, 101, 100] })] 9 (by show [Value.string ({ data := hd.toArray } ++ { data := #[114, 111, 111, 116, 101, 100] })] = [bstr _]; rw [hv.out]) (by simp [maxLen]) 1 rfl)
            have hkr1 := (hkn.out.trans hd2.out).alloc (.cells #[Value.string ({ data := hd.toArray } ++ { data := #[114, 111, 111, 116, 101, 100] })] 9)
            have hO1 := Lib.hid (hO.out.keeps hkr1)
            have hk9 := Lib.hid (hkw.out.trans hkr1)
            have hA9 := Lib.hid ((hkr1.block _ (lt_of_blk hAk.out) (by simp)).trans hAk.out)
            have hs9 : B + 1 ≤ (w4.alloc (.cells #[Value.string ({ data := hd.toArray } ++ { data := #[114, 111, 111, 116, 101, 100] })] 9)).heap.size := by have h1 := lt_of_blk hA9.out; omega
            clear hkr1
            go_wp2_with (first
              | (at_builtin; (refine Sh.wpl_app shS (B + 1) infoStr rfl Tryz.underlying40 (.slice oa (k + 1) oc) (.slice (some ⟨w4.heap.size, 0, none⟩) 1 1) ([h0] ++ (c.an.take k).map anT) [anT a] rfl _ _ rfl rfl rfl ?hA ?hB ?hC ?hD ?_); (case hA => exact hO1.out); (case hB => exact hmade.out); (case hC => rw [hLk.out]; simp only [List.length_singleton]; omega); (case hD => exact hs9); intro v5 w5 hO5 hG5; have hk5 := hk9.out.fresh hG5.keepsO (fun b hb => .inr (by have h2 := hO1.out.ge b (by simpa using hb); have h5 := hB.out; omega)); have hA5 := (hG5.keepsO.block B (lt_of_blk hA9.out) (fun hb => by have h2 := hO1.out.ge B (by simpa using hb); omega)).trans hA9.out; rw [← hst.out] at hO5; replace hO5 := Lib.hid hO5; replace hk5 := Lib.hid hk5; replace hA5 := Lib.hid hA5; clear hG5)
              | fail)
            go_roundw
            case rel => exact ⟨k + 1, rfl, by omega, hO5, hA5, hk5⟩
            case measure => simp [intOf]; omega
          · have b5' : y5 = false := by cases y5 <;> simp_all
            subst b5'
            have hcH := Lib.hid (holders_c w4 _ a.ins hins4.out hai hiok.out (ht.out.keeps hk4.out))
            have hol := hoT_len a.ins hiok.out hai
            obtain ⟨ho, eho⟩ : ∃ l, hoT a.ins = l := ⟨_, rfl⟩
            rw [eho] at hcH hol hta
            have hv : Value.string ({ data := hd.toArray } ++ ({ data := #[104, 101, 108, 100, 32, 98, 121, 32] } ++ { data := ho.toArray })) = bstr (anT a) := by
              rw [hta.out, if_neg (by decide), if_neg (by decide)]
              show Value.string ({ data := hd.toArray } ++ ({ data := wHe.toArray } ++ { data := ho.toArray })) = _
              rw [bs_add, bs_add]
              rfl
            replace hv := Lib.hid hv
            have hl1 : ¬ 9223372036854775807 < 8 + ho.length := by omega
            have hl2 : ¬ 9223372036854775807 < hd.length + (8 + ho.length) := by have := hhl.out; omega
            replace eho := Lib.hid eho
            go_wp2_with fail
            refine hcH.out.mono ?_
            rintro e w6 ⟨rfl, hk6⟩
            replace hd2 := Lib.hid (hd2.out.trans hk6)
            clear hk6 hcH g0 g1 g2 g3 g4 g5 g6 g7 gf gl
            unfold bstr
            have hmade := Lib.hid (Sh.R.made shS w6 [anT a] #[Value.string ({ data := hd.toArray } ++ ({ data := #[104, 101, 108, 100, 32, 98, 121, 32] } ++ { data := ho.toArray }))] 9 (by show [Value.string ({ data := hd.toArray } ++ ({ data := #[104, 101, 108, 100, 32, 98, 121, 32] } ++ { data := ho.toArray }))] = [bstr _]; rw [hv.out]) (by simp [maxLen]) 1 rfl)
            have hkr1 := (hkn.out.trans hd2.out).alloc (.cells #[Value.string ({ data := hd.toArray } ++ ({ data := #[104, 101, 108, 100, 32, 98, 121, 32] } ++ { data := ho.toArray }))] 9)
            have hO1 := Lib.hid (hO.out.keeps hkr1)
            have hk9 := Lib.hid (hkw.out.trans hkr1)
            have hA9 := Lib.hid ((hkr1.block _ (lt_of_blk hAk.out) (by simp)).trans hAk.out)
            have hs9 : B + 1 ≤ (w6.alloc (.cells #[Value.string ({ data := hd.toArray } ++ ({ data := #[104, 101, 108, 100, 32, 98, 121, 32] } ++ { data := ho.toArray }))] 9)).heap.size := by have h1 := lt_of_blk hA9.out; omega
            clear hkr1
            go_wp2_with (first
              | (at_builtin; (refine Sh.wpl_app shS (B + 1) infoStr rfl Tryz.underlying40 (.slice oa (k + 1) oc) (.slice (some ⟨w6.heap.size, 0, none⟩) 1 1) ([h0] ++ (c.an.take k).map anT) [anT a] rfl _ _ rfl rfl rfl ?hA ?hB ?hC ?hD ?_); (case hA => exact hO1.out); (case hB => exact hmade.out); (case hC => rw [hLk.out]; simp only [List.length_singleton]; omega); (case hD => exact hs9); intro v5 w5 hO5 hG5; have hk5 := hk9.out.fresh hG5.keepsO (fun b hb => .inr (by have h2 := hO1.out.ge b (by simpa using hb); have h5 := hB.out; omega)); have hA5 := (hG5.keepsO.block B (lt_of_blk hA9.out) (fun hb => by have h2 := hO1.out.ge B (by simpa using hb); omega)).trans hA9.out; rw [← hst.out] at hO5; replace hO5 := Lib.hid hO5; replace hk5 := Lib.hid hk5; replace hA5 := Lib.hid hA5; clear hG5)
              | fail)
            go_roundw
            case rel => exact ⟨k + 1, rfl, by omega, hO5, hA5, hk5⟩
            case measure => simp [intOf]; omega
      · have hlt2 : ¬ ((k : Int) < x6) := by omega
        have hlt3 : decide ((k : Int) < (x6 : Int)) = false := by simp; omega
        have hkN : k = c.an.length := by have := e1.out; omega
        have e : [h0] ++ (c.an.take k).map anT = [h0] ++ c.an.map anT := by rw [hkN, List.take_length]
        rw [e] at hO
        replace hkN := Lib.hid hkN
        replace e := Lib.hid e
        have hcs := Lib.hid (hcS.out wr hkw.out)
        obtain ⟨i0, i1, i2, i3, i4, i5, i6, if', il⟩ := cl7 hAk.out
        go_wp2_with fail
        refine hcs.out.mono ?_
        rintro e w2 ⟨v2, rfl, hR2, hk2⟩
        obtain ⟨sa, sc, rfl, hs1', hs2', _⟩ := hR2.form
        have hn64 : W64 ((scL c.an).length : Int) := w64_iff.2 ⟨by omega, by unfold maxLen at hs2'; omega⟩
        have hsm : (scL c.an).length ≤ 9223372036854775807 := by unfold maxLen at hs2'; omega
        have hci := itoa_c w2 ((scL c.an).length : Int) hn64 (ht.out.keeps (hkw.out.trans hk2))
        have hcl := itoa_len ((scL c.an).length : Int) hn64
        have hen : enT (scL c.an).length = wCo ++ Lib.itoa ((scL c.an).length : Int) ++ wSc := rfl
        obtain ⟨t9, z9⟩ : ∃ t, Lib.itoa ((scL c.an).length : Int) = t := ⟨_, rfl⟩
        rw [z9] at hci hcl hen
        obtain ⟨M9, hM9⟩ : ∃ M, (scL c.an).length = M := ⟨_, rfl⟩
        rw [hM9] at hci hsm hen ⊢
        have hfin : fmT c = ([h0] ++ c.an.map anT) ++ [enT M9] := by rw [hfm.out, ← hM9, ← eh0.out, him.out, his.out, hs0.out, hs1.out]
        have hq1 : ¬ 9223372036854775807 < 11 + t9.length := by omega
        have hq2 : ¬ 9223372036854775807 < 11 + t9.length + 7 := by omega
        replace hci := Lib.hid hci
        replace hfin := Lib.hid hfin
        replace hen := Lib.hid hen
        replace hM9 := Lib.hid hM9
        replace hk2 := Lib.hid hk2
        clear hR2 hcs z9 hs1' hs2' hn64 i0 i1 i2 i3 i4 i5 i6 if' il
        go_wp2_with fail
        refine hci.out.mono ?_
        rintro e w3 ⟨rfl, hk3⟩
        replace hk2 := Lib.hid (hk2.out.trans hk3)
        clear hk3 hci
        unfold bstr
        have hv : Value.string ({ data := #[99, 111, 110, 100, 101, 109, 110, 101, 100, 58, 32] } ++ { data := t9.toArray } ++ { data := #[32, 115, 99, 105, 111, 110, 115] }) = bstr (enT M9) := by
          rw [hen.out]
          show Value.string ({ data := wCo.toArray } ++ { data := t9.toArray } ++ { data := wSc.toArray }) = _
          rw [bs_add, bs_add]
          rfl
        replace hv := Lib.hid hv
        have hmade := Lib.hid (Sh.R.made shS w3 [enT M9] #[Value.string ({ data := #[99, 111, 110, 100, 101, 109, 110, 101, 100, 58, 32] } ++ { data := t9.toArray } ++ { data := #[32, 115, 99, 105, 111, 110, 115] })] 9 (by show [Value.string ({ data := #[99, 111, 110, 100, 101, 109, 110, 101, 100, 58, 32] } ++ { data := t9.toArray } ++ { data := #[32, 115, 99, 105, 111, 110, 115] })] = [bstr _]; rw [hv.out]) (by simp [maxLen]) 1 rfl)
        have hkr1 := hk2.out.alloc (.cells #[Value.string ({ data := #[99, 111, 110, 100, 101, 109, 110, 101, 100, 58, 32] } ++ { data := t9.toArray } ++ { data := #[32, 115, 99, 105, 111, 110, 115] })] 9)
        have hO1 := Lib.hid (hO.out.keeps hkr1)
        have hk9 := Lib.hid (hkw.out.trans hkr1)
        have hA9 := Lib.hid ((hkr1.block _ (lt_of_blk hAk.out) (by simp)).trans hAk.out)
        have hs9 : B + 1 ≤ (w3.alloc (.cells #[Value.string ({ data := #[99, 111, 110, 100, 101, 109, 110, 101, 100, 58, 32] } ++ { data := t9.toArray } ++ { data := #[32, 115, 99, 105, 111, 110, 115] })] 9)).heap.size := by have h1 := lt_of_blk hA9.out; omega
        have hLn : Hid (([h0] ++ c.an.map anT).length = k + 1) := Lib.hid (by rw [← e.out]; exact hLk.out)
        clear hkr1
        go_wp2_with (first
          | (at_builtin; (refine Sh.wpl_app shS (B + 1) infoStr rfl Tryz.underlying40 (.slice oa (k + 1) oc) (.slice (some ⟨w3.heap.size, 0, none⟩) 1 1) ([h0] ++ c.an.map anT) [enT M9] rfl _ _ rfl rfl rfl ?hA ?hB ?hC ?hD ?_); (case hA => exact hO1.out); (case hB => exact hmade.out); (case hC => rw [hLn.out]; simp only [List.length_singleton]; omega); (case hD => exact hs9); intro v5 w5 hO5 hG5; have hk5 := hk9.out.fresh hG5.keepsO (fun b hb => .inr (by have h2 := hO1.out.ge b (by simpa using hb); have h5 := hB.out; omega)); rw [← hfin.out, hfm.out] at hO5; replace hO5 := Lib.hid hO5; replace hk5 := Lib.hid hk5; clear hG5)
          | fail)
        go_ret
        exact ⟨_, rfl, by have h9 := hO5.out.r; rw [← him.out, ← his.out, ← hs0.out, ← hs1.out] at h9; exact h9, hk5.out⟩
  · have hwf' : wf c = false := by simpa using hwf
    have hfm : fmT c = [wNo] := by unfold fmT; rw [if_neg hwf]
    unfold FmPost
    rw [hfm]
    rw [hwf'] at hcF
    clear h hfit hf hft hfi hfs him his hs0 hs1 hfm hwf hwf' hcS
    go_enter Tryz.func13, Tryz.ntmps13
    go_upto_region 1 with fail
    generalize (w.alloc (.cells #[.int .i64 x0, .int .i64 x1, .int .i64 x2, .int .u64 x3, .int .i64 x4, .slice x5 x6 x7, .slice x8 x9 x10] tCt)) = W at *
    obtain ⟨B, hB⟩ : ∃ B, w.heap.size = B := ⟨_, rfl⟩
    rw [hB] at hA ⊢
    replace hB := Lib.hid hB
    have hcf := Lib.hid (hcF.out W hkA.out)
    obtain ⟨i0, i1, i2, i3, i4, i5, i6, if', il⟩ := cl7 hA.out
    go_wp2_with fail
    refine hcf.out.mono ?_
    rintro e w1 ⟨rfl, hk1⟩
    have hkw1 := Lib.hid (hkA.out.trans hk1)
    clear i0 i1 i2 i3 i4 i5 i6 if' il hk1 hcf hcF hA
    go_wp2
    go_ret
    exact ⟨_, rfl, Sh.R.made shS w1 [wNo] #[bstr wNo] 9 rfl (by simp [maxLen]) 1 rfl, hkw1.out.alloc _⟩
end Go.Proofs.YtiplgpefapeapaaGreatDoor

namespace Go.Proofs.YtiplgpefapeapaaGreatDoor
open Go.RowKit

set_option maxRecDepth 100000 in
set_option maxHeartbeats 16000000 in
theorem wfR_c (w : World) (x : CtV) (c : Ct) (h : CtW w x c) (hf : c.Few) :
    Calls Tryz.prog 31 #[ctV x] w fun e w' => e = .returned (.bool (wf c)) ∧ Keeps [] w w' := by
  have him := h.im
  have his := h.is
  have hs0 := h.s0
  have han := h.an
  have hcl := h.cl
  obtain ⟨x0, x1, x2, x3, x4, ⟨x5, x6, x7⟩, ⟨x8, x9, x10⟩⟩ := x
  simp only [slv] at han hcl
  simp only at him his hs0
  obtain ⟨_, _, e1, hla, hca⟩ := han.form
  obtain ⟨_, _, e2, hlc, hcc⟩ := hcl.form
  simp only [Value.slice.injEq] at e1 e2
  obtain ⟨-, e1, -⟩ := e1
  obtain ⟨-, e2, -⟩ := e2
  have hx6 : x6 ≤ 1000 := by have := hf.an; omega
  have hx9 : x9 ≤ 1000 := by have := hf.cl; omega
  have hA := heap_alloc_new w (.cells #[.int .i64 x0, .int .i64 x1, .int .i64 x2, .int .u64 x3, .int .i64 x4, .slice x5 x6 x7, .slice x8 x9 x10] tCt)
  have hkA := (Keeps.refl [] w).alloc (.cells #[.int .i64 x0, .int .i64 x1, .int .i64 x2, .int .u64 x3, .int .i64 x4, .slice x5 x6 x7, .slice x8 x9 x10] tCt)
  obtain ⟨W, hW⟩ : ∃ W, w.alloc (.cells #[.int .i64 x0, .int .i64 x1, .int .i64 x2, .int .u64 x3, .int .i64 x4, .slice x5 x6 x7, .slice x8 x9 x10] tCt) = W := ⟨_, rfl⟩
  obtain ⟨B, hB⟩ : ∃ B, w.heap.size = B := ⟨_, rfl⟩
  rw [hW] at hA hkA
  rw [hB] at hA
  obtain ⟨r, hr⟩ : ∃ r, wf c = r := ⟨_, rfl⟩
  rw [hr]
  unfold wf at hr
  rw [← him, ← his, ← hs0] at hr
  obtain ⟨m1, hm1⟩ : ∃ b, mach x0 = b := ⟨_, rfl⟩
  obtain ⟨m2, hm2⟩ : ∃ b, mach x2 = b := ⟨_, rfl⟩
  have hc1 := fun W => machR_c x0 W
  have hc2 := fun W => machR_c x2 W
  rw [hm1] at hc1 hr
  rw [hm2] at hc2 hr
  replace hc1 := Lib.hid hc1
  replace hc2 := Lib.hid hc2
  replace hr := Lib.hid hr
  replace han := Lib.hid han
  replace hcl := Lib.hid hcl
  replace hkA := Lib.hid hkA
  replace hW := Lib.hid hW
  replace hB := Lib.hid hB
  replace e1 := Lib.hid e1
  replace e2 := Lib.hid e2
  replace hf := Lib.hid hf
  replace hA := Lib.hid hA
  clear h hm1 hm2 him his hs0 hla hlc hca hcc
  simp only [ctV, slv]
  go_enter Tryz.func31, Tryz.ntmps31
  go_upto_region 1 with fail
  rw [hW.out, hB.out]
  obtain ⟨i0, i1, i2, i3, i4, i5, i6, if', il⟩ := cl7 hA.out
  go_wp2_with fail
  refine (hc1.out _).mono ?_
  rintro e w' ⟨rfl, hw⟩
  obtain rfl := hw
  clear hc1
  cases m1 with
  | false =>
    have hd : false = r := by rw [← hr.out]; simp
    replace hd := Lib.hid hd
    go_wp2
    go_ret
    exact ⟨by rw [← hd.out]; rfl, hkA.out⟩
  | true =>
  by_cases h1 : x1 < 1
  · have hd : false = r := by
      rw [← hr.out]
      have : decide (1 ≤ x1) = false := by simpa using h1
      rw [this]; simp
    replace hd := Lib.hid hd
    go_wp2
    go_ret
    exact ⟨by rw [← hd.out]; rfl, hkA.out⟩
  have h1d : decide (x1 < 1) = false := by simpa using h1
  have h1e : decide (1 ≤ x1) = true := by simpa using h1
  rw [h1e] at hr
  go_wp2_with fail
  refine (hc2.out _).mono ?_
  rintro e w' ⟨rfl, hw⟩
  obtain rfl := hw
  clear hc2
  cases m2 with
  | false =>
    have hd : false = r := by rw [← hr.out]; simp
    replace hd := Lib.hid hd
    go_wp2
    go_ret
    exact ⟨by rw [← hd.out]; rfl, hkA.out⟩
  | true =>
  have hl6 : decide ((1024 : Int) < x6) = false := by simp; omega
  simp only [Bool.and_self, Bool.true_and] at hr
  clear h1 h1d h1e
  go_wp2
  go_loopw [3] (fun i wr => ∃ k : Nat, i = .int .i64 k ∧ k ≤ x6 ∧ Hid (∀ j (hj : j < c.an.length), j < k → ansOk c.an[j] = true) ∧ Hid (∀ j (hj : j + 1 < c.an.length), j + 1 < k → qlt (c.an[j]'(by omega)).q c.an[j + 1].q) ∧ Hid (Keeps [] W wr)) (fun i _ => x6 - (intOf i).toNat)
  case atStart => exact ⟨0, rfl, by omega, Lib.hid (fun _ _ h => by omega), Lib.hid (fun _ _ h => by omega), Lib.hid (Keeps.refl _ _)⟩
  case round =>
    clear i0 i1 i2 i3 i4 i5 i6 if' il
    obtain ⟨k, rfl, hk, hno, hin, hkw⟩ := hrel
    have hAr := (hkw.out.block _ (lt_of_blk hA.out) (by simp)).trans hA.out
    obtain ⟨i0, i1, i2, i3, i4, i5, i6, if', il⟩ := cl7 hAr
    have hkF := Lib.hid (hkA.out.trans hkw.out)
    by_cases hlt : k < x6
    · have hlt2 : (k : Int) < x6 := by omega
      have hkl : k < c.an.length := by rw [← e1.out]; exact hlt
      obtain ⟨g, o, c', y, hv, hy, he⟩ := (han.out.keeps hkF.out).elem hkl
      rw [← e1.out] at hv
      cases hv
      have hans := fun (W : World) (hk : Keeps [] wr W) => answerR_c W y _ (InR.keep hy hk (by simp)) (by have := hf.out.ins _ (List.getElem_mem hkl); omega)
      obtain ⟨y0, y1, y2, y3, y4, y5, y6, y7, y8, y9⟩ := y
      have hyq : AnV.q ⟨y0, y1, y2, y3, y4, y5, y6, y7, y8, y9⟩ = c.an[k].q := by
        have hm := hy.m
        have hw := hy.ow
        have hn := hy.n
        unfold AnV.q Ans.q
        rw [hm, hw, hn]
      have g0 := he 0 _ rfl
      have g1 := he 1 _ rfl
      have g2 := he 2 _ rfl
      have g3 := he 3 _ rfl
      have g4 := he 4 _ rfl
      have g5 := he 5 _ rfl
      have g6 := he 6 _ rfl
      have g7 := he 7 _ rfl
      simp only [AnV.v, Nat.add_zero] at g0 g1 g2 g3 g4 g5 g6 g7
      simp only [aV, AnV.v] at hans
      obtain ⟨b, hb⟩ : ∃ b, ansOk c.an[k] = b := ⟨_, rfl⟩
      rw [hb] at hans
      replace hans := Lib.hid hans
      replace hb := Lib.hid hb
      replace hyq := Lib.hid hyq
      clear he hy
      cases b with
      | false =>
        have hd : false = r := by rw [← hr.out, all_no hkl hb.out]; simp
        replace hd := Lib.hid hd
        go_wp2
        refine Free.wp_region_chain (fun i => i == 5 || i == 22) (fun i => true) (fun _ _ => False) (by kernel_rfl) (by kernel_rfl) (by kernel_rfl) ?_
        (repeat (first | (apply Free.cw_pureW rfl rfl; (intro w'; go_simp <;> exact rfl); go_frame) | (apply Free.cw_steadyW rfl rfl rfl; (intro w' hS; have q0 := Free.sx_cell hS i5 (fun _ _ hT => hT); have q1 := Free.sx_cell hS g0 (fun _ _ hT => hT); have q2 := Free.sx_cell hS g1 (fun _ _ hT => hT); have q3 := Free.sx_cell hS g2 (fun _ _ hT => hT); have q4 := Free.sx_cell hS g3 (fun _ _ hT => hT); have q5 := Free.sx_cell hS g4 (fun _ _ hT => hT); have q6 := Free.sx_cell hS g5 (fun _ _ hT => hT); have q7 := Free.sx_cell hS g6 (fun _ _ hT => hT); have q8 := Free.sx_cell hS g7 (fun _ _ hT => hT); go_simp <;> exact rfl); go_frame) | (refine Free.cw_skip rfl ?_; go_frame)))
        refine Free.cw_loudW rfl rfl (fun K hK => ?_)
        go_wp2_with fail
        refine (hans.out _ (Keeps.refl [] wr).drew).mono ?_
        rintro e w5 ⟨rfl, hk5⟩
        refine hK _ _ rfl (Free.KeepsP.of hk5 (by simp)) ?_
        clear hK K hans
        (repeat (first | (apply Free.cw_pureW rfl rfl; (intro w'; go_simp <;> exact rfl); go_frame) | (apply Free.cw_steadyW rfl rfl rfl; (intro w' hS; have q0 := Free.sx_cell hS i5 (fun _ _ hT => hT); have q1 := Free.sx_cell hS g0 (fun _ _ hT => hT); have q2 := Free.sx_cell hS g1 (fun _ _ hT => hT); have q3 := Free.sx_cell hS g2 (fun _ _ hT => hT); have q4 := Free.sx_cell hS g3 (fun _ _ hT => hT); have q5 := Free.sx_cell hS g4 (fun _ _ hT => hT); have q6 := Free.sx_cell hS g5 (fun _ _ hT => hT); have q7 := Free.sx_cell hS g6 (fun _ _ hT => hT); have q8 := Free.sx_cell hS g7 (fun _ _ hT => hT); go_simp <;> exact rfl); go_frame) | (refine Free.cw_skip rfl ?_; go_frame)))
        refine Free.cw_nil ?_
        have hkz := Lib.hid (hkF.out.trans (((Keeps.refl [] wr).drew).trans hk5))
        go_wp2
        go_ret
        exact ⟨by rw [← hd.out]; rfl, hkz.out⟩
      | true =>
      have hno2 : Hid (∀ j (hj : j < c.an.length), j < k + 1 → ansOk c.an[j] = true) := Lib.hid (fun j hj hjk => by
        by_cases e : j = k
        · subst e; exact hb.out
        · exact hno.out j hj (by omega))
      by_cases hk0 : k = 0
      · have hkz0 : decide ((0 : Int) < (k : Int)) = false := by simp; omega
        have hkz1 : decide (0 < k) = false := by simp; omega
        have hin2 : Hid (∀ j (hj : j + 1 < c.an.length), j + 1 < k + 1 → qlt (c.an[j]'(by omega)).q c.an[j + 1].q) := Lib.hid (fun j hj hjk => by omega)
        replace hk0 := Lib.hid hk0
        go_wp2
        refine Free.wp_region_chain (fun i => i == 5 || i == 22) (fun i => true) (fun _ _ => False) (by kernel_rfl) (by kernel_rfl) (by kernel_rfl) ?_
        (repeat (first | (apply Free.cw_pureW rfl rfl; (intro w'; go_simp <;> exact rfl); go_frame) | (apply Free.cw_steadyW rfl rfl rfl; (intro w' hS; have q0 := Free.sx_cell hS i5 (fun _ _ hT => hT); have q1 := Free.sx_cell hS g0 (fun _ _ hT => hT); have q2 := Free.sx_cell hS g1 (fun _ _ hT => hT); have q3 := Free.sx_cell hS g2 (fun _ _ hT => hT); have q4 := Free.sx_cell hS g3 (fun _ _ hT => hT); have q5 := Free.sx_cell hS g4 (fun _ _ hT => hT); have q6 := Free.sx_cell hS g5 (fun _ _ hT => hT); have q7 := Free.sx_cell hS g6 (fun _ _ hT => hT); have q8 := Free.sx_cell hS g7 (fun _ _ hT => hT); go_simp <;> exact rfl); go_frame) | (refine Free.cw_skip rfl ?_; go_frame)))
        refine Free.cw_loudW rfl rfl (fun K hK => ?_)
        go_wp2_with fail
        refine (hans.out _ (Keeps.refl [] wr).drew).mono ?_
        rintro e w5 ⟨rfl, hk5⟩
        refine hK _ _ rfl (Free.KeepsP.of hk5 (by simp)) ?_
        clear hK K hans
        (repeat (first | (apply Free.cw_pureW rfl rfl; (intro w'; go_simp <;> exact rfl); go_frame) | (apply Free.cw_steadyW rfl rfl rfl; (intro w' hS; have q0 := Free.sx_cell hS i5 (fun _ _ hT => hT); have q1 := Free.sx_cell hS g0 (fun _ _ hT => hT); have q2 := Free.sx_cell hS g1 (fun _ _ hT => hT); have q3 := Free.sx_cell hS g2 (fun _ _ hT => hT); have q4 := Free.sx_cell hS g3 (fun _ _ hT => hT); have q5 := Free.sx_cell hS g4 (fun _ _ hT => hT); have q6 := Free.sx_cell hS g5 (fun _ _ hT => hT); have q7 := Free.sx_cell hS g6 (fun _ _ hT => hT); have q8 := Free.sx_cell hS g7 (fun _ _ hT => hT); go_simp <;> exact rfl); go_frame) | (refine Free.cw_skip rfl ?_; go_frame)))
        refine Free.cw_nil ?_
        have hkz := Lib.hid (hkw.out.trans (((Keeps.refl [] wr).drew).trans hk5))
        clear hk5
        go_wp2
        go_roundw
        case rel => exact ⟨k + 1, rfl, by omega, hno2, hin2, hkz⟩
        case measure => simp [intOf]; omega
      · have hkz0 : decide ((0 : Int) < (k : Int)) = true := by simp; omega
        have hkz1 : decide (0 < k) = true := by simp; omega
        obtain ⟨m, hm⟩ : ∃ m, k = m + 1 := ⟨k - 1, by omega⟩
        have hml : m < c.an.length := by omega
        have hmM : (m : Int) < x6 := by omega
        have hwm : IntKind.i64.wrap ((k : Int) - 1) = m := by rw [IntWalk.i64_in _ (by omega)]; omega
        obtain ⟨g2, o2, c2, z, hv2, hz, he2⟩ := (han.out.keeps hkF.out).elem hml
        rw [← e1.out] at hv2
        cases hv2
        obtain ⟨z0, z1, z2, z3, z4, z5, z6, z7, z8, z9⟩ := z
        have hzq : AnV.q ⟨z0, z1, z2, z3, z4, z5, z6, z7, z8, z9⟩ = c.an[m].q := by
          have hm := hz.m
          have hw := hz.ow
          have hn := hz.n
          unfold AnV.q Ans.q
          rw [hm, hw, hn]
        have f0 := he2 0 _ rfl
        have f1 := he2 1 _ rfl
        have f2 := he2 2 _ rfl
        have f3 := he2 3 _ rfl
        have f4 := he2 4 _ rfl
        have f5 := he2 5 _ rfl
        have f6 := he2 6 _ rfl
        have f7 := he2 7 _ rfl
        simp only [AnV.v, Nat.add_zero] at f0 f1 f2 f3 f4 f5 f6 f7
        have hbc := fun w => beforeR_c w ⟨z0, z1, z2, z3, z4, z5, z6, z7, z8, z9⟩ ⟨y0, y1, y2, y3, y4, y5, y6, y7, y8, y9⟩
        rw [hzq, hyq.out] at hbc
        simp only [aV, AnV.v] at hbc
        obtain ⟨d, hdd⟩ : ∃ d, decide (qlt c.an[m].q c.an[k].q) = d := ⟨_, rfl⟩
        rw [hdd] at hbc
        replace hbc := Lib.hid hbc
        replace hdd := Lib.hid hdd
        replace hm := Lib.hid hm
        replace hk0 := Lib.hid hk0
        replace hzq := Lib.hid hzq
        clear he2 hz
        go_wp2
        refine Free.wp_region_chain (fun i => i == 5 || i == 22) (fun i => true) (fun _ _ => False) (by kernel_rfl) (by kernel_rfl) (by kernel_rfl) ?_
        (repeat (first | (apply Free.cw_pureW rfl rfl; (intro w'; go_simp <;> exact rfl); go_frame) | (apply Free.cw_steadyW rfl rfl rfl; (intro w' hS; have q0 := Free.sx_cell hS i5 (fun _ _ hT => hT); have q1 := Free.sx_cell hS g0 (fun _ _ hT => hT); have q2 := Free.sx_cell hS g1 (fun _ _ hT => hT); have q3 := Free.sx_cell hS g2 (fun _ _ hT => hT); have q4 := Free.sx_cell hS g3 (fun _ _ hT => hT); have q5 := Free.sx_cell hS g4 (fun _ _ hT => hT); have q6 := Free.sx_cell hS g5 (fun _ _ hT => hT); have q7 := Free.sx_cell hS g6 (fun _ _ hT => hT); have q8 := Free.sx_cell hS g7 (fun _ _ hT => hT); have q9 := Free.sx_cell hS f0 (fun _ _ hT => hT); have q10 := Free.sx_cell hS f1 (fun _ _ hT => hT); have q11 := Free.sx_cell hS f2 (fun _ _ hT => hT); have q12 := Free.sx_cell hS f3 (fun _ _ hT => hT); have q13 := Free.sx_cell hS f4 (fun _ _ hT => hT); have q14 := Free.sx_cell hS f5 (fun _ _ hT => hT); have q15 := Free.sx_cell hS f6 (fun _ _ hT => hT); have q16 := Free.sx_cell hS f7 (fun _ _ hT => hT); go_simp <;> exact rfl); go_frame) | (refine Free.cw_skip rfl ?_; go_frame)))
        refine Free.cw_loudW rfl rfl (fun K hK => ?_)
        go_wp2_with fail
        refine (hans.out _ (Keeps.refl [] wr).drew).mono ?_
        rintro e w5 ⟨rfl, hk5⟩
        refine hK _ _ rfl (Free.KeepsP.of hk5 (by simp)) ?_
        clear hK K hans
        (repeat (first | (apply Free.cw_pureW rfl rfl; (intro w'; go_simp <;> exact rfl); go_frame) | (apply Free.cw_steadyW rfl rfl rfl; (intro w' hS; have q0 := Free.sx_cell hS i5 (fun _ _ hT => hT); have q1 := Free.sx_cell hS g0 (fun _ _ hT => hT); have q2 := Free.sx_cell hS g1 (fun _ _ hT => hT); have q3 := Free.sx_cell hS g2 (fun _ _ hT => hT); have q4 := Free.sx_cell hS g3 (fun _ _ hT => hT); have q5 := Free.sx_cell hS g4 (fun _ _ hT => hT); have q6 := Free.sx_cell hS g5 (fun _ _ hT => hT); have q7 := Free.sx_cell hS g6 (fun _ _ hT => hT); have q8 := Free.sx_cell hS g7 (fun _ _ hT => hT); have q9 := Free.sx_cell hS f0 (fun _ _ hT => hT); have q10 := Free.sx_cell hS f1 (fun _ _ hT => hT); have q11 := Free.sx_cell hS f2 (fun _ _ hT => hT); have q12 := Free.sx_cell hS f3 (fun _ _ hT => hT); have q13 := Free.sx_cell hS f4 (fun _ _ hT => hT); have q14 := Free.sx_cell hS f5 (fun _ _ hT => hT); have q15 := Free.sx_cell hS f6 (fun _ _ hT => hT); have q16 := Free.sx_cell hS f7 (fun _ _ hT => hT); go_simp <;> exact rfl); go_frame) | (refine Free.cw_skip rfl ?_; go_frame)))
        refine Free.cw_loudW rfl rfl (fun K hK => ?_)
        go_wp2_with fail
        refine (hbc.out _).mono ?_
        rintro e w6 ⟨rfl, hk6⟩
        refine hK _ _ rfl (Free.KeepsP.of hk6 (by simp)) ?_
        clear hK K hbc
        (repeat (apply Free.cw_pureW rfl rfl; (intro w'; go_simp <;> exact rfl); go_frame))
        refine Free.cw_nil ?_
        have hkz := Lib.hid (hkw.out.trans ((((Keeps.refl [] wr).drew).trans hk5).trans hk6))
        have hkz2 := Lib.hid (hkA.out.trans hkz.out)
        clear hk5 hk6
        cases d with
        | false =>
          have hd : false = r := by
            rw [← hr.out]
            have : incA c.an = false := Bool.eq_false_iff.2 (fun hi => of_decide_eq_false hdd.out (by
              have := incA_iff.1 hi m (by have := hm.out; omega)
              have e := hm.out
              subst e
              exact this))
            rw [this]; simp
          replace hd := Lib.hid hd
          go_wp2
          go_ret
          exact ⟨by rw [← hd.out]; rfl, hkz2.out⟩
        | true =>
          have hin2 : Hid (∀ j (hj : j + 1 < c.an.length), j + 1 < k + 1 → qlt (c.an[j]'(by omega)).q c.an[j + 1].q) := Lib.hid (fun j hj hjk => by
            by_cases e : j + 1 = k
            · have hjm : j = m := by have := hm.out; omega
              subst hjm
              have := of_decide_eq_true hdd.out
              simp only [e]
              exact this
            · exact hin.out j hj (by omega))
          go_wp2
          go_roundw
          case rel => exact ⟨k + 1, rfl, by omega, hno2, hin2, hkz⟩
          case measure => simp [intOf]; omega
    · have hlt2 : ¬ ((k : Int) < x6) := by omega
      have h1 : incA c.an = true := incA_iff.2 (fun j hj => hin.out j hj (by have := e1.out; omega))
      have h2 : c.an.all ansOk = true := all_take (fun j hj => hno.out j hj (by have := e1.out; omega))
      rw [h1, h2, Bool.true_and, Bool.and_true] at hr
      clear hno hin h1 h2
      go_wp2
      generalize wr = W2 at *
      go_loopw [4] (fun i wr => ∃ k : Nat, i = .int .i64 k ∧ k ≤ x9 ∧ Hid (∀ j (hj : j + 1 < c.cl.length), j + 1 < k → (c.cl[j]'(by omega)).m < c.cl[j + 1].m) ∧ Hid (Keeps [] W2 wr)) (fun i _ => x9 - (intOf i).toNat)
      case atStart => exact ⟨0, rfl, by omega, Lib.hid (fun _ _ h => by omega), Lib.hid (Keeps.refl _ _)⟩
      case round =>
        clear i0 i1 i2 i3 i4 i5 i6 if' il
        obtain ⟨k, rfl, hk, hin, hkq⟩ := hrel
        have hAq := (hkq.out.block _ (lt_of_blk hAr) (by simp)).trans hAr
        obtain ⟨i0, i1, i2, i3, i4, i5, i6, if', il⟩ := cl7 hAq
        have hkG := Lib.hid (hkF.out.trans hkq.out)
        by_cases hlt : k < x9
        · have hlt2 : (k : Int) < x9 := by omega
          have hkl : k < c.cl.length := by rw [← e2.out]; exact hlt
          obtain ⟨g, o, c', x, hv, hx, g0, g1, g2, g3, g4⟩ := (hcl.out.keeps hkG.out).elem hkl
          rw [← e2.out] at hv
          cases hv
          obtain ⟨hi1, hi2, hi3⟩ := hf.out.ns _ (List.getElem_mem hkl)
          obtain ⟨_, _, ev1, _⟩ := hx.st.form
          obtain ⟨_, _, ev2, _⟩ := hx.sc.form
          obtain ⟨_, _, ev3, _⟩ := hx.ch.form
          have hm0 := hx.m
          obtain ⟨y0, y1, ⟨y2, y3, y4⟩, ⟨y5, y6, y7⟩, ⟨y8, y9, y10⟩⟩ := x
          simp only [slv, Value.slice.injEq] at ev1 ev2 ev3
          simp only [slv] at g0 g1 g2 g3 g4
          simp only at hm0
          obtain ⟨-, ev1, -⟩ := ev1
          obtain ⟨-, ev2, -⟩ := ev2
          obtain ⟨-, ev3, -⟩ := ev3
          have hn1 : decide ((1024 : Int) < y3) = false := by simp; omega
          have hn2 : decide ((1024 : Int) < y6) = false := by simp; omega
          have hn3 : decide ((1024 : Int) < y9) = false := by simp; omega
          have hbC := heap_alloc_new wr (.cells #[.int .i64 y0, .int .i64 y1, .slice y2 y3 y4, .slice y5 y6 y7, .slice y8 y9 y10] tC)
          have hkn := (Keeps.refl [] wr).alloc (.cells #[.int .i64 y0, .int .i64 y1, .slice y2 y3 y4, .slice y5 y6 y7, .slice y8 y9 y10] tC)
          have hA9 := (hkn.block _ (lt_of_blk hAq) (by simp)).trans hAq
          have hkq9 := Lib.hid (hkq.out.trans hkn)
          have hkF9 := Lib.hid (hkG.out.trans hkn)
          replace hm0 := Lib.hid hm0
          replace hbC := Lib.hid hbC
          clear hx ev1 ev2 ev3 hi1 hi2 hi3 hkn
          go_upto_region 12 with fail
          generalize (wr.alloc (.cells #[.int .i64 y0, .int .i64 y1, .slice y2 y3 y4, .slice y5 y6 y7, .slice y8 y9 y10] tC)) = WC at *
          obtain ⟨XC, hXC⟩ : ∃ X, wr.heap.size = X := ⟨_, rfl⟩
          rw [hXC] at hbC ⊢
          replace hXC := Lib.hid hXC
          clear g0 g1 g2 g3 g4 i0 i1 i2 i3 i4 i5 i6 if' il
          obtain ⟨i0, i1, i2, i3, i4, i5, i6, if', il⟩ := cl7 hA9
          obtain ⟨g0, g1, g2, g3, g4, gf, gl⟩ := cl5 hbC.out
          by_cases hk0 : k = 0
          · have hkz0 : decide ((0 : Int) < (k : Int)) = false := by simp; omega
            have hkz1 : decide (0 < k) = false := by simp; omega
            have hin2 : Hid (∀ j (hj : j + 1 < c.cl.length), j + 1 < k + 1 → (c.cl[j]'(by omega)).m < c.cl[j + 1].m) := Lib.hid (fun j hj hjk => by omega)
            replace hk0 := Lib.hid hk0
            (refine wp_region_quiet_lit (by kernel_rfl) (by kernel_rfl) ?_; (repeat (first | go_big_quiet_step (fail) | quiet_step (fail))); with_reducible refine wpQuiet_nil ?_; intro _ hw'; obtain ⟨nq, hw''⟩ := hw'; subst hw'')
            go_wp2
            go_roundw
            case rel => exact ⟨k + 1, rfl, by omega, hin2, Lib.hid (hkq9.out.drewN _)⟩
            case measure => simp [intOf]; omega
          · have hkz0 : decide ((0 : Int) < (k : Int)) = true := by simp; omega
            have hkz1 : decide (0 < k) = true := by simp; omega
            obtain ⟨m, hm⟩ : ∃ m, k = m + 1 := ⟨k - 1, by omega⟩
            have hml : m < c.cl.length := by omega
            have hmM : (m : Int) < x9 := by omega
            have hwm : IntKind.i64.wrap ((k : Int) - 1) = m := by rw [IntWalk.i64_in _ (by omega)]; omega
            obtain ⟨g', o', c'', z, hv2, hz, f0, _, _, _, _⟩ := (hcl.out.keeps hkF9.out).elem hml
            rw [← e2.out] at hv2
            cases hv2
            have hz0 := hz.m
            replace hz0 := Lib.hid hz0
            replace hm := Lib.hid hm
            replace hk0 := Lib.hid hk0
            by_cases hq : y0 ≤ z.m
            · have hqd : decide (y0 ≤ z.m) = true := by simpa using hq
              have hd : false = r := by
                rw [← hr.out]
                refine (Bool.eq_false_iff.2 (fun hi => ?_)).symm
                have := incC_iff.1 hi m (by have := hm.out; omega)
                have e := hm.out
                subst e
                have h1 := hm0.out
                have h2 := hz0.out
                omega
              replace hd := Lib.hid hd
              have hke := Lib.hid hkF9.out
              (refine wp_region_quiet_lit (by kernel_rfl) (by kernel_rfl) ?_; (repeat (first | go_big_quiet_step (fail) | quiet_step (fail))); with_reducible refine wpQuiet_nil ?_; intro _ hw'; obtain ⟨nq, hw''⟩ := hw'; subst hw'')
              go_wp2
              go_ret
              exact ⟨by rw [← hd.out]; rfl, hke.out.drewN _⟩
            · have hqd : decide (y0 ≤ z.m) = false := by simpa using hq
              have hin2 : Hid (∀ j (hj : j + 1 < c.cl.length), j + 1 < k + 1 → (c.cl[j]'(by omega)).m < c.cl[j + 1].m) := Lib.hid (fun j hj hjk => by
                by_cases e : j + 1 = k
                · have hjm : j = m := by have := hm.out; omega
                  subst hjm
                  have h1 := hm0.out
                  have h2 := hz0.out
                  simp only [e]
                  omega
                · exact hin.out j hj (by omega))
              (refine wp_region_quiet_lit (by kernel_rfl) (by kernel_rfl) ?_; (repeat (first | go_big_quiet_step (fail) | quiet_step (fail))); with_reducible refine wpQuiet_nil ?_; intro _ hw'; obtain ⟨nq, hw''⟩ := hw'; subst hw'')
              go_wp2
              go_roundw
              case rel => exact ⟨k + 1, rfl, by omega, hin2, Lib.hid (hkq9.out.drewN _)⟩
              case measure => simp [intOf]; omega
        · have hlt2 : ¬ ((k : Int) < x9) := by omega
          have hd : true = r := by rw [← hr.out]; exact (incC_iff.2 (fun j hj => hin.out j hj (by have := e2.out; omega))).symm
          replace hd := Lib.hid hd
          go_wp2
          go_ret
          exact ⟨by rw [← hd.out]; rfl, hkG.out⟩
end Go.Proofs.YtiplgpefapeapaaGreatDoor
