/- Texts that the laws lean on, in the order in which they build. The specification's ClaimsOf: the walk. Trace.Claims; StateName. Trace.Claim, pending, Refuse. A trace that is answered out of a table: the plain laws. The claims of a trace whose questions are all answered are closed. Looking for a need with a peer and a number; a machine's claim. The specification's Claims and Claim. The specification's Agree and Refuse. -/
import Derived.Test.YthfdngjbcgkkfaaGreatQ7
import Derived.Laws.Rows
set_option linter.unusedVariables false
set_option linter.unusedSimpArgs false
namespace Go.Proofs.YthfdngjbcgkkfaaGreat
open Go.RowKit

/-- A list of claims that is read, its needs in blocks of needs. -/
def LCt (w : World) (v : Value) (P : List PCl) : Prop := ∃ C, shC.R w v C ∧ Rows' w C P
theorem LCt.lc {w : World} {v : Value} {P : List PCl} (h : LCt w v P) : LC w v P := by obtain ⟨C, h1, h2⟩ := h; exact h2.lc h1
theorem LCt.keeps {w w' : World} {v : Value} {P : List PCl} (h : LCt w v P) (hk : Keeps [] w w') : LCt w' v P := by obtain ⟨C, h1, h2⟩ := h; exact ⟨C, h1.keeps hk, h2.keeps hk⟩
theorem LCt.elem {w : World} {v : Value} {P : List PCl} (h : LCt w v P) {k : Nat} (hk : k < P.length) : ∃ g o c x, v = .slice (some ⟨g, o, none⟩) P.length c ∧ CRt w x P[k] ∧ w.cell? ⟨g, o + k * 5, none⟩ = some (.int .i64 x.m) ∧ w.cell? ⟨g, o + k * 5 + 1, none⟩ = some (.int .i64 x.ep) ∧
    w.cell? ⟨g, o + k * 5 + 2, none⟩ = some (slv x.v1) ∧ w.cell? ⟨g, o + k * 5 + 3, none⟩ = some (slv x.v2) ∧ w.cell? ⟨g, o + k * 5 + 4, none⟩ = some (slv x.v3) := by
  obtain ⟨C, h1, h2⟩ := h
  have hkC : k < C.length := by rw [h2.1]; exact hk
  obtain ⟨g, o, c, e, he⟩ := h1.elem hkC
  rw [h2.1] at e
  refine ⟨g, o, c, C[k], e, h2.2 k _ _ (List.getElem?_eq_getElem hkC) (List.getElem?_eq_getElem hk), ?_, ?_, ?_, ?_, ?_⟩
  · simpa [shC] using he 0 _ rfl
  · simpa [shC] using he 1 _ rfl
  · simpa [shC] using he 2 _ rfl
  · simpa [shC] using he 3 _ rfl
  · simpa [shC] using he 4 _ rfl
def ClmsR (w : World) (t : Tr) (Y : List Ans) (e : Ending) (w' : World) : Prop := ∃ v, e = .returned v ∧ LCt w' v (refOf t (outsOf Y) Y) ∧ Keeps [] w w'
theorem tag_C {w : World} {b : Nat} {cs : Array Value} {f : Nat × Nat} (h : w.heap[b]? = some (Obj.cells cs tC f)) : ∀ (cs' : Array Value) (f' : Nat × Nat), w.heap[b]? ≠ some (Obj.cells cs' tN f') := fun cs' f' e => by rw [h] at e; cases e
theorem crow5 {w : World} {gc n : Nat} {C1 : List ClV} {cc : Nat} (h : shC.R w (.slice (some ⟨gc, 0, none⟩) (n + 1) cc) C1) (hn : n < C1.length) :
    w.cell? ⟨gc, n * 5, none⟩ = some (.int .i64 C1[n].m) ∧ w.cell? ⟨gc, n * 5 + 1, none⟩ = some (.int .i64 C1[n].ep) ∧ w.cell? ⟨gc, n * 5 + 2, none⟩ = some (slv C1[n].v1) ∧ w.cell? ⟨gc, n * 5 + 3, none⟩ = some (slv C1[n].v2) ∧ w.cell? ⟨gc, n * 5 + 4, none⟩ = some (slv C1[n].v3) := by
  obtain ⟨g', o', c', e, he⟩ := h.elem hn
  simp only [Value.slice.injEq, Option.some.injEq, Addr.mk.injEq] at e
  obtain ⟨⟨rfl, rfl, _⟩, _, _⟩ := e
  refine ⟨?_, ?_, ?_, ?_, ?_⟩
  · simpa [shC] using he 0 _ rfl
  · simpa [shC] using he 1 _ rfl
  · simpa [shC] using he 2 _ rfl
  · simpa [shC] using he 3 _ rfl
  · simpa [shC] using he 4 _ rfl
theorem st5k {w : World} {g k : Nat} {t : TypeId} {cs : Array Value} {f : Nat × Nat} (x0 x1 x2 x3 x4 : Value) (h : w.heap[g]? = some (.cells cs t f)) :
    Keeps [g] w (((((w.setCell ⟨g, k * 5, none⟩ x0).setCell ⟨g, k * 5 + 1, none⟩ x1).setCell ⟨g, k * 5 + 2, none⟩ x2).setCell ⟨g, k * 5 + 3, none⟩ x3).setCell ⟨g, k * 5 + 4, none⟩ x4) := by
  refine (((((Keeps.refl _ w).setCell ?_ _).setCell ?_ _).setCell ?_ _).setCell ?_ _).setCell ?_ _ <;> exact .inr (by simp)
set_option maxRecDepth 100000 in
set_option maxHeartbeats 20000000 in
theorem claimsOfR_c (w : World) (v : Value) (Y : List Ans) (t : Tr) (h : RdA w v Y) (hlu : ∀ q, luL Y q = luOf t q) (hlen : Y.length ≤ 1000) (hins : ∀ a ∈ Y, a.ins.length ≤ 100000) :
    Calls Tryz.prog 45 #[v] w (ClmsR w t Y) := by
  obtain ⟨a0, c0, rfl, hlc, hcm⟩ := h.form
  have hel := fun k hk => h.elem (k := k) hk
  have hluc := fun (W : World) (hk : Keeps [] w W) (m o : Int) (n : Nat) => lastUseR_c W _ Y m o n (h.keeps hk)
  have houtc := fun (W : World) (hk : Keeps [] w W) (m cl : Int) (n : Nat) => outR_c W _ Y m cl n (h.keeps hk)
  obtain ⟨M, hM⟩ : ∃ N, Y.length = N := ⟨_, rfl⟩
  rw [hM] at hlc hlen hluc houtc ⊢
  obtain ⟨O, hO⟩ : ∃ O, outsOf Y = O := ⟨_, rfl⟩
  unfold ClmsR
  rw [hO]
  have hOg : ∀ q, outL Y q = MapS.get q O := fun q => by rw [← hO]; exact (outsOf_get Y q).symm
  have hfr := Sh.O.fresh shC w w.heap.size tC (Nat.le_refl _)
  have hkA := (Keeps.refl [] w).alloc (.cells #[] tC)
  replace h := Lib.hid h
  replace hel := Lib.hid hel
  replace hluc := Lib.hid hluc
  replace houtc := Lib.hid houtc
  replace hM := Lib.hid hM
  replace hO := Lib.hid hO
  replace hOg := Lib.hid hOg
  replace hfr := Lib.hid hfr
  replace hkA := Lib.hid hkA
  replace hlu := Lib.hid hlu
  replace hins := Lib.hid hins
  go_enter Tryz.func45, Tryz.ntmps45
  go_wp2
  generalize w.alloc (.cells #[] tC) = W at *
  go_loopw [3, 4] (fun rv i wr => ∃ (k : Nat) (C : List ClV), i = .int .i64 k ∧ k ≤ M ∧ Hid (shC.O wr w.heap.size tC rv C) ∧ Hid (Rows' wr C (refOf t O (Y.take k))) ∧ Hid (Keeps [] w wr)) (fun _ i _ => M - (intOf i).toNat)
  case atStart => exact ⟨0, [], rfl, by omega, hfr, Lib.hid ⟨rfl, fun j x p h => by simp at h⟩, hkA⟩
  case round =>
    obtain ⟨k, C, rfl, hk, hC, hRw, hkr⟩ := hrel
    by_cases hlt : k < M
    · have hkY : k < Y.length := by rw [hM.out]; exact hlt
      have hstep : refOf t O (Y.take (k + 1)) = refC t O (refOf t O (Y.take k)) Y[k] := by unfold refOf; rw [List.take_succ_eq_append_getElem hkY, List.foldl_append]; rfl
      have hbd : LenLe (refOf t O (Y.take k)) (k * 100001) := by
        have := refOf_len t O (Y.take k) (fun a ha => hins.out a (List.mem_of_mem_take ha))
        rwa [List.length_take, Nat.min_eq_left (by omega)] at this
      obtain ⟨g, o, c', x, hv, hx, he⟩ := hel.out k hkY
      rw [hM.out] at hv
      cases hv
      have hai := hins.out Y[k] (List.getElem_mem _)
      obtain ⟨P, hP⟩ : ∃ P, refOf t O (Y.take k) = P := ⟨_, rfl⟩
      obtain ⟨a, ha⟩ : ∃ a, Y[k] = a := ⟨_, rfl⟩
      rw [hP, ha] at hstep
      rw [hP] at hbd hRw
      rw [ha] at hx hai
      have m0 := hx.m
      have m1 := hx.ow
      have m2 := hx.n
      have m3 := hx.ep
      have m7 := hx.ins
      have m7f := hx.ins.form
      obtain ⟨x0, x1, x2, x3, x4, x5, x6, x7, x8, x9⟩ := x
      simp only [AnV.v] at m0 m1 m2 m3 m7 m7f
      have hx8 : a.ins.length = x8 := by obtain ⟨_, _, e, _⟩ := m7f; simp only [Value.slice.injEq] at e; exact e.2.1.symm
      have e0 := hkr.out.val (he 0 _ rfl)
      have e1 := hkr.out.val (he 1 _ rfl)
      have e2 := hkr.out.val (he 2 _ rfl)
      have e3 := hkr.out.val (he 3 _ rfl)
      have e4 := hkr.out.val (he 4 _ rfl)
      have e5 := hkr.out.val (he 5 _ rfl)
      have e6 := hkr.out.val (he 6 _ rfl)
      have e7 := hkr.out.val (he 7 _ rfl)
      simp only [AnV.v, Nat.add_zero] at e0 e1 e2 e3 e4 e5 e6 e7
      have hbA := heap_alloc_new wr (.cells #[.int .i64 x0, .int .i64 x1, .int .u64 x2, .int .i64 x3, .bool x4, .bool x5, .int .i64 x6, .slice x7 x8 x9] tA)
      have hkA0 := (Keeps.refl [] wr).alloc (.cells #[.int .i64 x0, .int .i64 x1, .int .u64 x2, .int .i64 x3, .bool x4, .bool x5, .int .i64 x6, .slice x7 x8 x9] tA)
      have hkwA := hkr.out.trans hkA0
      have hCA := hC.out.keeps hkA0
      have hRA := hRw.out.keeps hkA0
      obtain ⟨ra, rc, rfl⟩ := hC.out.form
      obtain ⟨NP, hNP⟩ : ∃ n, C.length = n := ⟨_, rfl⟩
      rw [hNP] at hCA ⊢
      have hPl : P.length = NP := by rw [← hRw.out.1]; exact hNP
      have hPk : NP ≤ M := by
        have : ∀ (l : List Ans) (Q : List PCl), (l.foldl (refC t O) Q).length ≤ Q.length + l.length := by
          intro l
          induction l with
          | nil => intro Q; simp
          | cons b l ih =>
            intro Q
            rw [List.foldl_cons]
            have h1 := ih (refC t O Q b)
            have h2 : (refC t O Q b).length ≤ Q.length + 1 := by
              obtain ⟨n, h3, h4⟩ := openC_pos Q b
              rcases nil_or_snoc (openC Q b) with h | ⟨R, c, h⟩
              · rw [h] at h3; simp at h3
              · rw [refC_at h]; rw [h] at h3; simp at h3 ⊢; omega
            simp; omega
        have := this (Y.take k) []
        rw [← hPl, ← hP]
        unfold refOf
        simp at this
        omega
      replace hkA0 := Lib.hid hkA0
      replace hkwA := Lib.hid hkwA
      replace hbA := Lib.hid hbA
      replace hCA := Lib.hid hCA
      replace hRA := Lib.hid hRA
      replace m0 := Lib.hid m0
      replace m1 := Lib.hid m1
      replace m2 := Lib.hid m2
      replace m3 := Lib.hid m3
      replace m7 := Lib.hid m7
      replace hx8 := Lib.hid hx8
      replace hP := Lib.hid hP
      replace ha := Lib.hid ha
      replace hstep := Lib.hid hstep
      replace hbd := Lib.hid hbd
      replace hNP := Lib.hid hNP
      replace hPl := Lib.hid hPl
      clear he hx m7f hC hRw
      go_upto_region 6 with fail
      generalize (wr.alloc (.cells #[.int .i64 x0, .int .i64 x1, .int .u64 x2, .int .i64 x3, .bool x4, .bool x5, .int .i64 x6, .slice x7 x8 x9] tA)) = WA at *
      obtain ⟨XA, hXA⟩ : ∃ X, wr.heap.size = X := ⟨_, rfl⟩
      rw [hXA] at hbA ⊢
      replace hXA := Lib.hid hXA
      clear e0 e1 e2 e3 e4 e5 e6 e7
      go_cut [35] from 11 to 126 (fun b wx => b = .bool (newC P a) ∧ wx = WA.drew)
      case first =>
        obtain ⟨y0, y1, y2, y3, y4, y5, y6, y7, yf, ylt⟩ := cells8 hbA.out
        cases NP with
        | zero =>
          have hnb := newC_nil hPl.out a
          replace hnb := Lib.hid hnb
          refine Free.wp_region_chain (fun i => false) (fun i => true) (fun _ _ => False) (by kernel_rfl) (by kernel_rfl) (by kernel_rfl) ?_
          (repeat (first | (apply Free.cw_pureW rfl rfl; (intro w'; go_simp <;> exact rfl); go_frame) | (apply Free.cw_steadyW rfl rfl rfl; (intro w' hS; have q0 := Free.sx_cell hS y0 (fun _ _ hT => hT); go_simp <;> exact rfl); go_frame) | (refine Free.cw_skip rfl ?_; go_frame)))
          refine Free.cw_nil ?_
          go_wp2
          go_meet
          case rel => exact ⟨by rw [hnb.out], rfl⟩
        | succ n =>
          have hnb := newC_at hPl.out a
          have hwn : IntKind.i64.wrap (n : Int) = (n : Int) := IntWalk.i64_in _ (by omega)
          have hnn : (n : Int) < (n : Int) + 1 := by omega
          have hnC : n < C.length := by rw [hNP.out]; omega
          obtain ⟨gc, cc, ev, _, _, _⟩ := hCA.out.form1 (by omega)
          rw [hNP.out] at ev
          cases ev
          obtain ⟨m0c, _⟩ := crow5 hCA.out.r hnC
          have hrm := (hRA.out.2 n _ _ (List.getElem?_eq_getElem hnC) (List.getElem?_eq_getElem (by rw [hPl.out]; omega))).m
          rw [hrm] at m0c
          rw [← m0.out] at hnb
          replace hnb := Lib.hid hnb
          clear hrm
          refine Free.wp_region_chain (fun i => false) (fun i => true) (fun _ _ => False) (by kernel_rfl) (by kernel_rfl) (by kernel_rfl) ?_
          (repeat (first | (apply Free.cw_pureW rfl rfl; (intro w'; go_simp <;> exact rfl); go_frame) | (apply Free.cw_steadyW rfl rfl rfl; (intro w' hS; have q0 := Free.sx_cell hS y0 (fun _ _ hT => hT); have q1 := Free.sx_cell hS m0c (fun _ _ hT => hT); go_simp <;> exact rfl); go_frame) | (refine Free.cw_skip rfl ?_; go_frame)))
          refine Free.cw_nil ?_
          go_wp2
          go_meet
          case rel =>
            have hz : ((n : Int) + 1 == 0) = false := by simp; omega
            exact ⟨by rw [hnb.out, hz, Bool.false_or], rfl⟩
      case rest =>
        obtain ⟨rfl, rfl⟩ := hcut
        have hCD := hCA.out.keeps ((Keeps.refl [] WA).drew)
        have hRD := hRA.out.keeps ((Keeps.refl [] WA).drew)
        have hkD : Keeps [] w WA.drew := hkwA.out.drew
        have hbD := (((Keeps.refl [] WA).drew).block XA (lt_of_blk hbA.out) (by simp)).trans hbA.out
        generalize WA.drew = WD at *
        replace hCD := Lib.hid hCD
        replace hRD := Lib.hid hRD
        replace hkD := Lib.hid hkD
        replace hbD := Lib.hid hbD
        clear hCA hRA hkwA hbA
        go_upto_if 35 with fail
        go_cut [3] from 11 to 126 (fun cv wx => ∃ C1, Hid (shC.O wx w.heap.size tC cv C1) ∧ Hid (Rows' wx C1 (openC P a)) ∧ Hid (Keeps [] w wx) ∧ Hid (wx.heap[XA]? = some (.cells #[.int .i64 x0, .int .i64 x1, .int .u64 x2, .int .i64 x3, .bool x4, .bool x5, .int .i64 x6, .slice x7 x8 x9] tA)))
        case first =>
          obtain ⟨nb, hnb⟩ : ∃ b, newC P a = b := ⟨_, rfl⟩
          rw [hnb]
          cases nb with
          | false =>
            have hoc := openC_old hnb
            replace hnb := Lib.hid hnb
            go_wp2
            go_meet
            case rel => exact ⟨C, hCD, by rw [hoc]; exact hRD, hkD, hbD⟩
          | true =>
            have hoc := openC_new hnb
            replace hnb := Lib.hid hnb
            replace hoc := Lib.hid hoc
            obtain ⟨y0, y1, y2, y3, y4, y5, y6, y7, yf, ylt⟩ := cells8 hbD.out
            have hmade := Sh.R.made shC WD [(⟨x0, x3, nilT, nilT, nilT⟩ : ClV)] #[.int .i64 x0, .int .i64 x3, .slice none 0 0, .slice none 0 0, .slice none 0 0] tC rfl (by simp [maxLen]) 1 rfl
            have hkM := (Keeps.refl [] WD).alloc (.cells #[.int .i64 x0, .int .i64 x3, .slice none 0 0, .slice none 0 0, .slice none 0 0] tC)
            have hCM := hCD.out.keeps hkM
            have hkwM := hkD.out.trans hkM
            have hRM := hRD.out.keeps hkM
            have hbM := (hkM.block _ (lt_of_blk hbD.out) (by simp)).trans hbD.out
            have hsz := hkwM.size
            replace hmade := Lib.hid hmade
            replace hCM := Lib.hid hCM
            replace hkwM := Lib.hid hkwM
            replace hRM := Lib.hid hRM
            replace hbM := Lib.hid hbM
            clear hkM
            go_wp2_with (at_builtin; (refine Sh.wpl_app shC w.heap.size infoC rfl Tryz.underlying53 (.slice ra NP rc) (.slice (some ⟨WD.heap.size, 0, none⟩) 1 1) C [(⟨x0, x3, nilT, nilT, nilT⟩ : ClV)] rfl _ _ rfl rfl rfl hCM.out hmade.out (by rw [hNP.out]; simp only [List.length_singleton]; omega) hsz ?_; intro v5 w5 hO5 hG5; have hk5 := Sh.O.grew hkwM.out hCM.out hG5 (Nat.le_refl _); have htg := fun b (hb : b ∈ (Value.slice ra NP rc).ownBlock.toList) => hCM.out.tag b (by simpa using hb); have hR5 := (hRM.out.keepS hG5.keepsO (fun b hb cs f e => by obtain ⟨cs', hc⟩ := htg b hb; exact tag_C hc cs f e)).snoc (x := ⟨x0, x3, nilT, nilT, nilT⟩) (p := ⟨a.m, a.ep, [], [], []⟩) ⟨m0.out, m3.out, Nd.nil _, Nd.nil _, Nd.nil _⟩; have hb5 := (hG5.keepsO.block _ (lt_of_blk hbM.out) (fun hm => by obtain ⟨cs', hc⟩ := htg _ hm; exact tag_ne hbM.out hc (by decide) rfl)).trans hbM.out; rw [← hoc.out] at hR5; replace hO5 := Lib.hid hO5; replace hk5 := Lib.hid hk5; replace hR5 := Lib.hid hR5; replace hb5 := Lib.hid hb5; clear hG5 htg))
            go_meet
            case rel => exact ⟨_, hO5, hR5, hk5, hb5⟩
        case rest =>
          obtain ⟨C1, hC1, hR1, hk1, hb1⟩ := hcut
          obtain ⟨n, hn1, hnP⟩ := openC_pos P a
          obtain ⟨R, c, hRc⟩ : ∃ R c, openC P a = R ++ [c] := by
            rcases nil_or_snoc (openC P a) with h | ⟨R, c, h⟩
            · rw [h] at hn1; simp at hn1
            · exact ⟨R, c, h⟩
          have hRn : R.length = n := by rw [hRc] at hn1; simpa using hn1
          have hn1000 : n ≤ 1000 := by rw [hPl.out] at hnP; omega
          have hres : refOf t O (Y.take (k + 1)) = R ++ [refA t O c a] := by rw [hstep.out]; exact refC_at hRc
          have hbc : ∀ j, j < 3 → (c.at j).length ≤ k * 100001 := fun j hj => by
            have h1 := hbd.out.openC a
            rw [hRc] at h1
            have := h1 R.length (by simp) j hj
            rw [List.getElem_append_right (Nat.le_refl _)] at this
            simpa using this
          rw [hRc] at hR1
          have hC1l : C1.length = n + 1 := by rw [hR1.out.1]; simp [hRn]
          have hnC : n < C1.length := by omega
          obtain ⟨gc, cc1, ev, hgB, cs9, hg9⟩ := hC1.out.form1 (by omega)
          rw [hC1l] at ev
          subst ev
          have hcr : CRt wc C1[n] c := hR1.out.2 n _ _ (List.getElem?_eq_getElem hnC) (by rw [← hRn, List.getElem?_append_right (Nat.le_refl _)]; simp)
          obtain ⟨r0, r1, r2, r3, r4⟩ := crow5 hC1.out.r hnC
          obtain ⟨cx, hcx⟩ : ∃ cx, C1[n] = cx := ⟨_, rfl⟩
          rw [hcx] at hcr r0 r1 r2 r3 r4
          have hcm := hcr.m
          have hcep := hcr.ep
          have hcst := hcr.st
          have hcsc := hcr.sc
          have hcch := hcr.ch
          obtain ⟨d0, d1, ⟨d2, d3, d4⟩, ⟨d5, d6, d7⟩, ⟨d8, d9, d10⟩⟩ := cx
          simp only [slv] at r0 r1 r2 r3 r4 hcst hcsc hcch hcm hcep
          have hwn : IntKind.i64.wrap (n : Int) = (n : Int) := IntWalk.i64_in _ (by omega)
          have hnn : (n : Int) < (n : Int) + 1 := by omega
          have hkB := (Keeps.refl [] wc).alloc (.cells #[.int .i64 d0, .int .i64 d1, .slice d2 d3 d4, .slice d5 d6 d7, .slice d8 d9 d10] tC)
          have hbB := heap_alloc_new wc (.cells #[.int .i64 d0, .int .i64 d1, .slice d2 d3 d4, .slice d5 d6 d7, .slice d8 d9 d10] tC)
          have hkwB := hk1.out.trans hkB
          have hb1B := (hkB.block XA (lt_of_blk hb1.out) (by simp)).trans hb1.out
          have hC1B := hC1.out.keeps hkB
          have hR1B := hR1.out.keeps hkB
          have hstB := hcst.keeps hkB
          have hscB := hcsc.keeps hkB
          have hchB := hcch.keeps hkB
          have hXAl := lt_of_blk hb1.out
          have hgcl := lt_of_blk hg9
          have hwXB : w.heap.size ≤ wc.heap.size := hk1.out.size
          obtain ⟨y0, y1, y2, y3, y4, y5, y6, y7, yf, ylt⟩ := cells8 hb1.out
          replace hres := Lib.hid hres
          replace hbc := Lib.hid hbc
          replace hRn := Lib.hid hRn
          replace hkB := Lib.hid hkB
          replace hbB := Lib.hid hbB
          replace hkwB := Lib.hid hkwB
          replace hb1B := Lib.hid hb1B
          replace hC1B := Lib.hid hC1B
          replace hR1B := Lib.hid hR1B
          replace hstB := Lib.hid hstB
          replace hscB := Lib.hid hscB
          replace hchB := Lib.hid hchB
          replace hcm := Lib.hid hcm
          replace hcep := Lib.hid hcep
          replace hC1l := Lib.hid hC1l
          replace hcx := Lib.hid hcx
          clear hcr hcst hcsc hcch hC1 hR1 hk1 hRc hn1 hnP hg9 hgB
          go_wp2
          generalize (wc.alloc (.cells #[.int .i64 d0, .int .i64 d1, .slice d2 d3 d4, .slice d5 d6 d7, .slice d8 d9 d10] tC)) = WB at *
          obtain ⟨XB, hXB⟩ : ∃ X, wc.heap.size = X := ⟨_, rfl⟩
          rw [hXB] at hbB hXAl hgcl hwXB ⊢
          replace hXB := Lib.hid hXB
          clear y0 y1 y2 y3 y4 y5 y6 y7 yf ylt r0 r1 r2 r3 r4
          have hXAB : XA ≠ XB := by omega
          have hgcB : gc ≠ XB := by omega
          go_loopw [7] (fun i wl => ∃ (j : Nat) (sa : Option Addr) (sn sc : Nat), i = .int .i64 j ∧ j ≤ x8 ∧ Hid (wl.heap[XB]? = some (.cells #[.int .i64 d0, .int .i64 d1, .slice d2 d3 d4, .slice sa sn sc, .slice d8 d9 d10] tC)) ∧ Hid (Nd wl (.slice sa sn sc) ((a.ins.take j).foldl (scR t a.m) c.sc)) ∧ Hid (Keeps [XB] WB wl)) (fun i _ => x8 - (intOf i).toNat)
          case atStart => exact ⟨0, d5, d6, d7, rfl, by omega, hbB, hscB, Lib.hid (Keeps.refl _ _)⟩
          case round =>
            obtain ⟨j, sa, sn, sc, rfl, hj, hbx, hNd, hkl⟩ := hrel
            have hkw := hkwB.out.fresh hkl.out (fun b hb => by simp at hb; subst hb; exact .inr hwXB)
            have hb1r := (hkl.out.block XA (lt_of_blk hb1B.out) (by simp [hXAB])).trans hb1B.out
            obtain ⟨y0, y1, y2, y3, y4, y5, y6, y7, yf, ylt⟩ := cells8 hb1r
            obtain ⟨z0, z1, z2, z3, z4, zl⟩ := cells5 hbx.out
            replace hkw := Lib.hid hkw
            replace hb1r := Lib.hid hb1r
            by_cases hltj : j < x8
            · have hjl : j < a.ins.length := by rw [hx8.out]; exact hltj
              obtain ⟨gs, os, cs', hvs, hes⟩ := m7.out.elem hjl
              rw [hx8.out] at hvs
              cases hvs
              obtain ⟨⟨p0, p1, p2⟩, hp⟩ : ∃ x, a.ins[j] = x := ⟨_, rfl⟩
              have hfo : (a.ins.take (j + 1)).foldl (scR t a.m) c.sc = putN (p0, p1, luL Y (p0, x0, p1)) ((a.ins.take j).foldl (scR t a.m) c.sc) := by
                rw [List.take_succ_eq_append_getElem hjl, List.foldl_append, hp, hlu.out, m0.out]; rfl
              have hfl : ((a.ins.take j).foldl (scR t a.m) c.sc).length ≤ 1000000000 := by
                have h1 := scR_fold_len t a.m (a.ins.take j) c.sc
                have h2 := hbc.out 1 (by omega)
                simp only [PCl.at] at h2
                rw [List.length_take] at h1
                omega
              rw [hp] at hes
              have f0 := hkw.out.val (hes 0 _ rfl)
              have f1 := hkw.out.val (hes 1 _ rfl)
              simp only [shT, Nat.add_zero] at f0 f1
              have hgs : gs ≠ XB := by
                have := lt_of_cell (hes 0 _ rfl)
                omega
              have hlc := hluc.out _ (hkw.out.drew) p0 x0 p1
              obtain ⟨lu, hlu2⟩ : ∃ l, luL Y (p0, x0, p1) = l := ⟨_, rfl⟩
              rw [hlu2] at hfo hlc
              obtain ⟨SL, hSL⟩ : ∃ l, (a.ins.take j).foldl (scR t a.m) c.sc = l := ⟨_, rfl⟩
              rw [hSL] at hfo hfl hNd
              replace hfo := Lib.hid hfo
              replace hfl := Lib.hid hfl
              replace hlc := Lib.hid hlc
              replace hp := Lib.hid hp
              replace hlu2 := Lib.hid hlu2
              replace hSL := Lib.hid hSL
              clear hes
              go_wp2
              refine Free.wp_region_chain (fun i => i == 29 || i == 31 || i == 33) (fun i => true) (fun j b => j = 33 ∧ b = XB) (by kernel_rfl) (by kernel_rfl) (by kernel_rfl) ?_
              (repeat (first | (apply Free.cw_pure rfl rfl; (intro w'; go_simp <;> exact rfl); go_frame) | (apply Free.cw_steady rfl rfl rfl; (intro w' hS; have q0 := Free.sx_cell hS z3 (fun j hp hT => by obtain ⟨rfl, _⟩ := hT; exact absurd hp (by decide +kernel)); have q1 := Free.sx_cell hS y7 (fun _ _ hT => hXAB hT.2); have q2 := Free.sx_cell hS y0 (fun _ _ hT => hXAB hT.2); have q3 := Free.sx_cell hS f0 (fun _ _ hT => hgs hT.2); have q4 := Free.sx_cell hS f1 (fun _ _ hT => hgs hT.2); go_simp <;> exact rfl); go_frame) | (refine Free.cw_skip rfl ?_; go_frame)))
              refine Free.cw_loud rfl rfl (fun K hK => ?_)
              go_wp2_with fail
              refine hlc.out.mono ?_
              rintro e w2 ⟨rfl, hk2⟩
              refine hK _ _ rfl (Free.KeepsP.of hk2 (by simp)) ?_
              clear hK K hlc
              have hk2d := ((Keeps.refl [] wr).drew).trans hk2
              have hNd2 := hNd.out.keeps hk2d
              replace hk2d := Lib.hid hk2d
              replace hNd2 := Lib.hid hNd2
              clear hk2
              (repeat (apply Free.cw_pure rfl rfl; (intro w'; go_simp <;> exact rfl); go_frame))
              refine Free.cw_loud rfl rfl (fun K hK => ?_)
              go_wp2_with fail
              have hpc := putR_c w2 (.slice sa sn sc) SL (p0, p1, lu) hNd2.out.1 (by have := hfl.out; omega)
              simp only [tV] at hpc
              refine hpc.mono ?_
              rintro e w3 ⟨v', rfl, hpp, hk3⟩
              refine hK _ _ rfl (Free.KeepsP.of hk3 (by simp)) ?_
              clear hK K hpc
              have hNd3 := hNd2.out.put hk3 hpp
              rw [← hfo.out] at hNd3
              have hk3w := hk2d.out.trans hk3
              have hbx3 := (hk3w.block XB zl (by simp)).trans hbx.out
              obtain ⟨pa, pc, rfl, _⟩ := hNd3.1.form
              obtain ⟨pn, hpn⟩ : ∃ n, ((a.ins.take (j + 1)).foldl (scR t a.m) c.sc).length = n := ⟨_, rfl⟩
              rw [hpn] at hNd3 ⊢
              obtain ⟨q0, q1, q2, q3, q4, ql⟩ := cells5 hbx3
              have qf : ∀ o, w3.frozen? ⟨XB, o, none⟩ = false := fun o => by simp [World.frozen?, hbx3]
              have hkS : Keeps [XB] w3 (w3.setCell ⟨XB, 3, none⟩ (.slice pa pn pc)) := (Keeps.refl _ _).setCell (.inr (by simp)) _
              have hbS := setCs hbx3 3 (.slice pa pn pc)
              have hNdS := hNd3.keepS hkS (fun b hb => by simp at hb; subst hb; exact tag_C hbx3)
              have hklS := (hkl.out.trans hk3w.of_nil).trans hkS
              replace hpn := Lib.hid hpn
              replace hbS := Lib.hid hbS
              replace hNdS := Lib.hid hNdS
              replace hklS := Lib.hid hklS
              clear hNd3 hk3 hpp hk3w hbx3
              (repeat (apply Free.cw_pure rfl rfl; (intro w'; go_simp <;> exact rfl); go_frame))
              refine Free.cw_loud rfl rfl (fun K hK => ?_)
              go_wp2
              refine hK _ _ rfl (Free.KeepsP.of hkS (fun b hb => ⟨trivial, by simpa using hb⟩)) ?_
              clear hK K
              generalize (w3.setCell ⟨XB, 3, none⟩ (.slice pa pn pc)) = w4 at *
              clear hkS q0 q1 q2 q3 q4 ql qf
              (repeat (apply Free.cw_pure rfl rfl; (intro w'; go_simp <;> exact rfl); go_frame))
              refine Free.cw_nil ?_
              go_wp2
              go_roundw
              case rel => exact ⟨j + 1, pa, pn, pc, rfl, by omega, hbS, hNdS, hklS⟩
              case measure => simp [intOf]; omega
            · have hjx : j = x8 := by omega
              subst hjx
              rw [show a.ins.take j = a.ins from List.take_of_length_le (by rw [hx8.out]; exact Nat.le_refl _)] at hNd
              have hoc := houtc.out wr hkw.out x1 x0 x2
              rw [hOg.out] at hoc
              have hkl0 : WB.heap.size ≤ wr.heap.size := hkl.out.size
              have hst3 := hstB.out.keepS hkl.out (fun b hb => by simp at hb; subst hb; exact tag_C hbB.out)
              have hch3 := hchB.out.keepS hkl.out (fun b hb => by simp at hb; subst hb; exact tag_C hbB.out)
              have hgcw : gc < WB.heap.size := Nat.lt_of_lt_of_le hgcl (Nat.le_of_lt (lt_of_blk hbB.out))
              have hgBw : w.heap.size ≤ gc := hC1B.out.ge gc (by simp [Value.ownBlock])
              have fin : ∀ (W : World) (y : ClV), Keeps [XB] WB W → CRt W y (refA t O c a) →
                  Hid (shC.O (((((W.setCell ⟨gc, n * 5, none⟩ (.int .i64 y.m)).setCell ⟨gc, n * 5 + 1, none⟩ (.int .i64 y.ep)).setCell ⟨gc, n * 5 + 2, none⟩ (slv y.v1)).setCell ⟨gc, n * 5 + 3, none⟩ (slv y.v2)).setCell ⟨gc, n * 5 + 4, none⟩ (slv y.v3)) w.heap.size tC (.slice (some ⟨gc, 0, none⟩) (n + 1) cc1) (C1.set n y)) ∧
                  Hid (Rows' (((((W.setCell ⟨gc, n * 5, none⟩ (.int .i64 y.m)).setCell ⟨gc, n * 5 + 1, none⟩ (.int .i64 y.ep)).setCell ⟨gc, n * 5 + 2, none⟩ (slv y.v1)).setCell ⟨gc, n * 5 + 3, none⟩ (slv y.v2)).setCell ⟨gc, n * 5 + 4, none⟩ (slv y.v3)) (C1.set n y) (refOf t O (Y.take (k + 1)))) ∧
                  Hid (Keeps [] w (((((W.setCell ⟨gc, n * 5, none⟩ (.int .i64 y.m)).setCell ⟨gc, n * 5 + 1, none⟩ (.int .i64 y.ep)).setCell ⟨gc, n * 5 + 2, none⟩ (slv y.v1)).setCell ⟨gc, n * 5 + 3, none⟩ (slv y.v2)).setCell ⟨gc, n * 5 + 4, none⟩ (slv y.v3))) := fun W y hkW hy => by
                have hOW := hC1B.out.keepS hkW (fun b hb e => by simp [Value.ownBlock] at e; simp at hb; omega)
                obtain ⟨cs, hcs⟩ := hOW.tag gc (by simp [Value.ownBlock])
                have hRW := (hR1B.out.keepS hkW (fun b hb => by simp at hb; subst hb; exact tag_C hbB.out)).setL hRn.out hy
                rw [← hres.out] at hRW
                have hk5 := st5k (k := n) (.int .i64 y.m) (.int .i64 y.ep) (slv y.v1) (slv y.v2) (slv y.v3) hcs
                exact ⟨Lib.hid (setRow5 hOW (by rw [hC1l.out]; omega) y), Lib.hid (hRW.keepS hk5 (fun b hb => by simp at hb; subst hb; exact tag_C hcs)), Lib.hid ((hkwB.out.fresh hkW (fun b hb => by simp at hb; subst hb; exact .inr hwXB)).fresh hk5 (fun b hb => by simp at hb; subst hb; exact .inr hgBw))⟩
              have hgo : MapS.get (a.ow, a.m, a.n) O = MapS.get (x1, x0, x2) O := by rw [m0.out, m1.out, m2.out]
              obtain ⟨go, hgo2⟩ : ∃ g, MapS.get (x1, x0, x2) O = g := ⟨_, rfl⟩
              rw [hgo2] at hoc hgo
              replace fin := Lib.hid fin
              replace hst3 := Lib.hid hst3
              replace hch3 := Lib.hid hch3
              replace hoc := Lib.hid hoc
              replace hgo2 := Lib.hid hgo2
              replace hkl0 := Lib.hid hkl0
              cases go with
              | some o2 =>
                have hstR : stR O a c.st = putN (x1, x2, o2) c.st := by unfold stR; rw [hgo, m1.out, m2.out]
                have hchR : chR O a c.ch = c.ch := by unfold chR; rw [hgo]
                replace hstR := Lib.hid hstR
                replace hchR := Lib.hid hchR
                replace hgo := Lib.hid hgo
                go_wp2_with fail
                refine hoc.out.mono ?_
                rintro e w2 ⟨rfl, hk2⟩
                have hpc := fun (h : shT.R w2 (.slice d2 d3 d4) c.st) => putR_c w2 (.slice d2 d3 d4) c.st (x1, x2, o2) h (by have := hbc.out 0 (by omega); simp only [PCl.at] at this; omega)
                simp only [tV] at hpc
                replace hpc := Lib.hid (hpc (hst3.out.keeps hk2).1)
                have hbx2 := (hk2.block XB zl (by simp)).trans hbx.out
                obtain ⟨z0, z1, z2, z3, z4, zl2⟩ := cells5 hbx2
                have hb12 := (hk2.block XA ylt (by simp)).trans hb1r.out
                obtain ⟨y0, y1, y2, y3, y4, y5, y6, y7, yf, ylt2⟩ := cells8 hb12
                replace hbx2 := Lib.hid hbx2
                replace hb12 := Lib.hid hb12
                clear hoc
                go_wp2_with fail
                refine hpc.out.mono ?_
                rintro e w3 ⟨v', rfl, hpp, hk3⟩
                have hp3 := (hst3.out.keeps hk2).put hk3 hpp
                have hk3w := hk2.trans hk3
                have hbx3 := (hk3.block XB zl2 (by simp)).trans hbx2.out
                obtain ⟨pa, pc, rfl, _⟩ := hp3.1.form
                obtain ⟨pn, hpn⟩ : ∃ n, (putN (x1, x2, o2) c.st).length = n := ⟨_, rfl⟩
                rw [hpn] at hp3 ⊢
                obtain ⟨q0, q1, q2, q3, q4, ql⟩ := cells5 hbx3
                have qf : ∀ o, w3.frozen? ⟨XB, o, none⟩ = false := fun o => by simp [World.frozen?, hbx3]
                have hkS : Keeps [XB] w3 (w3.setCell ⟨XB, 2, none⟩ (.slice pa pn pc)) := (Keeps.refl _ _).setCell (.inr (by simp)) _
                have hp4 := hp3.keepS hkS (fun b hb => by simp at hb; subst hb; exact tag_C hbx3)
                have hsc4 := (hNd.out.keeps hk3w).keepS hkS (fun b hb => by simp at hb; subst hb; exact tag_C hbx3)
                have hch4 := (hch3.out.keeps hk3w).keepS hkS (fun b hb => by simp at hb; subst hb; exact tag_C hbx3)
                have hklS := (hkl.out.trans hk3w.of_nil).trans hkS
                replace hp4 := Lib.hid hp4
                obtain ⟨g1, g2, g3⟩ := fin.out _ ⟨d0, d1, (pa, pn, pc), (sa, sn, sc), (d8, d9, d10)⟩ hklS ⟨hcm.out, hcep.out, by show Nd _ _ (stR O a c.st); rw [hstR.out]; exact hp4.out, hsc4, by show Nd _ _ (chR O a c.ch); rw [hchR.out]; exact hch4⟩
                have hkg : gc < w3.heap.size := Nat.lt_of_lt_of_le (Nat.lt_of_lt_of_le hgcw (hkl0.out)) (hk3w.size)
                have hgc3 := (((hC1B.out.keepS hkl.out (fun b hb e => by simp [Value.ownBlock] at e; simp at hb; omega)).keeps hk3w).r)
                obtain ⟨r0, r1, r2, r3, r4⟩ := crow5 hgc3 (by rw [hC1l.out]; omega)
                have hgf : ∀ o, w3.frozen? ⟨gc, o, none⟩ = false := fun o => by
                  obtain ⟨cs, hc⟩ := ((hC1B.out.keepS hkl.out (fun b hb e => by simp [Value.ownBlock] at e; simp at hb; omega)).keeps hk3w).tag gc (by simp [Value.ownBlock])
                  simp [World.frozen?, hc]
                replace hpn := Lib.hid hpn
                clear hp3 hpp hk3 hk2 hk3w hkS hpc hklS hp4 hgc3 hsc4 fin hch4
                go_wp2
                go_roundw
                case rel => exact ⟨k + 1, _, rfl, by omega, g1, g2, g3⟩
                case measure => simp [intOf]; omega
              | none =>
                have hstR : stR O a c.st = c.st := by unfold stR; rw [hgo]
                have hchR : chR O a c.ch = putN (x1, x2, 0) c.ch := by unfold chR; rw [hgo, m1.out, m2.out]
                replace hstR := Lib.hid hstR
                replace hchR := Lib.hid hchR
                replace hgo := Lib.hid hgo
                go_wp2_with fail
                refine hoc.out.mono ?_
                rintro e w2 ⟨rfl, hk2⟩
                have hpc := fun (h : shT.R w2 (.slice d8 d9 d10) c.ch) => putR_c w2 (.slice d8 d9 d10) c.ch (x1, x2, 0) h (by have := hbc.out 2 (by omega); simp only [PCl.at] at this; omega)
                simp only [tV] at hpc
                replace hpc := Lib.hid (hpc (hch3.out.keeps hk2).1)
                have hbx2 := (hk2.block XB zl (by simp)).trans hbx.out
                obtain ⟨z0, z1, z2, z3, z4, zl2⟩ := cells5 hbx2
                have hb12 := (hk2.block XA ylt (by simp)).trans hb1r.out
                obtain ⟨y0, y1, y2, y3, y4, y5, y6, y7, yf, ylt2⟩ := cells8 hb12
                replace hbx2 := Lib.hid hbx2
                replace hb12 := Lib.hid hb12
                clear hoc
                go_wp2_with fail
                refine hpc.out.mono ?_
                rintro e w3 ⟨v', rfl, hpp, hk3⟩
                have hp3 := (hch3.out.keeps hk2).put hk3 hpp
                have hk3w := hk2.trans hk3
                have hbx3 := (hk3.block XB zl2 (by simp)).trans hbx2.out
                obtain ⟨pa, pc, rfl, _⟩ := hp3.1.form
                obtain ⟨pn, hpn⟩ : ∃ n, (putN (x1, x2, 0) c.ch).length = n := ⟨_, rfl⟩
                rw [hpn] at hp3 ⊢
                obtain ⟨q0, q1, q2, q3, q4, ql⟩ := cells5 hbx3
                have qf : ∀ o, w3.frozen? ⟨XB, o, none⟩ = false := fun o => by simp [World.frozen?, hbx3]
                have hkS : Keeps [XB] w3 (w3.setCell ⟨XB, 4, none⟩ (.slice pa pn pc)) := (Keeps.refl _ _).setCell (.inr (by simp)) _
                have hp4 := hp3.keepS hkS (fun b hb => by simp at hb; subst hb; exact tag_C hbx3)
                have hsc4 := (hNd.out.keeps hk3w).keepS hkS (fun b hb => by simp at hb; subst hb; exact tag_C hbx3)
                have hst4 := (hst3.out.keeps hk3w).keepS hkS (fun b hb => by simp at hb; subst hb; exact tag_C hbx3)
                have hklS := (hkl.out.trans hk3w.of_nil).trans hkS
                replace hp4 := Lib.hid hp4
                obtain ⟨g1, g2, g3⟩ := fin.out _ ⟨d0, d1, (d2, d3, d4), (sa, sn, sc), (pa, pn, pc)⟩ hklS ⟨hcm.out, hcep.out, by show Nd _ _ (stR O a c.st); rw [hstR.out]; exact hst4, hsc4, by show Nd _ _ (chR O a c.ch); rw [hchR.out]; exact hp4.out⟩
                have hkg : gc < w3.heap.size := Nat.lt_of_lt_of_le (Nat.lt_of_lt_of_le hgcw (hkl0.out)) (hk3w.size)
                have hgc3 := (((hC1B.out.keepS hkl.out (fun b hb e => by simp [Value.ownBlock] at e; simp at hb; omega)).keeps hk3w).r)
                obtain ⟨r0, r1, r2, r3, r4⟩ := crow5 hgc3 (by rw [hC1l.out]; omega)
                have hgf : ∀ o, w3.frozen? ⟨gc, o, none⟩ = false := fun o => by
                  obtain ⟨cs, hc⟩ := ((hC1B.out.keepS hkl.out (fun b hb e => by simp [Value.ownBlock] at e; simp at hb; omega)).keeps hk3w).tag gc (by simp [Value.ownBlock])
                  simp [World.frozen?, hc]
                replace hpn := Lib.hid hpn
                clear hp3 hpp hk3 hk2 hk3w hkS hpc hklS hp4 hgc3 hsc4 fin hst4
                go_wp2
                go_roundw
                case rel => exact ⟨k + 1, _, rfl, by omega, g1, g2, g3⟩
                case measure => simp [intOf]; omega
    · have hkx : k = M := by omega
      subst hkx
      have hall : refOf t O (Y.take k) = refOf t O Y := by rw [← hM.out, List.take_length]
      rw [hall] at hRw
      go_wp2
      go_ret
      exact ⟨_, rfl, ⟨C, hC.out.r, hRw.out⟩, hkr.out⟩
end Go.Proofs.YthfdngjbcgkkfaaGreat

namespace Go.Proofs.YthfdngjbcgkkfaaGreat
open Go.RowKit

def Tr.shown (t : Tr) : Bool := t.state == 1 || (t.state == 2 || t.rf)
/-- What a trace claims. -/
def ClaimsV (w : World) (t : Tr) (v : Value) : Prop :=
  (t.shown = false ∧ v = .slice none 0 0) ∨ (t.shown = true ∧ ∃ P Y, LC w v P ∧ SortedA t Y ∧ ClaimsP t Y P)
def ClaimsPost (w : World) (t : Tr) (e : Ending) (w' : World) : Prop := ∃ v, e = .returned v ∧ ClaimsV w' t v ∧ Keeps [] w w'
set_option maxRecDepth 100000 in
set_option maxHeartbeats 4000000 in
theorem claimsT_c (w : World) (B bt bm : Nat) (vo vh vg : Value) (t : Tr) (h : TrM w B bt bm vo vh vg t) (hl : t.qs.length ≤ 1000) :
    Calls Tryz.prog 14 #[.pointer (some ⟨bt, 0, none⟩)] w (ClaimsPost w t) := by
  have hcl := claims_c w B bt bm vo vh vg t h hl
  have c9 := h.cells.2.2.2.2.2.2.2.2.2.1
  have c11 := h.cells.2.2.2.2.2.2.2.2.2.2.2
  obtain ⟨rf, hrf⟩ : ∃ b, t.rf = b := ⟨_, rfl⟩
  rw [hrf] at c11
  obtain ⟨sh, hsh⟩ : ∃ b, t.shown = b := ⟨_, rfl⟩
  have hsd : sh = (t.state == 1 || (t.state == 2 || rf)) := by rw [← hsh, ← hrf]; rfl
  replace hcl := Lib.hid hcl
  replace hrf := Lib.hid hrf
  replace hsh := Lib.hid hsh
  replace hsd := Lib.hid hsd
  clear h
  have done : ∀ (e : Ending) (w' : World), sh = true → ClmPost w t e w' → ∃ v, e = .returned v ∧ Hid (ClaimsV w' t v) ∧ Hid (Keeps [] w w') := by
    rintro e w' h1 ⟨vc, P, V, Bc, Y, rfl, g1, g2, g3, g4, g5⟩
    exact ⟨vc, rfl, Lib.hid (.inr ⟨hsh.out.trans h1, P, Y, g2.lc, g3, g4⟩), Lib.hid g5⟩
  replace done := Lib.hid done
  by_cases s1 : t.state = 1
  · have hs : sh = true := by rw [hsd.out, s1]; rfl
    rw [s1] at c9
    replace hs := Lib.hid hs
    replace s1 := Lib.hid s1
    go_enter Tryz.func14, Tryz.ntmps14
    go_wp2_with fail
    refine hcl.out.mono ?_
    intro e w1 hp
    obtain ⟨v, rfl, h1, h2⟩ := done.out e w1 hs.out hp
    clear hp
    go_wp2
    go_ret
    exact ⟨v, rfl, h1.out, h2.out⟩
  · have b1 : (t.state != 1) = true := by simpa using s1
    by_cases s2 : t.state = 2
    · have hs : sh = true := by rw [hsd.out, s2]; rfl
      rw [s2] at c9
      replace hs := Lib.hid hs
      replace s2 := Lib.hid s2
      replace s1 := Lib.hid s1
      clear b1
      go_enter Tryz.func14, Tryz.ntmps14
      go_wp2_with fail
      refine hcl.out.mono ?_
      intro e w1 hp
      obtain ⟨v, rfl, h1, h2⟩ := done.out e w1 hs.out hp
      clear hp
      go_wp2
      go_ret
      exact ⟨v, rfl, h1.out, h2.out⟩
    · have b2 : (t.state != 2) = true := by simpa using s2
      cases rf with
      | true =>
        have hs : sh = true := by rw [hsd.out]; simp
        replace hs := Lib.hid hs
        replace s2 := Lib.hid s2
        replace s1 := Lib.hid s1
        go_enter Tryz.func14, Tryz.ntmps14
        go_wp2_with fail
        refine hcl.out.mono ?_
        intro e w1 hp
        obtain ⟨v, rfl, h1, h2⟩ := done.out e w1 hs.out hp
        clear hp
        go_wp2
        go_ret
        exact ⟨v, rfl, h1.out, h2.out⟩
      | false =>
        have hs : sh = false := by rw [hsd.out]; simp [s1, s2]
        replace hs := Lib.hid hs
        replace s2 := Lib.hid s2
        replace s1 := Lib.hid s1
        go_enter Tryz.func14, Tryz.ntmps14
        go_wp2
        go_ret
        exact ⟨_, rfl, .inl ⟨hsh.out.trans hs.out, rfl⟩, Keeps.refl _ _⟩
end Go.Proofs.YthfdngjbcgkkfaaGreat

namespace Go.Proofs.YthfdngjbcgkkfaaGreat
open Go.RowKit

theorem sizeC : (Tryz.prog.info? tC).map (·.size) = some 5 := by kernel_rfl
theorem load_clm (w : World) (g : Nat) (t : TypeId) (x0 x1 x2 x3 x4 : Value) (f : Nat × Nat) (hg : w.heap[g]? = some (.cells #[x0, x1, x2, x3, x4] t f)) : (loadVar tC ⟨g, 0, none⟩).run Tryz.prog w = .ok (.agg #[x0, x1, x2, x3, x4]) w :=
  run_loadVar_row w g t tC #[x0, x1, x2, x3, x4] f _ hg Tryz.underlying61 rfl sizeC
theorem results_clm {fn : Func} {p u : Tmp} (h : fn.results = #[.cell p tC, .tmp u]) (tmps : Array Value) (w : World) (g : Nat) (t : TypeId) (x0 x1 x2 x3 x4 : Value) (f : Nat × Nat) (hp : tmps.getD p undef = .pointer (some ⟨g, 0, none⟩))
    (hg : w.heap[g]? = some (.cells #[x0, x1, x2, x3, x4] t f)) : (results fn tmps).run Tryz.prog w = .ok (.tuple #[.agg #[x0, x1, x2, x3, x4], tmps.getD u undef]) w := by
  have hp' : tmps[p]?.getD undef = .pointer (some ⟨g, 0, none⟩) := by simpa using hp
  simp [results, h, hp', asAddr, load_clm w g t x0 x1 x2 x3 x4 f hg]
def ClV.zero : ClV := ⟨0, 0, nilT, nilT, nilT⟩
def PCl.zero : PCl := ⟨0, 0, [], [], []⟩
def ClaimPost (w : World) (t : Tr) (e : Ending) (w' : World) : Prop :=
  ∃ (x : ClV) (p : PCl), e = .returned (.tuple #[clV x, .bool (t.state == 1)]) ∧ CR w' x p ∧ Keeps [] w w' ∧
    ((t.state ≠ 1 ∧ p = PCl.zero) ∨ (t.state = 1 ∧ ∃ P Y, SortedA t Y ∧ ClaimsP t Y P ∧ P[t.ag.length]? = some p))
set_option maxRecDepth 100000 in
set_option maxHeartbeats 4000000 in
theorem claim_c (w : World) (B bt bm : Nat) (vo vh vg : Value) (t : Tr) (h : TrM w B bt bm vo vh vg t) (hl : t.qs.length ≤ 1000) (hag : t.state = 1 → ∀ P Y, SortedA t Y → ClaimsP t Y P → t.ag.length < P.length) :
    Calls Tryz.prog 32 #[.pointer (some ⟨bt, 0, none⟩)] w (ClaimPost w t) := by
  have c9 := h.cells.2.2.2.2.2.2.2.2.2.1
  have hlt := h.lt
  by_cases hs : t.state = 1
  case neg =>
    have b1 : (t.state != 1) = true := by simpa using hs
    have b2 : (t.state == 1) = false := by simpa using hs
    replace hs := Lib.hid hs
    have hb0 := heap_alloc_new w (.cells #[.int .i64 0, .int .i64 0, .slice none 0 0, .slice none 0 0, .slice none 0 0] tC)
    have hkA := (Keeps.refl [] w).alloc (.cells #[.int .i64 0, .int .i64 0, .slice none 0 0, .slice none 0 0, .slice none 0 0] tC)
    replace hkA := Lib.hid hkA
    replace hb0 := Lib.hid hb0
    clear h
    go_enter Tryz.func32, Tryz.ntmps32
    go_wp2
    refine bodyPost_ret (results_clm rfl _ _ _ _ _ _ _ _ _ _ rfl hb0.out) rfl ?_
    exact ⟨ClV.zero, PCl.zero, by rw [b2]; rfl, ⟨rfl, rfl, Sh.R.nil _ _, Sh.R.nil _ _, Sh.R.nil _ _⟩, hkA.out, .inl ⟨hs.out, rfl⟩⟩
  case pos =>
    have b2 : (t.state == 1) = true := by simpa using hs
    have c10 := h.cells.2.2.2.2.2.2.2.2.2.2.1
    obtain ⟨ga, gc, rfl⟩ := h.ag.form
    obtain ⟨LG, hLG⟩ : ∃ n, t.ag.length = n := ⟨_, rfl⟩
    rw [hLG] at h c10
    have hb0 := heap_alloc_new w (.cells #[.int .i64 0, .int .i64 0, .slice none 0 0, .slice none 0 0, .slice none 0 0] tC)
    have hkA := (Keeps.refl [] w).alloc (.cells #[.int .i64 0, .int .i64 0, .slice none 0 0, .slice none 0 0, .slice none 0 0] tC)
    have hcl := fun (W : World) (hk : Keeps [] w W) => claims_c W B bt bm vo vh _ t (h.keeps hk) hl
    rw [hs] at c9
    replace hkA := Lib.hid hkA
    replace hb0 := Lib.hid hb0
    replace hcl := Lib.hid hcl
    replace hs := Lib.hid hs
    replace hag := Lib.hid hag
    replace hLG := Lib.hid hLG
    replace b2 := Lib.hid b2
    clear h
    go_enter Tryz.func32, Tryz.ntmps32
    go_wp2
    generalize (w.alloc (.cells #[.int .i64 0, .int .i64 0, .slice none 0 0, .slice none 0 0, .slice none 0 0] tC)) = WA at *
    have c10 := hkA.out.val c10
    have hltA : bt < WA.heap.size := Nat.lt_of_lt_of_le hlt.1 hkA.out.size
    refine Free.wp_region_chain (fun i => i == 1 || i == 8 || i == 9) (fun i => true) (fun j b => j = 9 ∧ b = w.heap.size) (by kernel_rfl) (by kernel_rfl) (by kernel_rfl) ?_
    (repeat (first | (apply Free.cw_pure rfl rfl; (intro w'; go_simp <;> exact rfl); go_frame) | (apply Free.cw_steady rfl rfl rfl; (intro w' hS; have q0 := Free.sx_cell hS c10 (fun _ _ hT => by have := hT.2; omega); go_simp <;> exact rfl); go_frame) | (refine Free.cw_skip rfl ?_; go_frame)))
    refine Free.cw_loud rfl rfl (fun K hK => ?_)
    go_wp2_with fail
    refine (hcl.out _ (hkA.out.trans ((Keeps.refl [] _).drew))).mono ?_
    rintro e w2 ⟨vc, P, V, Bc, Y, rfl, g1, g2, g3, g4, g5⟩
    refine hK _ _ rfl (Free.KeepsP.of g5 (by simp)) ?_
    clear hK K hcl
    have c10w := (((Keeps.refl [] WA).drew).trans g5).val c10
    have hltP := hag.out hs.out P Y g3 g4
    rw [hLG.out] at hltP
    obtain ⟨gl, cc, rfl, hgB, hgl, m0, m1, m2, m3, m4, _⟩ := g2.row hltP
    have hXl : w.heap.size < WA.heap.size := lt_of_blk hb0.out
    have hbX := (g5.block w.heap.size hXl (by simp)).trans hb0.out
    have hWl : WA.heap.size ≤ gl := Nat.le_trans g1 hgB
    have hne : gl ≠ w.heap.size := by omega
    obtain ⟨x0, x1, x2, x3, x4, xl⟩ := cells5 hbX
    have xf : ∀ o, w2.frozen? ⟨w.heap.size, o, none⟩ = false := fun o => by simp [World.frozen?, hbX]
    have hro := g2.o LG
    obtain ⟨NP, hNP⟩ : ∃ n, P.length = n := ⟨_, rfl⟩
    rw [hNP] at hltP ⊢
    obtain ⟨⟨a1, a2, a3⟩, hv1⟩ : ∃ x, V LG 0 = x := ⟨_, rfl⟩
    obtain ⟨⟨b1, b2', b3⟩, hv2⟩ : ∃ x, V LG 1 = x := ⟨_, rfl⟩
    obtain ⟨⟨d1, d2, d3⟩, hv3⟩ : ∃ x, V LG 2 = x := ⟨_, rfl⟩
    simp only [hv1, hv2, hv3, slv] at m2 m3 m4
    replace hbX := Lib.hid hbX
    replace hNP := Lib.hid hNP
    replace g2 := Lib.hid g2
    replace g3 := Lib.hid g3
    replace g4 := Lib.hid g4
    replace g5 := Lib.hid g5
    clear hro
    (repeat (first | (apply Free.cw_pure rfl rfl; (intro w'; go_simp <;> exact rfl); go_frame) | (apply Free.cw_steady rfl rfl rfl; (intro w' hS; have q0 := Free.sx_cell hS c10 (fun _ _ hT => by have := hT.2; omega); go_simp <;> exact rfl); go_frame) | (refine Free.cw_skip rfl ?_; go_frame)))
    refine Free.cw_loud rfl rfl (fun K hK => ?_)
    go_wp2
    refine hK _ _ rfl (Free.KeepsP.refl _ _) ?_
    clear hK K
    (repeat (apply Free.cw_pure rfl rfl; (intro w'; go_simp <;> exact rfl); go_frame))
    refine Free.cw_loud rfl rfl (fun K hK => ?_)
    go_wp2
    have hkS : Keeps [w.heap.size] w2 (((((w2.setCell ⟨w.heap.size, 0, none⟩ (.int .i64 P[LG].m)).setCell ⟨w.heap.size, 1, none⟩ (.int .i64 P[LG].ep)).setCell ⟨w.heap.size, 2, none⟩ (.slice a1 a2 a3)).setCell ⟨w.heap.size, 3, none⟩ (.slice b1 b2' b3)).setCell ⟨w.heap.size, 4, none⟩ (.slice d1 d2 d3)) := (((((Keeps.refl _ _).setCell (.inr (by simp)) _).setCell (.inr (by simp)) _).setCell (.inr (by simp)) _).setCell (.inr (by simp)) _).setCell (.inr (by simp)) _
    have hbS : (((((w2.setCell ⟨w.heap.size, 0, none⟩ (.int .i64 P[LG].m)).setCell ⟨w.heap.size, 1, none⟩ (.int .i64 P[LG].ep)).setCell ⟨w.heap.size, 2, none⟩ (.slice a1 a2 a3)).setCell ⟨w.heap.size, 3, none⟩ (.slice b1 b2' b3)).setCell ⟨w.heap.size, 4, none⟩ (.slice d1 d2 d3)).heap[w.heap.size]? = some (.cells #[.int .i64 P[LG].m, .int .i64 P[LG].ep, .slice a1 a2 a3, .slice b1 b2' b3, .slice d1 d2 d3] tC (0, 0)) := by
      have := setCs (setCs (setCs (setCs (setCs hbX.out 0 (.int .i64 P[LG].m)) 1 (.int .i64 P[LG].ep)) 2 (.slice a1 a2 a3)) 3 (.slice b1 b2' b3)) 4 (.slice d1 d2 d3)
      simpa using this
    refine hK _ _ rfl (Free.KeepsP.of hkS (fun b hb => ⟨trivial, by simpa using hb⟩)) ?_
    clear hK K
    replace hkS := Lib.hid hkS
    replace hbS := Lib.hid hbS
    generalize (((((w2.setCell ⟨w.heap.size, 0, none⟩ (.int .i64 P[LG].m)).setCell ⟨w.heap.size, 1, none⟩ (.int .i64 P[LG].ep)).setCell ⟨w.heap.size, 2, none⟩ (.slice a1 a2 a3)).setCell ⟨w.heap.size, 3, none⟩ (.slice b1 b2' b3)).setCell ⟨w.heap.size, 4, none⟩ (.slice d1 d2 d3)) = W5 at *
    (repeat (apply Free.cw_pure rfl rfl; (intro w'; go_simp <;> exact rfl); go_frame))
    refine Free.cw_nil ?_
    go_wp2
    refine bodyPost_ret (results_clm rfl _ _ _ _ _ _ _ _ _ _ rfl hbS.out) rfl ?_
    have hPl : LG < P.length := by rw [hNP.out]; exact hltP
    have hOk : ∀ j (hj : j < 3), shT.R W5 (slv (V LG j)) (P[LG].at j) := fun j hj => ((g2.out.o LG j hPl hj).keepS hkS.out (fun b hb e => by
      simp at hb; subst hb
      exact absurd (Nat.lt_of_lt_of_le hXl (Nat.le_trans g1 ((g2.out.o LG j hPl hj).ge _ e))) (Nat.lt_irrefl _))).r
    have r1 := hOk 0 (by omega)
    have r2 := hOk 1 (by omega)
    have r3 := hOk 2 (by omega)
    rw [hv1] at r1
    rw [hv2] at r2
    rw [hv3] at r3
    exact ⟨⟨P[LG].m, P[LG].ep, (a1, a2, a3), (b1, b2', b3), (d1, d2, d3)⟩, P[LG], by rw [b2.out]; rfl, ⟨rfl, rfl, r1, r2, r3⟩, ((hkA.out.trans ((Keeps.refl [] WA).drew)).trans g5.out).fresh hkS.out (fun b hb => by simp at hb; subst hb; exact .inr (Nat.le_refl _)), .inr ⟨hs.out, P, Y, g3.out, g4.out, by rw [hLG.out]; exact List.getElem?_eq_getElem _⟩⟩
end Go.Proofs.YthfdngjbcgkkfaaGreat

namespace Go.Proofs.YthfdngjbcgkkfaaGreat
open Go.RowKit

/-- The first answer of a table to a question. -/
def lookA (T : List Ans) (q : Qn) : Option Ans := T.find? (fun a => decide (a.q = q))
def ansOf (T : List Ans) (q : Qn) : Ans := (lookA T q).getD ⟨q.1, q.2.1, q.2.2, 0, false, false, 0, []⟩
theorem lookA_some {T : List Ans} {q : Qn} {a : Ans} (h : lookA T q = some a) : a ∈ T ∧ a.q = q := by
  unfold lookA at h
  exact ⟨List.mem_of_find?_eq_some h, by simpa using List.find?_some h⟩
theorem ansOf_q (T : List Ans) (q : Qn) : (ansOf T q).q = q := by
  unfold ansOf
  cases h : lookA T q with
  | none => rfl
  | some a => exact (lookA_some h).2
/-- The questions that lead on from the start. -/
inductive Rch (T : List Ans) (s : Qn) : Qn → Prop
  | start : Rch T s s
  | step {q : Qn} {a : Ans} {x : T3} : Rch T s q → lookA T q = some a → a.kn = true → a.rt = false → x ∈ a.ins → Rch T s (x.1, a.m, x.2.1)
def askq (q : Qn) : T3 := (q.1, q.2.2, q.2.1)
def qask (e : T3) : Qn := (e.1, e.2.2, e.2.1)
theorem qask_askq (q : Qn) : qask (askq q) = q := rfl
theorem askOf_none (q : Qn) : askOf (q, none) = some (askq q) := rfl
theorem askOf_some (q : Qn) (a : Ans) : askOf (q, some a) = none := rfl
theorem ask_setQ {q : Qn} {a : Ans} : ∀ {qs : Qs}, (qs.map (·.1)).Nodup → (q, none) ∈ qs → (qs.filterMap askOf).Perm (askq q :: (setQ q a qs).filterMap askOf)
  | [], _, h => by simp at h
  | (x, u) :: r, hn, h => by
    obtain ⟨h1, h2⟩ := List.nodup_cons.1 hn
    rw [setQ_cons]
    rcases List.mem_cons.1 h with e | hm
    · cases e
      rw [if_pos rfl, setQ_same h1, List.filterMap_cons_some (askOf_none q), List.filterMap_cons_none (askOf_some q a)]
    · have hx : x ≠ q := fun e => h1 (List.mem_map.2 ⟨(q, none), hm, e.symm⟩)
      have ih := ask_setQ (a := a) h2 hm
      rw [if_neg hx]
      cases u with
      | none =>
        rw [List.filterMap_cons_some (askOf_none x), List.filterMap_cons_some (askOf_none x)]
        exact (ih.cons _).trans (List.Perm.swap _ _ _)
      | some b => rw [List.filterMap_cons_none (askOf_some x b), List.filterMap_cons_none (askOf_some x b)]; exact ih
theorem ask_mem {qs : Qs} {e : T3} (h : e ∈ qs.filterMap askOf) : (qask e, none) ∈ qs := by
  obtain ⟨⟨q, u⟩, h1, h2⟩ := List.mem_filterMap.1 h
  cases u with
  | none => rw [askOf_none] at h2; cases h2; exact h1
  | some a => rw [askOf_some] at h2; cases h2
theorem ask_nil {qs : Qs} (h : qs.filterMap askOf = []) : allQ qs = true := by
  unfold allQ
  rw [List.all_eq_true]
  rintro ⟨q, u⟩ hp
  cases u with
  | none =>
    have := List.filterMap_eq_nil_iff.1 h _ hp
    rw [askOf_none] at this; cases this
  | some a => rfl
theorem fold_app (m : Int) : ∀ (l : List T3) (qs : Qs), ∃ N, l.foldl (openQ m) qs = qs ++ N ∧ (∀ p ∈ N, p.2 = none ∧ ∃ x ∈ l, p.1 = (x.1, m, x.2.1)) ∧ N.length ≤ l.length ∧ ∀ x ∈ l, (x.1, m, x.2.1) ∈ (qs ++ N).map (·.1)
  | [], qs => ⟨[], by simp, by simp, by simp, by simp⟩
  | x :: r, qs => by
    rw [List.foldl_cons]
    obtain ⟨N, h1, h2, h3, h4⟩ := fold_app m r (openQ m qs x)
    rw [h1]
    unfold openQ at h4 ⊢
    split
    · rename_i h
      rw [if_pos h] at h4
      refine ⟨N, rfl, fun p hp => ⟨(h2 p hp).1, ?_⟩, by simp; omega, fun y hy => ?_⟩
      · obtain ⟨y, hy, e⟩ := (h2 p hp).2
        exact ⟨y, by simp [hy], e⟩
      · rcases List.mem_cons.1 hy with rfl | hy
        · rw [List.map_append]; exact List.mem_append_left _ h
        · exact h4 y hy
    · rename_i h
      rw [if_neg h] at h4
      refine ⟨((x.1, m, x.2.1), none) :: N, by simp, fun p hp => ?_, by simp; omega, fun y hy => ?_⟩
      · rcases List.mem_cons.1 hp with rfl | hp
        · exact ⟨rfl, x, by simp, rfl⟩
        · obtain ⟨y, hy, e⟩ := (h2 p hp).2
          exact ⟨(h2 p hp).1, y, by simp [hy], e⟩
      · rcases List.mem_cons.1 hy with rfl | hy
        · simp
        · have := h4 y hy
          simpa using this
/-- Some question that leads on is not answered well. -/
def BadQ (T : List Ans) (s : Qn) : Prop := ∃ q, Rch T s q ∧ ∀ a, lookA T q = some a → a.kn = false ∨ a.rt = true ∨ ∃ b ∈ T, b.m = a.m ∧ b.ep ≠ a.ep
structure FinI (T : List Ans) (s : Qn) (t : Tr) : Prop where
  rch : ∀ q ∈ t.op, Rch T s q
  rc : ∀ p ∈ t.rec', lookA T p.1 = some p.2 ∧ p.2.kn = true ∧ p.2.rt = false
  cl : ∀ p ∈ t.rec', ∀ x ∈ p.2.ins, (x.1, p.2.m, x.2.1) ∈ t.op
  opn : ∀ q ∈ t.op, q = s ∨ ∃ p ∈ t.rec', ∃ x ∈ p.2.ins, q = (x.1, p.2.m, x.2.1)
  hs : s ∈ t.op
  hist : t.state = 0 → ∀ a ∈ t.hist, a ∈ T
  st : (t.state = 0 ∧ allQ t.qs = false) ∨ (t.state = 1 ∧ allQ t.qs = true) ∨ ((t.state = 3 ∨ t.state = 4) ∧ BadQ T s)
  len : t.qs.length ≤ 1 + 5 * t.rec'.length
  hl : t.hist.length ≤ t.rec'.length + 1
  hl0 : t.state = 0 → t.hist.length = t.rec'.length
  ag : t.ag = []
  rf : t.rf = false
  nd : t.op.Nodup
def FinO (t : Tr) (o : List T3) : Prop := ∃ tn : Nat, t.told = tn ∧ tn ≤ t.qs.length ∧ o.Perm ((t.qs.take tn).filterMap askOf)
theorem FinI.new (T : List Ans) (im is : Int) (st : T3) : FinI T (im, st.1, st.2.1) (Tr.new im is st) :=
  ⟨fun q hq => by simp [Tr.op, Tr.new] at hq; subst hq; exact .start, by simp [Tr.rec', Tr.new, recOf], by simp [Tr.rec', Tr.new, recOf], fun q hq => by simp [Tr.op, Tr.new] at hq; exact .inl hq, by simp [Tr.op, Tr.new],
    by simp [Tr.new], .inl ⟨rfl, rfl⟩, by simp [Tr.new], by simp [Tr.new], by simp [Tr.new, Tr.rec', recOf], rfl, rfl, by simp [Tr.op, Tr.new]⟩
theorem FinO.new (im is : Int) (st : T3) : FinO (Tr.new im is st) [] := ⟨0, rfl, by simp, by simp⟩
/-- Behind the queries. -/
theorem FinO.ask {t : Tr} {o : List T3} (h : FinO t o) (h0 : t.state = 0) : (o ++ t.queries.2).Perm (t.qs.filterMap askOf) ∧ t.queries.1 = { t with told := t.qs.length } := by
  obtain ⟨tn, h1, h2, h3⟩ := h
  have hq : t.queries = ({ t with told := t.qs.length }, (t.qs.drop tn).filterMap askOf) := by unfold Tr.queries; rw [if_neg (by simp [h0]), h1]; rfl
  rw [hq]
  refine ⟨?_, rfl⟩
  have : t.qs.filterMap askOf = (t.qs.take tn).filterMap askOf ++ (t.qs.drop tn).filterMap askOf := by rw [← List.filterMap_append, List.take_append_drop]
  rw [this]
  exact h3.append_right _
theorem FinI.told {T : List Ans} {s : Qn} {t : Tr} (h : FinI T s t) (n : Int) : FinI T s { t with told := n } := ⟨h.rch, h.rc, h.cl, h.opn, h.hs, h.hist, h.st, h.len, h.hl, h.hl0, h.ag, h.rf, h.nd⟩
theorem FinI.ask {T : List Ans} {s : Qn} {t : Tr} (h : FinI T s t) : FinI T s t.queries.1 := by
  unfold Tr.queries
  split
  · exact h
  · exact h.told _
theorem FinI.open_ne {T : List Ans} {s : Qn} {t : Tr} (h : FinI T s t) (h0 : t.state = 0) {o : List T3} (ho : o.Perm (t.qs.filterMap askOf)) : o ≠ [] := fun e => by
  subst e
  have := ask_nil (List.nil_perm.1 ho)
  rcases h.st with ⟨_, h1⟩ | ⟨h1, _⟩ | ⟨h1, _⟩
  · rw [this] at h1; cases h1
  · omega
  · omega
theorem split_at {α : Type} (o : List α) (k : Nat) (hk : k < o.length) : o = o.take k ++ o[k] :: o.drop (k + 1) := by
  rw [← List.drop_eq_getElem_cons hk, List.take_append_drop]
/-- One round. -/
theorem FinI.round {T : List Ans} {s : Qn} {t : Tr} (h : FinI T s t) (h0 : t.state = 0) {o : List T3} (ho : o.Perm (t.qs.filterMap askOf)) (hT : ∀ a ∈ T, a.ins.length ≤ 5) (k : Nat) (hk : k < o.length) (htold : t.told = t.qs.length) :
    isOpen (qask o[k]) t.qs = true ∧ FinI T s (t.answer (ansOf T (qask o[k]))).1 ∧ ((t.answer (ansOf T (qask o[k]))).1.state = 0 → FinO (t.answer (ansOf T (qask o[k]))).1 (o.take k ++ o.drop (k + 1)) ∧ (t.answer (ansOf T (qask o[k]))).1.rec'.length = t.rec'.length + 1) := by
  obtain ⟨q, hq⟩ : ∃ q, qask o[k] = q := ⟨_, rfl⟩
  have hmem : (q, none) ∈ t.qs := by rw [← hq]; exact ask_mem (ho.mem_iff.1 (List.getElem_mem hk))
  have hop : isOpen q t.qs = true := isOpen_mem.2 hmem
  have hqo : q ∈ t.op := List.mem_map.2 ⟨_, hmem, rfl⟩
  have hr := h.rch q hqo
  rw [hq]
  refine ⟨hop, ?_⟩
  obtain ⟨a, ha⟩ : ∃ a, ansOf T q = a := ⟨_, rfl⟩
  have haq : a.q = q := by rw [← ha]; exact ansOf_q T q
  rw [ha]
  unfold Tr.answer
  rw [if_neg (by simp [h0]), haq, if_neg (by simp [hop])]
  have stop : ∀ (sx : Int), sx = 3 ∨ sx = 4 → BadQ T s → FinI T s { t.take a with state := sx } := fun sx hsx hb =>
    ⟨h.rch, h.rc, h.cl, h.opn, h.hs, fun e => by simp at e; omega, .inr (.inr ⟨hsx, hb⟩), h.len, by have := h.hl0 h0; simp [Tr.take, Tr.rec'] at this ⊢; omega, fun e => by simp at e; omega, h.ag, h.rf, h.nd⟩
  have hlook : ∀ b, lookA T q = some b → b = a := fun b hb => by rw [← ha]; unfold ansOf; rw [hb]; rfl
  by_cases hkn : a.kn = false
  · rw [if_pos hkn]
    exact ⟨stop 4 (.inr rfl) ⟨q, hr, fun b hb => .inl (by rw [hlook b hb]; exact hkn)⟩, fun e => by simp at e⟩
  rw [if_neg hkn]
  have hkn : a.kn = true := by simpa using hkn
  by_cases hrt : a.rt = true
  · rw [if_pos hrt]
    exact ⟨stop 3 (.inl rfl) ⟨q, hr, fun b hb => .inr (.inl (by rw [hlook b hb]; exact hrt))⟩, fun e => by simp at e⟩
  rw [if_neg hrt]
  have hrt : a.rt = false := by simpa using hrt
  have hla : lookA T q = some a := by
    unfold ansOf at ha
    cases e : lookA T q with
    | some b => rw [e] at ha; simp at ha; rw [ha]
    | none => rw [e] at ha; simp at ha; rw [← ha] at hkn; simp at hkn
  have haT := (lookA_some hla).1
  by_cases hodd : (t.hist ++ [a]).any (Ans.odd a.m a.ep) = true
  · rw [if_pos hodd]
    refine ⟨stop 4 (.inr rfl) ⟨q, hr, fun b hb => ?_⟩, fun e => by simp at e⟩
    rw [hlook b hb]
    obtain ⟨c, hc, hod⟩ := List.any_eq_true.1 hodd
    have hcT : c ∈ T := by
      rcases List.mem_append.1 hc with hc | hc
      · exact h.hist h0 c hc
      · simp at hc; subst hc; exact haT
    unfold Ans.odd at hod
    simp at hod
    exact .inr (.inr ⟨c, hcT, hod.1, hod.2⟩)
  rw [if_neg hodd]
  obtain ⟨N, n1, n2, n3, n4⟩ := fold_app a.m a.ins (setQ a.q a t.qs)
  have hqs : ((t.take a).put a).qs = setQ a.q a t.qs ++ N := n1
  have hrec : recOf (setQ a.q a t.qs ++ N) = recOf (setQ a.q a t.qs) := by rw [← n1]; exact fold_rec _ _ _
  have hqn : ∀ b, (b ∈ (setQ a.q a t.qs ++ N).map (·.1)) ↔ b ∈ t.op ∨ b ∈ N.map (·.1) := fun b => by rw [List.map_append, setQ_keys, List.mem_append]; rfl
  have hq2 : a.q ∈ t.qs.map (·.1) := by rw [haq]; exact hqo
  have hmemr : ∀ p, p ∈ recOf (setQ a.q a t.qs) ↔ (p.1 = a.q ∧ p.2 = a) ∨ (p.1 ≠ a.q ∧ p ∈ t.rec') := fun ⟨k, b⟩ => by
    rw [recOf_keys, setQ_mem hq2]
    simp only [Option.some.injEq]
    unfold Tr.rec'
    rw [recOf_keys]
  have hlen := setQ_len (a := a) h.nd (show (a.q, none) ∈ t.qs by rw [haq]; exact hmem)
  have hnew : ∀ b ∈ N.map (·.1), ∃ x ∈ a.ins, b = (x.1, a.m, x.2.1) := fun b hb => by
    obtain ⟨p, hp, rfl⟩ := List.mem_map.1 hb
    exact (n2 p hp).2
  have hold : ∀ p ∈ t.rec', p ∈ recOf (setQ a.q a t.qs) := fun p hp => by
    refine (hmemr p).2 (.inr ⟨fun e => ?_, hp⟩)
    obtain ⟨k, b⟩ := p
    have h1 := recOf_keys.1 hp
    simp only at e
    subst e
    have h2 : (a.q, none) ∈ t.qs := by rw [haq]; exact hmem
    have := nd_val h.nd h1 h2
    cases this
  have hself : (a.q, a) ∈ recOf (setQ a.q a t.qs) := (hmemr _).2 (.inl ⟨rfl, rfl⟩)
  have hrl : (setQ a.q a t.qs).length = t.qs.length := by unfold setQ; simp
  have hgen : ∀ (t' : Tr), t'.qs = setQ a.q a t.qs ++ N → t'.hist = t.hist ++ [a] → t'.ag = t.ag → t'.rf = t.rf → ((t'.state = 0 ∧ allQ t'.qs = false) ∨ (t'.state = 1 ∧ allQ t'.qs = true)) → FinI T s t' := by
    intro t' e1 e2 e3 e4 e5
    have hr' : t'.rec' = recOf (setQ a.q a t.qs) := by unfold Tr.rec'; rw [e1, hrec]
    have ho' : ∀ b, b ∈ t'.op ↔ b ∈ t.op ∨ b ∈ N.map (·.1) := fun b => by unfold Tr.op; rw [e1]; exact hqn b
    refine ⟨fun b hb => ?_, fun p hp => ?_, fun p hp x hx => ?_, fun b hb => ?_, ?_, fun _ b hb => ?_, ?_, ?_, ?_, fun _ => ?_, e3.trans h.ag, e4.trans h.rf, ?_⟩
    · rcases (ho' b).1 hb with hb | hb
      · exact h.rch b hb
      · obtain ⟨x, hx, rfl⟩ := hnew b hb
        exact .step hr hla hkn hrt hx
    · rw [hr'] at hp
      rcases (hmemr p).1 hp with ⟨h1, h2⟩ | ⟨_, h2⟩
      · rw [h1, h2, haq]; exact ⟨hla, hkn, hrt⟩
      · exact h.rc p h2
    · rw [hr'] at hp
      refine (ho' _).2 ?_
      rcases (hmemr p).1 hp with ⟨h1, h2⟩ | ⟨_, h2⟩
      · rw [h2] at hx ⊢
        exact (hqn _).1 (n4 x hx)
      · exact .inl (h.cl p h2 x hx)
    · rw [hr']
      rcases (ho' b).1 hb with hb | hb
      · rcases h.opn b hb with e | ⟨p, hp, x, hx, e⟩
        · exact .inl e
        · exact .inr ⟨p, hold p hp, x, hx, e⟩
      · obtain ⟨x, hx, rfl⟩ := hnew b hb
        exact .inr ⟨(a.q, a), hself, x, hx, rfl⟩
    · exact (ho' s).2 (.inl h.hs)
    · rw [e2] at hb
      rcases List.mem_append.1 hb with hb | hb
      · exact h.hist h0 b hb
      · simp at hb; subst hb; exact haT
    · rcases e5 with e5 | e5
      · exact .inl e5
      · exact .inr (.inl e5)
    · rw [hr', hlen, e1, List.length_append, hrl]
      have := h.len
      have := hT a haT
      simp only [Tr.rec'] at *
      omega
    · rw [hr', hlen, e2, List.length_append]
      have := h.hl0 h0
      simp only [Tr.rec'] at *
      simp; omega
    · rw [hr', hlen, e2, List.length_append]
      have := h.hl0 h0
      simp only [Tr.rec'] at *
      simp; omega
    · have : t'.op = (a.ins.foldl (openQ a.m) (setQ a.q a t.qs)).map (·.1) := by unfold Tr.op; rw [e1, n1]
      rw [this]
      exact fold_nd _ _ _ (by rw [setQ_keys]; exact h.nd)
  unfold Tr.close
  by_cases hall : allQ ((t.take a).put a).qs = true
  · rw [if_pos hall]
    exact ⟨hgen _ hqs rfl rfl rfl (.inr ⟨rfl, hall⟩), fun e => by simp at e⟩
  · rw [if_neg hall]
    refine ⟨hgen _ hqs rfl rfl rfl (.inl ⟨h0, by simpa using hall⟩), fun _ => ⟨⟨t.qs.length, htold, by rw [hqs]; simp [hrl], ?_⟩, ?_⟩⟩
    · rw [hqs, ← hrl, List.take_left]
      have p1 := ask_setQ (a := a) h.nd (show (a.q, none) ∈ t.qs by rw [haq]; exact hmem)
      have p2 : o.Perm (o[k] :: (o.take k ++ o.drop (k + 1))) := by
        have := split_at o k hk
        exact (List.Perm.of_eq this).trans List.perm_middle
      have hoq : o[k] = askq a.q := by rw [haq, ← hq]; rfl
      rw [hoq] at p2
      exact (List.perm_cons _).1 ((p2.symm.trans ho).trans p1)
    · show (recOf ((t.take a).put a).qs).length = _
      rw [hqs, hrec, hlen]; rfl
/-- No more answers than the table has. -/
theorem nodup_sub_len {α : Type} [DecidableEq α] : ∀ {l m : List α}, l.Nodup → (∀ x ∈ l, x ∈ m) → l.length ≤ m.length
  | [], _, _, _ => by simp
  | x :: l, m, hn, hs => by
    obtain ⟨h1, h2⟩ := List.nodup_cons.1 hn
    have hx := hs x (by simp)
    have := nodup_sub_len (l := l) (m := m.erase x) h2 (fun y hy => (List.mem_erase_of_ne (fun e => h1 (by rw [← e]; exact hy))).2 (hs y (by simp [hy])))
    have h3 := List.length_erase_of_mem hx
    have h4 := List.length_pos_of_mem hx
    simp; omega
theorem FinI.recLen {T : List Ans} {s : Qn} {t : Tr} (h : FinI T s t) : t.rec'.length ≤ T.length := by
  have h1 : (t.rec'.map (·.1)).Nodup := recOf_nd h.nd
  have h2 := nodup_sub_len (m := T.map Ans.q) h1 (fun q hq => by
    obtain ⟨p, hp, rfl⟩ := List.mem_map.1 hq
    obtain ⟨e1, e2⟩ := lookA_some (h.rc p hp).1
    exact List.mem_map.2 ⟨p.2, e1, e2⟩)
  simpa using h2
/-- What finish gives. -/
structure FinE (T : List Ans) (s : Qn) (t : Tr) : Prop where
  i : FinI T s t
  n0 : t.state ≠ 0
theorem FinE.mem1 {T : List Ans} {s : Qn} {t : Tr} (h : FinE T s t) (h1 : t.state = 1) {q : Qn} (hq : q ∈ t.op) : ∃ a, (q, a) ∈ t.rec' := by
  have hall : allQ t.qs = true := by
    rcases h.i.st with ⟨e, _⟩ | ⟨_, e⟩ | ⟨e, _⟩
    · omega
    · exact e
    · omega
  obtain ⟨⟨q', u⟩, hp, e⟩ := List.mem_map.1 hq
  simp only at e
  subst e
  have := List.all_eq_true.1 hall _ hp
  obtain ⟨a, ha⟩ := Option.isSome_iff_exists.1 this
  simp only at ha
  exact ⟨a, recOf_keys.2 (by rw [← ha]; exact hp)⟩
def Good (T : List Ans) (s : Qn) : Prop := ∀ q, Rch T s q → ∃ a, lookA T q = some a ∧ a.kn = true ∧ a.rt = false
theorem FinE.rch {T : List Ans} {s : Qn} {t : Tr} (h : FinE T s t) (h1 : t.state = 1) : ∀ q, Rch T s q → q ∈ t.op := fun q hq => by
  induction hq with
  | start => exact h.i.hs
  | step hr hl hk hrt hx ih =>
    obtain ⟨b, hb⟩ := h.mem1 h1 ih
    have := (h.i.rc _ hb).1
    rw [hl] at this
    cases this
    exact h.i.cl _ hb _ hx
theorem FinE.good {T : List Ans} {s : Qn} {t : Tr} (h : FinE T s t) (he : ∀ x ∈ T, ∀ y ∈ T, x.m = y.m → x.ep = y.ep) : t.state = 1 ↔ Good T s := by
  constructor
  · intro h1 q hq
    obtain ⟨a, ha⟩ := h.mem1 h1 (h.rch h1 q hq)
    exact ⟨a, h.i.rc _ ha⟩
  · intro hg
    rcases h.i.st with ⟨e, _⟩ | ⟨e, _⟩ | ⟨_, q, hq, hb⟩
    · exact absurd e h.n0
    · exact e
    · obtain ⟨a, h1, h2, h3⟩ := hg q hq
      rcases hb a h1 with e | e | ⟨b, hb, e1, e2⟩
      · rw [h2] at e; cases e
      · rw [h3] at e; cases e
      · exact absurd (he b hb a (lookA_some h1).1 e1) e2
/-- Two orders: the same recorded answers. -/
theorem FinE.perm {T : List Ans} {s : Qn} {t u : Tr} (h : FinE T s t) (g : FinE T s u) (h1 : t.state = 1) (g1 : u.state = 1) : t.rec'.Perm u.rec' := by
  have sub : ∀ {t u : Tr}, FinE T s t → FinE T s u → t.state = 1 → u.state = 1 → ∀ p ∈ t.rec', p ∈ u.rec' := by
    intro t u h g h1 g1 ⟨q, a⟩ hp
    have hq : q ∈ t.op := (recOf_sub t.qs).mem (List.mem_map.2 ⟨_, hp, rfl⟩)
    obtain ⟨b, hb⟩ := g.mem1 g1 (g.rch g1 q (h.i.rch q hq))
    have e1 := (h.i.rc _ hp).1
    have e2 := (g.i.rc _ hb).1
    simp only at e1 e2
    rw [e1] at e2; cases e2
    exact hb
  have n1 : t.rec'.Nodup := (List.pairwise_map.1 (recOf_nd h.i.nd)).imp (fun hne e => hne (by rw [e]))
  have n2 : u.rec'.Nodup := (List.pairwise_map.1 (recOf_nd g.i.nd)).imp (fun hne e => hne (by rw [e]))
  exact (List.perm_ext_iff_of_nodup n1 n2).2 (fun p => ⟨sub h g h1 g1 p, sub g h g1 h1 p⟩)
theorem FinE.claims {T : List Ans} {s : Qn} {t u : Tr} (h : FinE T s t) (g : FinE T s u) (h1 : t.state = 1) (g1 : u.state = 1) {Y Z : List Ans} {P Q : List PCl} (hY : SortedA t Y) (hZ : SortedA u Z) (hP : ClaimsP t Y P) (hQ : ClaimsP u Z Q) : P = Q := by
  have hp := h.perm g h1 g1
  have hZ' : SortedA t Z := ⟨hZ.1.trans (hp.symm.map _), hZ.2⟩
  obtain rfl := hY.uniq hZ'
  refine ClaimsP.uniq hY.2 hP (hQ.congr ?_)
  funext q
  unfold luOf
  rw [show MapS.get q u.rec' = MapS.get q t.rec' from MapS.get_perm (recOf_nd h.i.nd) hp]
end Go.Proofs.YthfdngjbcgkkfaaGreat

namespace Go.Proofs.YthfdngjbcgkkfaaGreat
open Go.RowKit

def findP (P : List PCl) (m : Int) : PCl := (P.find? (fun c => c.m == m)).getD ⟨0, 0, [], [], []⟩
def hasP (l : List T3) (p : Int) (n : Nat) : Bool := l.any (fun x => x.1 == p && x.2.1 == n)
structure Closed (im : Int) (zz : T3) (P : List PCl) : Prop where
  pos : 0 < P.length
  asc : ∀ k (h1 : k < P.length) (h2 : k + 1 < P.length), P[k].m < P[k + 1].m
  sc : ∀ c ∈ P, ∀ x ∈ c.sc, hasP (findP P x.1).st c.m x.2.1 = true
  st : ∀ c ∈ P, ∀ x ∈ c.st, hasP (findP P x.1).sc c.m x.2.1 = true
  ch : ∀ c ∈ P, ∀ x ∈ c.ch, c.m = im ∧ x.1 = zz.1 ∧ x.2.1 = zz.2.1 ∧ x.2.2 = 0
theorem ClmAt.mem {t : Tr} {Y : List Ans} {c : PCl} {m : Int} (h : ClmAt t Y c m) (e : T3) : (e ∈ c.st ↔ e ∈ stOf (outsOf Y) Y m) ∧ (e ∈ c.sc ↔ e ∈ scOf t Y m) ∧ (e ∈ c.ch ↔ e ∈ chOf (outsOf Y) Y m) :=
  ⟨(h.at' 0 (by omega)).1.mem_iff, (h.at' 1 (by omega)).1.mem_iff, (h.at' 2 (by omega)).1.mem_iff⟩
theorem closedP {T : List Ans} {im : Int} {st : T3} {t : Tr} (h : FinE T (im, st.1, st.2.1) t) (h1 : t.state = 1) {Y : List Ans} {P : List PCl} (hY : SortedA t Y) (hP : ClaimsP t Y P) : Closed im st P := by
  obtain ⟨_, ms1, ms2⟩ := rawOf_eq t (outsOf Y) Y hY.2
  obtain ⟨hl, hat⟩ := hP.at' hY.2
  have hYr : ∀ a, a ∈ Y ↔ (a.q, a) ∈ t.rec' := fun a => by
    rw [hY.1.mem_iff]
    constructor
    · intro ha
      obtain ⟨p, hp, rfl⟩ := List.mem_map.1 ha
      have := (lookA_some (h.i.rc p hp).1).2
      rw [this]; exact hp
    · exact fun ha => List.mem_map.2 ⟨_, ha, rfl⟩
  have hget : ∀ c ∈ P, ClmAt t Y c c.m := fun c hc => by
    obtain ⟨k, hk, rfl⟩ := List.mem_iff_getElem.1 hc
    have := hat k hk (by omega)
    rw [this.m]; exact this
  have hrec : ∀ q ∈ t.op, ∃ b ∈ Y, b.q = q := fun q hq => by
    obtain ⟨b, hb⟩ := h.mem1 h1 hq
    have e := (lookA_some (h.i.rc _ hb).1).2
    simp only at e
    exact ⟨b, (hYr b).2 (by rw [e]; exact hb), e⟩
  have hfind : ∀ a ∈ Y, ClmAt t Y (findP P a.m) a.m := fun a ha => by
    obtain ⟨k, hk, hm⟩ := List.mem_iff_getElem.1 ((ms2 a.m).2 ⟨a, ha, rfl⟩)
    have hc := hat k (by omega) hk
    have hcm : (P[k]'(by omega)).m = a.m := hc.m.trans hm
    unfold findP
    cases hf : P.find? (fun c => c.m == a.m) with
    | none =>
      have := List.find?_eq_none.1 hf _ (List.getElem_mem (by omega : k < P.length))
      simp [hcm] at this
    | some c =>
      have e1 : c.m = a.m := by simpa using List.find?_some hf
      have := hget c (List.mem_of_find?_eq_some hf)
      rw [e1] at this; exact this
  refine ⟨?_, fun k k1 k2 => ?_, fun c hc x hx => ?_, fun c hc x hx => ?_, fun c hc x hx => ?_⟩
  · obtain ⟨b, hb, _⟩ := hrec _ h.i.hs
    have := (ms2 b.m).2 ⟨b, hb, rfl⟩
    rw [hl]
    exact List.length_pos_of_mem this
  · rw [(hat k k1 (by omega)).m, (hat (k + 1) k2 (by omega)).m]
    exact List.pairwise_iff_getElem.1 ms1 _ _ _ _ (by omega)
  · obtain ⟨a, ha, hm, u, hu, rfl⟩ := (scOf_mem _ _ _ _).1 (((hget c hc).mem x).2.1.1 hx)
    obtain ⟨b, hb, hbq⟩ := hrec _ (h.i.cl _ ((hYr a).1 ha) u hu)
    simp only [Ans.q, Prod.mk.injEq] at hbq
    obtain ⟨q1, q2, q3⟩ := hbq
    have hf := hfind b hb
    rw [q1] at hf
    obtain ⟨o, ho⟩ := Option.isSome_iff_exists.1 ((outsOf_some Y (a.m, u.1, u.2.1)).2 ⟨a, ha, u, hu, rfl⟩)
    have : (a.m, u.2.1, o) ∈ (findP P u.1).st := ((hf.mem _).1).2 ((stOf_mem _ _ _ _).2 ⟨b, hb, q1, o, by rw [q2, q3]; exact ho, by rw [q2, q3]⟩)
    unfold hasP
    rw [List.any_eq_true]
    exact ⟨_, this, by simp [scN, hm]⟩
  · obtain ⟨a, ha, hm, o, ho, rfl⟩ := (stOf_mem _ _ _ _).1 (((hget c hc).mem x).1.1 hx)
    obtain ⟨b, hb, u, hu, hk⟩ := (outsOf_some Y _).1 (show (MapS.get (a.ow, c.m, a.n) (outsOf Y)).isSome = true by rw [ho]; rfl)
    simp only [Prod.mk.injEq] at hk
    obtain ⟨q1, q2, q3⟩ := hk
    have hf := hfind b hb
    rw [← q1] at hf
    have : scN t a.ow u ∈ (findP P a.ow).sc := ((hf.mem _).2.1).2 ((scOf_mem _ _ _ _).2 ⟨b, hb, q1.symm, u, hu, rfl⟩)
    unfold hasP
    rw [List.any_eq_true]
    exact ⟨_, this, by simp [scN, q2, q3]⟩
  · obtain ⟨a, ha, hm, hn, rfl⟩ := (chOf_mem _ _ _ _).1 (((hget c hc).mem x).2.2.1 hx)
    have hq : a.q ∈ t.op := (recOf_sub t.qs).mem (List.mem_map.2 ⟨_, (hYr a).1 ha, rfl⟩)
    rcases h.i.opn _ hq with e | ⟨p, hp, u, hu, e⟩
    · simp only [Ans.q, Prod.mk.injEq] at e
      exact ⟨by rw [← hm]; exact e.1, e.2.1, e.2.2, rfl⟩
    · exfalso
      simp only [Ans.q, Prod.mk.injEq] at e
      have hpY : p.2 ∈ Y := hY.1.mem_iff.2 (List.mem_map.2 ⟨_, hp, rfl⟩)
      have := (outsOf_some Y (a.ow, c.m, a.n)).2 ⟨p.2, hpY, u, hu, by rw [← hm, e.1, e.2.1, e.2.2]⟩
      rw [hn] at this; cases this
end Go.Proofs.YthfdngjbcgkkfaaGreat

namespace Go.Proofs.YthfdngjbcgkkfaaGreat
open Go.RowKit

theorem hasP_no {L : List T3} {p : Int} {n : Nat} (h : ∀ j (hj : j < L.length), ¬ (L[j].1 = p ∧ L[j].2.1 = n)) : hasP L p n = false := by
  unfold hasP
  rw [List.any_eq_false]
  intro x hx
  obtain ⟨j, hj, rfl⟩ := List.mem_iff_getElem.1 hx
  simpa using h j hj
theorem hasP_yes {L : List T3} {p : Int} {n : Nat} {k : Nat} (hk : k < L.length) (h1 : L[k].1 = p) (h2 : L[k].2.1 = n) : hasP L p n = true := by
  unfold hasP
  rw [List.any_eq_true]
  exact ⟨_, List.getElem_mem hk, by simp [h1, h2]⟩
theorem st5 {w : World} {X : Nat} {t : TypeId} {x0 x1 x2 x3 x4 u0 u1 u2 u3 u4 : Value} (h2 : w.heap[X]? = some (.cells #[u0, u1, u2, u3, u4] t (0, 0))) :
    (((((w.setCell ⟨X, 0, none⟩ x0).setCell ⟨X, 1, none⟩ x1).setCell ⟨X, 2, none⟩ x2).setCell ⟨X, 3, none⟩ x3).setCell ⟨X, 4, none⟩ x4).heap[X]? = some (.cells #[x0, x1, x2, x3, x4] t (0, 0)) ∧
    Keeps [X] w (((((w.setCell ⟨X, 0, none⟩ x0).setCell ⟨X, 1, none⟩ x1).setCell ⟨X, 2, none⟩ x2).setCell ⟨X, 3, none⟩ x3).setCell ⟨X, 4, none⟩ x4) := by
  refine ⟨?_, ?_⟩
  · have := setCs (setCs (setCs (setCs (setCs h2 0 x0) 1 x1) 2 x2) 3 x3) 4 x4
    simpa using this
  · refine (((((Keeps.refl _ w).setCell ?_ _).setCell ?_ _).setCell ?_ _).setCell ?_ _).setCell ?_ _ <;> exact .inr (by simp)
theorem findP_at {P : List PCl} {m : Int} {k : Nat} (hk : k < P.length) (hno : ∀ j (hj : j < P.length), j < k → P[j].m ≠ m) (hm : P[k].m = m) : findP P m = P[k] := by
  unfold findP
  have : P.find? (fun c => c.m == m) = some P[k] := List.find?_eq_some_iff_getElem.2 ⟨by simpa using hm, k, hk, rfl, fun j hj => by simpa using hno j (by omega) hj⟩
  rw [this]; rfl
theorem findP_no {P : List PCl} {m : Int} (hno : ∀ j (hj : j < P.length), P[j].m ≠ m) : findP P m = PCl.zero := by
  unfold findP
  have : P.find? (fun c => c.m == m) = none := List.find?_eq_none.2 (fun c hc => by
    obtain ⟨j, hj, rfl⟩ := List.mem_iff_getElem.1 hc
    simpa using hno j hj)
  rw [this]; rfl
def FindPost (w : World) (P : List PCl) (m : Int) (e : Ending) (w' : World) : Prop := ∃ x, e = .returned (clV x) ∧ CR w' x (findP P m) ∧ Keeps [] w w'
end Go.Proofs.YthfdngjbcgkkfaaGreat

namespace Go.Proofs.YthfdngjbcgkkfaaGreat
open Go.RowKit

/-- The claims of a trace. -/
def Tr.clm (t : Tr) : List PCl := refOf t (outsOf (srtOf t.qs)) (srtOf t.qs)
theorem Tr.clm_eq {t : Tr} (h : t.Inv) {Y : List Ans} {P : List PCl} (hY : SortedA t Y) (hP : ClaimsP t Y P) : P = t.clm := by
  obtain rfl := hY.uniq (srtOf_sorted h)
  exact ClaimsP.uniq hY.2 hP (refOf_claims hY.2)
theorem srtOf_mem {t : Tr} (h : t.Inv) {a : Ans} (ha : a ∈ srtOf t.qs) : a.Ok := by
  obtain ⟨p, hp, rfl⟩ := List.mem_map.1 ((srtOf_sorted h).1.mem_iff.1 ha)
  exact h.ro p hp
theorem srtOf_len {t : Tr} (h : t.Inv) : (srtOf t.qs).length ≤ t.qs.length := by
  rw [(srtOf_sorted h).1.length_eq, List.length_map]
  exact (rec_len t.qs).1
theorem clmOf_c (w : World) (v : Value) (t : Tr) (h : t.Inv) (hl : t.qs.length ≤ 1000) (hv : RdA w v (srtOf t.qs)) :
    Calls Tryz.prog 45 #[v] w fun e w' => ∃ v', e = .returned v' ∧ LCt w' v' t.clm ∧ Keeps [] w w' :=
  claimsOfR_c w v (srtOf t.qs) t hv (fun q => luL_eq h (srtOf_sorted h) q) (Nat.le_trans (srtOf_len h) hl) (fun a ha => (srtOf_mem h ha).len)
def Tr.clms (t : Tr) : List PCl := if t.shown then t.clm else []
def ClaimRP (w : World) (t : Tr) (e : Ending) (w' : World) : Prop :=
  ∃ (x : ClV) (p : PCl), e = .returned (.tuple #[clV x, .bool (t.state == 1)]) ∧ CR w' x p ∧ Keeps [] w w' ∧ ((t.state ≠ 1 ∧ p = PCl.zero) ∨ (t.state = 1 ∧ t.clm[t.ag.length]? = some p))
set_option maxRecDepth 100000 in
set_option maxHeartbeats 8000000 in
theorem claimR_c (w : World) (x : RfV) (t : Tr) (h : RfR w x t) (hi : t.Inv) (hl : t.qs.length ≤ 1000) (hag : t.state = 1 → t.ag.length < t.clm.length) :
    Calls Tryz.prog 18 #[rfV x] w (ClaimRP w t) := by
  have hsc := fun (W : World) (hk : Keeps [] w W) => sortedR_c W x t (h.keeps hk) hi.rk hl
  have hst := h.st
  have hga := h.ag
  obtain ⟨x0, x1, x2, x3, x4, x5, ⟨x6, x7, x8⟩, ⟨x9, x10, x11⟩, x12, ⟨x13, x14, x15⟩, x16, ⟨x17, x18, x19⟩⟩ := x
  simp only [slv, rfV] at hst hsc hga ⊢
  have hb1 := heap_alloc_new (w.alloc (.cells #[.int .i64 x0, .int .i64 x1, .int .i64 x2, .int .u64 x3, .int .i64 x4, .int .i64 x5, .slice x6 x7 x8, .slice x9 x10 x11, .int .i64 x12, .slice x13 x14 x15, .bool x16, .slice x17 x18 x19] tR)) (.cells #[.int .i64 0, .int .i64 0, .slice none 0 0, .slice none 0 0, .slice none 0 0] tC)
  rw [show (w.alloc (.cells #[.int .i64 x0, .int .i64 x1, .int .i64 x2, .int .u64 x3, .int .i64 x4, .int .i64 x5, .slice x6 x7 x8, .slice x9 x10 x11, .int .i64 x12, .slice x13 x14 x15, .bool x16, .slice x17 x18 x19] tR)).heap.size = w.heap.size + 1 by simp] at hb1
  have hkA : Keeps [] w ((w.alloc (.cells #[.int .i64 x0, .int .i64 x1, .int .i64 x2, .int .u64 x3, .int .i64 x4, .int .i64 x5, .slice x6 x7 x8, .slice x9 x10 x11, .int .i64 x12, .slice x13 x14 x15, .bool x16, .slice x17 x18 x19] tR)).alloc (.cells #[.int .i64 0, .int .i64 0, .slice none 0 0, .slice none 0 0, .slice none 0 0] tC)) := ((Keeps.refl _ _).alloc _).alloc _
  have hb0 := ((Keeps.refl [] (w.alloc (.cells #[.int .i64 x0, .int .i64 x1, .int .i64 x2, .int .u64 x3, .int .i64 x4, .int .i64 x5, .slice x6 x7 x8, .slice x9 x10 x11, .int .i64 x12, .slice x13 x14 x15, .bool x16, .slice x17 x18 x19] tR))).alloc (.cells #[.int .i64 0, .int .i64 0, .slice none 0 0, .slice none 0 0, .slice none 0 0] tC)).block _ (by simp) (by simp) |>.trans (heap_alloc_new w (.cells #[.int .i64 x0, .int .i64 x1, .int .i64 x2, .int .u64 x3, .int .i64 x4, .int .i64 x5, .slice x6 x7 x8, .slice x9 x10 x11, .int .i64 x12, .slice x13 x14 x15, .bool x16, .slice x17 x18 x19] tR))
  replace hkA := Lib.hid hkA
  replace hsc := Lib.hid hsc
  replace hb1 := Lib.hid hb1
  replace hb0 := Lib.hid hb0
  by_cases s1 : x5 = 1
  case neg =>
    have b1 : (x5 != 1) = true := by simpa using s1
    have hbf : (t.state == 1) = false := by rw [← hst]; simpa using s1
    have hnf : t.state ≠ 1 := by rw [← hst]; exact s1
    replace hi := Lib.hid hi
    replace hst := Lib.hid hst
    replace hga := Lib.hid hga
    clear h
    go_enter Tryz.func18, Tryz.ntmps18
    go_wp2
    refine bodyPost_ret (results_clm rfl _ _ _ _ _ _ _ _ _ _ rfl hb1.out) ?_ ?_
    · rfl
    · exact ⟨ClV.zero, PCl.zero, by rw [hbf]; rfl, ⟨rfl, rfl, Sh.R.nil _ _, Sh.R.nil _ _, Sh.R.nil _ _⟩, hkA.out, .inl ⟨hnf, rfl⟩⟩
  case pos =>
    subst s1
    have hst1 : t.state = 1 := hst.symm
    have hlt := hag hst1
    have hx14 : t.ag.length = x14 := by
      obtain ⟨_, _, e, _⟩ := hga.form
      simp only [Value.slice.injEq] at e
      exact e.2.1.symm
    rw [hx14] at hlt
    replace hst := Lib.hid hst
    replace hst1 := Lib.hid hst1
    replace hx14 := Lib.hid hx14
    replace hi := Lib.hid hi
    clear h hga hag
    go_enter Tryz.func18, Tryz.ntmps18
    go_wp2
    generalize ((w.alloc (.cells #[.int .i64 x0, .int .i64 x1, .int .i64 x2, .int .u64 x3, .int .i64 x4, .int .i64 1, .slice x6 x7 x8, .slice x9 x10 x11, .int .i64 x12, .slice x13 x14 x15, .bool x16, .slice x17 x18 x19] tR)).alloc (.cells #[.int .i64 0, .int .i64 0, .slice none 0 0, .slice none 0 0, .slice none 0 0] tC)) = WA at *
    obtain ⟨y0, y1, y2, y3, y4, y5, y6, y7, y8, y9, y10, y11, yf, yl⟩ := cells12 hb0.out
    refine Free.wp_region_chain (fun i => i == 1 || i == 2 || i == 7 || i == 8) (fun i => true) (fun j b => j = 8 ∧ b = w.heap.size + 1) (by kernel_rfl) (by kernel_rfl) (by kernel_rfl) ?_
    (repeat (first | (apply Free.cw_pure rfl rfl; (intro w'; go_simp <;> exact rfl); go_frame) | (apply Free.cw_steady rfl rfl rfl; (intro w' hS; have q0 := Free.sx_cell hS y0 (fun _ _ hT => by have := hT.2; omega); have q1 := Free.sx_cell hS y1 (fun _ _ hT => by have := hT.2; omega); have q2 := Free.sx_cell hS y2 (fun _ _ hT => by have := hT.2; omega); have q3 := Free.sx_cell hS y3 (fun _ _ hT => by have := hT.2; omega); have q4 := Free.sx_cell hS y4 (fun _ _ hT => by have := hT.2; omega); have q5 := Free.sx_cell hS y5 (fun _ _ hT => by have := hT.2; omega); have q6 := Free.sx_cell hS y6 (fun _ _ hT => by have := hT.2; omega); have q7 := Free.sx_cell hS y7 (fun _ _ hT => by have := hT.2; omega); have q8 := Free.sx_cell hS y8 (fun _ _ hT => by have := hT.2; omega); have q9 := Free.sx_cell hS y9 (fun _ _ hT => by have := hT.2; omega); have q10 := Free.sx_cell hS y10 (fun _ _ hT => by have := hT.2; omega); have q11 := Free.sx_cell hS y11 (fun _ _ hT => by have := hT.2; omega); go_simp <;> exact rfl); go_frame) | (refine Free.cw_skip rfl ?_; go_frame)))
    refine Free.cw_loud rfl rfl (fun K hK => ?_)
    go_wp2_with fail
    refine (hsc.out _ (hkA.out.drew)).mono ?_
    rintro e w1 ⟨v1, rfl, hv1, hk1⟩
    refine hK _ _ rfl (Free.KeepsP.of hk1 (by simp)) ?_
    clear hK K
    have hk1d := ((Keeps.refl [] WA).drew).trans hk1
    have hcl := clmOf_c w1 v1 t hi.out hl hv1
    replace hcl := Lib.hid hcl
    replace hk1d := Lib.hid hk1d
    clear hv1 hk1
    (repeat (apply Free.cw_pure rfl rfl; (intro w'; go_simp <;> exact rfl); go_frame))
    refine Free.cw_loud rfl rfl (fun K hK => ?_)
    go_wp2_with fail
    refine hcl.out.mono ?_
    rintro e w2 ⟨v2, rfl, hLC, hk2⟩
    refine hK _ _ rfl (Free.KeepsP.of hk2 (by simp)) ?_
    clear hK K hcl
    have hk2d := hk1d.out.trans hk2
    obtain ⟨g, o, c', cx, hv, hcr, e0, e1, e2, e3, e4⟩ := hLC.elem hlt
    obtain ⟨NC, hNC⟩ : ∃ n, t.clm.length = n := ⟨_, rfl⟩
    have hNCm : NC ≤ 9223372036854775807 := by obtain ⟨_, c3, _, h1, h2⟩ := hLC.lc.form; rw [hNC] at h1; unfold maxLen at h2; omega
    rw [hNC] at hlt
    rw [hNC] at hv
    subst hv
    have hget : t.clm[x14]? = some (t.clm[x14]'(by omega)) := List.getElem?_eq_getElem _
    obtain ⟨p, hp⟩ : ∃ p, t.clm[x14]'(by omega) = p := ⟨_, rfl⟩
    rw [hp] at hcr hget
    obtain ⟨c0, c1, ⟨c2, c3, c4⟩, ⟨c5, c6, c7⟩, ⟨c8, c9, c10⟩⟩ := cx
    simp only [slv] at e0 e1 e2 e3 e4
    have hbR := (hk2d.block _ (lt_of_blk hb1.out) (by simp)).trans hb1.out
    obtain ⟨z0, z1, z2, z3, z4, zl⟩ := cells5 hbR
    have zf : ∀ o, w2.frozen? ⟨w.heap.size + 1, o, none⟩ = false := fun o => by simp [World.frozen?, hbR]
    have hgl := lt_of_cell e0
    replace hbR := Lib.hid hbR
    replace hk2d := Lib.hid hk2d
    replace hp := Lib.hid hp
    replace hget := Lib.hid hget
    replace hNC := Lib.hid hNC
    replace hcr := Lib.hid hcr
    replace hLC := Lib.hid hLC
    clear hk2
    (repeat (first | (apply Free.cw_pure rfl rfl; (intro w'; go_simp <;> exact rfl); go_frame) | (apply Free.cw_steady rfl rfl rfl; (intro w' hS; have q0 := Free.sx_cell hS y9 (fun _ _ hT => by have := hT.2; omega); go_simp <;> exact rfl); go_frame) | (refine Free.cw_skip rfl ?_; go_frame)))
    refine Free.cw_loud rfl rfl (fun K hK => ?_)
    go_wp2
    refine hK _ _ rfl (Free.KeepsP.refl _ _) ?_
    clear hK K
    (repeat (apply Free.cw_pure rfl rfl; (intro w'; go_simp <;> exact rfl); go_frame))
    refine Free.cw_loud rfl rfl (fun K hK => ?_)
    go_wp2
    obtain ⟨hbS, hkS⟩ := st5 (x0 := .int .i64 c0) (x1 := .int .i64 c1) (x2 := .slice c2 c3 c4) (x3 := .slice c5 c6 c7) (x4 := .slice c8 c9 c10) hbR.out
    refine hK _ _ rfl (Free.KeepsP.of hkS (fun b hb => ⟨trivial, by simpa using hb⟩)) ?_
    clear hK K
    have hR : ∀ b ∈ [w.heap.size + 1], ∀ (cs : Array Value) (f : Nat × Nat), w2.heap[b]? ≠ some (Obj.cells cs tN f) := fun b hb => by simp at hb; subst hb; exact tag_C hbR.out
    have hcS := hcr.out.keepS hkS hR
    have hkf := (hkA.out.trans hk2d.out).fresh hkS (fun b hb => by simp at hb; subst hb; exact .inr (by omega))
    replace hbS := Lib.hid hbS
    replace hcS := Lib.hid hcS
    replace hkf := Lib.hid hkf
    clear hR hkS
    (repeat (apply Free.cw_pure rfl rfl; (intro w'; go_simp <;> exact rfl); go_frame))
    refine Free.cw_nil ?_
    go_wp2
    refine bodyPost_ret (results_clm rfl _ _ _ _ _ _ _ _ _ _ rfl hbS.out) ?_ ?_
    · rfl
    · exact ⟨⟨c0, c1, (c2, c3, c4), (c5, c6, c7), (c8, c9, c10)⟩, p, by rw [hst1.out]; rfl, ⟨hcS.out.m, hcS.out.ep, hcS.out.st.1, hcS.out.sc.1, hcS.out.ch.1⟩, hkf.out, .inr ⟨hst1.out, by rw [hx14.out]; exact hget.out⟩⟩
end Go.Proofs.YthfdngjbcgkkfaaGreat

namespace Go.Proofs.YthfdngjbcgkkfaaGreat
open Go.RowKit

def Tr.agreeT (t : Tr) (m : Int) : Tr × Int :=
  if t.state ≠ 1 then (t, 9) else match t.clm[t.ag.length]? with
  | some p => if p.m ≠ m then (t, 1) else ({ t with ag := t.ag ++ [m], state := if t.ag.length + 1 = t.clm.length then 2 else t.state }, 0)
  | none => (t, 0)
def Tr.refuseT (t : Tr) (m : Int) : Tr × Int :=
  if t.state ≠ 1 then (t, 9) else match t.clm[t.ag.length]? with
  | some p => if p.m ≠ m then (t, 1) else ({ t with state := 4, rf := true }, 0)
  | none => (t, 0)
def RPost (w : World) (x0 : RfV) (r : Tr × Int) (e : Ending) (w' : World) : Prop := ∃ x, e = .returned (.tuple #[rfV x, .int .i64 r.2]) ∧ RfR w' x r.1 ∧ Keeps [] w w' ∧ Fsh w w' x0 x
theorem Fsh_ag {w w' : World} {x x' : RfV} (h1 : x'.vo = x.vo) (h2 : x'.va = x.va) (h4 : x'.vh = x.vh) (h3 : ∀ b, (slv x'.vg).ownBlock = some b → w.heap.size ≤ b ∧ b < w'.heap.size) : Fsh w w' x x' := fun b hb => by
  rcases mem_blks.1 hb with e | e | e | e
  · exact .inl (mem_blks.2 (.inl (h1 ▸ e)))
  · exact .inl (mem_blks.2 (.inr (.inl (h2 ▸ e))))
  · exact .inr (h3 b e)
  · exact .inl (mem_blks.2 (.inr (.inr (.inr (h4 ▸ e)))))
theorem RPost.same {w W : World} {x : RfV} {t : Tr} {r : Tr × Int} {n : Int} (hr : r = (t, n)) (hR : RfR W x t) (hk : Keeps [] w W) : RPost w x r (.returned (.tuple #[rfV x, .int .i64 n])) W := by
  subst hr
  exact ⟨x, rfl, hR, hk, fun b hb => .inl hb⟩
set_option maxRecDepth 100000 in
set_option maxHeartbeats 8000000 in
theorem refuseR_c (w : World) (x : RfV) (t : Tr) (m : Int) (h : RfR w x t) (hi : t.Inv) (hl : t.qs.length ≤ 1000) (hag : t.state = 1 → t.ag.length < t.clm.length) :
    Calls Tryz.prog 25 #[rfV x, .int .i64 m] w (RPost w x (t.refuseT m)) := by
  have hcl := fun (W : World) (hk : Keeps [] w W) => claimR_c W x t (h.keeps hk) hi hl hag
  have hst := h.st
  have hga := h.ag
  obtain ⟨x0, x1, x2, x3, x4, x5, ⟨x6, x7, x8⟩, ⟨x9, x10, x11⟩, x12, ⟨x13, x14, x15⟩, x16, ⟨x17, x18, x19⟩⟩ := x
  simp only [slv, rfV] at hst hcl hga ⊢
  have hb1 := heap_alloc_new (w.alloc (.cells #[.int .i64 x0, .int .i64 x1, .int .i64 x2, .int .u64 x3, .int .i64 x4, .int .i64 x5, .slice x6 x7 x8, .slice x9 x10 x11, .int .i64 x12, .slice x13 x14 x15, .bool x16, .slice x17 x18 x19] tR)) (.cells #[.int .i64 0, .int .i64 0, .int .i64 0, .int .u64 0, .int .i64 0, .int .i64 0, .slice none 0 0, .slice none 0 0, .int .i64 0, .slice none 0 0, .bool false, .slice none 0 0] tR)
  rw [show (w.alloc (.cells #[.int .i64 x0, .int .i64 x1, .int .i64 x2, .int .u64 x3, .int .i64 x4, .int .i64 x5, .slice x6 x7 x8, .slice x9 x10 x11, .int .i64 x12, .slice x13 x14 x15, .bool x16, .slice x17 x18 x19] tR)).heap.size = w.heap.size + 1 by simp] at hb1
  have hkA : Keeps [] w ((w.alloc (.cells #[.int .i64 x0, .int .i64 x1, .int .i64 x2, .int .u64 x3, .int .i64 x4, .int .i64 x5, .slice x6 x7 x8, .slice x9 x10 x11, .int .i64 x12, .slice x13 x14 x15, .bool x16, .slice x17 x18 x19] tR)).alloc (.cells #[.int .i64 0, .int .i64 0, .int .i64 0, .int .u64 0, .int .i64 0, .int .i64 0, .slice none 0 0, .slice none 0 0, .int .i64 0, .slice none 0 0, .bool false, .slice none 0 0] tR)) := ((Keeps.refl _ _).alloc _).alloc _
  have hb0 := ((Keeps.refl [] (w.alloc (.cells #[.int .i64 x0, .int .i64 x1, .int .i64 x2, .int .u64 x3, .int .i64 x4, .int .i64 x5, .slice x6 x7 x8, .slice x9 x10 x11, .int .i64 x12, .slice x13 x14 x15, .bool x16, .slice x17 x18 x19] tR))).alloc (.cells #[.int .i64 0, .int .i64 0, .int .i64 0, .int .u64 0, .int .i64 0, .int .i64 0, .slice none 0 0, .slice none 0 0, .int .i64 0, .slice none 0 0, .bool false, .slice none 0 0] tR)).block _ (by simp) (by simp) |>.trans (heap_alloc_new w (.cells #[.int .i64 x0, .int .i64 x1, .int .i64 x2, .int .u64 x3, .int .i64 x4, .int .i64 x5, .slice x6 x7 x8, .slice x9 x10 x11, .int .i64 x12, .slice x13 x14 x15, .bool x16, .slice x17 x18 x19] tR))
  replace hkA := Lib.hid hkA
  replace hcl := Lib.hid hcl
  replace hb1 := Lib.hid hb1
  replace hb0 := Lib.hid hb0
  replace h := Lib.hid h
  replace hst := Lib.hid hst
  replace hi := Lib.hid hi
  replace hga := Lib.hid hga
  replace hag := Lib.hid hag
  go_enter Tryz.func25, Tryz.ntmps25
  go_wp2_with fail
  generalize ((w.alloc (.cells #[.int .i64 x0, .int .i64 x1, .int .i64 x2, .int .u64 x3, .int .i64 x4, .int .i64 x5, .slice x6 x7 x8, .slice x9 x10 x11, .int .i64 x12, .slice x13 x14 x15, .bool x16, .slice x17 x18 x19] tR)).alloc (.cells #[.int .i64 0, .int .i64 0, .int .i64 0, .int .u64 0, .int .i64 0, .int .i64 0, .slice none 0 0, .slice none 0 0, .int .i64 0, .slice none 0 0, .bool false, .slice none 0 0] tR)) = WA at *
  refine (hcl.out _ hkA.out).mono ?_
  rintro e w1 ⟨cx, p, rfl, hcr, hk1, hcase⟩
  obtain ⟨c0, c1, ⟨c2, c3, c4⟩, ⟨c5, c6, c7⟩, ⟨c8, c9, c10⟩⟩ := cx
  simp only [clV, slv]
  have hkM := (Keeps.refl [] w1).alloc (.cells #[.int .i64 c0, .int .i64 c1, .slice c2 c3 c4, .slice c5 c6 c7, .slice c8 c9 c10] tC)
  have hbC := heap_alloc_new w1 (.cells #[.int .i64 c0, .int .i64 c1, .slice c2 c3 c4, .slice c5 c6 c7, .slice c8 c9 c10] tC)
  have hk1M := hk1.trans hkM
  have hbx := (hk1M.block _ (lt_of_blk hb0.out) (by simp)).trans hb0.out
  have hbz := (hk1M.block _ (lt_of_blk hb1.out) (by simp)).trans hb1.out
  have hkw := hkA.out.trans hk1M
  have hcm := hcr.m
  simp only at hcm
  obtain ⟨sb, hsb⟩ : ∃ b, (t.state == 1) = b := ⟨_, rfl⟩
  rw [hsb]
  replace hbx := Lib.hid hbx
  replace hbz := Lib.hid hbz
  replace hkw := Lib.hid hkw
  replace hcase := Lib.hid hcase
  replace hcm := Lib.hid hcm
  replace hbC := Lib.hid hbC
  clear hk1 hkM hk1M hcr hcl
  go_upto_if 14 with fail
  generalize (w1.alloc (.cells #[.int .i64 c0, .int .i64 c1, .slice c2 c3 c4, .slice c5 c6 c7, .slice c8 c9 c10] tC)) = W2 at *
  obtain ⟨XC, hXC⟩ : ∃ X, w1.heap.size = X := ⟨_, rfl⟩
  rw [hXC] at hbC ⊢
  replace hXC := Lib.hid hXC
  obtain ⟨y0, y1, y2, y3, y4, y5, y6, y7, y8, y9, y10, y11, yf, yl⟩ := cells12 hbx.out
  obtain ⟨z0, z1, z2, z3, z4, z5, z6, z7, z8, z9, z10, z11, zf, zl⟩ := cells12 hbz.out
  obtain ⟨k0, k1, k2, k3, k4, kl⟩ := cells5 hbC.out
  cases sb with
  | false =>
    have hs : t.state ≠ 1 := by simpa using hsb
    have hr : t.refuseT m = (t, 9) := by unfold Tr.refuseT; rw [if_pos hs]
    replace hr := Lib.hid hr
    replace hs := Lib.hid hs
    replace hsb := Lib.hid hsb
    go_wp2
    obtain ⟨s1, s2⟩ := st12 (x0 := .int .i64 x0) (x1 := .int .i64 x1) (x2 := .int .i64 x2) (x3 := .int .u64 x3) (x4 := .int .i64 x4) (x5 := .int .i64 x5) (x6 := .slice x6 x7 x8) (x7 := .slice x9 x10 x11) (x8 := .int .i64 x12) (x9 := .slice x13 x14 x15) (x10 := .bool x16) (x11 := .slice x17 x18 x19) hbz.out
    have hkf := hkw.out.fresh s2 (fun b hb => by simp at hb; subst hb; exact .inr (by omega))
    refine bodyPost_ret (results_rf rfl _ _ _ _ _ _ _ _ _ _ _ _ _ _ _ _ _ rfl s1) ?_ ?_
    · rfl
    · exact RPost.same (x := ⟨x0, x1, x2, x3, x4, x5, (x6, x7, x8), (x9, x10, x11), x12, (x13, x14, x15), x16, (x17, x18, x19)⟩) hr.out (h.out.keeps hkf) hkf
  | true =>
    have hs : t.state = 1 := by simpa using hsb
    have hget : t.clm[t.ag.length]? = some p := by
      rcases hcase.out with ⟨e, _⟩ | ⟨_, e⟩
      · exact absurd hs e
      · exact e
    by_cases hm : c0 = m
    case neg =>
      have hmb : (c0 != m) = true := by simpa using hm
      have hr : t.refuseT m = (t, 1) := by unfold Tr.refuseT; rw [if_neg (by simp [hs]), hget]; simp only; rw [if_pos (by rw [← hcm.out]; exact hm)]
      replace hr := Lib.hid hr
      replace hs := Lib.hid hs
      replace hsb := Lib.hid hsb
      replace hm := Lib.hid hm
      replace hget := Lib.hid hget
      go_wp2
      obtain ⟨s1, s2⟩ := st12 (x0 := .int .i64 x0) (x1 := .int .i64 x1) (x2 := .int .i64 x2) (x3 := .int .u64 x3) (x4 := .int .i64 x4) (x5 := .int .i64 x5) (x6 := .slice x6 x7 x8) (x7 := .slice x9 x10 x11) (x8 := .int .i64 x12) (x9 := .slice x13 x14 x15) (x10 := .bool x16) (x11 := .slice x17 x18 x19) hbz.out
      have hkf := hkw.out.fresh s2 (fun b hb => by simp at hb; subst hb; exact .inr (by omega))
      refine bodyPost_ret (results_rf rfl _ _ _ _ _ _ _ _ _ _ _ _ _ _ _ _ _ rfl s1) ?_ ?_
      · rfl
      · exact RPost.same (x := ⟨x0, x1, x2, x3, x4, x5, (x6, x7, x8), (x9, x10, x11), x12, (x13, x14, x15), x16, (x17, x18, x19)⟩) hr.out (h.out.keeps hkf) hkf
    case pos =>
      have hmb : (c0 != m) = false := by simpa using hm
      have hx5 : x5 = 1 := hst.out.trans hs
      subst hx5
      have hr : t.refuseT m = ({ t with state := 4, rf := true }, 0) := by unfold Tr.refuseT; rw [if_neg (by simp [hs]), hget]; simp only; rw [if_neg (by rw [← hcm.out, hm]; simp)]
      replace hr := Lib.hid hr
      replace hs := Lib.hid hs
      replace hsb := Lib.hid hsb
      replace hm := Lib.hid hm
      replace hget := Lib.hid hget
      go_wp2
      have hkb := ((Keeps.refl [w.heap.size] W2).setCell (p := ⟨w.heap.size, 5, none⟩) (.inr (by simp)) (.int .i64 4)).setCell (p := ⟨w.heap.size, 10, none⟩) (.inr (by simp)) (.bool true)
      have hbz2 := (hkb.block _ zl (by simp)).trans hbz.out
      obtain ⟨u1, u2⟩ := st12 (x0 := .int .i64 x0) (x1 := .int .i64 x1) (x2 := .int .i64 x2) (x3 := .int .u64 x3) (x4 := .int .i64 x4) (x5 := .int .i64 4) (x6 := .slice x6 x7 x8) (x7 := .slice x9 x10 x11) (x8 := .int .i64 x12) (x9 := .slice x13 x14 x15) (x10 := .bool true) (x11 := .slice x17 x18 x19) hbz2
      have hkf := (hkw.out.fresh hkb (fun b hb => by simp at hb; subst hb; exact .inr (Nat.le_refl _))).fresh u2 (fun b hb => by simp at hb; subst hb; exact .inr (by omega))
      have hE := h.out.keeps hkf
      refine bodyPost_ret (results_rf rfl _ _ _ _ _ _ _ _ _ _ _ _ _ _ _ _ _ rfl u1) ?_ ?_
      · rfl
      · rw [hr.out]
        exact ⟨⟨x0, x1, x2, x3, x4, 4, (x6, x7, x8), (x9, x10, x11), x12, (x13, x14, x15), true, (x17, x18, x19)⟩, rfl, ⟨hE.im, hE.is, hE.s0, hE.s1, hE.s2, rfl, hE.told, rfl, hE.op, hE.an, hE.ag, hE.hi⟩, hkf, fun b hb => .inl hb⟩
set_option maxRecDepth 100000 in
set_option maxHeartbeats 8000000 in
theorem agreeR_c (w : World) (x : RfV) (t : Tr) (m : Int) (h : RfR w x t) (hi : t.Inv) (hl : t.qs.length ≤ 1000) (hl2 : t.ag.length ≤ 1000) (hag : t.state = 1 → t.ag.length < t.clm.length) :
    Calls Tryz.prog 23 #[rfV x, .int .i64 m] w (RPost w x (t.agreeT m)) := by
  have hcl := fun (W : World) (hk : Keeps [] w W) => claimR_c W x t (h.keeps hk) hi hl hag
  have hst := h.st
  have hga := h.ag
  obtain ⟨x0, x1, x2, x3, x4, x5, ⟨x6, x7, x8⟩, ⟨x9, x10, x11⟩, x12, ⟨x13, x14, x15⟩, x16, ⟨x17, x18, x19⟩⟩ := x
  simp only [slv, rfV] at hst hcl hga ⊢
  have hb1 := heap_alloc_new (w.alloc (.cells #[.int .i64 x0, .int .i64 x1, .int .i64 x2, .int .u64 x3, .int .i64 x4, .int .i64 x5, .slice x6 x7 x8, .slice x9 x10 x11, .int .i64 x12, .slice x13 x14 x15, .bool x16, .slice x17 x18 x19] tR)) (.cells #[.int .i64 0, .int .i64 0, .int .i64 0, .int .u64 0, .int .i64 0, .int .i64 0, .slice none 0 0, .slice none 0 0, .int .i64 0, .slice none 0 0, .bool false, .slice none 0 0] tR)
  rw [show (w.alloc (.cells #[.int .i64 x0, .int .i64 x1, .int .i64 x2, .int .u64 x3, .int .i64 x4, .int .i64 x5, .slice x6 x7 x8, .slice x9 x10 x11, .int .i64 x12, .slice x13 x14 x15, .bool x16, .slice x17 x18 x19] tR)).heap.size = w.heap.size + 1 by simp] at hb1
  have hkA : Keeps [] w ((w.alloc (.cells #[.int .i64 x0, .int .i64 x1, .int .i64 x2, .int .u64 x3, .int .i64 x4, .int .i64 x5, .slice x6 x7 x8, .slice x9 x10 x11, .int .i64 x12, .slice x13 x14 x15, .bool x16, .slice x17 x18 x19] tR)).alloc (.cells #[.int .i64 0, .int .i64 0, .int .i64 0, .int .u64 0, .int .i64 0, .int .i64 0, .slice none 0 0, .slice none 0 0, .int .i64 0, .slice none 0 0, .bool false, .slice none 0 0] tR)) := ((Keeps.refl _ _).alloc _).alloc _
  have hb0 := ((Keeps.refl [] (w.alloc (.cells #[.int .i64 x0, .int .i64 x1, .int .i64 x2, .int .u64 x3, .int .i64 x4, .int .i64 x5, .slice x6 x7 x8, .slice x9 x10 x11, .int .i64 x12, .slice x13 x14 x15, .bool x16, .slice x17 x18 x19] tR))).alloc (.cells #[.int .i64 0, .int .i64 0, .int .i64 0, .int .u64 0, .int .i64 0, .int .i64 0, .slice none 0 0, .slice none 0 0, .int .i64 0, .slice none 0 0, .bool false, .slice none 0 0] tR)).block _ (by simp) (by simp) |>.trans (heap_alloc_new w (.cells #[.int .i64 x0, .int .i64 x1, .int .i64 x2, .int .u64 x3, .int .i64 x4, .int .i64 x5, .slice x6 x7 x8, .slice x9 x10 x11, .int .i64 x12, .slice x13 x14 x15, .bool x16, .slice x17 x18 x19] tR))
  replace hkA := Lib.hid hkA
  replace hcl := Lib.hid hcl
  replace hb1 := Lib.hid hb1
  replace hb0 := Lib.hid hb0
  replace h := Lib.hid h
  replace hst := Lib.hid hst
  replace hi := Lib.hid hi
  replace hga := Lib.hid hga
  replace hag := Lib.hid hag
  go_enter Tryz.func23, Tryz.ntmps23
  go_wp2_with fail
  generalize ((w.alloc (.cells #[.int .i64 x0, .int .i64 x1, .int .i64 x2, .int .u64 x3, .int .i64 x4, .int .i64 x5, .slice x6 x7 x8, .slice x9 x10 x11, .int .i64 x12, .slice x13 x14 x15, .bool x16, .slice x17 x18 x19] tR)).alloc (.cells #[.int .i64 0, .int .i64 0, .int .i64 0, .int .u64 0, .int .i64 0, .int .i64 0, .slice none 0 0, .slice none 0 0, .int .i64 0, .slice none 0 0, .bool false, .slice none 0 0] tR)) = WA at *
  refine (hcl.out _ hkA.out).mono ?_
  rintro e w1 ⟨cx, p, rfl, hcr, hk1, hcase⟩
  obtain ⟨c0, c1, ⟨c2, c3, c4⟩, ⟨c5, c6, c7⟩, ⟨c8, c9, c10⟩⟩ := cx
  simp only [clV, slv]
  have hkM := (Keeps.refl [] w1).alloc (.cells #[.int .i64 c0, .int .i64 c1, .slice c2 c3 c4, .slice c5 c6 c7, .slice c8 c9 c10] tC)
  have hbC := heap_alloc_new w1 (.cells #[.int .i64 c0, .int .i64 c1, .slice c2 c3 c4, .slice c5 c6 c7, .slice c8 c9 c10] tC)
  have hk1M := hk1.trans hkM
  have hbx := (hk1M.block _ (lt_of_blk hb0.out) (by simp)).trans hb0.out
  have hbz := (hk1M.block _ (lt_of_blk hb1.out) (by simp)).trans hb1.out
  have hkw := hkA.out.trans hk1M
  have hcm := hcr.m
  simp only at hcm
  obtain ⟨sb, hsb⟩ : ∃ b, (t.state == 1) = b := ⟨_, rfl⟩
  rw [hsb]
  replace hbx := Lib.hid hbx
  replace hbz := Lib.hid hbz
  replace hkw := Lib.hid hkw
  replace hcase := Lib.hid hcase
  replace hcm := Lib.hid hcm
  replace hbC := Lib.hid hbC
  clear hk1 hkM hk1M hcr hcl
  go_upto_if 14 with fail
  generalize (w1.alloc (.cells #[.int .i64 c0, .int .i64 c1, .slice c2 c3 c4, .slice c5 c6 c7, .slice c8 c9 c10] tC)) = W2 at *
  obtain ⟨XC, hXC⟩ : ∃ X, w1.heap.size = X := ⟨_, rfl⟩
  rw [hXC] at hbC ⊢
  replace hXC := Lib.hid hXC
  obtain ⟨y0, y1, y2, y3, y4, y5, y6, y7, y8, y9, y10, y11, yf, yl⟩ := cells12 hbx.out
  obtain ⟨z0, z1, z2, z3, z4, z5, z6, z7, z8, z9, z10, z11, zf, zl⟩ := cells12 hbz.out
  obtain ⟨k0, k1, k2, k3, k4, kl⟩ := cells5 hbC.out
  cases sb with
  | false =>
    have hs : t.state ≠ 1 := by simpa using hsb
    have hr : t.agreeT m = (t, 9) := by unfold Tr.agreeT; rw [if_pos hs]
    replace hr := Lib.hid hr
    replace hs := Lib.hid hs
    replace hsb := Lib.hid hsb
    go_wp2
    obtain ⟨s1, s2⟩ := st12 (x0 := .int .i64 x0) (x1 := .int .i64 x1) (x2 := .int .i64 x2) (x3 := .int .u64 x3) (x4 := .int .i64 x4) (x5 := .int .i64 x5) (x6 := .slice x6 x7 x8) (x7 := .slice x9 x10 x11) (x8 := .int .i64 x12) (x9 := .slice x13 x14 x15) (x10 := .bool x16) (x11 := .slice x17 x18 x19) hbz.out
    have hkf := hkw.out.fresh s2 (fun b hb => by simp at hb; subst hb; exact .inr (by omega))
    refine bodyPost_ret (results_rf rfl _ _ _ _ _ _ _ _ _ _ _ _ _ _ _ _ _ rfl s1) ?_ ?_
    · rfl
    · exact RPost.same (x := ⟨x0, x1, x2, x3, x4, x5, (x6, x7, x8), (x9, x10, x11), x12, (x13, x14, x15), x16, (x17, x18, x19)⟩) hr.out (h.out.keeps hkf) hkf
  | true =>
    have hs : t.state = 1 := by simpa using hsb
    have hget : t.clm[t.ag.length]? = some p := by
      rcases hcase.out with ⟨e, _⟩ | ⟨_, e⟩
      · exact absurd hs e
      · exact e
    by_cases hm : c0 = m
    case neg =>
      have hmb : (c0 != m) = true := by simpa using hm
      have hr : t.agreeT m = (t, 1) := by unfold Tr.agreeT; rw [if_neg (by simp [hs]), hget]; simp only; rw [if_pos (by rw [← hcm.out]; exact hm)]
      replace hr := Lib.hid hr
      replace hs := Lib.hid hs
      replace hsb := Lib.hid hsb
      replace hm := Lib.hid hm
      replace hget := Lib.hid hget
      go_wp2
      obtain ⟨s1, s2⟩ := st12 (x0 := .int .i64 x0) (x1 := .int .i64 x1) (x2 := .int .i64 x2) (x3 := .int .u64 x3) (x4 := .int .i64 x4) (x5 := .int .i64 x5) (x6 := .slice x6 x7 x8) (x7 := .slice x9 x10 x11) (x8 := .int .i64 x12) (x9 := .slice x13 x14 x15) (x10 := .bool x16) (x11 := .slice x17 x18 x19) hbz.out
      have hkf := hkw.out.fresh s2 (fun b hb => by simp at hb; subst hb; exact .inr (by omega))
      refine bodyPost_ret (results_rf rfl _ _ _ _ _ _ _ _ _ _ _ _ _ _ _ _ _ rfl s1) ?_ ?_
      · rfl
      · exact RPost.same (x := ⟨x0, x1, x2, x3, x4, x5, (x6, x7, x8), (x9, x10, x11), x12, (x13, x14, x15), x16, (x17, x18, x19)⟩) hr.out (h.out.keeps hkf) hkf
    case pos =>
      have hmb : (c0 != m) = false := by simpa using hm
      have hx5 : x5 = 1 := hst.out.trans hs
      subst hx5
      have hr : t.agreeT m = ({ t with ag := t.ag ++ [m], state := if t.ag.length + 1 = t.clm.length then 2 else t.state }, 0) := by unfold Tr.agreeT; rw [if_neg (by simp [hs]), hget]; simp only; rw [if_neg (by rw [← hcm.out, hm]; simp)]
      replace hr := Lib.hid hr
      have hx14 : t.ag.length = x14 := by
        obtain ⟨_, _, e, _⟩ := hga.out.form
        simp only [Value.slice.injEq] at e
        exact e.2.1.symm
      rw [hx14] at hl2 hget
      have hgaW := hga.out.keeps hkw.out
      have hfr := Sh.O.fresh shZ W2 W2.heap.size 3 (Nat.le_refl _)
      have hkE := (Keeps.refl [] W2).alloc (.cells #[] 3)
      have hsE : W2.heap.size ≤ (W2.alloc (.cells #[] 3)).heap.size := by simp
      replace hgaW := Lib.hid hgaW
      replace hfr := Lib.hid hfr
      replace hkE := Lib.hid hkE
      replace hs := Lib.hid hs
      replace hsb := Lib.hid hsb
      replace hm := Lib.hid hm
      replace hget := Lib.hid hget
      replace hx14 := Lib.hid hx14
      go_wp2_with (first
        | (at_builtin; (refine Sh.wpl_app shZ W2.heap.size infoZ rfl Tryz.underlying34 (.slice (some ⟨W2.heap.size, 0, none⟩) 0 0) (.slice x13 x14 x15) [] t.ag rfl _ _ rfl rfl rfl hfr.out (hgaW.out.keeps hkE.out) (by rw [hx14.out]; simp only [List.length_nil]; omega) hsE ?_; intro v5 w5 hO5 hG5; rw [List.nil_append] at hO5; have hk5 := hG5.keeps (a := W2) hkE.out (fun b hb => by simp [Value.ownBlock] at hb; omega); have hm5 := Sh.R.made shZ w5 [m] #[.int .i64 m] 3 rfl (by simp [maxLen]) 1 rfl; have hkm := (Keeps.refl [] w5).alloc (.cells #[.int .i64 m] 3); have hO5a := Lib.hid (hO5.keeps hkm); have hk5a := Lib.hid (hk5.trans hkm); have hs5 : W2.heap.size ≤ (w5.alloc (.cells #[.int .i64 m] 3)).heap.size := hk5a.out.size; replace hm5 := Lib.hid hm5; clear hO5 hk5 hG5 hkm))
        | (at_builtin; (refine Sh.wpl_app shZ W2.heap.size infoZ rfl Tryz.underlying34 v5 (.slice (some ⟨w5.heap.size, 0, none⟩) 1 1) t.ag [m] rfl _ _ rfl rfl rfl hO5a.out hm5.out (by rw [hx14.out]; simp only [List.length_singleton]; omega) hs5 ?_; intro v6 w6 hO6 hG6; have hk6 := Sh.O.grew hk5a.out hO5a.out hG6 (Nat.le_refl _); obtain ⟨va, vc, rfl⟩ := hO6.form; obtain ⟨N6, hN6⟩ : ∃ n, (t.ag ++ [m]).length = n := ⟨_, rfl⟩; rw [hN6] at hO6 ⊢; have hbx6 := Lib.hid ((hk6.block _ yl (by simp)).trans hbx.out); have hbz6 := Lib.hid ((hk6.block _ zl (by simp)).trans hbz.out); obtain ⟨y0, y1, y2, y3, y4, y5, y6, y7, y8, y9, y10, y11, yf, yl6⟩ := cells12 hbx6.out; have hkw6 := Lib.hid (hkw.out.trans hk6); replace hO6 := Lib.hid hO6; replace hN6 := Lib.hid hN6; clear hG6 hk6))
        | fail)
      have hkS : Keeps [w.heap.size] w6 (w6.setCell ⟨w.heap.size, 9, none⟩ (.slice va N6 vc)) := (Keeps.refl _ _).setCell (.inr (by simp)) _
      have hbx7 := setCs hbx6.out 9 (.slice va N6 vc)
      have hbz7 := (hkS.block _ (lt_of_blk hbz6.out) (by simp)).trans hbz6.out
      have hkw7 := hkw6.out.fresh hkS (fun b hb => by simp at hb; subst hb; exact .inr (Nat.le_refl _))
      have hO7 := hO6.out.keepS hkS (fun b hb e => by
        simp at hb; subst hb
        obtain ⟨cs, hc⟩ := hO6.out.tag _ e
        exact tag_ne hbx6.out hc (by decide) rfl)
      have hE7 := h.out.keeps hkw7
      have hR7 : RfR (w6.setCell ⟨w.heap.size, 9, none⟩ (.slice va N6 vc)) ⟨x0, x1, x2, x3, x4, 1, (x6, x7, x8), (x9, x10, x11), x12, (va, N6, vc), x16, (x17, x18, x19)⟩ { t with ag := t.ag ++ [m] } := ⟨hE7.im, hE7.is, hE7.s0, hE7.s1, hE7.s2, hE7.st, hE7.told, hE7.rf, hE7.op, hE7.an, hO7.r, hE7.hi⟩
      have hN6' : N6 = x14 + 1 := by rw [← hN6.out, List.length_append, hx14.out]; rfl
      replace hN6' := Lib.hid hN6'
      have hsc := fun (W : World) (hk : Keeps [] (w6.setCell ⟨w.heap.size, 9, none⟩ (.slice va N6 vc)) W) => sortedR_c W _ { t with ag := t.ag ++ [m] } (hR7.keeps hk) hi.out.rk hl
      simp only [rfV, slv] at hsc
      replace hbx7 : (w6.setCell ⟨w.heap.size, 9, none⟩ (.slice va N6 vc)).heap[w.heap.size]? = some (.cells #[.int .i64 x0, .int .i64 x1, .int .i64 x2, .int .u64 x3, .int .i64 x4, .int .i64 1, .slice x6 x7 x8, .slice x9 x10 x11, .int .i64 x12, .slice va N6 vc, .bool x16, .slice x17 x18 x19] tR) := by simpa using hbx7
      replace hbx7 := Lib.hid hbx7
      replace hbz7 := Lib.hid hbz7
      replace hkw7 := Lib.hid hkw7
      replace hR7 := Lib.hid hR7
      replace hO7 := Lib.hid hO7
      replace hsc := Lib.hid hsc
      clear hkS hE7 hO6 hkw6 hbx6 hbz6
      generalize (w6.setCell ⟨w.heap.size, 9, none⟩ (.slice va N6 vc)) = w7 at *
      clear y0 y1 y2 y3 y4 y5 y6 y7 y8 y9 y10 y11 yf yl6 z0 z1 z2 z3 z4 z5 z6 z7 z8 z9 z10 z11 zf
      obtain ⟨y0, y1, y2, y3, y4, y5, y6, y7, y8, y9, y10, y11, yf, yl7⟩ := cells12 hbx7.out
      refine Free.wp_region_chain (fun i => i == 4 || i == 5) (fun i => true) (fun _ _ => False) (by kernel_rfl) (by kernel_rfl) (by kernel_rfl) ?_
      (repeat (first | (apply Free.cw_pure rfl rfl; (intro w'; go_simp <;> exact rfl); go_frame) | (apply Free.cw_steady rfl rfl rfl; (intro w' hS; have q0 := Free.sx_cell hS y0 (fun _ _ hT => hT); have q1 := Free.sx_cell hS y1 (fun _ _ hT => hT); have q2 := Free.sx_cell hS y2 (fun _ _ hT => hT); have q3 := Free.sx_cell hS y3 (fun _ _ hT => hT); have q4 := Free.sx_cell hS y4 (fun _ _ hT => hT); have q5 := Free.sx_cell hS y5 (fun _ _ hT => hT); have q6 := Free.sx_cell hS y6 (fun _ _ hT => hT); have q7 := Free.sx_cell hS y7 (fun _ _ hT => hT); have q8 := Free.sx_cell hS y8 (fun _ _ hT => hT); have q9 := Free.sx_cell hS y9 (fun _ _ hT => hT); have q10 := Free.sx_cell hS y10 (fun _ _ hT => hT); have q11 := Free.sx_cell hS y11 (fun _ _ hT => hT); go_simp <;> exact rfl); go_frame) | (refine Free.cw_skip rfl ?_; go_frame)))
      refine Free.cw_loud rfl rfl (fun K hK => ?_)
      go_wp2_with fail
      refine (hsc.out _ ((Keeps.refl [] w7).drew)).mono ?_
      rintro e w8 ⟨v8, rfl, hv8, hk8⟩
      refine hK _ _ rfl (Free.KeepsP.of hk8 (by simp)) ?_
      clear hK K
      have hcl := clmOf_c w8 v8 t hi.out hl hv8
      have hk8d := ((Keeps.refl [] w7).drew).trans hk8
      replace hcl := Lib.hid hcl
      replace hk8d := Lib.hid hk8d
      clear hv8 hk8
      (repeat (apply Free.cw_pure rfl rfl; (intro w'; go_simp <;> exact rfl); go_frame))
      refine Free.cw_loud rfl rfl (fun K hK => ?_)
      go_wp2_with fail
      refine hcl.out.mono ?_
      rintro e w9 ⟨v9, rfl, hLC, hk9⟩
      refine hK _ _ rfl (Free.KeepsP.of hk9 (by simp)) ?_
      clear hK K hcl
      obtain ⟨la, lc, rfl, _, _⟩ := hLC.lc.form
      obtain ⟨NC, hNC⟩ : ∃ n, t.clm.length = n := ⟨_, rfl⟩
      rw [hNC]
      have hk79 := hk8d.out.trans hk9
      have hbx9 := (hk79.block _ (lt_of_blk hbx7.out) (by simp)).trans hbx7.out
      have hbz9 := (hk79.block _ (lt_of_blk hbz7.out) (by simp)).trans hbz7.out
      have hkw9 := hkw7.out.trans hk79
      have hR9 := hR7.out.keeps hk79
      have hO9 := hO7.out.keeps hk79
      replace hNC := Lib.hid hNC
      replace hbx9 := Lib.hid hbx9
      replace hbz9 := Lib.hid hbz9
      replace hkw9 := Lib.hid hkw9
      replace hR9 := Lib.hid hR9
      replace hO9 := Lib.hid hO9
      clear hk9 hk79 hLC hO7 hR7
      (repeat (apply Free.cw_pure rfl rfl; (intro w'; go_simp <;> exact rfl); go_frame))
      refine Free.cw_nil ?_
      obtain ⟨y0, y1, y2, y3, y4, y5, y6, y7, y8, y9, y10, y11, yf, yl9⟩ := cells12 hbx9.out
      obtain ⟨z0, z1, z2, z3, z4, z5, z6, z7, z8, z9, z10, z11, zf, zl9⟩ := cells12 hbz9.out
      by_cases hfin : N6 = NC
      · have hfb : ((N6 : Int) == (NC : Int)) = true := by simp [hfin]
        replace hfin := Lib.hid hfin
        go_wp2
        have hkb := (Keeps.refl [w.heap.size] w9).setCell (p := ⟨w.heap.size, 5, none⟩) (.inr (by simp)) (.int .i64 2)
        have hbz2 := (hkb.block _ zl9 (by simp)).trans hbz9.out
        obtain ⟨u1, u2⟩ := st12 (x0 := .int .i64 x0) (x1 := .int .i64 x1) (x2 := .int .i64 x2) (x3 := .int .u64 x3) (x4 := .int .i64 x4) (x5 := .int .i64 2) (x6 := .slice x6 x7 x8) (x7 := .slice x9 x10 x11) (x8 := .int .i64 x12) (x9 := .slice va N6 vc) (x10 := .bool x16) (x11 := .slice x17 x18 x19) hbz2
        have hks := (hkb.mono (T := [w.heap.size, w.heap.size + 1]) (by simp)).trans (u2.mono (by simp))
        have hkf := (hkw9.out.fresh hkb (fun b hb => by simp at hb; subst hb; exact .inr (Nat.le_refl _))).fresh u2 (fun b hb => by simp at hb; subst hb; exact .inr (by omega))
        have hE := h.out.keeps hkf
        have hOE := hO9.out.keepS hks (fun b hb e => by
          obtain ⟨cs, hc⟩ := hO9.out.tag _ e
          simp at hb
          rcases hb with hb | hb
          · subst hb; exact tag_ne hbx9.out hc (by decide) rfl
          · subst hb; exact tag_ne hbz9.out hc (by decide) rfl)
        refine bodyPost_ret (results_rf rfl _ _ _ _ _ _ _ _ _ _ _ _ _ _ _ _ _ rfl u1) ?_ ?_
        · rfl
        · rw [hr.out, if_pos (by rw [hNC.out, hx14.out, ← hfin.out, hN6'.out])]
          exact ⟨⟨x0, x1, x2, x3, x4, 2, (x6, x7, x8), (x9, x10, x11), x12, (va, N6, vc), x16, (x17, x18, x19)⟩, rfl, ⟨hE.im, hE.is, hE.s0, hE.s1, hE.s2, rfl, hE.told, hE.rf, hE.op, hE.an, hOE.r, hE.hi⟩, hkf, Fsh_ag rfl rfl rfl (fun b hb => ⟨by have := hOE.ge b hb; omega, hOE.lt b hb⟩)⟩
      · have hfb : ((N6 : Int) == (NC : Int)) = false := by simp; omega
        replace hfin := Lib.hid hfin
        go_wp2
        obtain ⟨u1, u2⟩ := st12 (x0 := .int .i64 x0) (x1 := .int .i64 x1) (x2 := .int .i64 x2) (x3 := .int .u64 x3) (x4 := .int .i64 x4) (x5 := .int .i64 1) (x6 := .slice x6 x7 x8) (x7 := .slice x9 x10 x11) (x8 := .int .i64 x12) (x9 := .slice va N6 vc) (x10 := .bool x16) (x11 := .slice x17 x18 x19) hbz9.out
        have hkf := hkw9.out.fresh u2 (fun b hb => by simp at hb; subst hb; exact .inr (by omega))
        have hE := h.out.keeps hkf
        have hOE := hO9.out.keepS u2 (fun b hb e => by
          obtain ⟨cs, hc⟩ := hO9.out.tag _ e
          simp at hb
          subst hb; exact tag_ne hbz9.out hc (by decide) rfl)
        refine bodyPost_ret (results_rf rfl _ _ _ _ _ _ _ _ _ _ _ _ _ _ _ _ _ rfl u1) ?_ ?_
        · rfl
        · rw [hr.out, if_neg (by rw [hNC.out, hx14.out, ← hN6'.out]; exact hfin.out)]
          exact ⟨⟨x0, x1, x2, x3, x4, 1, (x6, x7, x8), (x9, x10, x11), x12, (va, N6, vc), x16, (x17, x18, x19)⟩, rfl, ⟨hE.im, hE.is, hE.s0, hE.s1, hE.s2, hE.st, hE.told, hE.rf, hE.op, hE.an, hOE.r, hE.hi⟩, hkf, Fsh_ag rfl rfl rfl (fun b hb => ⟨by have := hOE.ge b hb; omega, hOE.lt b hb⟩)⟩
end Go.Proofs.YthfdngjbcgkkfaaGreat
