/- Texts that the laws lean on, in the order in which they build. Package certificate: Check. Package certificate: what Check says of a list that is too long. The law's few: the number of elements of all lists; where a list is very long, the sum may wrap. The law's example; awake. The law's `claimed`. What an accepted certificate says, and what spoils it (plain). -/
import Derived.Test.YtiplgpefapeapaaKC7
set_option linter.unusedVariables false
set_option linter.unusedSimpArgs false
namespace Go.Proofs.Ytiplgpefapeapaa
open Go.RowKit

theorem chk_wf {c : Ct} (h : wf c = false) : chk c = 1 := by unfold chk; rw [h]; rfl
theorem chk_bad {c : Ct} (hw : wf c = true) (h : goodB c = false) : chk c = 15 := by unfold chk; rw [hw, h]; rfl
theorem chk_good {c : Ct} (hw : wf c = true) (h : goodB c = true) : chk c = 0 := by unfold chk; rw [hw, h]; rfl
theorem wf_srt {c : Ct} (h : wf c = true) : SrtA c.an := by
  unfold wf at h
  simp only [Bool.and_eq_true] at h
  exact incA_srt h.1.1.2
theorem bad_start {c : Ct} (h : hasA c.an (kq c) = false) : goodB c = false := by unfold goodB; rw [h]; rfl
theorem bad_an {c : Ct} {a : Ans} (ha : a ∈ c.an) (h : ansB c.an a = false) : goodB c = false := by
  unfold goodB
  rw [List.all_eq_false.2 ⟨a, ha, by rw [h]; decide⟩]
  simp
theorem bad_ep {c : Ct} {a b : Ans} (ha : a ∈ c.an) (hb : b ∈ c.an) (hm : a.m = b.m) (he : a.ep ≠ b.ep) : goodB c = false := by
  have : epB c.an = false := by
    cases h : epB c.an with
    | false => rfl
    | true => exact absurd (epB_iff.1 h a ha b hb hm) he
  unfold goodB
  rw [this]
  simp
theorem bad_cl {c : Ct} (h : c.cl ≠ clY c.an) : goodB c = false := by unfold goodB; rw [decide_eq_false h]; simp
theorem good_all {c : Ct} (h1 : hasA c.an (kq c) = true) (h2 : epB c.an = true) (h3 : ∀ a ∈ c.an, ansB c.an a = true) (h4 : c.cl = clY c.an) : goodB c = true := by
  unfold goodB
  rw [h1, h2, List.all_eq_true.2 h3, decide_eq_true h4]
  rfl
/-- The map of the epochs. -/
structure EpI (E : List (Int × Int)) (Z : List Ans) : Prop where
  a : ∀ a ∈ Z, MapS.get a.m E = some a.ep
  n : ∀ m, (∀ a ∈ Z, a.m ≠ m) → MapS.get m E = none
  len : E.length ≤ Z.length
theorem EpI.nil : EpI [] [] := ⟨by simp, fun _ _ => rfl, Nat.le_refl _⟩
theorem EpI.new {E : List (Int × Int)} {Z : List Ans} (h : EpI E Z) {a : Ans} (hg : MapS.get a.m E = none) : EpI (E ++ [(a.m, a.ep)]) (Z ++ [a]) := by
  refine ⟨fun b hb => ?_, fun m hm => ?_, by have := h.len; simp; omega⟩
  · rw [MapS.get_append]
    rcases List.mem_append.1 hb with hb | hb
    · rw [h.a b hb]; rfl
    · rw [List.mem_singleton.1 hb, hg]; simp [MapS.get]
  · rw [MapS.get_append, h.n m (fun b hb => hm b (by simp [hb]))]
    have : ¬ a.m = m := hm a (by simp)
    simp [MapS.get, this]
theorem EpI.old {E : List (Int × Int)} {Z : List Ans} (h : EpI E Z) {a : Ans} (hg : MapS.get a.m E = some a.ep) : EpI (MapS.set a.m a.ep E) (Z ++ [a]) := by
  refine ⟨fun b hb => ?_, fun m hm => ?_, by have := h.len; unfold MapS.set; simp; omega⟩
  · rw [MapS.get_set]
    by_cases e : b.m = a.m
    · rw [if_pos ⟨e, by rw [hg]; rfl⟩]
      rcases List.mem_append.1 hb with hb | hb
      · have := h.a b hb
        rw [e, hg] at this
        exact this
      · rw [List.mem_singleton.1 hb]
    · rw [if_neg (fun h => e h.1)]
      rcases List.mem_append.1 hb with hb | hb
      · exact h.a b hb
      · exact absurd (by rw [List.mem_singleton.1 hb]) e
  · rw [MapS.get_set, if_neg (fun e => hm a (by simp) e.1.symm)]
    exact h.n m (fun b hb => hm b (by simp [hb]))
theorem EpI.epB {E : List (Int × Int)} {Z : List Ans} (h : EpI E Z) : epB Z = true := epB_iff.2 (fun a ha b hb e => by
  have h1 := h.a a ha
  rw [e, h.a b hb] at h1
  exact (Option.some.inj h1).symm)
theorem EpI.val {E : List (Int × Int)} {Z : List Ans} (h : EpI E Z) {m v : Int} (hg : MapS.get m E = some v) : ∃ a ∈ Z, a.m = m ∧ a.ep = v := by
  by_cases hx : ∃ a ∈ Z, a.m = m
  · obtain ⟨a, ha, e⟩ := hx
    have := h.a a ha
    rw [e, hg] at this
    exact ⟨a, ha, e, (Option.some.inj this).symm⟩
  · rw [h.n m (fun a ha e => hx ⟨a, ha, e⟩)] at hg
    cases hg
theorem ansB_def (Y : List Ans) (a : Ans) : ansB Y a = (a.kn && !a.rt && a.ins.all (insB Y a.m)) := rfl
theorem insB_def (Y : List Ans) (m : Int) (x : T3) : insB Y m x = (decide (MapS.get (m, x.1, x.2.1) (outsOf Y) = some x.2.2) && hasA Y (x.1, m, x.2.1)) := rfl
theorem ans_of_get {R : List (Qn × AnV)} {Y : List Ans} (h : AnsM R Y) (hs : SrtA Y) (q : Qn) : ∃ yv : AnV, ((MapS.get q R).map aV).getD (aV .zero) = aV yv ∧ (MapS.get q R).isSome = hasA Y q := by
  refine (?_ : ∃ yv : AnV, _).elim fun yv e => ⟨yv, e, (h.get hs q).1⟩
  cases MapS.get q R with
  | none => exact ⟨_, rfl⟩
  | some y => exact ⟨y, rfl⟩
set_option maxRecDepth 100000 in
set_option maxHeartbeats 16000000 in
theorem check_c (w : World) (x : CtV) (c : Ct) (h : CtW w x c) (hfit : c.Fit) (hf : c.Few) :
    Calls Try.prog 8 #[ctV x] w fun e w' => e = .returned (.int .i64 (chk c)) ∧ Keeps [] w w' := by
  have hmm := @run_makeMap Try.prog
  have hcf := fun (W : World) (hk : Keeps [] w W) => formed_c W x c (h.keeps hk) hf
  have hca := fun (hs : SrtA c.an) (W : World) (hk : Keeps [] w W) => answersM_c W x c (h.keeps hk) hfit.an hf hs
  have hcd := fun (W : World) (hk : Keeps [] w W) => found_c W x c (h.keeps hk) hfit.an hf
  have hcm := fun (hs : SrtA c.an) (W : World) (hk : Keeps [] w W) => claimsM_c W x c (h.keeps hk) hfit.an hf hs
  have hce := fun (W : World) (hk : Keeps [] w W) (v : Value) (hv : LC W v (clY c.an)) => eqClaims_c W _ v _ _ (h.cl.keeps hk) hv
  have han := h.an
  have hkq : (x.im, x.s0, x.s1) = kq c := by unfold kq; rw [h.im, h.s0, h.s1]
  have hqk : qOk (x.im, x.s0, x.s1) := ⟨by rw [h.im]; exact hfit.im, by rw [h.s0]; exact hfit.st.1, by rw [h.s1]; exact hfit.st.2.1⟩
  obtain ⟨x0, x1, x2, x3, x4, ⟨x5, x6, x7⟩, ⟨x8, x9, x10⟩⟩ := x
  simp only [slv] at han
  simp only [ctV, slv] at hcf hca hcd hcm hce
  simp only at hkq hqk
  obtain ⟨_, _, e1, hla, hcap⟩ := han.form
  simp only [Value.slice.injEq] at e1
  obtain ⟨-, e1, -⟩ := e1
  rw [← e1] at hla
  have hx6m : x6 ≤ 9223372036854775807 := by unfold maxLen at hcap; omega
  have hA := heap_alloc_new w (.cells #[.int .i64 x0, .int .i64 x1, .int .i64 x2, .int .u64 x3, .int .i64 x4, .slice x5 x6 x7, .slice x8 x9 x10] tCt)
  have hkA := (Keeps.refl [] w).alloc (.cells #[.int .i64 x0, .int .i64 x1, .int .i64 x2, .int .u64 x3, .int .i64 x4, .slice x5 x6 x7, .slice x8 x9 x10] tCt)
  obtain ⟨W, hW⟩ : ∃ W, w.alloc (.cells #[.int .i64 x0, .int .i64 x1, .int .i64 x2, .int .u64 x3, .int .i64 x4, .slice x5 x6 x7, .slice x8 x9 x10] tCt) = W := ⟨_, rfl⟩
  obtain ⟨B, hB⟩ : ∃ B, w.heap.size = B := ⟨_, rfl⟩
  rw [hW] at hA hkA
  rw [hB] at hA
  obtain ⟨Y, hY⟩ : ∃ Y, c.an = Y := ⟨_, rfl⟩
  have hfY : Y.length = x6 := by rw [← hY]; exact e1.symm
  have hfn : x6 ≤ 1000 := by have := hf.an; omega
  obtain ⟨r, hr⟩ : ∃ r, chk c = r := ⟨_, rfl⟩
  rw [hr]
  rw [hY] at han
  have hfa : ∀ a ∈ Y, a.Fit := by rw [← hY]; exact hfit.an
  replace han := Lib.hid han
  replace hkA := Lib.hid hkA
  replace hW := Lib.hid hW
  replace hB := Lib.hid hB
  replace hA := Lib.hid hA
  replace hcf := Lib.hid hcf
  replace hca := Lib.hid hca
  replace hcd := Lib.hid hcd
  replace hcm := Lib.hid hcm
  replace hce := Lib.hid hce
  replace hfY := Lib.hid hfY
  replace hY := Lib.hid hY
  replace hr := Lib.hid hr
  replace hkq := Lib.hid hkq
  replace hqk := Lib.hid hqk
  replace hfa := Lib.hid hfa
  clear h hf e1 hfit
  simp only [ctV, slv]
  go_enter Try.func8, Try.ntmps8
  go_upto_region 1 with fail
  rw [hW.out, hB.out]
  obtain ⟨i0, i1, i2, i3, i4, i5, i6, if', il⟩ := cl7 hA.out
  go_wp2_with fail
  refine (hcf.out _ hkA.out).mono ?_
  rintro e w1 ⟨rfl, hk1⟩
  have hk01 := hkA.out.trans hk1
  have hA1 := (hk1.block _ (lt_of_blk hA.out) (by simp)).trans hA.out
  replace hk01 := Lib.hid hk01
  replace hA1 := Lib.hid hA1
  clear hk1 i0 i1 i2 i3 i4 i5 i6 if' il hcf
  obtain ⟨i0, i1, i2, i3, i4, i5, i6, if', il⟩ := cl7 hA1.out
  obtain ⟨wb, hwb⟩ : ∃ b, wf c = b := ⟨_, rfl⟩
  rw [hwb]
  cases wb with
  | false =>
    have hd : (1 : Int) = r := by rw [← hr.out, chk_wf hwb]
    replace hd := Lib.hid hd
    replace hwb := Lib.hid hwb
    go_wp2
    go_ret
    exact ⟨by rw [← hd.out]; rfl, hk01.out⟩
  | true =>
  have hs : SrtA c.an := wf_srt hwb
  have hbad : goodB c = false → (15 : Int) = r := fun hg => by rw [← hr.out, chk_bad hwb hg]
  have hgood : goodB c = true → (0 : Int) = r := fun hg => by rw [← hr.out, chk_good hwb hg]
  have hcaA := hca.out hs
  have hcmA := hcm.out hs
  rw [hY.out] at hs hcaA hcmA
  replace hs := Lib.hid hs
  replace hbad := Lib.hid hbad
  replace hgood := Lib.hid hgood
  replace hwb := Lib.hid hwb
  replace hcaA := Lib.hid hcaA
  replace hcmA := Lib.hid hcmA
  clear hca hcm hr
  go_wp2_with fail
  refine (hcaA.out _ hk01.out).mono ?_
  rintro e w2 ⟨bS, R, rfl, hMS, hR, hbS, hk2⟩
  have hk02 := hk01.out.trans hk2
  have hA2 := (hk2.block _ (lt_of_blk hA1.out) (by simp)).trans hA1.out
  clear i0 i1 i2 i3 i4 i5 i6 if' il hcaA hk2
  obtain ⟨i0, i1, i2, i3, i4, i5, i6, if', il⟩ := cl7 hA2
  have hlk := MapS.M.look_ok ktS Try.underlying50 (aV .zero) zeroA hMS hqk.out
  obtain ⟨⟨v0, v1, v2, v3, v4, v5, v6, v7, v8, v9⟩, hyv, hys⟩ := ans_of_get hR hs.out (x0, x2, x3)
  obtain ⟨ob, hob0⟩ : ∃ b, hasA Y (x0, x2, x3) = b := ⟨_, rfl⟩
  rw [hyv, hys, hob0] at hlk
  have hob : hasA Y (kq c) = ob := by rw [← hkq.out]; exact hob0
  simp only [ktS, qV, aV, AnV.v] at hlk
  have hkB := (Keeps.refl [] w2).alloc (.cells #[.int .i64 v0, .int .i64 v1, .int .u64 v2, .int .i64 v3, .bool v4, .bool v5, .int .i64 v6, .slice v7 v8 v9] tA)
  have hk03 := hk02.trans hkB
  have hA3 := (hkB.block _ (lt_of_blk hA2) (by simp)).trans hA2
  have hMS3 := hMS.keeps ktS hkB
  replace hMS := Lib.hid hMS3
  replace hR := Lib.hid hR
  replace hk03 := Lib.hid hk03
  replace hA3 := Lib.hid hA3
  replace hob := Lib.hid hob
  clear hyv hys hkB hk02 hA2 hMS3 hob0
  cases ob with
  | false =>
    have hd : (15 : Int) = r := hbad.out (bad_start (by rw [hY.out]; exact hob.out))
    replace hd := Lib.hid hd
    go_wp2
    go_ret
    exact ⟨by rw [← hd.out]; rfl, hk03.out⟩
  | true =>
  go_upto_region 7 with fail
  generalize (w2.alloc (.cells #[.int .i64 v0, .int .i64 v1, .int .u64 v2, .int .i64 v3, .bool v4, .bool v5, .int .i64 v6, .slice v7 v8 v9] tA)) = w3 at *
  clear hlk i0 i1 i2 i3 i4 i5 i6 if' il
  have hM := MapS.M.made ktZ (vf := zV) w3
  have hkM : Keeps [] w3 (w3.alloc (.map #[] 0)) := (Keeps.refl _ _).alloc _
  have hw3 : w.heap.size ≤ w3.heap.size := hk03.out.size
  have hk04 := hk03.out.trans hkM
  have hA4 := (hkM.block _ (lt_of_blk hA3.out) (by simp)).trans hA3.out
  have hMS4 := hMS.out.keeps ktS hkM
  have hZ4 : (w3.alloc (.map #[] 0)).heap.size = w3.heap.size + 1 := by simp
  replace hM := Lib.hid hM
  replace hk04 := Lib.hid hk04
  replace hMS4 := Lib.hid hMS4
  replace hA4 := Lib.hid hA4
  have hbSl := MapS.M.lt ktS hMS.out
  clear hkM hk03 hA3 hMS
  obtain ⟨i0, i1, i2, i3, i4, i5, i6, if', il⟩ := cl7 hA4.out
  go_wp2_with fail
  refine (hcd.out _ hk04.out).mono ?_
  rintro e w5 ⟨bF, rfl, hMF, hbF, hk5⟩
  obtain ⟨bE, hbE⟩ : ∃ b, w3.heap.size = b := ⟨_, rfl⟩
  rw [hbE] at hM hZ4 hbSl ⊢
  have hMf := hM.out.keeps ktZ hk5
  have hMSf := hMS4.out.keeps ktS hk5
  have hk05 := hk04.out.trans hk5
  have hA5 := (hk5.block _ (lt_of_blk hA4.out) (by simp)).trans hA4.out
  have hBw : B < w3.heap.size ∨ True := .inr trivial
  have hBE : B ≠ bE := fun e => by
    have := hMf.noCells ktZ 0
    rw [← e] at this
    simp [World.cell?, hA5] at this
  have hwE : w.heap.size ≤ bE := by omega
  obtain ⟨O, hO⟩ : ∃ O, outsOf c.an = O := ⟨_, rfl⟩
  rw [hO] at hMF
  rw [hY.out] at hO
  replace hMF := Lib.hid hMF
  replace hMSf := Lib.hid hMSf
  replace hMf := Lib.hid hMf
  replace hk05 := Lib.hid hk05
  replace hA5 := Lib.hid hA5
  replace hO := Lib.hid hO
  replace hbE := Lib.hid hbE
  clear hM hMS4 hk04 hA4 hk5 hBw hcd hmm i0 i1 i2 i3 i4 i5 i6 if' il
  obtain ⟨i0, i1, i2, i3, i4, i5, i6, if', il⟩ := cl7 hA5.out
  go_wp2
  go_loopw [44] (fun i wr => ∃ (k : Nat) (E : List (Int × Int)), i = .int .i64 k ∧ k ≤ x6 ∧ Hid (MapS.M ktZ zV wr bE E) ∧ Hid (EpI E (Y.take k)) ∧ Hid (∀ j (hj : j < Y.length), j < k → ansB Y Y[j] = true) ∧ Hid (Keeps [bE] w5 wr)) (fun i _ => x6 - (intOf i).toNat)
  case atStart => exact ⟨0, [], rfl, by omega, hMf, Lib.hid EpI.nil, Lib.hid (fun _ _ h => by omega), Lib.hid (Keeps.refl _ _)⟩
  case round =>
    clear hMf i0 i1 i2 i3 i4 i5 i6 if' il
    obtain ⟨k, E, rfl, hk, hMr, hEp, hno, hkr⟩ := hrel
    have hkwr : Keeps [] w wr := hk05.out.fresh hkr.out (fun b hb => by simp at hb; subst hb; exact .inr hwE)
    by_cases hlt : k < x6
    · have hlt2 : (k : Int) < x6 := by omega
      have hkY : k < Y.length := by rw [hfY.out]; exact hlt
      obtain ⟨g, o, c', y, hv, hy, he⟩ := (han.out.keeps hkwr).elem hkY
      rw [hfY.out] at hv
      cases hv
      have hao := hfa.out _ (List.getElem_mem hkY)
      have htk : Y.take (k + 1) = Y.take k ++ [Y[k]] := List.take_succ_eq_append_getElem hkY
      have hmemY := List.getElem_mem hkY
      obtain ⟨a, ha⟩ : ∃ a, Y[k] = a := ⟨_, rfl⟩
      rw [ha] at hy hao htk hmemY
      have hba : ansB Y a = false → (15 : Int) = r := fun h => hbad.out (bad_an (a := a) (by rw [hY.out]; exact hmemY) (by rw [hY.out]; exact h))
      have hbe : ∀ b ∈ Y.take k, b.m = a.m → b.ep ≠ a.ep → (15 : Int) = r := fun b hb e1 e2 => hbad.out (bad_ep (a := b) (b := a) (by rw [hY.out]; exact List.mem_of_mem_take hb) (by rw [hY.out]; exact hmemY) e1 e2)
      have hno2 : ansB Y a = true → ∀ j (hj : j < Y.length), j < k + 1 → ansB Y Y[j] = true := fun h j hj hjk => by
        by_cases e : j = k
        · subst e; rw [ha]; exact h
        · exact hno.out j hj (by omega)
      obtain ⟨ai, aic, ev, hl1, hl2, _⟩ := hy.ins.form
      have hins := hy.ins
      have q0 := hy.m
      have q1 := hy.ow
      have q2 := hy.n
      have q3 := hy.ep
      have q4 := hy.kn
      have q5 := hy.rt
      obtain ⟨y0, y1, y2, y3, y4, y5, y6, y7, y8, y9⟩ := y
      simp only [AnV.v] at ev hins
      simp only at q0 q1 q2 q3 q4 q5
      subst q0 q1 q2 q3
      simp only [Value.slice.injEq] at ev
      obtain ⟨-, ev, -⟩ := ev
      have hy8m : y8 ≤ 9223372036854775807 := by unfold maxLen at hl2; omega
      have hok : ansB Y a = (y4 && !y5 && a.ins.all (insB Y a.m)) := by rw [ansB_def, q4, q5]
      rw [hok] at hba hno2
      have g0 := he 0 _ rfl
      have g1 := he 1 _ rfl
      have g2 := he 2 _ rfl
      have g3 := he 3 _ rfl
      have g4 := he 4 _ rfl
      have g5 := he 5 _ rfl
      have g6 := he 6 _ rfl
      have g7 := he 7 _ rfl
      simp only [AnV.v, Nat.add_zero] at g0 g1 g2 g3 g4 g5 g6 g7
      have hbA := heap_alloc_new wr (.cells #[.int .i64 a.m, .int .i64 a.ow, .int .u64 a.n, .int .i64 a.ep, .bool y4, .bool y5, .int .i64 y6, .slice y7 y8 y9] tA)
      have hkn := (Keeps.refl [] wr).alloc (.cells #[.int .i64 a.m, .int .i64 a.ow, .int .u64 a.n, .int .i64 a.ep, .bool y4, .bool y5, .int .i64 y6, .slice y7 y8 y9] tA)
      have hkc := hkr.out.trans hkn.of_nil
      have hMA := hMr.out.keeps ktZ hkn
      have hinsn := hins.keeps hkn
      have hwm : W64 a.m := hao.q.1
      have hbEr : bE < wr.heap.size := MapS.M.lt ktZ hMr.out
      have hlz := MapS.M.look_ok ktZ Try.underlying55 (zV 0) zeroZ hMA hwm
      obtain ⟨ge, hge⟩ : ∃ g, MapS.get a.m E = g := ⟨_, rfl⟩
      rw [hge] at hlz
      have hfin := hkwr.trans hkn
      replace hfin := Lib.hid hfin
      replace hba := Lib.hid hba
      replace hbe := Lib.hid hbe
      replace hno2 := Lib.hid hno2
      replace hbA := Lib.hid hbA
      replace hkc := Lib.hid hkc
      replace hMA := Lib.hid hMA
      replace hinsn := Lib.hid hinsn
      replace ha := Lib.hid ha
      replace htk := Lib.hid htk
      replace ev := Lib.hid ev
      replace hao := Lib.hid hao
      replace hmemY := Lib.hid hmemY
      clear he hy hkn hins hl1 hl2 hkr hMr hok q4 q5 hkwr
      obtain ⟨gv, gs, hgv, hgs, hgn, hgsm⟩ : ∃ (gv : Int) (gs : Bool), (ge.map zV).getD (zV 0) = zV gv ∧ ge.isSome = gs ∧ (gs = false → ge = none) ∧ (gs = true → ge = some gv) := by
        cases ge with
        | none => exact ⟨0, false, rfl, rfl, fun _ => rfl, nofun⟩
        | some u => exact ⟨u, true, rfl, rfl, nofun, fun _ => rfl⟩
      rw [hgv, hgs] at hlz
      simp only [ktZ, zV] at hlz
      replace hge := Lib.hid hge
      replace hgn := Lib.hid hgn
      replace hgsm := Lib.hid hgsm
      clear hgv hgs
      go_upto_region 11 with fail
      generalize (wr.alloc (.cells #[.int .i64 a.m, .int .i64 a.ow, .int .u64 a.n, .int .i64 a.ep, .bool y4, .bool y5, .int .i64 y6, .slice y7 y8 y9] tA)) = wc at *
      obtain ⟨XA, hXA⟩ : ∃ X, wr.heap.size = X := ⟨_, rfl⟩
      rw [hXA] at hbA hbEr ⊢
      replace hXA := Lib.hid hXA
      clear g0 g1 g2 g3 g4 g5 g6 g7
      obtain ⟨s0, s1, s2, s3, s4, s5, s6, s7, sf, sl⟩ := cl8 hbA.out
      cases y4 with
      | false =>
        have hd := Lib.hid (hba.out (by simp))
        go_wp2
        go_ret
        exact ⟨by rw [← hd.out]; rfl, hfin.out⟩
      | true =>
      cases y5 with
      | true =>
        have hd := Lib.hid (hba.out (by simp))
        go_wp2
        go_ret
        exact ⟨by rw [← hd.out]; rfl, hfin.out⟩
      | false =>
      have hallY : a.ins.all (insB Y a.m) = false → (15 : Int) = r := fun h => hba.out (by rw [h]; rfl)
      have hallY2 : a.ins.all (insB Y a.m) = true → ∀ j (hj : j < Y.length), j < k + 1 → ansB Y Y[j] = true := fun h => hno2.out (by rw [h]; rfl)
      replace hallY := Lib.hid hallY
      replace hallY2 := Lib.hid hallY2
      clear hba hno2
      cases gs with
      | true =>
        have hgE := hgsm.out rfl
        by_cases hep : gv = a.ep
        · have hne : (gv != a.ep) = false := by simpa using hep
          have hgE2 : MapS.get a.m E = some a.ep := by rw [hge.out, hgE, hep]
          obtain ⟨wk, hrun, hMk, hkk⟩ := MapS.M.putOld ktZ Try.underlying55 hMA.out hwm (by rw [hgE2]; rfl) (by have h1 := hEp.out.len; rw [List.length_take] at h1; unfold maxLen; omega) a.ep
          have hEn : EpI (MapS.set a.m a.ep E) (Y.take (k + 1)) := by rw [htk.out]; exact hEp.out.old hgE2
          simp only [ktZ, zV] at hrun
          replace hep := Lib.hid hep
          replace hgE := Lib.hid hgE
          replace hgE2 := Lib.hid hgE2
          have hbAk := (hkk.block _ sl (by simp; omega)).trans hbA.out
          have hkck := hkc.out.trans hkk
          have hkwk := hfin.out.fresh hkk (fun b hb => by simp at hb; subst hb; exact .inr hwE)
          have hinsk := hinsn.out.keepE hkk (fun b hb hne e => by
            simp at hb
            subst hb
            obtain ⟨es, ec, hmap⟩ := hMA.out.isMap
            obtain ⟨gg, oo, cc, hvv, hee⟩ := hinsn.out.elem (k := 0) (by cases hq : a.ins with | nil => exact absurd hq hne | cons _ _ => simp)
            rw [hvv] at e
            simp [Value.ownBlock] at e
            subst e
            have := hee 0 _ rfl
            simp [World.cell?, hmap] at this)
          replace hMk := Lib.hid hMk
          replace hEn := Lib.hid hEn
          replace hbAk := Lib.hid hbAk
          replace hkck := Lib.hid hkck
          replace hkwk := Lib.hid hkwk
          replace hinsk := Lib.hid hinsk
          clear hMA hbA hkc hkk hinsn hfin
          go_upto_region 15 with fail
          clear s0 s1 s2 s3 s4 s5 s6 s7 sf sl hrun hlz
          obtain ⟨s0, s1, s2, s3, s4, s5, s6, s7, sf, sl⟩ := cl8 hbAk.out
          go_wp2
          go_loopw [79] (fun i wi => ∃ q : Nat, i = .int .i64 q ∧ q ≤ y8 ∧ Hid (∀ j (hj : j < a.ins.length), j < q → insB Y a.m a.ins[j] = true) ∧ Hid (Keeps [] wk wi)) (fun i _ => y8 - (intOf i).toNat)
          case atStart => exact ⟨0, rfl, by omega, Lib.hid (fun _ _ h => by omega), Lib.hid (Keeps.refl _ _)⟩
          case round =>
            clear s0 s1 s2 s3 s4 s5 s6 s7 sf sl
            obtain ⟨q, rfl, hq, hnq, hkq⟩ := hrel
            have hfq := hkwk.out.trans hkq.out
            by_cases hltq : q < y8
            · have hltq2 : (q : Int) < y8 := by omega
              have hqa : q < a.ins.length := by rw [← ev.out]; exact hltq
              have hxo := hao.out.ins _ (List.getElem_mem hqa)
              obtain ⟨gi, oi, ci, hvi, hei⟩ := (hinsk.out.keeps hkq.out).elem hqa
              rw [← ev.out] at hvi
              cases hvi
              have hok := insB_def Y a.m a.ins[q]
              have hmq := List.getElem_mem hqa
              have hnq2 : insB Y a.m a.ins[q] = true → ∀ j (hj : j < a.ins.length), j < q + 1 → insB Y a.m a.ins[j] = true := fun h j hj hjq => by
                by_cases e : j = q
                · subst e; exact h
                · exact hnq.out j hj (by omega)
              have hbq : insB Y a.m a.ins[q] = false → (15 : Int) = r := fun h => hallY.out (all_no hqa h)
              obtain ⟨⟨z0, z1, z2⟩, hz⟩ : ∃ z, a.ins[q] = z := ⟨_, rfl⟩
              rw [hz] at hei hxo hok hmq
              have t0 := hei 0 _ rfl
              have t1 := hei 1 _ rfl
              have t2 := hei 2 _ rfl
              simp only [shT, Nat.add_zero] at t0 t1 t2
              simp only at hok
              have hqF : qOk (a.m, z0, z1) := ⟨hao.out.q.1, hxo.1, hxo.2.1⟩
              have hqS : qOk (z0, a.m, z1) := ⟨hxo.1, hao.out.q.1, hxo.2.1⟩
              have hkI := (Keeps.refl [] wr).alloc (.cells #[.int .i64 z0, .int .u64 z1, .int .i64 z2] tI)
              have hkEI := (hkck.out.trans hkq.out.of_nil).trans hkI.of_nil
              have hMFi := hMF.out.kept ktK hkEI (by simp; omega)
              have hMSi := hMSf.out.kept ktS hkEI (by simp; omega)
              obtain ⟨u, hu⟩ : ∃ u, MapS.get (a.m, z0, z1) (outsOf Y) = some u := Option.isSome_iff_exists.1 ((outsOf_some Y (a.m, z0, z1)).2 ⟨a, hmemY.out, (z0, z1, z2), hmq, rfl⟩)
              have hlF : ∀ w' : World, w'.heap[bF]? = (wr.alloc (.cells #[.int .i64 z0, .int .u64 z1, .int .i64 z2] tI)).drew.heap[bF]? → (Instr.lookup 56 (.map (some bF)) (.agg #[.int .i64 a.m, .int .i64 z0, .int .u64 z1]) false).run Try.prog w' = .ok (.int .i64 u) w' := fun w' e => by
                have := MapS.M.look ktK Try.underlying56 (zV 0) zeroZ ((hMFi.keeps ktK ((Keeps.refl [] _).drew)).at' e) hqF
                rw [← hO.out, hu] at this
                simpa only [ktK, qV, zV, Option.map_some, Option.getD_some] using this
              rw [hu] at hok
              have hbFl : bF < (wr.alloc (.cells #[.int .i64 z0, .int .u64 z1, .int .i64 z2] tI)).drew.heap.size := MapS.M.lt ktK (hMFi.keeps ktK ((Keeps.refl [] _).drew))
              have hlS := MapS.M.look_ok ktS Try.underlying50 (aV .zero) zeroA (hMSi.keeps ktS ((Keeps.refl [] _).drew)) hqS
              obtain ⟨⟨u0, u1, u2, u3, u4, u5, u6, u7, u8, u9⟩, huv, hus⟩ := ans_of_get hR.out hs.out (z0, a.m, z1)
              obtain ⟨hb, hhb⟩ : ∃ b, hasA Y (z0, a.m, z1) = b := ⟨_, rfl⟩
              rw [huv, hus, hhb] at hlS
              rw [hhb] at hok
              simp only [ktS, qV, aV, AnV.v] at hlS
              rw [hz] at hbq hnq2
              rw [hok] at hbq hnq2
              have hkD : Keeps [] wr (wr.alloc (.cells #[.int .i64 z0, .int .u64 z1, .int .i64 z2] tI)).drew := hkI.drew
              have hbI := heap_alloc_new wr (.cells #[.int .i64 z0, .int .u64 z1, .int .i64 z2] tI)
              have hbId : (wr.alloc (.cells #[.int .i64 z0, .int .u64 z1, .int .i64 z2] tI)).drew.heap[wr.heap.size]? = _ := hbI
              have hbAd := (hkD.block _ (lt_of_blk ((hkq.out.block _ (lt_of_blk hbAk.out) (by simp)).trans hbAk.out)) (by simp)).trans ((hkq.out.block _ (lt_of_blk hbAk.out) (by simp)).trans hbAk.out)
              have hkqD := hkq.out.trans hkD
              replace hlF := Lib.hid hlF
              replace hbId := Lib.hid hbId
              replace hbAd := Lib.hid hbAd
              replace hkqD := Lib.hid hkqD
              replace hbq := Lib.hid hbq
              replace hnq2 := Lib.hid hnq2
              replace hu := Lib.hid hu
              replace hz := Lib.hid hz
              replace hhb := Lib.hid hhb
              replace hok := Lib.hid hok
              replace hfq := Lib.hid hfq
              clear hei hMFi hMSi hkEI hkI hqF hqS huv hus hmq hxo
              have hbAl := (hkq.out.block _ (lt_of_blk hbAk.out) (by simp)).trans hbAk.out
              obtain ⟨s0, s1, s2, s3, s4, s5, s6, s7, sf, sl⟩ := cl8 hbAl
              obtain ⟨c0, c1, c2, cf, cl⟩ := cl3 hbI
              go_upto_region 18 with fail
              clear s0 s1 s2 s3 s4 s5 s6 s7 sf sl t0 t1 t2 hbAl hbI c0 c1 c2 cf cl
              obtain ⟨s0, s1, s2, s3, s4, s5, s6, s7, sf, sl⟩ := cl8 hbAd.out
              obtain ⟨t0, t1, t2, tf, tl⟩ := cl3 hbId.out
              refine Free.wp_region_chain (fun i => false) (fun i => true) (fun _ _ => False) (by kernel_rfl) (by kernel_rfl) (by kernel_rfl) ?_
              generalize (wr.alloc (.cells #[.int .i64 z0, .int .u64 z1, .int .i64 z2] tI)).drew = wI at *
              (repeat (first | (apply Free.cw_pure rfl rfl; (intro w'; go_simp <;> exact rfl); go_frame) | (apply Free.cw_steady rfl rfl rfl; (intro w' hS; have z0 := hlF.out w' (hS.block bF hbFl (fun ⟨j, _, _, hT⟩ => hT)); have p0 := Free.sx_cell hS s0 (fun _ _ hT => hT); have p1 := Free.sx_cell hS t0 (fun _ _ hT => hT); have p2 := Free.sx_cell hS t1 (fun _ _ hT => hT); have p3 := Free.sx_cell hS t2 (fun _ _ hT => hT); go_simp <;> exact rfl); go_frame) | (refine Free.cw_skip rfl ?_; go_frame)))
              refine Free.cw_nil ?_
              by_cases huz : u = z2
              · have hne : (u != z2) = false := by simpa using huz
                have hbq2 : hb = false → (15 : Int) = r := fun h => hbq.out (by rw [h]; simp)
                have hnq3 : hb = true → ∀ j (hj : j < a.ins.length), j < q + 1 → insB Y a.m a.ins[j] = true := fun h => hnq2.out (by rw [h, huz]; simp)
                replace hbq2 := Lib.hid hbq2
                replace hnq3 := Lib.hid hnq3
                replace huz := Lib.hid huz
                have hkf := Lib.hid (hkqD.out.trans ((Keeps.refl [] wI).alloc (.cells #[.int .i64 u0, .int .i64 u1, .int .u64 u2, .int .i64 u3, .bool u4, .bool u5, .int .i64 u6, .slice u7 u8 u9] tA)))
                have hff := Lib.hid (hkwk.out.trans hkf.out)
                cases hb with
                | false =>
                  have hd := Lib.hid (hbq2.out rfl)
                  go_wp2
                  go_ret
                  exact ⟨by rw [← hd.out]; rfl, hff.out⟩
                | true =>
                  have hn3 := Lib.hid (hnq3.out rfl)
                  go_wp2
                  go_roundw
                  case rel => exact ⟨q + 1, rfl, by omega, hn3, hkf⟩
                  case measure => simp [intOf]; omega
              · have hne : (u != z2) = true := by simpa using huz
                have hd := Lib.hid (hbq.out (by simp [huz]))
                have hff := Lib.hid (hkwk.out.trans hkqD.out)
                replace huz := Lib.hid huz
                go_wp2
                go_ret
                exact ⟨by rw [← hd.out]; rfl, hff.out⟩
            · have hltq2 : ¬ ((q : Int) < y8) := by omega
              have hall := Lib.hid (hallY2.out (all_take (fun j hj => hnq.out j hj (by have := ev.out; omega))))
              have hMz := Lib.hid (hMk.out.keeps ktZ hkq.out)
              have hkz := Lib.hid (hkck.out.trans hkq.out.of_nil)
              go_wp2
              go_roundw
              case rel => exact ⟨k + 1, _, rfl, by omega, hMz, hEn, hall, hkz⟩
              case measure => simp [intOf]; omega
        · have hne : (gv != a.ep) = true := by simpa using hep
          obtain ⟨b, hb, hbm, hbv⟩ := hEp.out.val (hge.out.trans hgE)
          have hd := Lib.hid (hbe.out b hb hbm (by rw [hbv]; exact hep))
          replace hgE := Lib.hid hgE
          replace hep := Lib.hid hep
          replace hbv := Lib.hid hbv
          replace hbm := Lib.hid hbm
          go_wp2
          go_ret
          exact ⟨by rw [← hd.out]; rfl, hfin.out⟩
      | false =>
        have hgE2 : MapS.get a.m E = none := by rw [hge.out]; exact hgn.out rfl
        obtain ⟨wk, hrun, hMk, hkk⟩ := MapS.M.putNew ktZ Try.underlying55 hMA.out hwm hgE2 (by have h1 := hEp.out.len; rw [List.length_take] at h1; unfold maxLen; omega) a.ep
        have hEn : EpI (E ++ [(a.m, a.ep)]) (Y.take (k + 1)) := by rw [htk.out]; exact hEp.out.new hgE2
        simp only [ktZ, zV] at hrun
        replace hgE2 := Lib.hid hgE2
        have hbAk := (hkk.block _ sl (by simp; omega)).trans hbA.out
        have hkck := hkc.out.trans hkk
        have hkwk := hfin.out.fresh hkk (fun b hb => by simp at hb; subst hb; exact .inr hwE)
        have hinsk := hinsn.out.keepE hkk (fun b hb hne e => by
          simp at hb
          subst hb
          obtain ⟨es, ec, hmap⟩ := hMA.out.isMap
          obtain ⟨gg, oo, cc, hvv, hee⟩ := hinsn.out.elem (k := 0) (by cases hq : a.ins with | nil => exact absurd hq hne | cons _ _ => simp)
          rw [hvv] at e
          simp [Value.ownBlock] at e
          subst e
          have := hee 0 _ rfl
          simp [World.cell?, hmap] at this)
        replace hMk := Lib.hid hMk
        replace hEn := Lib.hid hEn
        replace hbAk := Lib.hid hbAk
        replace hkck := Lib.hid hkck
        replace hkwk := Lib.hid hkwk
        replace hinsk := Lib.hid hinsk
        clear hMA hbA hkc hkk hinsn hfin
        go_upto_region 15 with fail
        clear s0 s1 s2 s3 s4 s5 s6 s7 sf sl hrun hlz
        obtain ⟨s0, s1, s2, s3, s4, s5, s6, s7, sf, sl⟩ := cl8 hbAk.out
        go_wp2
        go_loopw [79] (fun i wi => ∃ q : Nat, i = .int .i64 q ∧ q ≤ y8 ∧ Hid (∀ j (hj : j < a.ins.length), j < q → insB Y a.m a.ins[j] = true) ∧ Hid (Keeps [] wk wi)) (fun i _ => y8 - (intOf i).toNat)
        case atStart => exact ⟨0, rfl, by omega, Lib.hid (fun _ _ h => by omega), Lib.hid (Keeps.refl _ _)⟩
        case round =>
          clear s0 s1 s2 s3 s4 s5 s6 s7 sf sl
          obtain ⟨q, rfl, hq, hnq, hkq⟩ := hrel
          have hfq := hkwk.out.trans hkq.out
          by_cases hltq : q < y8
          · have hltq2 : (q : Int) < y8 := by omega
            have hqa : q < a.ins.length := by rw [← ev.out]; exact hltq
            have hxo := hao.out.ins _ (List.getElem_mem hqa)
            obtain ⟨gi, oi, ci, hvi, hei⟩ := (hinsk.out.keeps hkq.out).elem hqa
            rw [← ev.out] at hvi
            cases hvi
            have hok := insB_def Y a.m a.ins[q]
            have hmq := List.getElem_mem hqa
            have hnq2 : insB Y a.m a.ins[q] = true → ∀ j (hj : j < a.ins.length), j < q + 1 → insB Y a.m a.ins[j] = true := fun h j hj hjq => by
              by_cases e : j = q
              · subst e; exact h
              · exact hnq.out j hj (by omega)
            have hbq : insB Y a.m a.ins[q] = false → (15 : Int) = r := fun h => hallY.out (all_no hqa h)
            obtain ⟨⟨z0, z1, z2⟩, hz⟩ : ∃ z, a.ins[q] = z := ⟨_, rfl⟩
            rw [hz] at hei hxo hok hmq
            have t0 := hei 0 _ rfl
            have t1 := hei 1 _ rfl
            have t2 := hei 2 _ rfl
            simp only [shT, Nat.add_zero] at t0 t1 t2
            simp only at hok
            have hqF : qOk (a.m, z0, z1) := ⟨hao.out.q.1, hxo.1, hxo.2.1⟩
            have hqS : qOk (z0, a.m, z1) := ⟨hxo.1, hao.out.q.1, hxo.2.1⟩
            have hkI := (Keeps.refl [] wr).alloc (.cells #[.int .i64 z0, .int .u64 z1, .int .i64 z2] tI)
            have hkEI := (hkck.out.trans hkq.out.of_nil).trans hkI.of_nil
            have hMFi := hMF.out.kept ktK hkEI (by simp; omega)
            have hMSi := hMSf.out.kept ktS hkEI (by simp; omega)
            obtain ⟨u, hu⟩ : ∃ u, MapS.get (a.m, z0, z1) (outsOf Y) = some u := Option.isSome_iff_exists.1 ((outsOf_some Y (a.m, z0, z1)).2 ⟨a, hmemY.out, (z0, z1, z2), hmq, rfl⟩)
            have hlF : ∀ w' : World, w'.heap[bF]? = (wr.alloc (.cells #[.int .i64 z0, .int .u64 z1, .int .i64 z2] tI)).drew.heap[bF]? → (Instr.lookup 56 (.map (some bF)) (.agg #[.int .i64 a.m, .int .i64 z0, .int .u64 z1]) false).run Try.prog w' = .ok (.int .i64 u) w' := fun w' e => by
              have := MapS.M.look ktK Try.underlying56 (zV 0) zeroZ ((hMFi.keeps ktK ((Keeps.refl [] _).drew)).at' e) hqF
              rw [← hO.out, hu] at this
              simpa only [ktK, qV, zV, Option.map_some, Option.getD_some] using this
            rw [hu] at hok
            have hbFl : bF < (wr.alloc (.cells #[.int .i64 z0, .int .u64 z1, .int .i64 z2] tI)).drew.heap.size := MapS.M.lt ktK (hMFi.keeps ktK ((Keeps.refl [] _).drew))
            have hlS := MapS.M.look_ok ktS Try.underlying50 (aV .zero) zeroA (hMSi.keeps ktS ((Keeps.refl [] _).drew)) hqS
            obtain ⟨⟨u0, u1, u2, u3, u4, u5, u6, u7, u8, u9⟩, huv, hus⟩ := ans_of_get hR.out hs.out (z0, a.m, z1)
            obtain ⟨hb, hhb⟩ : ∃ b, hasA Y (z0, a.m, z1) = b := ⟨_, rfl⟩
            rw [huv, hus, hhb] at hlS
            rw [hhb] at hok
            simp only [ktS, qV, aV, AnV.v] at hlS
            rw [hz] at hbq hnq2
            rw [hok] at hbq hnq2
            have hkD : Keeps [] wr (wr.alloc (.cells #[.int .i64 z0, .int .u64 z1, .int .i64 z2] tI)).drew := hkI.drew
            have hbI := heap_alloc_new wr (.cells #[.int .i64 z0, .int .u64 z1, .int .i64 z2] tI)
            have hbId : (wr.alloc (.cells #[.int .i64 z0, .int .u64 z1, .int .i64 z2] tI)).drew.heap[wr.heap.size]? = _ := hbI
            have hbAd := (hkD.block _ (lt_of_blk ((hkq.out.block _ (lt_of_blk hbAk.out) (by simp)).trans hbAk.out)) (by simp)).trans ((hkq.out.block _ (lt_of_blk hbAk.out) (by simp)).trans hbAk.out)
            have hkqD := hkq.out.trans hkD
            replace hlF := Lib.hid hlF
            replace hbId := Lib.hid hbId
            replace hbAd := Lib.hid hbAd
            replace hkqD := Lib.hid hkqD
            replace hbq := Lib.hid hbq
            replace hnq2 := Lib.hid hnq2
            replace hu := Lib.hid hu
            replace hz := Lib.hid hz
            replace hhb := Lib.hid hhb
            replace hok := Lib.hid hok
            replace hfq := Lib.hid hfq
            clear hei hMFi hMSi hkEI hkI hqF hqS huv hus hmq hxo
            have hbAl := (hkq.out.block _ (lt_of_blk hbAk.out) (by simp)).trans hbAk.out
            obtain ⟨s0, s1, s2, s3, s4, s5, s6, s7, sf, sl⟩ := cl8 hbAl
            obtain ⟨c0, c1, c2, cf, cl⟩ := cl3 hbI
            go_upto_region 18 with fail
            clear s0 s1 s2 s3 s4 s5 s6 s7 sf sl t0 t1 t2 hbAl hbI c0 c1 c2 cf cl
            obtain ⟨s0, s1, s2, s3, s4, s5, s6, s7, sf, sl⟩ := cl8 hbAd.out
            obtain ⟨t0, t1, t2, tf, tl⟩ := cl3 hbId.out
            refine Free.wp_region_chain (fun i => false) (fun i => true) (fun _ _ => False) (by kernel_rfl) (by kernel_rfl) (by kernel_rfl) ?_
            generalize (wr.alloc (.cells #[.int .i64 z0, .int .u64 z1, .int .i64 z2] tI)).drew = wI at *
            (repeat (first | (apply Free.cw_pure rfl rfl; (intro w'; go_simp <;> exact rfl); go_frame) | (apply Free.cw_steady rfl rfl rfl; (intro w' hS; have z0 := hlF.out w' (hS.block bF hbFl (fun ⟨j, _, _, hT⟩ => hT)); have p0 := Free.sx_cell hS s0 (fun _ _ hT => hT); have p1 := Free.sx_cell hS t0 (fun _ _ hT => hT); have p2 := Free.sx_cell hS t1 (fun _ _ hT => hT); have p3 := Free.sx_cell hS t2 (fun _ _ hT => hT); go_simp <;> exact rfl); go_frame) | (refine Free.cw_skip rfl ?_; go_frame)))
            refine Free.cw_nil ?_
            by_cases huz : u = z2
            · have hne : (u != z2) = false := by simpa using huz
              have hbq2 : hb = false → (15 : Int) = r := fun h => hbq.out (by rw [h]; simp)
              have hnq3 : hb = true → ∀ j (hj : j < a.ins.length), j < q + 1 → insB Y a.m a.ins[j] = true := fun h => hnq2.out (by rw [h, huz]; simp)
              replace hbq2 := Lib.hid hbq2
              replace hnq3 := Lib.hid hnq3
              replace huz := Lib.hid huz
              have hkf := Lib.hid (hkqD.out.trans ((Keeps.refl [] wI).alloc (.cells #[.int .i64 u0, .int .i64 u1, .int .u64 u2, .int .i64 u3, .bool u4, .bool u5, .int .i64 u6, .slice u7 u8 u9] tA)))
              have hff := Lib.hid (hkwk.out.trans hkf.out)
              cases hb with
              | false =>
                have hd := Lib.hid (hbq2.out rfl)
                go_wp2
                go_ret
                exact ⟨by rw [← hd.out]; rfl, hff.out⟩
              | true =>
                have hn3 := Lib.hid (hnq3.out rfl)
                go_wp2
                go_roundw
                case rel => exact ⟨q + 1, rfl, by omega, hn3, hkf⟩
                case measure => simp [intOf]; omega
            · have hne : (u != z2) = true := by simpa using huz
              have hd := Lib.hid (hbq.out (by simp [huz]))
              have hff := Lib.hid (hkwk.out.trans hkqD.out)
              replace huz := Lib.hid huz
              go_wp2
              go_ret
              exact ⟨by rw [← hd.out]; rfl, hff.out⟩
          · have hltq2 : ¬ ((q : Int) < y8) := by omega
            have hall := Lib.hid (hallY2.out (all_take (fun j hj => hnq.out j hj (by have := ev.out; omega))))
            have hMz := Lib.hid (hMk.out.keeps ktZ hkq.out)
            have hkz := Lib.hid (hkck.out.trans hkq.out.of_nil)
            go_wp2
            go_roundw
            case rel => exact ⟨k + 1, _, rfl, by omega, hMz, hEn, hall, hkz⟩
            case measure => simp [intOf]; omega
    · have hlt2 : ¬ ((k : Int) < x6) := by omega
      have hkN : k = Y.length := by have := hfY.out; omega
      have htk : Y.take k = Y := by rw [hkN]; exact List.take_length
      have hepB := hEp.out.epB
      rw [htk] at hepB
      have hA6 := (hkr.out.block _ (lt_of_blk hA5.out) (by simpa using hBE)).trans hA5.out
      have hAd : wr.drew.heap[B]? = _ := hA6
      have hkd : Keeps [] w wr.drew := hkwr.drew
      obtain ⟨i0, i1, i2, i3, i4, i5, i6, if', il⟩ := cl7 hAd
      have hbc : decide (c.cl = clY c.an) = false → (15 : Int) = r := fun h => hbad.out (bad_cl (of_decide_eq_false h))
      have hgc : decide (c.cl = clY c.an) = true → (0 : Int) = r := fun h => hgood.out (good_all (by rw [hY.out]; exact hob.out) (by rw [hY.out]; exact hepB) (fun a ha => by
        rw [hY.out] at ha ⊢
        obtain ⟨j, hj, rfl⟩ := List.getElem_of_mem ha
        exact hno.out j hj (by omega)) (of_decide_eq_true h))
      obtain ⟨bb, hbb⟩ : ∃ b, decide (c.cl = clY c.an) = b := ⟨_, rfl⟩
      rw [hbb] at hbc hgc
      replace hbc := Lib.hid hbc
      replace hgc := Lib.hid hgc
      replace hbb := Lib.hid hbb
      replace hkd := Lib.hid hkd
      replace hkN := Lib.hid hkN
      replace htk := Lib.hid htk
      replace hepB := Lib.hid hepB
      replace hA6 := Lib.hid hA6
      clear hkwr
      go_upto_region 25 with fail
      refine Free.wp_region_chain (fun i => i == 3 || i == 4) (fun i => true) (fun _ _ => False) (by kernel_rfl) (by kernel_rfl) (by kernel_rfl) ?_
      generalize wr.drew = wd at *
      (repeat (first | (apply Free.cw_pure rfl rfl; (intro w'; go_simp <;> exact rfl); go_frame) | (apply Free.cw_steady rfl rfl rfl; (intro w' hS; have q0 := Free.sx_cell hS i0 (fun _ _ hT => hT); have q1 := Free.sx_cell hS i1 (fun _ _ hT => hT); have q2 := Free.sx_cell hS i2 (fun _ _ hT => hT); have q3 := Free.sx_cell hS i3 (fun _ _ hT => hT); have q4 := Free.sx_cell hS i4 (fun _ _ hT => hT); have q5 := Free.sx_cell hS i5 (fun _ _ hT => hT); have q6 := Free.sx_cell hS i6 (fun _ _ hT => hT); go_simp <;> exact rfl); go_frame) | (refine Free.cw_skip rfl ?_; go_frame)))
      refine Free.cw_loud rfl rfl (fun K hK => ?_)
      go_wp2_with fail
      refine (hcmA.out _ hkd.out).mono ?_
      rintro e w6 ⟨v, rfl, hv, hk6⟩
      refine hK _ _ rfl (Free.KeepsP.of hk6 (by simp)) ?_
      clear hK K
      have hk06 := hkd.out.trans hk6
      have heq := hce.out _ hk06 v (by rw [hY.out]; exact hv)
      rw [hbb.out] at heq
      obtain ⟨av, cv, rfl, _, _⟩ := hv.form
      replace heq := Lib.hid heq
      replace hk06 := Lib.hid hk06
      clear hv hk6
      (repeat (apply Free.cw_pure rfl rfl; (intro w'; go_simp <;> exact rfl); go_frame))
      refine Free.cw_loud rfl rfl (fun K hK => ?_)
      go_wp2_with fail
      refine heq.out.mono ?_
      rintro e w7 ⟨rfl, hk7⟩
      refine hK _ _ rfl (Free.KeepsP.of hk7 (by simp)) ?_
      clear hK K
      have hk07 := Lib.hid (hk06.out.trans hk7)
      (repeat (apply Free.cw_pure rfl rfl; (intro w'; go_simp <;> exact rfl); go_frame))
      refine Free.cw_nil ?_
      cases bb with
      | false =>
        have hd := Lib.hid (hbc.out rfl)
        go_wp2
        go_ret
        exact ⟨by rw [← hd.out]; rfl, hk07.out⟩
      | true =>
        have hd := Lib.hid (hgc.out rfl)
        go_wp2
        go_ret
        exact ⟨by rw [← hd.out]; rfl, hk07.out⟩
end Go.Proofs.Ytiplgpefapeapaa

namespace Go.Proofs.Ytiplgpefapeapaa
open Go.RowKit

/-- No list is too long for the program. -/
structure Ct.F24 (c : Ct) : Prop where
  an : c.an.length ≤ 1024
  cl : c.cl.length ≤ 1024
  ins : ∀ a ∈ c.an, a.ins.length ≤ 1024
  ns : ∀ p ∈ c.cl, p.st.length ≤ 1024 ∧ p.sc.length ≤ 1024 ∧ p.ch.length ≤ 1024
set_option maxRecDepth 100000 in
set_option maxHeartbeats 4000000 in
theorem shortNo_c (w : World) (x : CtV) (c : Ct) (h : CtW w x c) (hf : ¬ c.F24) :
    Calls Try.prog 38 #[ctV x] w fun e w' => e = .returned (.bool false) ∧ Keeps [] w w' := by
  obtain ⟨x0, x1, x2, x3, x4, ⟨x5, x6, x7⟩, ⟨x8, x9, x10⟩⟩ := x
  have han := h.an
  have hcl := h.cl
  simp only [slv] at han hcl
  obtain ⟨_, _, e1, hla, hca⟩ := han.form
  obtain ⟨_, _, e2, hlc, hcc⟩ := hcl.form
  simp only [Value.slice.injEq] at e1 e2
  obtain ⟨-, e1, -⟩ := e1
  obtain ⟨-, e2, -⟩ := e2
  rw [← e1] at hla
  rw [← e2] at hlc
  have hA := heap_alloc_new w (.cells #[.int .i64 x0, .int .i64 x1, .int .i64 x2, .int .u64 x3, .int .i64 x4, .slice x5 x6 x7, .slice x8 x9 x10] tCt)
  have hkA := (Keeps.refl [] w).alloc (.cells #[.int .i64 x0, .int .i64 x1, .int .i64 x2, .int .u64 x3, .int .i64 x4, .slice x5 x6 x7, .slice x8 x9 x10] tCt)
  have han1 := han.keeps hkA
  have hcl1 := hcl.keeps hkA
  obtain ⟨W, hW⟩ : ∃ W, w.alloc (.cells #[.int .i64 x0, .int .i64 x1, .int .i64 x2, .int .u64 x3, .int .i64 x4, .slice x5 x6 x7, .slice x8 x9 x10] tCt) = W := ⟨_, rfl⟩
  obtain ⟨B, hB⟩ : ∃ B, w.heap.size = B := ⟨_, rfl⟩
  have hx6m : x6 ≤ 9223372036854775807 := by unfold maxLen at hca; omega
  have hx9m : x9 ≤ 9223372036854775807 := by unfold maxLen at hcc; omega
  rw [hW] at han1 hcl1 hA hkA
  rw [hB] at hA
  replace han1 := Lib.hid han1
  replace hcl1 := Lib.hid hcl1
  replace hkA := Lib.hid hkA
  replace hW := Lib.hid hW
  replace hB := Lib.hid hB
  replace e1 := Lib.hid e1
  replace e2 := Lib.hid e2
  replace hf := Lib.hid hf
  replace hA := Lib.hid hA
  clear h han hcl
  simp only [ctV, slv]
  go_enter Try.func38, Try.ntmps38
  go_upto_region 1 with fail
  rw [hW.out, hB.out]
  obtain ⟨i0, i1, i2, i3, i4, i5, i6, if', il⟩ := cl7 hA.out
  by_cases h6 : 1024 < x6
  · have hn6 : (1024 : Int) < x6 := by omega
    go_wp2
    go_ret
    exact ⟨rfl, hkA.out⟩
  have hn6 : decide ((1024 : Int) < x6) = false := by simp; omega
  by_cases h9 : 1024 < x9
  · have hn9 : (1024 : Int) < x9 := by omega
    go_wp2
    go_ret
    exact ⟨rfl, hkA.out⟩
  have hn9 : decide ((1024 : Int) < x9) = false := by simp; omega
  go_wp2
  go_loopw [20] (fun i wr => ∃ k : Nat, i = .int .i64 k ∧ k ≤ x6 ∧ Hid (∀ j (hj : j < c.an.length), j < k → c.an[j].ins.length ≤ 1024) ∧ Hid (Keeps [] W wr)) (fun i _ => x6 - (intOf i).toNat)
  case atStart => exact ⟨0, rfl, by omega, Lib.hid (fun _ _ h => by omega), Lib.hid (Keeps.refl _ _)⟩
  case round =>
    clear i0 i1 i2 i3 i4 i5 i6 if' il
    obtain ⟨k, rfl, hk, hno, hkw⟩ := hrel
    by_cases hlt : k < x6
    · have hlt2 : (k : Int) < x6 := by omega
      have hkl : k < c.an.length := by rw [← e1.out]; exact hlt
      obtain ⟨g, o, c', x, hv, hx, he⟩ := (han1.out.keeps hkw.out).elem hkl
      rw [← e1.out] at hv
      cases hv
      obtain ⟨_, _, ev, _⟩ := hx.ins.form
      obtain ⟨y0, y1, y2, y3, y4, y5, y6, y7, y8, y9⟩ := x
      simp only [AnV.v, Value.slice.injEq] at ev
      obtain ⟨-, ev, -⟩ := ev
      have g0 := he 0 _ rfl
      have g1 := he 1 _ rfl
      have g2 := he 2 _ rfl
      have g3 := he 3 _ rfl
      have g4 := he 4 _ rfl
      have g5 := he 5 _ rfl
      have g6 := he 6 _ rfl
      have g7 := he 7 _ rfl
      simp only [AnV.v, Nat.add_zero] at g0 g1 g2 g3 g4 g5 g6 g7
      replace ev := Lib.hid ev
      have hkn := Lib.hid (hkw.out.trans ((Keeps.refl [] wr).alloc (.cells #[.int .i64 y0, .int .i64 y1, .int .u64 y2, .int .i64 y3, .bool y4, .bool y5, .int .i64 y6, .slice y7 y8 y9] tA)))
      have hkF := Lib.hid (hkA.out.trans hkn.out)
      clear he hx
      by_cases h8 : 1024 < y8
      · have hn8 : (1024 : Int) < y8 := by omega
        go_wp2
        go_ret
        exact ⟨rfl, hkF.out⟩
      have hn8 : decide ((1024 : Int) < y8) = false := by simp; omega
      have hno2 : Hid (∀ j (hj : j < c.an.length), j < k + 1 → c.an[j].ins.length ≤ 1024) := Lib.hid (fun j hj hl => by
        by_cases e : j = k
        · subst e; have := ev.out; omega
        · exact hno.out j hj (by omega))
      go_wp2
      go_roundw
      case rel => exact ⟨k + 1, rfl, by omega, hno2, hkn⟩
      case measure => simp [intOf]; omega
    · have hlt2 : ¬ ((k : Int) < x6) := by omega
      have hAr := (hkw.out.block _ (lt_of_blk hA.out) (by simp)).trans hA.out
      obtain ⟨i0, i1, i2, i3, i4, i5, i6, if', il⟩ := cl7 hAr
      have hall : Hid (∀ a ∈ c.an, a.ins.length ≤ 1024) := Lib.hid (fun a ha => by
        obtain ⟨j, hj, rfl⟩ := List.mem_iff_getElem.1 ha
        exact hno.out j hj (by have := e1.out; omega))
      go_wp2
      generalize wr = W2 at *
      go_loopw [32] (fun i wr => ∃ k : Nat, i = .int .i64 k ∧ k ≤ x9 ∧ Hid (∀ j (hj : j < c.cl.length), j < k → c.cl[j].st.length ≤ 1024 ∧ c.cl[j].sc.length ≤ 1024 ∧ c.cl[j].ch.length ≤ 1024) ∧ Hid (Keeps [] W wr)) (fun i _ => x9 - (intOf i).toNat)
      case atStart => exact ⟨0, rfl, by omega, Lib.hid (fun _ _ h => by omega), hkw⟩
      case round =>
        clear i0 i1 i2 i3 i4 i5 i6 if' il
        obtain ⟨k, rfl, hk, hnoc, hkw⟩ := hrel
        by_cases hlt : k < x9
        · have hlt2 : (k : Int) < x9 := by omega
          have hkl : k < c.cl.length := by rw [← e2.out]; exact hlt
          obtain ⟨g, o, c', x, hv, hx, g0, g1, g2, g3, g4⟩ := (hcl1.out.keeps hkw.out).elem hkl
          rw [← e2.out] at hv
          cases hv
          obtain ⟨_, _, ev1, _⟩ := hx.st.form
          obtain ⟨_, _, ev2, _⟩ := hx.sc.form
          obtain ⟨_, _, ev3, _⟩ := hx.ch.form
          obtain ⟨y0, y1, ⟨y2, y3, y4⟩, ⟨y5, y6, y7⟩, ⟨y8, y9, y10⟩⟩ := x
          simp only [slv, Value.slice.injEq] at ev1 ev2 ev3
          simp only [slv] at g0 g1 g2 g3 g4
          obtain ⟨-, ev1, -⟩ := ev1
          obtain ⟨-, ev2, -⟩ := ev2
          obtain ⟨-, ev3, -⟩ := ev3
          replace ev1 := Lib.hid ev1
          replace ev2 := Lib.hid ev2
          replace ev3 := Lib.hid ev3
          have hkn := Lib.hid (hkw.out.trans ((Keeps.refl [] wr).alloc (.cells #[.int .i64 y0, .int .i64 y1, .slice y2 y3 y4, .slice y5 y6 y7, .slice y8 y9 y10] tC)))
          have hkF := Lib.hid (hkA.out.trans hkn.out)
          clear hx
          by_cases h3 : 1024 < y3
          · have hn3 : (1024 : Int) < y3 := by omega
            go_wp2
            go_ret
            exact ⟨rfl, hkF.out⟩
          have hn3 : decide ((1024 : Int) < y3) = false := by simp; omega
          by_cases h6 : 1024 < y6
          · have hn6 : (1024 : Int) < y6 := by omega
            go_wp2
            go_ret
            exact ⟨rfl, hkF.out⟩
          have hn6 : decide ((1024 : Int) < y6) = false := by simp; omega
          by_cases h9 : 1024 < y9
          · have hn9 : (1024 : Int) < y9 := by omega
            go_wp2
            go_ret
            exact ⟨rfl, hkF.out⟩
          have hn9 : decide ((1024 : Int) < y9) = false := by simp; omega
          have hno2 : Hid (∀ j (hj : j < c.cl.length), j < k + 1 → c.cl[j].st.length ≤ 1024 ∧ c.cl[j].sc.length ≤ 1024 ∧ c.cl[j].ch.length ≤ 1024) := Lib.hid (fun j hj hl => by
            by_cases e : j = k
            · subst e; have := ev1.out; have := ev2.out; have := ev3.out; omega
            · exact hnoc.out j hj (by omega))
          go_wp2
          go_roundw
          case rel => exact ⟨k + 1, rfl, by omega, hno2, hkn⟩
          case measure => simp [intOf]; omega
        · exfalso
          refine hf.out ⟨by have := e1.out; omega, by have := e2.out; omega, hall.out, fun p hp => ?_⟩
          obtain ⟨j, hj, rfl⟩ := List.mem_iff_getElem.1 hp
          exact hnoc.out j hj (by have := e2.out; omega)
set_option maxRecDepth 100000 in
set_option maxHeartbeats 4000000 in
theorem formedNo_c (w : World) (x : CtV) (c : Ct) (h : CtW w x c) (hf : ¬ c.F24) :
    Calls Try.prog 14 #[ctV x] w fun e w' => e = .returned (.bool false) ∧ Keeps [] w w' := by
  have hsh := fun (W : World) (hk : Keeps [] w W) => shortNo_c W x c (h.keeps hk) hf
  obtain ⟨x0, x1, x2, x3, x4, ⟨x5, x6, x7⟩, ⟨x8, x9, x10⟩⟩ := x
  simp only [ctV, slv] at hsh
  have hA := heap_alloc_new w (.cells #[.int .i64 x0, .int .i64 x1, .int .i64 x2, .int .u64 x3, .int .i64 x4, .slice x5 x6 x7, .slice x8 x9 x10] tCt)
  have hkA := (Keeps.refl [] w).alloc (.cells #[.int .i64 x0, .int .i64 x1, .int .i64 x2, .int .u64 x3, .int .i64 x4, .slice x5 x6 x7, .slice x8 x9 x10] tCt)
  obtain ⟨W, hW⟩ : ∃ W, w.alloc (.cells #[.int .i64 x0, .int .i64 x1, .int .i64 x2, .int .u64 x3, .int .i64 x4, .slice x5 x6 x7, .slice x8 x9 x10] tCt) = W := ⟨_, rfl⟩
  obtain ⟨B, hB⟩ : ∃ B, w.heap.size = B := ⟨_, rfl⟩
  rw [hW] at hA hkA
  rw [hB] at hA
  have hc1 := fun W => mach_c x0 W
  have hc2 := fun W => mach_c x2 W
  generalize mach x0 = m1 at hc1
  generalize mach x2 = m2 at hc2
  replace hsh := Lib.hid hsh
  replace hc1 := Lib.hid hc1
  replace hc2 := Lib.hid hc2
  replace hkA := Lib.hid hkA
  replace hW := Lib.hid hW
  replace hB := Lib.hid hB
  replace hA := Lib.hid hA
  clear h hf
  simp only [ctV, slv]
  go_enter Try.func14, Try.ntmps14
  go_upto_region 1 with fail
  rw [hW.out, hB.out]
  obtain ⟨i0, i1, i2, i3, i4, i5, i6, if', il⟩ := cl7 hA.out
  go_wp2_with fail
  refine (hc1.out _).mono ?_
  rintro e w' ⟨rfl, hw⟩
  obtain rfl := hw
  clear hc1
  cases m1 with
  | false =>
    go_wp2
    go_ret
    exact ⟨rfl, hkA.out⟩
  | true =>
  by_cases h1 : x1 < 1
  · go_wp2
    go_ret
    exact ⟨rfl, hkA.out⟩
  have h1d : decide (x1 < 1) = false := by simpa using h1
  go_wp2_with fail
  refine (hc2.out _).mono ?_
  rintro e w' ⟨rfl, hw⟩
  obtain rfl := hw
  clear hc2
  cases m2 with
  | false =>
    go_wp2
    go_ret
    exact ⟨rfl, hkA.out⟩
  | true =>
  go_wp2_with fail
  refine (hsh.out _ hkA.out).mono ?_
  rintro e w1 ⟨rfl, hk1⟩
  have hk01 := Lib.hid (hkA.out.trans hk1)
  go_wp2
  go_ret
  exact ⟨rfl, hk01.out⟩
set_option maxRecDepth 100000 in
set_option maxHeartbeats 4000000 in
theorem checkNo_c (w : World) (x : CtV) (c : Ct) (h : CtW w x c) (hf : ¬ c.F24) :
    Calls Try.prog 8 #[ctV x] w fun e w' => e = .returned (.int .i64 1) ∧ Keeps [] w w' := by
  have hcf := fun (W : World) (hk : Keeps [] w W) => formedNo_c W x c (h.keeps hk) hf
  obtain ⟨x0, x1, x2, x3, x4, ⟨x5, x6, x7⟩, ⟨x8, x9, x10⟩⟩ := x
  simp only [ctV, slv] at hcf
  have hA := heap_alloc_new w (.cells #[.int .i64 x0, .int .i64 x1, .int .i64 x2, .int .u64 x3, .int .i64 x4, .slice x5 x6 x7, .slice x8 x9 x10] tCt)
  have hkA := (Keeps.refl [] w).alloc (.cells #[.int .i64 x0, .int .i64 x1, .int .i64 x2, .int .u64 x3, .int .i64 x4, .slice x5 x6 x7, .slice x8 x9 x10] tCt)
  obtain ⟨W, hW⟩ : ∃ W, w.alloc (.cells #[.int .i64 x0, .int .i64 x1, .int .i64 x2, .int .u64 x3, .int .i64 x4, .slice x5 x6 x7, .slice x8 x9 x10] tCt) = W := ⟨_, rfl⟩
  obtain ⟨B, hB⟩ : ∃ B, w.heap.size = B := ⟨_, rfl⟩
  rw [hW] at hA hkA
  rw [hB] at hA
  replace hcf := Lib.hid hcf
  replace hkA := Lib.hid hkA
  replace hW := Lib.hid hW
  replace hB := Lib.hid hB
  replace hA := Lib.hid hA
  clear h hf
  simp only [ctV, slv]
  go_enter Try.func8, Try.ntmps8
  go_upto_region 1 with fail
  rw [hW.out, hB.out]
  obtain ⟨i0, i1, i2, i3, i4, i5, i6, if', il⟩ := cl7 hA.out
  go_wp2_with fail
  refine (hcf.out _ hkA.out).mono ?_
  rintro e w1 ⟨rfl, hk1⟩
  have hk01 := Lib.hid (hkA.out.trans hk1)
  go_wp2
  go_ret
  exact ⟨rfl, hk01.out⟩
end Go.Proofs.Ytiplgpefapeapaa

namespace Go.Proofs.Ytiplgpefapeapaa
open Go.RowKit

theorem sum_succ {α : Type} (g : α → Nat) (l : List α) (k : Nat) (h : k < l.length) : ((l.take (k + 1)).map g).sum = ((l.take k).map g).sum + g l[k] := by
  rw [List.take_succ_eq_append_getElem h, List.map_append, List.sum_append]
  simp only [List.map_cons, List.map_nil, List.sum_cons, List.sum_nil, Nat.add_zero]
theorem sum_full {α : Type} (g : α → Nat) (l : List α) : ((l.take l.length).map g).sum = (l.map g).sum := by rw [List.take_length]
theorem sum_mem {α : Type} (g : α → Nat) {l : List α} {x : α} (h : x ∈ l) : g x ≤ (l.map g).sum := by
  induction l with
  | nil => simp at h
  | cons a l ih =>
    rcases List.mem_cons.1 h with rfl | h
    · simp
    · have := ih h; simp; omega
theorem few_of {c : Ct} (h : c.size ≤ 100) : c.Few := by
  unfold Ct.size at h
  refine ⟨by omega, by omega, fun a ha => ?_, fun p hp => ?_⟩
  · have := sum_mem (fun a : Ans => a.ins.length) ha; omega
  · have := sum_mem PCl.size hp
    have hs : PCl.size p = p.st.length + p.sc.length + p.ch.length := rfl
    omega
def FewP (c : Ct) (e : Ending) : Prop := ∃ b, e = .returned (.bool b) ∧ (c.F24 → b = decide (c.size ≤ 100))
set_option maxRecDepth 100000 in
set_option maxHeartbeats 4000000 in
theorem fewC_c (w : World) (x : CtV) (c : Ct) (h : CtW w x c) :
    Calls Try.prog 6 #[ctV x] w fun e w' => FewP c e ∧ Keeps [] w w' := by
  obtain ⟨x0, x1, x2, x3, x4, ⟨x5, x6, x7⟩, ⟨x8, x9, x10⟩⟩ := x
  have han := h.an
  have hcl := h.cl
  simp only [slv] at han hcl
  obtain ⟨_, _, e1, hla, hca⟩ := han.form
  obtain ⟨_, _, e2, hlc, hcc⟩ := hcl.form
  simp only [Value.slice.injEq] at e1 e2
  obtain ⟨-, e1, -⟩ := e1
  obtain ⟨-, e2, -⟩ := e2
  rw [← e1] at hla
  rw [← e2] at hlc
  have hA := heap_alloc_new w (.cells #[.int .i64 x0, .int .i64 x1, .int .i64 x2, .int .u64 x3, .int .i64 x4, .slice x5 x6 x7, .slice x8 x9 x10] tCt)
  have hkA := (Keeps.refl [] w).alloc (.cells #[.int .i64 x0, .int .i64 x1, .int .i64 x2, .int .u64 x3, .int .i64 x4, .slice x5 x6 x7, .slice x8 x9 x10] tCt)
  have han1 := han.keeps hkA
  have hcl1 := hcl.keeps hkA
  obtain ⟨W, hW⟩ : ∃ W, w.alloc (.cells #[.int .i64 x0, .int .i64 x1, .int .i64 x2, .int .u64 x3, .int .i64 x4, .slice x5 x6 x7, .slice x8 x9 x10] tCt) = W := ⟨_, rfl⟩
  obtain ⟨B, hB⟩ : ∃ B, w.heap.size = B := ⟨_, rfl⟩
  have hx6m : x6 ≤ 9223372036854775807 := by unfold maxLen at hca; omega
  have hx9m : x9 ≤ 9223372036854775807 := by unfold maxLen at hcc; omega
  obtain ⟨z0, hz0⟩ : ∃ z, wrap64 ((x6 : Int) + x9) = z := ⟨_, rfl⟩
  have hz0f : c.F24 → z0 = ((x6 + x9 : Nat) : Int) ∧ x6 ≤ 1024 ∧ x9 ≤ 1024 := fun hF => by
    have h1 := hF.an
    have h2 := hF.cl
    rw [← hz0, IntWalk.wrap64_in _ (by omega)]
    omega
  rw [hW] at han1 hcl1 hA hkA
  rw [hB] at hA
  replace han1 := Lib.hid han1
  replace hcl1 := Lib.hid hcl1
  replace hkA := Lib.hid hkA
  replace hW := Lib.hid hW
  replace hB := Lib.hid hB
  replace e1 := Lib.hid e1
  replace e2 := Lib.hid e2
  replace hA := Lib.hid hA
  replace hz0 := Lib.hid hz0
  replace hz0f := Lib.hid hz0f
  clear h han hcl
  simp only [ctV, slv]
  go_enter Try.func6, Try.ntmps6
  go_upto_region 1 with fail
  rw [hW.out, hB.out]
  obtain ⟨i0, i1, i2, i3, i4, i5, i6, if', il⟩ := cl7 hA.out
  go_wp2
  simp only [hz0.out]
  go_loopw [3, 18] (fun n i wr => ∃ (k : Nat) (z : Int), n = .int .i64 z ∧ i = .int .i64 k ∧ k ≤ x6 ∧ Hid (c.F24 → z = ((x6 + x9 + ((c.an.take k).map (fun a => a.ins.length)).sum : Nat) : Int) ∧ ((c.an.take k).map (fun a => a.ins.length)).sum ≤ 1024 * k) ∧ Hid (Keeps [] W wr)) (fun _ i _ => x6 - (intOf i).toNat)
  case atStart => exact ⟨0, z0, rfl, rfl, by omega, Lib.hid (fun hF => by have := (hz0f.out hF).1; simp; omega), Lib.hid (Keeps.refl _ _)⟩
  case round =>
    clear i0 i1 i2 i3 i4 i5 i6 if' il
    obtain ⟨k, z, rfl, rfl, hk, hno, hkw⟩ := hrel
    by_cases hlt : k < x6
    · have hlt2 : (k : Int) < x6 := by omega
      have hkl : k < c.an.length := by rw [← e1.out]; exact hlt
      obtain ⟨g, o, c', x, hv, hx, he⟩ := (han1.out.keeps hkw.out).elem hkl
      rw [← e1.out] at hv
      cases hv
      obtain ⟨_, _, ev, _⟩ := hx.ins.form
      obtain ⟨y0, y1, y2, y3, y4, y5, y6, y7, y8, y9⟩ := x
      simp only [AnV.v, Value.slice.injEq] at ev
      obtain ⟨-, ev, -⟩ := ev
      have g0 := he 0 _ rfl
      have g1 := he 1 _ rfl
      have g2 := he 2 _ rfl
      have g3 := he 3 _ rfl
      have g4 := he 4 _ rfl
      have g5 := he 5 _ rfl
      have g6 := he 6 _ rfl
      have g7 := he 7 _ rfl
      simp only [AnV.v, Nat.add_zero] at g0 g1 g2 g3 g4 g5 g6 g7
      replace ev := Lib.hid ev
      have hkn := Lib.hid (hkw.out.trans ((Keeps.refl [] wr).alloc (.cells #[.int .i64 y0, .int .i64 y1, .int .u64 y2, .int .i64 y3, .bool y4, .bool y5, .int .i64 y6, .slice y7 y8 y9] tA)))
      have hno2 : Hid (c.F24 → wrap64 (z + y8) = ((x6 + x9 + ((c.an.take (k + 1)).map (fun a => a.ins.length)).sum : Nat) : Int) ∧ ((c.an.take (k + 1)).map (fun a => a.ins.length)).sum ≤ 1024 * (k + 1)) := Lib.hid (fun hF => by
        obtain ⟨q1, q2⟩ := hno.out hF
        obtain ⟨_, q3, q4⟩ := hz0f.out hF
        have q5 := hF.ins _ (List.getElem_mem hkl)
        rw [sum_succ _ _ _ hkl]
        have q6 := ev.out
        rw [IntWalk.wrap64_in _ (by omega)]
        omega)
      clear he hx
      go_wp2
      go_roundw
      case rel => exact ⟨k + 1, _, rfl, rfl, by omega, hno2, hkn⟩
      case measure => simp [intOf]; omega
    · have hlt2 : ¬ ((k : Int) < x6) := by omega
      have hAr := (hkw.out.block _ (lt_of_blk hA.out) (by simp)).trans hA.out
      obtain ⟨i0, i1, i2, i3, i4, i5, i6, if', il⟩ := cl7 hAr
      have hno3 : Hid (c.F24 → z = ((x6 + x9 + (c.an.map (fun a => a.ins.length)).sum : Nat) : Int) ∧ (c.an.map (fun a => a.ins.length)).sum ≤ 1024 * 1024) := Lib.hid (fun hF => by
        have := hno.out hF
        have hkx : k = c.an.length := by have := e1.out; omega
        rw [hkx, sum_full] at this
        have := hF.an
        omega)
      clear hno
      go_wp2
      generalize wr = W2 at *
      go_loopw [3, 31] (fun n i wr => ∃ (k : Nat) (z : Int), n = .int .i64 z ∧ i = .int .i64 k ∧ k ≤ x9 ∧ Hid (c.F24 → z = ((x6 + x9 + (c.an.map (fun a => a.ins.length)).sum + ((c.cl.take k).map PCl.size).sum : Nat) : Int) ∧ ((c.cl.take k).map PCl.size).sum ≤ 3072 * k) ∧ Hid (Keeps [] W wr)) (fun _ i _ => x9 - (intOf i).toNat)
      case atStart => exact ⟨0, z, rfl, rfl, by omega, Lib.hid (fun hF => by have := (hno3.out hF).1; simp; omega), hkw⟩
      case round =>
        clear i0 i1 i2 i3 i4 i5 i6 if' il
        obtain ⟨k, z, rfl, rfl, hk, hnoc, hkw⟩ := hrel
        by_cases hlt : k < x9
        · have hlt2 : (k : Int) < x9 := by omega
          have hkl : k < c.cl.length := by rw [← e2.out]; exact hlt
          obtain ⟨g, o, c', x, hv, hx, g0, g1, g2, g3, g4⟩ := (hcl1.out.keeps hkw.out).elem hkl
          rw [← e2.out] at hv
          cases hv
          obtain ⟨_, _, ev1, _⟩ := hx.st.form
          obtain ⟨_, _, ev2, _⟩ := hx.sc.form
          obtain ⟨_, _, ev3, _⟩ := hx.ch.form
          obtain ⟨y0, y1, ⟨y2, y3, y4⟩, ⟨y5, y6, y7⟩, ⟨y8, y9, y10⟩⟩ := x
          simp only [slv, Value.slice.injEq] at ev1 ev2 ev3
          simp only [slv] at g0 g1 g2 g3 g4
          obtain ⟨-, ev1, -⟩ := ev1
          obtain ⟨-, ev2, -⟩ := ev2
          obtain ⟨-, ev3, -⟩ := ev3
          replace ev1 := Lib.hid ev1
          replace ev2 := Lib.hid ev2
          replace ev3 := Lib.hid ev3
          have hkn := Lib.hid (hkw.out.trans ((Keeps.refl [] wr).alloc (.cells #[.int .i64 y0, .int .i64 y1, .slice y2 y3 y4, .slice y5 y6 y7, .slice y8 y9 y10] tC)))
          have hno2 : Hid (c.F24 → wrap64 (z + wrap64 (wrap64 (y3 + y6) + y9)) = ((x6 + x9 + (c.an.map (fun a => a.ins.length)).sum + ((c.cl.take (k + 1)).map PCl.size).sum : Nat) : Int) ∧ ((c.cl.take (k + 1)).map PCl.size).sum ≤ 3072 * (k + 1)) := Lib.hid (fun hF => by
            obtain ⟨q1, q2⟩ := hnoc.out hF
            obtain ⟨_, q3, q4⟩ := hz0f.out hF
            obtain ⟨_, q5⟩ := hno3.out hF
            obtain ⟨q6, q7, q8⟩ := hF.ns _ (List.getElem_mem hkl)
            rw [sum_succ _ _ _ hkl]
            have hs : PCl.size c.cl[k] = c.cl[k].st.length + c.cl[k].sc.length + c.cl[k].ch.length := rfl
            have := ev1.out
            have := ev2.out
            have := ev3.out
            rw [IntWalk.wrap64_in ((y3 : Int) + y6) (by omega), IntWalk.wrap64_in ((y3 : Int) + y6 + y9) (by omega), IntWalk.wrap64_in _ (by omega)]
            omega)
          clear hx
          go_wp2
          go_roundw
          case rel => exact ⟨k + 1, _, rfl, rfl, by omega, hno2, hkn⟩
          case measure => simp [intOf]; omega
        · have hlt2 : ¬ ((k : Int) < x9) := by omega
          have hend : Hid (c.F24 → decide (z ≤ 100) = decide (c.size ≤ 100)) := Lib.hid (fun hF => by
            have hn := (hnoc.out hF).1
            have hkx : k = c.cl.length := by have := e2.out; omega
            rw [hkx, sum_full] at hn
            unfold Ct.size
            have := e1.out
            have := e2.out
            rw [decide_eq_decide]
            omega)
          go_wp2
          go_ret
          exact ⟨⟨_, rfl, hend.out⟩, hkA.out.trans hkw.out⟩
end Go.Proofs.Ytiplgpefapeapaa

namespace Go.Proofs.Ytiplgpefapeapaa
open Go.RowKit

def exS (s : Int) : Ct := ⟨1, 1, (2, 7, 0), [⟨1, 2, 7, 3, true, false, 4, [(2, 9, 5)]⟩, ⟨2, 1, 9, 6, true, false, 8, [(1, 7, 1)]⟩], [⟨1, 3, [(2, 7, 1)], [(2, 9, s)], []⟩, ⟨2, 6, [(1, 9, 5)], [(1, 7, 4)], []⟩]⟩
theorem ex8_chk : chk (exS 8) = 0 := by decide +kernel
theorem ex7_chk : chk (exS 7) = 15 := by decide +kernel
theorem ex_size (s : Int) : (exS s).size ≤ 100 := by unfold exS Ct.size PCl.size; simp
def exX (b : Nat) : CtV := ⟨1, 1, 2, 7, 0, (some ⟨b + 3, 0, none⟩, 2, 2), (some ⟨b + 8, 0, none⟩, 2, 2)⟩
abbrev oneV (b : Nat) : Value := .slice (some ⟨b, 0, none⟩) 1 1
/-- The blocks of the example. -/
structure ExB (w : World) (b : Nat) (s : Int) : Prop where
  o1 : w.heap[b + 1]? = some (.cells #[.int .i64 2, .int .u64 9, .int .i64 5] tI (0, 0))
  o2 : w.heap[b + 2]? = some (.cells #[.int .i64 1, .int .u64 7, .int .i64 1] tI (0, 0))
  o3 : w.heap[b + 3]? = some (.cells #[.int .i64 1, .int .i64 2, .int .u64 7, .int .i64 3, .bool true, .bool false, .int .i64 4, oneV (b + 1), .int .i64 2, .int .i64 1, .int .u64 9, .int .i64 6, .bool true, .bool false, .int .i64 8, oneV (b + 2)] tA (0, 0))
  o4 : w.heap[b + 4]? = some (.cells #[.int .i64 2, .int .u64 9, .int .i64 s] tN (0, 0))
  o5 : w.heap[b + 5]? = some (.cells #[.int .i64 2, .int .u64 7, .int .i64 1] tN (0, 0))
  o6 : w.heap[b + 6]? = some (.cells #[.int .i64 1, .int .u64 7, .int .i64 4] tN (0, 0))
  o7 : w.heap[b + 7]? = some (.cells #[.int .i64 1, .int .u64 9, .int .i64 5] tN (0, 0))
  o8 : w.heap[b + 8]? = some (.cells #[.int .i64 1, .int .i64 3, oneV (b + 5), oneV (b + 4), .slice none 0 0, .int .i64 2, .int .i64 6, oneV (b + 7), oneV (b + 6), .slice none 0 0] tC (0, 0))
theorem ExB.keeps {w w' : World} {b : Nat} {s : Int} (h : ExB w b s) (hk : Keeps [] w w') : ExB w' b s :=
  ⟨(hk.block _ (lt_of_blk h.o1) (by simp)).trans h.o1, (hk.block _ (lt_of_blk h.o2) (by simp)).trans h.o2, (hk.block _ (lt_of_blk h.o3) (by simp)).trans h.o3, (hk.block _ (lt_of_blk h.o4) (by simp)).trans h.o4, (hk.block _ (lt_of_blk h.o5) (by simp)).trans h.o5, (hk.block _ (lt_of_blk h.o6) (by simp)).trans h.o6, (hk.block _ (lt_of_blk h.o7) (by simp)).trans h.o7, (hk.block _ (lt_of_blk h.o8) (by simp)).trans h.o8⟩
theorem ExB.stamp {w : World} {b : Nat} {s : Int} (h : ExB w b s) (z : Int) : ExB (w.setCell ⟨b + 4, 2, none⟩ (.int .i64 z)) b z ∧ Keeps [b + 4] w (w.setCell ⟨b + 4, 2, none⟩ (.int .i64 z)) := by
  have hk : Keeps [b + 4] w (w.setCell ⟨b + 4, 2, none⟩ (.int .i64 z)) := (Keeps.refl _ w).setCell (.inr (by simp)) _
  refine ⟨⟨(hk.block _ (lt_of_blk h.o1) (by simp)).trans h.o1, (hk.block _ (lt_of_blk h.o2) (by simp)).trans h.o2, (hk.block _ (lt_of_blk h.o3) (by simp)).trans h.o3, ?_, (hk.block _ (lt_of_blk h.o5) (by simp)).trans h.o5, (hk.block _ (lt_of_blk h.o6) (by simp)).trans h.o6, (hk.block _ (lt_of_blk h.o7) (by simp)).trans h.o7, (hk.block _ (lt_of_blk h.o8) (by simp)).trans h.o8⟩, hk⟩
  have h4 := h.o4
  simp [World.setCell, Array.getElem?_modify, h4]
theorem R_blk {α : Type} (s : Sh α) {w : World} {b : Nat} {cs : Array Value} {t : TypeId} (L : List α) (h : w.heap[b]? = some (.cells cs t (0, 0))) (hc : cs.toList = s.cs L) (hs : (s.cs L).length = L.length * s.sz) (hm : L.length ≤ 1000) : s.R w (.slice (some ⟨b, 0, none⟩) L.length L.length) L :=
  Sh.O.r (B := 0) (e := t) ⟨hs, .inr ⟨b, L.length, cs, rfl, Nat.zero_le _, h, Nat.le_refl _, by unfold maxLen; omega, by rw [← Array.length_toList, hc, hs], by rw [hc, List.take_of_length_le (by omega)]⟩⟩
theorem ExB.ct {w : World} {b : Nat} {s : Int} (h : ExB w b s) : CtW w (exX b) (exS s) := by
  refine ⟨rfl, rfl, rfl, rfl, rfl, ?_, ?_⟩
  · refine ⟨[⟨1, 2, 7, 3, true, false, 4, some ⟨b + 1, 0, none⟩, 1, 1⟩, ⟨2, 1, 9, 6, true, false, 8, some ⟨b + 2, 0, none⟩, 1, 1⟩], R_blk shA _ h.o3 rfl rfl (by simp), rfl, fun k x y hx hy => ?_⟩
    match k with
    | 0 =>
      simp at hx
      simp [exS] at hy
      subst hx hy
      exact ⟨rfl, rfl, rfl, rfl, rfl, rfl, rfl, R_blk shT [(2, 9, 5)] h.o1 rfl rfl (by simp)⟩
    | 1 =>
      simp at hx
      simp [exS] at hy
      subst hx hy
      exact ⟨rfl, rfl, rfl, rfl, rfl, rfl, rfl, R_blk shT [(1, 7, 1)] h.o2 rfl rfl (by simp)⟩
    | k + 2 => simp at hx
  · refine ⟨[⟨1, 3, (some ⟨b + 5, 0, none⟩, 1, 1), (some ⟨b + 4, 0, none⟩, 1, 1), (none, 0, 0)⟩, ⟨2, 6, (some ⟨b + 7, 0, none⟩, 1, 1), (some ⟨b + 6, 0, none⟩, 1, 1), (none, 0, 0)⟩], R_blk shC _ h.o8 rfl rfl (by simp), rfl, fun k x y hx hy => ?_⟩
    match k with
    | 0 =>
      simp at hx
      simp [exS] at hy
      subst hx hy
      exact ⟨rfl, rfl, R_blk shT [(2, 7, 1)] h.o5 rfl rfl (by simp), R_blk shT [(2, 9, s)] h.o4 rfl rfl (by simp), Sh.R.nil _ _⟩
    | 1 =>
      simp at hx
      simp [exS] at hy
      subst hx hy
      exact ⟨rfl, rfl, R_blk shT [(1, 9, 5)] h.o7 rfl rfl (by simp), R_blk shT [(1, 7, 4)] h.o6 rfl rfl (by simp), Sh.R.nil _ _⟩
    | k + 2 => simp at hx
theorem ex_fit (s : Int) (hs : W64 s) : (exS s).Fit := by
  refine ⟨rfl, rfl, ⟨rfl, by simp [exS], rfl⟩, fun a ha => ?_, fun p hp => ?_⟩
  · simp [exS] at ha
    rcases ha with rfl | rfl
    · exact ⟨⟨rfl, rfl, by simp [Ans.q]⟩, rfl, rfl, (fun x hx => by simp at hx; subst hx; exact ⟨rfl, by simp, rfl⟩)⟩
    · exact ⟨⟨rfl, rfl, by simp [Ans.q]⟩, rfl, rfl, (fun x hx => by simp at hx; subst hx; exact ⟨rfl, by simp, rfl⟩)⟩
  · simp [exS] at hp
    rcases hp with rfl | rfl
    · exact ⟨rfl, rfl, (fun x hx => by simp at hx; subst hx; exact ⟨rfl, by simp, rfl⟩), (fun x hx => by simp at hx; subst hx; exact ⟨rfl, by simp, hs⟩), (fun x hx => by simp at hx)⟩
    · exact ⟨rfl, rfl, (fun x hx => by simp at hx; subst hx; exact ⟨rfl, by simp, rfl⟩), (fun x hx => by simp at hx; subst hx; exact ⟨rfl, by simp, rfl⟩), (fun x hx => by simp at hx)⟩
theorem an2 (w : World) (o : Obj) {b : Nat} (h : b = w.heap.size) : (w.alloc o).heap[b]? = some o := by subst h; exact heap_alloc_new w o
theorem alloc9 {w W : World} {a0 a1 a2 a3 a4 a5 a6 a7 a8 : Obj} (h : (((((((((w.alloc a0).alloc a1).alloc a2).alloc a3).alloc a4).alloc a5).alloc a6).alloc a7).alloc a8) = W) :
    W.heap[w.heap.size]? = some a0 ∧ W.heap[w.heap.size + 1]? = some a1 ∧ W.heap[w.heap.size + 2]? = some a2 ∧ W.heap[w.heap.size + 3]? = some a3 ∧ W.heap[w.heap.size + 4]? = some a4 ∧ W.heap[w.heap.size + 5]? = some a5 ∧ W.heap[w.heap.size + 6]? = some a6 ∧ W.heap[w.heap.size + 7]? = some a7 ∧ W.heap[w.heap.size + 8]? = some a8 ∧ Keeps [] w W := by
  subst h
  refine ⟨?_, ?_, ?_, ?_, ?_, ?_, ?_, ?_, ?_, ((((((((((Keeps.refl [] w).alloc _).alloc _).alloc _).alloc _).alloc _).alloc _).alloc _).alloc _).alloc _)⟩
  · rw [Below.heap_alloc _ _ _ (by simp <;> omega), Below.heap_alloc _ _ _ (by simp <;> omega), Below.heap_alloc _ _ _ (by simp <;> omega), Below.heap_alloc _ _ _ (by simp <;> omega), Below.heap_alloc _ _ _ (by simp <;> omega), Below.heap_alloc _ _ _ (by simp <;> omega), Below.heap_alloc _ _ _ (by simp <;> omega), Below.heap_alloc _ _ _ (by simp <;> omega)]; exact an2 _ _ (by simp)
  · rw [Below.heap_alloc _ _ _ (by simp <;> omega), Below.heap_alloc _ _ _ (by simp <;> omega), Below.heap_alloc _ _ _ (by simp <;> omega), Below.heap_alloc _ _ _ (by simp <;> omega), Below.heap_alloc _ _ _ (by simp <;> omega), Below.heap_alloc _ _ _ (by simp <;> omega), Below.heap_alloc _ _ _ (by simp <;> omega)]; exact an2 _ _ (by simp)
  · rw [Below.heap_alloc _ _ _ (by simp <;> omega), Below.heap_alloc _ _ _ (by simp <;> omega), Below.heap_alloc _ _ _ (by simp <;> omega), Below.heap_alloc _ _ _ (by simp <;> omega), Below.heap_alloc _ _ _ (by simp <;> omega), Below.heap_alloc _ _ _ (by simp <;> omega)]; exact an2 _ _ (by simp)
  · rw [Below.heap_alloc _ _ _ (by simp <;> omega), Below.heap_alloc _ _ _ (by simp <;> omega), Below.heap_alloc _ _ _ (by simp <;> omega), Below.heap_alloc _ _ _ (by simp <;> omega), Below.heap_alloc _ _ _ (by simp <;> omega)]; exact an2 _ _ (by simp)
  · rw [Below.heap_alloc _ _ _ (by simp <;> omega), Below.heap_alloc _ _ _ (by simp <;> omega), Below.heap_alloc _ _ _ (by simp <;> omega), Below.heap_alloc _ _ _ (by simp <;> omega)]; exact an2 _ _ (by simp)
  · rw [Below.heap_alloc _ _ _ (by simp <;> omega), Below.heap_alloc _ _ _ (by simp <;> omega), Below.heap_alloc _ _ _ (by simp <;> omega)]; exact an2 _ _ (by simp)
  · rw [Below.heap_alloc _ _ _ (by simp <;> omega), Below.heap_alloc _ _ _ (by simp <;> omega)]; exact an2 _ _ (by simp)
  · rw [Below.heap_alloc _ _ _ (by simp <;> omega)]; exact an2 _ _ (by simp)
  · exact an2 _ _ (by simp)
set_option maxRecDepth 100000 in
set_option maxHeartbeats 4000000 in
theorem example_c (w : World) : Calls Try.prog 13 #[] w fun e w' => e = .returned (ctV (exX w.heap.size)) ∧ ExB w' w.heap.size 8 ∧ Keeps [] w w' := by
  go_enter Try.func13, Try.ntmps13
  go_wp2
  generalize hW : World.alloc _ (Obj.cells #[.int .i64 1, .int .i64 3, _, _, _, .int .i64 2, .int .i64 6, _, _, _] _) = W
  obtain ⟨h0, h1, h2, h3, h4, h5, h6, h7, h8, hk⟩ := alloc9 hW
  refine bodyPost_ret (results_cell_row rfl _ _ _ _ _ _ _ rfl h0 Try.underlying30 rfl (by kernel_rfl)) rfl ?_
  exact ⟨rfl, ⟨h1, h2, h3, h4, h5, h6, h7, h8⟩, hk⟩
set_option maxRecDepth 100000 in
set_option maxHeartbeats 4000000 in
theorem awake_c (w : World) : Calls Try.prog 7 #[] w fun e w' => e = .returned (.bool true) ∧ Keeps [] w w' := by
  have hce := fun (W : World) (s : Int) (hs : W64 s) (h : ExB W w.heap.size s) => check_c W _ _ h.ct (ex_fit s hs) (few_of (ex_size s))
  obtain ⟨b, hb⟩ : ∃ b, w.heap.size = b := ⟨_, rfl⟩
  have hex := example_c w
  rw [hb] at hce hex
  replace hce := Lib.hid hce
  replace hb := Lib.hid hb
  go_enter Try.func7, Try.ntmps7
  go_wp2_with fail
  refine hex.mono ?_
  rintro e w1 ⟨rfl, hE1, hk1⟩
  have hA := heap_alloc_new w1 (.cells #[.int .i64 1, .int .i64 1, .int .i64 2, .int .u64 7, .int .i64 0, .slice (some ⟨b + 3, 0, none⟩) 2 2, .slice (some ⟨b + 8, 0, none⟩) 2 2] tCt)
  have hkA := hk1.trans ((Keeps.refl [] w1).alloc (.cells #[.int .i64 1, .int .i64 1, .int .i64 2, .int .u64 7, .int .i64 0, .slice (some ⟨b + 3, 0, none⟩) 2 2, .slice (some ⟨b + 8, 0, none⟩) 2 2] tCt))
  have hE2 := hE1.keeps ((Keeps.refl [] w1).alloc (.cells #[.int .i64 1, .int .i64 1, .int .i64 2, .int .u64 7, .int .i64 0, .slice (some ⟨b + 3, 0, none⟩) 2 2, .slice (some ⟨b + 8, 0, none⟩) 2 2] tCt))
  have hbA : b < w1.heap.size := by have := lt_of_blk hE1.o1; omega
  have hc8 := hce.out _ 8 rfl hE2
  rw [ex8_chk] at hc8
  simp only [ctV, slv, exX] at hc8 ⊢
  replace hA := Lib.hid hA
  replace hkA := Lib.hid hkA
  replace hE2 := Lib.hid hE2
  replace hbA := Lib.hid hbA
  replace hc8 := Lib.hid hc8
  clear hE1 hk1
  go_upto_region 2 with fail
  generalize (w1.alloc (.cells #[.int .i64 1, .int .i64 1, .int .i64 2, .int .u64 7, .int .i64 0, .slice (some ⟨b + 3, 0, none⟩) 2 2, .slice (some ⟨b + 8, 0, none⟩) 2 2] tCt)) = WA at *
  obtain ⟨XA, hXA⟩ : ∃ X, w1.heap.size = X := ⟨_, rfl⟩
  rw [hXA] at hA hbA ⊢
  obtain ⟨i0, i1, i2, i3, i4, i5, i6, if', il⟩ := cl7 hA.out
  go_wp2_with fail
  refine hc8.out.mono ?_
  rintro e w2 ⟨rfl, hk2⟩
  have hA2 := (hk2.block _ (lt_of_blk hA.out) (by simp)).trans hA.out
  have hE3 := hE2.out.keeps hk2
  have hk02 := hkA.out.trans hk2
  clear i0 i1 i2 i3 i4 i5 i6 if' il hc8
  obtain ⟨i0, i1, i2, i3, i4, i5, i6, if', il⟩ := cl7 hA2
  have t8 := hE3.o8
  have t4 := hE3.o4
  have a3 : w2.cell? ⟨b + 8, 3, none⟩ = some (oneV (b + 4)) := by simp [World.cell?, t8]
  obtain ⟨_, _, a4, af, al⟩ := cl3 t4
  obtain ⟨hE4, hk4⟩ := hE3.stamp 7
  have hXb : XA ≠ b + 4 := by have := hE2.out.o4; have := hbA.out; intro e; rw [← e] at t4; rw [hA2] at t4; simp at t4
  have hA4 := (hk4.block _ (lt_of_blk hA2) (by simp; omega)).trans hA2
  have hk04 := hk02.fresh hk4 (fun x hx => by simp only [List.mem_singleton] at hx; subst hx; exact .inr (by have := hb.out; omega))
  have hc7 := hce.out _ 7 rfl hE4
  rw [ex7_chk] at hc7
  simp only [ctV, slv, exX] at hc7
  replace hA4 := Lib.hid hA4
  replace hk04 := Lib.hid hk04
  replace hc7 := Lib.hid hc7
  clear t8 t4 hE4 hk4 hE3 hA2 hk02 hk2 hce hE2
  go_upto_region 5 with fail
  generalize (w2.setCell ⟨b + 4, 2, none⟩ (.int .i64 7)) = W4 at *
  clear i0 i1 i2 i3 i4 i5 i6 if' il a3 a4 af al
  obtain ⟨i0, i1, i2, i3, i4, i5, i6, if', il⟩ := cl7 hA4.out
  go_wp2_with fail
  refine hc7.out.mono ?_
  rintro e w5 ⟨rfl, hk5⟩
  have hkz := hk04.out.trans hk5
  go_wp2
  go_ret
  exact ⟨rfl, hkz⟩
end Go.Proofs.Ytiplgpefapeapaa

namespace Go.Proofs.Ytiplgpefapeapaa
open Go.RowKit

def hitN (pe : Int) (n : Nat) (x : T3) : Bool := decide (x.1 = pe) && decide (x.2.1 = n)
def hitP (m : Int) (sc : Bool) (pe : Int) (n : Nat) (p : PCl) : Bool := decide (p.m = m) && (bif sc then p.sc else p.st).any (hitN pe n)
def clmB (P : List PCl) (m : Int) (sc : Bool) (pe : Int) (n : Nat) : Bool := P.any (hitP m sc pe n)
theorem clmB_iff {P : List PCl} {m : Int} {sc : Bool} {pe : Int} {n : Nat} : clmB P m sc pe n = true ↔ ∃ p ∈ P, p.m = m ∧ ∃ x ∈ (bif sc then p.sc else p.st), x.1 = pe ∧ x.2.1 = n := by
  unfold clmB hitP hitN
  simp [List.any_eq_true, Bool.and_eq_true]
theorem any_no {α : Type} {l : List α} {p : α → Bool} (h : ∀ j (hj : j < l.length), p l[j] = false) : l.any p = false := List.any_eq_false.2 (fun x hx => by obtain ⟨j, hj, rfl⟩ := List.getElem_of_mem hx; rw [h j hj]; simp)
theorem any_yes {α : Type} {l : List α} {p : α → Bool} {j : Nat} (hj : j < l.length) (h : p l[j] = true) : l.any p = true := List.any_eq_true.2 ⟨_, List.getElem_mem hj, h⟩
set_option maxRecDepth 100000 in
set_option maxHeartbeats 8000000 in
theorem claimed_st_c (w : World) (bx : Nat) (x : CtV) (c : Ct) (h : CtW w x c) (hb : w.heap[bx]? = some (.cells #[.int .i64 x.im, .int .i64 x.is, .int .i64 x.s0, .int .u64 x.s1, .int .i64 x.s2, slv x.va, slv x.vc] tCt (0, 0))) (m pe : Int) (n : Nat) :
    Calls Try.prog 10 #[.int .i64 m, .bool false, .int .i64 pe, .int .u64 n, .pointer (some ⟨bx, 0, none⟩)] w fun e w' => e = .returned (.bool (clmB c.cl m false pe n)) ∧ Keeps [] w w' := by
  obtain ⟨x0, x1, x2, x3, x4, ⟨x5, x6, x7⟩, ⟨x8, x9, x10⟩⟩ := x
  have hcl := h.cl
  simp only [slv] at hcl hb
  obtain ⟨_, _, e2, hlc, hcc⟩ := hcl.form
  simp only [Value.slice.injEq] at e2
  obtain ⟨-, e2, -⟩ := e2
  rw [← e2] at hlc
  have hx9m : x9 ≤ 9223372036854775807 := by unfold maxLen at hcc; omega
  obtain ⟨r, hr⟩ : ∃ r, clmB c.cl m false pe n = r := ⟨_, rfl⟩
  rw [hr]
  unfold clmB at hr
  obtain ⟨P, hP⟩ : ∃ P, c.cl = P := ⟨_, rfl⟩
  rw [hP] at hr hcl e2
  replace hcl := Lib.hid hcl
  replace hr := Lib.hid hr
  replace e2 := Lib.hid e2
  clear h hP
  obtain ⟨i0, i1, i2, i3, i4, i5, i6, if', il⟩ := cl7 hb
  go_enter Try.func10, Try.ntmps10
  go_wp2
  go_loopw [18] (fun i wr => ∃ k : Nat, i = .int .i64 k ∧ k ≤ x9 ∧ Hid (∀ j (hj : j < P.length), j < k → hitP m false pe n P[j] = false) ∧ Hid (Keeps [] w wr)) (fun i _ => x9 - (intOf i).toNat)
  case atStart => exact ⟨0, rfl, by omega, Lib.hid (fun _ _ h => by omega), Lib.hid (Keeps.refl _ _)⟩
  case round =>
    clear i0 i1 i2 i3 i4 i5 i6 if' il
    obtain ⟨k, rfl, hk, hno, hkw⟩ := hrel
    by_cases hlt : k < x9
    · have hlt2 : (k : Int) < x9 := by omega
      have hkl : k < P.length := by rw [← e2.out]; exact hlt
      obtain ⟨g, o, c', x, hv, hx, g0, g1, g2, g3, g4⟩ := (hcl.out.keeps hkw.out).elem hkl
      rw [← e2.out] at hv
      cases hv
      obtain ⟨p, hp⟩ : ∃ p, P[k] = p := ⟨_, rfl⟩
      rw [hp] at hx
      have hlist := hx.st
      obtain ⟨_, _, ev, hl1, hl2, _⟩ := hx.st.form
      obtain ⟨y0, y1, ⟨y2, y3, y4⟩, ⟨y5, y6, y7⟩, ⟨y8, y9, y10⟩⟩ := x
      have hm := hx.m
      simp only [slv] at ev hlist g0 g1 g2 g3 g4
      simp only at hm
      simp only [Value.slice.injEq] at ev
      obtain ⟨-, ev, -⟩ := ev
      have hn3m : y3 ≤ 9223372036854775807 := by unfold maxLen at hl2; omega
      have hAr := heap_alloc_new wr (.cells #[.int .i64 y0, .int .i64 y1, .slice y2 y3 y4, .slice y5 y6 y7, .slice y8 y9 y10] tC)
      have hkn := (Keeps.refl [] wr).alloc (.cells #[.int .i64 y0, .int .i64 y1, .slice y2 y3 y4, .slice y5 y6 y7, .slice y8 y9 y10] tC)
      have hkr := Lib.hid (hkw.out.trans hkn)
      have hins := Lib.hid (hlist.keeps hkn)
      replace ev := Lib.hid ev
      replace hp := Lib.hid hp
      replace hm := Lib.hid hm
      replace hAr := Lib.hid hAr
      clear hx hl1 hl2 hkn hlist
      go_upto_region 4 with fail
      generalize (wr.alloc (.cells #[.int .i64 y0, .int .i64 y1, .slice y2 y3 y4, .slice y5 y6 y7, .slice y8 y9 y10] tC)) = WA at *
      obtain ⟨XA, hXA⟩ : ∃ X, wr.heap.size = X := ⟨_, rfl⟩
      rw [hXA] at hAr ⊢
      replace hXA := Lib.hid hXA
      clear g0 g1 g2 g3 g4
      obtain ⟨g0, g1, g2, g3, g4, gf, gl⟩ := cl5 hAr.out
      go_wp2
      generalize WA = W4 at *
      go_loopw [29] (fun i wr => ∃ q : Nat, i = .int .i64 q ∧ q ≤ y3 ∧ Hid (p.m = m → ∀ j (hj : j < p.st.length), j < q → hitN pe n p.st[j] = false) ∧ Hid (Keeps [] W4 wr)) (fun i _ => y3 - (intOf i).toNat)
      case atStart => exact ⟨0, rfl, by omega, Lib.hid (fun _ _ _ h => by omega), Lib.hid (Keeps.refl _ _)⟩
      case round =>
        clear g0 g1 g2 g3 g4 gf gl
        obtain ⟨q, rfl, hq, hnq, hkq⟩ := hrel
        by_cases hltq : q < y3
        · have hlt2q : (q : Int) < y3 := by omega
          have hql : q < p.st.length := by rw [← ev.out]; exact hltq
          obtain ⟨gi, oi, ci, hvi, hei⟩ := (hins.out.keeps hkq.out).elem hql
          rw [← ev.out] at hvi
          cases hvi
          obtain ⟨⟨z0, z1, z2⟩, hz⟩ : ∃ z, p.st[q] = z := ⟨_, rfl⟩
          rw [hz] at hei
          have t0 := hei 0 _ rfl
          have t1 := hei 1 _ rfl
          have t2 := hei 2 _ rfl
          simp only [shT, Nat.add_zero] at t0 t1 t2
          have hA5 := (hkq.out.block _ (lt_of_blk hAr.out) (by simp)).trans hAr.out
          obtain ⟨g0, g1, g2, g3, g4, gf, gl⟩ := cl5 hA5
          have hXl := gl
          have hnext : (y0 = m → ¬ (z0 = pe ∧ z1 = n)) → (p.m = m → ∀ j (hj : j < p.st.length), j < q + 1 → hitN pe n p.st[j] = false) := fun hh hm2 j hj hjq => by
            by_cases e : j = q
            · subst e
              rw [hz]
              have := hh (by rw [hm.out]; exact hm2)
              unfold hitN
              simp only [Bool.and_eq_false_iff, decide_eq_false_iff_not]
              by_cases e : z0 = pe
              · exact .inr (fun e2 => this ⟨e, e2⟩)
              · exact .inl e
            · exact hnq.out hm2 j hj (by omega)
          have hkqI := Lib.hid (hkq.out.trans ((Keeps.refl [] wr).alloc (.cells #[.int .i64 z0, .int .u64 z1, .int .i64 z2] tN)))
          have hfq := Lib.hid (hkr.out.trans hkqI.out)
          replace hz := Lib.hid hz
          replace hnext := Lib.hid hnext
          clear hei hA5
          by_cases a1 : y0 = m
          · have b1 : (y0 == m) = true := by simpa using a1
            by_cases a2 : z0 = pe
            · have b2 : (z0 == pe) = true := by simpa using a2
              replace a2 := Lib.hid a2
              by_cases a3 : z1 = n
              · have b3 : ((z1 : Int) == n) = true := by simp [a3]
                replace a3 := Lib.hid a3
                have hd : true = r := by
                  rw [← hr.out]
                  refine (any_yes hkl ?_).symm
                  rw [hp.out]
                  unfold hitP
                  rw [← hm.out, a1]
                  simp only [decide_true, Bool.true_and]
                  exact any_yes hql (by rw [show (bif false then p.sc else p.st)[q] = _ from hz.out]; unfold hitN; simp [a2.out, a3.out])
                replace hd := Lib.hid hd
                go_wp2
                go_ret
                exact ⟨by rw [← hd.out]; rfl, hfq.out⟩
              · have b3 : ((z1 : Int) == n) = false := by simp; omega
                have hn2 := Lib.hid (hnext.out (fun _ h => a3 h.2))
                go_wp2
                go_roundw
                case rel => exact ⟨q + 1, rfl, by omega, hn2, hkqI⟩
                case measure => simp [intOf]; omega
            · have b2 : (z0 == pe) = false := by simpa using a2
              have hn2 := Lib.hid (hnext.out (fun _ h => a2 h.1))
              go_wp2
              go_roundw
              case rel => exact ⟨q + 1, rfl, by omega, hn2, hkqI⟩
              case measure => simp [intOf]; omega
          · have b1 : (y0 == m) = false := by simpa using a1
            have hn2 := Lib.hid (hnext.out (fun h => absurd h a1))
            go_wp2
            go_roundw
            case rel => exact ⟨q + 1, rfl, by omega, hn2, hkqI⟩
            case measure => simp [intOf]; omega
        · have hlt2q : ¬ ((q : Int) < y3) := by omega
          have hn4 : Hid (∀ j (hj : j < P.length), j < k + 1 → hitP m false pe n P[j] = false) := Lib.hid (fun j hj hjk => by
            by_cases e : j = k
            · subst e
              rw [hp.out]
              unfold hitP
              by_cases e3 : p.m = m
              · rw [Bool.and_eq_false_iff]
                right
                exact any_no (fun j hj => hnq.out e3 j hj (by have := ev.out; have hj2 : j < p.st.length := hj; omega))
              · rw [Bool.and_eq_false_iff]
                left
                simpa using e3
            · exact hno.out j hj (by omega))
          have hkz := Lib.hid (hkr.out.trans hkq.out)
          go_wp2
          go_roundw
          case rel => exact ⟨k + 1, rfl, by omega, hn4, hkz⟩
          case measure => simp [intOf]; omega
    · have hlt2 : ¬ ((k : Int) < x9) := by omega
      have hd : false = r := by rw [← hr.out]; exact (any_no (fun j hj => hno.out j hj (by have := e2.out; omega))).symm
      replace hd := Lib.hid hd
      go_wp2
      go_ret
      exact ⟨by rw [← hd.out]; rfl, hkw.out⟩
set_option maxRecDepth 100000 in
set_option maxHeartbeats 8000000 in
theorem claimed_sc_c (w : World) (bx : Nat) (x : CtV) (c : Ct) (h : CtW w x c) (hb : w.heap[bx]? = some (.cells #[.int .i64 x.im, .int .i64 x.is, .int .i64 x.s0, .int .u64 x.s1, .int .i64 x.s2, slv x.va, slv x.vc] tCt (0, 0))) (m pe : Int) (n : Nat) :
    Calls Try.prog 10 #[.int .i64 m, .bool true, .int .i64 pe, .int .u64 n, .pointer (some ⟨bx, 0, none⟩)] w fun e w' => e = .returned (.bool (clmB c.cl m true pe n)) ∧ Keeps [] w w' := by
  obtain ⟨x0, x1, x2, x3, x4, ⟨x5, x6, x7⟩, ⟨x8, x9, x10⟩⟩ := x
  have hcl := h.cl
  simp only [slv] at hcl hb
  obtain ⟨_, _, e2, hlc, hcc⟩ := hcl.form
  simp only [Value.slice.injEq] at e2
  obtain ⟨-, e2, -⟩ := e2
  rw [← e2] at hlc
  have hx9m : x9 ≤ 9223372036854775807 := by unfold maxLen at hcc; omega
  obtain ⟨r, hr⟩ : ∃ r, clmB c.cl m true pe n = r := ⟨_, rfl⟩
  rw [hr]
  unfold clmB at hr
  obtain ⟨P, hP⟩ : ∃ P, c.cl = P := ⟨_, rfl⟩
  rw [hP] at hr hcl e2
  replace hcl := Lib.hid hcl
  replace hr := Lib.hid hr
  replace e2 := Lib.hid e2
  clear h hP
  obtain ⟨i0, i1, i2, i3, i4, i5, i6, if', il⟩ := cl7 hb
  go_enter Try.func10, Try.ntmps10
  go_wp2
  go_loopw [18] (fun i wr => ∃ k : Nat, i = .int .i64 k ∧ k ≤ x9 ∧ Hid (∀ j (hj : j < P.length), j < k → hitP m true pe n P[j] = false) ∧ Hid (Keeps [] w wr)) (fun i _ => x9 - (intOf i).toNat)
  case atStart => exact ⟨0, rfl, by omega, Lib.hid (fun _ _ h => by omega), Lib.hid (Keeps.refl _ _)⟩
  case round =>
    clear i0 i1 i2 i3 i4 i5 i6 if' il
    obtain ⟨k, rfl, hk, hno, hkw⟩ := hrel
    by_cases hlt : k < x9
    · have hlt2 : (k : Int) < x9 := by omega
      have hkl : k < P.length := by rw [← e2.out]; exact hlt
      obtain ⟨g, o, c', x, hv, hx, g0, g1, g2, g3, g4⟩ := (hcl.out.keeps hkw.out).elem hkl
      rw [← e2.out] at hv
      cases hv
      obtain ⟨p, hp⟩ : ∃ p, P[k] = p := ⟨_, rfl⟩
      rw [hp] at hx
      have hlist := hx.sc
      obtain ⟨_, _, ev, hl1, hl2, _⟩ := hx.sc.form
      obtain ⟨y0, y1, ⟨y2, y3, y4⟩, ⟨y5, y6, y7⟩, ⟨y8, y9, y10⟩⟩ := x
      have hm := hx.m
      simp only [slv] at ev hlist g0 g1 g2 g3 g4
      simp only at hm
      simp only [Value.slice.injEq] at ev
      obtain ⟨-, ev, -⟩ := ev
      have hn3m : y6 ≤ 9223372036854775807 := by unfold maxLen at hl2; omega
      have hAr := heap_alloc_new wr (.cells #[.int .i64 y0, .int .i64 y1, .slice y2 y3 y4, .slice y5 y6 y7, .slice y8 y9 y10] tC)
      have hkn := (Keeps.refl [] wr).alloc (.cells #[.int .i64 y0, .int .i64 y1, .slice y2 y3 y4, .slice y5 y6 y7, .slice y8 y9 y10] tC)
      have hkr := Lib.hid (hkw.out.trans hkn)
      have hins := Lib.hid (hlist.keeps hkn)
      replace ev := Lib.hid ev
      replace hp := Lib.hid hp
      replace hm := Lib.hid hm
      replace hAr := Lib.hid hAr
      clear hx hl1 hl2 hkn hlist
      go_upto_region 4 with fail
      generalize (wr.alloc (.cells #[.int .i64 y0, .int .i64 y1, .slice y2 y3 y4, .slice y5 y6 y7, .slice y8 y9 y10] tC)) = WA at *
      obtain ⟨XA, hXA⟩ : ∃ X, wr.heap.size = X := ⟨_, rfl⟩
      rw [hXA] at hAr ⊢
      replace hXA := Lib.hid hXA
      clear g0 g1 g2 g3 g4
      obtain ⟨g0, g1, g2, g3, g4, gf, gl⟩ := cl5 hAr.out
      go_wp2
      generalize WA = W4 at *
      go_loopw [29] (fun i wr => ∃ q : Nat, i = .int .i64 q ∧ q ≤ y6 ∧ Hid (p.m = m → ∀ j (hj : j < p.sc.length), j < q → hitN pe n p.sc[j] = false) ∧ Hid (Keeps [] W4 wr)) (fun i _ => y6 - (intOf i).toNat)
      case atStart => exact ⟨0, rfl, by omega, Lib.hid (fun _ _ _ h => by omega), Lib.hid (Keeps.refl _ _)⟩
      case round =>
        clear g0 g1 g2 g3 g4 gf gl
        obtain ⟨q, rfl, hq, hnq, hkq⟩ := hrel
        by_cases hltq : q < y6
        · have hlt2q : (q : Int) < y6 := by omega
          have hql : q < p.sc.length := by rw [← ev.out]; exact hltq
          obtain ⟨gi, oi, ci, hvi, hei⟩ := (hins.out.keeps hkq.out).elem hql
          rw [← ev.out] at hvi
          cases hvi
          obtain ⟨⟨z0, z1, z2⟩, hz⟩ : ∃ z, p.sc[q] = z := ⟨_, rfl⟩
          rw [hz] at hei
          have t0 := hei 0 _ rfl
          have t1 := hei 1 _ rfl
          have t2 := hei 2 _ rfl
          simp only [shT, Nat.add_zero] at t0 t1 t2
          have hA5 := (hkq.out.block _ (lt_of_blk hAr.out) (by simp)).trans hAr.out
          obtain ⟨g0, g1, g2, g3, g4, gf, gl⟩ := cl5 hA5
          have hXl := gl
          have hnext : (y0 = m → ¬ (z0 = pe ∧ z1 = n)) → (p.m = m → ∀ j (hj : j < p.sc.length), j < q + 1 → hitN pe n p.sc[j] = false) := fun hh hm2 j hj hjq => by
            by_cases e : j = q
            · subst e
              rw [hz]
              have := hh (by rw [hm.out]; exact hm2)
              unfold hitN
              simp only [Bool.and_eq_false_iff, decide_eq_false_iff_not]
              by_cases e : z0 = pe
              · exact .inr (fun e2 => this ⟨e, e2⟩)
              · exact .inl e
            · exact hnq.out hm2 j hj (by omega)
          have hkqI := Lib.hid (hkq.out.trans ((Keeps.refl [] wr).alloc (.cells #[.int .i64 z0, .int .u64 z1, .int .i64 z2] tN)))
          have hfq := Lib.hid (hkr.out.trans hkqI.out)
          replace hz := Lib.hid hz
          replace hnext := Lib.hid hnext
          clear hei hA5
          by_cases a1 : y0 = m
          · have b1 : (y0 == m) = true := by simpa using a1
            by_cases a2 : z0 = pe
            · have b2 : (z0 == pe) = true := by simpa using a2
              replace a2 := Lib.hid a2
              by_cases a3 : z1 = n
              · have b3 : ((z1 : Int) == n) = true := by simp [a3]
                replace a3 := Lib.hid a3
                have hd : true = r := by
                  rw [← hr.out]
                  refine (any_yes hkl ?_).symm
                  rw [hp.out]
                  unfold hitP
                  rw [← hm.out, a1]
                  simp only [decide_true, Bool.true_and]
                  exact any_yes hql (by rw [show (bif true then p.sc else p.st)[q] = _ from hz.out]; unfold hitN; simp [a2.out, a3.out])
                replace hd := Lib.hid hd
                go_wp2
                go_ret
                exact ⟨by rw [← hd.out]; rfl, hfq.out⟩
              · have b3 : ((z1 : Int) == n) = false := by simp; omega
                have hn2 := Lib.hid (hnext.out (fun _ h => a3 h.2))
                go_wp2
                go_roundw
                case rel => exact ⟨q + 1, rfl, by omega, hn2, hkqI⟩
                case measure => simp [intOf]; omega
            · have b2 : (z0 == pe) = false := by simpa using a2
              have hn2 := Lib.hid (hnext.out (fun _ h => a2 h.1))
              go_wp2
              go_roundw
              case rel => exact ⟨q + 1, rfl, by omega, hn2, hkqI⟩
              case measure => simp [intOf]; omega
          · have b1 : (y0 == m) = false := by simpa using a1
            have hn2 := Lib.hid (hnext.out (fun h => absurd h a1))
            go_wp2
            go_roundw
            case rel => exact ⟨q + 1, rfl, by omega, hn2, hkqI⟩
            case measure => simp [intOf]; omega
        · have hlt2q : ¬ ((q : Int) < y6) := by omega
          have hn4 : Hid (∀ j (hj : j < P.length), j < k + 1 → hitP m true pe n P[j] = false) := Lib.hid (fun j hj hjk => by
            by_cases e : j = k
            · subst e
              rw [hp.out]
              unfold hitP
              by_cases e3 : p.m = m
              · rw [Bool.and_eq_false_iff]
                right
                exact any_no (fun j hj => hnq.out e3 j hj (by have := ev.out; have hj2 : j < p.sc.length := hj; omega))
              · rw [Bool.and_eq_false_iff]
                left
                simpa using e3
            · exact hno.out j hj (by omega))
          have hkz := Lib.hid (hkr.out.trans hkq.out)
          go_wp2
          go_roundw
          case rel => exact ⟨k + 1, rfl, by omega, hn4, hkz⟩
          case measure => simp [intOf]; omega
    · have hlt2 : ¬ ((k : Int) < x9) := by omega
      have hd : false = r := by rw [← hr.out]; exact (any_no (fun j hj => hno.out j hj (by have := e2.out; omega))).symm
      replace hd := Lib.hid hd
      go_wp2
      go_ret
      exact ⟨by rw [← hd.out]; rfl, hkw.out⟩
end Go.Proofs.Ytiplgpefapeapaa

namespace Go.Proofs.Ytiplgpefapeapaa
open Go.RowKit

theorem chk_ok {c : Ct} : chk c = 0 ↔ wf c = true ∧ goodB c = true := by
  unfold chk
  cases wf c <;> cases goodB c <;> simp
structure GoodC (c : Ct) : Prop where
  srt : SrtA c.an
  ok : ∀ a ∈ c.an, ansOk a = true
  start : ∃ a ∈ c.an, a.q = kq c
  ep : epB c.an = true
  an : ∀ a ∈ c.an, a.kn = true ∧ a.rt = false ∧ ∀ x ∈ a.ins, insB c.an a.m x = true
  cl : c.cl = clY c.an
theorem good_of {c : Ct} (h : chk c = 0) : GoodC c := by
  obtain ⟨h1, h2⟩ := chk_ok.1 h
  unfold wf at h1
  unfold goodB at h2
  simp only [Bool.and_eq_true, decide_eq_true_eq, List.all_eq_true] at h1 h2
  obtain ⟨⟨⟨⟨⟨_, _⟩, _⟩, h3⟩, _⟩, h4⟩ := h1
  obtain ⟨⟨⟨g1, g2⟩, g3⟩, g4⟩ := h2
  refine ⟨incA_srt h3, h4, hasA_iff.1 g1, g2, fun a ha => ?_, g4⟩
  have := g3 a ha
  unfold ansB at this
  simp only [Bool.and_eq_true, Bool.not_eq_true', List.all_eq_true] at this
  exact ⟨this.1.1, this.1.2, this.2⟩
theorem clm_of {Y : List Ans} (hs : SrtA Y) {m : Int} (hm : ∃ a ∈ Y, a.m = m) : ∃ p ∈ clY Y, p.m = m ∧ ClmAt (trOf Y) Y p m := by
  obtain ⟨k, hk, e⟩ := List.getElem_of_mem (((ms_srt hs).2 m).2 hm)
  have hk2 : k < (clY Y).length := by rw [clY_len hs]; exact hk
  have h := clY_at hs k hk2 hk
  rw [e] at h
  exact ⟨(clY Y)[k], List.getElem_mem hk2, h.m, h⟩
theorem insB_iff {Y : List Ans} {m : Int} {x : T3} : insB Y m x = true ↔ MapS.get (m, x.1, x.2.1) (outsOf Y) = some x.2.2 ∧ ∃ b ∈ Y, b.q = (x.1, m, x.2.1) := by
  unfold insB
  rw [Bool.and_eq_true, decide_eq_true_iff, hasA_iff]
/-- Closed. -/
theorem good_closed {c : Ct} (h : GoodC c) {a : Ans} (ha : a ∈ c.an) {x : T3} (hx : x ∈ a.ins) :
    (∃ b ∈ c.an, b.m = x.1 ∧ b.ow = a.m ∧ b.n = x.2.1 ∧ b.kn = true ∧ b.rt = false) ∧ (∃ p ∈ c.cl, p.m = a.m ∧ ∃ n ∈ p.sc, n.1 = x.1 ∧ n.2.1 = x.2.1) ∧ ∃ p ∈ c.cl, p.m = x.1 ∧ ∃ n ∈ p.st, n.1 = a.m ∧ n.2.1 = x.2.1 := by
  obtain ⟨g1, b, hb, hq⟩ := insB_iff.1 ((h.an a ha).2.2 x hx)
  have hq' : b.m = x.1 ∧ b.ow = a.m ∧ b.n = x.2.1 := by unfold Ans.q at hq; simpa using hq
  obtain ⟨q1, q2, q3⟩ := hq'
  refine ⟨⟨b, hb, q1, q2, q3, (h.an b hb).1, (h.an b hb).2.1⟩, ?_, ?_⟩
  · obtain ⟨p, hp, hm, hc⟩ := clm_of h.srt ⟨a, ha, rfl⟩
    refine ⟨p, by rw [h.cl]; exact hp, hm, scN (trOf c.an) a.m x, ?_, rfl, rfl⟩
    exact (hc.at' 1 (by omega)).1.mem_iff.2 ((scOf_mem _ _ _ _).2 ⟨a, ha, rfl, x, hx, rfl⟩)
  · obtain ⟨p, hp, hm, hc⟩ := clm_of h.srt ⟨b, hb, q1⟩
    refine ⟨p, by rw [h.cl]; exact hp, hm, (a.m, x.2.1, x.2.2), ?_, rfl, rfl⟩
    exact (hc.at' 0 (by omega)).1.mem_iff.2 ((stOf_mem _ _ _ _).2 ⟨b, hb, q1, x.2.2, by rw [q2, q3]; exact g1, by rw [q2, q3]⟩)
/-! ### spoils -/
theorem good_no {c : Ct} (h : ¬ GoodC c) : chk c ≠ 0 := fun e => h (good_of e)
theorem spoil_rooted {c : Ct} {i : Nat} (hi : i < c.an.length) : chk { c with an := c.an.set i { c.an[i] with rt := true } } ≠ 0 := good_no fun h => by
  have := (h.an { c.an[i] with rt := true } (List.mem_set hi _)).2.1
  cases this
theorem spoil_unknown {c : Ct} {i : Nat} (hi : i < c.an.length) : chk { c with an := c.an.set i { c.an[i] with kn := false } } ≠ 0 := good_no fun h => by
  have := (h.an { c.an[i] with kn := false } (List.mem_set hi _)).1
  cases this
theorem spoil_claim {c : Ct} (h : GoodC c) {k : Nat} (hk : k < c.cl.length) : chk { c with cl := c.cl.eraseIdx k } ≠ 0 := good_no fun g => by
  have e1 : c.cl.eraseIdx k = clY c.an := g.cl
  have e2 := h.cl
  have := congrArg List.length e1
  rw [List.length_eraseIdx_of_lt hk, ← e2] at this
  omega
/-- The answer's own key among the stubs and checks of its machine. -/
theorem own_key {Y : List Ans} (hs : SrtA Y) {p : PCl} {m : Int} (hc : ClmAt (trOf Y) Y p m) (ow : Int) (n : Nat) : (∃ e ∈ p.st ++ p.ch, e.1 = ow ∧ e.2.1 = n) ↔ ∃ a ∈ Y, a.q = (m, ow, n) := by
  have h0 : ∀ e, e ∈ p.st ↔ e ∈ stOf (outsOf Y) Y m := fun e => (hc.at' 0 (by omega)).1.mem_iff
  have h2 : ∀ e, e ∈ p.ch ↔ e ∈ chOf (outsOf Y) Y m := fun e => (hc.at' 2 (by omega)).1.mem_iff
  constructor
  · rintro ⟨e, he, e1, e2⟩
    rcases List.mem_append.1 he with he | he
    · obtain ⟨a, ha, hm, o, _, rfl⟩ := (stOf_mem _ _ _ _).1 ((h0 e).1 he)
      exact ⟨a, ha, by unfold Ans.q; simp only at e1 e2; rw [hm, e1, e2]⟩
    · obtain ⟨a, ha, hm, _, rfl⟩ := (chOf_mem _ _ _ _).1 ((h2 e).1 he)
      exact ⟨a, ha, by unfold Ans.q; simp only at e1 e2; rw [hm, e1, e2]⟩
  · rintro ⟨a, ha, hq⟩
    unfold Ans.q at hq
    simp only [Prod.mk.injEq] at hq
    obtain ⟨q1, q2, q3⟩ := hq
    cases ho : MapS.get (a.ow, m, a.n) (outsOf Y) with
    | some o => exact ⟨_, List.mem_append_left _ ((h0 _).2 ((stOf_mem _ _ _ _).2 ⟨a, ha, q1, o, ho, rfl⟩)), q2, q3⟩
    | none => exact ⟨_, List.mem_append_right _ ((h2 _).2 ((chOf_mem _ _ _ _).2 ⟨a, ha, q1, ho, rfl⟩)), q2, q3⟩
theorem cl_uniq {Y : List Ans} (hs : SrtA Y) {p q : PCl} (hp : p ∈ clY Y) (hq : q ∈ clY Y) (h : p.m = q.m) : p = q := by
  obtain ⟨i, hi, rfl⟩ := List.getElem_of_mem hp
  obtain ⟨j, hj, rfl⟩ := List.getElem_of_mem hq
  have hi2 : i < (msOf Y).length := by rw [← clY_len hs]; exact hi
  have hj2 : j < (msOf Y).length := by rw [← clY_len hs]; exact hj
  rw [(clY_at hs i hi hi2).m, (clY_at hs j hj hj2).m] at h
  have hp := (ms_srt hs).1
  rcases Nat.lt_trichotomy i j with c | c | c
  · have := List.pairwise_iff_getElem.1 hp i j hi2 hj2 c; omega
  · subst c; rfl
  · have := List.pairwise_iff_getElem.1 hp j i hj2 hi2 c; omega
theorem cl_at {Y : List Ans} (hs : SrtA Y) {p : PCl} (hp : p ∈ clY Y) : ClmAt (trOf Y) Y p p.m := by
  obtain ⟨i, hi, rfl⟩ := List.getElem_of_mem hp
  have hi2 : i < (msOf Y).length := by rw [← clY_len hs]; exact hi
  have h := clY_at hs i hi hi2
  rw [h.m]
  exact h
theorem spoil_removed {c : Ct} (h : GoodC c) {i : Nat} (hi : i < c.an.length) : chk { c with an := c.an.eraseIdx i } ≠ 0 := good_no fun g => by
  have g1 : SrtA (c.an.eraseIdx i) := g.srt
  have g2 : c.cl = clY (c.an.eraseIdx i) := g.cl
  have ha := List.getElem_mem hi
  obtain ⟨p, hp, hm, hc⟩ := clm_of h.srt ⟨c.an[i], ha, rfl⟩
  have k1 := (own_key h.srt hc c.an[i].ow c.an[i].n).2 ⟨c.an[i], ha, rfl⟩
  have hp2 : p ∈ clY (c.an.eraseIdx i) := by rw [← g2, h.cl]; exact hp
  have hc2 := cl_at g1 hp2
  rw [hm] at hc2
  obtain ⟨b, hb, hq⟩ := (own_key g1 hc2 c.an[i].ow c.an[i].n).1 k1
  obtain ⟨j, hj, e⟩ := List.getElem_of_mem hb
  rw [List.getElem_eraseIdx] at e
  have hq' : b.q = c.an[i].q := hq
  split at e
  · rename_i hlt
    have := List.pairwise_iff_getElem.1 h.srt j i (by omega) hi hlt
    rw [e, hq'] at this
    exact qlt_irrefl _ this
  · rename_i hge
    have hj2 : j + 1 < c.an.length := by rw [List.length_eraseIdx_of_lt hi] at hj; omega
    have := List.pairwise_iff_getElem.1 h.srt i (j + 1) hi hj2 (by omega)
    rw [e, hq'] at this
    exact qlt_irrefl _ this
theorem spoil_epoch {c : Ct} (h : GoodC c) {i : Nat} (hi : i < c.an.length) {z : Int} (hz : z ≠ c.an[i].ep) : chk { c with an := c.an.set i { c.an[i] with ep := z } } ≠ 0 := good_no fun g => by
  have g1 : SrtA (c.an.set i { c.an[i] with ep := z }) := g.srt
  have g2 : c.cl = clY (c.an.set i { c.an[i] with ep := z }) := g.cl
  have g3 : epB (c.an.set i { c.an[i] with ep := z }) = true := g.ep
  have ha := List.getElem_mem hi
  obtain ⟨p, hp, hm, hc⟩ := clm_of h.srt ⟨c.an[i], ha, rfl⟩
  have hp2 : p ∈ clY (c.an.set i { c.an[i] with ep := z }) := by rw [← g2, h.cl]; exact hp
  have hc2 := cl_at g1 hp2
  rw [hm] at hc2
  have e1 := hc.ep
  have e2 := hc2.ep
  rw [epOf_eq h.ep ha] at e1
  have := epOf_eq g3 (a := { c.an[i] with ep := z }) (List.mem_set hi _)
  simp only at this
  rw [this] at e2
  exact hz (e2.symm.trans e1)
end Go.Proofs.Ytiplgpefapeapaa
