/- Texts that the laws lean on, in the order in which they build. Package certificate: Check. Package certificate: what Check says of a list that is too long. The law's few: the number of elements of all lists; where a list is very long, the sum may wrap. The law's example; awake. The specification's Find. The byte form of a trace (plain), and what appending leaves. Trace.pending. The specification's Agree and Refuse. Trace.Agree. The lists of the specification's Answer: an answer recorded, a question opened; answers and history. The history of a trace that gathers holds the recorded answers: kept by the operations. The law's operations: their cells, what they do (plain). What holds of a trace after n operations (plain). What Decode gives: plain. What holds of the trace that Decode plays again (plain). The memory of Decode: the reader, and the trace beside it. A region that draws its order, parted in two by which of two operations comes first; each part is a chain. Of whatever program. The specification's Claim. -/
import Derived.Test.YtiplgpefapeapaaGreatD8
set_option linter.unusedVariables false
set_option linter.unusedSimpArgs false
namespace Go.Proofs.YtiplgpefapeapaaGreat
open Go.RowKit

theorem chk_wf {c : Ct} (h : wf c = false) : chk c = 1 := by unfold chk; rw [h]; rfl
theorem chk_bad {c : Ct} (hw : wf c = true) (h : goodB c = false) : chk c = 15 := by unfold chk; rw [hw, h]; rfl
theorem chk_good {c : Ct} (hw : wf c = true) (h : goodB c = true) : chk c = 0 := by unfold chk; rw [hw, h]; rfl
theorem wf_srt {c : Ct} (h : wf c = true) : SrtA c.an := by
  unfold wf at h
  simp only [Bool.and_eq_true] at h
  exact incA_srt h.1.1.2
theorem bad_start {c : Ct} (h : hasA c.an (kq c) = false) : goodB c = false := by unfold goodB; rw [h]; rfl
theorem bad_an {c : Ct} {a : Ans} (ha : a ∈ c.an) (h : ansB c.an a = false) : goodB c = false := by
  unfold goodB
  rw [List.all_eq_false.2 ⟨a, ha, by rw [h]; decide⟩]
  simp
theorem bad_ep {c : Ct} {a b : Ans} (ha : a ∈ c.an) (hb : b ∈ c.an) (hm : a.m = b.m) (he : a.ep ≠ b.ep) : goodB c = false := by
  have : epB c.an = false := by
    cases h : epB c.an with
    | false => rfl
    | true => exact absurd (epB_iff.1 h a ha b hb hm) he
  unfold goodB
  rw [this]
  simp
theorem bad_cl {c : Ct} (h : c.cl ≠ clY c.an) : goodB c = false := by unfold goodB; rw [decide_eq_false h]; simp
theorem good_all {c : Ct} (h1 : hasA c.an (kq c) = true) (h2 : epB c.an = true) (h3 : ∀ a ∈ c.an, ansB c.an a = true) (h4 : c.cl = clY c.an) : goodB c = true := by
  unfold goodB
  rw [h1, h2, List.all_eq_true.2 h3, decide_eq_true h4]
  rfl
/-- The map of the epochs. -/
structure EpI (E : List (Int × Int)) (Z : List Ans) : Prop where
  a : ∀ a ∈ Z, MapS.get a.m E = some a.ep
  n : ∀ m, (∀ a ∈ Z, a.m ≠ m) → MapS.get m E = none
  len : E.length ≤ Z.length
theorem EpI.nil : EpI [] [] := ⟨by simp, fun _ _ => rfl, Nat.le_refl _⟩
theorem EpI.new {E : List (Int × Int)} {Z : List Ans} (h : EpI E Z) {a : Ans} (hg : MapS.get a.m E = none) : EpI (E ++ [(a.m, a.ep)]) (Z ++ [a]) := by
  refine ⟨fun b hb => ?_, fun m hm => ?_, by have := h.len; simp; omega⟩
  · rw [MapS.get_append]
    rcases List.mem_append.1 hb with hb | hb
    · rw [h.a b hb]; rfl
    · rw [List.mem_singleton.1 hb, hg]; simp [MapS.get]
  · rw [MapS.get_append, h.n m (fun b hb => hm b (by simp [hb]))]
    have : ¬ a.m = m := hm a (by simp)
    simp [MapS.get, this]
theorem EpI.old {E : List (Int × Int)} {Z : List Ans} (h : EpI E Z) {a : Ans} (hg : MapS.get a.m E = some a.ep) : EpI (MapS.set a.m a.ep E) (Z ++ [a]) := by
  refine ⟨fun b hb => ?_, fun m hm => ?_, by have := h.len; unfold MapS.set; simp; omega⟩
  · rw [MapS.get_set]
    by_cases e : b.m = a.m
    · rw [if_pos ⟨e, by rw [hg]; rfl⟩]
      rcases List.mem_append.1 hb with hb | hb
      · have := h.a b hb
        rw [e, hg] at this
        exact this
      · rw [List.mem_singleton.1 hb]
    · rw [if_neg (fun h => e h.1)]
      rcases List.mem_append.1 hb with hb | hb
      · exact h.a b hb
      · exact absurd (by rw [List.mem_singleton.1 hb]) e
  · rw [MapS.get_set, if_neg (fun e => hm a (by simp) e.1.symm)]
    exact h.n m (fun b hb => hm b (by simp [hb]))
theorem EpI.epB {E : List (Int × Int)} {Z : List Ans} (h : EpI E Z) : epB Z = true := epB_iff.2 (fun a ha b hb e => by
  have h1 := h.a a ha
  rw [e, h.a b hb] at h1
  exact (Option.some.inj h1).symm)
theorem EpI.val {E : List (Int × Int)} {Z : List Ans} (h : EpI E Z) {m v : Int} (hg : MapS.get m E = some v) : ∃ a ∈ Z, a.m = m ∧ a.ep = v := by
  by_cases hx : ∃ a ∈ Z, a.m = m
  · obtain ⟨a, ha, e⟩ := hx
    have := h.a a ha
    rw [e, hg] at this
    exact ⟨a, ha, e, (Option.some.inj this).symm⟩
  · rw [h.n m (fun a ha e => hx ⟨a, ha, e⟩)] at hg
    cases hg
theorem ansB_def (Y : List Ans) (a : Ans) : ansB Y a = (a.kn && !a.rt && a.ins.all (insB Y a.m)) := rfl
theorem insB_def (Y : List Ans) (m : Int) (x : T3) : insB Y m x = (decide (MapS.get (m, x.1, x.2.1) (outsOf Y) = some x.2.2) && hasA Y (x.1, m, x.2.1)) := rfl
theorem ans_of_get {R : List (Qn × AnV)} {Y : List Ans} (h : AnsM R Y) (hs : SrtA Y) (q : Qn) : ∃ yv : AnV, ((MapS.get q R).map aV).getD (aV .zero) = aV yv ∧ (MapS.get q R).isSome = hasA Y q := by
  refine (?_ : ∃ yv : AnV, _).elim fun yv e => ⟨yv, e, (h.get hs q).1⟩
  cases MapS.get q R with
  | none => exact ⟨_, rfl⟩
  | some y => exact ⟨y, rfl⟩
set_option maxRecDepth 100000 in
set_option maxHeartbeats 16000000 in
theorem check_c (w : World) (x : CtV) (c : Ct) (h : CtW w x c) (hfit : c.Fit) (hf : c.Few) :
    Calls Tryz.prog 21 #[ctV x] w fun e w' => e = .returned (.int .i64 (chk c)) ∧ Keeps [] w w' := by
  have hmm := @run_makeMap Tryz.prog
  have hcf := fun (W : World) (hk : Keeps [] w W) => formed_c W x c (h.keeps hk) hf
  have hca := fun (hs : SrtA c.an) (W : World) (hk : Keeps [] w W) => answersM_c W x c (h.keeps hk) hfit.an hf hs
  have hcd := fun (W : World) (hk : Keeps [] w W) => found_c W x c (h.keeps hk) hfit.an hf
  have hcm := fun (hs : SrtA c.an) (W : World) (hk : Keeps [] w W) => claimsM_c W x c (h.keeps hk) hfit.an hf hs
  have hce := fun (W : World) (hk : Keeps [] w W) (v : Value) (hv : LC W v (clY c.an)) => eqClaims_c W _ v _ _ (h.cl.keeps hk) hv
  have han := h.an
  have hkq : (x.im, x.s0, x.s1) = kq c := by unfold kq; rw [h.im, h.s0, h.s1]
  have hqk : qOk (x.im, x.s0, x.s1) := ⟨by rw [h.im]; exact hfit.im, by rw [h.s0]; exact hfit.st.1, by rw [h.s1]; exact hfit.st.2.1⟩
  obtain ⟨x0, x1, x2, x3, x4, ⟨x5, x6, x7⟩, ⟨x8, x9, x10⟩⟩ := x
  simp only [slv] at han
  simp only [ctV, slv] at hcf hca hcd hcm hce
  simp only at hkq hqk
  obtain ⟨_, _, e1, hla, hcap⟩ := han.form
  simp only [Value.slice.injEq] at e1
  obtain ⟨-, e1, -⟩ := e1
  rw [← e1] at hla
  have hx6m : x6 ≤ 9223372036854775807 := by unfold maxLen at hcap; omega
  have hA := heap_alloc_new w (.cells #[.int .i64 x0, .int .i64 x1, .int .i64 x2, .int .u64 x3, .int .i64 x4, .slice x5 x6 x7, .slice x8 x9 x10] tCt)
  have hkA := (Keeps.refl [] w).alloc (.cells #[.int .i64 x0, .int .i64 x1, .int .i64 x2, .int .u64 x3, .int .i64 x4, .slice x5 x6 x7, .slice x8 x9 x10] tCt)
  obtain ⟨W, hW⟩ : ∃ W, w.alloc (.cells #[.int .i64 x0, .int .i64 x1, .int .i64 x2, .int .u64 x3, .int .i64 x4, .slice x5 x6 x7, .slice x8 x9 x10] tCt) = W := ⟨_, rfl⟩
  obtain ⟨B, hB⟩ : ∃ B, w.heap.size = B := ⟨_, rfl⟩
  rw [hW] at hA hkA
  rw [hB] at hA
  obtain ⟨Y, hY⟩ : ∃ Y, c.an = Y := ⟨_, rfl⟩
  have hfY : Y.length = x6 := by rw [← hY]; exact e1.symm
  have hfn : x6 ≤ 1000 := by have := hf.an; omega
  obtain ⟨r, hr⟩ : ∃ r, chk c = r := ⟨_, rfl⟩
  rw [hr]
  rw [hY] at han
  have hfa : ∀ a ∈ Y, a.Fit := by rw [← hY]; exact hfit.an
  replace han := Lib.hid han
  replace hkA := Lib.hid hkA
  replace hW := Lib.hid hW
  replace hB := Lib.hid hB
  replace hA := Lib.hid hA
  replace hcf := Lib.hid hcf
  replace hca := Lib.hid hca
  replace hcd := Lib.hid hcd
  replace hcm := Lib.hid hcm
  replace hce := Lib.hid hce
  replace hfY := Lib.hid hfY
  replace hY := Lib.hid hY
  replace hr := Lib.hid hr
  replace hkq := Lib.hid hkq
  replace hqk := Lib.hid hqk
  replace hfa := Lib.hid hfa
  clear h hf e1 hfit
  simp only [ctV, slv]
  go_enter Tryz.func21, Tryz.ntmps21
  go_upto_region 1 with fail
  rw [hW.out, hB.out]
  obtain ⟨i0, i1, i2, i3, i4, i5, i6, if', il⟩ := cl7 hA.out
  go_wp2_with fail
  refine (hcf.out _ hkA.out).mono ?_
  rintro e w1 ⟨rfl, hk1⟩
  have hk01 := hkA.out.trans hk1
  have hA1 := (hk1.block _ (lt_of_blk hA.out) (by simp)).trans hA.out
  replace hk01 := Lib.hid hk01
  replace hA1 := Lib.hid hA1
  clear hk1 i0 i1 i2 i3 i4 i5 i6 if' il hcf
  obtain ⟨i0, i1, i2, i3, i4, i5, i6, if', il⟩ := cl7 hA1.out
  obtain ⟨wb, hwb⟩ : ∃ b, wf c = b := ⟨_, rfl⟩
  rw [hwb]
  cases wb with
  | false =>
    have hd : (1 : Int) = r := by rw [← hr.out, chk_wf hwb]
    replace hd := Lib.hid hd
    replace hwb := Lib.hid hwb
    go_wp2
    go_ret
    exact ⟨by rw [← hd.out]; rfl, hk01.out⟩
  | true =>
  have hs : SrtA c.an := wf_srt hwb
  have hbad : goodB c = false → (15 : Int) = r := fun hg => by rw [← hr.out, chk_bad hwb hg]
  have hgood : goodB c = true → (0 : Int) = r := fun hg => by rw [← hr.out, chk_good hwb hg]
  have hcaA := hca.out hs
  have hcmA := hcm.out hs
  rw [hY.out] at hs hcaA hcmA
  replace hs := Lib.hid hs
  replace hbad := Lib.hid hbad
  replace hgood := Lib.hid hgood
  replace hwb := Lib.hid hwb
  replace hcaA := Lib.hid hcaA
  replace hcmA := Lib.hid hcmA
  clear hca hcm hr
  go_wp2_with fail
  refine (hcaA.out _ hk01.out).mono ?_
  rintro e w2 ⟨bS, R, rfl, hMS, hR, hbS, hk2⟩
  have hk02 := hk01.out.trans hk2
  have hA2 := (hk2.block _ (lt_of_blk hA1.out) (by simp)).trans hA1.out
  clear i0 i1 i2 i3 i4 i5 i6 if' il hcaA hk2
  obtain ⟨i0, i1, i2, i3, i4, i5, i6, if', il⟩ := cl7 hA2
  have hlk := MapS.M.look_ok ktS Tryz.underlying112 (aV .zero) zeroA hMS hqk.out
  obtain ⟨⟨v0, v1, v2, v3, v4, v5, v6, v7, v8, v9⟩, hyv, hys⟩ := ans_of_get hR hs.out (x0, x2, x3)
  obtain ⟨ob, hob0⟩ : ∃ b, hasA Y (x0, x2, x3) = b := ⟨_, rfl⟩
  rw [hyv, hys, hob0] at hlk
  have hob : hasA Y (kq c) = ob := by rw [← hkq.out]; exact hob0
  simp only [ktS, qV, aV, AnV.v] at hlk
  have hkB := (Keeps.refl [] w2).alloc (.cells #[.int .i64 v0, .int .i64 v1, .int .u64 v2, .int .i64 v3, .bool v4, .bool v5, .int .i64 v6, .slice v7 v8 v9] tA)
  have hk03 := hk02.trans hkB
  have hA3 := (hkB.block _ (lt_of_blk hA2) (by simp)).trans hA2
  have hMS3 := hMS.keeps ktS hkB
  replace hMS := Lib.hid hMS3
  replace hR := Lib.hid hR
  replace hk03 := Lib.hid hk03
  replace hA3 := Lib.hid hA3
  replace hob := Lib.hid hob
  clear hyv hys hkB hk02 hA2 hMS3 hob0
  cases ob with
  | false =>
    have hd : (15 : Int) = r := hbad.out (bad_start (by rw [hY.out]; exact hob.out))
    replace hd := Lib.hid hd
    go_wp2
    go_ret
    exact ⟨by rw [← hd.out]; rfl, hk03.out⟩
  | true =>
  go_upto_region 7 with fail
  generalize (w2.alloc (.cells #[.int .i64 v0, .int .i64 v1, .int .u64 v2, .int .i64 v3, .bool v4, .bool v5, .int .i64 v6, .slice v7 v8 v9] tA)) = w3 at *
  clear hlk i0 i1 i2 i3 i4 i5 i6 if' il
  have hM := MapS.M.made ktZ (vf := zV) w3
  have hkM : Keeps [] w3 (w3.alloc (.map #[] 0)) := (Keeps.refl _ _).alloc _
  have hw3 : w.heap.size ≤ w3.heap.size := hk03.out.size
  have hk04 := hk03.out.trans hkM
  have hA4 := (hkM.block _ (lt_of_blk hA3.out) (by simp)).trans hA3.out
  have hMS4 := hMS.out.keeps ktS hkM
  have hZ4 : (w3.alloc (.map #[] 0)).heap.size = w3.heap.size + 1 := by simp
  replace hM := Lib.hid hM
  replace hk04 := Lib.hid hk04
  replace hMS4 := Lib.hid hMS4
  replace hA4 := Lib.hid hA4
  have hbSl := MapS.M.lt ktS hMS.out
  clear hkM hk03 hA3 hMS
  obtain ⟨i0, i1, i2, i3, i4, i5, i6, if', il⟩ := cl7 hA4.out
  go_wp2_with fail
  refine (hcd.out _ hk04.out).mono ?_
  rintro e w5 ⟨bF, rfl, hMF, hbF, hk5⟩
  obtain ⟨bE, hbE⟩ : ∃ b, w3.heap.size = b := ⟨_, rfl⟩
  rw [hbE] at hM hZ4 hbSl ⊢
  have hMf := hM.out.keeps ktZ hk5
  have hMSf := hMS4.out.keeps ktS hk5
  have hk05 := hk04.out.trans hk5
  have hA5 := (hk5.block _ (lt_of_blk hA4.out) (by simp)).trans hA4.out
  have hBw : B < w3.heap.size ∨ True := .inr trivial
  have hBE : B ≠ bE := fun e => by
    have := hMf.noCells ktZ 0
    rw [← e] at this
    simp [World.cell?, hA5] at this
  have hwE : w.heap.size ≤ bE := by omega
  obtain ⟨O, hO⟩ : ∃ O, outsOf c.an = O := ⟨_, rfl⟩
  rw [hO] at hMF
  rw [hY.out] at hO
  replace hMF := Lib.hid hMF
  replace hMSf := Lib.hid hMSf
  replace hMf := Lib.hid hMf
  replace hk05 := Lib.hid hk05
  replace hA5 := Lib.hid hA5
  replace hO := Lib.hid hO
  replace hbE := Lib.hid hbE
  clear hM hMS4 hk04 hA4 hk5 hBw hcd hmm i0 i1 i2 i3 i4 i5 i6 if' il
  obtain ⟨i0, i1, i2, i3, i4, i5, i6, if', il⟩ := cl7 hA5.out
  go_wp2
  go_loopw [44] (fun i wr => ∃ (k : Nat) (E : List (Int × Int)), i = .int .i64 k ∧ k ≤ x6 ∧ Hid (MapS.M ktZ zV wr bE E) ∧ Hid (EpI E (Y.take k)) ∧ Hid (∀ j (hj : j < Y.length), j < k → ansB Y Y[j] = true) ∧ Hid (Keeps [bE] w5 wr)) (fun i _ => x6 - (intOf i).toNat)
  case atStart => exact ⟨0, [], rfl, by omega, hMf, Lib.hid EpI.nil, Lib.hid (fun _ _ h => by omega), Lib.hid (Keeps.refl _ _)⟩
  case round =>
    clear hMf i0 i1 i2 i3 i4 i5 i6 if' il
    obtain ⟨k, E, rfl, hk, hMr, hEp, hno, hkr⟩ := hrel
    have hkwr : Keeps [] w wr := hk05.out.fresh hkr.out (fun b hb => by simp at hb; subst hb; exact .inr hwE)
    by_cases hlt : k < x6
    · have hlt2 : (k : Int) < x6 := by omega
      have hkY : k < Y.length := by rw [hfY.out]; exact hlt
      obtain ⟨g, o, c', y, hv, hy, he⟩ := (han.out.keeps hkwr).elem hkY
      rw [hfY.out] at hv
      cases hv
      have hao := hfa.out _ (List.getElem_mem hkY)
      have htk : Y.take (k + 1) = Y.take k ++ [Y[k]] := List.take_succ_eq_append_getElem hkY
      have hmemY := List.getElem_mem hkY
      obtain ⟨a, ha⟩ : ∃ a, Y[k] = a := ⟨_, rfl⟩
      rw [ha] at hy hao htk hmemY
      have hba : ansB Y a = false → (15 : Int) = r := fun h => hbad.out (bad_an (a := a) (by rw [hY.out]; exact hmemY) (by rw [hY.out]; exact h))
      have hbe : ∀ b ∈ Y.take k, b.m = a.m → b.ep ≠ a.ep → (15 : Int) = r := fun b hb e1 e2 => hbad.out (bad_ep (a := b) (b := a) (by rw [hY.out]; exact List.mem_of_mem_take hb) (by rw [hY.out]; exact hmemY) e1 e2)
      have hno2 : ansB Y a = true → ∀ j (hj : j < Y.length), j < k + 1 → ansB Y Y[j] = true := fun h j hj hjk => by
        by_cases e : j = k
        · subst e; rw [ha]; exact h
        · exact hno.out j hj (by omega)
      obtain ⟨ai, aic, ev, hl1, hl2, _⟩ := hy.ins.form
      have hins := hy.ins
      have q0 := hy.m
      have q1 := hy.ow
      have q2 := hy.n
      have q3 := hy.ep
      have q4 := hy.kn
      have q5 := hy.rt
      obtain ⟨y0, y1, y2, y3, y4, y5, y6, y7, y8, y9⟩ := y
      simp only [AnV.v] at ev hins
      simp only at q0 q1 q2 q3 q4 q5
      subst q0 q1 q2 q3
      simp only [Value.slice.injEq] at ev
      obtain ⟨-, ev, -⟩ := ev
      have hy8m : y8 ≤ 9223372036854775807 := by unfold maxLen at hl2; omega
      have hok : ansB Y a = (y4 && !y5 && a.ins.all (insB Y a.m)) := by rw [ansB_def, q4, q5]
      rw [hok] at hba hno2
      have g0 := he 0 _ rfl
      have g1 := he 1 _ rfl
      have g2 := he 2 _ rfl
      have g3 := he 3 _ rfl
      have g4 := he 4 _ rfl
      have g5 := he 5 _ rfl
      have g6 := he 6 _ rfl
      have g7 := he 7 _ rfl
      simp only [AnV.v, Nat.add_zero] at g0 g1 g2 g3 g4 g5 g6 g7
      have hbA := heap_alloc_new wr (.cells #[.int .i64 a.m, .int .i64 a.ow, .int .u64 a.n, .int .i64 a.ep, .bool y4, .bool y5, .int .i64 y6, .slice y7 y8 y9] tA)
      have hkn := (Keeps.refl [] wr).alloc (.cells #[.int .i64 a.m, .int .i64 a.ow, .int .u64 a.n, .int .i64 a.ep, .bool y4, .bool y5, .int .i64 y6, .slice y7 y8 y9] tA)
      have hkc := hkr.out.trans hkn.of_nil
      have hMA := hMr.out.keeps ktZ hkn
      have hinsn := hins.keeps hkn
      have hwm : W64 a.m := hao.q.1
      have hbEr : bE < wr.heap.size := MapS.M.lt ktZ hMr.out
      have hlz := MapS.M.look_ok ktZ Tryz.underlying116 (zV 0) zeroZ hMA hwm
      obtain ⟨ge, hge⟩ : ∃ g, MapS.get a.m E = g := ⟨_, rfl⟩
      rw [hge] at hlz
      have hfin := hkwr.trans hkn
      replace hfin := Lib.hid hfin
      replace hba := Lib.hid hba
      replace hbe := Lib.hid hbe
      replace hno2 := Lib.hid hno2
      replace hbA := Lib.hid hbA
      replace hkc := Lib.hid hkc
      replace hMA := Lib.hid hMA
      replace hinsn := Lib.hid hinsn
      replace ha := Lib.hid ha
      replace htk := Lib.hid htk
      replace ev := Lib.hid ev
      replace hao := Lib.hid hao
      replace hmemY := Lib.hid hmemY
      clear he hy hkn hins hl1 hl2 hkr hMr hok q4 q5 hkwr
      obtain ⟨gv, gs, hgv, hgs, hgn, hgsm⟩ : ∃ (gv : Int) (gs : Bool), (ge.map zV).getD (zV 0) = zV gv ∧ ge.isSome = gs ∧ (gs = false → ge = none) ∧ (gs = true → ge = some gv) := by
        cases ge with
        | none => exact ⟨0, false, rfl, rfl, fun _ => rfl, nofun⟩
        | some u => exact ⟨u, true, rfl, rfl, nofun, fun _ => rfl⟩
      rw [hgv, hgs] at hlz
      simp only [ktZ, zV] at hlz
      replace hge := Lib.hid hge
      replace hgn := Lib.hid hgn
      replace hgsm := Lib.hid hgsm
      clear hgv hgs
      go_upto_region 11 with fail
      generalize (wr.alloc (.cells #[.int .i64 a.m, .int .i64 a.ow, .int .u64 a.n, .int .i64 a.ep, .bool y4, .bool y5, .int .i64 y6, .slice y7 y8 y9] tA)) = wc at *
      obtain ⟨XA, hXA⟩ : ∃ X, wr.heap.size = X := ⟨_, rfl⟩
      rw [hXA] at hbA hbEr ⊢
      replace hXA := Lib.hid hXA
      clear g0 g1 g2 g3 g4 g5 g6 g7
      obtain ⟨s0, s1, s2, s3, s4, s5, s6, s7, sf, sl⟩ := cl8 hbA.out
      cases y4 with
      | false =>
        have hd := Lib.hid (hba.out (by simp))
        go_wp2
        go_ret
        exact ⟨by rw [← hd.out]; rfl, hfin.out⟩
      | true =>
      cases y5 with
      | true =>
        have hd := Lib.hid (hba.out (by simp))
        go_wp2
        go_ret
        exact ⟨by rw [← hd.out]; rfl, hfin.out⟩
      | false =>
      have hallY : a.ins.all (insB Y a.m) = false → (15 : Int) = r := fun h => hba.out (by rw [h]; rfl)
      have hallY2 : a.ins.all (insB Y a.m) = true → ∀ j (hj : j < Y.length), j < k + 1 → ansB Y Y[j] = true := fun h => hno2.out (by rw [h]; rfl)
      replace hallY := Lib.hid hallY
      replace hallY2 := Lib.hid hallY2
      clear hba hno2
      cases gs with
      | true =>
        have hgE := hgsm.out rfl
        by_cases hep : gv = a.ep
        · have hne : (gv != a.ep) = false := by simpa using hep
          have hgE2 : MapS.get a.m E = some a.ep := by rw [hge.out, hgE, hep]
          obtain ⟨wk, hrun, hMk, hkk⟩ := MapS.M.putOld ktZ Tryz.underlying116 hMA.out hwm (by rw [hgE2]; rfl) (by have h1 := hEp.out.len; rw [List.length_take] at h1; unfold maxLen; omega) a.ep
          have hEn : EpI (MapS.set a.m a.ep E) (Y.take (k + 1)) := by rw [htk.out]; exact hEp.out.old hgE2
          simp only [ktZ, zV] at hrun
          replace hep := Lib.hid hep
          replace hgE := Lib.hid hgE
          replace hgE2 := Lib.hid hgE2
          have hbAk := (hkk.block _ sl (by simp; omega)).trans hbA.out
          have hkck := hkc.out.trans hkk
          have hkwk := hfin.out.fresh hkk (fun b hb => by simp at hb; subst hb; exact .inr hwE)
          have hinsk := hinsn.out.keepE hkk (fun b hb hne e => by
            simp at hb
            subst hb
            obtain ⟨es, ec, hmap⟩ := hMA.out.isMap
            obtain ⟨gg, oo, cc, hvv, hee⟩ := hinsn.out.elem (k := 0) (by cases hq : a.ins with | nil => exact absurd hq hne | cons _ _ => simp)
            rw [hvv] at e
            simp [Value.ownBlock] at e
            subst e
            have := hee 0 _ rfl
            simp [World.cell?, hmap] at this)
          replace hMk := Lib.hid hMk
          replace hEn := Lib.hid hEn
          replace hbAk := Lib.hid hbAk
          replace hkck := Lib.hid hkck
          replace hkwk := Lib.hid hkwk
          replace hinsk := Lib.hid hinsk
          clear hMA hbA hkc hkk hinsn hfin
          go_upto_region 15 with fail
          clear s0 s1 s2 s3 s4 s5 s6 s7 sf sl hrun hlz
          obtain ⟨s0, s1, s2, s3, s4, s5, s6, s7, sf, sl⟩ := cl8 hbAk.out
          go_wp2
          go_loopw [79] (fun i wi => ∃ q : Nat, i = .int .i64 q ∧ q ≤ y8 ∧ Hid (∀ j (hj : j < a.ins.length), j < q → insB Y a.m a.ins[j] = true) ∧ Hid (Keeps [] wk wi)) (fun i _ => y8 - (intOf i).toNat)
          case atStart => exact ⟨0, rfl, by omega, Lib.hid (fun _ _ h => by omega), Lib.hid (Keeps.refl _ _)⟩
          case round =>
            clear s0 s1 s2 s3 s4 s5 s6 s7 sf sl
            obtain ⟨q, rfl, hq, hnq, hkq⟩ := hrel
            have hfq := hkwk.out.trans hkq.out
            by_cases hltq : q < y8
            · have hltq2 : (q : Int) < y8 := by omega
              have hqa : q < a.ins.length := by rw [← ev.out]; exact hltq
              have hxo := hao.out.ins _ (List.getElem_mem hqa)
              obtain ⟨gi, oi, ci, hvi, hei⟩ := (hinsk.out.keeps hkq.out).elem hqa
              rw [← ev.out] at hvi
              cases hvi
              have hok := insB_def Y a.m a.ins[q]
              have hmq := List.getElem_mem hqa
              have hnq2 : insB Y a.m a.ins[q] = true → ∀ j (hj : j < a.ins.length), j < q + 1 → insB Y a.m a.ins[j] = true := fun h j hj hjq => by
                by_cases e : j = q
                · subst e; exact h
                · exact hnq.out j hj (by omega)
              have hbq : insB Y a.m a.ins[q] = false → (15 : Int) = r := fun h => hallY.out (all_no hqa h)
              obtain ⟨⟨z0, z1, z2⟩, hz⟩ : ∃ z, a.ins[q] = z := ⟨_, rfl⟩
              rw [hz] at hei hxo hok hmq
              have t0 := hei 0 _ rfl
              have t1 := hei 1 _ rfl
              have t2 := hei 2 _ rfl
              simp only [shT, Nat.add_zero] at t0 t1 t2
              simp only at hok
              have hqF : qOk (a.m, z0, z1) := ⟨hao.out.q.1, hxo.1, hxo.2.1⟩
              have hqS : qOk (z0, a.m, z1) := ⟨hxo.1, hao.out.q.1, hxo.2.1⟩
              have hkI := (Keeps.refl [] wr).alloc (.cells #[.int .i64 z0, .int .u64 z1, .int .i64 z2] tI)
              have hkEI := (hkck.out.trans hkq.out.of_nil).trans hkI.of_nil
              have hMFi := hMF.out.kept ktK hkEI (by simp; omega)
              have hMSi := hMSf.out.kept ktS hkEI (by simp; omega)
              obtain ⟨u, hu⟩ : ∃ u, MapS.get (a.m, z0, z1) (outsOf Y) = some u := Option.isSome_iff_exists.1 ((outsOf_some Y (a.m, z0, z1)).2 ⟨a, hmemY.out, (z0, z1, z2), hmq, rfl⟩)
              have hlF : ∀ w' : World, w'.heap[bF]? = (wr.alloc (.cells #[.int .i64 z0, .int .u64 z1, .int .i64 z2] tI)).drew.heap[bF]? → (Instr.lookup 117 (.map (some bF)) (.agg #[.int .i64 a.m, .int .i64 z0, .int .u64 z1]) false).run Tryz.prog w' = .ok (.int .i64 u) w' := fun w' e => by
                have := MapS.M.look ktK Tryz.underlying117 (zV 0) zeroZ ((hMFi.keeps ktK ((Keeps.refl [] _).drew)).at' e) hqF
                rw [← hO.out, hu] at this
                simpa only [ktK, qV, zV, Option.map_some, Option.getD_some] using this
              rw [hu] at hok
              have hbFl : bF < (wr.alloc (.cells #[.int .i64 z0, .int .u64 z1, .int .i64 z2] tI)).drew.heap.size := MapS.M.lt ktK (hMFi.keeps ktK ((Keeps.refl [] _).drew))
              have hlS := MapS.M.look_ok ktS Tryz.underlying112 (aV .zero) zeroA (hMSi.keeps ktS ((Keeps.refl [] _).drew)) hqS
              obtain ⟨⟨u0, u1, u2, u3, u4, u5, u6, u7, u8, u9⟩, huv, hus⟩ := ans_of_get hR.out hs.out (z0, a.m, z1)
              obtain ⟨hb, hhb⟩ : ∃ b, hasA Y (z0, a.m, z1) = b := ⟨_, rfl⟩
              rw [huv, hus, hhb] at hlS
              rw [hhb] at hok
              simp only [ktS, qV, aV, AnV.v] at hlS
              rw [hz] at hbq hnq2
              rw [hok] at hbq hnq2
              have hkD : Keeps [] wr (wr.alloc (.cells #[.int .i64 z0, .int .u64 z1, .int .i64 z2] tI)).drew := hkI.drew
              have hbI := heap_alloc_new wr (.cells #[.int .i64 z0, .int .u64 z1, .int .i64 z2] tI)
              have hbId : (wr.alloc (.cells #[.int .i64 z0, .int .u64 z1, .int .i64 z2] tI)).drew.heap[wr.heap.size]? = _ := hbI
              have hbAd := (hkD.block _ (lt_of_blk ((hkq.out.block _ (lt_of_blk hbAk.out) (by simp)).trans hbAk.out)) (by simp)).trans ((hkq.out.block _ (lt_of_blk hbAk.out) (by simp)).trans hbAk.out)
              have hkqD := hkq.out.trans hkD
              replace hlF := Lib.hid hlF
              replace hbId := Lib.hid hbId
              replace hbAd := Lib.hid hbAd
              replace hkqD := Lib.hid hkqD
              replace hbq := Lib.hid hbq
              replace hnq2 := Lib.hid hnq2
              replace hu := Lib.hid hu
              replace hz := Lib.hid hz
              replace hhb := Lib.hid hhb
              replace hok := Lib.hid hok
              replace hfq := Lib.hid hfq
              clear hei hMFi hMSi hkEI hkI hqF hqS huv hus hmq hxo
              have hbAl := (hkq.out.block _ (lt_of_blk hbAk.out) (by simp)).trans hbAk.out
              obtain ⟨s0, s1, s2, s3, s4, s5, s6, s7, sf, sl⟩ := cl8 hbAl
              obtain ⟨c0, c1, c2, cf, cl⟩ := cl3 hbI
              go_upto_region 18 with fail
              clear s0 s1 s2 s3 s4 s5 s6 s7 sf sl t0 t1 t2 hbAl hbI c0 c1 c2 cf cl
              obtain ⟨s0, s1, s2, s3, s4, s5, s6, s7, sf, sl⟩ := cl8 hbAd.out
              obtain ⟨t0, t1, t2, tf, tl⟩ := cl3 hbId.out
              refine Free.wp_region_chain (fun i => false) (fun i => true) (fun _ _ => False) (by kernel_rfl) (by kernel_rfl) (by kernel_rfl) ?_
              generalize (wr.alloc (.cells #[.int .i64 z0, .int .u64 z1, .int .i64 z2] tI)).drew = wI at *
              (repeat (first | (apply Free.cw_pure rfl rfl; (intro w'; go_simp <;> exact rfl); go_frame) | (apply Free.cw_steady rfl rfl rfl; (intro w' hS; have z0 := hlF.out w' (hS.block bF hbFl (fun ⟨j, _, _, hT⟩ => hT)); have p0 := Free.sx_cell hS s0 (fun _ _ hT => hT); have p1 := Free.sx_cell hS t0 (fun _ _ hT => hT); have p2 := Free.sx_cell hS t1 (fun _ _ hT => hT); have p3 := Free.sx_cell hS t2 (fun _ _ hT => hT); go_simp <;> exact rfl); go_frame) | (refine Free.cw_skip rfl ?_; go_frame)))
              refine Free.cw_nil ?_
              by_cases huz : u = z2
              · have hne : (u != z2) = false := by simpa using huz
                have hbq2 : hb = false → (15 : Int) = r := fun h => hbq.out (by rw [h]; simp)
                have hnq3 : hb = true → ∀ j (hj : j < a.ins.length), j < q + 1 → insB Y a.m a.ins[j] = true := fun h => hnq2.out (by rw [h, huz]; simp)
                replace hbq2 := Lib.hid hbq2
                replace hnq3 := Lib.hid hnq3
                replace huz := Lib.hid huz
                have hkf := Lib.hid (hkqD.out.trans ((Keeps.refl [] wI).alloc (.cells #[.int .i64 u0, .int .i64 u1, .int .u64 u2, .int .i64 u3, .bool u4, .bool u5, .int .i64 u6, .slice u7 u8 u9] tA)))
                have hff := Lib.hid (hkwk.out.trans hkf.out)
                cases hb with
                | false =>
                  have hd := Lib.hid (hbq2.out rfl)
                  go_wp2
                  go_ret
                  exact ⟨by rw [← hd.out]; rfl, hff.out⟩
                | true =>
                  have hn3 := Lib.hid (hnq3.out rfl)
                  go_wp2
                  go_roundw
                  case rel => exact ⟨q + 1, rfl, by omega, hn3, hkf⟩
                  case measure => simp [intOf]; omega
              · have hne : (u != z2) = true := by simpa using huz
                have hd := Lib.hid (hbq.out (by simp [huz]))
                have hff := Lib.hid (hkwk.out.trans hkqD.out)
                replace huz := Lib.hid huz
                go_wp2
                go_ret
                exact ⟨by rw [← hd.out]; rfl, hff.out⟩
            · have hltq2 : ¬ ((q : Int) < y8) := by omega
              have hall := Lib.hid (hallY2.out (all_take (fun j hj => hnq.out j hj (by have := ev.out; omega))))
              have hMz := Lib.hid (hMk.out.keeps ktZ hkq.out)
              have hkz := Lib.hid (hkck.out.trans hkq.out.of_nil)
              go_wp2
              go_roundw
              case rel => exact ⟨k + 1, _, rfl, by omega, hMz, hEn, hall, hkz⟩
              case measure => simp [intOf]; omega
        · have hne : (gv != a.ep) = true := by simpa using hep
          obtain ⟨b, hb, hbm, hbv⟩ := hEp.out.val (hge.out.trans hgE)
          have hd := Lib.hid (hbe.out b hb hbm (by rw [hbv]; exact hep))
          replace hgE := Lib.hid hgE
          replace hep := Lib.hid hep
          replace hbv := Lib.hid hbv
          replace hbm := Lib.hid hbm
          go_wp2
          go_ret
          exact ⟨by rw [← hd.out]; rfl, hfin.out⟩
      | false =>
        have hgE2 : MapS.get a.m E = none := by rw [hge.out]; exact hgn.out rfl
        obtain ⟨wk, hrun, hMk, hkk⟩ := MapS.M.putNew ktZ Tryz.underlying116 hMA.out hwm hgE2 (by have h1 := hEp.out.len; rw [List.length_take] at h1; unfold maxLen; omega) a.ep
        have hEn : EpI (E ++ [(a.m, a.ep)]) (Y.take (k + 1)) := by rw [htk.out]; exact hEp.out.new hgE2
        simp only [ktZ, zV] at hrun
        replace hgE2 := Lib.hid hgE2
        have hbAk := (hkk.block _ sl (by simp; omega)).trans hbA.out
        have hkck := hkc.out.trans hkk
        have hkwk := hfin.out.fresh hkk (fun b hb => by simp at hb; subst hb; exact .inr hwE)
        have hinsk := hinsn.out.keepE hkk (fun b hb hne e => by
          simp at hb
          subst hb
          obtain ⟨es, ec, hmap⟩ := hMA.out.isMap
          obtain ⟨gg, oo, cc, hvv, hee⟩ := hinsn.out.elem (k := 0) (by cases hq : a.ins with | nil => exact absurd hq hne | cons _ _ => simp)
          rw [hvv] at e
          simp [Value.ownBlock] at e
          subst e
          have := hee 0 _ rfl
          simp [World.cell?, hmap] at this)
        replace hMk := Lib.hid hMk
        replace hEn := Lib.hid hEn
        replace hbAk := Lib.hid hbAk
        replace hkck := Lib.hid hkck
        replace hkwk := Lib.hid hkwk
        replace hinsk := Lib.hid hinsk
        clear hMA hbA hkc hkk hinsn hfin
        go_upto_region 15 with fail
        clear s0 s1 s2 s3 s4 s5 s6 s7 sf sl hrun hlz
        obtain ⟨s0, s1, s2, s3, s4, s5, s6, s7, sf, sl⟩ := cl8 hbAk.out
        go_wp2
        go_loopw [79] (fun i wi => ∃ q : Nat, i = .int .i64 q ∧ q ≤ y8 ∧ Hid (∀ j (hj : j < a.ins.length), j < q → insB Y a.m a.ins[j] = true) ∧ Hid (Keeps [] wk wi)) (fun i _ => y8 - (intOf i).toNat)
        case atStart => exact ⟨0, rfl, by omega, Lib.hid (fun _ _ h => by omega), Lib.hid (Keeps.refl _ _)⟩
        case round =>
          clear s0 s1 s2 s3 s4 s5 s6 s7 sf sl
          obtain ⟨q, rfl, hq, hnq, hkq⟩ := hrel
          have hfq := hkwk.out.trans hkq.out
          by_cases hltq : q < y8
          · have hltq2 : (q : Int) < y8 := by omega
            have hqa : q < a.ins.length := by rw [← ev.out]; exact hltq
            have hxo := hao.out.ins _ (List.getElem_mem hqa)
            obtain ⟨gi, oi, ci, hvi, hei⟩ := (hinsk.out.keeps hkq.out).elem hqa
            rw [← ev.out] at hvi
            cases hvi
            have hok := insB_def Y a.m a.ins[q]
            have hmq := List.getElem_mem hqa
            have hnq2 : insB Y a.m a.ins[q] = true → ∀ j (hj : j < a.ins.length), j < q + 1 → insB Y a.m a.ins[j] = true := fun h j hj hjq => by
              by_cases e : j = q
              · subst e; exact h
              · exact hnq.out j hj (by omega)
            have hbq : insB Y a.m a.ins[q] = false → (15 : Int) = r := fun h => hallY.out (all_no hqa h)
            obtain ⟨⟨z0, z1, z2⟩, hz⟩ : ∃ z, a.ins[q] = z := ⟨_, rfl⟩
            rw [hz] at hei hxo hok hmq
            have t0 := hei 0 _ rfl
            have t1 := hei 1 _ rfl
            have t2 := hei 2 _ rfl
            simp only [shT, Nat.add_zero] at t0 t1 t2
            simp only at hok
            have hqF : qOk (a.m, z0, z1) := ⟨hao.out.q.1, hxo.1, hxo.2.1⟩
            have hqS : qOk (z0, a.m, z1) := ⟨hxo.1, hao.out.q.1, hxo.2.1⟩
            have hkI := (Keeps.refl [] wr).alloc (.cells #[.int .i64 z0, .int .u64 z1, .int .i64 z2] tI)
            have hkEI := (hkck.out.trans hkq.out.of_nil).trans hkI.of_nil
            have hMFi := hMF.out.kept ktK hkEI (by simp; omega)
            have hMSi := hMSf.out.kept ktS hkEI (by simp; omega)
            obtain ⟨u, hu⟩ : ∃ u, MapS.get (a.m, z0, z1) (outsOf Y) = some u := Option.isSome_iff_exists.1 ((outsOf_some Y (a.m, z0, z1)).2 ⟨a, hmemY.out, (z0, z1, z2), hmq, rfl⟩)
            have hlF : ∀ w' : World, w'.heap[bF]? = (wr.alloc (.cells #[.int .i64 z0, .int .u64 z1, .int .i64 z2] tI)).drew.heap[bF]? → (Instr.lookup 117 (.map (some bF)) (.agg #[.int .i64 a.m, .int .i64 z0, .int .u64 z1]) false).run Tryz.prog w' = .ok (.int .i64 u) w' := fun w' e => by
              have := MapS.M.look ktK Tryz.underlying117 (zV 0) zeroZ ((hMFi.keeps ktK ((Keeps.refl [] _).drew)).at' e) hqF
              rw [← hO.out, hu] at this
              simpa only [ktK, qV, zV, Option.map_some, Option.getD_some] using this
            rw [hu] at hok
            have hbFl : bF < (wr.alloc (.cells #[.int .i64 z0, .int .u64 z1, .int .i64 z2] tI)).drew.heap.size := MapS.M.lt ktK (hMFi.keeps ktK ((Keeps.refl [] _).drew))
            have hlS := MapS.M.look_ok ktS Tryz.underlying112 (aV .zero) zeroA (hMSi.keeps ktS ((Keeps.refl [] _).drew)) hqS
            obtain ⟨⟨u0, u1, u2, u3, u4, u5, u6, u7, u8, u9⟩, huv, hus⟩ := ans_of_get hR.out hs.out (z0, a.m, z1)
            obtain ⟨hb, hhb⟩ : ∃ b, hasA Y (z0, a.m, z1) = b := ⟨_, rfl⟩
            rw [huv, hus, hhb] at hlS
            rw [hhb] at hok
            simp only [ktS, qV, aV, AnV.v] at hlS
            rw [hz] at hbq hnq2
            rw [hok] at hbq hnq2
            have hkD : Keeps [] wr (wr.alloc (.cells #[.int .i64 z0, .int .u64 z1, .int .i64 z2] tI)).drew := hkI.drew
            have hbI := heap_alloc_new wr (.cells #[.int .i64 z0, .int .u64 z1, .int .i64 z2] tI)
            have hbId : (wr.alloc (.cells #[.int .i64 z0, .int .u64 z1, .int .i64 z2] tI)).drew.heap[wr.heap.size]? = _ := hbI
            have hbAd := (hkD.block _ (lt_of_blk ((hkq.out.block _ (lt_of_blk hbAk.out) (by simp)).trans hbAk.out)) (by simp)).trans ((hkq.out.block _ (lt_of_blk hbAk.out) (by simp)).trans hbAk.out)
            have hkqD := hkq.out.trans hkD
            replace hlF := Lib.hid hlF
            replace hbId := Lib.hid hbId
            replace hbAd := Lib.hid hbAd
            replace hkqD := Lib.hid hkqD
            replace hbq := Lib.hid hbq
            replace hnq2 := Lib.hid hnq2
            replace hu := Lib.hid hu
            replace hz := Lib.hid hz
            replace hhb := Lib.hid hhb
            replace hok := Lib.hid hok
            replace hfq := Lib.hid hfq
            clear hei hMFi hMSi hkEI hkI hqF hqS huv hus hmq hxo
            have hbAl := (hkq.out.block _ (lt_of_blk hbAk.out) (by simp)).trans hbAk.out
            obtain ⟨s0, s1, s2, s3, s4, s5, s6, s7, sf, sl⟩ := cl8 hbAl
            obtain ⟨c0, c1, c2, cf, cl⟩ := cl3 hbI
            go_upto_region 18 with fail
            clear s0 s1 s2 s3 s4 s5 s6 s7 sf sl t0 t1 t2 hbAl hbI c0 c1 c2 cf cl
            obtain ⟨s0, s1, s2, s3, s4, s5, s6, s7, sf, sl⟩ := cl8 hbAd.out
            obtain ⟨t0, t1, t2, tf, tl⟩ := cl3 hbId.out
            refine Free.wp_region_chain (fun i => false) (fun i => true) (fun _ _ => False) (by kernel_rfl) (by kernel_rfl) (by kernel_rfl) ?_
            generalize (wr.alloc (.cells #[.int .i64 z0, .int .u64 z1, .int .i64 z2] tI)).drew = wI at *
            (repeat (first | (apply Free.cw_pure rfl rfl; (intro w'; go_simp <;> exact rfl); go_frame) | (apply Free.cw_steady rfl rfl rfl; (intro w' hS; have z0 := hlF.out w' (hS.block bF hbFl (fun ⟨j, _, _, hT⟩ => hT)); have p0 := Free.sx_cell hS s0 (fun _ _ hT => hT); have p1 := Free.sx_cell hS t0 (fun _ _ hT => hT); have p2 := Free.sx_cell hS t1 (fun _ _ hT => hT); have p3 := Free.sx_cell hS t2 (fun _ _ hT => hT); go_simp <;> exact rfl); go_frame) | (refine Free.cw_skip rfl ?_; go_frame)))
            refine Free.cw_nil ?_
            by_cases huz : u = z2
            · have hne : (u != z2) = false := by simpa using huz
              have hbq2 : hb = false → (15 : Int) = r := fun h => hbq.out (by rw [h]; simp)
              have hnq3 : hb = true → ∀ j (hj : j < a.ins.length), j < q + 1 → insB Y a.m a.ins[j] = true := fun h => hnq2.out (by rw [h, huz]; simp)
              replace hbq2 := Lib.hid hbq2
              replace hnq3 := Lib.hid hnq3
              replace huz := Lib.hid huz
              have hkf := Lib.hid (hkqD.out.trans ((Keeps.refl [] wI).alloc (.cells #[.int .i64 u0, .int .i64 u1, .int .u64 u2, .int .i64 u3, .bool u4, .bool u5, .int .i64 u6, .slice u7 u8 u9] tA)))
              have hff := Lib.hid (hkwk.out.trans hkf.out)
              cases hb with
              | false =>
                have hd := Lib.hid (hbq2.out rfl)
                go_wp2
                go_ret
                exact ⟨by rw [← hd.out]; rfl, hff.out⟩
              | true =>
                have hn3 := Lib.hid (hnq3.out rfl)
                go_wp2
                go_roundw
                case rel => exact ⟨q + 1, rfl, by omega, hn3, hkf⟩
                case measure => simp [intOf]; omega
            · have hne : (u != z2) = true := by simpa using huz
              have hd := Lib.hid (hbq.out (by simp [huz]))
              have hff := Lib.hid (hkwk.out.trans hkqD.out)
              replace huz := Lib.hid huz
              go_wp2
              go_ret
              exact ⟨by rw [← hd.out]; rfl, hff.out⟩
          · have hltq2 : ¬ ((q : Int) < y8) := by omega
            have hall := Lib.hid (hallY2.out (all_take (fun j hj => hnq.out j hj (by have := ev.out; omega))))
            have hMz := Lib.hid (hMk.out.keeps ktZ hkq.out)
            have hkz := Lib.hid (hkck.out.trans hkq.out.of_nil)
            go_wp2
            go_roundw
            case rel => exact ⟨k + 1, _, rfl, by omega, hMz, hEn, hall, hkz⟩
            case measure => simp [intOf]; omega
    · have hlt2 : ¬ ((k : Int) < x6) := by omega
      have hkN : k = Y.length := by have := hfY.out; omega
      have htk : Y.take k = Y := by rw [hkN]; exact List.take_length
      have hepB := hEp.out.epB
      rw [htk] at hepB
      have hA6 := (hkr.out.block _ (lt_of_blk hA5.out) (by simpa using hBE)).trans hA5.out
      have hAd : wr.drew.heap[B]? = _ := hA6
      have hkd : Keeps [] w wr.drew := hkwr.drew
      obtain ⟨i0, i1, i2, i3, i4, i5, i6, if', il⟩ := cl7 hAd
      have hbc : decide (c.cl = clY c.an) = false → (15 : Int) = r := fun h => hbad.out (bad_cl (of_decide_eq_false h))
      have hgc : decide (c.cl = clY c.an) = true → (0 : Int) = r := fun h => hgood.out (good_all (by rw [hY.out]; exact hob.out) (by rw [hY.out]; exact hepB) (fun a ha => by
        rw [hY.out] at ha ⊢
        obtain ⟨j, hj, rfl⟩ := List.getElem_of_mem ha
        exact hno.out j hj (by omega)) (of_decide_eq_true h))
      obtain ⟨bb, hbb⟩ : ∃ b, decide (c.cl = clY c.an) = b := ⟨_, rfl⟩
      rw [hbb] at hbc hgc
      replace hbc := Lib.hid hbc
      replace hgc := Lib.hid hgc
      replace hbb := Lib.hid hbb
      replace hkd := Lib.hid hkd
      replace hkN := Lib.hid hkN
      replace htk := Lib.hid htk
      replace hepB := Lib.hid hepB
      replace hA6 := Lib.hid hA6
      clear hkwr
      go_upto_region 25 with fail
      refine Free.wp_region_chain (fun i => i == 3 || i == 4) (fun i => true) (fun _ _ => False) (by kernel_rfl) (by kernel_rfl) (by kernel_rfl) ?_
      generalize wr.drew = wd at *
      (repeat (first | (apply Free.cw_pure rfl rfl; (intro w'; go_simp <;> exact rfl); go_frame) | (apply Free.cw_steady rfl rfl rfl; (intro w' hS; have q0 := Free.sx_cell hS i0 (fun _ _ hT => hT); have q1 := Free.sx_cell hS i1 (fun _ _ hT => hT); have q2 := Free.sx_cell hS i2 (fun _ _ hT => hT); have q3 := Free.sx_cell hS i3 (fun _ _ hT => hT); have q4 := Free.sx_cell hS i4 (fun _ _ hT => hT); have q5 := Free.sx_cell hS i5 (fun _ _ hT => hT); have q6 := Free.sx_cell hS i6 (fun _ _ hT => hT); go_simp <;> exact rfl); go_frame) | (refine Free.cw_skip rfl ?_; go_frame)))
      refine Free.cw_loud rfl rfl (fun K hK => ?_)
      go_wp2_with fail
      refine (hcmA.out _ hkd.out).mono ?_
      rintro e w6 ⟨v, rfl, hv, hk6⟩
      refine hK _ _ rfl (Free.KeepsP.of hk6 (by simp)) ?_
      clear hK K
      have hk06 := hkd.out.trans hk6
      have heq := hce.out _ hk06 v (by rw [hY.out]; exact hv)
      rw [hbb.out] at heq
      obtain ⟨av, cv, rfl, _, _⟩ := hv.form
      replace heq := Lib.hid heq
      replace hk06 := Lib.hid hk06
      clear hv hk6
      (repeat (apply Free.cw_pure rfl rfl; (intro w'; go_simp <;> exact rfl); go_frame))
      refine Free.cw_loud rfl rfl (fun K hK => ?_)
      go_wp2_with fail
      refine heq.out.mono ?_
      rintro e w7 ⟨rfl, hk7⟩
      refine hK _ _ rfl (Free.KeepsP.of hk7 (by simp)) ?_
      clear hK K
      have hk07 := Lib.hid (hk06.out.trans hk7)
      (repeat (apply Free.cw_pure rfl rfl; (intro w'; go_simp <;> exact rfl); go_frame))
      refine Free.cw_nil ?_
      cases bb with
      | false =>
        have hd := Lib.hid (hbc.out rfl)
        go_wp2
        go_ret
        exact ⟨by rw [← hd.out]; rfl, hk07.out⟩
      | true =>
        have hd := Lib.hid (hgc.out rfl)
        go_wp2
        go_ret
        exact ⟨by rw [← hd.out]; rfl, hk07.out⟩
end Go.Proofs.YtiplgpefapeapaaGreat

namespace Go.Proofs.YtiplgpefapeapaaGreat
open Go.RowKit

/-- No list is too long for the program. -/
structure Ct.F24 (c : Ct) : Prop where
  an : c.an.length ≤ 1024
  cl : c.cl.length ≤ 1024
  ins : ∀ a ∈ c.an, a.ins.length ≤ 1024
  ns : ∀ p ∈ c.cl, p.st.length ≤ 1024 ∧ p.sc.length ≤ 1024 ∧ p.ch.length ≤ 1024
end Go.Proofs.YtiplgpefapeapaaGreat

namespace Go.Proofs.YtiplgpefapeapaaGreat
open Go.RowKit

theorem sum_succ {α : Type} (g : α → Nat) (l : List α) (k : Nat) (h : k < l.length) : ((l.take (k + 1)).map g).sum = ((l.take k).map g).sum + g l[k] := by
  rw [List.take_succ_eq_append_getElem h, List.map_append, List.sum_append]
  simp only [List.map_cons, List.map_nil, List.sum_cons, List.sum_nil, Nat.add_zero]
theorem sum_mem {α : Type} (g : α → Nat) {l : List α} {x : α} (h : x ∈ l) : g x ≤ (l.map g).sum := by
  induction l with
  | nil => simp at h
  | cons a l ih =>
    rcases List.mem_cons.1 h with rfl | h
    · simp
    · have := ih h; simp; omega
theorem few_of {c : Ct} (h : c.size ≤ 100) : c.Few := by
  unfold Ct.size at h
  refine ⟨by omega, by omega, fun a ha => ?_, fun p hp => ?_⟩
  · have := sum_mem (fun a : Ans => a.ins.length) ha; omega
  · have := sum_mem PCl.size hp
    have hs : PCl.size p = p.st.length + p.sc.length + p.ch.length := rfl
    omega
end Go.Proofs.YtiplgpefapeapaaGreat

namespace Go.Proofs.YtiplgpefapeapaaGreat
open Go.RowKit

def exS (s : Int) : Ct := ⟨1, 1, (2, 7, 0), [⟨1, 2, 7, 3, true, false, 4, [(2, 9, 5)]⟩, ⟨2, 1, 9, 6, true, false, 8, [(1, 7, 1)]⟩], [⟨1, 3, [(2, 7, 1)], [(2, 9, s)], []⟩, ⟨2, 6, [(1, 9, 5)], [(1, 7, 4)], []⟩]⟩
theorem ex8_chk : chk (exS 8) = 0 := by decide +kernel
theorem ex7_chk : chk (exS 7) = 15 := by decide +kernel
theorem ex_size (s : Int) : (exS s).size ≤ 100 := by unfold exS Ct.size PCl.size; simp
def exX (b : Nat) : CtV := ⟨1, 1, 2, 7, 0, (some ⟨b + 3, 0, none⟩, 2, 2), (some ⟨b + 8, 0, none⟩, 2, 2)⟩
abbrev oneV (b : Nat) : Value := .slice (some ⟨b, 0, none⟩) 1 1
/-- The blocks of the example. -/
structure ExB (w : World) (b : Nat) (s : Int) : Prop where
  o1 : w.heap[b + 1]? = some (.cells #[.int .i64 2, .int .u64 9, .int .i64 5] tI (0, 0))
  o2 : w.heap[b + 2]? = some (.cells #[.int .i64 1, .int .u64 7, .int .i64 1] tI (0, 0))
  o3 : w.heap[b + 3]? = some (.cells #[.int .i64 1, .int .i64 2, .int .u64 7, .int .i64 3, .bool true, .bool false, .int .i64 4, oneV (b + 1), .int .i64 2, .int .i64 1, .int .u64 9, .int .i64 6, .bool true, .bool false, .int .i64 8, oneV (b + 2)] tA (0, 0))
  o4 : w.heap[b + 4]? = some (.cells #[.int .i64 2, .int .u64 9, .int .i64 s] tN (0, 0))
  o5 : w.heap[b + 5]? = some (.cells #[.int .i64 2, .int .u64 7, .int .i64 1] tN (0, 0))
  o6 : w.heap[b + 6]? = some (.cells #[.int .i64 1, .int .u64 7, .int .i64 4] tN (0, 0))
  o7 : w.heap[b + 7]? = some (.cells #[.int .i64 1, .int .u64 9, .int .i64 5] tN (0, 0))
  o8 : w.heap[b + 8]? = some (.cells #[.int .i64 1, .int .i64 3, oneV (b + 5), oneV (b + 4), .slice none 0 0, .int .i64 2, .int .i64 6, oneV (b + 7), oneV (b + 6), .slice none 0 0] tC (0, 0))
theorem ExB.keeps {w w' : World} {b : Nat} {s : Int} (h : ExB w b s) (hk : Keeps [] w w') : ExB w' b s :=
  ⟨(hk.block _ (lt_of_blk h.o1) (by simp)).trans h.o1, (hk.block _ (lt_of_blk h.o2) (by simp)).trans h.o2, (hk.block _ (lt_of_blk h.o3) (by simp)).trans h.o3, (hk.block _ (lt_of_blk h.o4) (by simp)).trans h.o4, (hk.block _ (lt_of_blk h.o5) (by simp)).trans h.o5, (hk.block _ (lt_of_blk h.o6) (by simp)).trans h.o6, (hk.block _ (lt_of_blk h.o7) (by simp)).trans h.o7, (hk.block _ (lt_of_blk h.o8) (by simp)).trans h.o8⟩
theorem ExB.stamp {w : World} {b : Nat} {s : Int} (h : ExB w b s) (z : Int) : ExB (w.setCell ⟨b + 4, 2, none⟩ (.int .i64 z)) b z ∧ Keeps [b + 4] w (w.setCell ⟨b + 4, 2, none⟩ (.int .i64 z)) := by
  have hk : Keeps [b + 4] w (w.setCell ⟨b + 4, 2, none⟩ (.int .i64 z)) := (Keeps.refl _ w).setCell (.inr (by simp)) _
  refine ⟨⟨(hk.block _ (lt_of_blk h.o1) (by simp)).trans h.o1, (hk.block _ (lt_of_blk h.o2) (by simp)).trans h.o2, (hk.block _ (lt_of_blk h.o3) (by simp)).trans h.o3, ?_, (hk.block _ (lt_of_blk h.o5) (by simp)).trans h.o5, (hk.block _ (lt_of_blk h.o6) (by simp)).trans h.o6, (hk.block _ (lt_of_blk h.o7) (by simp)).trans h.o7, (hk.block _ (lt_of_blk h.o8) (by simp)).trans h.o8⟩, hk⟩
  have h4 := h.o4
  simp [World.setCell, Array.getElem?_modify, h4]
theorem R_blk {α : Type} (s : Sh α) {w : World} {b : Nat} {cs : Array Value} {t : TypeId} (L : List α) (h : w.heap[b]? = some (.cells cs t (0, 0))) (hc : cs.toList = s.cs L) (hs : (s.cs L).length = L.length * s.sz) (hm : L.length ≤ 1000) : s.R w (.slice (some ⟨b, 0, none⟩) L.length L.length) L :=
  Sh.O.r (B := 0) (e := t) ⟨hs, .inr ⟨b, L.length, cs, rfl, Nat.zero_le _, h, Nat.le_refl _, by unfold maxLen; omega, by rw [← Array.length_toList, hc, hs], by rw [hc, List.take_of_length_le (by omega)]⟩⟩
theorem ExB.ct {w : World} {b : Nat} {s : Int} (h : ExB w b s) : CtW w (exX b) (exS s) := by
  refine ⟨rfl, rfl, rfl, rfl, rfl, ?_, ?_⟩
  · refine ⟨[⟨1, 2, 7, 3, true, false, 4, some ⟨b + 1, 0, none⟩, 1, 1⟩, ⟨2, 1, 9, 6, true, false, 8, some ⟨b + 2, 0, none⟩, 1, 1⟩], R_blk shA _ h.o3 rfl rfl (by simp), rfl, fun k x y hx hy => ?_⟩
    match k with
    | 0 =>
      simp at hx
      simp [exS] at hy
      subst hx hy
      exact ⟨rfl, rfl, rfl, rfl, rfl, rfl, rfl, R_blk shT [(2, 9, 5)] h.o1 rfl rfl (by simp)⟩
    | 1 =>
      simp at hx
      simp [exS] at hy
      subst hx hy
      exact ⟨rfl, rfl, rfl, rfl, rfl, rfl, rfl, R_blk shT [(1, 7, 1)] h.o2 rfl rfl (by simp)⟩
    | k + 2 => simp at hx
  · refine ⟨[⟨1, 3, (some ⟨b + 5, 0, none⟩, 1, 1), (some ⟨b + 4, 0, none⟩, 1, 1), (none, 0, 0)⟩, ⟨2, 6, (some ⟨b + 7, 0, none⟩, 1, 1), (some ⟨b + 6, 0, none⟩, 1, 1), (none, 0, 0)⟩], R_blk shC _ h.o8 rfl rfl (by simp), rfl, fun k x y hx hy => ?_⟩
    match k with
    | 0 =>
      simp at hx
      simp [exS] at hy
      subst hx hy
      exact ⟨rfl, rfl, R_blk shT [(2, 7, 1)] h.o5 rfl rfl (by simp), R_blk shT [(2, 9, s)] h.o4 rfl rfl (by simp), Sh.R.nil _ _⟩
    | 1 =>
      simp at hx
      simp [exS] at hy
      subst hx hy
      exact ⟨rfl, rfl, R_blk shT [(1, 9, 5)] h.o7 rfl rfl (by simp), R_blk shT [(1, 7, 4)] h.o6 rfl rfl (by simp), Sh.R.nil _ _⟩
    | k + 2 => simp at hx
theorem ex_fit (s : Int) (hs : W64 s) : (exS s).Fit := by
  refine ⟨rfl, rfl, ⟨rfl, by simp [exS], rfl⟩, fun a ha => ?_, fun p hp => ?_⟩
  · simp [exS] at ha
    rcases ha with rfl | rfl
    · exact ⟨⟨rfl, rfl, by simp [Ans.q]⟩, rfl, rfl, (fun x hx => by simp at hx; subst hx; exact ⟨rfl, by simp, rfl⟩)⟩
    · exact ⟨⟨rfl, rfl, by simp [Ans.q]⟩, rfl, rfl, (fun x hx => by simp at hx; subst hx; exact ⟨rfl, by simp, rfl⟩)⟩
  · simp [exS] at hp
    rcases hp with rfl | rfl
    · exact ⟨rfl, rfl, (fun x hx => by simp at hx; subst hx; exact ⟨rfl, by simp, rfl⟩), (fun x hx => by simp at hx; subst hx; exact ⟨rfl, by simp, hs⟩), (fun x hx => by simp at hx)⟩
    · exact ⟨rfl, rfl, (fun x hx => by simp at hx; subst hx; exact ⟨rfl, by simp, rfl⟩), (fun x hx => by simp at hx; subst hx; exact ⟨rfl, by simp, rfl⟩), (fun x hx => by simp at hx)⟩
theorem an2 (w : World) (o : Obj) {b : Nat} (h : b = w.heap.size) : (w.alloc o).heap[b]? = some o := by subst h; exact heap_alloc_new w o
theorem alloc9 {w W : World} {a0 a1 a2 a3 a4 a5 a6 a7 a8 : Obj} (h : (((((((((w.alloc a0).alloc a1).alloc a2).alloc a3).alloc a4).alloc a5).alloc a6).alloc a7).alloc a8) = W) :
    W.heap[w.heap.size]? = some a0 ∧ W.heap[w.heap.size + 1]? = some a1 ∧ W.heap[w.heap.size + 2]? = some a2 ∧ W.heap[w.heap.size + 3]? = some a3 ∧ W.heap[w.heap.size + 4]? = some a4 ∧ W.heap[w.heap.size + 5]? = some a5 ∧ W.heap[w.heap.size + 6]? = some a6 ∧ W.heap[w.heap.size + 7]? = some a7 ∧ W.heap[w.heap.size + 8]? = some a8 ∧ Keeps [] w W := by
  subst h
  refine ⟨?_, ?_, ?_, ?_, ?_, ?_, ?_, ?_, ?_, ((((((((((Keeps.refl [] w).alloc _).alloc _).alloc _).alloc _).alloc _).alloc _).alloc _).alloc _).alloc _)⟩
  · rw [Below.heap_alloc _ _ _ (by simp <;> omega), Below.heap_alloc _ _ _ (by simp <;> omega), Below.heap_alloc _ _ _ (by simp <;> omega), Below.heap_alloc _ _ _ (by simp <;> omega), Below.heap_alloc _ _ _ (by simp <;> omega), Below.heap_alloc _ _ _ (by simp <;> omega), Below.heap_alloc _ _ _ (by simp <;> omega), Below.heap_alloc _ _ _ (by simp <;> omega)]; exact an2 _ _ (by simp)
  · rw [Below.heap_alloc _ _ _ (by simp <;> omega), Below.heap_alloc _ _ _ (by simp <;> omega), Below.heap_alloc _ _ _ (by simp <;> omega), Below.heap_alloc _ _ _ (by simp <;> omega), Below.heap_alloc _ _ _ (by simp <;> omega), Below.heap_alloc _ _ _ (by simp <;> omega), Below.heap_alloc _ _ _ (by simp <;> omega)]; exact an2 _ _ (by simp)
  · rw [Below.heap_alloc _ _ _ (by simp <;> omega), Below.heap_alloc _ _ _ (by simp <;> omega), Below.heap_alloc _ _ _ (by simp <;> omega), Below.heap_alloc _ _ _ (by simp <;> omega), Below.heap_alloc _ _ _ (by simp <;> omega), Below.heap_alloc _ _ _ (by simp <;> omega)]; exact an2 _ _ (by simp)
  · rw [Below.heap_alloc _ _ _ (by simp <;> omega), Below.heap_alloc _ _ _ (by simp <;> omega), Below.heap_alloc _ _ _ (by simp <;> omega), Below.heap_alloc _ _ _ (by simp <;> omega), Below.heap_alloc _ _ _ (by simp <;> omega)]; exact an2 _ _ (by simp)
  · rw [Below.heap_alloc _ _ _ (by simp <;> omega), Below.heap_alloc _ _ _ (by simp <;> omega), Below.heap_alloc _ _ _ (by simp <;> omega), Below.heap_alloc _ _ _ (by simp <;> omega)]; exact an2 _ _ (by simp)
  · rw [Below.heap_alloc _ _ _ (by simp <;> omega), Below.heap_alloc _ _ _ (by simp <;> omega), Below.heap_alloc _ _ _ (by simp <;> omega)]; exact an2 _ _ (by simp)
  · rw [Below.heap_alloc _ _ _ (by simp <;> omega), Below.heap_alloc _ _ _ (by simp <;> omega)]; exact an2 _ _ (by simp)
  · rw [Below.heap_alloc _ _ _ (by simp <;> omega)]; exact an2 _ _ (by simp)
  · exact an2 _ _ (by simp)
set_option maxRecDepth 100000 in
set_option maxHeartbeats 4000000 in
theorem example_c (w : World) : Calls Tryz.prog 22 #[] w fun e w' => e = .returned (ctV (exX w.heap.size)) ∧ ExB w' w.heap.size 8 ∧ Keeps [] w w' := by
  go_enter Tryz.func22, Tryz.ntmps22
  go_wp2
  generalize hW : World.alloc _ (Obj.cells #[.int .i64 1, .int .i64 3, _, _, _, .int .i64 2, .int .i64 6, _, _, _] _) = W
  obtain ⟨h0, h1, h2, h3, h4, h5, h6, h7, h8, hk⟩ := alloc9 hW
  refine bodyPost_ret (results_cell_row rfl _ _ _ _ _ _ _ rfl h0 Tryz.underlying32 rfl (by kernel_rfl)) rfl ?_
  exact ⟨rfl, ⟨h1, h2, h3, h4, h5, h6, h7, h8⟩, hk⟩
set_option maxRecDepth 100000 in
set_option maxHeartbeats 4000000 in
theorem awake_c (w : World) : Calls Tryz.prog 6 #[] w fun e w' => e = .returned (.bool true) ∧ Keeps [] w w' := by
  have hce := fun (W : World) (s : Int) (hs : W64 s) (h : ExB W w.heap.size s) => check_c W _ _ h.ct (ex_fit s hs) (few_of (ex_size s))
  obtain ⟨b, hb⟩ : ∃ b, w.heap.size = b := ⟨_, rfl⟩
  have hex := example_c w
  rw [hb] at hce hex
  replace hce := Lib.hid hce
  replace hb := Lib.hid hb
  go_enter Tryz.func6, Tryz.ntmps6
  go_wp2_with fail
  refine hex.mono ?_
  rintro e w1 ⟨rfl, hE1, hk1⟩
  have hA := heap_alloc_new w1 (.cells #[.int .i64 1, .int .i64 1, .int .i64 2, .int .u64 7, .int .i64 0, .slice (some ⟨b + 3, 0, none⟩) 2 2, .slice (some ⟨b + 8, 0, none⟩) 2 2] tCt)
  have hkA := hk1.trans ((Keeps.refl [] w1).alloc (.cells #[.int .i64 1, .int .i64 1, .int .i64 2, .int .u64 7, .int .i64 0, .slice (some ⟨b + 3, 0, none⟩) 2 2, .slice (some ⟨b + 8, 0, none⟩) 2 2] tCt))
  have hE2 := hE1.keeps ((Keeps.refl [] w1).alloc (.cells #[.int .i64 1, .int .i64 1, .int .i64 2, .int .u64 7, .int .i64 0, .slice (some ⟨b + 3, 0, none⟩) 2 2, .slice (some ⟨b + 8, 0, none⟩) 2 2] tCt))
  have hbA : b < w1.heap.size := by have := lt_of_blk hE1.o1; omega
  have hc8 := hce.out _ 8 rfl hE2
  rw [ex8_chk] at hc8
  simp only [ctV, slv, exX] at hc8 ⊢
  replace hA := Lib.hid hA
  replace hkA := Lib.hid hkA
  replace hE2 := Lib.hid hE2
  replace hbA := Lib.hid hbA
  replace hc8 := Lib.hid hc8
  clear hE1 hk1
  go_upto_region 2 with fail
  generalize (w1.alloc (.cells #[.int .i64 1, .int .i64 1, .int .i64 2, .int .u64 7, .int .i64 0, .slice (some ⟨b + 3, 0, none⟩) 2 2, .slice (some ⟨b + 8, 0, none⟩) 2 2] tCt)) = WA at *
  obtain ⟨XA, hXA⟩ : ∃ X, w1.heap.size = X := ⟨_, rfl⟩
  rw [hXA] at hA hbA ⊢
  obtain ⟨i0, i1, i2, i3, i4, i5, i6, if', il⟩ := cl7 hA.out
  go_wp2_with fail
  refine hc8.out.mono ?_
  rintro e w2 ⟨rfl, hk2⟩
  have hA2 := (hk2.block _ (lt_of_blk hA.out) (by simp)).trans hA.out
  have hE3 := hE2.out.keeps hk2
  have hk02 := hkA.out.trans hk2
  clear i0 i1 i2 i3 i4 i5 i6 if' il hc8
  obtain ⟨i0, i1, i2, i3, i4, i5, i6, if', il⟩ := cl7 hA2
  have t8 := hE3.o8
  have t4 := hE3.o4
  have a3 : w2.cell? ⟨b + 8, 3, none⟩ = some (oneV (b + 4)) := by simp [World.cell?, t8]
  obtain ⟨_, _, a4, af, al⟩ := cl3 t4
  obtain ⟨hE4, hk4⟩ := hE3.stamp 7
  have hXb : XA ≠ b + 4 := by have := hE2.out.o4; have := hbA.out; intro e; rw [← e] at t4; rw [hA2] at t4; simp at t4
  have hA4 := (hk4.block _ (lt_of_blk hA2) (by simp; omega)).trans hA2
  have hk04 := hk02.fresh hk4 (fun x hx => by simp only [List.mem_singleton] at hx; subst hx; exact .inr (by have := hb.out; omega))
  have hc7 := hce.out _ 7 rfl hE4
  rw [ex7_chk] at hc7
  simp only [ctV, slv, exX] at hc7
  replace hA4 := Lib.hid hA4
  replace hk04 := Lib.hid hk04
  replace hc7 := Lib.hid hc7
  clear t8 t4 hE4 hk4 hE3 hA2 hk02 hk2 hce hE2
  go_upto_region 5 with fail
  generalize (w2.setCell ⟨b + 4, 2, none⟩ (.int .i64 7)) = W4 at *
  clear i0 i1 i2 i3 i4 i5 i6 if' il a3 a4 af al
  obtain ⟨i0, i1, i2, i3, i4, i5, i6, if', il⟩ := cl7 hA4.out
  go_wp2_with fail
  refine hc7.out.mono ?_
  rintro e w5 ⟨rfl, hk5⟩
  have hkz := hk04.out.trans hk5
  go_wp2
  go_ret
  exact ⟨rfl, hkz⟩
end Go.Proofs.YtiplgpefapeapaaGreat

namespace Go.Proofs.YtiplgpefapeapaaGreat
open Go.RowKit

theorem sizeA8 : (Tryz.prog.info? tA).map (·.size) = some 8 := by kernel_rfl
end Go.Proofs.YtiplgpefapeapaaGreat

namespace Go.Proofs.YtiplgpefapeapaaGreat
open Go.RowKit Go.ChangeShapes

def encX (x : T3) : List UInt8 := encI x.1 ++ encU x.2.1 ++ encI x.2.2
def encA0 (a : Ans) : List UInt8 := encI a.m ++ encI a.ow ++ encU a.n ++ encI a.ep ++ encB a.kn ++ encB a.rt ++ encI a.lu ++ encU a.ins.length
def encXs (L : List T3) : List UInt8 := (L.map encX).flatten
def encA (a : Ans) : List UInt8 := encA0 a ++ encXs a.ins
def encH (L : List Ans) : List UInt8 := (L.map encA).flatten
theorem encXs_take (L : List T3) (k : Nat) (hk : k < L.length) : encXs (L.take (k + 1)) = encXs (L.take k) ++ encX L[k] := by
  unfold encXs
  rw [List.take_succ_eq_append_getElem hk, List.map_append, List.flatten_append]
  simp
theorem encH_take (L : List Ans) (k : Nat) (hk : k < L.length) : encH (L.take (k + 1)) = encH (L.take k) ++ encA L[k] := by
  unfold encH
  rw [List.take_succ_eq_append_getElem hk, List.map_append, List.flatten_append]
  simp
/-- Numbers that fit. -/
structure InsFit (x : T3) : Prop where
  a : W64 x.1
  n : x.2.1 < 18446744073709551616
  c : W64 x.2.2
theorem encX_len {x : T3} (h : InsFit x) : (encX x).length ≤ 27 := by
  have h1 := encI_len h.a
  have h2 := encU_len h.n
  have h3 := encI_len h.c
  simp only [encX, List.length_append]
  omega
theorem encXs_len : ∀ {L : List T3}, (∀ x ∈ L, InsFit x) → (encXs L).length ≤ 27 * L.length
  | [], _ => by simp [encXs]
  | x :: L, h => by
    have h1 := encX_len (h x (by simp))
    have h2 := encXs_len (L := L) (fun y hy => h y (by simp [hy]))
    simp only [encXs, List.map_cons, List.flatten_cons, List.length_append, List.length_cons] at h2 ⊢
    omega
/-- The trace's own numbers fit. -/
structure Tr.Num (t : Tr) : Prop where
  im : W64 t.im
  is : W64 t.is
  s0 : W64 t.st.1
  s1 : t.st.2.1 < 18446744073709551616
  s2 : W64 t.st.2.2
end Go.Proofs.YtiplgpefapeapaaGreat

namespace Go.Proofs.YtiplgpefapeapaaGreat
open Go.RowKit
def PendPost (w : World) (t : Tr) (m : Int) (e : Ending) (w' : World) : Prop :=
  ∃ r : Int, e = .returned (.int .i64 r) ∧ Keeps [] w w' ∧ ((t.state ≠ 1 ∧ r = 9) ∨ (t.state = 1 ∧ ∃ P Y p, SortedA t Y ∧ ClaimsP t Y P ∧ P[t.ag.length]? = some p ∧ r = (if p.m = m then 0 else 1)))
set_option maxRecDepth 100000 in
set_option maxHeartbeats 4000000 in
theorem pending_c (w : World) (B bt bm : Nat) (vo vh vg : Value) (t : Tr) (m : Int) (h : TrM w B bt bm vo vh vg t) (hl : t.qs.length ≤ 1000) (hag : t.state = 1 → ∀ P Y, SortedA t Y → ClaimsP t Y P → t.ag.length < P.length) :
    Calls Tryz.prog 64 #[.pointer (some ⟨bt, 0, none⟩), .int .i64 m] w (PendPost w t m) := by
  have hc := claim_c w B bt bm vo vh vg t h hl hag
  replace hc := Lib.hid hc
  clear h hag
  go_enter Tryz.func64, Tryz.ntmps64
  go_wp2_with fail
  refine hc.out.mono ?_
  rintro e w1 ⟨⟨x0, x1, ⟨a1, a2, a3⟩, ⟨b1, b2, b3⟩, ⟨c1, c2, c3⟩⟩, p, rfl, hcr, hk, hcase⟩
  have hx : x0 = p.m := hcr.m
  subst hx
  simp only [clV, slv]
  replace hk := Lib.hid hk
  clear hcr
  by_cases hs : t.state = 1
  · have b : (t.state == 1) = true := by simpa using hs
    have hcase2 : ∃ P Y, SortedA t Y ∧ ClaimsP t Y P ∧ P[t.ag.length]? = some p := by
      rcases hcase with ⟨h1, _⟩ | ⟨_, h2⟩
      · exact absurd hs h1
      · exact h2
    rw [b]
    replace hcase2 := Lib.hid hcase2
    replace hs := Lib.hid hs
    clear hcase b
    by_cases hm : p.m = m
    · subst hm
      go_wp2
      go_ret
      obtain ⟨P, Y, h1, h2, h3⟩ := hcase2.out
      exact ⟨0, rfl, hk.out.alloc _, .inr ⟨hs.out, P, Y, p, h1, h2, h3, (if_pos rfl).symm⟩⟩
    · have bm : (p.m != m) = true := by simpa using hm
      go_wp2
      go_ret
      obtain ⟨P, Y, h1, h2, h3⟩ := hcase2.out
      exact ⟨1, rfl, hk.out.alloc _, .inr ⟨hs.out, P, Y, p, h1, h2, h3, (if_neg hm).symm⟩⟩
  · have b : (t.state == 1) = false := by simpa using hs
    rw [b]
    replace hs := Lib.hid hs
    clear hcase b
    go_wp2
    go_ret
    exact ⟨9, rfl, hk.out.alloc _, .inl ⟨hs.out, rfl⟩⟩
end Go.Proofs.YtiplgpefapeapaaGreat

namespace Go.Proofs.YtiplgpefapeapaaGreat
open Go.RowKit

def Tr.agreeT (t : Tr) (m : Int) : Tr × Int :=
  if t.state ≠ 1 then (t, 9) else match t.clm[t.ag.length]? with
  | some p => if p.m ≠ m then (t, 1) else ({ t with ag := t.ag ++ [m], state := if t.ag.length + 1 = t.clm.length then 2 else t.state }, 0)
  | none => (t, 0)
def Tr.refuseT (t : Tr) (m : Int) : Tr × Int :=
  if t.state ≠ 1 then (t, 9) else match t.clm[t.ag.length]? with
  | some p => if p.m ≠ m then (t, 1) else ({ t with state := 4, rf := true }, 0)
  | none => (t, 0)
end Go.Proofs.YtiplgpefapeapaaGreat

namespace Go.Proofs.YtiplgpefapeapaaGreat
open Go.RowKit
namespace TrM
variable {w w' : World} {B bt bm : Nat} {vo vh vg : Value} {t : Tr}
theorem setAg (h : TrM w B bt bm vo vh vg t) {vg' : Value} {m : Int} (hG : Grw w w' vg vg') (hO : shZ.O w' B 3 vg' (t.ag ++ [m])) :
    TrM (w'.setCell ⟨bt, 10, none⟩ vg') B bt bm vo vh vg' { t with ag := t.ag ++ [m] } ∧ Keeps [bt] w' (w'.setCell ⟨bt, 10, none⟩ vg') ∧ KI w w' ∧ KI w' (w'.setCell ⟨bt, 10, none⟩ vg') := by
  obtain ⟨n1, n2, n3, n4⟩ := h.ne_bt
  obtain ⟨X0, hX0, hX0L⟩ := h.hi
  obtain ⟨R, hR, hRL⟩ := h.mp
  have hk := hG.keepsO
  have hi : KI w w' := hk.ki (fun b hb cs f e => by
    obtain ⟨cs', hc⟩ := h.ag.tag b (by simpa using hb)
    exact tag_ne hc e (by decide) rfl)
  have hne : ∀ (e : TypeId) (b : Nat) (cs : Array Value), w.heap[b]? = some (Obj.cells cs e (0, 0)) → 3 ≠ e → b ∉ vg.ownBlock.toList := fun e b cs hb hn hm => by
    obtain ⟨cs', hc⟩ := h.ag.tag b (by simpa using hm)
    exact tag_ne hc hb hn rfl
  have hblk : w'.heap[bt]? = _ := (hk.block bt h.lt.1 (hne _ _ _ h.blk (by decide))).trans h.blk
  have hhi : shA.O w' B tA vh X0 := hX0.keepS hk (fun b hb e => by obtain ⟨cs, hc⟩ := hX0.tag b e; exact hne _ _ _ hc (by decide) hb)
  have hop : shQ.O w' B tQ vo t.op := h.op.keepS hk (fun b hb e => by obtain ⟨cs, hc⟩ := h.op.tag b e; exact hne _ _ _ hc (by decide) hb)
  have hR' : MapS.M ktQ aV w' bm R := hR.kept ktQ hk (fun hm => by
    obtain ⟨cs', hc⟩ := h.ag.tag bm (by simpa using hm)
    obtain ⟨es, c, hmm⟩ := hR.isMap
    rw [hc] at hmm; cases hmm)
  obtain ⟨hk2, hi2⟩ := Keeps.setT (o := 10) hblk vg'
  have hnv : vg'.ownBlock ≠ some bt := fun e => by
    obtain ⟨cs, hc⟩ := hO.tag bt e
    exact tag_ne hblk hc (by decide) rfl
  refine ⟨⟨?_, hop.keepS hk2 (by simpa using n2), ⟨X0, hhi.keepS hk2 (by simpa using n3), (hX0L.ki hi).ki hi2⟩, hO.keepS hk2 (by simpa using hnv), ⟨R, hR'.kept ktQ hk2 (by simpa using n1), (hRL.ki hi).ki hi2⟩, ⟨h.inv.ok, h.inv.nd, h.inv.rq, h.inv.rk, h.inv.hi, h.inv.ro⟩, h.bB⟩, hk2, hi, hi2⟩
  have := setCs hblk 10 vg'
  simpa using this
theorem mvAg {vg' : Value} {m : Int} (h : TrM w B bt bm vo vh vg t) (hG : Grw w w' vg vg') (hO : shZ.O w' B 3 vg' (t.ag ++ [m])) :
    Mv (ownT bt bm vo vh vg) (ownT bt bm vo vh vg') w (w'.setCell ⟨bt, 10, none⟩ vg') := by
  obtain ⟨_, hk, hi, hi2⟩ := h.setAg hG hO
  refine ⟨(hG.keepsO.mono (fun b hb => mem_ownT.2 (.inr (.inr (.inr (.inr (by simpa using hb))))))).trans (hk.mono (fun b hb => by simp at hb; subst hb; exact mem_ownT.2 (.inl rfl))), hi.trans hi2, fun b hb => ?_⟩
  rcases mem_ownT.1 hb with e | e | e | e | e
  · exact .inl (mem_ownT.2 (.inl e))
  · exact .inl (mem_ownT.2 (.inr (.inl e)))
  · exact .inl (mem_ownT.2 (.inr (.inr (.inl e))))
  · exact .inl (mem_ownT.2 (.inr (.inr (.inr (.inl e)))))
  · rcases hG.own with e2 | ⟨k, e2, hle⟩
    · exact .inl (mem_ownT.2 (.inr (.inr (.inr (.inr (e2 ▸ e))))))
    · rw [e2] at e; cases e; exact .inr hle
end TrM
/-- What agreeing leaves. -/
def AgrPost (w : World) (B bt bm : Nat) (vo vh vg : Value) (t : Tr) (m : Int) (e : Ending) (w' : World) : Prop :=
  ∃ vg', e = .returned (.int .i64 (t.agreeT m).2) ∧ TrM w' B bt bm vo vh vg' (t.agreeT m).1 ∧ Mv (ownT bt bm vo vh vg) (ownT bt bm vo vh vg') w w'
theorem AgrPost.of {w w' : World} {B bt bm : Nat} {vo vh vg vg' : Value} {t t' : Tr} {m r : Int} (he : t.agreeT m = (t', r)) (hT : TrM w' B bt bm vo vh vg' t') (hM : Mv (ownT bt bm vo vh vg) (ownT bt bm vo vh vg') w w') : AgrPost w B bt bm vo vh vg t m (.returned (.int .i64 r)) w' := by
  unfold AgrPost
  rw [he]
  exact ⟨vg', rfl, hT, hM⟩
set_option maxRecDepth 100000 in
set_option maxHeartbeats 4000000 in
theorem agree_c (w : World) (B bt bm : Nat) (vo vh vg : Value) (t : Tr) (m : Int) (h : TrM w B bt bm vo vh vg t) (hl : t.qs.length ≤ 1000) (hl2 : t.ag.length ≤ 1000) (hag : t.state = 1 → t.ag.length < t.clm.length) :
    Calls Tryz.prog 17 #[.pointer (some ⟨bt, 0, none⟩), .int .i64 m] w (AgrPost w B bt bm vo vh vg t m) := by
  have hc := pending_c w B bt bm vo vh vg t m h hl (fun hs P Y hY hP => by rw [Tr.clm_eq h.inv hY hP]; exact hag hs)
  have hinv := h.inv
  replace hc := Lib.hid hc
  replace h := Lib.hid h
  clear hag
  go_enter Tryz.func17, Tryz.ntmps17
  go_wp2_with fail
  refine hc.out.mono ?_
  rintro e w1 ⟨r, rfl, hk, hcase⟩
  have hT := h.out.keeps hk
  by_cases hr : r = 0
  · have hc2 : t.state = 1 ∧ ∃ p, t.clm[t.ag.length]? = some p ∧ p.m = m := by
      rcases hcase with ⟨_, h2⟩ | ⟨h1, P, Y, p, h2, h3, h4, h5⟩
      · omega
      · refine ⟨h1, p, ?_, ?_⟩
        · rw [← Tr.clm_eq hinv h2 h3]; exact h4
        · by_cases e : p.m = m
          · exact e
          · rw [if_neg e] at h5; omega
    obtain ⟨h1, p, h4, h5⟩ := hc2
    have hres : t.agreeT m = ({ t with ag := t.ag ++ [m], state := if t.ag.length + 1 = t.clm.length then 2 else t.state }, 0) := by
      unfold Tr.agreeT
      rw [if_neg (by simp [h1]), h4]
      simp only
      rw [if_neg (by simp [h5])]
    subst hr
    obtain ⟨ga, gc, rfl⟩ := hT.ag.form
    obtain ⟨LG, hLG⟩ : ∃ n, t.ag.length = n := ⟨_, rfl⟩
    rw [hLG] at hT ⊢
    have d10 := hT.cells.2.2.2.2.2.2.2.2.2.2.1
    have hfr := hT.free
    have hlt := hT.lt
    have hbB := hT.bB
    have hkA := (Keeps.refl [] w1).alloc (.cells #[.int .i64 m] 3)
    have hTA := hT.keeps hkA
    have hm1 := Sh.R.made shZ w1 [m] #[.int .i64 m] 3 rfl (by simp [maxLen]) 1 rfl
    have hsA : B ≤ (w1.alloc (.cells #[.int .i64 m] 3)).heap.size := by simp; omega
    have hOA := hTA.ag
    replace hTA := Lib.hid hTA
    replace hm1 := Lib.hid hm1
    replace hOA := Lib.hid hOA
    have hkw := Lib.hid (hk.trans hkA)
    replace hres := Lib.hid hres
    replace h1 := Lib.hid h1
    replace hLG := Lib.hid hLG
    clear hcase hT h4 h5 hk hkA hc
    go_upto_region 5 with (at_builtin; go_loud (refine Sh.wpl_app shZ B infoZ rfl Tryz.underlying98 (.slice ga LG gc) (.slice (some ⟨w1.heap.size, 0, none⟩) 1 1) t.ag [m] rfl _ _ rfl rfl rfl hOA.out hm1.out (by simp only [List.length_singleton]; omega) hsA ?_; intro v2 w2 hO2 hG2; have hS := hTA.out.setAg hG2 hO2; have hMv := hTA.out.mvAg hG2 hO2; have hb2 := (hG2.keepsO.block bt hTA.out.lt.1 (fun hm => by obtain ⟨cs', hc⟩ := hOA.out.tag bt (by simpa using hm); exact tag_ne hc hTA.out.blk (by decide) rfl)).trans hTA.out.blk; have d2 := (show w2.cell? ⟨bt, 10, none⟩ = some (.slice ga LG gc) by simp [World.cell?, hb2]); have hf2 := (show ∀ o, w2.frozen? ⟨bt, o, none⟩ = false by intro o; simp [World.frozen?, hb2]); have hl2' := lt_of_blk hb2; obtain ⟨g2, c2, rfl⟩ := hO2.form; obtain ⟨L2, hL2⟩ : ∃ n, (t.ag ++ [m]).length = n := ⟨_, rfl⟩; rw [hL2] at hO2 hS hMv ⊢; replace hS := Lib.hid hS; replace hMv := Lib.hid hMv; clear hO2 hG2 hb2 d10))
    have hT3 := hS.out.1
    have hMv3 := (Mv.nil hkw.out).trans hMv.out
    generalize w2.setCell ⟨bt, 10, none⟩ (.slice g2 L2 c2) = w3 at *
    have hcl := claims_c w3.drew B bt bm vo vh _ _ (hT3.keeps ((Keeps.refl [] w3).drew)) hl
    have d10 := hT3.cells.2.2.2.2.2.2.2.2.2.2.1
    have hfr := hT3.free
    have hlt := hT3.lt
    replace hT3 := Lib.hid hT3
    replace hMv3 := Lib.hid hMv3
    replace hcl := Lib.hid hcl
    clear hS hMv hkw hTA hm1 hOA d2 hf2 hl2'
    go_wp2
    refine Free.wp_region_chain (fun i => i == 6) (fun i => true) (fun _ _ => False) (by kernel_rfl) (by kernel_rfl) (by kernel_rfl) ?_
    (repeat (first | (apply Free.cw_pure rfl rfl; (intro w'; go_simp <;> exact rfl); go_frame) | (apply Free.cw_steady rfl rfl rfl; (intro w' hS; have q0 := Free.sx_cell hS d10 (fun _ _ hT => hT); go_simp <;> exact rfl); go_frame) | (refine Free.cw_skip rfl ?_; go_frame)))
    refine Free.cw_loud rfl rfl (fun K hK => ?_)
    go_wp2_with fail
    refine hcl.out.mono ?_
    rintro e w4 ⟨v4, P, V, Bc, Y, rfl, _, hCL, hY, hP, k4⟩
    refine hK _ _ rfl (Free.KeepsP.of k4 (by simp)) ?_
    clear hK K hcl
    obtain ⟨a4, c4, rfl⟩ := hCL.c.form
    have hPe : P = t.clm := by
      have := Tr.clm_eq (t := { t with ag := t.ag ++ [m] }) hT3.out.inv hY hP
      rw [this]; rfl
    obtain ⟨LP, hLP⟩ : ∃ n, (rowsC P V).length = n := ⟨_, rfl⟩
    have hLP2 : LP = t.clm.length := by rw [← hLP, ← hPe]; simp [rowsC]
    rw [hLP]
    have hT4 := hT3.out.keeps (((Keeps.refl [] w3).drew).trans k4)
    have hMv4 := hMv3.out.trans (Mv.nil (((Keeps.refl [] w3).drew).trans k4))
    have hfr4 := hT4.free
    have d9 := hT4.cells.2.2.2.2.2.2.2.2.2.1
    have hL2g : L2 = t.ag.length + 1 := by rw [← hL2]; simp
    replace hLP := Lib.hid hLP
    replace hL2 := Lib.hid hL2
    replace hT4 := Lib.hid hT4
    replace hMv4 := Lib.hid hMv4
    clear hCL hPe k4 hT3 hMv3
    by_cases heq : t.ag.length + 1 = t.clm.length
    · have hb : L2 = LP := by omega
      rw [if_pos heq] at hres
      have hb2 : ((L2 : Int) == (LP : Int)) = true := by simp [hb]
      replace hb := Lib.hid hb
      replace heq := Lib.hid heq
      replace hLP2 := Lib.hid hLP2
      replace hL2g := Lib.hid hL2g
      (repeat (apply Free.cw_pure rfl rfl; (intro w'; go_simp <;> exact rfl); go_frame))
      refine Free.cw_nil ?_
      clear d10
      go_wp2
      go_ret
      rw [hLG.out]
      exact AgrPost.of hres.out (hT4.out.setState 2) (hMv4.out.trans (hT4.out.mvSet 9 _))
    · have hb : ¬ L2 = LP := by omega
      rw [if_neg heq] at hres
      have hb2 : ((L2 : Int) == (LP : Int)) = false := by simp; omega
      replace hb := Lib.hid hb
      replace heq := Lib.hid heq
      replace hLP2 := Lib.hid hLP2
      replace hL2g := Lib.hid hL2g
      (repeat (apply Free.cw_pure rfl rfl; (intro w'; go_simp <;> exact rfl); go_frame))
      refine Free.cw_nil ?_
      clear d10
      go_wp2
      go_ret
      rw [hLG.out]
      exact AgrPost.of hres.out hT4.out hMv4.out
  · have br : (r != 0) = true := by simpa using hr
    have hres : t.agreeT m = (t, r) := by
      rcases hcase with ⟨h1, h2⟩ | ⟨h1, P, Y, p, h2, h3, h4, h5⟩
      · unfold Tr.agreeT; rw [if_pos h1, h2]
      · rw [Tr.clm_eq hinv h2 h3] at h4
        by_cases e : p.m = m
        · rw [if_pos e] at h5; exact absurd h5 hr
        · rw [if_neg e] at h5
          unfold Tr.agreeT
          rw [if_neg (by simp [h1]), h4]
          simp only
          rw [if_pos e, h5]
    replace hT := Lib.hid hT
    replace hk := Lib.hid hk
    replace hres := Lib.hid hres
    clear hcase
    go_wp2
    go_ret
    exact AgrPost.of hres.out hT.out (Mv.nil hk.out)
end Go.Proofs.YtiplgpefapeapaaGreat

namespace Go.Proofs.YtiplgpefapeapaaGreat
open Go.RowKit

theorem LRd.snoc {w : World} {X : List AnV} {Y : List Ans} {x : AnV} {y : Ans} (h : LRd w X Y) (hx : InR w x y) : LRd w (X ++ [x]) (Y ++ [y]) := by
  obtain ⟨hl, hh⟩ := h
  refine ⟨by simp [hl], fun k u v hu hv => ?_⟩
  by_cases hk : k < X.length
  · rw [List.getElem?_append_left hk] at hu
    rw [List.getElem?_append_left (by omega)] at hv
    exact hh k u v hu hv
  · rw [List.getElem?_append_right (by omega)] at hu hv
    rw [← hl] at hv
    obtain ⟨j, hj⟩ : ∃ j, k - X.length = j := ⟨_, rfl⟩
    rw [hj] at hu hv
    cases j with
    | zero => simp at hu hv; subst hu hv; exact hx
    | succ j => simp at hu
/-- While a trace gathers, its history are the recorded answers. -/
def Tr.HistOk (t : Tr) : Prop := t.state = 0 → ∀ b, b ∈ t.hist ↔ ∃ p ∈ t.rec', p.2 = b
end Go.Proofs.YtiplgpefapeapaaGreat

namespace Go.Proofs.YtiplgpefapeapaaGreat
open Go.RowKit

theorem Tr.put_rec {t : Tr} {a : Ans} (hn : t.op.Nodup) (ho : isOpen a.q t.qs = true) (b : Ans) : (∃ p ∈ ((t.take a).put a).rec', p.2 = b) ↔ b = a ∨ ∃ p ∈ t.rec', p.2 = b := by
  have hm := isOpen_mem.1 ho
  have hq : a.q ∈ t.qs.map (·.1) := List.mem_map.2 ⟨_, hm, rfl⟩
  have hr : ((t.take a).put a).rec' = recOf (setQ a.q a t.qs) := fold_rec _ _ _
  rw [hr]
  constructor
  · rintro ⟨⟨k, c⟩, hp, rfl⟩
    rcases (setQ_mem hq k (some c)).1 (recOf_keys.1 hp) with ⟨_, e⟩ | ⟨_, e⟩
    · exact .inl (Option.some.inj e)
    · exact .inr ⟨(k, c), recOf_keys.2 e, rfl⟩
  · rintro (rfl | ⟨⟨k, c⟩, hp, rfl⟩)
    · exact ⟨(b.q, b), recOf_keys.2 ((setQ_mem hq _ _).2 (.inl ⟨rfl, rfl⟩)), rfl⟩
    · refine ⟨(k, c), recOf_keys.2 ((setQ_mem hq _ _).2 ?_), rfl⟩
      have hp2 : (k, some c) ∈ t.qs := recOf_keys.1 hp
      by_cases e : k = a.q
      · subst e
        have := nd_val hn hm hp2
        cases this
      · exact .inr ⟨e, hp2⟩
theorem Tr.HistOk.new (im is : Int) (st : T3) : (Tr.new im is st).HistOk := fun _ b => by simp [Tr.new, Tr.rec', recOf]
theorem Tr.close_hist (t : Tr) : t.close.hist = t.hist ∧ t.close.rec' = t.rec' ∧ (t.close.state = 0 → t.state = 0) := by
  unfold Tr.close
  split
  · exact ⟨rfl, rfl, fun h => by simp at h⟩
  · exact ⟨rfl, rfl, id⟩
theorem Tr.HistOk.answer {t : Tr} {a : Ans} (h : t.HistOk) (hi : t.Inv) : (t.answer a).1.HistOk := by
  unfold Tr.answer
  split
  · exact h
  split
  · exact h
  split
  · exact fun hs => by simp at hs
  split
  · exact fun hs => by simp at hs
  split
  · exact fun hs => by simp at hs
  rename_i h0 ho _ _ _
  intro _ b
  obtain ⟨e1, e2, _⟩ := Tr.close_hist ((t.take a).put a)
  simp only [e1, e2]
  have ho2 : isOpen a.q t.qs = true := by simpa using ho
  rw [Tr.put_rec hi.nd ho2, ← h (by simpa using h0) b]
  show b ∈ t.hist ++ [a] ↔ _
  simp [or_comm]
theorem Tr.HistOk.refuse {t : Tr} (h : t.HistOk) (m : Int) : (t.refuseT m).1.HistOk := by
  unfold Tr.refuseT
  split
  · exact h
  split
  · split
    · exact h
    · exact fun hs => by simp at hs
  · exact h
theorem Tr.HistOk.agree {t : Tr} (h : t.HistOk) (m : Int) : (t.agreeT m).1.HistOk := by
  unfold Tr.agreeT
  split
  · exact h
  rename_i h1
  split
  · split
    · exact h
    · intro hs
      simp only at hs
      split at hs
      · cases hs
      · have : t.state = 1 := by simpa using h1
        omega
  · exact h
end Go.Proofs.YtiplgpefapeapaaGreat

namespace Go.Proofs.YtiplgpefapeapaaGreat
open Go.ChangeShapes Go.WideShapes Go.ChangeAt Go.RowKit

structure Op3 where
  k : Nat
  i : Int
  near : Bool
  a : Ans
structure Op3.Fit (o : Op3) : Prop where
  k : o.k < 256
  i : W64 o.i
  a : o.a.Fit
/-- The questions without an answer. -/
def opens (qs : Qs) : List Qn := (qs.filter (fun p => !p.2.isSome)).map (·.1)
/-- The chosen one. -/
def pick (i : Int) (n : Nat) : Nat := (Int.tmod (Int.tmod i n + n) n).toNat
def Op3.aim (o : Op3) (qs : Qs) : Ans := if o.k ≤ 1 ∧ 0 < (opens qs).length then (match (opens qs)[pick o.i (opens qs).length]? with | some q => { o.a with m := q.1, ow := q.2.1, n := q.2.2 } | none => o.a) else o.a
/-- The machine that a reply is for. -/
def Op3.mach (o : Op3) (t : Tr) : Int := if o.near = true ∧ t.state = 1 then (match t.clm[t.ag.length]? with | some p => p.m | none => o.i) else o.i
def Op3.step (o : Op3) (t : Tr) : Tr :=
  if o.k ≤ 3 then (t.answer (o.aim t.qs)).1 else if o.k = 4 then t.queries.1 else if o.k = 5 then (t.agreeT (o.mach t)).1 else if o.k = 6 then (t.refuseT (o.mach t)).1 else t
end Go.Proofs.YtiplgpefapeapaaGreat

namespace Go.Proofs.YtiplgpefapeapaaGreat
open Go.RowKit

/-- A trace after n operations of at most five entries each. -/
structure Tr.Bnd (t : Tr) (n : Nat) : Prop where
  ho : t.HistOk
  qs : t.qs.length ≤ 1 + 5 * n
  ne : t.qs ≠ []
  hl : t.hist.length ≤ n
  hi : ∀ a ∈ t.hist, a.ins.length ≤ 5
  ag : t.ag.length ≤ n
  tl : ∃ tn : Nat, t.told = tn ∧ tn ≤ t.qs.length
  s1 : t.state = 1 → t.ag.length < t.clm.length
  s0 : t.state = 0 → t.ag = []
  rf : t.rf = true → t.state = 4
theorem Tr.clm_qs {t u : Tr} (h : u.qs = t.qs) : u.clm = t.clm := by
  cases t; cases u
  simp only at h
  subst h
  rfl
theorem Tr.clm_pos {t : Tr} (h : t.Inv) (hn : t.rec' ≠ []) : 0 < t.clm.length := by
  have hs := srtOf_sorted h
  have hp : ClaimsP t (srtOf t.qs) t.clm := refOf_claims hs.2
  obtain ⟨h1, _⟩ := ClaimsP.at' hs.2 hp
  rw [h1]
  obtain ⟨_, _, h3⟩ := rawOf_eq t (outsOf (srtOf t.qs)) (srtOf t.qs) hs.2
  obtain ⟨p, hpm⟩ := List.exists_mem_of_ne_nil _ hn
  have hm : p.2 ∈ srtOf t.qs := hs.1.mem_iff.2 (List.mem_map.2 ⟨p, hpm, rfl⟩)
  have := (h3 p.2.m).2 ⟨p.2, hm, rfl⟩
  exact List.length_pos_of_mem this
theorem Tr.Bnd.new (im is : Int) (st : T3) : (Tr.new im is st).Bnd 0 :=
  ⟨Tr.HistOk.new im is st, by simp [Tr.new], by simp [Tr.new], by simp [Tr.new], by simp [Tr.new], by simp [Tr.new], ⟨0, rfl, by simp [Tr.new]⟩, by simp [Tr.new], by simp [Tr.new], by simp [Tr.new]⟩
theorem Tr.Bnd.mono {t : Tr} {n m : Nat} (h : t.Bnd n) (hm : n ≤ m) : t.Bnd m := ⟨h.ho, by have := h.qs; omega, h.ne, by have := h.hl; omega, h.hi, by have := h.ag; omega, h.tl, h.s1, h.s0, h.rf⟩
theorem setQ_length (q : Qn) (a : Ans) (qs : Qs) : (setQ q a qs).length = qs.length := by unfold setQ; simp
theorem fold_ge (m : Int) : ∀ (l : List T3) (qs : Qs), qs.length ≤ (l.foldl (openQ m) qs).length
  | [], _ => Nat.le_refl _
  | x :: l, qs => Nat.le_trans (by unfold openQ; split <;> simp) (fold_ge m l (openQ m qs x))
theorem Tr.Bnd.answer {t : Tr} {n : Nat} {a : Ans} (h : t.Bnd n) (hi : t.Inv) (hi' : (t.answer a).1.Inv) (ha : a.ins.length ≤ 5) : (t.answer a).1.Bnd (n + 1) := by
  have hho := h.ho.answer (a := a) hi
  have hist : ∀ b ∈ t.hist ++ [a], b.ins.length ≤ 5 := fun b hb => by
    rcases List.mem_append.1 hb with hb | hb
    · exact h.hi b hb
    · rw [List.mem_singleton.1 hb]; exact ha
  have hl : (t.hist ++ [a]).length ≤ n + 1 := by have := h.hl; simp; omega
  have hg : t.ag.length ≤ n + 1 := by have := h.ag; omega
  have hq : t.qs.length ≤ 1 + 5 * (n + 1) := by have := h.qs; omega
  revert hho hi'
  unfold Tr.answer
  split
  · exact fun _ _ => h.mono (by omega)
  rename_i h0
  have h0 : t.state = 0 := by simpa using h0
  have hrf : t.rf = false := by
    cases e : t.rf with
    | false => rfl
    | true => have := h.rf e; omega
  split
  · exact fun _ _ => h.mono (by omega)
  split
  · exact fun _ hho => ⟨hho, hq, h.ne, hl, hist, hg, h.tl, by simp, by simp, fun _ => rfl⟩
  split
  · exact fun _ hho => ⟨hho, hq, h.ne, hl, hist, hg, h.tl, by simp, by simp, fun e => by simp [Tr.take, hrf] at e⟩
  split
  · exact fun _ hho => ⟨hho, hq, h.ne, hl, hist, hg, h.tl, by simp, by simp, fun _ => rfl⟩
  intro hi' hho
  obtain ⟨tn, e1, e2⟩ := h.tl
  have hlen : ((t.take a).put a).qs.length ≤ 1 + 5 * (n + 1) := by
    have := fold_len a.m a.ins (setQ a.q a t.qs)
    rw [setQ_length] at this
    have h2 := h.qs
    show (a.ins.foldl (openQ a.m) (setQ a.q a t.qs)).length ≤ _
    omega
  have hge : t.qs.length ≤ ((t.take a).put a).qs.length := by
    have := fold_ge a.m a.ins (setQ a.q a t.qs)
    rw [setQ_length] at this
    exact this
  have hpos : 0 < t.qs.length := List.length_pos_iff.2 h.ne
  have hne : ((t.take a).put a).qs ≠ [] := List.length_pos_iff.1 (by omega)
  unfold Tr.close at hho hi' ⊢
  by_cases hall : allQ ((t.take a).put a).qs = true
  · simp only [hall, if_true] at hho hi' ⊢
    refine ⟨hho, hlen, hne, hl, hist, hg, ⟨tn, e1, by simp only; omega⟩, fun _ => ?_, by simp, fun e => by simp [Tr.take, Tr.put, hrf] at e⟩
    have hag : ((t.take a).put a).ag = [] := h.s0 h0
    have hcp := Tr.clm_pos hi' (fun e => by
      have := (rec_len ((t.take a).put a).qs).2.2 hall
      have e' : recOf ((t.take a).put a).qs = [] := e
      rw [e'] at this
      simp at this
      omega)
    show ((t.take a).put a).ag.length < _
    rw [hag]
    exact hcp
  · simp only [hall] at hho hi' ⊢
    exact ⟨hho, hlen, hne, hl, hist, hg, ⟨tn, e1, by simp only [Bool.false_eq_true, if_false]; omega⟩, fun e => by simp [Tr.take, Tr.put, h0] at e, fun _ => h.s0 h0, fun e => by simp [Tr.take, Tr.put, hrf] at e⟩
theorem Tr.Bnd.queries {t : Tr} {n : Nat} (h : t.Bnd n) : t.queries.1.Bnd (n + 1) := by
  unfold Tr.queries
  split
  · exact h.mono (by omega)
  · exact ⟨h.ho, by have := h.qs; simp only; omega, h.ne, by have := h.hl; simp only; omega, h.hi, by have := h.ag; simp only; omega, ⟨t.qs.length, rfl, Nat.le_refl _⟩, h.s1, h.s0, h.rf⟩
theorem Tr.Bnd.agree {t : Tr} {n : Nat} (h : t.Bnd n) (m : Int) : (t.agreeT m).1.Bnd (n + 1) := by
  have hho := h.ho.agree m
  revert hho
  unfold Tr.agreeT
  split
  · exact fun _ => h.mono (by omega)
  rename_i h1
  have h1 : t.state = 1 := by simpa using h1
  have hlt := h.s1 h1
  split
  · split
    · exact fun _ => h.mono (by omega)
    · intro hho
      refine ⟨hho, by have := h.qs; simp only; omega, h.ne, by have := h.hl; simp only; omega, h.hi, by have := h.ag; simp; omega, h.tl, fun e => ?_, fun e => ?_, fun e => ?_⟩
      · simp only at e
        split at e
        · omega
        · rename_i hne
          have e2 := @Tr.clm_qs t { t with ag := t.ag ++ [m], state := if t.ag.length + 1 = t.clm.length then 2 else t.state } rfl
          rw [e2]
          simp only [List.length_append, List.length_cons, List.length_nil]
          omega
      · simp only at e
        split at e <;> omega
      · have := h.rf e
        omega
  · exact fun _ => h.mono (by omega)
theorem Tr.Bnd.refuse {t : Tr} {n : Nat} (h : t.Bnd n) (m : Int) : (t.refuseT m).1.Bnd (n + 1) := by
  have hho := h.ho.refuse m
  revert hho
  unfold Tr.refuseT
  split
  · exact fun _ => h.mono (by omega)
  split
  · split
    · exact fun _ => h.mono (by omega)
    · intro hho
      exact ⟨hho, by have := h.qs; simp only; omega, h.ne, by have := h.hl; simp only; omega, h.hi, by have := h.ag; simp only; omega, h.tl, by simp, by simp, fun _ => rfl⟩
  · exact fun _ => h.mono (by omega)
end Go.Proofs.YtiplgpefapeapaaGreat

namespace Go.Proofs.YtiplgpefapeapaaGreat
open Go.RowKit

/-- An inset, an answer, as the reader reads them. -/
def rX (s : RS) : T3 × RS := (((rI s).1, (rU (rI s).2).1, (rI (rU (rI s).2).2).1), (rI (rU (rI s).2).2).2)
/-- The seven fields of an answer, read one after the other. -/
def f1 (s : RS) : RS := (rI s).2
def f2 (s : RS) : RS := (rI (f1 s)).2
def f3 (s : RS) : RS := (rU (f2 s)).2
def f4 (s : RS) : RS := (rI (f3 s)).2
def f5 (s : RS) : RS := (rB (f4 s)).2
def f6 (s : RS) : RS := (rB (f5 s)).2
def f7 (s : RS) : RS := (rI (f6 s)).2
def rA0 (s : RS) : Ans := ⟨(rI s).1, (rI (f1 s)).1, (rU (f2 s)).1, (rI (f3 s)).1, (rB (f4 s)).1, (rB (f5 s)).1, (rI (f6 s)).1, []⟩
/-- One answer more. -/
abbrev DS := RS × Tr × Bool
/-- The machine of the pending claim. -/
def Tr.pm (t : Tr) : Int := match t.clm[t.ag.length]? with | some p => p.m | none => 0
def gS (t : Tr) : Option Tr := if t.state = 1 then some (t.agreeT t.pm).1 else none
def gA (t : Tr) : Nat → Option Tr
  | 0 => some t
  | k + 1 => (gA t k).bind gS
def rfS (b : Bool) (t : Tr) : Option Tr := if b = true then (if t.state = 1 then some (t.refuseT t.pm).1 else none) else some t
/-- The head of the encoding. -/
def h1 (l : List UInt8) : RS := (rI (l, 0)).2
def h2 (l : List UInt8) : RS := (rI (h1 l)).2
def h3 (l : List UInt8) : RS := (rI (h2 l)).2
def h4 (l : List UInt8) : RS := (rU (h3 l)).2
def h5 (l : List UInt8) : RS := (rI (h4 l)).2
def h6 (l : List UInt8) : RS := (rU (h5 l)).2
def hT (l : List UInt8) : Tr := Tr.new (rI (l, 0)).1 (rI (h1 l)).1 ((rI (h2 l)).1, (rU (h3 l)).1, (rI (h4 l)).1)
def hTold (l : List UInt8) : Nat := min (rU (h5 l)).1 1025
def hX (l : List UInt8) : DS := ((rCS l.length (h6 l)).2, hT l, decide (hTold l = 0) || decide (hTold l = 1))
def hN (l : List UInt8) : Nat := (rCS l.length (h6 l)).1
/-- What holds of the trace while it is played again. -/
structure Tr.Dc (t : Tr) : Prop where
  s1 : t.state = 1 → t.ag.length < t.clm.length
  s0 : t.state = 0 → t.ag = []
  ne : t.qs ≠ []
  rf : t.rf = false
theorem Tr.Dc.new (im is : Int) (st : T3) : (Tr.new im is st).Dc := ⟨by simp [Tr.new], by simp [Tr.new], by simp [Tr.new], rfl⟩
theorem Tr.Dc.answer {t : Tr} {a : Ans} (h : t.Dc) (hi' : (t.answer a).1.Inv) : (t.answer a).1.Dc := by
  revert hi'
  unfold Tr.answer
  split
  · exact fun _ => h
  rename_i h0
  have h0 : t.state = 0 := by simpa using h0
  split
  · exact fun _ => h
  split
  · exact fun _ => ⟨by simp, by simp, h.ne, h.rf⟩
  split
  · exact fun _ => ⟨by simp, by simp, h.ne, h.rf⟩
  split
  · exact fun _ => ⟨by simp, by simp, h.ne, h.rf⟩
  intro hi'
  have hge : t.qs.length ≤ ((t.take a).put a).qs.length := by
    have := fold_ge a.m a.ins (setQ a.q a t.qs)
    rw [setQ_length] at this
    exact this
  have hpos : 0 < t.qs.length := List.length_pos_iff.2 h.ne
  have hne : ((t.take a).put a).qs ≠ [] := List.length_pos_iff.1 (by omega)
  unfold Tr.close at hi' ⊢
  by_cases hall : allQ ((t.take a).put a).qs = true
  · simp only [hall, if_true] at hi' ⊢
    refine ⟨fun _ => ?_, by simp, hne, h.rf⟩
    have hag : ((t.take a).put a).ag = [] := h.s0 h0
    have hcp := Tr.clm_pos hi' (fun e => by
      have := (rec_len ((t.take a).put a).qs).2.2 hall
      have e' : recOf ((t.take a).put a).qs = [] := e
      rw [e'] at this
      simp at this
      omega)
    show ((t.take a).put a).ag.length < _
    rw [hag]
    exact hcp
  · simp only [hall] at hi' ⊢
    exact ⟨fun e => by simp [Tr.take, Tr.put, h0] at e, fun _ => h.s0 h0, hne, h.rf⟩
theorem Tr.Dc.pm {t : Tr} (h : t.Dc) (h1 : t.state = 1) : ∃ p, t.clm[t.ag.length]? = some p ∧ t.pm = p.m := by
  have := h.s1 h1
  refine ⟨_, List.getElem?_eq_getElem this, ?_⟩
  unfold Tr.pm
  rw [List.getElem?_eq_getElem this]
theorem Tr.Dc.agree_eq {t : Tr} (h : t.Dc) (h1 : t.state = 1) : t.agreeT t.pm = ({ t with ag := t.ag ++ [t.pm], state := if t.ag.length + 1 = t.clm.length then 2 else t.state }, 0) := by
  obtain ⟨p, hp, hm⟩ := h.pm h1
  unfold Tr.agreeT
  rw [if_neg (by simp [h1]), hp]
  simp only
  rw [if_neg (by simp [hm])]
theorem Tr.Dc.refuse_eq {t : Tr} (h : t.Dc) (h1 : t.state = 1) : t.refuseT t.pm = ({ t with state := 4, rf := true }, 0) := by
  obtain ⟨p, hp, hm⟩ := h.pm h1
  unfold Tr.refuseT
  rw [if_neg (by simp [h1]), hp]
  simp only
  rw [if_neg (by simp [hm])]
theorem Tr.Dc.agree {t : Tr} (h : t.Dc) (h1 : t.state = 1) : (t.agreeT t.pm).1.Dc := by
  rw [h.agree_eq h1]
  have hlt := h.s1 h1
  refine ⟨fun e => ?_, fun e => ?_, h.ne, h.rf⟩
  · simp only at e
    split at e
    · omega
    · rename_i hne
      have e2 := @Tr.clm_qs t { t with ag := t.ag ++ [t.pm], state := if t.ag.length + 1 = t.clm.length then 2 else t.state } rfl
      rw [e2]
      simp only [List.length_append, List.length_cons, List.length_nil]
      omega
  · simp only at e
    split at e <;> omega
theorem msA_len (L : List Int) (a : Ans) : (msA L a).length ≤ L.length + 1 := by unfold msA; split <;> simp
theorem msF_len : ∀ (Y : List Ans) (L : List Int), (Y.foldl msA L).length ≤ L.length + Y.length
  | [], L => by simp
  | a :: Y, L => by
    have ih := msF_len Y (msA L a)
    have := msA_len L a
    rw [List.foldl_cons, List.length_cons]
    omega
theorem ms_len (Y : List Ans) : (msOf Y).length ≤ Y.length := by have := msF_len Y []; simpa [msOf] using this
theorem Tr.clm_len {t : Tr} (h : t.Inv) : t.clm.length ≤ t.qs.length := by
  have hs := srtOf_sorted h
  have hp : ClaimsP t (srtOf t.qs) t.clm := refOf_claims hs.2
  obtain ⟨e1, _⟩ := ClaimsP.at' hs.2 hp
  rw [e1]
  have e2 := ms_len (srtOf t.qs)
  have e3 := hs.1.length_eq
  have e4 := (rec_len t.qs).1
  rw [List.length_map] at e3
  have e5 : t.rec' = recOf t.qs := rfl
  rw [e5] at e3
  omega
end Go.Proofs.YtiplgpefapeapaaGreat

namespace Go.Proofs.YtiplgpefapeapaaGreat
open Go.RowKit

structure Tr.Di (t : Tr) (k : Nat) : Prop where
  dc : t.Dc
  hl : t.hist.length ≤ k
  hi : ∀ a ∈ t.hist, a.ins.length ≤ 1000
  nm : t.Num
  ag : t.ag.length ≤ 1000
  st : 0 ≤ t.state ∧ t.state ≤ 4
theorem Tr.Di.new (im is : Int) (st : T3) (h1 : W64 im) (h2 : W64 is) (h3 : W64 st.1) (h4 : st.2.1 < 18446744073709551616) (h5 : W64 st.2.2) : (Tr.new im is st).Di 0 :=
  ⟨Tr.Dc.new im is st, by simp [Tr.new], by simp [Tr.new], ⟨h1, h2, h3, h4, h5⟩, by simp [Tr.new], by simp [Tr.new]⟩
theorem Tr.answer_hist (t : Tr) (a : Ans) : ((t.answer a).1.hist = t.hist ∨ (t.answer a).1.hist = t.hist ++ [a]) ∧ (t.answer a).1.im = t.im ∧ (t.answer a).1.is = t.is ∧ (t.answer a).1.st = t.st ∧ (t.answer a).1.ag = t.ag := by
  unfold Tr.answer
  split
  · exact ⟨.inl rfl, rfl, rfl, rfl, rfl⟩
  split
  · exact ⟨.inl rfl, rfl, rfl, rfl, rfl⟩
  split
  · exact ⟨.inr rfl, rfl, rfl, rfl, rfl⟩
  split
  · exact ⟨.inr rfl, rfl, rfl, rfl, rfl⟩
  split
  · exact ⟨.inr rfl, rfl, rfl, rfl, rfl⟩
  unfold Tr.close
  split <;> exact ⟨.inr rfl, rfl, rfl, rfl, rfl⟩
theorem Tr.answer_st {t : Tr} (h : 0 ≤ t.state ∧ t.state ≤ 4) (a : Ans) : 0 ≤ (t.answer a).1.state ∧ (t.answer a).1.state ≤ 4 := by
  unfold Tr.answer
  split
  · exact h
  split
  · exact h
  split
  · simp
  split
  · simp
  split
  · simp
  unfold Tr.close
  split
  · simp
  · exact h
theorem Tr.Di.answer {t : Tr} {k : Nat} {a : Ans} (h : t.Di k) (hi' : (t.answer a).1.Inv) (ha : a.ins.length ≤ 1000) : (t.answer a).1.Di (k + 1) := by
  obtain ⟨h1, h2, h3, h4, h5⟩ := Tr.answer_hist t a
  refine ⟨h.dc.answer hi', ?_, ?_, ?_, by rw [h5]; exact h.ag, Tr.answer_st h.st a⟩
  · have := h.hl
    rcases h1 with e | e
    · rw [e]; omega
    · rw [e]; simp; omega
  · intro b hb
    rcases h1 with e | e
    · rw [e] at hb; exact h.hi b hb
    · rw [e] at hb
      rcases List.mem_append.1 hb with hb | hb
      · exact h.hi b hb
      · rw [List.mem_singleton.1 hb]; exact ha
  · exact ⟨by rw [h2]; exact h.nm.im, by rw [h3]; exact h.nm.is, by rw [h4]; exact h.nm.s0, by rw [h4]; exact h.nm.s1, by rw [h4]; exact h.nm.s2⟩
theorem Tr.Di.agree {t : Tr} {k : Nat} (h : t.Di k) (h1 : t.state = 1) (hi : t.Inv) (hq : t.qs.length ≤ 1000) : (t.agreeT t.pm).1.Di k :=
  ⟨h.dc.agree h1, by rw [h.dc.agree_eq h1]; exact h.hl, by rw [h.dc.agree_eq h1]; exact h.hi, by rw [h.dc.agree_eq h1]; exact ⟨h.nm.im, h.nm.is, h.nm.s0, h.nm.s1, h.nm.s2⟩, by
    rw [h.dc.agree_eq h1]
    have e1 := h.dc.s1 h1
    have e2 := Tr.clm_len hi
    simp
    omega, by
    rw [h.dc.agree_eq h1]
    have := h.st
    simp only
    split <;> omega⟩
theorem Tr.Di.refuse {t : Tr} {k : Nat} (h : t.Di k) (h1 : t.state = 1) : (t.refuseT t.pm).2 = 0 ∧ (t.refuseT t.pm).1.hist = t.hist ∧ (t.refuseT t.pm).1.Num ∧ (t.refuseT t.pm).1.ag = t.ag ∧ (t.refuseT t.pm).1.state = 4 := by
  rw [h.dc.refuse_eq h1]
  exact ⟨rfl, rfl, ⟨h.nm.im, h.nm.is, h.nm.s0, h.nm.s1, h.nm.s2⟩, rfl, rfl⟩
end Go.Proofs.YtiplgpefapeapaaGreat

namespace Go.Proofs.YtiplgpefapeapaaGreat
open Go.RowKit

theorem Sh.O.lowD {α : Type} {s : Sh α} {w : World} {B B' e : Nat} {v : Value} {L : List α} (h : s.O w B e v L) (hB : B' ≤ B) : s.O w B' e v L := by
  refine ⟨h.1, ?_⟩
  rcases h.2 with hn | ⟨g, cap, cur, rfl, h1, rest⟩
  · exact .inl hn
  · exact .inr ⟨g, cap, cur, rfl, Nat.le_trans hB h1, rest⟩
theorem TrM.lowD {w : World} {B B' bt bm : Nat} {vo vh vg : Value} {t : Tr} (h : TrM w B bt bm vo vh vg t) (hB : B' ≤ B) : TrM w B' bt bm vo vh vg t := by
  obtain ⟨X, hX, hXL⟩ := h.hi
  exact ⟨h.blk, h.op.lowD hB, ⟨X, hX.lowD hB, hXL⟩, h.ag.lowD hB, h.mp, h.inv, ⟨Nat.le_trans hB h.bB.1, Nat.le_trans hB h.bB.2⟩⟩
abbrev tRd : Nat := 126
theorem RdS.tag {w : World} {br : Nat} {s : RS} (h : RdS w br s) : ∃ cs : Array Value, w.heap[br]? = some (Obj.cells cs tRd (0, 0)) := by obtain ⟨v, h⟩ := h; exact ⟨_, h.1⟩
theorem SlV.moved {w w' : World} {v : Value} {l : List UInt8} {S : List Nat} (h : SlV w v l) (hk : Keeps S w w') (hS : ∀ b ∈ S, ∀ cs : Array Value, w.heap[b]? ≠ some (Obj.cells cs tB (0, 0))) : SlV w' v l := by
  obtain ⟨⟨p1, a, cap, rfl, h2, h3, h0, h4⟩, ht⟩ := h
  have hblk : ∀ g, (Value.slice a l.length cap).ownBlock = some g → w'.heap[g]? = w.heap[g]? := fun g hg => by
    obtain ⟨cs, hc⟩ := ht g hg
    exact hk.block g (lt_of_blk hc) (fun hm => hS g hm cs hc)
  refine ⟨⟨p1, a, cap, rfl, h2, h3, h0, fun hp => ?_⟩, fun g hg => by obtain ⟨cs, hc⟩ := ht g hg; exact ⟨cs, (hblk g hg).trans hc⟩⟩
  obtain ⟨g, o, rfl, hc⟩ := h4 hp
  exact ⟨g, o, rfl, fun j u hj => (World.cell?_of_block (w := w) (a := ⟨g, o + j, none⟩) (hblk g rfl)).trans (hc j u hj)⟩
theorem RdS.moved {w w' : World} {br : Nat} {s : RS} {S : List Nat} (h : RdS w br s) (hk : Keeps S w w') (hbr : br ∉ S) (hS : ∀ b ∈ S, ∀ cs : Array Value, w.heap[b]? ≠ some (Obj.cells cs tB (0, 0))) : RdS w' br s := by
  obtain ⟨v, h1, h2⟩ := h
  exact ⟨v, (hk.block br (lt_of_blk h1) hbr).trans h1, h2.moved hk hS⟩
theorem TrM.nob {w : World} {B bt bm : Nat} {vo vh vg : Value} {t : Tr} (h : TrM w B bt bm vo vh vg t) : ∀ b ∈ ownT bt bm vo vh vg, ∀ cs : Array Value, w.heap[b]? ≠ some (Obj.cells cs tB (0, 0)) := fun b hb cs e => by
  obtain ⟨_, _, ⟨es, c, h1⟩ | ⟨cs', e', h1, h2⟩⟩ := h.own_tag hb
  · rw [h1] at e; cases e
  · rw [h1] at e
    cases e
    rcases h2 with h2 | h2 | h2 | h2 <;> exact absurd h2 (by decide)
/-- The reader in Decode's memory. -/
structure RM (w W : World) (br : Nat) (s : RS) : Prop where
  r : RdS W br s
  k : Keeps [] w W
  ge : w.heap.size ≤ br
structure DM (w W : World) (br bt bm : Nat) (vo vh vg : Value) (s : RS) (t : Tr) : Prop where
  r : RM w W br s
  m : TrM W (br + 1) bt bm vo vh vg t
namespace RM
variable {w W W' : World} {br : Nat} {s s' : RS}
theorem lt (h : RM w W br s) : br < W.heap.size := h.r.lt
theorem ref (h : RM w W br s) (hr : RdS W' br s') (hk : Keeps [br] W W') : RM w W' br s' := ⟨hr, h.k.fresh hk (fun b hb => .inr (by simp at hb; have := h.ge; omega)), h.ge⟩
theorem keeps (h : RM w W br s) (hk : Keeps [] W W') : RM w W' br s := ⟨h.r.keeps hk, h.k.trans hk, h.ge⟩
theorem int (h : RM w W br s) : Calls Tryz.prog 25 #[.pointer (some ⟨br, 0, none⟩)] W fun e W' => e = .returned (.int .i64 (rI s).1) ∧ RM w W' br (rI s).2 ∧ Keeps [br] W W' :=
  (intS_c W br s h.r).mono fun _ _ ⟨h1, h2, h3⟩ => ⟨h1, h.ref h2 h3, h3⟩
theorem bool (h : RM w W br s) : Calls Tryz.prog 30 #[.pointer (some ⟨br, 0, none⟩)] W fun e W' => e = .returned (.bool (rB s).1) ∧ RM w W' br (rB s).2 ∧ Keeps [br] W W' :=
  (boolS_c W br s h.r).mono fun _ _ ⟨h1, h2, h3⟩ => ⟨h1, h.ref h2 h3, h3⟩
theorem count (h : RM w W br s) (K : Nat) (hK : K ≤ 1099511627776) : Calls Tryz.prog 79 #[.pointer (some ⟨br, 0, none⟩), .int .i64 (K : Nat)] W fun e W' => e = .returned (.int .i64 (rCS K s).1) ∧ RM w W' br (rCS K s).2 ∧ Keeps [br] W W' :=
  (countS_c K hK W br s h.r).mono fun _ _ ⟨h1, h2, h3⟩ => ⟨h1, h.ref h2 h3, h3⟩
end RM
namespace DM
variable {w W W' : World} {br bt bm : Nat} {vo vh vg vo' vh' vg' : Value} {s s' : RS} {t t' : Tr}
/-- Other blocks than the trace's were written, the reader is in another state. -/
theorem ref (h : DM w W br bt bm vo vh vg s t) (hr : RM w W' br s') (hk : Keeps [br] W W') : DM w W' br bt bm vo vh vg s' t := by
  obtain ⟨cs, hc⟩ := h.r.r.tag
  refine ⟨hr, h.m.keep hk (fun b hb e => ?_) (hk.ki (fun b hb cs' f hx => ?_))⟩
  · have := (h.m.own_tag hb).1
    simp at e
    omega
  · simp at hb
    subst hb
    rw [hc] at hx
    simp only [Option.some.injEq, Obj.cells.injEq] at hx
    exact absurd hx.2.1 (by decide)
theorem keeps (h : DM w W br bt bm vo vh vg s t) (hk : Keeps [] W W') : DM w W' br bt bm vo vh vg s t := ⟨h.r.keeps hk, h.m.keeps hk⟩
theorem mv (h : DM w W br bt bm vo vh vg s t) (hm : TrM W' (br + 1) bt bm vo' vh' vg' t') (hM : Mv (ownT bt bm vo vh vg) (ownT bt bm vo' vh' vg') W W') : DM w W' br bt bm vo' vh' vg' s t' :=
  ⟨⟨h.r.r.moved hM.k (fun hb => by have := (h.m.own_tag hb).1; omega) h.m.nob, h.r.k.fresh hM.k (fun b hb => .inr (by have := (h.m.own_tag hb).1; have := h.r.ge; omega)), h.r.ge⟩, hm⟩
theorem int (h : DM w W br bt bm vo vh vg s t) : Calls Tryz.prog 25 #[.pointer (some ⟨br, 0, none⟩)] W fun e W' => e = .returned (.int .i64 (rI s).1) ∧ DM w W' br bt bm vo vh vg (rI s).2 t ∧ Keeps [br] W W' :=
  h.r.int.mono fun _ _ ⟨h1, h2, h3⟩ => ⟨h1, h.ref h2 h3, h3⟩
theorem bool (h : DM w W br bt bm vo vh vg s t) : Calls Tryz.prog 30 #[.pointer (some ⟨br, 0, none⟩)] W fun e W' => e = .returned (.bool (rB s).1) ∧ DM w W' br bt bm vo vh vg (rB s).2 t ∧ Keeps [br] W W' :=
  h.r.bool.mono fun _ _ ⟨h1, h2, h3⟩ => ⟨h1, h.ref h2 h3, h3⟩
theorem count (h : DM w W br bt bm vo vh vg s t) (K : Nat) (hK : K ≤ 1099511627776) : Calls Tryz.prog 79 #[.pointer (some ⟨br, 0, none⟩), .int .i64 (K : Nat)] W fun e W' => e = .returned (.int .i64 (rCS K s).1) ∧ DM w W' br bt bm vo vh vg (rCS K s).2 t ∧ Keeps [br] W W' :=
  (h.r.count K hK).mono fun _ _ ⟨h1, h2, h3⟩ => ⟨h1, h.ref h2 h3, h3⟩
theorem blk (h : DM w W br bt bm vo vh vg s t) {b : Nat} {o : Obj} (hb : W.heap[b]? = some o) (hk : Keeps [br] W W') (hne : b ≠ br) : W'.heap[b]? = some o := (hk.block b (lt_of_blk hb) (by simpa using hne)).trans hb
end DM
theorem RM.blk {w W W' : World} {br b : Nat} {s : RS} {o : Obj} (_ : RM w W br s) (hb : W.heap[b]? = some o) (hk : Keeps [br] W W') (hne : b ≠ br) : W'.heap[b]? = some o := (hk.block b (lt_of_blk hb) (by simpa using hne)).trans hb
theorem Sh.owp_app {α : Type} {P : Program} {o : Oper} {a : Act} {w : World} {K : Act → World → Prop} {Q : Exit → Act → World → Prop} (s : Sh α) (B : Nat) {e t : TypeId} {z : Value} {by_ : Nat} (hinf : (P.info? e).map (fun i => (i.zero, i.size, i.bytes)) = some (some z, s.sz, by_)) (hz : z.cells.size = s.sz) (ht : P.underlying t = some (.slice e))
    (v v2 : Value) (L M : List α) (x y : Operand) (ho : o.op = .call { callee := .builtin .append, args := #[x, y], argTypes := #[t, t] }) (hs : a.eval x = v) (hx : a.eval y = v2) (h : s.O w B e v L) (hsl : s.R w v2 M)
    (hl : (L.length + M.length) * (by_ + 1) ≤ 140737488355328) (hB : B ≤ w.heap.size) (hR : ∀ v' w', s.O w' B e v' (L ++ M) → Grw w w' v v' → K (a.put o.dst v') w') : o.wp P a w K Q := by
  obtain ⟨i0, hi, hz0, hz1, hz2⟩ := info_parts hinf
  have h1 : L.length + M.length ≤ (L.length + M.length) * (by_ + 1) := Nat.le_mul_of_pos_right _ (by omega)
  have h2 : (L.length + M.length) * by_ ≤ (L.length + M.length) * (by_ + 1) := Nat.mul_le_mul_left _ (by omega)
  obtain ⟨v', w', hr, h3, h4, _⟩ := run_append_x (P := P) B t o.type e i0 z s.sz by_ ht hi hz0 hz1 hz2 hz s.pos v L.length (s.cs L) h v2 M.length (s.cs M) hsl (Sh.cs_one M) (by unfold maxLen; omega) (by omega) hB
  unfold Oper.wp execOp
  simp only [ho, resolve, invoke, builtin, Sem.run_bind, Sem.run_pure, Result.andThen_ok, List.map_toArray, List.map_cons, List.map_nil, hs, hx, hr]
  refine hR v' w' ?_ h4
  unfold Sh.O
  rw [Sh.cs_append, List.length_append]
  exact h3
theorem RM.moved {w W W' : World} {br : Nat} {s : RS} {S : List Nat} (h : RM w W br s) (hk : Keeps S W W') (hbr : br ∉ S) (hS : ∀ b ∈ S, ∀ cs : Array Value, W.heap[b]? ≠ some (Obj.cells cs tB (0, 0))) (hw : ∀ b ∈ S, w.heap.size ≤ b) : RM w W' br s :=
  ⟨h.r.moved hk hbr hS, h.k.fresh hk (fun b hb => .inr (hw b hb)), h.ge⟩
namespace DM
variable {w W W' : World} {br bt bm : Nat} {vo vh vg : Value} {s : RS} {t : Tr}
theorem agree (h : DM w W br bt bm vo vh vg s t) (hq : t.qs.length ≤ 1000) (ha : t.ag.length ≤ 1000) (hd : t.Dc) : Calls Tryz.prog 17 #[.pointer (some ⟨bt, 0, none⟩), .int .i64 t.pm] W fun e W' => ∃ vg' r, e = .returned (.int .i64 r) ∧ DM w W' br bt bm vo vh vg' s (t.agreeT t.pm).1 :=
  (agree_c W (br + 1) bt bm vo vh vg t t.pm h.m hq ha hd.s1).mono fun e W' ⟨vg', h1, h2, h3⟩ => ⟨vg', _, h1, h.mv h2 h3⟩
theorem told (h : DM w W br bt bm vo vh vg s t) (n : Int) : DM w (W.setCell ⟨bt, 6, none⟩ (.int .i64 n)) br bt bm vo vh vg s { t with told := n } :=
  h.mv (h.m.setTold n) (h.m.mvSet 6 _)
end DM
end Go.Proofs.YtiplgpefapeapaaGreat

namespace Go.Proofs.YtiplgpefapeapaaGreat
namespace Free
open Go Go.RowKit

/-- What stays of an operation if only its edges, and the numbers of operations, are changed. -/
structure Like (o o' : Oper) : Prop where
  op : o'.op = o.op
  dst : o'.dst = o.dst
  type : o'.type = o.type
theorem Like.refl (o : Oper) : Like o o := ⟨rfl, rfl, rfl⟩
theorem Like.wp {P : Program} {o o' : Oper} (h : Like o o') {a : Act} {w : World} {K : Act → World → Prop} {Q : Exit → Act → World → Prop} (hw : o'.wp P a w K Q) : o.wp P a w K Q := by
  obtain ⟨d, op, t, p, af, g⟩ := o
  obtain ⟨d', op', t', p', af', g'⟩ := o'
  obtain ⟨h1, h2, h3⟩ := h
  simp only at h1 h2 h3
  subst h1 h2 h3
  exact hw
variable {P : Program} {Q : Exit → Act → World → Prop}
/-- The operations of a region under other numbers. -/
structure Ren (ops ops' : Array Oper) (p : Nat → Nat) : Prop where
  size : ops'.size = ops.size
  lt : ∀ i, p i < ops.size ↔ i < ops.size
  inj : ∀ i j, p i = p j → i = j
  sur : ∀ j, ∃ i, p i = j
  like : ∀ i o, ops[i]? = some o → ∃ o', ops'[p i]? = some o' ∧ Like o o' ∧ ∀ tmps, Region.wanted o' (yielded ops' tmps) = Region.wanted o (yielded ops tmps)
def RelL (n : Nat) (p : Nat → Nat) (L L' : Array Bool) : Prop := L.size = n ∧ L'.size = n ∧ ∀ i, L'.getD (p i) false = L.getD i false
theorem RelL.set {n : Nat} {p : Nat → Nat} {L L' : Array Bool} (h : RelL n p L L') (hp : ∀ i, p i < n ↔ i < n) (hi : ∀ i j, p i = p j → i = j) (i : Nat) : RelL n p (L.setIfInBounds i true) (L'.setIfInBounds (p i) true) := by
  obtain ⟨h1, h2, h3⟩ := h
  refine ⟨by simp [h1], by simp [h2], fun j => ?_⟩
  have h4 := h3 j
  have h5 := hp i
  simp only [Array.getD_eq_getD_getElem?, Array.getElem?_setIfInBounds, h1, h2] at h4 ⊢
  by_cases e : i = j
  · subst e
    simp only [if_true]
    by_cases hn : i < n
    · rw [if_pos hn, if_pos (h5.2 hn)]
    · rw [if_neg hn, if_neg (fun hh => hn (h5.1 hh))]
  · rw [if_neg e, if_neg (fun hh => e (hi _ _ hh))]
    exact h4
/-- Which operations are ready. -/
def Go1 (ops : Array Oper) (L : Array Bool) (o : Oper) : Prop := ∀ e ∈ o.after, Region.binds .any e = true → L.getD e.on false = true
def renI (c f i : Nat) : Nat := if i = f then c else if c ≤ i ∧ i < f then i + 1 else i
def addA (o : Oper) (on : Nat) : Oper := { o with after := o.after.push ⟨on, .data⟩ }
def renO (c f : Nat) (o : Oper) : Oper := { o with after := o.after.map (fun e => { e with on := renI c f e.on }), guard := o.guard.map fun g => (renI c f g.1, g.2) }
def ops1L (l : List Oper) (c f : Nat) : List Oper := l.mapIdx fun i o => if i = f then addA o c else o
/-- `f` ahead of `c`. -/
def order2 (l : List Oper) (c f : Nat) : List Oper := l.take c ++ ((l.drop f).take 1 ++ ((l.drop c).take (f - c) ++ l.drop (f + 1)))
def ops2L (l : List Oper) (c f : Nat) : List Oper := (order2 l c f).mapIdx fun k o => renO c f (if k = c + 1 then addA o f else o)
theorem Like.trans {a b c : Oper} (h : Like a b) (k : Like b c) : Like a c := ⟨k.op.trans h.op, k.dst.trans h.dst, k.type.trans h.type⟩
theorem go_addA {ops : Array Oper} {L : Array Bool} {o : Oper} {on : Nat} : Go1 ops L (addA o on) ↔ Go1 ops L o ∧ L.getD on false = true := by
  unfold Go1 addA
  simp only [Array.mem_push]
  constructor
  · exact fun h => ⟨fun e he => h e (.inl he), h ⟨on, .data⟩ (.inr rfl) rfl⟩
  · rintro ⟨h1, h2⟩ e (he | rfl) hb
    · exact h1 e he hb
    · exact h2
section
variable {l : List Oper} {c f : Nat}
theorem ops1_get (i : Nat) : (ops1L l c f)[i]? = (l[i]?).map fun o => if i = f then addA o c else o := by
  simp [ops1L, List.getElem?_mapIdx]
theorem e1 (L L' : Array Bool) (hL : RelL l.toArray.size (fun i => i) L L') (i : Nat) (o o' : Oper) (ho : l.toArray[i]? = some o) (ho' : (ops1L l c f).toArray[i]? = some o') :
    Go1 (ops1L l c f).toArray L' o' ↔ Go1 l.toArray L o ∧ (i = f → L.getD c false = true) := by
  simp only [List.getElem?_toArray] at ho ho'
  rw [ops1_get, ho] at ho'
  simp only [Option.map_some, Option.some.injEq] at ho'
  subst ho'
  have hs : ∀ x, Go1 (ops1L l c f).toArray L' x ↔ Go1 l.toArray L x := fun x => by
    unfold Go1
    exact ⟨fun h e he hb => (hL.2.2 e.on) ▸ h e he hb, fun h e he hb => (hL.2.2 e.on).symm ▸ h e he hb⟩
  rw [hs]
  by_cases e : i = f
  · rw [if_pos e, go_addA]; exact ⟨fun h => ⟨h.1, fun _ => h.2⟩, fun h => ⟨h.1, h.2 e⟩⟩
  · rw [if_neg e]; exact ⟨fun h => ⟨h, fun h2 => absurd h2 e⟩, fun h => h.1⟩
theorem order2_get (hc : c < f) (hf : f < l.length) (i : Nat) : (order2 l c f)[renI c f i]? = l[i]? := by
  have hl1 : (l.take c).length = c := by simp; omega
  have hl2 : ((l.drop f).take 1).length = 1 := by simp; omega
  have hl3 : ((l.drop c).take (f - c)).length = f - c := by simp; omega
  unfold order2 renI
  by_cases h1 : i = f
  · subst h1
    rw [if_pos rfl, List.getElem?_append_right (by omega), hl1, Nat.sub_self, List.getElem?_append_left (by omega), List.getElem?_take_of_lt (by omega), List.getElem?_drop]; rfl
  · rw [if_neg h1]
    by_cases h2 : c ≤ i ∧ i < f
    · rw [if_pos h2, List.getElem?_append_right (by omega), hl1, List.getElem?_append_right (by omega), hl2, List.getElem?_append_left (by omega), List.getElem?_take_of_lt (by omega), List.getElem?_drop]
      congr 1; omega
    · rw [if_neg h2]
      rcases Nat.lt_or_ge i c with h3 | h3
      · rw [List.getElem?_append_left (by omega), List.getElem?_take_of_lt h3]
      · rw [List.getElem?_append_right (by omega), hl1, List.getElem?_append_right (by omega), hl2, List.getElem?_append_right (by omega), hl3, List.getElem?_drop]
        congr 1; omega
theorem ops2_get (hc : c < f) (hf : f < l.length) (i : Nat) : (ops2L l c f)[renI c f i]? = (l[i]?).map fun o => renO c f (if i = c then addA o f else o) := by
  unfold ops2L
  rw [List.getElem?_mapIdx, order2_get hc hf]
  have : renI c f i = c + 1 ↔ i = c := by
    unfold renI
    split
    · omega
    · split <;> omega
  simp only [this]
theorem e2 (hc : c < f) (hf : f < l.length) (L L' : Array Bool) (hL : RelL l.toArray.size (renI c f) L L') (i : Nat) (o o' : Oper) (ho : l.toArray[i]? = some o) (ho' : (ops2L l c f).toArray[renI c f i]? = some o') :
    Go1 (ops2L l c f).toArray L' o' ↔ Go1 l.toArray L o ∧ (i = c → L.getD f false = true) := by
  simp only [List.getElem?_toArray] at ho ho'
  rw [ops2_get hc hf, ho] at ho'
  simp only [Option.map_some, Option.some.injEq] at ho'
  subst ho'
  have hs : ∀ x, Go1 (ops2L l c f).toArray L' (renO c f x) ↔ Go1 l.toArray L x := fun x => by
    unfold Go1 renO
    simp only [Array.mem_map, forall_exists_index, and_imp, forall_apply_eq_imp_iff₂]
    exact ⟨fun h e he hb => (hL.2.2 e.on) ▸ h e he hb, fun h e he hb => (hL.2.2 e.on).symm ▸ h e he hb⟩
  rw [hs]
  by_cases e : i = c
  · rw [if_pos e, go_addA]; exact ⟨fun h => ⟨h.1, fun _ => h.2⟩, fun h => ⟨h.1, h.2 e⟩⟩
  · rw [if_neg e]; exact ⟨fun h => ⟨h, fun h2 => absurd h2 e⟩, fun h => h.1⟩
end
theorem Like.symm {o o' : Oper} (h : Like o o') : Like o' o := ⟨h.op.symm, h.dst.symm, h.type.symm⟩
end Free
end Go.Proofs.YtiplgpefapeapaaGreat

namespace Go.Proofs.YtiplgpefapeapaaGreat
open Go.RowKit

theorem tag_Cl {w : World} {b : Nat} {cs : Array Value} {f : Nat × Nat} (h : w.heap[b]? = some (Obj.cells cs tC f)) : ∀ c ∈ [b], ∀ (cs' : Array Value) (f' : Nat × Nat), w.heap[c]? ≠ some (Obj.cells cs' tN f') := fun c hc cs' f' e => by
  simp only [List.mem_singleton] at hc
  subst hc
  rw [h] at e
  cases e
end Go.Proofs.YtiplgpefapeapaaGreat
