/- Texts that the laws lean on, in the order in which they build. Package certificate: Check. The law's few: the number of elements of all lists; where a list is very long, the sum may wrap. The law's example; awake. The specification's before, answer, Find. The digits of a number to the base 256, and its encoding on the wire. No program. (XWire, of a program without bytes.Clone.) The contracts of package wire's writers of bytes. AppendBool; what the growth of a buffer leaves, draws between. The byte form of a trace: the buffer in its variable; the closure that appends integers. The contracts of package wire's reader of bytes. wire's reader in whatever state: Uint, Bool. wire's reader: Count with whatever bound. The reader: Int, Count in whatever state; bytes.Equal. The byte form of a trace (plain), and what appending leaves. The specification's Agree and Refuse. The lists of the specification's Answer: an answer recorded, a question opened; answers and history. The history of a trace that gathers holds the recorded answers: kept by the operations. The law's operations: their cells, what they do (plain). What holds of a trace after n operations (plain). What Decode gives: plain. What holds of the trace that Decode plays again (plain). The memory of Decode: the reader, and the trace beside it. -/
import Derived.Test.YtiplgpefapeapaaGreatDoorL6
import Derived.Test.YtiplgpefapeapaaGreatDoorRows
set_option linter.unusedVariables false
set_option linter.unusedSimpArgs false
namespace Go.Proofs.YtiplgpefapeapaaGreatDoor
open Go.RowKit

theorem chk_wf {c : Ct} (h : wf c = false) : chk c = 1 := by unfold chk; rw [h]; rfl
theorem chk_bad {c : Ct} (hw : wf c = true) (h : goodB c = false) : chk c = 15 := by unfold chk; rw [hw, h]; rfl
theorem chk_good {c : Ct} (hw : wf c = true) (h : goodB c = true) : chk c = 0 := by unfold chk; rw [hw, h]; rfl
theorem wf_srt {c : Ct} (h : wf c = true) : SrtA c.an := by
  unfold wf at h
  simp only [Bool.and_eq_true] at h
  exact incA_srt h.1.1.2
theorem bad_start {c : Ct} (h : hasA c.an (kq c) = false) : goodB c = false := by unfold goodB; rw [h]; rfl
theorem bad_an {c : Ct} {a : Ans} (ha : a ∈ c.an) (h : ansB c.an a = false) : goodB c = false := by
  unfold goodB
  rw [List.all_eq_false.2 ⟨a, ha, by rw [h]; decide⟩]
  simp
theorem bad_ep {c : Ct} {a b : Ans} (ha : a ∈ c.an) (hb : b ∈ c.an) (hm : a.m = b.m) (he : a.ep ≠ b.ep) : goodB c = false := by
  have : epB c.an = false := by
    cases h : epB c.an with
    | false => rfl
    | true => exact absurd (epB_iff.1 h a ha b hb hm) he
  unfold goodB
  rw [this]
  simp
theorem bad_cl {c : Ct} (h : c.cl ≠ clY c.an) : goodB c = false := by unfold goodB; rw [decide_eq_false h]; simp
theorem good_all {c : Ct} (h1 : hasA c.an (kq c) = true) (h2 : epB c.an = true) (h3 : ∀ a ∈ c.an, ansB c.an a = true) (h4 : c.cl = clY c.an) : goodB c = true := by
  unfold goodB
  rw [h1, h2, List.all_eq_true.2 h3, decide_eq_true h4]
  rfl
/-- The map of the epochs. -/
structure EpI (E : List (Int × Int)) (Z : List Ans) : Prop where
  a : ∀ a ∈ Z, MapS.get a.m E = some a.ep
  n : ∀ m, (∀ a ∈ Z, a.m ≠ m) → MapS.get m E = none
  len : E.length ≤ Z.length
theorem EpI.nil : EpI [] [] := ⟨by simp, fun _ _ => rfl, Nat.le_refl _⟩
theorem EpI.new {E : List (Int × Int)} {Z : List Ans} (h : EpI E Z) {a : Ans} (hg : MapS.get a.m E = none) : EpI (E ++ [(a.m, a.ep)]) (Z ++ [a]) := by
  refine ⟨fun b hb => ?_, fun m hm => ?_, by have := h.len; simp; omega⟩
  · rw [MapS.get_append]
    rcases List.mem_append.1 hb with hb | hb
    · rw [h.a b hb]; rfl
    · rw [List.mem_singleton.1 hb, hg]; simp [MapS.get]
  · rw [MapS.get_append, h.n m (fun b hb => hm b (by simp [hb]))]
    have : ¬ a.m = m := hm a (by simp)
    simp [MapS.get, this]
theorem EpI.old {E : List (Int × Int)} {Z : List Ans} (h : EpI E Z) {a : Ans} (hg : MapS.get a.m E = some a.ep) : EpI (MapS.set a.m a.ep E) (Z ++ [a]) := by
  refine ⟨fun b hb => ?_, fun m hm => ?_, by have := h.len; unfold MapS.set; simp; omega⟩
  · rw [MapS.get_set]
    by_cases e : b.m = a.m
    · rw [if_pos ⟨e, by rw [hg]; rfl⟩]
      rcases List.mem_append.1 hb with hb | hb
      · have := h.a b hb
        rw [e, hg] at this
        exact this
      · rw [List.mem_singleton.1 hb]
    · rw [if_neg (fun h => e h.1)]
      rcases List.mem_append.1 hb with hb | hb
      · exact h.a b hb
      · exact absurd (by rw [List.mem_singleton.1 hb]) e
  · rw [MapS.get_set, if_neg (fun e => hm a (by simp) e.1.symm)]
    exact h.n m (fun b hb => hm b (by simp [hb]))
theorem EpI.epB {E : List (Int × Int)} {Z : List Ans} (h : EpI E Z) : epB Z = true := epB_iff.2 (fun a ha b hb e => by
  have h1 := h.a a ha
  rw [e, h.a b hb] at h1
  exact (Option.some.inj h1).symm)
theorem EpI.val {E : List (Int × Int)} {Z : List Ans} (h : EpI E Z) {m v : Int} (hg : MapS.get m E = some v) : ∃ a ∈ Z, a.m = m ∧ a.ep = v := by
  by_cases hx : ∃ a ∈ Z, a.m = m
  · obtain ⟨a, ha, e⟩ := hx
    have := h.a a ha
    rw [e, hg] at this
    exact ⟨a, ha, e, (Option.some.inj this).symm⟩
  · rw [h.n m (fun a ha e => hx ⟨a, ha, e⟩)] at hg
    cases hg
theorem ansB_def (Y : List Ans) (a : Ans) : ansB Y a = (a.kn && !a.rt && a.ins.all (insB Y a.m)) := rfl
theorem insB_def (Y : List Ans) (m : Int) (x : T3) : insB Y m x = (decide (MapS.get (m, x.1, x.2.1) (outsOf Y) = some x.2.2) && hasA Y (x.1, m, x.2.1)) := rfl
theorem ans_of_get {R : List (Qn × AnV)} {Y : List Ans} (h : AnsM R Y) (hs : SrtA Y) (q : Qn) : ∃ yv : AnV, ((MapS.get q R).map aV).getD (aV .zero) = aV yv ∧ (MapS.get q R).isSome = hasA Y q := by
  refine (?_ : ∃ yv : AnV, _).elim fun yv e => ⟨yv, e, (h.get hs q).1⟩
  cases MapS.get q R with
  | none => exact ⟨_, rfl⟩
  | some y => exact ⟨y, rfl⟩
/-- What the check itself wants of a certificate's numbers. -/
structure Ct.Fit0 (c : Ct) : Prop where
  im : W64 c.im
  is : W64 c.is
  st : T3.Fit c.st
  an : ∀ a ∈ c.an, a.Fit
theorem Ct.Fit.f0 {c : Ct} (h : c.Fit) : c.Fit0 := ⟨h.im, h.is, h.st, h.an⟩
set_option maxRecDepth 100000 in
set_option maxHeartbeats 16000000 in
theorem check0_c (w : World) (x : CtV) (c : Ct) (h : CtW w x c) (hfit : c.Fit0) (hf : c.Few) :
    Calls Tryz.prog 16 #[ctV x] w fun e w' => e = .returned (.int .i64 (chk c)) ∧ Keeps [] w w' := by
  have hmm := @run_makeMap Tryz.prog
  have hcf := fun (W : World) (hk : Keeps [] w W) => formed_c W x c (h.keeps hk) hf
  have hca := fun (hs : SrtA c.an) (W : World) (hk : Keeps [] w W) => answersM_c W x c (h.keeps hk) hfit.an hf hs
  have hcd := fun (W : World) (hk : Keeps [] w W) => found_c W x c (h.keeps hk) hfit.an hf
  have hcm := fun (hs : SrtA c.an) (W : World) (hk : Keeps [] w W) => claimsM_c W x c (h.keeps hk) hfit.an hf hs
  have hce := fun (W : World) (hk : Keeps [] w W) (v : Value) (hv : LC W v (clY c.an)) => eqClaims_c W _ v _ _ (h.cl.keeps hk) hv
  have han := h.an
  have hkq : (x.im, x.s0, x.s1) = kq c := by unfold kq; rw [h.im, h.s0, h.s1]
  have hqk : qOk (x.im, x.s0, x.s1) := ⟨by rw [h.im]; exact hfit.im, by rw [h.s0]; exact hfit.st.1, by rw [h.s1]; exact hfit.st.2.1⟩
  obtain ⟨x0, x1, x2, x3, x4, ⟨x5, x6, x7⟩, ⟨x8, x9, x10⟩⟩ := x
  simp only [slv] at han
  simp only [ctV, slv] at hcf hca hcd hcm hce
  simp only at hkq hqk
  obtain ⟨_, _, e1, hla, hcap⟩ := han.form
  simp only [Value.slice.injEq] at e1
  obtain ⟨-, e1, -⟩ := e1
  rw [← e1] at hla
  have hx6m : x6 ≤ 9223372036854775807 := by unfold maxLen at hcap; omega
  have hA := heap_alloc_new w (.cells #[.int .i64 x0, .int .i64 x1, .int .i64 x2, .int .u64 x3, .int .i64 x4, .slice x5 x6 x7, .slice x8 x9 x10] tCt)
  have hkA := (Keeps.refl [] w).alloc (.cells #[.int .i64 x0, .int .i64 x1, .int .i64 x2, .int .u64 x3, .int .i64 x4, .slice x5 x6 x7, .slice x8 x9 x10] tCt)
  obtain ⟨W, hW⟩ : ∃ W, w.alloc (.cells #[.int .i64 x0, .int .i64 x1, .int .i64 x2, .int .u64 x3, .int .i64 x4, .slice x5 x6 x7, .slice x8 x9 x10] tCt) = W := ⟨_, rfl⟩
  obtain ⟨B, hB⟩ : ∃ B, w.heap.size = B := ⟨_, rfl⟩
  rw [hW] at hA hkA
  rw [hB] at hA
  obtain ⟨Y, hY⟩ : ∃ Y, c.an = Y := ⟨_, rfl⟩
  have hfY : Y.length = x6 := by rw [← hY]; exact e1.symm
  have hfn : x6 ≤ 1000 := by have := hf.an; omega
  obtain ⟨r, hr⟩ : ∃ r, chk c = r := ⟨_, rfl⟩
  rw [hr]
  rw [hY] at han
  have hfa : ∀ a ∈ Y, a.Fit := by rw [← hY]; exact hfit.an
  replace han := Lib.hid han
  replace hkA := Lib.hid hkA
  replace hW := Lib.hid hW
  replace hB := Lib.hid hB
  replace hA := Lib.hid hA
  replace hcf := Lib.hid hcf
  replace hca := Lib.hid hca
  replace hcd := Lib.hid hcd
  replace hcm := Lib.hid hcm
  replace hce := Lib.hid hce
  replace hfY := Lib.hid hfY
  replace hY := Lib.hid hY
  replace hr := Lib.hid hr
  replace hkq := Lib.hid hkq
  replace hqk := Lib.hid hqk
  replace hfa := Lib.hid hfa
  clear h hf e1 hfit
  simp only [ctV, slv]
  go_enter Tryz.func16, Tryz.ntmps16
  go_upto_region 1 with fail
  rw [hW.out, hB.out]
  obtain ⟨i0, i1, i2, i3, i4, i5, i6, if', il⟩ := cl7 hA.out
  go_wp2_with fail
  refine (hcf.out _ hkA.out).mono ?_
  rintro e w1 ⟨rfl, hk1⟩
  have hk01 := hkA.out.trans hk1
  have hA1 := (hk1.block _ (lt_of_blk hA.out) (by simp)).trans hA.out
  replace hk01 := Lib.hid hk01
  replace hA1 := Lib.hid hA1
  clear hk1 i0 i1 i2 i3 i4 i5 i6 if' il hcf
  obtain ⟨i0, i1, i2, i3, i4, i5, i6, if', il⟩ := cl7 hA1.out
  obtain ⟨wb, hwb⟩ : ∃ b, wf c = b := ⟨_, rfl⟩
  rw [hwb]
  cases wb with
  | false =>
    have hd : (1 : Int) = r := by rw [← hr.out, chk_wf hwb]
    replace hd := Lib.hid hd
    replace hwb := Lib.hid hwb
    go_wp2
    go_ret
    exact ⟨by rw [← hd.out]; rfl, hk01.out⟩
  | true =>
  have hs : SrtA c.an := wf_srt hwb
  have hbad : goodB c = false → (15 : Int) = r := fun hg => by rw [← hr.out, chk_bad hwb hg]
  have hgood : goodB c = true → (0 : Int) = r := fun hg => by rw [← hr.out, chk_good hwb hg]
  have hcaA := hca.out hs
  have hcmA := hcm.out hs
  rw [hY.out] at hs hcaA hcmA
  replace hs := Lib.hid hs
  replace hbad := Lib.hid hbad
  replace hgood := Lib.hid hgood
  replace hwb := Lib.hid hwb
  replace hcaA := Lib.hid hcaA
  replace hcmA := Lib.hid hcmA
  clear hca hcm hr
  go_wp2_with fail
  refine (hcaA.out _ hk01.out).mono ?_
  rintro e w2 ⟨bS, R, rfl, hMS, hR, hbS, hk2⟩
  have hk02 := hk01.out.trans hk2
  have hA2 := (hk2.block _ (lt_of_blk hA1.out) (by simp)).trans hA1.out
  clear i0 i1 i2 i3 i4 i5 i6 if' il hcaA hk2
  obtain ⟨i0, i1, i2, i3, i4, i5, i6, if', il⟩ := cl7 hA2
  have hlk := MapS.M.look_ok ktS Tryz.underlying72 (aV .zero) zeroA hMS hqk.out
  obtain ⟨⟨v0, v1, v2, v3, v4, v5, v6, v7, v8, v9⟩, hyv, hys⟩ := ans_of_get hR hs.out (x0, x2, x3)
  obtain ⟨ob, hob0⟩ : ∃ b, hasA Y (x0, x2, x3) = b := ⟨_, rfl⟩
  rw [hyv, hys, hob0] at hlk
  have hob : hasA Y (kq c) = ob := by rw [← hkq.out]; exact hob0
  simp only [ktS, qV, aV, AnV.v] at hlk
  have hkB := (Keeps.refl [] w2).alloc (.cells #[.int .i64 v0, .int .i64 v1, .int .u64 v2, .int .i64 v3, .bool v4, .bool v5, .int .i64 v6, .slice v7 v8 v9] tA)
  have hk03 := hk02.trans hkB
  have hA3 := (hkB.block _ (lt_of_blk hA2) (by simp)).trans hA2
  have hMS3 := hMS.keeps ktS hkB
  replace hMS := Lib.hid hMS3
  replace hR := Lib.hid hR
  replace hk03 := Lib.hid hk03
  replace hA3 := Lib.hid hA3
  replace hob := Lib.hid hob
  clear hyv hys hkB hk02 hA2 hMS3 hob0
  cases ob with
  | false =>
    have hd : (15 : Int) = r := hbad.out (bad_start (by rw [hY.out]; exact hob.out))
    replace hd := Lib.hid hd
    go_wp2
    go_ret
    exact ⟨by rw [← hd.out]; rfl, hk03.out⟩
  | true =>
  go_upto_region 7 with fail
  generalize (w2.alloc (.cells #[.int .i64 v0, .int .i64 v1, .int .u64 v2, .int .i64 v3, .bool v4, .bool v5, .int .i64 v6, .slice v7 v8 v9] tA)) = w3 at *
  clear hlk i0 i1 i2 i3 i4 i5 i6 if' il
  have hM := MapS.M.made ktZ (vf := zV) w3
  have hkM : Keeps [] w3 (w3.alloc (.map #[] 0)) := (Keeps.refl _ _).alloc _
  have hw3 : w.heap.size ≤ w3.heap.size := hk03.out.size
  have hk04 := hk03.out.trans hkM
  have hA4 := (hkM.block _ (lt_of_blk hA3.out) (by simp)).trans hA3.out
  have hMS4 := hMS.out.keeps ktS hkM
  have hZ4 : (w3.alloc (.map #[] 0)).heap.size = w3.heap.size + 1 := by simp
  replace hM := Lib.hid hM
  replace hk04 := Lib.hid hk04
  replace hMS4 := Lib.hid hMS4
  replace hA4 := Lib.hid hA4
  have hbSl := MapS.M.lt ktS hMS.out
  clear hkM hk03 hA3 hMS
  obtain ⟨i0, i1, i2, i3, i4, i5, i6, if', il⟩ := cl7 hA4.out
  go_wp2_with fail
  refine (hcd.out _ hk04.out).mono ?_
  rintro e w5 ⟨bF, rfl, hMF, hbF, hk5⟩
  obtain ⟨bE, hbE⟩ : ∃ b, w3.heap.size = b := ⟨_, rfl⟩
  rw [hbE] at hM hZ4 hbSl ⊢
  have hMf := hM.out.keeps ktZ hk5
  have hMSf := hMS4.out.keeps ktS hk5
  have hk05 := hk04.out.trans hk5
  have hA5 := (hk5.block _ (lt_of_blk hA4.out) (by simp)).trans hA4.out
  have hBw : B < w3.heap.size ∨ True := .inr trivial
  have hBE : B ≠ bE := fun e => by
    have := hMf.noCells ktZ 0
    rw [← e] at this
    simp [World.cell?, hA5] at this
  have hwE : w.heap.size ≤ bE := by omega
  obtain ⟨O, hO⟩ : ∃ O, outsOf c.an = O := ⟨_, rfl⟩
  rw [hO] at hMF
  rw [hY.out] at hO
  replace hMF := Lib.hid hMF
  replace hMSf := Lib.hid hMSf
  replace hMf := Lib.hid hMf
  replace hk05 := Lib.hid hk05
  replace hA5 := Lib.hid hA5
  replace hO := Lib.hid hO
  replace hbE := Lib.hid hbE
  clear hM hMS4 hk04 hA4 hk5 hBw hcd hmm i0 i1 i2 i3 i4 i5 i6 if' il
  obtain ⟨i0, i1, i2, i3, i4, i5, i6, if', il⟩ := cl7 hA5.out
  go_wp2
  go_loopw [44] (fun i wr => ∃ (k : Nat) (E : List (Int × Int)), i = .int .i64 k ∧ k ≤ x6 ∧ Hid (MapS.M ktZ zV wr bE E) ∧ Hid (EpI E (Y.take k)) ∧ Hid (∀ j (hj : j < Y.length), j < k → ansB Y Y[j] = true) ∧ Hid (Keeps [bE] w5 wr)) (fun i _ => x6 - (intOf i).toNat)
  case atStart => exact ⟨0, [], rfl, by omega, hMf, Lib.hid EpI.nil, Lib.hid (fun _ _ h => by omega), Lib.hid (Keeps.refl _ _)⟩
  case round =>
    clear hMf i0 i1 i2 i3 i4 i5 i6 if' il
    obtain ⟨k, E, rfl, hk, hMr, hEp, hno, hkr⟩ := hrel
    have hkwr : Keeps [] w wr := hk05.out.fresh hkr.out (fun b hb => by simp at hb; subst hb; exact .inr hwE)
    by_cases hlt : k < x6
    · have hlt2 : (k : Int) < x6 := by omega
      have hkY : k < Y.length := by rw [hfY.out]; exact hlt
      obtain ⟨g, o, c', y, hv, hy, he⟩ := (han.out.keeps hkwr).elem hkY
      rw [hfY.out] at hv
      cases hv
      have hao := hfa.out _ (List.getElem_mem hkY)
      have htk : Y.take (k + 1) = Y.take k ++ [Y[k]] := List.take_succ_eq_append_getElem hkY
      have hmemY := List.getElem_mem hkY
      obtain ⟨a, ha⟩ : ∃ a, Y[k] = a := ⟨_, rfl⟩
      rw [ha] at hy hao htk hmemY
      have hba : ansB Y a = false → (15 : Int) = r := fun h => hbad.out (bad_an (a := a) (by rw [hY.out]; exact hmemY) (by rw [hY.out]; exact h))
      have hbe : ∀ b ∈ Y.take k, b.m = a.m → b.ep ≠ a.ep → (15 : Int) = r := fun b hb e1 e2 => hbad.out (bad_ep (a := b) (b := a) (by rw [hY.out]; exact List.mem_of_mem_take hb) (by rw [hY.out]; exact hmemY) e1 e2)
      have hno2 : ansB Y a = true → ∀ j (hj : j < Y.length), j < k + 1 → ansB Y Y[j] = true := fun h j hj hjk => by
        by_cases e : j = k
        · subst e; rw [ha]; exact h
        · exact hno.out j hj (by omega)
      obtain ⟨ai, aic, ev, hl1, hl2, _⟩ := hy.ins.form
      have hins := hy.ins
      have q0 := hy.m
      have q1 := hy.ow
      have q2 := hy.n
      have q3 := hy.ep
      have q4 := hy.kn
      have q5 := hy.rt
      obtain ⟨y0, y1, y2, y3, y4, y5, y6, y7, y8, y9⟩ := y
      simp only [AnV.v] at ev hins
      simp only at q0 q1 q2 q3 q4 q5
      subst q0 q1 q2 q3
      simp only [Value.slice.injEq] at ev
      obtain ⟨-, ev, -⟩ := ev
      have hy8m : y8 ≤ 9223372036854775807 := by unfold maxLen at hl2; omega
      have hok : ansB Y a = (y4 && !y5 && a.ins.all (insB Y a.m)) := by rw [ansB_def, q4, q5]
      rw [hok] at hba hno2
      have g0 := he 0 _ rfl
      have g1 := he 1 _ rfl
      have g2 := he 2 _ rfl
      have g3 := he 3 _ rfl
      have g4 := he 4 _ rfl
      have g5 := he 5 _ rfl
      have g6 := he 6 _ rfl
      have g7 := he 7 _ rfl
      simp only [AnV.v, Nat.add_zero] at g0 g1 g2 g3 g4 g5 g6 g7
      have hbA := heap_alloc_new wr (.cells #[.int .i64 a.m, .int .i64 a.ow, .int .u64 a.n, .int .i64 a.ep, .bool y4, .bool y5, .int .i64 y6, .slice y7 y8 y9] tA)
      have hkn := (Keeps.refl [] wr).alloc (.cells #[.int .i64 a.m, .int .i64 a.ow, .int .u64 a.n, .int .i64 a.ep, .bool y4, .bool y5, .int .i64 y6, .slice y7 y8 y9] tA)
      have hkc := hkr.out.trans hkn.of_nil
      have hMA := hMr.out.keeps ktZ hkn
      have hinsn := hins.keeps hkn
      have hwm : W64 a.m := hao.q.1
      have hbEr : bE < wr.heap.size := MapS.M.lt ktZ hMr.out
      have hlz := MapS.M.look_ok ktZ Tryz.underlying77 (zV 0) zeroZ hMA hwm
      obtain ⟨ge, hge⟩ : ∃ g, MapS.get a.m E = g := ⟨_, rfl⟩
      rw [hge] at hlz
      have hfin := hkwr.trans hkn
      replace hfin := Lib.hid hfin
      replace hba := Lib.hid hba
      replace hbe := Lib.hid hbe
      replace hno2 := Lib.hid hno2
      replace hbA := Lib.hid hbA
      replace hkc := Lib.hid hkc
      replace hMA := Lib.hid hMA
      replace hinsn := Lib.hid hinsn
      replace ha := Lib.hid ha
      replace htk := Lib.hid htk
      replace ev := Lib.hid ev
      replace hao := Lib.hid hao
      replace hmemY := Lib.hid hmemY
      clear he hy hkn hins hl1 hl2 hkr hMr hok q4 q5 hkwr
      obtain ⟨gv, gs, hgv, hgs, hgn, hgsm⟩ : ∃ (gv : Int) (gs : Bool), (ge.map zV).getD (zV 0) = zV gv ∧ ge.isSome = gs ∧ (gs = false → ge = none) ∧ (gs = true → ge = some gv) := by
        cases ge with
        | none => exact ⟨0, false, rfl, rfl, fun _ => rfl, nofun⟩
        | some u => exact ⟨u, true, rfl, rfl, nofun, fun _ => rfl⟩
      rw [hgv, hgs] at hlz
      simp only [ktZ, zV] at hlz
      replace hge := Lib.hid hge
      replace hgn := Lib.hid hgn
      replace hgsm := Lib.hid hgsm
      clear hgv hgs
      go_upto_region 11 with fail
      generalize (wr.alloc (.cells #[.int .i64 a.m, .int .i64 a.ow, .int .u64 a.n, .int .i64 a.ep, .bool y4, .bool y5, .int .i64 y6, .slice y7 y8 y9] tA)) = wc at *
      obtain ⟨XA, hXA⟩ : ∃ X, wr.heap.size = X := ⟨_, rfl⟩
      rw [hXA] at hbA hbEr ⊢
      replace hXA := Lib.hid hXA
      clear g0 g1 g2 g3 g4 g5 g6 g7
      obtain ⟨s0, s1, s2, s3, s4, s5, s6, s7, sf, sl⟩ := cl8 hbA.out
      cases y4 with
      | false =>
        have hd := Lib.hid (hba.out (by simp))
        go_wp2
        go_ret
        exact ⟨by rw [← hd.out]; rfl, hfin.out⟩
      | true =>
      cases y5 with
      | true =>
        have hd := Lib.hid (hba.out (by simp))
        go_wp2
        go_ret
        exact ⟨by rw [← hd.out]; rfl, hfin.out⟩
      | false =>
      have hallY : a.ins.all (insB Y a.m) = false → (15 : Int) = r := fun h => hba.out (by rw [h]; rfl)
      have hallY2 : a.ins.all (insB Y a.m) = true → ∀ j (hj : j < Y.length), j < k + 1 → ansB Y Y[j] = true := fun h => hno2.out (by rw [h]; rfl)
      replace hallY := Lib.hid hallY
      replace hallY2 := Lib.hid hallY2
      clear hba hno2
      cases gs with
      | true =>
        have hgE := hgsm.out rfl
        by_cases hep : gv = a.ep
        · have hne : (gv != a.ep) = false := by simpa using hep
          have hgE2 : MapS.get a.m E = some a.ep := by rw [hge.out, hgE, hep]
          obtain ⟨wk, hrun, hMk, hkk⟩ := MapS.M.putOld ktZ Tryz.underlying77 hMA.out hwm (by rw [hgE2]; rfl) (by have h1 := hEp.out.len; rw [List.length_take] at h1; unfold maxLen; omega) a.ep
          have hEn : EpI (MapS.set a.m a.ep E) (Y.take (k + 1)) := by rw [htk.out]; exact hEp.out.old hgE2
          simp only [ktZ, zV] at hrun
          replace hep := Lib.hid hep
          replace hgE := Lib.hid hgE
          replace hgE2 := Lib.hid hgE2
          have hbAk := (hkk.block _ sl (by simp; omega)).trans hbA.out
          have hkck := hkc.out.trans hkk
          have hkwk := hfin.out.fresh hkk (fun b hb => by simp at hb; subst hb; exact .inr hwE)
          have hinsk := hinsn.out.keepE hkk (fun b hb hne e => by
            simp at hb
            subst hb
            obtain ⟨es, ec, hmap⟩ := hMA.out.isMap
            obtain ⟨gg, oo, cc, hvv, hee⟩ := hinsn.out.elem (k := 0) (by cases hq : a.ins with | nil => exact absurd hq hne | cons _ _ => simp)
            rw [hvv] at e
            simp [Value.ownBlock] at e
            subst e
            have := hee 0 _ rfl
            simp [World.cell?, hmap] at this)
          replace hMk := Lib.hid hMk
          replace hEn := Lib.hid hEn
          replace hbAk := Lib.hid hbAk
          replace hkck := Lib.hid hkck
          replace hkwk := Lib.hid hkwk
          replace hinsk := Lib.hid hinsk
          clear hMA hbA hkc hkk hinsn hfin
          go_upto_region 15 with fail
          clear s0 s1 s2 s3 s4 s5 s6 s7 sf sl hrun hlz
          obtain ⟨s0, s1, s2, s3, s4, s5, s6, s7, sf, sl⟩ := cl8 hbAk.out
          go_wp2
          go_loopw [79] (fun i wi => ∃ q : Nat, i = .int .i64 q ∧ q ≤ y8 ∧ Hid (∀ j (hj : j < a.ins.length), j < q → insB Y a.m a.ins[j] = true) ∧ Hid (Keeps [] wk wi)) (fun i _ => y8 - (intOf i).toNat)
          case atStart => exact ⟨0, rfl, by omega, Lib.hid (fun _ _ h => by omega), Lib.hid (Keeps.refl _ _)⟩
          case round =>
            clear s0 s1 s2 s3 s4 s5 s6 s7 sf sl
            obtain ⟨q, rfl, hq, hnq, hkq⟩ := hrel
            have hfq := hkwk.out.trans hkq.out
            by_cases hltq : q < y8
            · have hltq2 : (q : Int) < y8 := by omega
              have hqa : q < a.ins.length := by rw [← ev.out]; exact hltq
              have hxo := hao.out.ins _ (List.getElem_mem hqa)
              obtain ⟨gi, oi, ci, hvi, hei⟩ := (hinsk.out.keeps hkq.out).elem hqa
              rw [← ev.out] at hvi
              cases hvi
              have hok := insB_def Y a.m a.ins[q]
              have hmq := List.getElem_mem hqa
              have hnq2 : insB Y a.m a.ins[q] = true → ∀ j (hj : j < a.ins.length), j < q + 1 → insB Y a.m a.ins[j] = true := fun h j hj hjq => by
                by_cases e : j = q
                · subst e; exact h
                · exact hnq.out j hj (by omega)
              have hbq : insB Y a.m a.ins[q] = false → (15 : Int) = r := fun h => hallY.out (all_no hqa h)
              obtain ⟨⟨z0, z1, z2⟩, hz⟩ : ∃ z, a.ins[q] = z := ⟨_, rfl⟩
              rw [hz] at hei hxo hok hmq
              have t0 := hei 0 _ rfl
              have t1 := hei 1 _ rfl
              have t2 := hei 2 _ rfl
              simp only [shT, Nat.add_zero] at t0 t1 t2
              simp only at hok
              have hqF : qOk (a.m, z0, z1) := ⟨hao.out.q.1, hxo.1, hxo.2.1⟩
              have hqS : qOk (z0, a.m, z1) := ⟨hxo.1, hao.out.q.1, hxo.2.1⟩
              have hkI := (Keeps.refl [] wr).alloc (.cells #[.int .i64 z0, .int .u64 z1, .int .i64 z2] tI)
              have hkEI := (hkck.out.trans hkq.out.of_nil).trans hkI.of_nil
              have hMFi := hMF.out.kept ktK hkEI (by simp; omega)
              have hMSi := hMSf.out.kept ktS hkEI (by simp; omega)
              obtain ⟨u, hu⟩ : ∃ u, MapS.get (a.m, z0, z1) (outsOf Y) = some u := Option.isSome_iff_exists.1 ((outsOf_some Y (a.m, z0, z1)).2 ⟨a, hmemY.out, (z0, z1, z2), hmq, rfl⟩)
              have hlF : ∀ w' : World, w'.heap[bF]? = (wr.alloc (.cells #[.int .i64 z0, .int .u64 z1, .int .i64 z2] tI)).drew.heap[bF]? → (Instr.lookup 52 (.map (some bF)) (.agg #[.int .i64 a.m, .int .i64 z0, .int .u64 z1]) false).run Tryz.prog w' = .ok (.int .i64 u) w' := fun w' e => by
                have := MapS.M.look ktK Tryz.underlying52 (zV 0) zeroZ ((hMFi.keeps ktK ((Keeps.refl [] _).drew)).at' e) hqF
                rw [← hO.out, hu] at this
                simpa only [ktK, qV, zV, Option.map_some, Option.getD_some] using this
              rw [hu] at hok
              have hbFl : bF < (wr.alloc (.cells #[.int .i64 z0, .int .u64 z1, .int .i64 z2] tI)).drew.heap.size := MapS.M.lt ktK (hMFi.keeps ktK ((Keeps.refl [] _).drew))
              have hlS := MapS.M.look_ok ktS Tryz.underlying72 (aV .zero) zeroA (hMSi.keeps ktS ((Keeps.refl [] _).drew)) hqS
              obtain ⟨⟨u0, u1, u2, u3, u4, u5, u6, u7, u8, u9⟩, huv, hus⟩ := ans_of_get hR.out hs.out (z0, a.m, z1)
              obtain ⟨hb, hhb⟩ : ∃ b, hasA Y (z0, a.m, z1) = b := ⟨_, rfl⟩
              rw [huv, hus, hhb] at hlS
              rw [hhb] at hok
              simp only [ktS, qV, aV, AnV.v] at hlS
              rw [hz] at hbq hnq2
              rw [hok] at hbq hnq2
              have hkD : Keeps [] wr (wr.alloc (.cells #[.int .i64 z0, .int .u64 z1, .int .i64 z2] tI)).drew := hkI.drew
              have hbI := heap_alloc_new wr (.cells #[.int .i64 z0, .int .u64 z1, .int .i64 z2] tI)
              have hbId : (wr.alloc (.cells #[.int .i64 z0, .int .u64 z1, .int .i64 z2] tI)).drew.heap[wr.heap.size]? = _ := hbI
              have hbAd := (hkD.block _ (lt_of_blk ((hkq.out.block _ (lt_of_blk hbAk.out) (by simp)).trans hbAk.out)) (by simp)).trans ((hkq.out.block _ (lt_of_blk hbAk.out) (by simp)).trans hbAk.out)
              have hkqD := hkq.out.trans hkD
              replace hlF := Lib.hid hlF
              replace hbId := Lib.hid hbId
              replace hbAd := Lib.hid hbAd
              replace hkqD := Lib.hid hkqD
              replace hbq := Lib.hid hbq
              replace hnq2 := Lib.hid hnq2
              replace hu := Lib.hid hu
              replace hz := Lib.hid hz
              replace hhb := Lib.hid hhb
              replace hok := Lib.hid hok
              replace hfq := Lib.hid hfq
              clear hei hMFi hMSi hkEI hkI hqF hqS huv hus hmq hxo
              have hbAl := (hkq.out.block _ (lt_of_blk hbAk.out) (by simp)).trans hbAk.out
              obtain ⟨s0, s1, s2, s3, s4, s5, s6, s7, sf, sl⟩ := cl8 hbAl
              obtain ⟨c0, c1, c2, cf, cl⟩ := cl3 hbI
              go_upto_region 18 with fail
              clear s0 s1 s2 s3 s4 s5 s6 s7 sf sl t0 t1 t2 hbAl hbI c0 c1 c2 cf cl
              obtain ⟨s0, s1, s2, s3, s4, s5, s6, s7, sf, sl⟩ := cl8 hbAd.out
              obtain ⟨t0, t1, t2, tf, tl⟩ := cl3 hbId.out
              refine Free.wp_region_chain (fun i => false) (fun i => true) (fun _ _ => False) (by kernel_rfl) (by kernel_rfl) (by kernel_rfl) ?_
              generalize (wr.alloc (.cells #[.int .i64 z0, .int .u64 z1, .int .i64 z2] tI)).drew = wI at *
              (repeat (first | (apply Free.cw_pure rfl rfl; (intro w'; go_simp <;> exact rfl); go_frame) | (apply Free.cw_steady rfl rfl rfl; (intro w' hS; have z0 := hlF.out w' (hS.block bF hbFl (fun ⟨j, _, _, hT⟩ => hT)); have p0 := Free.sx_cell hS s0 (fun _ _ hT => hT); have p1 := Free.sx_cell hS t0 (fun _ _ hT => hT); have p2 := Free.sx_cell hS t1 (fun _ _ hT => hT); have p3 := Free.sx_cell hS t2 (fun _ _ hT => hT); go_simp <;> exact rfl); go_frame) | (refine Free.cw_skip rfl ?_; go_frame)))
              refine Free.cw_nil ?_
              by_cases huz : u = z2
              · have hne : (u != z2) = false := by simpa using huz
                have hbq2 : hb = false → (15 : Int) = r := fun h => hbq.out (by rw [h]; simp)
                have hnq3 : hb = true → ∀ j (hj : j < a.ins.length), j < q + 1 → insB Y a.m a.ins[j] = true := fun h => hnq2.out (by rw [h, huz]; simp)
                replace hbq2 := Lib.hid hbq2
                replace hnq3 := Lib.hid hnq3
                replace huz := Lib.hid huz
                have hkf := Lib.hid (hkqD.out.trans ((Keeps.refl [] wI).alloc (.cells #[.int .i64 u0, .int .i64 u1, .int .u64 u2, .int .i64 u3, .bool u4, .bool u5, .int .i64 u6, .slice u7 u8 u9] tA)))
                have hff := Lib.hid (hkwk.out.trans hkf.out)
                cases hb with
                | false =>
                  have hd := Lib.hid (hbq2.out rfl)
                  go_wp2
                  go_ret
                  exact ⟨by rw [← hd.out]; rfl, hff.out⟩
                | true =>
                  have hn3 := Lib.hid (hnq3.out rfl)
                  go_wp2
                  go_roundw
                  case rel => exact ⟨q + 1, rfl, by omega, hn3, hkf⟩
                  case measure => simp [intOf]; omega
              · have hne : (u != z2) = true := by simpa using huz
                have hd := Lib.hid (hbq.out (by simp [huz]))
                have hff := Lib.hid (hkwk.out.trans hkqD.out)
                replace huz := Lib.hid huz
                go_wp2
                go_ret
                exact ⟨by rw [← hd.out]; rfl, hff.out⟩
            · have hltq2 : ¬ ((q : Int) < y8) := by omega
              have hall := Lib.hid (hallY2.out (all_take (fun j hj => hnq.out j hj (by have := ev.out; omega))))
              have hMz := Lib.hid (hMk.out.keeps ktZ hkq.out)
              have hkz := Lib.hid (hkck.out.trans hkq.out.of_nil)
              go_wp2
              go_roundw
              case rel => exact ⟨k + 1, _, rfl, by omega, hMz, hEn, hall, hkz⟩
              case measure => simp [intOf]; omega
        · have hne : (gv != a.ep) = true := by simpa using hep
          obtain ⟨b, hb, hbm, hbv⟩ := hEp.out.val (hge.out.trans hgE)
          have hd := Lib.hid (hbe.out b hb hbm (by rw [hbv]; exact hep))
          replace hgE := Lib.hid hgE
          replace hep := Lib.hid hep
          replace hbv := Lib.hid hbv
          replace hbm := Lib.hid hbm
          go_wp2
          go_ret
          exact ⟨by rw [← hd.out]; rfl, hfin.out⟩
      | false =>
        have hgE2 : MapS.get a.m E = none := by rw [hge.out]; exact hgn.out rfl
        obtain ⟨wk, hrun, hMk, hkk⟩ := MapS.M.putNew ktZ Tryz.underlying77 hMA.out hwm hgE2 (by have h1 := hEp.out.len; rw [List.length_take] at h1; unfold maxLen; omega) a.ep
        have hEn : EpI (E ++ [(a.m, a.ep)]) (Y.take (k + 1)) := by rw [htk.out]; exact hEp.out.new hgE2
        simp only [ktZ, zV] at hrun
        replace hgE2 := Lib.hid hgE2
        have hbAk := (hkk.block _ sl (by simp; omega)).trans hbA.out
        have hkck := hkc.out.trans hkk
        have hkwk := hfin.out.fresh hkk (fun b hb => by simp at hb; subst hb; exact .inr hwE)
        have hinsk := hinsn.out.keepE hkk (fun b hb hne e => by
          simp at hb
          subst hb
          obtain ⟨es, ec, hmap⟩ := hMA.out.isMap
          obtain ⟨gg, oo, cc, hvv, hee⟩ := hinsn.out.elem (k := 0) (by cases hq : a.ins with | nil => exact absurd hq hne | cons _ _ => simp)
          rw [hvv] at e
          simp [Value.ownBlock] at e
          subst e
          have := hee 0 _ rfl
          simp [World.cell?, hmap] at this)
        replace hMk := Lib.hid hMk
        replace hEn := Lib.hid hEn
        replace hbAk := Lib.hid hbAk
        replace hkck := Lib.hid hkck
        replace hkwk := Lib.hid hkwk
        replace hinsk := Lib.hid hinsk
        clear hMA hbA hkc hkk hinsn hfin
        go_upto_region 15 with fail
        clear s0 s1 s2 s3 s4 s5 s6 s7 sf sl hrun hlz
        obtain ⟨s0, s1, s2, s3, s4, s5, s6, s7, sf, sl⟩ := cl8 hbAk.out
        go_wp2
        go_loopw [79] (fun i wi => ∃ q : Nat, i = .int .i64 q ∧ q ≤ y8 ∧ Hid (∀ j (hj : j < a.ins.length), j < q → insB Y a.m a.ins[j] = true) ∧ Hid (Keeps [] wk wi)) (fun i _ => y8 - (intOf i).toNat)
        case atStart => exact ⟨0, rfl, by omega, Lib.hid (fun _ _ h => by omega), Lib.hid (Keeps.refl _ _)⟩
        case round =>
          clear s0 s1 s2 s3 s4 s5 s6 s7 sf sl
          obtain ⟨q, rfl, hq, hnq, hkq⟩ := hrel
          have hfq := hkwk.out.trans hkq.out
          by_cases hltq : q < y8
          · have hltq2 : (q : Int) < y8 := by omega
            have hqa : q < a.ins.length := by rw [← ev.out]; exact hltq
            have hxo := hao.out.ins _ (List.getElem_mem hqa)
            obtain ⟨gi, oi, ci, hvi, hei⟩ := (hinsk.out.keeps hkq.out).elem hqa
            rw [← ev.out] at hvi
            cases hvi
            have hok := insB_def Y a.m a.ins[q]
            have hmq := List.getElem_mem hqa
            have hnq2 : insB Y a.m a.ins[q] = true → ∀ j (hj : j < a.ins.length), j < q + 1 → insB Y a.m a.ins[j] = true := fun h j hj hjq => by
              by_cases e : j = q
              · subst e; exact h
              · exact hnq.out j hj (by omega)
            have hbq : insB Y a.m a.ins[q] = false → (15 : Int) = r := fun h => hallY.out (all_no hqa h)
            obtain ⟨⟨z0, z1, z2⟩, hz⟩ : ∃ z, a.ins[q] = z := ⟨_, rfl⟩
            rw [hz] at hei hxo hok hmq
            have t0 := hei 0 _ rfl
            have t1 := hei 1 _ rfl
            have t2 := hei 2 _ rfl
            simp only [shT, Nat.add_zero] at t0 t1 t2
            simp only at hok
            have hqF : qOk (a.m, z0, z1) := ⟨hao.out.q.1, hxo.1, hxo.2.1⟩
            have hqS : qOk (z0, a.m, z1) := ⟨hxo.1, hao.out.q.1, hxo.2.1⟩
            have hkI := (Keeps.refl [] wr).alloc (.cells #[.int .i64 z0, .int .u64 z1, .int .i64 z2] tI)
            have hkEI := (hkck.out.trans hkq.out.of_nil).trans hkI.of_nil
            have hMFi := hMF.out.kept ktK hkEI (by simp; omega)
            have hMSi := hMSf.out.kept ktS hkEI (by simp; omega)
            obtain ⟨u, hu⟩ : ∃ u, MapS.get (a.m, z0, z1) (outsOf Y) = some u := Option.isSome_iff_exists.1 ((outsOf_some Y (a.m, z0, z1)).2 ⟨a, hmemY.out, (z0, z1, z2), hmq, rfl⟩)
            have hlF : ∀ w' : World, w'.heap[bF]? = (wr.alloc (.cells #[.int .i64 z0, .int .u64 z1, .int .i64 z2] tI)).drew.heap[bF]? → (Instr.lookup 52 (.map (some bF)) (.agg #[.int .i64 a.m, .int .i64 z0, .int .u64 z1]) false).run Tryz.prog w' = .ok (.int .i64 u) w' := fun w' e => by
              have := MapS.M.look ktK Tryz.underlying52 (zV 0) zeroZ ((hMFi.keeps ktK ((Keeps.refl [] _).drew)).at' e) hqF
              rw [← hO.out, hu] at this
              simpa only [ktK, qV, zV, Option.map_some, Option.getD_some] using this
            rw [hu] at hok
            have hbFl : bF < (wr.alloc (.cells #[.int .i64 z0, .int .u64 z1, .int .i64 z2] tI)).drew.heap.size := MapS.M.lt ktK (hMFi.keeps ktK ((Keeps.refl [] _).drew))
            have hlS := MapS.M.look_ok ktS Tryz.underlying72 (aV .zero) zeroA (hMSi.keeps ktS ((Keeps.refl [] _).drew)) hqS
            obtain ⟨⟨u0, u1, u2, u3, u4, u5, u6, u7, u8, u9⟩, huv, hus⟩ := ans_of_get hR.out hs.out (z0, a.m, z1)
            obtain ⟨hb, hhb⟩ : ∃ b, hasA Y (z0, a.m, z1) = b := ⟨_, rfl⟩
            rw [huv, hus, hhb] at hlS
            rw [hhb] at hok
            simp only [ktS, qV, aV, AnV.v] at hlS
            rw [hz] at hbq hnq2
            rw [hok] at hbq hnq2
            have hkD : Keeps [] wr (wr.alloc (.cells #[.int .i64 z0, .int .u64 z1, .int .i64 z2] tI)).drew := hkI.drew
            have hbI := heap_alloc_new wr (.cells #[.int .i64 z0, .int .u64 z1, .int .i64 z2] tI)
            have hbId : (wr.alloc (.cells #[.int .i64 z0, .int .u64 z1, .int .i64 z2] tI)).drew.heap[wr.heap.size]? = _ := hbI
            have hbAd := (hkD.block _ (lt_of_blk ((hkq.out.block _ (lt_of_blk hbAk.out) (by simp)).trans hbAk.out)) (by simp)).trans ((hkq.out.block _ (lt_of_blk hbAk.out) (by simp)).trans hbAk.out)
            have hkqD := hkq.out.trans hkD
            replace hlF := Lib.hid hlF
            replace hbId := Lib.hid hbId
            replace hbAd := Lib.hid hbAd
            replace hkqD := Lib.hid hkqD
            replace hbq := Lib.hid hbq
            replace hnq2 := Lib.hid hnq2
            replace hu := Lib.hid hu
            replace hz := Lib.hid hz
            replace hhb := Lib.hid hhb
            replace hok := Lib.hid hok
            replace hfq := Lib.hid hfq
            clear hei hMFi hMSi hkEI hkI hqF hqS huv hus hmq hxo
            have hbAl := (hkq.out.block _ (lt_of_blk hbAk.out) (by simp)).trans hbAk.out
            obtain ⟨s0, s1, s2, s3, s4, s5, s6, s7, sf, sl⟩ := cl8 hbAl
            obtain ⟨c0, c1, c2, cf, cl⟩ := cl3 hbI
            go_upto_region 18 with fail
            clear s0 s1 s2 s3 s4 s5 s6 s7 sf sl t0 t1 t2 hbAl hbI c0 c1 c2 cf cl
            obtain ⟨s0, s1, s2, s3, s4, s5, s6, s7, sf, sl⟩ := cl8 hbAd.out
            obtain ⟨t0, t1, t2, tf, tl⟩ := cl3 hbId.out
            refine Free.wp_region_chain (fun i => false) (fun i => true) (fun _ _ => False) (by kernel_rfl) (by kernel_rfl) (by kernel_rfl) ?_
            generalize (wr.alloc (.cells #[.int .i64 z0, .int .u64 z1, .int .i64 z2] tI)).drew = wI at *
            (repeat (first | (apply Free.cw_pure rfl rfl; (intro w'; go_simp <;> exact rfl); go_frame) | (apply Free.cw_steady rfl rfl rfl; (intro w' hS; have z0 := hlF.out w' (hS.block bF hbFl (fun ⟨j, _, _, hT⟩ => hT)); have p0 := Free.sx_cell hS s0 (fun _ _ hT => hT); have p1 := Free.sx_cell hS t0 (fun _ _ hT => hT); have p2 := Free.sx_cell hS t1 (fun _ _ hT => hT); have p3 := Free.sx_cell hS t2 (fun _ _ hT => hT); go_simp <;> exact rfl); go_frame) | (refine Free.cw_skip rfl ?_; go_frame)))
            refine Free.cw_nil ?_
            by_cases huz : u = z2
            · have hne : (u != z2) = false := by simpa using huz
              have hbq2 : hb = false → (15 : Int) = r := fun h => hbq.out (by rw [h]; simp)
              have hnq3 : hb = true → ∀ j (hj : j < a.ins.length), j < q + 1 → insB Y a.m a.ins[j] = true := fun h => hnq2.out (by rw [h, huz]; simp)
              replace hbq2 := Lib.hid hbq2
              replace hnq3 := Lib.hid hnq3
              replace huz := Lib.hid huz
              have hkf := Lib.hid (hkqD.out.trans ((Keeps.refl [] wI).alloc (.cells #[.int .i64 u0, .int .i64 u1, .int .u64 u2, .int .i64 u3, .bool u4, .bool u5, .int .i64 u6, .slice u7 u8 u9] tA)))
              have hff := Lib.hid (hkwk.out.trans hkf.out)
              cases hb with
              | false =>
                have hd := Lib.hid (hbq2.out rfl)
                go_wp2
                go_ret
                exact ⟨by rw [← hd.out]; rfl, hff.out⟩
              | true =>
                have hn3 := Lib.hid (hnq3.out rfl)
                go_wp2
                go_roundw
                case rel => exact ⟨q + 1, rfl, by omega, hn3, hkf⟩
                case measure => simp [intOf]; omega
            · have hne : (u != z2) = true := by simpa using huz
              have hd := Lib.hid (hbq.out (by simp [huz]))
              have hff := Lib.hid (hkwk.out.trans hkqD.out)
              replace huz := Lib.hid huz
              go_wp2
              go_ret
              exact ⟨by rw [← hd.out]; rfl, hff.out⟩
          · have hltq2 : ¬ ((q : Int) < y8) := by omega
            have hall := Lib.hid (hallY2.out (all_take (fun j hj => hnq.out j hj (by have := ev.out; omega))))
            have hMz := Lib.hid (hMk.out.keeps ktZ hkq.out)
            have hkz := Lib.hid (hkck.out.trans hkq.out.of_nil)
            go_wp2
            go_roundw
            case rel => exact ⟨k + 1, _, rfl, by omega, hMz, hEn, hall, hkz⟩
            case measure => simp [intOf]; omega
    · have hlt2 : ¬ ((k : Int) < x6) := by omega
      have hkN : k = Y.length := by have := hfY.out; omega
      have htk : Y.take k = Y := by rw [hkN]; exact List.take_length
      have hepB := hEp.out.epB
      rw [htk] at hepB
      have hA6 := (hkr.out.block _ (lt_of_blk hA5.out) (by simpa using hBE)).trans hA5.out
      have hAd : wr.drew.heap[B]? = _ := hA6
      have hkd : Keeps [] w wr.drew := hkwr.drew
      obtain ⟨i0, i1, i2, i3, i4, i5, i6, if', il⟩ := cl7 hAd
      have hbc : decide (c.cl = clY c.an) = false → (15 : Int) = r := fun h => hbad.out (bad_cl (of_decide_eq_false h))
      have hgc : decide (c.cl = clY c.an) = true → (0 : Int) = r := fun h => hgood.out (good_all (by rw [hY.out]; exact hob.out) (by rw [hY.out]; exact hepB) (fun a ha => by
        rw [hY.out] at ha ⊢
        obtain ⟨j, hj, rfl⟩ := List.getElem_of_mem ha
        exact hno.out j hj (by omega)) (of_decide_eq_true h))
      obtain ⟨bb, hbb⟩ : ∃ b, decide (c.cl = clY c.an) = b := ⟨_, rfl⟩
      rw [hbb] at hbc hgc
      replace hbc := Lib.hid hbc
      replace hgc := Lib.hid hgc
      replace hbb := Lib.hid hbb
      replace hkd := Lib.hid hkd
      replace hkN := Lib.hid hkN
      replace htk := Lib.hid htk
      replace hepB := Lib.hid hepB
      replace hA6 := Lib.hid hA6
      clear hkwr
      go_upto_region 25 with fail
      refine Free.wp_region_chain (fun i => i == 3 || i == 4) (fun i => true) (fun _ _ => False) (by kernel_rfl) (by kernel_rfl) (by kernel_rfl) ?_
      generalize wr.drew = wd at *
      (repeat (first | (apply Free.cw_pure rfl rfl; (intro w'; go_simp <;> exact rfl); go_frame) | (apply Free.cw_steady rfl rfl rfl; (intro w' hS; have q0 := Free.sx_cell hS i0 (fun _ _ hT => hT); have q1 := Free.sx_cell hS i1 (fun _ _ hT => hT); have q2 := Free.sx_cell hS i2 (fun _ _ hT => hT); have q3 := Free.sx_cell hS i3 (fun _ _ hT => hT); have q4 := Free.sx_cell hS i4 (fun _ _ hT => hT); have q5 := Free.sx_cell hS i5 (fun _ _ hT => hT); have q6 := Free.sx_cell hS i6 (fun _ _ hT => hT); go_simp <;> exact rfl); go_frame) | (refine Free.cw_skip rfl ?_; go_frame)))
      refine Free.cw_loud rfl rfl (fun K hK => ?_)
      go_wp2_with fail
      refine (hcmA.out _ hkd.out).mono ?_
      rintro e w6 ⟨v, rfl, hv, hk6⟩
      refine hK _ _ rfl (Free.KeepsP.of hk6 (by simp)) ?_
      clear hK K
      have hk06 := hkd.out.trans hk6
      have heq := hce.out _ hk06 v (by rw [hY.out]; exact hv)
      rw [hbb.out] at heq
      obtain ⟨av, cv, rfl, _, _⟩ := hv.form
      replace heq := Lib.hid heq
      replace hk06 := Lib.hid hk06
      clear hv hk6
      (repeat (apply Free.cw_pure rfl rfl; (intro w'; go_simp <;> exact rfl); go_frame))
      refine Free.cw_loud rfl rfl (fun K hK => ?_)
      go_wp2_with fail
      refine heq.out.mono ?_
      rintro e w7 ⟨rfl, hk7⟩
      refine hK _ _ rfl (Free.KeepsP.of hk7 (by simp)) ?_
      clear hK K
      have hk07 := Lib.hid (hk06.out.trans hk7)
      (repeat (apply Free.cw_pure rfl rfl; (intro w'; go_simp <;> exact rfl); go_frame))
      refine Free.cw_nil ?_
      cases bb with
      | false =>
        have hd := Lib.hid (hbc.out rfl)
        go_wp2
        go_ret
        exact ⟨by rw [← hd.out]; rfl, hk07.out⟩
      | true =>
        have hd := Lib.hid (hgc.out rfl)
        go_wp2
        go_ret
        exact ⟨by rw [← hd.out]; rfl, hk07.out⟩
theorem check_c (w : World) (x : CtV) (c : Ct) (h : CtW w x c) (hfit : c.Fit) (hf : c.Few) :
    Calls Tryz.prog 16 #[ctV x] w fun e w' => e = .returned (.int .i64 (chk c)) ∧ Keeps [] w w' := check0_c w x c h hfit.f0 hf
end Go.Proofs.YtiplgpefapeapaaGreatDoor

namespace Go.Proofs.YtiplgpefapeapaaGreatDoor
open Go.RowKit

theorem sum_mem {α : Type} (g : α → Nat) {l : List α} {x : α} (h : x ∈ l) : g x ≤ (l.map g).sum := by
  induction l with
  | nil => simp at h
  | cons a l ih =>
    rcases List.mem_cons.1 h with rfl | h
    · simp
    · have := ih h; simp; omega
theorem few_of {c : Ct} (h : c.size ≤ 100) : c.Few := by
  unfold Ct.size at h
  refine ⟨by omega, by omega, fun a ha => ?_, fun p hp => ?_⟩
  · have := sum_mem (fun a : Ans => a.ins.length) ha; omega
  · have := sum_mem PCl.size hp
    have hs : PCl.size p = p.st.length + p.sc.length + p.ch.length := rfl
    omega
end Go.Proofs.YtiplgpefapeapaaGreatDoor

namespace Go.Proofs.YtiplgpefapeapaaGreatDoor
open Go.RowKit

def exS (s : Int) : Ct := ⟨1, 1, (2, 7, 0), [⟨1, 2, 7, 3, true, false, 4, [(2, 9, 5)]⟩, ⟨2, 1, 9, 6, true, false, 8, [(1, 7, 1)]⟩], [⟨1, 3, [(2, 7, 1)], [(2, 9, s)], []⟩, ⟨2, 6, [(1, 9, 5)], [(1, 7, 4)], []⟩]⟩
theorem ex8_chk : chk (exS 8) = 0 := by decide +kernel
theorem ex7_chk : chk (exS 7) = 15 := by decide +kernel
theorem ex_size (s : Int) : (exS s).size ≤ 100 := by unfold exS Ct.size PCl.size; simp
def exX (b : Nat) : CtV := ⟨1, 1, 2, 7, 0, (some ⟨b + 3, 0, none⟩, 2, 2), (some ⟨b + 8, 0, none⟩, 2, 2)⟩
abbrev oneV (b : Nat) : Value := .slice (some ⟨b, 0, none⟩) 1 1
/-- The blocks of the example. -/
structure ExB (w : World) (b : Nat) (s : Int) : Prop where
  o1 : w.heap[b + 1]? = some (.cells #[.int .i64 2, .int .u64 9, .int .i64 5] tI (0, 0))
  o2 : w.heap[b + 2]? = some (.cells #[.int .i64 1, .int .u64 7, .int .i64 1] tI (0, 0))
  o3 : w.heap[b + 3]? = some (.cells #[.int .i64 1, .int .i64 2, .int .u64 7, .int .i64 3, .bool true, .bool false, .int .i64 4, oneV (b + 1), .int .i64 2, .int .i64 1, .int .u64 9, .int .i64 6, .bool true, .bool false, .int .i64 8, oneV (b + 2)] tA (0, 0))
  o4 : w.heap[b + 4]? = some (.cells #[.int .i64 2, .int .u64 9, .int .i64 s] tN (0, 0))
  o5 : w.heap[b + 5]? = some (.cells #[.int .i64 2, .int .u64 7, .int .i64 1] tN (0, 0))
  o6 : w.heap[b + 6]? = some (.cells #[.int .i64 1, .int .u64 7, .int .i64 4] tN (0, 0))
  o7 : w.heap[b + 7]? = some (.cells #[.int .i64 1, .int .u64 9, .int .i64 5] tN (0, 0))
  o8 : w.heap[b + 8]? = some (.cells #[.int .i64 1, .int .i64 3, oneV (b + 5), oneV (b + 4), .slice none 0 0, .int .i64 2, .int .i64 6, oneV (b + 7), oneV (b + 6), .slice none 0 0] tC (0, 0))
theorem ExB.keeps {w w' : World} {b : Nat} {s : Int} (h : ExB w b s) (hk : Keeps [] w w') : ExB w' b s :=
  ⟨(hk.block _ (lt_of_blk h.o1) (by simp)).trans h.o1, (hk.block _ (lt_of_blk h.o2) (by simp)).trans h.o2, (hk.block _ (lt_of_blk h.o3) (by simp)).trans h.o3, (hk.block _ (lt_of_blk h.o4) (by simp)).trans h.o4, (hk.block _ (lt_of_blk h.o5) (by simp)).trans h.o5, (hk.block _ (lt_of_blk h.o6) (by simp)).trans h.o6, (hk.block _ (lt_of_blk h.o7) (by simp)).trans h.o7, (hk.block _ (lt_of_blk h.o8) (by simp)).trans h.o8⟩
theorem ExB.stamp {w : World} {b : Nat} {s : Int} (h : ExB w b s) (z : Int) : ExB (w.setCell ⟨b + 4, 2, none⟩ (.int .i64 z)) b z ∧ Keeps [b + 4] w (w.setCell ⟨b + 4, 2, none⟩ (.int .i64 z)) := by
  have hk : Keeps [b + 4] w (w.setCell ⟨b + 4, 2, none⟩ (.int .i64 z)) := (Keeps.refl _ w).setCell (.inr (by simp)) _
  refine ⟨⟨(hk.block _ (lt_of_blk h.o1) (by simp)).trans h.o1, (hk.block _ (lt_of_blk h.o2) (by simp)).trans h.o2, (hk.block _ (lt_of_blk h.o3) (by simp)).trans h.o3, ?_, (hk.block _ (lt_of_blk h.o5) (by simp)).trans h.o5, (hk.block _ (lt_of_blk h.o6) (by simp)).trans h.o6, (hk.block _ (lt_of_blk h.o7) (by simp)).trans h.o7, (hk.block _ (lt_of_blk h.o8) (by simp)).trans h.o8⟩, hk⟩
  have h4 := h.o4
  simp [World.setCell, Array.getElem?_modify, h4]
theorem R_blk {α : Type} (s : Sh α) {w : World} {b : Nat} {cs : Array Value} {t : TypeId} (L : List α) (h : w.heap[b]? = some (.cells cs t (0, 0))) (hc : cs.toList = s.cs L) (hs : (s.cs L).length = L.length * s.sz) (hm : L.length ≤ 1000) : s.R w (.slice (some ⟨b, 0, none⟩) L.length L.length) L :=
  Sh.O.r (B := 0) (e := t) ⟨hs, .inr ⟨b, L.length, cs, rfl, Nat.zero_le _, h, Nat.le_refl _, by unfold maxLen; omega, by rw [← Array.length_toList, hc, hs], by rw [hc, List.take_of_length_le (by omega)]⟩⟩
theorem ExB.ct {w : World} {b : Nat} {s : Int} (h : ExB w b s) : CtW w (exX b) (exS s) := by
  refine ⟨rfl, rfl, rfl, rfl, rfl, ?_, ?_⟩
  · refine ⟨[⟨1, 2, 7, 3, true, false, 4, some ⟨b + 1, 0, none⟩, 1, 1⟩, ⟨2, 1, 9, 6, true, false, 8, some ⟨b + 2, 0, none⟩, 1, 1⟩], R_blk shA _ h.o3 rfl rfl (by simp), rfl, fun k x y hx hy => ?_⟩
    match k with
    | 0 =>
      simp at hx
      simp [exS] at hy
      subst hx hy
      exact ⟨rfl, rfl, rfl, rfl, rfl, rfl, rfl, R_blk shT [(2, 9, 5)] h.o1 rfl rfl (by simp)⟩
    | 1 =>
      simp at hx
      simp [exS] at hy
      subst hx hy
      exact ⟨rfl, rfl, rfl, rfl, rfl, rfl, rfl, R_blk shT [(1, 7, 1)] h.o2 rfl rfl (by simp)⟩
    | k + 2 => simp at hx
  · refine ⟨[⟨1, 3, (some ⟨b + 5, 0, none⟩, 1, 1), (some ⟨b + 4, 0, none⟩, 1, 1), (none, 0, 0)⟩, ⟨2, 6, (some ⟨b + 7, 0, none⟩, 1, 1), (some ⟨b + 6, 0, none⟩, 1, 1), (none, 0, 0)⟩], R_blk shC _ h.o8 rfl rfl (by simp), rfl, fun k x y hx hy => ?_⟩
    match k with
    | 0 =>
      simp at hx
      simp [exS] at hy
      subst hx hy
      exact ⟨rfl, rfl, R_blk shT [(2, 7, 1)] h.o5 rfl rfl (by simp), R_blk shT [(2, 9, s)] h.o4 rfl rfl (by simp), Sh.R.nil _ _⟩
    | 1 =>
      simp at hx
      simp [exS] at hy
      subst hx hy
      exact ⟨rfl, rfl, R_blk shT [(1, 9, 5)] h.o7 rfl rfl (by simp), R_blk shT [(1, 7, 4)] h.o6 rfl rfl (by simp), Sh.R.nil _ _⟩
    | k + 2 => simp at hx
theorem ex_fit (s : Int) (hs : W64 s) : (exS s).Fit := by
  refine ⟨rfl, rfl, ⟨rfl, by simp [exS], rfl⟩, fun a ha => ?_, fun p hp => ?_⟩
  · simp [exS] at ha
    rcases ha with rfl | rfl
    · exact ⟨⟨rfl, rfl, by simp [Ans.q]⟩, rfl, rfl, (fun x hx => by simp at hx; subst hx; exact ⟨rfl, by simp, rfl⟩)⟩
    · exact ⟨⟨rfl, rfl, by simp [Ans.q]⟩, rfl, rfl, (fun x hx => by simp at hx; subst hx; exact ⟨rfl, by simp, rfl⟩)⟩
  · simp [exS] at hp
    rcases hp with rfl | rfl
    · exact ⟨rfl, rfl, (fun x hx => by simp at hx; subst hx; exact ⟨rfl, by simp, rfl⟩), (fun x hx => by simp at hx; subst hx; exact ⟨rfl, by simp, hs⟩), (fun x hx => by simp at hx)⟩
    · exact ⟨rfl, rfl, (fun x hx => by simp at hx; subst hx; exact ⟨rfl, by simp, rfl⟩), (fun x hx => by simp at hx; subst hx; exact ⟨rfl, by simp, rfl⟩), (fun x hx => by simp at hx)⟩
theorem an2 (w : World) (o : Obj) {b : Nat} (h : b = w.heap.size) : (w.alloc o).heap[b]? = some o := by subst h; exact heap_alloc_new w o
theorem alloc9 {w W : World} {a0 a1 a2 a3 a4 a5 a6 a7 a8 : Obj} (h : (((((((((w.alloc a0).alloc a1).alloc a2).alloc a3).alloc a4).alloc a5).alloc a6).alloc a7).alloc a8) = W) :
    W.heap[w.heap.size]? = some a0 ∧ W.heap[w.heap.size + 1]? = some a1 ∧ W.heap[w.heap.size + 2]? = some a2 ∧ W.heap[w.heap.size + 3]? = some a3 ∧ W.heap[w.heap.size + 4]? = some a4 ∧ W.heap[w.heap.size + 5]? = some a5 ∧ W.heap[w.heap.size + 6]? = some a6 ∧ W.heap[w.heap.size + 7]? = some a7 ∧ W.heap[w.heap.size + 8]? = some a8 ∧ Keeps [] w W := by
  subst h
  refine ⟨?_, ?_, ?_, ?_, ?_, ?_, ?_, ?_, ?_, ((((((((((Keeps.refl [] w).alloc _).alloc _).alloc _).alloc _).alloc _).alloc _).alloc _).alloc _).alloc _)⟩
  · rw [Below.heap_alloc _ _ _ (by simp <;> omega), Below.heap_alloc _ _ _ (by simp <;> omega), Below.heap_alloc _ _ _ (by simp <;> omega), Below.heap_alloc _ _ _ (by simp <;> omega), Below.heap_alloc _ _ _ (by simp <;> omega), Below.heap_alloc _ _ _ (by simp <;> omega), Below.heap_alloc _ _ _ (by simp <;> omega), Below.heap_alloc _ _ _ (by simp <;> omega)]; exact an2 _ _ (by simp)
  · rw [Below.heap_alloc _ _ _ (by simp <;> omega), Below.heap_alloc _ _ _ (by simp <;> omega), Below.heap_alloc _ _ _ (by simp <;> omega), Below.heap_alloc _ _ _ (by simp <;> omega), Below.heap_alloc _ _ _ (by simp <;> omega), Below.heap_alloc _ _ _ (by simp <;> omega), Below.heap_alloc _ _ _ (by simp <;> omega)]; exact an2 _ _ (by simp)
  · rw [Below.heap_alloc _ _ _ (by simp <;> omega), Below.heap_alloc _ _ _ (by simp <;> omega), Below.heap_alloc _ _ _ (by simp <;> omega), Below.heap_alloc _ _ _ (by simp <;> omega), Below.heap_alloc _ _ _ (by simp <;> omega), Below.heap_alloc _ _ _ (by simp <;> omega)]; exact an2 _ _ (by simp)
  · rw [Below.heap_alloc _ _ _ (by simp <;> omega), Below.heap_alloc _ _ _ (by simp <;> omega), Below.heap_alloc _ _ _ (by simp <;> omega), Below.heap_alloc _ _ _ (by simp <;> omega), Below.heap_alloc _ _ _ (by simp <;> omega)]; exact an2 _ _ (by simp)
  · rw [Below.heap_alloc _ _ _ (by simp <;> omega), Below.heap_alloc _ _ _ (by simp <;> omega), Below.heap_alloc _ _ _ (by simp <;> omega), Below.heap_alloc _ _ _ (by simp <;> omega)]; exact an2 _ _ (by simp)
  · rw [Below.heap_alloc _ _ _ (by simp <;> omega), Below.heap_alloc _ _ _ (by simp <;> omega), Below.heap_alloc _ _ _ (by simp <;> omega)]; exact an2 _ _ (by simp)
  · rw [Below.heap_alloc _ _ _ (by simp <;> omega), Below.heap_alloc _ _ _ (by simp <;> omega)]; exact an2 _ _ (by simp)
  · rw [Below.heap_alloc _ _ _ (by simp <;> omega)]; exact an2 _ _ (by simp)
  · exact an2 _ _ (by simp)
set_option maxRecDepth 100000 in
set_option maxHeartbeats 4000000 in
theorem example_c (w : World) : Calls Tryz.prog 15 #[] w fun e w' => e = .returned (ctV (exX w.heap.size)) ∧ ExB w' w.heap.size 8 ∧ Keeps [] w w' := by
  go_enter Tryz.func15, Tryz.ntmps15
  go_wp2
  generalize hW : World.alloc _ (Obj.cells #[.int .i64 1, .int .i64 3, _, _, _, .int .i64 2, .int .i64 6, _, _, _] _) = W
  obtain ⟨h0, h1, h2, h3, h4, h5, h6, h7, h8, hk⟩ := alloc9 hW
  refine bodyPost_ret (results_cell_row rfl _ _ _ _ _ _ _ rfl h0 Tryz.underlying30 rfl (by kernel_rfl)) rfl ?_
  exact ⟨rfl, ⟨h1, h2, h3, h4, h5, h6, h7, h8⟩, hk⟩
set_option maxRecDepth 100000 in
set_option maxHeartbeats 4000000 in
theorem awake_c (w : World) : Calls Tryz.prog 5 #[] w fun e w' => e = .returned (.bool true) ∧ Keeps [] w w' := by
  have hce := fun (W : World) (s : Int) (hs : W64 s) (h : ExB W w.heap.size s) => check_c W _ _ h.ct (ex_fit s hs) (few_of (ex_size s))
  obtain ⟨b, hb⟩ : ∃ b, w.heap.size = b := ⟨_, rfl⟩
  have hex := example_c w
  rw [hb] at hce hex
  replace hce := Lib.hid hce
  replace hb := Lib.hid hb
  go_enter Tryz.func5, Tryz.ntmps5
  go_wp2_with fail
  refine hex.mono ?_
  rintro e w1 ⟨rfl, hE1, hk1⟩
  have hA := heap_alloc_new w1 (.cells #[.int .i64 1, .int .i64 1, .int .i64 2, .int .u64 7, .int .i64 0, .slice (some ⟨b + 3, 0, none⟩) 2 2, .slice (some ⟨b + 8, 0, none⟩) 2 2] tCt)
  have hkA := hk1.trans ((Keeps.refl [] w1).alloc (.cells #[.int .i64 1, .int .i64 1, .int .i64 2, .int .u64 7, .int .i64 0, .slice (some ⟨b + 3, 0, none⟩) 2 2, .slice (some ⟨b + 8, 0, none⟩) 2 2] tCt))
  have hE2 := hE1.keeps ((Keeps.refl [] w1).alloc (.cells #[.int .i64 1, .int .i64 1, .int .i64 2, .int .u64 7, .int .i64 0, .slice (some ⟨b + 3, 0, none⟩) 2 2, .slice (some ⟨b + 8, 0, none⟩) 2 2] tCt))
  have hbA : b < w1.heap.size := by have := lt_of_blk hE1.o1; omega
  have hc8 := hce.out _ 8 rfl hE2
  rw [ex8_chk] at hc8
  simp only [ctV, slv, exX] at hc8 ⊢
  replace hA := Lib.hid hA
  replace hkA := Lib.hid hkA
  replace hE2 := Lib.hid hE2
  replace hbA := Lib.hid hbA
  replace hc8 := Lib.hid hc8
  clear hE1 hk1
  go_upto_region 2 with fail
  generalize (w1.alloc (.cells #[.int .i64 1, .int .i64 1, .int .i64 2, .int .u64 7, .int .i64 0, .slice (some ⟨b + 3, 0, none⟩) 2 2, .slice (some ⟨b + 8, 0, none⟩) 2 2] tCt)) = WA at *
  obtain ⟨XA, hXA⟩ : ∃ X, w1.heap.size = X := ⟨_, rfl⟩
  rw [hXA] at hA hbA ⊢
  obtain ⟨i0, i1, i2, i3, i4, i5, i6, if', il⟩ := cl7 hA.out
  go_wp2_with fail
  refine hc8.out.mono ?_
  rintro e w2 ⟨rfl, hk2⟩
  have hA2 := (hk2.block _ (lt_of_blk hA.out) (by simp)).trans hA.out
  have hE3 := hE2.out.keeps hk2
  have hk02 := hkA.out.trans hk2
  clear i0 i1 i2 i3 i4 i5 i6 if' il hc8
  obtain ⟨i0, i1, i2, i3, i4, i5, i6, if', il⟩ := cl7 hA2
  have t8 := hE3.o8
  have t4 := hE3.o4
  have a3 : w2.cell? ⟨b + 8, 3, none⟩ = some (oneV (b + 4)) := by simp [World.cell?, t8]
  obtain ⟨_, _, a4, af, al⟩ := cl3 t4
  obtain ⟨hE4, hk4⟩ := hE3.stamp 7
  have hXb : XA ≠ b + 4 := by have := hE2.out.o4; have := hbA.out; intro e; rw [← e] at t4; rw [hA2] at t4; simp at t4
  have hA4 := (hk4.block _ (lt_of_blk hA2) (by simp; omega)).trans hA2
  have hk04 := hk02.fresh hk4 (fun x hx => by simp only [List.mem_singleton] at hx; subst hx; exact .inr (by have := hb.out; omega))
  have hc7 := hce.out _ 7 rfl hE4
  rw [ex7_chk] at hc7
  simp only [ctV, slv, exX] at hc7
  replace hA4 := Lib.hid hA4
  replace hk04 := Lib.hid hk04
  replace hc7 := Lib.hid hc7
  clear t8 t4 hE4 hk4 hE3 hA2 hk02 hk2 hce hE2
  go_upto_region 5 with fail
  generalize (w2.setCell ⟨b + 4, 2, none⟩ (.int .i64 7)) = W4 at *
  clear i0 i1 i2 i3 i4 i5 i6 if' il a3 a4 af al
  obtain ⟨i0, i1, i2, i3, i4, i5, i6, if', il⟩ := cl7 hA4.out
  go_wp2_with fail
  refine hc7.out.mono ?_
  rintro e w5 ⟨rfl, hk5⟩
  have hkz := hk04.out.trans hk5
  go_wp2
  go_ret
  exact ⟨rfl, hkz⟩
end Go.Proofs.YtiplgpefapeapaaGreatDoor

namespace Go.Proofs.YtiplgpefapeapaaGreatDoor
open Go.RowKit

set_option maxRecDepth 100000 in
set_option maxHeartbeats 2000000 in
theorem beforeR_c (w : World) (x y : AnV) : Calls Tryz.prog 56 #[aV x, aV y] w fun e w' => e = .returned (.bool (decide (qlt x.q y.q))) ∧ Keeps [] w w' := by
  obtain ⟨x0, x1, x2, x3, x4, x5, x6, x7, x8, x9⟩ := x
  obtain ⟨y0, y1, y2, y3, y4, y5, y6, y7, y8, y9⟩ := y
  simp only [aV, AnV.v]
  have hkA : Keeps [] w ((w.alloc (.cells #[.int .i64 x0, .int .i64 x1, .int .u64 x2, .int .i64 x3, .bool x4, .bool x5, .int .i64 x6, .slice x7 x8 x9] tA)).alloc (.cells #[.int .i64 y0, .int .i64 y1, .int .u64 y2, .int .i64 y3, .bool y4, .bool y5, .int .i64 y6, .slice y7 y8 y9] tA)) := ((Keeps.refl _ _).alloc _).alloc _
  obtain ⟨r, hr⟩ : ∃ r, decide (qlt (AnV.q ⟨x0, x1, x2, x3, x4, x5, x6, x7, x8, x9⟩) (AnV.q ⟨y0, y1, y2, y3, y4, y5, y6, y7, y8, y9⟩)) = r := ⟨_, rfl⟩
  rw [hr]
  replace hkA := Lib.hid hkA
  by_cases a0 : x0 = y0
  · have b0 : (x0 != y0) = false := by simpa using a0
    by_cases a1 : x1 = y1
    · have b1 : (x1 != y1) = false := by simpa using a1
      have hd : decide ((x2 : Int) < (y2 : Int)) = r := by rw [← hr]; exact decide_eq_decide.2 (by unfold qlt AnV.q; simp only; omega)
      replace hr := Lib.hid hr
      replace a0 := Lib.hid a0
      replace a1 := Lib.hid a1
      go_enter Tryz.func56, Tryz.ntmps56
      go_wp2
      go_ret
      exact ⟨by first | (rw [← hd]; rfl) | (rw [← hd]; simp), hkA.out⟩
    · have b1 : (x1 != y1) = true := by simpa using a1
      have hd : decide (x1 < y1) = r := by rw [← hr]; exact decide_eq_decide.2 (by unfold qlt AnV.q; simp only; omega)
      replace hr := Lib.hid hr
      replace a0 := Lib.hid a0
      go_enter Tryz.func56, Tryz.ntmps56
      go_wp2
      go_ret
      exact ⟨by rw [← hd]; rfl, hkA.out⟩
  · have b0 : (x0 != y0) = true := by simpa using a0
    have hd : decide (x0 < y0) = r := by rw [← hr]; exact decide_eq_decide.2 (by unfold qlt AnV.q; simp only; omega)
    replace hr := Lib.hid hr
    go_enter Tryz.func56, Tryz.ntmps56
    go_wp2
    go_ret
    exact ⟨by rw [← hd]; rfl, hkA.out⟩
set_option maxRecDepth 100000 in
set_option maxHeartbeats 8000000 in
theorem answerR_c (w : World) (x : AnV) (y : Ans) (h : InR w x y) (hl : y.ins.length ≤ 1024) :
    Calls Tryz.prog 55 #[aV x] w fun e w' => e = .returned (.bool (ansOk y)) ∧ Keeps [] w w' := by
  obtain ⟨_, _, ev, hl1, hl2, _⟩ := h.ins.form
  have hins := h.ins
  obtain ⟨x0, x1, x2, x3, x4, x5, x6, x7, x8, x9⟩ := x
  have q0 := h.m
  have q1 := h.ow
  have q3 := h.ep
  have q6 := h.lu
  simp only [AnV.v] at ev hins
  simp only at q0 q1 q3 q6
  simp only [Value.slice.injEq] at ev
  obtain ⟨-, ev, -⟩ := ev
  have hx8m : x8 ≤ 9223372036854775807 := by unfold maxLen at hl2; omega
  have hok : ansOk y = (mach x0 && mach x1 && decide (0 ≤ x3) && decide (0 ≤ x6) && y.ins.all insOk) := by rw [ansOk_def, q0, q1, q3, q6]
  obtain ⟨r, hr⟩ : ∃ r, ansOk y = r := ⟨_, rfl⟩
  rw [hr]
  rw [hok] at hr
  obtain ⟨n1, hn1⟩ : ∃ b, mach x0 = b := ⟨_, rfl⟩
  obtain ⟨n2, hn2⟩ : ∃ b, mach x1 = b := ⟨_, rfl⟩
  have hd1 := fun W => machR_c x0 W
  have hd2 := fun W => machR_c x1 W
  rw [hn1] at hd1 hr
  rw [hn2] at hd2 hr
  have hbA := heap_alloc_new w (.cells #[.int .i64 x0, .int .i64 x1, .int .u64 x2, .int .i64 x3, .bool x4, .bool x5, .int .i64 x6, .slice x7 x8 x9] tA)
  have hkA := (Keeps.refl [] w).alloc (.cells #[.int .i64 x0, .int .i64 x1, .int .u64 x2, .int .i64 x3, .bool x4, .bool x5, .int .i64 x6, .slice x7 x8 x9] tA)
  have hinsn := Lib.hid (hins.keeps hkA)
  have hl8 : x8 ≤ 1024 := by omega
  replace hr := Lib.hid hr
  replace hd1 := Lib.hid hd1
  replace hd2 := Lib.hid hd2
  replace ev := Lib.hid ev
  replace hbA := Lib.hid hbA
  replace hkA := Lib.hid hkA
  clear h hins q0 q1 q3 q6 hok hn1 hn2 hl hl1 hl2
  simp only [aV, AnV.v]
  go_enter Tryz.func55, Tryz.ntmps55
  go_upto_region 1 with fail
  generalize (w.alloc (.cells #[.int .i64 x0, .int .i64 x1, .int .u64 x2, .int .i64 x3, .bool x4, .bool x5, .int .i64 x6, .slice x7 x8 x9] tA)) = WA at *
  obtain ⟨XA, hXA⟩ : ∃ X, w.heap.size = X := ⟨_, rfl⟩
  rw [hXA] at hbA ⊢
  replace hXA := Lib.hid hXA
  go_wp2
  go_loopw [3] (fun i wr => ∃ q : Nat, i = .int .i64 q ∧ q ≤ x8 ∧ Hid (∀ j (hj : j < y.ins.length), j < q → insOk y.ins[j] = true) ∧ Hid (Keeps [] WA wr)) (fun i _ => x8 - (intOf i).toNat)
  case atStart => exact ⟨0, rfl, by omega, Lib.hid (fun _ _ h => by omega), Lib.hid (Keeps.refl _ _)⟩
  case round =>
    obtain ⟨q, rfl, hq, hnq, hkq⟩ := hrel
    have hbr := (hkq.out.block _ (lt_of_blk hbA.out) (by simp)).trans hbA.out
    obtain ⟨g0, g1, g2, g3, g4, g5, g6, g7, gf, gl⟩ := cl8 hbr
    have hfin := Lib.hid (hkA.out.trans hkq.out)
    by_cases hltq : q < x8
    · have hlt2q : (q : Int) < x8 := by omega
      have hql : q < y.ins.length := by rw [← ev.out]; exact hltq
      obtain ⟨gi, oi, ci, hvi, hei⟩ := (hinsn.out.keeps hkq.out).elem hql
      rw [← ev.out] at hvi
      cases hvi
      obtain ⟨⟨z0, z1, z2⟩, hz⟩ : ∃ z, y.ins[q] = z := ⟨_, rfl⟩
      rw [hz] at hei
      have t0 := hei 0 _ rfl
      have t1 := hei 1 _ rfl
      have t2 := hei 2 _ rfl
      simp only [shT, Nat.add_zero] at t0 t1 t2
      obtain ⟨n3, hn3⟩ : ∃ b, mach z0 = b := ⟨_, rfl⟩
      have hd3 := fun W => machR_c z0 W
      rw [hn3] at hd3
      have hok : insOk y.ins[q] = (n3 && decide (0 ≤ z2)) := by rw [hz, ← hn3]; rfl
      replace hd3 := Lib.hid hd3
      replace hok := Lib.hid hok
      replace hz := Lib.hid hz
      clear hei hn3
      go_wp2_with fail
      refine (hd3.out _).mono ?_
      rintro e w' ⟨rfl, hw⟩
      obtain rfl := hw
      cases n3 with
      | false =>
        have hd : false = r := by rw [← hr.out, all_no hql (by rw [hok.out]; rfl)]; simp
        replace hd := Lib.hid hd
        go_wp2
        go_ret
        exact ⟨by rw [← hd.out]; rfl, hfin.out⟩
      | true =>
      by_cases h2 : z2 < 0
      · have hd : false = r := by rw [← hr.out, all_no hql (by rw [hok.out]; simpa using h2)]; simp
        replace hd := Lib.hid hd
        go_wp2
        go_ret
        exact ⟨by rw [← hd.out]; rfl, hfin.out⟩
      have h2d : decide (z2 < 0) = false := by simpa using h2
      have hnq2 : ∀ j (hj : j < y.ins.length), j < q + 1 → insOk y.ins[j] = true := fun j hj hjq => by
        by_cases e : j = q
        · subst e; rw [hok.out]; simpa using h2
        · exact hnq.out j hj (by omega)
      replace hnq2 := Lib.hid hnq2
      go_wp2
      go_roundw
      case rel => exact ⟨q + 1, rfl, by omega, hnq2, hkq⟩
      case measure => simp [intOf]; omega
    · have hlt2q : ¬ ((q : Int) < x8) := by omega
      have hall : y.ins.all insOk = true := all_take (fun j hj => hnq.out j hj (by have := ev.out; omega))
      rw [hall, Bool.and_true] at hr
      clear hnq hall
      go_wp2_with fail
      refine (hd1.out _).mono ?_
      rintro e w' ⟨rfl, hw⟩
      obtain rfl := hw
      cases n1 with
      | false =>
        have hd : false = r := by rw [← hr.out]; simp
        replace hd := Lib.hid hd
        go_wp2
        go_ret
        exact ⟨by rw [← hd.out]; rfl, hfin.out⟩
      | true =>
      go_wp2_with fail
      refine (hd2.out _).mono ?_
      rintro e w' ⟨rfl, hw⟩
      obtain rfl := hw
      cases n2 with
      | false =>
        have hd : false = r := by rw [← hr.out]; simp
        replace hd := Lib.hid hd
        go_wp2
        go_ret
        exact ⟨by rw [← hd.out]; rfl, hfin.out⟩
      | true =>
      by_cases h3 : 0 ≤ x3
      case neg =>
        have h3d : decide (0 ≤ x3) = false := by simpa using h3
        have hd : false = r := by rw [← hr.out, h3d]; simp
        replace hd := Lib.hid hd
        go_wp2
        go_ret
        exact ⟨by rw [← hd.out]; rfl, hfin.out⟩
      case pos =>
      have h3d : decide (0 ≤ x3) = true := by simpa using h3
      by_cases h6 : 0 ≤ x6
      case neg =>
        have h6d : decide (0 ≤ x6) = false := by simpa using h6
        have hd : false = r := by rw [← hr.out, h6d]; simp
        replace hd := Lib.hid hd
        go_wp2
        go_ret
        exact ⟨by rw [← hd.out]; rfl, hfin.out⟩
      case pos =>
      have h6d : decide (0 ≤ x6) = true := by simpa using h6
      have hd : true = r := by rw [← hr.out, h3d, h6d]; simp
      have hl9 : decide ((x8 : Int) ≤ 1024) = true := by simp; omega
      replace hd := Lib.hid hd
      go_wp2
      go_ret
      exact ⟨by rw [← hd.out]; rfl, hfin.out⟩
end Go.Proofs.YtiplgpefapeapaaGreatDoor

namespace Go.Proofs.YtiplgpefapeapaaGreatDoor

/-- The number that digits stand for. -/
def valU (l : List UInt8) : Nat := l.foldl (fun n b => n * 256 + b.toNat) 0
end Go.Proofs.YtiplgpefapeapaaGreatDoor

namespace Go.Proofs.YtiplgpefapeapaaGreatDoor
open Go.RowKit

theorem SlB.cap {w : World} {v : Value} {l : List UInt8} (h : SlB w v l) : l.length ≤ maxLen := by obtain ⟨_, a, c, rfl, h1, h2, _⟩ := h; omega

end Go.Proofs.YtiplgpefapeapaaGreatDoor

namespace Go.Proofs.YtiplgpefapeapaaGreatDoor
open Go.RowKit

theorem Grw.ne {w w' : World} {v v' : Value} (g : Grw w w' v v') {X : Nat} (hv : v.ownBlock ≠ some X) (hX : X < w.heap.size) : v'.ownBlock ≠ some X := by
  rcases g.own with e | ⟨k, e, hk⟩
  · rw [e]; exact hv
  · rw [e]; intro h; cases h; omega
end Go.Proofs.YtiplgpefapeapaaGreatDoor

namespace Go.Proofs.YtiplgpefapeapaaGreatDoor
open Go.RowKit Go.ChangeShapes

abbrev tB : Nat := 5
end Go.Proofs.YtiplgpefapeapaaGreatDoor

namespace Go.Proofs.YtiplgpefapeapaaGreatDoor
open Go.RowKit

/-- What a number's encoding at the head of `l` gives: the number and the rest. -/
def readU : List UInt8 → Option (Nat × List UInt8)
  | [] => none
  | k :: t => if k.toNat ≤ 8 ∧ k.toNat ≤ t.length ∧ (0 < k.toNat → t.headD 1 ≠ 0) then some (valU (t.take k.toNat), t.drop k.toNat) else none
/-- Bytes kept, and the tags of blocks of bytes. -/
def KV (w w' : World) : Prop := KB w w' ∧ ∀ (b : Nat) (cs : Array Value), w.heap[b]? = some (Obj.cells cs tB (0, 0)) → ∃ cs' : Array Value, w'.heap[b]? = some (Obj.cells cs' tB (0, 0))
theorem KV.trans {a b c : World} (h : KV a b) (k : KV b c) : KV a c := ⟨h.1.trans k.1, fun x cs hx => by obtain ⟨cs', h'⟩ := h.2 x cs hx; exact k.2 x cs' h'⟩
theorem KV.drew (w : World) : KV w w.drew := ⟨KB.drew w, fun _ cs h => ⟨cs, h⟩⟩
theorem KV.setCell (w : World) {b o : Nat} {u : Value} (v : Value) (h : w.cell? ⟨b, o, none⟩ = some u) (hu : ∀ x, u ≠ .int .u8 x) : KV w (w.setCell ⟨b, o, none⟩ v) :=
  ⟨KB.setCell w v h hu, fun x cs hx => by
    by_cases e : x = b
    · subst e
      obtain ⟨hlt, hk⟩ := Array.getElem?_eq_some_iff.1 hx
      simp [World.setCell, Array.getElem?_modify, hx]
    · exact ⟨cs, by
        rw [← hx]
        simp [World.setCell, Array.getElem?_modify, Ne.symm e]⟩⟩
theorem Keeps.kv {S : List Nat} {w w' : World} (h : Keeps S w w') (hS : ∀ b ∈ S, ∀ o x, w.cell? ⟨b, o, none⟩ ≠ some (.int .u8 x)) (hT : ∀ b ∈ S, ∀ cs : Array Value, w.heap[b]? ≠ some (Obj.cells cs tB (0, 0))) : KV w w' :=
  ⟨h.kb hS, fun b cs hb => ⟨cs, (h.block b (Array.getElem?_eq_some_iff.1 hb).1 (fun hm => hT b hm cs hb)).trans hb⟩⟩
theorem Keeps.kv0 {w w' : World} (h : Keeps [] w w') : KV w w' := h.kv (by simp) (by simp)
/-- A slice of bytes that lies in a block of bytes. -/
structure SlV (w : World) (v : Value) (l : List UInt8) : Prop where
  b : SlB w v l
  t : ∀ g : Nat, v.ownBlock = some g → ∃ cs : Array Value, w.heap[g]? = some (Obj.cells cs tB (0, 0))
namespace SlV
variable {w w' : World} {v : Value} {l : List UInt8}
theorem form (h : SlV w v l) : ∃ a cap, v = .slice a l.length cap := h.b.form
theorem cap (h : SlV w v l) : l.length ≤ maxLen := h.b.cap
theorem cases (h : SlV w v l) :
    (l = [] ∧ ∃ a cap, v = .slice a 0 cap ∧ cap ≤ maxLen ∧ (a = none → cap = 0)) ∨
    ∃ g o cap, v = .slice (some ⟨g, o, none⟩) l.length cap ∧ l.length ≤ cap ∧ cap ≤ maxLen ∧ 0 < l.length ∧ g < w.heap.size ∧ ∀ k (hk : k < l.length), w.cell? ⟨g, o + k, none⟩ = some (.int .u8 (l[k].toNat : Int)) := h.b.cases
theorem kv (h : SlV w v l) (hk : KV w w') : SlV w' v l := ⟨h.b.kb hk.1, fun g hg => by obtain ⟨cs, hc⟩ := h.t g hg; exact hk.2 g cs hc⟩
theorem keeps (h : SlV w v l) (hk : Keeps [] w w') : SlV w' v l := h.kv hk.kv0
theorem kb (h : SlV w v l) (hk : KV w w') : SlV w' v l := h.kv hk
theorem nil (w : World) : SlV w (.slice none 0 0) [] := ⟨SlB.nil w, fun g hg => by cases hg⟩
theorem tail {g o n cap : Nat} (h : SlV w (.slice (some ⟨g, o, none⟩) n cap) l) (a : Nat) (ha : a ≤ l.length) :
    SlV w (.slice (if cap = a then some ⟨g, o, none⟩ else some ⟨g, o + a, none⟩) (l.length - a) (cap - a)) (l.drop a) :=
  ⟨h.b.tail a ha, fun x hx => h.t x (by split at hx <;> exact hx)⟩
end SlV
end Go.Proofs.YtiplgpefapeapaaGreatDoor

namespace Go.Proofs.YtiplgpefapeapaaGreatDoor
open Go.RowKit

/-- A reader's state: what is left, and the error. -/
abbrev RS := List UInt8 × Int
def rU (s : RS) : Nat × RS := if s.2 = 0 then (match readU s.1 with | some (x, r) => (x, (r, 0)) | none => (0, ([], 11))) else (0, s)
def readB : List UInt8 → Option (Bool × List UInt8)
  | [] => none
  | k :: t => if k.toNat ≤ 1 then some (k.toNat == 1, t) else none
def rB (s : RS) : Bool × RS := if s.2 = 0 then (match readB s.1 with | some (x, r) => (x, (r, 0)) | none => (false, ([], 11))) else (false, s)
end Go.Proofs.YtiplgpefapeapaaGreatDoor

namespace Go.Proofs.YtiplgpefapeapaaGreatDoor
open Go.RowKit

def cEK (K n : Nat) (l : List UInt8) : Int := if K < n then 8 else if l.length < n then 11 else 0
def rCK (K : Nat) (l : List UInt8) : Nat × RS := match readU l with | some (n, r) => if cEK K n r = 0 then (n, (r, 0)) else (0, ([], cEK K n r)) | none => (0, ([], 11))
end Go.Proofs.YtiplgpefapeapaaGreatDoor

namespace Go.Proofs.YtiplgpefapeapaaGreatDoor
open Go.RowKit Go.ChangeShapes

/-- The integer that a number on the wire stands for. -/
def uzig (n : Nat) : Int := if n % 2 = 0 then ((n / 2 : Nat) : Int) else -((n / 2 : Nat) : Int) - 1
def rI (s : RS) : Int × RS := (uzig (rU s).1, (rU s).2)
def rCS (K : Nat) (s : RS) : Nat × RS := if s.2 = 0 then rCK K s.1 else (0, s)
end Go.Proofs.YtiplgpefapeapaaGreatDoor

namespace Go.Proofs.YtiplgpefapeapaaGreatDoor
open Go.RowKit Go.ChangeShapes

/-- The trace's own numbers fit. -/
structure Tr.Num (t : Tr) : Prop where
  im : W64 t.im
  is : W64 t.is
  s0 : W64 t.st.1
  s1 : t.st.2.1 < 18446744073709551616
  s2 : W64 t.st.2.2
theorem csZ : ∀ zs : List Int, shZ.cs zs = zs.map (.int .i64)
  | [] => rfl
  | z :: zs => by
    show shZ.cf z ++ shZ.cs zs = _
    rw [csZ zs]
    rfl
end Go.Proofs.YtiplgpefapeapaaGreatDoor

namespace Go.Proofs.YtiplgpefapeapaaGreatDoor
open Go.RowKit

def Tr.agreeT (t : Tr) (m : Int) : Tr × Int :=
  if t.state ≠ 1 then (t, 9) else match t.clm[t.ag.length]? with
  | some p => if p.m ≠ m then (t, 1) else ({ t with ag := t.ag ++ [m], state := if t.ag.length + 1 = t.clm.length then 2 else t.state }, 0)
  | none => (t, 0)
def Tr.refuseT (t : Tr) (m : Int) : Tr × Int :=
  if t.state ≠ 1 then (t, 9) else match t.clm[t.ag.length]? with
  | some p => if p.m ≠ m then (t, 1) else ({ t with state := 4, rf := true }, 0)
  | none => (t, 0)
end Go.Proofs.YtiplgpefapeapaaGreatDoor

namespace Go.Proofs.YtiplgpefapeapaaGreatDoor
open Go.RowKit

theorem LRd.snoc {w : World} {X : List AnV} {Y : List Ans} {x : AnV} {y : Ans} (h : LRd w X Y) (hx : InR w x y) : LRd w (X ++ [x]) (Y ++ [y]) := by
  obtain ⟨hl, hh⟩ := h
  refine ⟨by simp [hl], fun k u v hu hv => ?_⟩
  by_cases hk : k < X.length
  · rw [List.getElem?_append_left hk] at hu
    rw [List.getElem?_append_left (by omega)] at hv
    exact hh k u v hu hv
  · rw [List.getElem?_append_right (by omega)] at hu hv
    rw [← hl] at hv
    obtain ⟨j, hj⟩ : ∃ j, k - X.length = j := ⟨_, rfl⟩
    rw [hj] at hu hv
    cases j with
    | zero => simp at hu hv; subst hu hv; exact hx
    | succ j => simp at hu
/-- While a trace gathers, its history are the recorded answers. -/
def Tr.HistOk (t : Tr) : Prop := t.state = 0 → ∀ b, b ∈ t.hist ↔ ∃ p ∈ t.rec', p.2 = b
end Go.Proofs.YtiplgpefapeapaaGreatDoor

namespace Go.Proofs.YtiplgpefapeapaaGreatDoor
open Go.RowKit

theorem Tr.put_rec {t : Tr} {a : Ans} (hn : t.op.Nodup) (ho : isOpen a.q t.qs = true) (b : Ans) : (∃ p ∈ ((t.take a).put a).rec', p.2 = b) ↔ b = a ∨ ∃ p ∈ t.rec', p.2 = b := by
  have hm := isOpen_mem.1 ho
  have hq : a.q ∈ t.qs.map (·.1) := List.mem_map.2 ⟨_, hm, rfl⟩
  have hr : ((t.take a).put a).rec' = recOf (setQ a.q a t.qs) := fold_rec _ _ _
  rw [hr]
  constructor
  · rintro ⟨⟨k, c⟩, hp, rfl⟩
    rcases (setQ_mem hq k (some c)).1 (recOf_keys.1 hp) with ⟨_, e⟩ | ⟨_, e⟩
    · exact .inl (Option.some.inj e)
    · exact .inr ⟨(k, c), recOf_keys.2 e, rfl⟩
  · rintro (rfl | ⟨⟨k, c⟩, hp, rfl⟩)
    · exact ⟨(b.q, b), recOf_keys.2 ((setQ_mem hq _ _).2 (.inl ⟨rfl, rfl⟩)), rfl⟩
    · refine ⟨(k, c), recOf_keys.2 ((setQ_mem hq _ _).2 ?_), rfl⟩
      have hp2 : (k, some c) ∈ t.qs := recOf_keys.1 hp
      by_cases e : k = a.q
      · subst e
        have := nd_val hn hm hp2
        cases this
      · exact .inr ⟨e, hp2⟩
theorem Tr.HistOk.new (im is : Int) (st : T3) : (Tr.new im is st).HistOk := fun _ b => by simp [Tr.new, Tr.rec', recOf]
theorem Tr.close_hist (t : Tr) : t.close.hist = t.hist ∧ t.close.rec' = t.rec' ∧ (t.close.state = 0 → t.state = 0) := by
  unfold Tr.close
  split
  · exact ⟨rfl, rfl, fun h => by simp at h⟩
  · exact ⟨rfl, rfl, id⟩
theorem Tr.HistOk.answer {t : Tr} {a : Ans} (h : t.HistOk) (hi : t.Inv) : (t.answer a).1.HistOk := by
  unfold Tr.answer
  split
  · exact h
  split
  · exact h
  split
  · exact fun hs => by simp at hs
  split
  · exact fun hs => by simp at hs
  split
  · exact fun hs => by simp at hs
  rename_i h0 ho _ _ _
  intro _ b
  obtain ⟨e1, e2, _⟩ := Tr.close_hist ((t.take a).put a)
  simp only [e1, e2]
  have ho2 : isOpen a.q t.qs = true := by simpa using ho
  rw [Tr.put_rec hi.nd ho2, ← h (by simpa using h0) b]
  show b ∈ t.hist ++ [a] ↔ _
  simp [or_comm]
end Go.Proofs.YtiplgpefapeapaaGreatDoor

namespace Go.Proofs.YtiplgpefapeapaaGreatDoor
open Go.ChangeShapes Go.WideShapes Go.ChangeAt Go.RowKit

structure Op3 where
  k : Nat
  i : Int
  near : Bool
  a : Ans
structure Op3.Fit (o : Op3) : Prop where
  k : o.k < 256
  i : W64 o.i
  a : o.a.Fit
/-- The questions without an answer. -/
def opens (qs : Qs) : List Qn := (qs.filter (fun p => !p.2.isSome)).map (·.1)
/-- The chosen one. -/
def pick (i : Int) (n : Nat) : Nat := (Int.tmod (Int.tmod i n + n) n).toNat
def Op3.aim (o : Op3) (qs : Qs) : Ans := if o.k ≤ 1 ∧ 0 < (opens qs).length then (match (opens qs)[pick o.i (opens qs).length]? with | some q => { o.a with m := q.1, ow := q.2.1, n := q.2.2 } | none => o.a) else o.a
/-- The machine that a reply is for. -/
def Op3.mach (o : Op3) (t : Tr) : Int := if o.near = true ∧ t.state = 1 then (match t.clm[t.ag.length]? with | some p => p.m | none => o.i) else o.i
def Op3.step (o : Op3) (t : Tr) : Tr :=
  if o.k ≤ 3 then (t.answer (o.aim t.qs)).1 else if o.k = 4 then t.queries.1 else if o.k = 5 then (t.agreeT (o.mach t)).1 else if o.k = 6 then (t.refuseT (o.mach t)).1 else t
end Go.Proofs.YtiplgpefapeapaaGreatDoor

namespace Go.Proofs.YtiplgpefapeapaaGreatDoor
open Go.RowKit

/-- A trace after n operations of at most five entries each. -/
structure Tr.Bnd (t : Tr) (n : Nat) : Prop where
  ho : t.HistOk
  qs : t.qs.length ≤ 1 + 5 * n
  ne : t.qs ≠ []
  hl : t.hist.length ≤ n
  hi : ∀ a ∈ t.hist, a.ins.length ≤ 5
  ag : t.ag.length ≤ n
  tl : ∃ tn : Nat, t.told = tn ∧ tn ≤ t.qs.length
  s1 : t.state = 1 → t.ag.length < t.clm.length
  s0 : t.state = 0 → t.ag = []
  rf : t.rf = true → t.state = 4
theorem Tr.clm_pos {t : Tr} (h : t.Inv) (hn : t.rec' ≠ []) : 0 < t.clm.length := by
  have hs := srtOf_sorted h
  have hp : ClaimsP t (srtOf t.qs) t.clm := refOf_claims hs.2
  obtain ⟨h1, _⟩ := ClaimsP.at' hs.2 hp
  rw [h1]
  obtain ⟨_, _, h3⟩ := rawOf_eq t (outsOf (srtOf t.qs)) (srtOf t.qs) hs.2
  obtain ⟨p, hpm⟩ := List.exists_mem_of_ne_nil _ hn
  have hm : p.2 ∈ srtOf t.qs := hs.1.mem_iff.2 (List.mem_map.2 ⟨p, hpm, rfl⟩)
  have := (h3 p.2.m).2 ⟨p.2, hm, rfl⟩
  exact List.length_pos_of_mem this
theorem Tr.Bnd.new (im is : Int) (st : T3) : (Tr.new im is st).Bnd 0 :=
  ⟨Tr.HistOk.new im is st, by simp [Tr.new], by simp [Tr.new], by simp [Tr.new], by simp [Tr.new], by simp [Tr.new], ⟨0, rfl, by simp [Tr.new]⟩, by simp [Tr.new], by simp [Tr.new], by simp [Tr.new]⟩
theorem Tr.Bnd.mono {t : Tr} {n m : Nat} (h : t.Bnd n) (hm : n ≤ m) : t.Bnd m := ⟨h.ho, by have := h.qs; omega, h.ne, by have := h.hl; omega, h.hi, by have := h.ag; omega, h.tl, h.s1, h.s0, h.rf⟩
theorem setQ_length (q : Qn) (a : Ans) (qs : Qs) : (setQ q a qs).length = qs.length := by unfold setQ; simp
theorem fold_ge (m : Int) : ∀ (l : List T3) (qs : Qs), qs.length ≤ (l.foldl (openQ m) qs).length
  | [], _ => Nat.le_refl _
  | x :: l, qs => Nat.le_trans (by unfold openQ; split <;> simp) (fold_ge m l (openQ m qs x))
theorem Tr.Bnd.answer {t : Tr} {n : Nat} {a : Ans} (h : t.Bnd n) (hi : t.Inv) (hi' : (t.answer a).1.Inv) (ha : a.ins.length ≤ 5) : (t.answer a).1.Bnd (n + 1) := by
  have hho := h.ho.answer (a := a) hi
  have hist : ∀ b ∈ t.hist ++ [a], b.ins.length ≤ 5 := fun b hb => by
    rcases List.mem_append.1 hb with hb | hb
    · exact h.hi b hb
    · rw [List.mem_singleton.1 hb]; exact ha
  have hl : (t.hist ++ [a]).length ≤ n + 1 := by have := h.hl; simp; omega
  have hg : t.ag.length ≤ n + 1 := by have := h.ag; omega
  have hq : t.qs.length ≤ 1 + 5 * (n + 1) := by have := h.qs; omega
  revert hho hi'
  unfold Tr.answer
  split
  · exact fun _ _ => h.mono (by omega)
  rename_i h0
  have h0 : t.state = 0 := by simpa using h0
  have hrf : t.rf = false := by
    cases e : t.rf with
    | false => rfl
    | true => have := h.rf e; omega
  split
  · exact fun _ _ => h.mono (by omega)
  split
  · exact fun _ hho => ⟨hho, hq, h.ne, hl, hist, hg, h.tl, by simp, by simp, fun _ => rfl⟩
  split
  · exact fun _ hho => ⟨hho, hq, h.ne, hl, hist, hg, h.tl, by simp, by simp, fun e => by simp [Tr.take, hrf] at e⟩
  split
  · exact fun _ hho => ⟨hho, hq, h.ne, hl, hist, hg, h.tl, by simp, by simp, fun _ => rfl⟩
  intro hi' hho
  obtain ⟨tn, e1, e2⟩ := h.tl
  have hlen : ((t.take a).put a).qs.length ≤ 1 + 5 * (n + 1) := by
    have := fold_len a.m a.ins (setQ a.q a t.qs)
    rw [setQ_length] at this
    have h2 := h.qs
    show (a.ins.foldl (openQ a.m) (setQ a.q a t.qs)).length ≤ _
    omega
  have hge : t.qs.length ≤ ((t.take a).put a).qs.length := by
    have := fold_ge a.m a.ins (setQ a.q a t.qs)
    rw [setQ_length] at this
    exact this
  have hpos : 0 < t.qs.length := List.length_pos_iff.2 h.ne
  have hne : ((t.take a).put a).qs ≠ [] := List.length_pos_iff.1 (by omega)
  unfold Tr.close at hho hi' ⊢
  by_cases hall : allQ ((t.take a).put a).qs = true
  · simp only [hall, if_true] at hho hi' ⊢
    refine ⟨hho, hlen, hne, hl, hist, hg, ⟨tn, e1, by simp only; omega⟩, fun _ => ?_, by simp, fun e => by simp [Tr.take, Tr.put, hrf] at e⟩
    have hag : ((t.take a).put a).ag = [] := h.s0 h0
    have hcp := Tr.clm_pos hi' (fun e => by
      have := (rec_len ((t.take a).put a).qs).2.2 hall
      have e' : recOf ((t.take a).put a).qs = [] := e
      rw [e'] at this
      simp at this
      omega)
    show ((t.take a).put a).ag.length < _
    rw [hag]
    exact hcp
  · simp only [hall] at hho hi' ⊢
    exact ⟨hho, hlen, hne, hl, hist, hg, ⟨tn, e1, by simp only [Bool.false_eq_true, if_false]; omega⟩, fun e => by simp [Tr.take, Tr.put, h0] at e, fun _ => h.s0 h0, fun e => by simp [Tr.take, Tr.put, hrf] at e⟩
theorem Tr.Bnd.queries {t : Tr} {n : Nat} (h : t.Bnd n) : t.queries.1.Bnd (n + 1) := by
  unfold Tr.queries
  split
  · exact h.mono (by omega)
  · exact ⟨h.ho, by have := h.qs; simp only; omega, h.ne, by have := h.hl; simp only; omega, h.hi, by have := h.ag; simp only; omega, ⟨t.qs.length, rfl, Nat.le_refl _⟩, h.s1, h.s0, h.rf⟩
end Go.Proofs.YtiplgpefapeapaaGreatDoor

namespace Go.Proofs.YtiplgpefapeapaaGreatDoor
open Go.RowKit

/-- The seven fields of an answer, read one after the other. -/
def f1 (s : RS) : RS := (rI s).2
def f2 (s : RS) : RS := (rI (f1 s)).2
def f3 (s : RS) : RS := (rU (f2 s)).2
def f4 (s : RS) : RS := (rI (f3 s)).2
def f5 (s : RS) : RS := (rB (f4 s)).2
def f6 (s : RS) : RS := (rB (f5 s)).2
def f7 (s : RS) : RS := (rI (f6 s)).2
/-- One answer more. -/
abbrev DS := RS × Tr × Bool
/-- The machine of the pending claim. -/
def Tr.pm (t : Tr) : Int := match t.clm[t.ag.length]? with | some p => p.m | none => 0
def gS (t : Tr) : Option Tr := if t.state = 1 then some (t.agreeT t.pm).1 else none
/-- The head of the encoding. -/
def h1 (l : List UInt8) : RS := (rI (l, 0)).2
def h2 (l : List UInt8) : RS := (rI (h1 l)).2
def h3 (l : List UInt8) : RS := (rI (h2 l)).2
def h4 (l : List UInt8) : RS := (rU (h3 l)).2
def h5 (l : List UInt8) : RS := (rI (h4 l)).2
def h6 (l : List UInt8) : RS := (rU (h5 l)).2
def hT (l : List UInt8) : Tr := Tr.new (rI (l, 0)).1 (rI (h1 l)).1 ((rI (h2 l)).1, (rU (h3 l)).1, (rI (h4 l)).1)
def hTold (l : List UInt8) : Nat := min (rU (h5 l)).1 1025
def hX (l : List UInt8) : DS := ((rCS l.length (h6 l)).2, hT l, decide (hTold l = 0) || decide (hTold l = 1))
def hN (l : List UInt8) : Nat := (rCS l.length (h6 l)).1
/-- What holds of the trace while it is played again. -/
structure Tr.Dc (t : Tr) : Prop where
  s1 : t.state = 1 → t.ag.length < t.clm.length
  s0 : t.state = 0 → t.ag = []
  ne : t.qs ≠ []
  rf : t.rf = false
theorem Tr.Dc.new (im is : Int) (st : T3) : (Tr.new im is st).Dc := ⟨by simp [Tr.new], by simp [Tr.new], by simp [Tr.new], rfl⟩
theorem Tr.Dc.answer {t : Tr} {a : Ans} (h : t.Dc) (hi' : (t.answer a).1.Inv) : (t.answer a).1.Dc := by
  revert hi'
  unfold Tr.answer
  split
  · exact fun _ => h
  rename_i h0
  have h0 : t.state = 0 := by simpa using h0
  split
  · exact fun _ => h
  split
  · exact fun _ => ⟨by simp, by simp, h.ne, h.rf⟩
  split
  · exact fun _ => ⟨by simp, by simp, h.ne, h.rf⟩
  split
  · exact fun _ => ⟨by simp, by simp, h.ne, h.rf⟩
  intro hi'
  have hge : t.qs.length ≤ ((t.take a).put a).qs.length := by
    have := fold_ge a.m a.ins (setQ a.q a t.qs)
    rw [setQ_length] at this
    exact this
  have hpos : 0 < t.qs.length := List.length_pos_iff.2 h.ne
  have hne : ((t.take a).put a).qs ≠ [] := List.length_pos_iff.1 (by omega)
  unfold Tr.close at hi' ⊢
  by_cases hall : allQ ((t.take a).put a).qs = true
  · simp only [hall, if_true] at hi' ⊢
    refine ⟨fun _ => ?_, by simp, hne, h.rf⟩
    have hag : ((t.take a).put a).ag = [] := h.s0 h0
    have hcp := Tr.clm_pos hi' (fun e => by
      have := (rec_len ((t.take a).put a).qs).2.2 hall
      have e' : recOf ((t.take a).put a).qs = [] := e
      rw [e'] at this
      simp at this
      omega)
    show ((t.take a).put a).ag.length < _
    rw [hag]
    exact hcp
  · simp only [hall] at hi' ⊢
    exact ⟨fun e => by simp [Tr.take, Tr.put, h0] at e, fun _ => h.s0 h0, hne, h.rf⟩
theorem Tr.Dc.pm {t : Tr} (h : t.Dc) (h1 : t.state = 1) : ∃ p, t.clm[t.ag.length]? = some p ∧ t.pm = p.m := by
  have := h.s1 h1
  refine ⟨_, List.getElem?_eq_getElem this, ?_⟩
  unfold Tr.pm
  rw [List.getElem?_eq_getElem this]
end Go.Proofs.YtiplgpefapeapaaGreatDoor

namespace Go.Proofs.YtiplgpefapeapaaGreatDoor
open Go.RowKit

structure Tr.Di (t : Tr) (k : Nat) : Prop where
  dc : t.Dc
  hl : t.hist.length ≤ k
  hi : ∀ a ∈ t.hist, a.ins.length ≤ 1000
  nm : t.Num
  ag : t.ag.length ≤ 1000
  st : 0 ≤ t.state ∧ t.state ≤ 4
theorem Tr.Di.new (im is : Int) (st : T3) (h1 : W64 im) (h2 : W64 is) (h3 : W64 st.1) (h4 : st.2.1 < 18446744073709551616) (h5 : W64 st.2.2) : (Tr.new im is st).Di 0 :=
  ⟨Tr.Dc.new im is st, by simp [Tr.new], by simp [Tr.new], ⟨h1, h2, h3, h4, h5⟩, by simp [Tr.new], by simp [Tr.new]⟩
theorem Tr.answer_hist (t : Tr) (a : Ans) : ((t.answer a).1.hist = t.hist ∨ (t.answer a).1.hist = t.hist ++ [a]) ∧ (t.answer a).1.im = t.im ∧ (t.answer a).1.is = t.is ∧ (t.answer a).1.st = t.st ∧ (t.answer a).1.ag = t.ag := by
  unfold Tr.answer
  split
  · exact ⟨.inl rfl, rfl, rfl, rfl, rfl⟩
  split
  · exact ⟨.inl rfl, rfl, rfl, rfl, rfl⟩
  split
  · exact ⟨.inr rfl, rfl, rfl, rfl, rfl⟩
  split
  · exact ⟨.inr rfl, rfl, rfl, rfl, rfl⟩
  split
  · exact ⟨.inr rfl, rfl, rfl, rfl, rfl⟩
  unfold Tr.close
  split <;> exact ⟨.inr rfl, rfl, rfl, rfl, rfl⟩
theorem Tr.answer_st {t : Tr} (h : 0 ≤ t.state ∧ t.state ≤ 4) (a : Ans) : 0 ≤ (t.answer a).1.state ∧ (t.answer a).1.state ≤ 4 := by
  unfold Tr.answer
  split
  · exact h
  split
  · exact h
  split
  · simp
  split
  · simp
  split
  · simp
  unfold Tr.close
  split
  · simp
  · exact h
theorem Tr.Di.answer {t : Tr} {k : Nat} {a : Ans} (h : t.Di k) (hi' : (t.answer a).1.Inv) (ha : a.ins.length ≤ 1000) : (t.answer a).1.Di (k + 1) := by
  obtain ⟨h1, h2, h3, h4, h5⟩ := Tr.answer_hist t a
  refine ⟨h.dc.answer hi', ?_, ?_, ?_, by rw [h5]; exact h.ag, Tr.answer_st h.st a⟩
  · have := h.hl
    rcases h1 with e | e
    · rw [e]; omega
    · rw [e]; simp; omega
  · intro b hb
    rcases h1 with e | e
    · rw [e] at hb; exact h.hi b hb
    · rw [e] at hb
      rcases List.mem_append.1 hb with hb | hb
      · exact h.hi b hb
      · rw [List.mem_singleton.1 hb]; exact ha
  · exact ⟨by rw [h2]; exact h.nm.im, by rw [h3]; exact h.nm.is, by rw [h4]; exact h.nm.s0, by rw [h4]; exact h.nm.s1, by rw [h4]; exact h.nm.s2⟩
end Go.Proofs.YtiplgpefapeapaaGreatDoor

namespace Go.Proofs.YtiplgpefapeapaaGreatDoor
open Go.RowKit

namespace RM
variable {w W W' : World} {br : Nat} {s s' : RS}
end RM
namespace DM
variable {w W W' : World} {br bt bm : Nat} {vo vh vg vo' vh' vg' : Value} {s s' : RS} {t t' : Tr}
end DM
theorem Sh.owp_app {α : Type} {P : Program} {o : Oper} {a : Act} {w : World} {K : Act → World → Prop} {Q : Exit → Act → World → Prop} (s : Sh α) (B : Nat) {e t : TypeId} {z : Value} {by_ : Nat} (hinf : (P.info? e).map (fun i => (i.zero, i.size, i.bytes)) = some (some z, s.sz, by_)) (hz : z.cells.size = s.sz) (ht : P.underlying t = some (.slice e))
    (v v2 : Value) (L M : List α) (x y : Operand) (ho : o.op = .call { callee := .builtin .append, args := #[x, y], argTypes := #[t, t] }) (hs : a.eval x = v) (hx : a.eval y = v2) (h : s.O w B e v L) (hsl : s.R w v2 M)
    (hl : (L.length + M.length) * (by_ + 1) ≤ 140737488355328) (hB : B ≤ w.heap.size) (hR : ∀ v' w', s.O w' B e v' (L ++ M) → Grw w w' v v' → K (a.put o.dst v') w') : o.wp P a w K Q := by
  obtain ⟨i0, hi, hz0, hz1, hz2⟩ := info_parts hinf
  have h1 : L.length + M.length ≤ (L.length + M.length) * (by_ + 1) := Nat.le_mul_of_pos_right _ (by omega)
  have h2 : (L.length + M.length) * by_ ≤ (L.length + M.length) * (by_ + 1) := Nat.mul_le_mul_left _ (by omega)
  obtain ⟨v', w', hr, h3, h4, _⟩ := run_append_x (P := P) B t o.type e i0 z s.sz by_ ht hi hz0 hz1 hz2 hz s.pos v L.length (s.cs L) h v2 M.length (s.cs M) hsl (Sh.cs_one M) (by unfold maxLen; omega) (by omega) hB
  unfold Oper.wp execOp
  simp only [ho, resolve, invoke, builtin, Sem.run_bind, Sem.run_pure, Result.andThen_ok, List.map_toArray, List.map_cons, List.map_nil, hs, hx, hr]
  refine hR v' w' ?_ h4
  unfold Sh.O
  rw [Sh.cs_append, List.length_append]
  exact h3
namespace DM
variable {w W W' : World} {br bt bm : Nat} {vo vh vg : Value} {s : RS} {t : Tr}
end DM
end Go.Proofs.YtiplgpefapeapaaGreatDoor
