/- Texts that the laws lean on, in the order in which they build. Package certificate: Check. Package certificate: what Check says of a list that is too long. The law's few: the number of elements of all lists; where a list is very long, the sum may wrap. The law's example; awake. The specification's Find. The digits of a number to the base 256, and its encoding on the wire. No program. (XWire, of a program without bytes.Clone.) The contracts of package wire's writers of bytes. The contract of the reference's encoding of a number. AppendBool; what the growth of a buffer leaves, draws between. The specification's encoding of a truth value. Integers on the wire: the program's AppendInt and the specification's Int. The byte form of a trace: the buffer in its variable; the closure that appends integers. The contracts of package wire's reader of bytes. The closure that reads a number, where it fails. The closure that reads a number, where it succeeds. The contracts of package wire's reader of numbers, and the reference's. -/
import Derived.Test.YtiplgpefapeapaaGreatE7
import Derived.Test.YtiplgpefapeapaaGreatRows
import Derived.Lib.Zigzag
import Derived.Laws.Bits64
set_option linter.unusedVariables false
set_option linter.unusedSimpArgs false
namespace Go.Proofs.YtiplgpefapeapaaGreat
open Go.RowKit

theorem chk_wf {c : Ct} (h : wf c = false) : chk c = 1 := by unfold chk; rw [h]; rfl
theorem chk_bad {c : Ct} (hw : wf c = true) (h : goodB c = false) : chk c = 15 := by unfold chk; rw [hw, h]; rfl
theorem chk_good {c : Ct} (hw : wf c = true) (h : goodB c = true) : chk c = 0 := by unfold chk; rw [hw, h]; rfl
theorem wf_srt {c : Ct} (h : wf c = true) : SrtA c.an := by
  unfold wf at h
  simp only [Bool.and_eq_true] at h
  exact incA_srt h.1.1.2
theorem bad_start {c : Ct} (h : hasA c.an (kq c) = false) : goodB c = false := by unfold goodB; rw [h]; rfl
theorem bad_an {c : Ct} {a : Ans} (ha : a ∈ c.an) (h : ansB c.an a = false) : goodB c = false := by
  unfold goodB
  rw [List.all_eq_false.2 ⟨a, ha, by rw [h]; decide⟩]
  simp
theorem bad_ep {c : Ct} {a b : Ans} (ha : a ∈ c.an) (hb : b ∈ c.an) (hm : a.m = b.m) (he : a.ep ≠ b.ep) : goodB c = false := by
  have : epB c.an = false := by
    cases h : epB c.an with
    | false => rfl
    | true => exact absurd (epB_iff.1 h a ha b hb hm) he
  unfold goodB
  rw [this]
  simp
theorem bad_cl {c : Ct} (h : c.cl ≠ clY c.an) : goodB c = false := by unfold goodB; rw [decide_eq_false h]; simp
theorem good_all {c : Ct} (h1 : hasA c.an (kq c) = true) (h2 : epB c.an = true) (h3 : ∀ a ∈ c.an, ansB c.an a = true) (h4 : c.cl = clY c.an) : goodB c = true := by
  unfold goodB
  rw [h1, h2, List.all_eq_true.2 h3, decide_eq_true h4]
  rfl
/-- The map of the epochs. -/
structure EpI (E : List (Int × Int)) (Z : List Ans) : Prop where
  a : ∀ a ∈ Z, MapS.get a.m E = some a.ep
  n : ∀ m, (∀ a ∈ Z, a.m ≠ m) → MapS.get m E = none
  len : E.length ≤ Z.length
theorem EpI.nil : EpI [] [] := ⟨by simp, fun _ _ => rfl, Nat.le_refl _⟩
theorem EpI.new {E : List (Int × Int)} {Z : List Ans} (h : EpI E Z) {a : Ans} (hg : MapS.get a.m E = none) : EpI (E ++ [(a.m, a.ep)]) (Z ++ [a]) := by
  refine ⟨fun b hb => ?_, fun m hm => ?_, by have := h.len; simp; omega⟩
  · rw [MapS.get_append]
    rcases List.mem_append.1 hb with hb | hb
    · rw [h.a b hb]; rfl
    · rw [List.mem_singleton.1 hb, hg]; simp [MapS.get]
  · rw [MapS.get_append, h.n m (fun b hb => hm b (by simp [hb]))]
    have : ¬ a.m = m := hm a (by simp)
    simp [MapS.get, this]
theorem EpI.old {E : List (Int × Int)} {Z : List Ans} (h : EpI E Z) {a : Ans} (hg : MapS.get a.m E = some a.ep) : EpI (MapS.set a.m a.ep E) (Z ++ [a]) := by
  refine ⟨fun b hb => ?_, fun m hm => ?_, by have := h.len; unfold MapS.set; simp; omega⟩
  · rw [MapS.get_set]
    by_cases e : b.m = a.m
    · rw [if_pos ⟨e, by rw [hg]; rfl⟩]
      rcases List.mem_append.1 hb with hb | hb
      · have := h.a b hb
        rw [e, hg] at this
        exact this
      · rw [List.mem_singleton.1 hb]
    · rw [if_neg (fun h => e h.1)]
      rcases List.mem_append.1 hb with hb | hb
      · exact h.a b hb
      · exact absurd (by rw [List.mem_singleton.1 hb]) e
  · rw [MapS.get_set, if_neg (fun e => hm a (by simp) e.1.symm)]
    exact h.n m (fun b hb => hm b (by simp [hb]))
theorem EpI.epB {E : List (Int × Int)} {Z : List Ans} (h : EpI E Z) : epB Z = true := epB_iff.2 (fun a ha b hb e => by
  have h1 := h.a a ha
  rw [e, h.a b hb] at h1
  exact (Option.some.inj h1).symm)
theorem EpI.val {E : List (Int × Int)} {Z : List Ans} (h : EpI E Z) {m v : Int} (hg : MapS.get m E = some v) : ∃ a ∈ Z, a.m = m ∧ a.ep = v := by
  by_cases hx : ∃ a ∈ Z, a.m = m
  · obtain ⟨a, ha, e⟩ := hx
    have := h.a a ha
    rw [e, hg] at this
    exact ⟨a, ha, e, (Option.some.inj this).symm⟩
  · rw [h.n m (fun a ha e => hx ⟨a, ha, e⟩)] at hg
    cases hg
theorem ansB_def (Y : List Ans) (a : Ans) : ansB Y a = (a.kn && !a.rt && a.ins.all (insB Y a.m)) := rfl
theorem insB_def (Y : List Ans) (m : Int) (x : T3) : insB Y m x = (decide (MapS.get (m, x.1, x.2.1) (outsOf Y) = some x.2.2) && hasA Y (x.1, m, x.2.1)) := rfl
theorem ans_of_get {R : List (Qn × AnV)} {Y : List Ans} (h : AnsM R Y) (hs : SrtA Y) (q : Qn) : ∃ yv : AnV, ((MapS.get q R).map aV).getD (aV .zero) = aV yv ∧ (MapS.get q R).isSome = hasA Y q := by
  refine (?_ : ∃ yv : AnV, _).elim fun yv e => ⟨yv, e, (h.get hs q).1⟩
  cases MapS.get q R with
  | none => exact ⟨_, rfl⟩
  | some y => exact ⟨y, rfl⟩
set_option maxRecDepth 100000 in
set_option maxHeartbeats 16000000 in
theorem check_c (w : World) (x : CtV) (c : Ct) (h : CtW w x c) (hfit : c.Fit) (hf : c.Few) :
    Calls Tryz.prog 21 #[ctV x] w fun e w' => e = .returned (.int .i64 (chk c)) ∧ Keeps [] w w' := by
  have hmm := @run_makeMap Tryz.prog
  have hcf := fun (W : World) (hk : Keeps [] w W) => formed_c W x c (h.keeps hk) hf
  have hca := fun (hs : SrtA c.an) (W : World) (hk : Keeps [] w W) => answersM_c W x c (h.keeps hk) hfit.an hf hs
  have hcd := fun (W : World) (hk : Keeps [] w W) => found_c W x c (h.keeps hk) hfit.an hf
  have hcm := fun (hs : SrtA c.an) (W : World) (hk : Keeps [] w W) => claimsM_c W x c (h.keeps hk) hfit.an hf hs
  have hce := fun (W : World) (hk : Keeps [] w W) (v : Value) (hv : LC W v (clY c.an)) => eqClaims_c W _ v _ _ (h.cl.keeps hk) hv
  have han := h.an
  have hkq : (x.im, x.s0, x.s1) = kq c := by unfold kq; rw [h.im, h.s0, h.s1]
  have hqk : qOk (x.im, x.s0, x.s1) := ⟨by rw [h.im]; exact hfit.im, by rw [h.s0]; exact hfit.st.1, by rw [h.s1]; exact hfit.st.2.1⟩
  obtain ⟨x0, x1, x2, x3, x4, ⟨x5, x6, x7⟩, ⟨x8, x9, x10⟩⟩ := x
  simp only [slv] at han
  simp only [ctV, slv] at hcf hca hcd hcm hce
  simp only at hkq hqk
  obtain ⟨_, _, e1, hla, hcap⟩ := han.form
  simp only [Value.slice.injEq] at e1
  obtain ⟨-, e1, -⟩ := e1
  rw [← e1] at hla
  have hx6m : x6 ≤ 9223372036854775807 := by unfold maxLen at hcap; omega
  have hA := heap_alloc_new w (.cells #[.int .i64 x0, .int .i64 x1, .int .i64 x2, .int .u64 x3, .int .i64 x4, .slice x5 x6 x7, .slice x8 x9 x10] tCt)
  have hkA := (Keeps.refl [] w).alloc (.cells #[.int .i64 x0, .int .i64 x1, .int .i64 x2, .int .u64 x3, .int .i64 x4, .slice x5 x6 x7, .slice x8 x9 x10] tCt)
  obtain ⟨W, hW⟩ : ∃ W, w.alloc (.cells #[.int .i64 x0, .int .i64 x1, .int .i64 x2, .int .u64 x3, .int .i64 x4, .slice x5 x6 x7, .slice x8 x9 x10] tCt) = W := ⟨_, rfl⟩
  obtain ⟨B, hB⟩ : ∃ B, w.heap.size = B := ⟨_, rfl⟩
  rw [hW] at hA hkA
  rw [hB] at hA
  obtain ⟨Y, hY⟩ : ∃ Y, c.an = Y := ⟨_, rfl⟩
  have hfY : Y.length = x6 := by rw [← hY]; exact e1.symm
  have hfn : x6 ≤ 1000 := by have := hf.an; omega
  obtain ⟨r, hr⟩ : ∃ r, chk c = r := ⟨_, rfl⟩
  rw [hr]
  rw [hY] at han
  have hfa : ∀ a ∈ Y, a.Fit := by rw [← hY]; exact hfit.an
  replace han := Lib.hid han
  replace hkA := Lib.hid hkA
  replace hW := Lib.hid hW
  replace hB := Lib.hid hB
  replace hA := Lib.hid hA
  replace hcf := Lib.hid hcf
  replace hca := Lib.hid hca
  replace hcd := Lib.hid hcd
  replace hcm := Lib.hid hcm
  replace hce := Lib.hid hce
  replace hfY := Lib.hid hfY
  replace hY := Lib.hid hY
  replace hr := Lib.hid hr
  replace hkq := Lib.hid hkq
  replace hqk := Lib.hid hqk
  replace hfa := Lib.hid hfa
  clear h hf e1 hfit
  simp only [ctV, slv]
  go_enter Tryz.func21, Tryz.ntmps21
  go_upto_region 1 with fail
  rw [hW.out, hB.out]
  obtain ⟨i0, i1, i2, i3, i4, i5, i6, if', il⟩ := cl7 hA.out
  go_wp2_with fail
  refine (hcf.out _ hkA.out).mono ?_
  rintro e w1 ⟨rfl, hk1⟩
  have hk01 := hkA.out.trans hk1
  have hA1 := (hk1.block _ (lt_of_blk hA.out) (by simp)).trans hA.out
  replace hk01 := Lib.hid hk01
  replace hA1 := Lib.hid hA1
  clear hk1 i0 i1 i2 i3 i4 i5 i6 if' il hcf
  obtain ⟨i0, i1, i2, i3, i4, i5, i6, if', il⟩ := cl7 hA1.out
  obtain ⟨wb, hwb⟩ : ∃ b, wf c = b := ⟨_, rfl⟩
  rw [hwb]
  cases wb with
  | false =>
    have hd : (1 : Int) = r := by rw [← hr.out, chk_wf hwb]
    replace hd := Lib.hid hd
    replace hwb := Lib.hid hwb
    go_wp2
    go_ret
    exact ⟨by rw [← hd.out]; rfl, hk01.out⟩
  | true =>
  have hs : SrtA c.an := wf_srt hwb
  have hbad : goodB c = false → (15 : Int) = r := fun hg => by rw [← hr.out, chk_bad hwb hg]
  have hgood : goodB c = true → (0 : Int) = r := fun hg => by rw [← hr.out, chk_good hwb hg]
  have hcaA := hca.out hs
  have hcmA := hcm.out hs
  rw [hY.out] at hs hcaA hcmA
  replace hs := Lib.hid hs
  replace hbad := Lib.hid hbad
  replace hgood := Lib.hid hgood
  replace hwb := Lib.hid hwb
  replace hcaA := Lib.hid hcaA
  replace hcmA := Lib.hid hcmA
  clear hca hcm hr
  go_wp2_with fail
  refine (hcaA.out _ hk01.out).mono ?_
  rintro e w2 ⟨bS, R, rfl, hMS, hR, hbS, hk2⟩
  have hk02 := hk01.out.trans hk2
  have hA2 := (hk2.block _ (lt_of_blk hA1.out) (by simp)).trans hA1.out
  clear i0 i1 i2 i3 i4 i5 i6 if' il hcaA hk2
  obtain ⟨i0, i1, i2, i3, i4, i5, i6, if', il⟩ := cl7 hA2
  have hlk := MapS.M.look_ok ktS Tryz.underlying112 (aV .zero) zeroA hMS hqk.out
  obtain ⟨⟨v0, v1, v2, v3, v4, v5, v6, v7, v8, v9⟩, hyv, hys⟩ := ans_of_get hR hs.out (x0, x2, x3)
  obtain ⟨ob, hob0⟩ : ∃ b, hasA Y (x0, x2, x3) = b := ⟨_, rfl⟩
  rw [hyv, hys, hob0] at hlk
  have hob : hasA Y (kq c) = ob := by rw [← hkq.out]; exact hob0
  simp only [ktS, qV, aV, AnV.v] at hlk
  have hkB := (Keeps.refl [] w2).alloc (.cells #[.int .i64 v0, .int .i64 v1, .int .u64 v2, .int .i64 v3, .bool v4, .bool v5, .int .i64 v6, .slice v7 v8 v9] tA)
  have hk03 := hk02.trans hkB
  have hA3 := (hkB.block _ (lt_of_blk hA2) (by simp)).trans hA2
  have hMS3 := hMS.keeps ktS hkB
  replace hMS := Lib.hid hMS3
  replace hR := Lib.hid hR
  replace hk03 := Lib.hid hk03
  replace hA3 := Lib.hid hA3
  replace hob := Lib.hid hob
  clear hyv hys hkB hk02 hA2 hMS3 hob0
  cases ob with
  | false =>
    have hd : (15 : Int) = r := hbad.out (bad_start (by rw [hY.out]; exact hob.out))
    replace hd := Lib.hid hd
    go_wp2
    go_ret
    exact ⟨by rw [← hd.out]; rfl, hk03.out⟩
  | true =>
  go_upto_region 7 with fail
  generalize (w2.alloc (.cells #[.int .i64 v0, .int .i64 v1, .int .u64 v2, .int .i64 v3, .bool v4, .bool v5, .int .i64 v6, .slice v7 v8 v9] tA)) = w3 at *
  clear hlk i0 i1 i2 i3 i4 i5 i6 if' il
  have hM := MapS.M.made ktZ (vf := zV) w3
  have hkM : Keeps [] w3 (w3.alloc (.map #[] 0)) := (Keeps.refl _ _).alloc _
  have hw3 : w.heap.size ≤ w3.heap.size := hk03.out.size
  have hk04 := hk03.out.trans hkM
  have hA4 := (hkM.block _ (lt_of_blk hA3.out) (by simp)).trans hA3.out
  have hMS4 := hMS.out.keeps ktS hkM
  have hZ4 : (w3.alloc (.map #[] 0)).heap.size = w3.heap.size + 1 := by simp
  replace hM := Lib.hid hM
  replace hk04 := Lib.hid hk04
  replace hMS4 := Lib.hid hMS4
  replace hA4 := Lib.hid hA4
  have hbSl := MapS.M.lt ktS hMS.out
  clear hkM hk03 hA3 hMS
  obtain ⟨i0, i1, i2, i3, i4, i5, i6, if', il⟩ := cl7 hA4.out
  go_wp2_with fail
  refine (hcd.out _ hk04.out).mono ?_
  rintro e w5 ⟨bF, rfl, hMF, hbF, hk5⟩
  obtain ⟨bE, hbE⟩ : ∃ b, w3.heap.size = b := ⟨_, rfl⟩
  rw [hbE] at hM hZ4 hbSl ⊢
  have hMf := hM.out.keeps ktZ hk5
  have hMSf := hMS4.out.keeps ktS hk5
  have hk05 := hk04.out.trans hk5
  have hA5 := (hk5.block _ (lt_of_blk hA4.out) (by simp)).trans hA4.out
  have hBw : B < w3.heap.size ∨ True := .inr trivial
  have hBE : B ≠ bE := fun e => by
    have := hMf.noCells ktZ 0
    rw [← e] at this
    simp [World.cell?, hA5] at this
  have hwE : w.heap.size ≤ bE := by omega
  obtain ⟨O, hO⟩ : ∃ O, outsOf c.an = O := ⟨_, rfl⟩
  rw [hO] at hMF
  rw [hY.out] at hO
  replace hMF := Lib.hid hMF
  replace hMSf := Lib.hid hMSf
  replace hMf := Lib.hid hMf
  replace hk05 := Lib.hid hk05
  replace hA5 := Lib.hid hA5
  replace hO := Lib.hid hO
  replace hbE := Lib.hid hbE
  clear hM hMS4 hk04 hA4 hk5 hBw hcd hmm i0 i1 i2 i3 i4 i5 i6 if' il
  obtain ⟨i0, i1, i2, i3, i4, i5, i6, if', il⟩ := cl7 hA5.out
  go_wp2
  go_loopw [44] (fun i wr => ∃ (k : Nat) (E : List (Int × Int)), i = .int .i64 k ∧ k ≤ x6 ∧ Hid (MapS.M ktZ zV wr bE E) ∧ Hid (EpI E (Y.take k)) ∧ Hid (∀ j (hj : j < Y.length), j < k → ansB Y Y[j] = true) ∧ Hid (Keeps [bE] w5 wr)) (fun i _ => x6 - (intOf i).toNat)
  case atStart => exact ⟨0, [], rfl, by omega, hMf, Lib.hid EpI.nil, Lib.hid (fun _ _ h => by omega), Lib.hid (Keeps.refl _ _)⟩
  case round =>
    clear hMf i0 i1 i2 i3 i4 i5 i6 if' il
    obtain ⟨k, E, rfl, hk, hMr, hEp, hno, hkr⟩ := hrel
    have hkwr : Keeps [] w wr := hk05.out.fresh hkr.out (fun b hb => by simp at hb; subst hb; exact .inr hwE)
    by_cases hlt : k < x6
    · have hlt2 : (k : Int) < x6 := by omega
      have hkY : k < Y.length := by rw [hfY.out]; exact hlt
      obtain ⟨g, o, c', y, hv, hy, he⟩ := (han.out.keeps hkwr).elem hkY
      rw [hfY.out] at hv
      cases hv
      have hao := hfa.out _ (List.getElem_mem hkY)
      have htk : Y.take (k + 1) = Y.take k ++ [Y[k]] := List.take_succ_eq_append_getElem hkY
      have hmemY := List.getElem_mem hkY
      obtain ⟨a, ha⟩ : ∃ a, Y[k] = a := ⟨_, rfl⟩
      rw [ha] at hy hao htk hmemY
      have hba : ansB Y a = false → (15 : Int) = r := fun h => hbad.out (bad_an (a := a) (by rw [hY.out]; exact hmemY) (by rw [hY.out]; exact h))
      have hbe : ∀ b ∈ Y.take k, b.m = a.m → b.ep ≠ a.ep → (15 : Int) = r := fun b hb e1 e2 => hbad.out (bad_ep (a := b) (b := a) (by rw [hY.out]; exact List.mem_of_mem_take hb) (by rw [hY.out]; exact hmemY) e1 e2)
      have hno2 : ansB Y a = true → ∀ j (hj : j < Y.length), j < k + 1 → ansB Y Y[j] = true := fun h j hj hjk => by
        by_cases e : j = k
        · subst e; rw [ha]; exact h
        · exact hno.out j hj (by omega)
      obtain ⟨ai, aic, ev, hl1, hl2, _⟩ := hy.ins.form
      have hins := hy.ins
      have q0 := hy.m
      have q1 := hy.ow
      have q2 := hy.n
      have q3 := hy.ep
      have q4 := hy.kn
      have q5 := hy.rt
      obtain ⟨y0, y1, y2, y3, y4, y5, y6, y7, y8, y9⟩ := y
      simp only [AnV.v] at ev hins
      simp only at q0 q1 q2 q3 q4 q5
      subst q0 q1 q2 q3
      simp only [Value.slice.injEq] at ev
      obtain ⟨-, ev, -⟩ := ev
      have hy8m : y8 ≤ 9223372036854775807 := by unfold maxLen at hl2; omega
      have hok : ansB Y a = (y4 && !y5 && a.ins.all (insB Y a.m)) := by rw [ansB_def, q4, q5]
      rw [hok] at hba hno2
      have g0 := he 0 _ rfl
      have g1 := he 1 _ rfl
      have g2 := he 2 _ rfl
      have g3 := he 3 _ rfl
      have g4 := he 4 _ rfl
      have g5 := he 5 _ rfl
      have g6 := he 6 _ rfl
      have g7 := he 7 _ rfl
      simp only [AnV.v, Nat.add_zero] at g0 g1 g2 g3 g4 g5 g6 g7
      have hbA := heap_alloc_new wr (.cells #[.int .i64 a.m, .int .i64 a.ow, .int .u64 a.n, .int .i64 a.ep, .bool y4, .bool y5, .int .i64 y6, .slice y7 y8 y9] tA)
      have hkn := (Keeps.refl [] wr).alloc (.cells #[.int .i64 a.m, .int .i64 a.ow, .int .u64 a.n, .int .i64 a.ep, .bool y4, .bool y5, .int .i64 y6, .slice y7 y8 y9] tA)
      have hkc := hkr.out.trans hkn.of_nil
      have hMA := hMr.out.keeps ktZ hkn
      have hinsn := hins.keeps hkn
      have hwm : W64 a.m := hao.q.1
      have hbEr : bE < wr.heap.size := MapS.M.lt ktZ hMr.out
      have hlz := MapS.M.look_ok ktZ Tryz.underlying116 (zV 0) zeroZ hMA hwm
      obtain ⟨ge, hge⟩ : ∃ g, MapS.get a.m E = g := ⟨_, rfl⟩
      rw [hge] at hlz
      have hfin := hkwr.trans hkn
      replace hfin := Lib.hid hfin
      replace hba := Lib.hid hba
      replace hbe := Lib.hid hbe
      replace hno2 := Lib.hid hno2
      replace hbA := Lib.hid hbA
      replace hkc := Lib.hid hkc
      replace hMA := Lib.hid hMA
      replace hinsn := Lib.hid hinsn
      replace ha := Lib.hid ha
      replace htk := Lib.hid htk
      replace ev := Lib.hid ev
      replace hao := Lib.hid hao
      replace hmemY := Lib.hid hmemY
      clear he hy hkn hins hl1 hl2 hkr hMr hok q4 q5 hkwr
      obtain ⟨gv, gs, hgv, hgs, hgn, hgsm⟩ : ∃ (gv : Int) (gs : Bool), (ge.map zV).getD (zV 0) = zV gv ∧ ge.isSome = gs ∧ (gs = false → ge = none) ∧ (gs = true → ge = some gv) := by
        cases ge with
        | none => exact ⟨0, false, rfl, rfl, fun _ => rfl, nofun⟩
        | some u => exact ⟨u, true, rfl, rfl, nofun, fun _ => rfl⟩
      rw [hgv, hgs] at hlz
      simp only [ktZ, zV] at hlz
      replace hge := Lib.hid hge
      replace hgn := Lib.hid hgn
      replace hgsm := Lib.hid hgsm
      clear hgv hgs
      go_upto_region 11 with fail
      generalize (wr.alloc (.cells #[.int .i64 a.m, .int .i64 a.ow, .int .u64 a.n, .int .i64 a.ep, .bool y4, .bool y5, .int .i64 y6, .slice y7 y8 y9] tA)) = wc at *
      obtain ⟨XA, hXA⟩ : ∃ X, wr.heap.size = X := ⟨_, rfl⟩
      rw [hXA] at hbA hbEr ⊢
      replace hXA := Lib.hid hXA
      clear g0 g1 g2 g3 g4 g5 g6 g7
      obtain ⟨s0, s1, s2, s3, s4, s5, s6, s7, sf, sl⟩ := cl8 hbA.out
      cases y4 with
      | false =>
        have hd := Lib.hid (hba.out (by simp))
        go_wp2
        go_ret
        exact ⟨by rw [← hd.out]; rfl, hfin.out⟩
      | true =>
      cases y5 with
      | true =>
        have hd := Lib.hid (hba.out (by simp))
        go_wp2
        go_ret
        exact ⟨by rw [← hd.out]; rfl, hfin.out⟩
      | false =>
      have hallY : a.ins.all (insB Y a.m) = false → (15 : Int) = r := fun h => hba.out (by rw [h]; rfl)
      have hallY2 : a.ins.all (insB Y a.m) = true → ∀ j (hj : j < Y.length), j < k + 1 → ansB Y Y[j] = true := fun h => hno2.out (by rw [h]; rfl)
      replace hallY := Lib.hid hallY
      replace hallY2 := Lib.hid hallY2
      clear hba hno2
      cases gs with
      | true =>
        have hgE := hgsm.out rfl
        by_cases hep : gv = a.ep
        · have hne : (gv != a.ep) = false := by simpa using hep
          have hgE2 : MapS.get a.m E = some a.ep := by rw [hge.out, hgE, hep]
          obtain ⟨wk, hrun, hMk, hkk⟩ := MapS.M.putOld ktZ Tryz.underlying116 hMA.out hwm (by rw [hgE2]; rfl) (by have h1 := hEp.out.len; rw [List.length_take] at h1; unfold maxLen; omega) a.ep
          have hEn : EpI (MapS.set a.m a.ep E) (Y.take (k + 1)) := by rw [htk.out]; exact hEp.out.old hgE2
          simp only [ktZ, zV] at hrun
          replace hep := Lib.hid hep
          replace hgE := Lib.hid hgE
          replace hgE2 := Lib.hid hgE2
          have hbAk := (hkk.block _ sl (by simp; omega)).trans hbA.out
          have hkck := hkc.out.trans hkk
          have hkwk := hfin.out.fresh hkk (fun b hb => by simp at hb; subst hb; exact .inr hwE)
          have hinsk := hinsn.out.keepE hkk (fun b hb hne e => by
            simp at hb
            subst hb
            obtain ⟨es, ec, hmap⟩ := hMA.out.isMap
            obtain ⟨gg, oo, cc, hvv, hee⟩ := hinsn.out.elem (k := 0) (by cases hq : a.ins with | nil => exact absurd hq hne | cons _ _ => simp)
            rw [hvv] at e
            simp [Value.ownBlock] at e
            subst e
            have := hee 0 _ rfl
            simp [World.cell?, hmap] at this)
          replace hMk := Lib.hid hMk
          replace hEn := Lib.hid hEn
          replace hbAk := Lib.hid hbAk
          replace hkck := Lib.hid hkck
          replace hkwk := Lib.hid hkwk
          replace hinsk := Lib.hid hinsk
          clear hMA hbA hkc hkk hinsn hfin
          go_upto_region 15 with fail
          clear s0 s1 s2 s3 s4 s5 s6 s7 sf sl hrun hlz
          obtain ⟨s0, s1, s2, s3, s4, s5, s6, s7, sf, sl⟩ := cl8 hbAk.out
          go_wp2
          go_loopw [79] (fun i wi => ∃ q : Nat, i = .int .i64 q ∧ q ≤ y8 ∧ Hid (∀ j (hj : j < a.ins.length), j < q → insB Y a.m a.ins[j] = true) ∧ Hid (Keeps [] wk wi)) (fun i _ => y8 - (intOf i).toNat)
          case atStart => exact ⟨0, rfl, by omega, Lib.hid (fun _ _ h => by omega), Lib.hid (Keeps.refl _ _)⟩
          case round =>
            clear s0 s1 s2 s3 s4 s5 s6 s7 sf sl
            obtain ⟨q, rfl, hq, hnq, hkq⟩ := hrel
            have hfq := hkwk.out.trans hkq.out
            by_cases hltq : q < y8
            · have hltq2 : (q : Int) < y8 := by omega
              have hqa : q < a.ins.length := by rw [← ev.out]; exact hltq
              have hxo := hao.out.ins _ (List.getElem_mem hqa)
              obtain ⟨gi, oi, ci, hvi, hei⟩ := (hinsk.out.keeps hkq.out).elem hqa
              rw [← ev.out] at hvi
              cases hvi
              have hok := insB_def Y a.m a.ins[q]
              have hmq := List.getElem_mem hqa
              have hnq2 : insB Y a.m a.ins[q] = true → ∀ j (hj : j < a.ins.length), j < q + 1 → insB Y a.m a.ins[j] = true := fun h j hj hjq => by
                by_cases e : j = q
                · subst e; exact h
                · exact hnq.out j hj (by omega)
              have hbq : insB Y a.m a.ins[q] = false → (15 : Int) = r := fun h => hallY.out (all_no hqa h)
              obtain ⟨⟨z0, z1, z2⟩, hz⟩ : ∃ z, a.ins[q] = z := ⟨_, rfl⟩
              rw [hz] at hei hxo hok hmq
              have t0 := hei 0 _ rfl
              have t1 := hei 1 _ rfl
              have t2 := hei 2 _ rfl
              simp only [shT, Nat.add_zero] at t0 t1 t2
              simp only at hok
              have hqF : qOk (a.m, z0, z1) := ⟨hao.out.q.1, hxo.1, hxo.2.1⟩
              have hqS : qOk (z0, a.m, z1) := ⟨hxo.1, hao.out.q.1, hxo.2.1⟩
              have hkI := (Keeps.refl [] wr).alloc (.cells #[.int .i64 z0, .int .u64 z1, .int .i64 z2] tI)
              have hkEI := (hkck.out.trans hkq.out.of_nil).trans hkI.of_nil
              have hMFi := hMF.out.kept ktK hkEI (by simp; omega)
              have hMSi := hMSf.out.kept ktS hkEI (by simp; omega)
              obtain ⟨u, hu⟩ : ∃ u, MapS.get (a.m, z0, z1) (outsOf Y) = some u := Option.isSome_iff_exists.1 ((outsOf_some Y (a.m, z0, z1)).2 ⟨a, hmemY.out, (z0, z1, z2), hmq, rfl⟩)
              have hlF : ∀ w' : World, w'.heap[bF]? = (wr.alloc (.cells #[.int .i64 z0, .int .u64 z1, .int .i64 z2] tI)).drew.heap[bF]? → (Instr.lookup 117 (.map (some bF)) (.agg #[.int .i64 a.m, .int .i64 z0, .int .u64 z1]) false).run Tryz.prog w' = .ok (.int .i64 u) w' := fun w' e => by
                have := MapS.M.look ktK Tryz.underlying117 (zV 0) zeroZ ((hMFi.keeps ktK ((Keeps.refl [] _).drew)).at' e) hqF
                rw [← hO.out, hu] at this
                simpa only [ktK, qV, zV, Option.map_some, Option.getD_some] using this
              rw [hu] at hok
              have hbFl : bF < (wr.alloc (.cells #[.int .i64 z0, .int .u64 z1, .int .i64 z2] tI)).drew.heap.size := MapS.M.lt ktK (hMFi.keeps ktK ((Keeps.refl [] _).drew))
              have hlS := MapS.M.look_ok ktS Tryz.underlying112 (aV .zero) zeroA (hMSi.keeps ktS ((Keeps.refl [] _).drew)) hqS
              obtain ⟨⟨u0, u1, u2, u3, u4, u5, u6, u7, u8, u9⟩, huv, hus⟩ := ans_of_get hR.out hs.out (z0, a.m, z1)
              obtain ⟨hb, hhb⟩ : ∃ b, hasA Y (z0, a.m, z1) = b := ⟨_, rfl⟩
              rw [huv, hus, hhb] at hlS
              rw [hhb] at hok
              simp only [ktS, qV, aV, AnV.v] at hlS
              rw [hz] at hbq hnq2
              rw [hok] at hbq hnq2
              have hkD : Keeps [] wr (wr.alloc (.cells #[.int .i64 z0, .int .u64 z1, .int .i64 z2] tI)).drew := hkI.drew
              have hbI := heap_alloc_new wr (.cells #[.int .i64 z0, .int .u64 z1, .int .i64 z2] tI)
              have hbId : (wr.alloc (.cells #[.int .i64 z0, .int .u64 z1, .int .i64 z2] tI)).drew.heap[wr.heap.size]? = _ := hbI
              have hbAd := (hkD.block _ (lt_of_blk ((hkq.out.block _ (lt_of_blk hbAk.out) (by simp)).trans hbAk.out)) (by simp)).trans ((hkq.out.block _ (lt_of_blk hbAk.out) (by simp)).trans hbAk.out)
              have hkqD := hkq.out.trans hkD
              replace hlF := Lib.hid hlF
              replace hbId := Lib.hid hbId
              replace hbAd := Lib.hid hbAd
              replace hkqD := Lib.hid hkqD
              replace hbq := Lib.hid hbq
              replace hnq2 := Lib.hid hnq2
              replace hu := Lib.hid hu
              replace hz := Lib.hid hz
              replace hhb := Lib.hid hhb
              replace hok := Lib.hid hok
              replace hfq := Lib.hid hfq
              clear hei hMFi hMSi hkEI hkI hqF hqS huv hus hmq hxo
              have hbAl := (hkq.out.block _ (lt_of_blk hbAk.out) (by simp)).trans hbAk.out
              obtain ⟨s0, s1, s2, s3, s4, s5, s6, s7, sf, sl⟩ := cl8 hbAl
              obtain ⟨c0, c1, c2, cf, cl⟩ := cl3 hbI
              go_upto_region 18 with fail
              clear s0 s1 s2 s3 s4 s5 s6 s7 sf sl t0 t1 t2 hbAl hbI c0 c1 c2 cf cl
              obtain ⟨s0, s1, s2, s3, s4, s5, s6, s7, sf, sl⟩ := cl8 hbAd.out
              obtain ⟨t0, t1, t2, tf, tl⟩ := cl3 hbId.out
              refine Free.wp_region_chain (fun i => false) (fun i => true) (fun _ _ => False) (by kernel_rfl) (by kernel_rfl) (by kernel_rfl) ?_
              generalize (wr.alloc (.cells #[.int .i64 z0, .int .u64 z1, .int .i64 z2] tI)).drew = wI at *
              (repeat (first | (apply Free.cw_pure rfl rfl; (intro w'; go_simp <;> exact rfl); go_frame) | (apply Free.cw_steady rfl rfl rfl; (intro w' hS; have z0 := hlF.out w' (hS.block bF hbFl (fun ⟨j, _, _, hT⟩ => hT)); have p0 := Free.sx_cell hS s0 (fun _ _ hT => hT); have p1 := Free.sx_cell hS t0 (fun _ _ hT => hT); have p2 := Free.sx_cell hS t1 (fun _ _ hT => hT); have p3 := Free.sx_cell hS t2 (fun _ _ hT => hT); go_simp <;> exact rfl); go_frame) | (refine Free.cw_skip rfl ?_; go_frame)))
              refine Free.cw_nil ?_
              by_cases huz : u = z2
              · have hne : (u != z2) = false := by simpa using huz
                have hbq2 : hb = false → (15 : Int) = r := fun h => hbq.out (by rw [h]; simp)
                have hnq3 : hb = true → ∀ j (hj : j < a.ins.length), j < q + 1 → insB Y a.m a.ins[j] = true := fun h => hnq2.out (by rw [h, huz]; simp)
                replace hbq2 := Lib.hid hbq2
                replace hnq3 := Lib.hid hnq3
                replace huz := Lib.hid huz
                have hkf := Lib.hid (hkqD.out.trans ((Keeps.refl [] wI).alloc (.cells #[.int .i64 u0, .int .i64 u1, .int .u64 u2, .int .i64 u3, .bool u4, .bool u5, .int .i64 u6, .slice u7 u8 u9] tA)))
                have hff := Lib.hid (hkwk.out.trans hkf.out)
                cases hb with
                | false =>
                  have hd := Lib.hid (hbq2.out rfl)
                  go_wp2
                  go_ret
                  exact ⟨by rw [← hd.out]; rfl, hff.out⟩
                | true =>
                  have hn3 := Lib.hid (hnq3.out rfl)
                  go_wp2
                  go_roundw
                  case rel => exact ⟨q + 1, rfl, by omega, hn3, hkf⟩
                  case measure => simp [intOf]; omega
              · have hne : (u != z2) = true := by simpa using huz
                have hd := Lib.hid (hbq.out (by simp [huz]))
                have hff := Lib.hid (hkwk.out.trans hkqD.out)
                replace huz := Lib.hid huz
                go_wp2
                go_ret
                exact ⟨by rw [← hd.out]; rfl, hff.out⟩
            · have hltq2 : ¬ ((q : Int) < y8) := by omega
              have hall := Lib.hid (hallY2.out (all_take (fun j hj => hnq.out j hj (by have := ev.out; omega))))
              have hMz := Lib.hid (hMk.out.keeps ktZ hkq.out)
              have hkz := Lib.hid (hkck.out.trans hkq.out.of_nil)
              go_wp2
              go_roundw
              case rel => exact ⟨k + 1, _, rfl, by omega, hMz, hEn, hall, hkz⟩
              case measure => simp [intOf]; omega
        · have hne : (gv != a.ep) = true := by simpa using hep
          obtain ⟨b, hb, hbm, hbv⟩ := hEp.out.val (hge.out.trans hgE)
          have hd := Lib.hid (hbe.out b hb hbm (by rw [hbv]; exact hep))
          replace hgE := Lib.hid hgE
          replace hep := Lib.hid hep
          replace hbv := Lib.hid hbv
          replace hbm := Lib.hid hbm
          go_wp2
          go_ret
          exact ⟨by rw [← hd.out]; rfl, hfin.out⟩
      | false =>
        have hgE2 : MapS.get a.m E = none := by rw [hge.out]; exact hgn.out rfl
        obtain ⟨wk, hrun, hMk, hkk⟩ := MapS.M.putNew ktZ Tryz.underlying116 hMA.out hwm hgE2 (by have h1 := hEp.out.len; rw [List.length_take] at h1; unfold maxLen; omega) a.ep
        have hEn : EpI (E ++ [(a.m, a.ep)]) (Y.take (k + 1)) := by rw [htk.out]; exact hEp.out.new hgE2
        simp only [ktZ, zV] at hrun
        replace hgE2 := Lib.hid hgE2
        have hbAk := (hkk.block _ sl (by simp; omega)).trans hbA.out
        have hkck := hkc.out.trans hkk
        have hkwk := hfin.out.fresh hkk (fun b hb => by simp at hb; subst hb; exact .inr hwE)
        have hinsk := hinsn.out.keepE hkk (fun b hb hne e => by
          simp at hb
          subst hb
          obtain ⟨es, ec, hmap⟩ := hMA.out.isMap
          obtain ⟨gg, oo, cc, hvv, hee⟩ := hinsn.out.elem (k := 0) (by cases hq : a.ins with | nil => exact absurd hq hne | cons _ _ => simp)
          rw [hvv] at e
          simp [Value.ownBlock] at e
          subst e
          have := hee 0 _ rfl
          simp [World.cell?, hmap] at this)
        replace hMk := Lib.hid hMk
        replace hEn := Lib.hid hEn
        replace hbAk := Lib.hid hbAk
        replace hkck := Lib.hid hkck
        replace hkwk := Lib.hid hkwk
        replace hinsk := Lib.hid hinsk
        clear hMA hbA hkc hkk hinsn hfin
        go_upto_region 15 with fail
        clear s0 s1 s2 s3 s4 s5 s6 s7 sf sl hrun hlz
        obtain ⟨s0, s1, s2, s3, s4, s5, s6, s7, sf, sl⟩ := cl8 hbAk.out
        go_wp2
        go_loopw [79] (fun i wi => ∃ q : Nat, i = .int .i64 q ∧ q ≤ y8 ∧ Hid (∀ j (hj : j < a.ins.length), j < q → insB Y a.m a.ins[j] = true) ∧ Hid (Keeps [] wk wi)) (fun i _ => y8 - (intOf i).toNat)
        case atStart => exact ⟨0, rfl, by omega, Lib.hid (fun _ _ h => by omega), Lib.hid (Keeps.refl _ _)⟩
        case round =>
          clear s0 s1 s2 s3 s4 s5 s6 s7 sf sl
          obtain ⟨q, rfl, hq, hnq, hkq⟩ := hrel
          have hfq := hkwk.out.trans hkq.out
          by_cases hltq : q < y8
          · have hltq2 : (q : Int) < y8 := by omega
            have hqa : q < a.ins.length := by rw [← ev.out]; exact hltq
            have hxo := hao.out.ins _ (List.getElem_mem hqa)
            obtain ⟨gi, oi, ci, hvi, hei⟩ := (hinsk.out.keeps hkq.out).elem hqa
            rw [← ev.out] at hvi
            cases hvi
            have hok := insB_def Y a.m a.ins[q]
            have hmq := List.getElem_mem hqa
            have hnq2 : insB Y a.m a.ins[q] = true → ∀ j (hj : j < a.ins.length), j < q + 1 → insB Y a.m a.ins[j] = true := fun h j hj hjq => by
              by_cases e : j = q
              · subst e; exact h
              · exact hnq.out j hj (by omega)
            have hbq : insB Y a.m a.ins[q] = false → (15 : Int) = r := fun h => hallY.out (all_no hqa h)
            obtain ⟨⟨z0, z1, z2⟩, hz⟩ : ∃ z, a.ins[q] = z := ⟨_, rfl⟩
            rw [hz] at hei hxo hok hmq
            have t0 := hei 0 _ rfl
            have t1 := hei 1 _ rfl
            have t2 := hei 2 _ rfl
            simp only [shT, Nat.add_zero] at t0 t1 t2
            simp only at hok
            have hqF : qOk (a.m, z0, z1) := ⟨hao.out.q.1, hxo.1, hxo.2.1⟩
            have hqS : qOk (z0, a.m, z1) := ⟨hxo.1, hao.out.q.1, hxo.2.1⟩
            have hkI := (Keeps.refl [] wr).alloc (.cells #[.int .i64 z0, .int .u64 z1, .int .i64 z2] tI)
            have hkEI := (hkck.out.trans hkq.out.of_nil).trans hkI.of_nil
            have hMFi := hMF.out.kept ktK hkEI (by simp; omega)
            have hMSi := hMSf.out.kept ktS hkEI (by simp; omega)
            obtain ⟨u, hu⟩ : ∃ u, MapS.get (a.m, z0, z1) (outsOf Y) = some u := Option.isSome_iff_exists.1 ((outsOf_some Y (a.m, z0, z1)).2 ⟨a, hmemY.out, (z0, z1, z2), hmq, rfl⟩)
            have hlF : ∀ w' : World, w'.heap[bF]? = (wr.alloc (.cells #[.int .i64 z0, .int .u64 z1, .int .i64 z2] tI)).drew.heap[bF]? → (Instr.lookup 117 (.map (some bF)) (.agg #[.int .i64 a.m, .int .i64 z0, .int .u64 z1]) false).run Tryz.prog w' = .ok (.int .i64 u) w' := fun w' e => by
              have := MapS.M.look ktK Tryz.underlying117 (zV 0) zeroZ ((hMFi.keeps ktK ((Keeps.refl [] _).drew)).at' e) hqF
              rw [← hO.out, hu] at this
              simpa only [ktK, qV, zV, Option.map_some, Option.getD_some] using this
            rw [hu] at hok
            have hbFl : bF < (wr.alloc (.cells #[.int .i64 z0, .int .u64 z1, .int .i64 z2] tI)).drew.heap.size := MapS.M.lt ktK (hMFi.keeps ktK ((Keeps.refl [] _).drew))
            have hlS := MapS.M.look_ok ktS Tryz.underlying112 (aV .zero) zeroA (hMSi.keeps ktS ((Keeps.refl [] _).drew)) hqS
            obtain ⟨⟨u0, u1, u2, u3, u4, u5, u6, u7, u8, u9⟩, huv, hus⟩ := ans_of_get hR.out hs.out (z0, a.m, z1)
            obtain ⟨hb, hhb⟩ : ∃ b, hasA Y (z0, a.m, z1) = b := ⟨_, rfl⟩
            rw [huv, hus, hhb] at hlS
            rw [hhb] at hok
            simp only [ktS, qV, aV, AnV.v] at hlS
            rw [hz] at hbq hnq2
            rw [hok] at hbq hnq2
            have hkD : Keeps [] wr (wr.alloc (.cells #[.int .i64 z0, .int .u64 z1, .int .i64 z2] tI)).drew := hkI.drew
            have hbI := heap_alloc_new wr (.cells #[.int .i64 z0, .int .u64 z1, .int .i64 z2] tI)
            have hbId : (wr.alloc (.cells #[.int .i64 z0, .int .u64 z1, .int .i64 z2] tI)).drew.heap[wr.heap.size]? = _ := hbI
            have hbAd := (hkD.block _ (lt_of_blk ((hkq.out.block _ (lt_of_blk hbAk.out) (by simp)).trans hbAk.out)) (by simp)).trans ((hkq.out.block _ (lt_of_blk hbAk.out) (by simp)).trans hbAk.out)
            have hkqD := hkq.out.trans hkD
            replace hlF := Lib.hid hlF
            replace hbId := Lib.hid hbId
            replace hbAd := Lib.hid hbAd
            replace hkqD := Lib.hid hkqD
            replace hbq := Lib.hid hbq
            replace hnq2 := Lib.hid hnq2
            replace hu := Lib.hid hu
            replace hz := Lib.hid hz
            replace hhb := Lib.hid hhb
            replace hok := Lib.hid hok
            replace hfq := Lib.hid hfq
            clear hei hMFi hMSi hkEI hkI hqF hqS huv hus hmq hxo
            have hbAl := (hkq.out.block _ (lt_of_blk hbAk.out) (by simp)).trans hbAk.out
            obtain ⟨s0, s1, s2, s3, s4, s5, s6, s7, sf, sl⟩ := cl8 hbAl
            obtain ⟨c0, c1, c2, cf, cl⟩ := cl3 hbI
            go_upto_region 18 with fail
            clear s0 s1 s2 s3 s4 s5 s6 s7 sf sl t0 t1 t2 hbAl hbI c0 c1 c2 cf cl
            obtain ⟨s0, s1, s2, s3, s4, s5, s6, s7, sf, sl⟩ := cl8 hbAd.out
            obtain ⟨t0, t1, t2, tf, tl⟩ := cl3 hbId.out
            refine Free.wp_region_chain (fun i => false) (fun i => true) (fun _ _ => False) (by kernel_rfl) (by kernel_rfl) (by kernel_rfl) ?_
            generalize (wr.alloc (.cells #[.int .i64 z0, .int .u64 z1, .int .i64 z2] tI)).drew = wI at *
            (repeat (first | (apply Free.cw_pure rfl rfl; (intro w'; go_simp <;> exact rfl); go_frame) | (apply Free.cw_steady rfl rfl rfl; (intro w' hS; have z0 := hlF.out w' (hS.block bF hbFl (fun ⟨j, _, _, hT⟩ => hT)); have p0 := Free.sx_cell hS s0 (fun _ _ hT => hT); have p1 := Free.sx_cell hS t0 (fun _ _ hT => hT); have p2 := Free.sx_cell hS t1 (fun _ _ hT => hT); have p3 := Free.sx_cell hS t2 (fun _ _ hT => hT); go_simp <;> exact rfl); go_frame) | (refine Free.cw_skip rfl ?_; go_frame)))
            refine Free.cw_nil ?_
            by_cases huz : u = z2
            · have hne : (u != z2) = false := by simpa using huz
              have hbq2 : hb = false → (15 : Int) = r := fun h => hbq.out (by rw [h]; simp)
              have hnq3 : hb = true → ∀ j (hj : j < a.ins.length), j < q + 1 → insB Y a.m a.ins[j] = true := fun h => hnq2.out (by rw [h, huz]; simp)
              replace hbq2 := Lib.hid hbq2
              replace hnq3 := Lib.hid hnq3
              replace huz := Lib.hid huz
              have hkf := Lib.hid (hkqD.out.trans ((Keeps.refl [] wI).alloc (.cells #[.int .i64 u0, .int .i64 u1, .int .u64 u2, .int .i64 u3, .bool u4, .bool u5, .int .i64 u6, .slice u7 u8 u9] tA)))
              have hff := Lib.hid (hkwk.out.trans hkf.out)
              cases hb with
              | false =>
                have hd := Lib.hid (hbq2.out rfl)
                go_wp2
                go_ret
                exact ⟨by rw [← hd.out]; rfl, hff.out⟩
              | true =>
                have hn3 := Lib.hid (hnq3.out rfl)
                go_wp2
                go_roundw
                case rel => exact ⟨q + 1, rfl, by omega, hn3, hkf⟩
                case measure => simp [intOf]; omega
            · have hne : (u != z2) = true := by simpa using huz
              have hd := Lib.hid (hbq.out (by simp [huz]))
              have hff := Lib.hid (hkwk.out.trans hkqD.out)
              replace huz := Lib.hid huz
              go_wp2
              go_ret
              exact ⟨by rw [← hd.out]; rfl, hff.out⟩
          · have hltq2 : ¬ ((q : Int) < y8) := by omega
            have hall := Lib.hid (hallY2.out (all_take (fun j hj => hnq.out j hj (by have := ev.out; omega))))
            have hMz := Lib.hid (hMk.out.keeps ktZ hkq.out)
            have hkz := Lib.hid (hkck.out.trans hkq.out.of_nil)
            go_wp2
            go_roundw
            case rel => exact ⟨k + 1, _, rfl, by omega, hMz, hEn, hall, hkz⟩
            case measure => simp [intOf]; omega
    · have hlt2 : ¬ ((k : Int) < x6) := by omega
      have hkN : k = Y.length := by have := hfY.out; omega
      have htk : Y.take k = Y := by rw [hkN]; exact List.take_length
      have hepB := hEp.out.epB
      rw [htk] at hepB
      have hA6 := (hkr.out.block _ (lt_of_blk hA5.out) (by simpa using hBE)).trans hA5.out
      have hAd : wr.drew.heap[B]? = _ := hA6
      have hkd : Keeps [] w wr.drew := hkwr.drew
      obtain ⟨i0, i1, i2, i3, i4, i5, i6, if', il⟩ := cl7 hAd
      have hbc : decide (c.cl = clY c.an) = false → (15 : Int) = r := fun h => hbad.out (bad_cl (of_decide_eq_false h))
      have hgc : decide (c.cl = clY c.an) = true → (0 : Int) = r := fun h => hgood.out (good_all (by rw [hY.out]; exact hob.out) (by rw [hY.out]; exact hepB) (fun a ha => by
        rw [hY.out] at ha ⊢
        obtain ⟨j, hj, rfl⟩ := List.getElem_of_mem ha
        exact hno.out j hj (by omega)) (of_decide_eq_true h))
      obtain ⟨bb, hbb⟩ : ∃ b, decide (c.cl = clY c.an) = b := ⟨_, rfl⟩
      rw [hbb] at hbc hgc
      replace hbc := Lib.hid hbc
      replace hgc := Lib.hid hgc
      replace hbb := Lib.hid hbb
      replace hkd := Lib.hid hkd
      replace hkN := Lib.hid hkN
      replace htk := Lib.hid htk
      replace hepB := Lib.hid hepB
      replace hA6 := Lib.hid hA6
      clear hkwr
      go_upto_region 25 with fail
      refine Free.wp_region_chain (fun i => i == 3 || i == 4) (fun i => true) (fun _ _ => False) (by kernel_rfl) (by kernel_rfl) (by kernel_rfl) ?_
      generalize wr.drew = wd at *
      (repeat (first | (apply Free.cw_pure rfl rfl; (intro w'; go_simp <;> exact rfl); go_frame) | (apply Free.cw_steady rfl rfl rfl; (intro w' hS; have q0 := Free.sx_cell hS i0 (fun _ _ hT => hT); have q1 := Free.sx_cell hS i1 (fun _ _ hT => hT); have q2 := Free.sx_cell hS i2 (fun _ _ hT => hT); have q3 := Free.sx_cell hS i3 (fun _ _ hT => hT); have q4 := Free.sx_cell hS i4 (fun _ _ hT => hT); have q5 := Free.sx_cell hS i5 (fun _ _ hT => hT); have q6 := Free.sx_cell hS i6 (fun _ _ hT => hT); go_simp <;> exact rfl); go_frame) | (refine Free.cw_skip rfl ?_; go_frame)))
      refine Free.cw_loud rfl rfl (fun K hK => ?_)
      go_wp2_with fail
      refine (hcmA.out _ hkd.out).mono ?_
      rintro e w6 ⟨v, rfl, hv, hk6⟩
      refine hK _ _ rfl (Free.KeepsP.of hk6 (by simp)) ?_
      clear hK K
      have hk06 := hkd.out.trans hk6
      have heq := hce.out _ hk06 v (by rw [hY.out]; exact hv)
      rw [hbb.out] at heq
      obtain ⟨av, cv, rfl, _, _⟩ := hv.form
      replace heq := Lib.hid heq
      replace hk06 := Lib.hid hk06
      clear hv hk6
      (repeat (apply Free.cw_pure rfl rfl; (intro w'; go_simp <;> exact rfl); go_frame))
      refine Free.cw_loud rfl rfl (fun K hK => ?_)
      go_wp2_with fail
      refine heq.out.mono ?_
      rintro e w7 ⟨rfl, hk7⟩
      refine hK _ _ rfl (Free.KeepsP.of hk7 (by simp)) ?_
      clear hK K
      have hk07 := Lib.hid (hk06.out.trans hk7)
      (repeat (apply Free.cw_pure rfl rfl; (intro w'; go_simp <;> exact rfl); go_frame))
      refine Free.cw_nil ?_
      cases bb with
      | false =>
        have hd := Lib.hid (hbc.out rfl)
        go_wp2
        go_ret
        exact ⟨by rw [← hd.out]; rfl, hk07.out⟩
      | true =>
        have hd := Lib.hid (hgc.out rfl)
        go_wp2
        go_ret
        exact ⟨by rw [← hd.out]; rfl, hk07.out⟩
end Go.Proofs.YtiplgpefapeapaaGreat

namespace Go.Proofs.YtiplgpefapeapaaGreat
open Go.RowKit

/-- No list is too long for the program. -/
structure Ct.F24 (c : Ct) : Prop where
  an : c.an.length ≤ 1024
  cl : c.cl.length ≤ 1024
  ins : ∀ a ∈ c.an, a.ins.length ≤ 1024
  ns : ∀ p ∈ c.cl, p.st.length ≤ 1024 ∧ p.sc.length ≤ 1024 ∧ p.ch.length ≤ 1024
end Go.Proofs.YtiplgpefapeapaaGreat

namespace Go.Proofs.YtiplgpefapeapaaGreat
open Go.RowKit

theorem sum_succ {α : Type} (g : α → Nat) (l : List α) (k : Nat) (h : k < l.length) : ((l.take (k + 1)).map g).sum = ((l.take k).map g).sum + g l[k] := by
  rw [List.take_succ_eq_append_getElem h, List.map_append, List.sum_append]
  simp only [List.map_cons, List.map_nil, List.sum_cons, List.sum_nil, Nat.add_zero]
theorem sum_mem {α : Type} (g : α → Nat) {l : List α} {x : α} (h : x ∈ l) : g x ≤ (l.map g).sum := by
  induction l with
  | nil => simp at h
  | cons a l ih =>
    rcases List.mem_cons.1 h with rfl | h
    · simp
    · have := ih h; simp; omega
theorem few_of {c : Ct} (h : c.size ≤ 100) : c.Few := by
  unfold Ct.size at h
  refine ⟨by omega, by omega, fun a ha => ?_, fun p hp => ?_⟩
  · have := sum_mem (fun a : Ans => a.ins.length) ha; omega
  · have := sum_mem PCl.size hp
    have hs : PCl.size p = p.st.length + p.sc.length + p.ch.length := rfl
    omega
end Go.Proofs.YtiplgpefapeapaaGreat

namespace Go.Proofs.YtiplgpefapeapaaGreat
open Go.RowKit

def exS (s : Int) : Ct := ⟨1, 1, (2, 7, 0), [⟨1, 2, 7, 3, true, false, 4, [(2, 9, 5)]⟩, ⟨2, 1, 9, 6, true, false, 8, [(1, 7, 1)]⟩], [⟨1, 3, [(2, 7, 1)], [(2, 9, s)], []⟩, ⟨2, 6, [(1, 9, 5)], [(1, 7, 4)], []⟩]⟩
theorem ex8_chk : chk (exS 8) = 0 := by decide +kernel
theorem ex7_chk : chk (exS 7) = 15 := by decide +kernel
theorem ex_size (s : Int) : (exS s).size ≤ 100 := by unfold exS Ct.size PCl.size; simp
def exX (b : Nat) : CtV := ⟨1, 1, 2, 7, 0, (some ⟨b + 3, 0, none⟩, 2, 2), (some ⟨b + 8, 0, none⟩, 2, 2)⟩
abbrev oneV (b : Nat) : Value := .slice (some ⟨b, 0, none⟩) 1 1
/-- The blocks of the example. -/
structure ExB (w : World) (b : Nat) (s : Int) : Prop where
  o1 : w.heap[b + 1]? = some (.cells #[.int .i64 2, .int .u64 9, .int .i64 5] tI (0, 0))
  o2 : w.heap[b + 2]? = some (.cells #[.int .i64 1, .int .u64 7, .int .i64 1] tI (0, 0))
  o3 : w.heap[b + 3]? = some (.cells #[.int .i64 1, .int .i64 2, .int .u64 7, .int .i64 3, .bool true, .bool false, .int .i64 4, oneV (b + 1), .int .i64 2, .int .i64 1, .int .u64 9, .int .i64 6, .bool true, .bool false, .int .i64 8, oneV (b + 2)] tA (0, 0))
  o4 : w.heap[b + 4]? = some (.cells #[.int .i64 2, .int .u64 9, .int .i64 s] tN (0, 0))
  o5 : w.heap[b + 5]? = some (.cells #[.int .i64 2, .int .u64 7, .int .i64 1] tN (0, 0))
  o6 : w.heap[b + 6]? = some (.cells #[.int .i64 1, .int .u64 7, .int .i64 4] tN (0, 0))
  o7 : w.heap[b + 7]? = some (.cells #[.int .i64 1, .int .u64 9, .int .i64 5] tN (0, 0))
  o8 : w.heap[b + 8]? = some (.cells #[.int .i64 1, .int .i64 3, oneV (b + 5), oneV (b + 4), .slice none 0 0, .int .i64 2, .int .i64 6, oneV (b + 7), oneV (b + 6), .slice none 0 0] tC (0, 0))
theorem ExB.keeps {w w' : World} {b : Nat} {s : Int} (h : ExB w b s) (hk : Keeps [] w w') : ExB w' b s :=
  ⟨(hk.block _ (lt_of_blk h.o1) (by simp)).trans h.o1, (hk.block _ (lt_of_blk h.o2) (by simp)).trans h.o2, (hk.block _ (lt_of_blk h.o3) (by simp)).trans h.o3, (hk.block _ (lt_of_blk h.o4) (by simp)).trans h.o4, (hk.block _ (lt_of_blk h.o5) (by simp)).trans h.o5, (hk.block _ (lt_of_blk h.o6) (by simp)).trans h.o6, (hk.block _ (lt_of_blk h.o7) (by simp)).trans h.o7, (hk.block _ (lt_of_blk h.o8) (by simp)).trans h.o8⟩
theorem ExB.stamp {w : World} {b : Nat} {s : Int} (h : ExB w b s) (z : Int) : ExB (w.setCell ⟨b + 4, 2, none⟩ (.int .i64 z)) b z ∧ Keeps [b + 4] w (w.setCell ⟨b + 4, 2, none⟩ (.int .i64 z)) := by
  have hk : Keeps [b + 4] w (w.setCell ⟨b + 4, 2, none⟩ (.int .i64 z)) := (Keeps.refl _ w).setCell (.inr (by simp)) _
  refine ⟨⟨(hk.block _ (lt_of_blk h.o1) (by simp)).trans h.o1, (hk.block _ (lt_of_blk h.o2) (by simp)).trans h.o2, (hk.block _ (lt_of_blk h.o3) (by simp)).trans h.o3, ?_, (hk.block _ (lt_of_blk h.o5) (by simp)).trans h.o5, (hk.block _ (lt_of_blk h.o6) (by simp)).trans h.o6, (hk.block _ (lt_of_blk h.o7) (by simp)).trans h.o7, (hk.block _ (lt_of_blk h.o8) (by simp)).trans h.o8⟩, hk⟩
  have h4 := h.o4
  simp [World.setCell, Array.getElem?_modify, h4]
theorem R_blk {α : Type} (s : Sh α) {w : World} {b : Nat} {cs : Array Value} {t : TypeId} (L : List α) (h : w.heap[b]? = some (.cells cs t (0, 0))) (hc : cs.toList = s.cs L) (hs : (s.cs L).length = L.length * s.sz) (hm : L.length ≤ 1000) : s.R w (.slice (some ⟨b, 0, none⟩) L.length L.length) L :=
  Sh.O.r (B := 0) (e := t) ⟨hs, .inr ⟨b, L.length, cs, rfl, Nat.zero_le _, h, Nat.le_refl _, by unfold maxLen; omega, by rw [← Array.length_toList, hc, hs], by rw [hc, List.take_of_length_le (by omega)]⟩⟩
theorem ExB.ct {w : World} {b : Nat} {s : Int} (h : ExB w b s) : CtW w (exX b) (exS s) := by
  refine ⟨rfl, rfl, rfl, rfl, rfl, ?_, ?_⟩
  · refine ⟨[⟨1, 2, 7, 3, true, false, 4, some ⟨b + 1, 0, none⟩, 1, 1⟩, ⟨2, 1, 9, 6, true, false, 8, some ⟨b + 2, 0, none⟩, 1, 1⟩], R_blk shA _ h.o3 rfl rfl (by simp), rfl, fun k x y hx hy => ?_⟩
    match k with
    | 0 =>
      simp at hx
      simp [exS] at hy
      subst hx hy
      exact ⟨rfl, rfl, rfl, rfl, rfl, rfl, rfl, R_blk shT [(2, 9, 5)] h.o1 rfl rfl (by simp)⟩
    | 1 =>
      simp at hx
      simp [exS] at hy
      subst hx hy
      exact ⟨rfl, rfl, rfl, rfl, rfl, rfl, rfl, R_blk shT [(1, 7, 1)] h.o2 rfl rfl (by simp)⟩
    | k + 2 => simp at hx
  · refine ⟨[⟨1, 3, (some ⟨b + 5, 0, none⟩, 1, 1), (some ⟨b + 4, 0, none⟩, 1, 1), (none, 0, 0)⟩, ⟨2, 6, (some ⟨b + 7, 0, none⟩, 1, 1), (some ⟨b + 6, 0, none⟩, 1, 1), (none, 0, 0)⟩], R_blk shC _ h.o8 rfl rfl (by simp), rfl, fun k x y hx hy => ?_⟩
    match k with
    | 0 =>
      simp at hx
      simp [exS] at hy
      subst hx hy
      exact ⟨rfl, rfl, R_blk shT [(2, 7, 1)] h.o5 rfl rfl (by simp), R_blk shT [(2, 9, s)] h.o4 rfl rfl (by simp), Sh.R.nil _ _⟩
    | 1 =>
      simp at hx
      simp [exS] at hy
      subst hx hy
      exact ⟨rfl, rfl, R_blk shT [(1, 9, 5)] h.o7 rfl rfl (by simp), R_blk shT [(1, 7, 4)] h.o6 rfl rfl (by simp), Sh.R.nil _ _⟩
    | k + 2 => simp at hx
theorem ex_fit (s : Int) (hs : W64 s) : (exS s).Fit := by
  refine ⟨rfl, rfl, ⟨rfl, by simp [exS], rfl⟩, fun a ha => ?_, fun p hp => ?_⟩
  · simp [exS] at ha
    rcases ha with rfl | rfl
    · exact ⟨⟨rfl, rfl, by simp [Ans.q]⟩, rfl, rfl, (fun x hx => by simp at hx; subst hx; exact ⟨rfl, by simp, rfl⟩)⟩
    · exact ⟨⟨rfl, rfl, by simp [Ans.q]⟩, rfl, rfl, (fun x hx => by simp at hx; subst hx; exact ⟨rfl, by simp, rfl⟩)⟩
  · simp [exS] at hp
    rcases hp with rfl | rfl
    · exact ⟨rfl, rfl, (fun x hx => by simp at hx; subst hx; exact ⟨rfl, by simp, rfl⟩), (fun x hx => by simp at hx; subst hx; exact ⟨rfl, by simp, hs⟩), (fun x hx => by simp at hx)⟩
    · exact ⟨rfl, rfl, (fun x hx => by simp at hx; subst hx; exact ⟨rfl, by simp, rfl⟩), (fun x hx => by simp at hx; subst hx; exact ⟨rfl, by simp, rfl⟩), (fun x hx => by simp at hx)⟩
theorem an2 (w : World) (o : Obj) {b : Nat} (h : b = w.heap.size) : (w.alloc o).heap[b]? = some o := by subst h; exact heap_alloc_new w o
theorem alloc9 {w W : World} {a0 a1 a2 a3 a4 a5 a6 a7 a8 : Obj} (h : (((((((((w.alloc a0).alloc a1).alloc a2).alloc a3).alloc a4).alloc a5).alloc a6).alloc a7).alloc a8) = W) :
    W.heap[w.heap.size]? = some a0 ∧ W.heap[w.heap.size + 1]? = some a1 ∧ W.heap[w.heap.size + 2]? = some a2 ∧ W.heap[w.heap.size + 3]? = some a3 ∧ W.heap[w.heap.size + 4]? = some a4 ∧ W.heap[w.heap.size + 5]? = some a5 ∧ W.heap[w.heap.size + 6]? = some a6 ∧ W.heap[w.heap.size + 7]? = some a7 ∧ W.heap[w.heap.size + 8]? = some a8 ∧ Keeps [] w W := by
  subst h
  refine ⟨?_, ?_, ?_, ?_, ?_, ?_, ?_, ?_, ?_, ((((((((((Keeps.refl [] w).alloc _).alloc _).alloc _).alloc _).alloc _).alloc _).alloc _).alloc _).alloc _)⟩
  · rw [Below.heap_alloc _ _ _ (by simp <;> omega), Below.heap_alloc _ _ _ (by simp <;> omega), Below.heap_alloc _ _ _ (by simp <;> omega), Below.heap_alloc _ _ _ (by simp <;> omega), Below.heap_alloc _ _ _ (by simp <;> omega), Below.heap_alloc _ _ _ (by simp <;> omega), Below.heap_alloc _ _ _ (by simp <;> omega), Below.heap_alloc _ _ _ (by simp <;> omega)]; exact an2 _ _ (by simp)
  · rw [Below.heap_alloc _ _ _ (by simp <;> omega), Below.heap_alloc _ _ _ (by simp <;> omega), Below.heap_alloc _ _ _ (by simp <;> omega), Below.heap_alloc _ _ _ (by simp <;> omega), Below.heap_alloc _ _ _ (by simp <;> omega), Below.heap_alloc _ _ _ (by simp <;> omega), Below.heap_alloc _ _ _ (by simp <;> omega)]; exact an2 _ _ (by simp)
  · rw [Below.heap_alloc _ _ _ (by simp <;> omega), Below.heap_alloc _ _ _ (by simp <;> omega), Below.heap_alloc _ _ _ (by simp <;> omega), Below.heap_alloc _ _ _ (by simp <;> omega), Below.heap_alloc _ _ _ (by simp <;> omega), Below.heap_alloc _ _ _ (by simp <;> omega)]; exact an2 _ _ (by simp)
  · rw [Below.heap_alloc _ _ _ (by simp <;> omega), Below.heap_alloc _ _ _ (by simp <;> omega), Below.heap_alloc _ _ _ (by simp <;> omega), Below.heap_alloc _ _ _ (by simp <;> omega), Below.heap_alloc _ _ _ (by simp <;> omega)]; exact an2 _ _ (by simp)
  · rw [Below.heap_alloc _ _ _ (by simp <;> omega), Below.heap_alloc _ _ _ (by simp <;> omega), Below.heap_alloc _ _ _ (by simp <;> omega), Below.heap_alloc _ _ _ (by simp <;> omega)]; exact an2 _ _ (by simp)
  · rw [Below.heap_alloc _ _ _ (by simp <;> omega), Below.heap_alloc _ _ _ (by simp <;> omega), Below.heap_alloc _ _ _ (by simp <;> omega)]; exact an2 _ _ (by simp)
  · rw [Below.heap_alloc _ _ _ (by simp <;> omega), Below.heap_alloc _ _ _ (by simp <;> omega)]; exact an2 _ _ (by simp)
  · rw [Below.heap_alloc _ _ _ (by simp <;> omega)]; exact an2 _ _ (by simp)
  · exact an2 _ _ (by simp)
set_option maxRecDepth 100000 in
set_option maxHeartbeats 4000000 in
theorem example_c (w : World) : Calls Tryz.prog 22 #[] w fun e w' => e = .returned (ctV (exX w.heap.size)) ∧ ExB w' w.heap.size 8 ∧ Keeps [] w w' := by
  go_enter Tryz.func22, Tryz.ntmps22
  go_wp2
  generalize hW : World.alloc _ (Obj.cells #[.int .i64 1, .int .i64 3, _, _, _, .int .i64 2, .int .i64 6, _, _, _] _) = W
  obtain ⟨h0, h1, h2, h3, h4, h5, h6, h7, h8, hk⟩ := alloc9 hW
  refine bodyPost_ret (results_cell_row rfl _ _ _ _ _ _ _ rfl h0 Tryz.underlying32 rfl (by kernel_rfl)) rfl ?_
  exact ⟨rfl, ⟨h1, h2, h3, h4, h5, h6, h7, h8⟩, hk⟩
set_option maxRecDepth 100000 in
set_option maxHeartbeats 4000000 in
theorem awake_c (w : World) : Calls Tryz.prog 6 #[] w fun e w' => e = .returned (.bool true) ∧ Keeps [] w w' := by
  have hce := fun (W : World) (s : Int) (hs : W64 s) (h : ExB W w.heap.size s) => check_c W _ _ h.ct (ex_fit s hs) (few_of (ex_size s))
  obtain ⟨b, hb⟩ : ∃ b, w.heap.size = b := ⟨_, rfl⟩
  have hex := example_c w
  rw [hb] at hce hex
  replace hce := Lib.hid hce
  replace hb := Lib.hid hb
  go_enter Tryz.func6, Tryz.ntmps6
  go_wp2_with fail
  refine hex.mono ?_
  rintro e w1 ⟨rfl, hE1, hk1⟩
  have hA := heap_alloc_new w1 (.cells #[.int .i64 1, .int .i64 1, .int .i64 2, .int .u64 7, .int .i64 0, .slice (some ⟨b + 3, 0, none⟩) 2 2, .slice (some ⟨b + 8, 0, none⟩) 2 2] tCt)
  have hkA := hk1.trans ((Keeps.refl [] w1).alloc (.cells #[.int .i64 1, .int .i64 1, .int .i64 2, .int .u64 7, .int .i64 0, .slice (some ⟨b + 3, 0, none⟩) 2 2, .slice (some ⟨b + 8, 0, none⟩) 2 2] tCt))
  have hE2 := hE1.keeps ((Keeps.refl [] w1).alloc (.cells #[.int .i64 1, .int .i64 1, .int .i64 2, .int .u64 7, .int .i64 0, .slice (some ⟨b + 3, 0, none⟩) 2 2, .slice (some ⟨b + 8, 0, none⟩) 2 2] tCt))
  have hbA : b < w1.heap.size := by have := lt_of_blk hE1.o1; omega
  have hc8 := hce.out _ 8 rfl hE2
  rw [ex8_chk] at hc8
  simp only [ctV, slv, exX] at hc8 ⊢
  replace hA := Lib.hid hA
  replace hkA := Lib.hid hkA
  replace hE2 := Lib.hid hE2
  replace hbA := Lib.hid hbA
  replace hc8 := Lib.hid hc8
  clear hE1 hk1
  go_upto_region 2 with fail
  generalize (w1.alloc (.cells #[.int .i64 1, .int .i64 1, .int .i64 2, .int .u64 7, .int .i64 0, .slice (some ⟨b + 3, 0, none⟩) 2 2, .slice (some ⟨b + 8, 0, none⟩) 2 2] tCt)) = WA at *
  obtain ⟨XA, hXA⟩ : ∃ X, w1.heap.size = X := ⟨_, rfl⟩
  rw [hXA] at hA hbA ⊢
  obtain ⟨i0, i1, i2, i3, i4, i5, i6, if', il⟩ := cl7 hA.out
  go_wp2_with fail
  refine hc8.out.mono ?_
  rintro e w2 ⟨rfl, hk2⟩
  have hA2 := (hk2.block _ (lt_of_blk hA.out) (by simp)).trans hA.out
  have hE3 := hE2.out.keeps hk2
  have hk02 := hkA.out.trans hk2
  clear i0 i1 i2 i3 i4 i5 i6 if' il hc8
  obtain ⟨i0, i1, i2, i3, i4, i5, i6, if', il⟩ := cl7 hA2
  have t8 := hE3.o8
  have t4 := hE3.o4
  have a3 : w2.cell? ⟨b + 8, 3, none⟩ = some (oneV (b + 4)) := by simp [World.cell?, t8]
  obtain ⟨_, _, a4, af, al⟩ := cl3 t4
  obtain ⟨hE4, hk4⟩ := hE3.stamp 7
  have hXb : XA ≠ b + 4 := by have := hE2.out.o4; have := hbA.out; intro e; rw [← e] at t4; rw [hA2] at t4; simp at t4
  have hA4 := (hk4.block _ (lt_of_blk hA2) (by simp; omega)).trans hA2
  have hk04 := hk02.fresh hk4 (fun x hx => by simp only [List.mem_singleton] at hx; subst hx; exact .inr (by have := hb.out; omega))
  have hc7 := hce.out _ 7 rfl hE4
  rw [ex7_chk] at hc7
  simp only [ctV, slv, exX] at hc7
  replace hA4 := Lib.hid hA4
  replace hk04 := Lib.hid hk04
  replace hc7 := Lib.hid hc7
  clear t8 t4 hE4 hk4 hE3 hA2 hk02 hk2 hce hE2
  go_upto_region 5 with fail
  generalize (w2.setCell ⟨b + 4, 2, none⟩ (.int .i64 7)) = W4 at *
  clear i0 i1 i2 i3 i4 i5 i6 if' il a3 a4 af al
  obtain ⟨i0, i1, i2, i3, i4, i5, i6, if', il⟩ := cl7 hA4.out
  go_wp2_with fail
  refine hc7.out.mono ?_
  rintro e w5 ⟨rfl, hk5⟩
  have hkz := hk04.out.trans hk5
  go_wp2
  go_ret
  exact ⟨rfl, hkz⟩
end Go.Proofs.YtiplgpefapeapaaGreat

namespace Go.Proofs.YtiplgpefapeapaaGreat
open Go.RowKit

theorem sizeA8 : (Tryz.prog.info? tA).map (·.size) = some 8 := by kernel_rfl
end Go.Proofs.YtiplgpefapeapaaGreat

namespace Go.Proofs.YtiplgpefapeapaaGreat

/-- The digits of a number, the most significant one first. -/
def digs (n : Nat) : List UInt8 := if h : n = 0 then [] else digs (n / 256) ++ [UInt8.ofNat (n % 256)]
termination_by n
decreasing_by omega
theorem digs_zero : digs 0 = [] := by rw [digs]; simp
theorem digs_pos {n : Nat} (h : 0 < n) : digs n = digs (n / 256) ++ [UInt8.ofNat (n % 256)] := by rw [digs]; simp [show n ≠ 0 by omega]
theorem digs_len_pos {n : Nat} (h : 0 < n) : (digs n).length = (digs (n / 256)).length + 1 := by rw [digs_pos h]; simp
theorem digs_len_lt : ∀ (k n : Nat), n < 256 ^ k → (digs n).length ≤ k
  | 0, n, h => by have : n = 0 := by simpa using h
                  subst this; simp [digs_zero]
  | k + 1, n, h => by
    rcases Nat.eq_zero_or_pos n with rfl | hp
    · simp [digs_zero]
    · rw [digs_len_pos hp]
      have := digs_len_lt k (n / 256) (by rw [Nat.pow_succ] at h; omega)
      omega
theorem digs_len8 {n : Nat} (h : n < 18446744073709551616) : (digs n).length ≤ 8 := digs_len_lt 8 n (by simpa using h)
/-- The digit with `i` digits behind it. -/
theorem digs_get : ∀ (k n i : Nat), (digs n).length = k → i < k → (digs n)[k - 1 - i]? = some (UInt8.ofNat (n / 256 ^ i % 256))
  | 0, n, i, _, hi => by omega
  | k + 1, n, i, h, hi => by
    rcases Nat.eq_zero_or_pos n with rfl | hp
    · simp [digs_zero] at h
    · have h2 := digs_len_pos hp
      rw [digs_pos hp]
      cases i with
      | zero => rw [List.getElem?_append_right (by omega), show k + 1 - 1 - 0 - (digs (n / 256)).length = 0 from by omega]; simp
      | succ i =>
        rw [List.getElem?_append_left (by omega)]
        have := digs_get k (n / 256) i (by omega) (by omega)
        rw [show k + 1 - 1 - (i + 1) = k - 1 - i by omega, this, Nat.div_div_eq_div_mul, Nat.pow_succ, Nat.mul_comm 256]
/-- The encoding of a number. -/
def encU (n : Nat) : List UInt8 := UInt8.ofNat (digs n).length :: digs n
theorem encU_len {n : Nat} (h : n < 18446744073709551616) : (encU n).length ≤ 9 := by have := digs_len8 h; simp [encU]; omega
/-- The number that digits stand for. -/
def valU (l : List UInt8) : Nat := l.foldl (fun n b => n * 256 + b.toNat) 0
theorem valU_snoc (l : List UInt8) (b : UInt8) : valU (l ++ [b]) = valU l * 256 + b.toNat := by simp [valU]
theorem valU_lt : ∀ (k : Nat) (l : List UInt8), l.length = k → valU l < 256 ^ k
  | 0, l, h => by rw [List.length_eq_zero_iff.1 h]; simp [valU]
  | k + 1, l, h => by
    obtain ⟨m, b, rfl⟩ : ∃ m b, l = m ++ [b] := ⟨l.dropLast, l.getLast (by intro e; subst e; simp at h), (List.dropLast_concat_getLast _).symm⟩
    have := valU_lt k m (by simpa using h)
    have hb := b.toNat_lt
    rw [valU_snoc, Nat.pow_succ]; omega
theorem valU_digs (n : Nat) : valU (digs n) = n := by
  induction n using Nat.strongRecOn with
  | _ n ih =>
    rcases Nat.eq_zero_or_pos n with rfl | hp
    · simp [digs_zero, valU]
    · rw [digs_pos hp, valU_snoc, ih (n / 256) (by omega)]
      simp; omega
theorem digs_valU : ∀ (k : Nat) (l : List UInt8), l.length = k → (∀ b, l[0]? = some b → b ≠ 0) → digs (valU l) = l
  | 0, l, h, _ => by rw [List.length_eq_zero_iff.1 h]; simp [valU, digs_zero]
  | k + 1, l, h, h0 => by
    obtain ⟨m, b, rfl⟩ : ∃ m b, l = m ++ [b] := ⟨l.dropLast, l.getLast (by intro e; subst e; simp at h), (List.dropLast_concat_getLast _).symm⟩
    have hm : m.length = k := by simpa using h
    have hb := b.toNat_lt
    rcases Nat.eq_zero_or_pos k with rfl | hk
    · have : m = [] := List.length_eq_zero_iff.1 hm
      subst this
      have hb0 : b ≠ 0 := h0 b (by simp)
      have hp : 0 < b.toNat := by
        rcases Nat.eq_zero_or_pos b.toNat with e | e
        · exact absurd (UInt8.toNat_inj.1 (by simpa using e)) hb0
        · exact e
      simp only [valU, List.nil_append, List.foldl_cons, List.foldl_nil, Nat.zero_mul, Nat.zero_add]
      rw [digs_pos hp, show b.toNat / 256 = 0 by omega, digs_zero, show b.toNat % 256 = b.toNat by omega]; simp
    · have h0' : ∀ c, m[0]? = some c → c ≠ 0 := fun c hc => h0 c (by rw [List.getElem?_append_left (by omega)]; exact hc)
      have ih := digs_valU k m hm h0'
      have hpos : 0 < valU m := by
        rcases Nat.eq_zero_or_pos (valU m) with e | e
        · rw [e, digs_zero] at ih; subst ih; simp at hm; omega
        · exact e
      rw [valU_snoc, digs_pos (by omega), show (valU m * 256 + b.toNat) / 256 = valU m by omega, ih, show (valU m * 256 + b.toNat) % 256 = b.toNat by omega]; simp
end Go.Proofs.YtiplgpefapeapaaGreat

namespace Go.Proofs.YtiplgpefapeapaaGreat
open Go.RowKit

theorem infoB : (Tryz.prog.info? 5).map (fun i => (i.zero, i.size, i.bytes)) = some (some (.int .u8 0), 1, 1) := by kernel_rfl
/-- The slice `v` reads as the bytes `l`, and is the call's own: it lies in a block from `base` on, at its head. -/
def Buf (w : World) (base : Nat) (v : Value) (l : List UInt8) : Prop := w.ownsRow base 5 1 v l.length (bys l)
theorem Buf.slB {w : World} {base : Nat} {v : Value} {l : List UInt8} (h : Buf w base v l) : SlB w v l := Sl.of_owns h
theorem Buf.nil (w : World) (base : Nat) : Buf w base (.slice none 0 0) [] := World.ownsRow_nil _ _ _ _
theorem Buf.form {w : World} {base : Nat} {v : Value} {l : List UInt8} (h : Buf w base v l) : ∃ a cap, v = .slice a l.length cap := h.slB.form
theorem Buf.of {w : World} {base n : Nat} {v : Value} {l m : List UInt8} (h : w.ownsRow base 5 1 v n (bys l ++ bys m)) : Buf w base v (l ++ m) := by
  have h1 := h.1
  unfold Buf
  rw [bys_append]
  have : (l ++ m).length = n := by simpa using h1
  rw [this]
  exact h
theorem wpl_pushB {ops : Array Oper} {rest : List Oper} {o : Oper} {a : Act} {Q : Exit → Act → World → Prop} (w : World) (base : Nat) (v : Value) (l : List UInt8) (x : Int) (hg : o.guard = none) (s t : Operand)
    (ho : o.op = .call { callee := .builtin .append, args := #[s, t], argTypes := #[22, 22] }) (hs : a.eval s = v) (ht : a.eval t = .slice (some ⟨w.heap.size, 0, none⟩) 1 1)
    (h : Buf w base v l) (b : UInt8) (hb : x = (b.toNat : Int)) (hl : l.length ≤ 140737488355300) (hbase : base ≤ w.heap.size)
    (K : ∀ v' w', Buf w' base v' (l ++ [b]) → Grw w w' v v' → wpList Tryz.prog ops Q rest (a.put o.dst v') w') : wpList Tryz.prog ops Q (o :: rest) a (w.alloc (.cells #[.int .u8 x] 5)) := by
  obtain ⟨i0, hi, hz0, hz1, hz2⟩ := info_parts infoB
  subst hb
  refine wpl_append_x hg s t _ ho base 5 i0 (.int .u8 0) 1 1 Tryz.underlying22 hi hz0 hz1 hz2 rfl (by decide) v l.length (bys l) hs (h.alloc _) _ 1 (bys [b]) ht (SlB.one w b _) (bys_one _) (by unfold maxLen; omega) (by omega) (by simp; omega) ?_
  intro v' w' h1 h2 _
  exact K v' w' (Buf.of h1) h2.alloc_left

theorem shr_byte (n k : Nat) : (n : Int) / 2 ^ (8 * k) % 256 = ((UInt8.ofNat (n / 256 ^ k % 256)).toNat : Int) := by
  have e : (256 : Nat) ^ k = 2 ^ (8 * k) := by rw [Nat.pow_mul]
  rw [e]
  simp
  
set_option maxRecDepth 100000 in
set_option maxHeartbeats 1000000 in
theorem appU_c (w : World) (base : Nat) (v0 : Value) (l : List UInt8) (n : Nat) (h : Buf w base v0 l) (hn : n < 18446744073709551616) (hl : l.length ≤ 140737488355000) (hb : base ≤ w.heap.size) :
    Calls Tryz.prog 47 #[v0, .int .u64 n] w fun e w' => ∃ v', e = .returned v' ∧ Buf w' base v' (l ++ encU n) ∧ Grw w w' v0 v' := by
  obtain ⟨i0, hi, hz0, hz1, hz2⟩ := info_parts infoB
  obtain ⟨K, hK⟩ : ∃ K, K = (digs n).length := ⟨_, rfl⟩
  have hK8 : K ≤ 8 := by rw [hK]; exact digs_len8 hn
  replace hK := Lib.hid hK
  go_enter Tryz.func47, Tryz.ntmps47
  go_wp2
  go_loop [5, 6] (fun k r => ∃ (j : Nat) (x : Nat), j ≤ K ∧ x < 18446744073709551616 ∧ k = .int .i64 j ∧ r = .int .u64 x ∧ Hid (j + (digs x).length = K)) (fun _ r => (intOf r).toNat)
  case atStart => exact ⟨0, n, by omega, hn, rfl, rfl, by show _ = _; rw [hK.out]; simp⟩
  case round =>
    obtain ⟨j, x, hj, hx, rfl, rfl, hjx⟩ := hrel
    by_cases hp : 0 < x
    · have hd := digs_len_pos hp
      have hj2 : Hid (j + 1 + (digs (x / 256)).length = K) := by have := hjx.out; show _ = _; omega
      have hj3 : j + 1 ≤ K := by have := hj2.out; omega
      clear hd hjx
      go_wp2
      go_round
      case rel => exact ⟨j + 1, x / 256, hj3, by omega, by go_num, by go_num, hj2⟩
      case measure => simp [intOf]; omega
    · have hx0 : x = 0 := by omega
      have hjK : j = K := by have := hjx.out; rw [hx0, digs_zero] at this; simpa using this
      subst hjK
      have h0 := h
      obtain ⟨a0, c0, rfl⟩ := h.form
      replace h0 := Lib.hid h0
      clear h hjx hx0
      go_wp2_with (at_builtin; (refine wpl_pushB _ base _ l _ rfl _ _ rfl rfl rfl h0.out (UInt8.ofNat j) (by simp; omega) (by omega) hb ?_; intro v1 w1 hB1 hG1))
      go_loopw [0, 7] (fun v i wr => ∃ (m : Nat) (L : List UInt8), m ≤ j ∧ i = .int .i64 ((j : Int) - 1 - m) ∧ Hid (L = l ++ [UInt8.ofNat j] ++ (digs n).take m) ∧ Buf wr base v L ∧ Grw w wr (.slice a0 l.length c0) v) (fun _ i _ => (intOf i + 1).toNat)
      case atStart => exact ⟨0, _, by omega, by simp, by show _ = _; simp, hB1, hG1⟩
      case round =>
        obtain ⟨m, L, hm, rfl, hL, hB, hG⟩ := hrel
        obtain ⟨am, cm, rfl⟩ := hB.form
        clear hB1 hG1
        have hsz := hG.grown.size
        have hlen : L.length ≤ 140737488355300 := by
          rw [hL.out]; simp only [List.length_append, List.length_take, List.length_cons, List.length_nil]; omega
        replace hB := Lib.hid hB
        replace hG := Lib.hid hG
        by_cases hmj : m < j
        · have hdg := digs_get j n (j - 1 - m) hK.out.symm (by omega)
          have hdg2 : Hid ((digs n)[m]? = some (UInt8.ofNat (n / 256 ^ (j - 1 - m) % 256))) := by rw [show j - 1 - (j - 1 - m) = m by omega] at hdg; exact hdg
          clear hdg
          go_wp2_with (at_builtin; (refine wpl_pushB _ base _ _ _ rfl _ _ rfl rfl rfl hB.out (UInt8.ofNat (n / 256 ^ (j - 1 - m) % 256)) (shr_byte _ _) hlen (by omega) ?_; intro v2 w2 hB2 hG2))
          go_roundw
          case rel => exact ⟨m + 1, _, by omega, by go_num, by show _ = _; rw [hL.out, List.take_add_one, hdg2.out]; simp, hB2, hG.out.trans hG2⟩
          case measure => simp [intOf]; omega
        · have hmj : m = j := by omega
          have hfin : Hid (L = l ++ encU n) := by
            show _ = _
            rw [hL.out, hmj]; unfold encU; rw [← hK.out, List.take_of_length_le (by rw [← hK.out]; omega)]; simp
          clear hL
          go_wp2
          go_ret
          exact ⟨_, rfl, by rw [← hfin.out]; exact hB.out, hG.out⟩

/-- `append(v, v2...)` of bytes, `v` the call's own. -/
theorem wpl_appB {ops : Array Oper} {rest : List Oper} {o : Oper} {a : Act} {Q : Exit → Act → World → Prop} (w : World) (base : Nat) (v : Value) (l : List UInt8) (hg : o.guard = none) (s t : Operand)
    (ho : o.op = .call { callee := .builtin .append, args := #[s, t], argTypes := #[22, 22] }) (hs : a.eval s = v) (v2 : Value) (m : List UInt8) (ht : a.eval t = v2)
    (h : Buf w base v l) (h2 : SlB w v2 m) (hl : l.length + m.length ≤ 140737488355328) (hbase : base ≤ w.heap.size)
    (K : ∀ v' w', Buf w' base v' (l ++ m) → Grw w w' v v' → wpList Tryz.prog ops Q rest (a.put o.dst v') w') : wpList Tryz.prog ops Q (o :: rest) a w := by
  obtain ⟨i0, hi, hz0, hz1, hz2⟩ := info_parts infoB
  refine wpl_append_x hg s t _ ho base 5 i0 (.int .u8 0) 1 1 Tryz.underlying22 hi hz0 hz1 hz2 rfl (by decide) v l.length (bys l) hs h _ m.length (bys m) ht h2 (bys_one _) (by unfold maxLen; omega) (by omega) hbase ?_
  intro v' w' h1 h2 _
  exact K v' w' (Buf.of h1) h2
theorem Buf.fresh (w : World) : Buf (w.alloc (.cells #[] 5)) w.heap.size (.slice (some ⟨w.heap.size, 0, none⟩) 0 0) [] := ownsRow_empty w _ _ _ (Nat.le_refl _)
theorem Buf.one (w : World) (b : UInt8) {x : Int} (hx : x = (b.toNat : Int)) : Buf (w.alloc (.cells #[.int .u8 x] 5)) w.heap.size (.slice (some ⟨w.heap.size, 0, none⟩) 1 1) [b] := by
  subst hx
  exact ⟨rfl, .inr ⟨_, 1, _, rfl, Nat.le_refl _, heap_alloc_new _ _, Nat.le_refl _, by simp [maxLen], rfl, rfl⟩⟩
theorem Buf.keep {w w' : World} {base : Nat} {v : Value} {l : List UInt8} (h : Buf w base v l) (hk : Keeps [] w w') : Buf w' base v l := ownsRow_block h (fun b _ hb => hk.block b hb (by simp))
theorem SlB.cap {w : World} {v : Value} {l : List UInt8} (h : SlB w v l) : l.length ≤ maxLen := by obtain ⟨_, a, c, rfl, h1, h2, _⟩ := h; omega

set_option maxRecDepth 100000 in
set_option maxHeartbeats 1000000 in
theorem clone_c (w : World) (v0 : Value) (l : List UInt8) (h : SlB w v0 l) (hl : l.length ≤ 140737488355328) :
    Calls Tryz.prog 76 #[v0] w fun e w' => ∃ v', e = .returned v' ∧ Buf w' w.heap.size v' l ∧ Keeps [] w w' := by
  have q22 : ∀ (w : World) (a : Option Addr) (n c n' c' : Nat), (binOp .eql 22 (.slice a n c) (.slice none n' c')).run Tryz.prog w = .ok (.bool a.isNone) w := fun w a n c n' c' => Lib.run_eql_slice_nil w _ _ a n c n' c' Tryz.underlying22
  obtain ⟨a0, c0, rfl⟩ := h.form
  cases a0 with
  | none =>
    have hl0 : l = [] := by
      rcases h.cases with ⟨e, _⟩ | ⟨g, o, cap, e, _⟩
      · exact e
      · cases e
    subst hl0
    replace h := Lib.hid h
    all_goals
      go_enter Tryz.func76, Tryz.ntmps76
      go_wp2
      go_ret
      exact ⟨_, rfl, Buf.nil _ _, Keeps.refl _ _⟩
  | some ad =>
    replace h := Lib.hid h
    all_goals
      go_enter Tryz.func76, Tryz.ntmps76
      go_wp2_with (at_builtin; (refine wpl_appB _ w.heap.size (.slice (some ⟨w.heap.size, 0, none⟩) 0 0) [] rfl _ _ rfl rfl _ l rfl (Buf.fresh w) (h.out.keeps ((Keeps.refl [] w).alloc _)) (by simp; omega) (by simp) ?_; intro v1 w1 hB1 hG1))
      go_ret
      exact ⟨_, rfl, hB1, hG1.keeps ((Keeps.refl [] w).alloc _) (by simp [Value.ownBlock])⟩

/-- Bytes as a string. -/
def str (l : List UInt8) : ByteArray := ⟨l.toArray⟩
theorem run_str {w : World} {v : Value} {l : List UInt8} (h : SlB w v l) : (convert 22 9 v).run Tryz.prog w = .ok (.string (str l)) w := by
  rcases h.cases with ⟨rfl, a, c, rfl, _, _⟩ | ⟨g, o, c, rfl, _, _, _, _, hc⟩
  · cases a with
    | none => exact run_convert_bytes_nil w _ _ Tryz.underlying22 Tryz.underlying5 _ _ _ Tryz.underlying9
    | some a =>
      have := run_convert_bytes_arg (P := Tryz.prog) w 22 5 Tryz.underlying22 Tryz.underlying5 a.block a.off 0 c [] rfl (fun i hi => by omega) 9 Tryz.underlying9
      rw [run_convert_bytes_string w _ _ 5 _ _ _ Tryz.underlying22 Tryz.underlying5 Tryz.underlying9] at this ⊢
      simp [Conv.bytesToString, loadCells, loadCellsFrom] at this ⊢
      rfl
  · have := run_convert_bytes_arg (P := Tryz.prog) w 22 5 Tryz.underlying22 Tryz.underlying5 g o l.length c (l.map fun b => (b.toNat : Int)) (by simp) (fun i hi => by rw [hc i hi]; simp [hi]) 9 Tryz.underlying9
    rw [this]
    simp [strOfNums, str, Function.comp_def]
end Go.Proofs.YtiplgpefapeapaaGreat

namespace Go.Proofs.YtiplgpefapeapaaGreat
open Go.RowKit

theorem Buf.mono {w : World} {b b' : Nat} {v : Value} {l : List UInt8} (h : Buf w b v l) (hb : b' ≤ b) : Buf w b' v l := by
  refine ⟨h.1, ?_⟩
  rcases h.2 with hn | ⟨g, cap, cur, rfl, hg, rest⟩
  · exact .inl hn
  · exact .inr ⟨g, cap, cur, rfl, by omega, rest⟩
set_option maxRecDepth 100000 in
set_option maxHeartbeats 2000000 in
theorem refU_c (w : World) (v0 : Value) (l : List UInt8) (n : Nat) (h : SlB w v0 l) (hn : n < 18446744073709551616) (hl : l.length ≤ 140737488355000) :
    Calls Tryz.prog 56 #[v0, .int .u64 n] w fun e w' => ∃ v', e = .returned v' ∧ Buf w' w.heap.size v' (l ++ encU n) ∧ Keeps [] w w' := by
  obtain ⟨a0, c0, rfl⟩ := h.form
  replace h := Lib.hid h
  go_enter Tryz.func56, Tryz.ntmps56
  go_wp2_with fail
  go_loopw [1, 5] (fun n' d wr => ∃ (m : Nat) (L : List UInt8), m ≤ n ∧ n' = .int .u64 m ∧ Hid (digs n = digs m ++ L) ∧ Buf wr w.heap.size d L ∧ Keeps [] w wr) (fun n' _ _ => (intOf n').toNat)
  case atStart => exact ⟨n, [], by omega, rfl, by show _ = _; simp, Buf.fresh w, (Keeps.refl [] w).alloc _⟩
  case round =>
    obtain ⟨m, L, hm, rfl, hL, hB, hk⟩ := hrel
    obtain ⟨aL, cL, rfl⟩ := hB.form
    have hsz := hk.size
    have hLl : L.length ≤ 8 := by
      have h1 := congrArg List.length hL.out
      have h2 := digs_len8 (n := n) (by omega)
      simp at h1; omega
    replace hB := Lib.hid hB
    replace hk := Lib.hid hk
    by_cases hp : 0 < m
    · have hd : Hid (digs n = digs (m / 256) ++ (UInt8.ofNat (m % 256) :: L)) := by show _ = _; rw [hL.out, digs_pos hp]; simp
      clear hL
      go_wp2_with (at_builtin; (refine wpl_appB _ w.heap.size (.slice (some ⟨_, 0, none⟩) 1 1) [UInt8.ofNat (m % 256)] rfl _ _ rfl rfl _ L rfl ((Buf.one _ (UInt8.ofNat (m % 256)) (by simp)).mono (by omega)) (hB.out.slB.keeps ((Keeps.refl [] _).alloc _)) (by simp; omega) (by simp; omega) ?_; intro v2 w2 hB2 hG2))
      go_roundw
      case rel => exact ⟨m / 256, _, by omega, by go_num, hd, hB2, hG2.keeps (hk.out.alloc _) (by simp [Value.ownBlock]; omega)⟩
      case measure => simp [intOf]; omega
    · have hm0 : m = 0 := by omega
      have hdL : Hid (digs n = L) := by show _ = _; rw [hL.out, hm0, digs_zero]; simp
      clear hL hm
      subst hm0
      go_wp2_with (first
        | (at_builtin; (refine wpl_appB _ wr.heap.size (.slice (some ⟨wr.heap.size, 0, none⟩) 0 0) [] rfl (.tmp 17) (.tmp 18) rfl rfl _ l rfl (Buf.fresh wr) ((h.out.keeps hk.out).keeps ((Keeps.refl [] _).alloc _)) (by simp; omega) (by simp) ?_; intro v2 w2 hB2 hG2; have hkk2 := Lib.hid (hG2.keeps ((Keeps.refl [] wr).alloc _) (by simp [Value.ownBlock])); have hB2' := Lib.hid hB2; clear hB2 hG2))
        | (at_builtin; (refine wpl_pushB _ wr.heap.size v2 _ _ rfl (.tmp 19) (.tmp 23) rfl rfl rfl hB2'.out (UInt8.ofNat L.length) (by simp; omega) (by simp; omega) (by have := hkk2.out.size; omega) ?_; intro v3 w3 hB3 hG3; have hkk3 := Lib.hid (hG3.keeps hkk2.out (fun b hb => ownBlock_ge hB2'.out b hb)); have hB3' := Lib.hid hB3; clear hB3 hG3))
        | (at_builtin; (refine wpl_appB _ wr.heap.size v3 _ rfl (.tmp 24) (.tmp 25) rfl rfl _ L rfl hB3'.out (hB.out.slB.keeps hkk3.out) (by simp; omega) (by have := hkk3.out.size; omega) ?_; intro v4 w4 hB4 hG4; have hkk4 := Lib.hid (hG4.keeps hkk3.out (fun b hb => ownBlock_ge hB3'.out b hb)); have hB4' := Lib.hid hB4; clear hB4 hG4)))
      go_ret
      refine ⟨_, rfl, ?_, hk.out.trans hkk4.out⟩
      have := hB4'.out.mono hsz
      rw [← hdL.out] at this
      simpa [encU] using this
end Go.Proofs.YtiplgpefapeapaaGreat

namespace Go.Proofs.YtiplgpefapeapaaGreat
open Go.RowKit

def encB (b : Bool) : List UInt8 := [if b then 1 else 0]
set_option maxRecDepth 100000 in
set_option maxHeartbeats 1000000 in
theorem appB_c (w : World) (base : Nat) (v0 : Value) (l : List UInt8) (b : Bool) (h : Buf w base v0 l) (hl : l.length ≤ 140737488355000) (hb : base ≤ w.heap.size) :
    Calls Tryz.prog 48 #[v0, .bool b] w fun e w' => ∃ v', e = .returned v' ∧ Buf w' base v' (l ++ encB b) ∧ Grw w w' v0 v' := by
  obtain ⟨a0, c0, rfl⟩ := h.form
  replace h := Lib.hid h
  cases b
  · go_enter Tryz.func48, Tryz.ntmps48
    go_wp2_with (at_builtin; (refine wpl_pushB _ base _ l _ rfl _ _ rfl rfl rfl h.out (0 : UInt8) (by rfl) (by omega) hb ?_; intro v1 w1 hB1 hG1))
    go_ret
    exact ⟨_, rfl, hB1, hG1⟩
  · go_enter Tryz.func48, Tryz.ntmps48
    go_wp2_with (at_builtin; (refine wpl_pushB _ base _ l _ rfl _ _ rfl rfl rfl h.out (1 : UInt8) (by rfl) (by omega) hb ?_; intro v1 w1 hB1 hG1))
    go_ret
    exact ⟨_, rfl, hB1, hG1⟩
theorem Grw.ne {w w' : World} {v v' : Value} (g : Grw w w' v v') {X : Nat} (hv : v.ownBlock ≠ some X) (hX : X < w.heap.size) : v'.ownBlock ≠ some X := by
  rcases g.own with e | ⟨k, e, hk⟩
  · rw [e]; exact hv
  · rw [e]; intro h; cases h; omega
end Go.Proofs.YtiplgpefapeapaaGreat

namespace Go.Proofs.YtiplgpefapeapaaGreat
open Go.RowKit

set_option maxRecDepth 100000 in
set_option maxHeartbeats 2000000 in
theorem refB_c (w : World) (v0 : Value) (l : List UInt8) (b : Bool) (h : SlB w v0 l) (hl : l.length ≤ 140737488355000) :
    Calls Tryz.prog 57 #[v0, .bool b] w fun e w' => ∃ v', e = .returned v' ∧ SlB w' v' (l ++ encB b) ∧ Keeps [] w w' := by
  obtain ⟨a0, c0, rfl⟩ := h.form
  replace h := Lib.hid h
  cases b
  · go_enter Tryz.func57, Tryz.ntmps57
    go_wp2_with (first
      | (at_builtin; (refine wpl_appB _ w.heap.size (.slice (some ⟨w.heap.size, 0, none⟩) 0 0) [] rfl (.tmp 11) (.tmp 12) rfl rfl _ l rfl (Buf.fresh w) (h.out.keeps ((Keeps.refl [] w).alloc _)) (by simp; omega) (by simp) ?_; intro v2 w2 hB2 hG2; have hkk2 := Lib.hid (hG2.keeps ((Keeps.refl [] w).alloc _) (by simp [Value.ownBlock])); have hB2' := Lib.hid hB2; clear hB2 hG2))
      | (at_builtin; (refine wpl_pushB _ w.heap.size v2 _ _ rfl (.tmp 13) (.tmp 14) rfl rfl rfl hB2'.out (0 : UInt8) (by rfl) (by simp; omega) (by have := hkk2.out.size; omega) ?_; intro v3 w3 hB3 hG3; have hkk3 := Lib.hid (hG3.keeps hkk2.out (fun b hb => ownBlock_ge hB2'.out b hb)); have hB3' := Lib.hid hB3; clear hB3 hG3)))
    go_ret
    exact ⟨_, rfl, by have := hB3'.out.slB; simpa [encB] using this, hkk3.out⟩
  · go_enter Tryz.func57, Tryz.ntmps57
    go_wp2_with (first
      | (at_builtin; (refine wpl_appB _ w.heap.size (.slice (some ⟨w.heap.size, 0, none⟩) 0 0) [] rfl (.tmp 6) (.tmp 7) rfl rfl _ l rfl (Buf.fresh w) (h.out.keeps ((Keeps.refl [] w).alloc _)) (by simp; omega) (by simp) ?_; intro v2 w2 hB2 hG2; have hkk2 := Lib.hid (hG2.keeps ((Keeps.refl [] w).alloc _) (by simp [Value.ownBlock])); have hB2' := Lib.hid hB2; clear hB2 hG2))
      | (at_builtin; (refine wpl_pushB _ w.heap.size v2 _ _ rfl (.tmp 8) (.tmp 9) rfl rfl rfl hB2'.out (1 : UInt8) (by rfl) (by simp; omega) (by have := hkk2.out.size; omega) ?_; intro v3 w3 hB3 hG3; have hkk3 := Lib.hid (hG3.keeps hkk2.out (fun b hb => ownBlock_ge hB2'.out b hb)); have hB3' := Lib.hid hB3; clear hB3 hG3)))
    go_ret
    exact ⟨_, rfl, by have := hB3'.out.slB; simpa [encB] using this, hkk3.out⟩
end Go.Proofs.YtiplgpefapeapaaGreat

namespace Go.Proofs.YtiplgpefapeapaaGreat
open Go.RowKit Go.ChangeShapes

/-- The number that stands for an integer on the wire. -/
def zig (n : Int) : Nat := if 0 ≤ n then (2 * n).toNat else (-2 * n - 1).toNat
def encI (n : Int) : List UInt8 := encU (zig n)
theorem zig_lt {n : Int} (h : -9223372036854775808 ≤ n ∧ n ≤ 9223372036854775807) : zig n < 18446744073709551616 := by unfold zig; split <;> omega
theorem zig_pos {n : Int} (h0 : 0 ≤ n) : (zig n : Int) = 2 * n := by unfold zig; rw [if_pos h0]; omega
theorem zig_neg {n : Int} (h0 : n < 0) : (zig n : Int) = -2 * n - 1 := by unfold zig; rw [if_neg (by omega)]; omega
theorem xor_pos {n : Int} (h0 : 0 ≤ n) (hn : n ≤ 9223372036854775807) : bits .xor .u64 (n * 2) (n / 9223372036854775808) = zig n := by
  have e : n / 9223372036854775808 = ((0 : Nat) : Int) := by omega
  obtain ⟨k, rfl⟩ : ∃ k : Nat, n = k := ⟨n.toNat, by omega⟩
  rw [e, show ((k : Int) * 2) = ((k * 2 : Nat) : Int) by omega, bits_xor_u64_nat _ _ (by omega) (by omega), zig_pos h0]
  simp
  omega
theorem xor_neg {n : Int} (h0 : n < 0) (hn : -9223372036854775808 ≤ n) : bits .xor .u64 (IntKind.u64.wrap (IntKind.u64.wrap n * 2)) (IntKind.u64.wrap (n / 9223372036854775808)) = zig n := by
  have e : n / 9223372036854775808 = -1 := by omega
  have e1 : IntKind.u64.wrap (-1) = ((18446744073709551615 : Nat) : Int) := by decide
  have e2 : IntKind.u64.wrap n = n + 18446744073709551616 := by rw [IntKind.wrap_u64]; omega
  have e3 : IntKind.u64.wrap ((n + 18446744073709551616) * 2) = (((2 * n + 18446744073709551616).toNat : Nat) : Int) := by rw [IntKind.wrap_u64]; omega
  rw [e, e1, e2, e3, bits_xor_u64_nat _ _ (by omega) (by decide), zig_neg h0, Nat.xor_comm]
  have := Go.Lib.xor_ones64 (2 * n + 18446744073709551616).toNat (by omega)
  rw [show (18446744073709551615 : Nat) = 2 ^ 64 - 1 by decide, this]
  omega
set_option maxRecDepth 100000 in
set_option maxHeartbeats 2000000 in
theorem appI_c (w : World) (base : Nat) (v0 : Value) (l : List UInt8) (n : Int) (h : Buf w base v0 l) (hn : -9223372036854775808 ≤ n ∧ n ≤ 9223372036854775807) (hl : l.length ≤ 140737488355000) (hb : base ≤ w.heap.size) :
    Calls Tryz.prog 84 #[v0, .int .i64 n] w fun e w' => ∃ v', e = .returned v' ∧ Buf w' base v' (l ++ encI n) ∧ Grw w w' v0 v' := by
  have hc := appU_c w base v0 l (zig n) h (zig_lt hn) hl hb
  replace hc := Lib.hid hc
  by_cases h0 : 0 ≤ n
  · go_enter Tryz.func84, Tryz.ntmps84
    go_wp2_with fail
    rw [xor_pos h0 hn.2]
    refine hc.out.mono ?_
    rintro e w' ⟨v', rfl, hB, hG⟩
    go_wp2
    go_ret
    exact ⟨_, rfl, hB, hG⟩
  · replace h0 : n < 0 := by omega
    go_enter Tryz.func84, Tryz.ntmps84
    go_wp2_with fail
    rw [xor_neg h0 hn.1]
    refine hc.out.mono ?_
    rintro e w' ⟨v', rfl, hB, hG⟩
    go_wp2
    go_ret
    exact ⟨_, rfl, hB, hG⟩
set_option maxRecDepth 100000 in
set_option maxHeartbeats 2000000 in
theorem refInt_c (w : World) (v0 : Value) (l : List UInt8) (n : Int) (h : SlB w v0 l) (hn : -9223372036854775808 ≤ n ∧ n ≤ 9223372036854775807) (hl : l.length ≤ 140737488355000) :
    Calls Tryz.prog 55 #[v0, .int .i64 n] w fun e w' => ∃ v', e = .returned v' ∧ SlB w' v' (l ++ encI n) ∧ Keeps [] w w' := by
  have hc := refU_c w v0 l (zig n) h (zig_lt hn) hl
  replace hc := Lib.hid hc
  by_cases h0 : 0 ≤ n
  · go_enter Tryz.func55, Tryz.ntmps55
    go_wp2_with fail
    rw [← zig_pos h0]
    refine hc.out.mono ?_
    rintro e w' ⟨v', rfl, hB, hk⟩
    replace hB := Lib.hid hB.slB
    go_wp2
    go_ret
    exact ⟨_, rfl, hB.out, hk⟩
  · replace h0 : n < 0 := by omega
    go_enter Tryz.func55, Tryz.ntmps55
    go_wp2_with fail
    rw [show 2 * -(n + 1) + 1 = (zig n : Int) by rw [zig_neg h0]; omega]
    refine hc.out.mono ?_
    rintro e w' ⟨v', rfl, hB, hk⟩
    replace hB := Lib.hid hB.slB
    go_wp2
    go_ret
    exact ⟨_, rfl, hB.out, hk⟩
end Go.Proofs.YtiplgpefapeapaaGreat

namespace Go.Proofs.YtiplgpefapeapaaGreat
open Go.RowKit Go.ChangeShapes

abbrev tB : Nat := 5
theorem Buf.tagB {w : World} {base : Nat} {v : Value} {l : List UInt8} (h : Buf w base v l) {b : Nat} (hb : v.ownBlock = some b) : base ≤ b ∧ ∃ (cs : Array Value), w.heap[b]? = some (Obj.cells cs tB (0, 0)) := by
  rcases h.2 with ⟨rfl, _⟩ | ⟨g, cap, cur, rfl, h1, hg, _⟩
  · simp [Value.ownBlock] at hb
  · simp [Value.ownBlock] at hb; subst hb; exact ⟨h1, _, hg⟩
def flatI (L : List Int) : List UInt8 := (L.map encI).flatten
theorem encI_len {n : Int} (h : W64 n) : (encI n).length ≤ 9 := encU_len (zig_lt (w64_iff.1 h))
theorem flatI_len : ∀ {L : List Int}, (∀ z ∈ L, W64 z) → (flatI L).length ≤ 9 * L.length
  | [], _ => by simp [flatI]
  | z :: L, h => by
    have h1 := encI_len (h z (by simp))
    have h2 := flatI_len (L := L) (fun y hy => h y (by simp [hy]))
    simp only [flatI, List.map_cons, List.flatten_cons, List.length_append, List.length_cons] at h2 ⊢
    omega
theorem flatI_take (L : List Int) (k : Nat) (hk : k < L.length) : flatI (L.take (k + 1)) = flatI (L.take k) ++ encI L[k] := by
  unfold flatI
  rw [List.take_succ_eq_append_getElem hk, List.map_append, List.flatten_append]
  simp
end Go.Proofs.YtiplgpefapeapaaGreat

namespace Go.Proofs.YtiplgpefapeapaaGreat
open Go.RowKit

/-- What a number's encoding at the head of `l` gives: the number and the rest. -/
def readU : List UInt8 → Option (Nat × List UInt8)
  | [] => none
  | k :: t => if k.toNat ≤ 8 ∧ k.toNat ≤ t.length ∧ (0 < k.toNat → t.headD 1 ≠ 0) then some (valU (t.take k.toNat), t.drop k.toNat) else none
/-- Bytes kept, and the tags of blocks of bytes. -/
def KV (w w' : World) : Prop := KB w w' ∧ ∀ (b : Nat) (cs : Array Value), w.heap[b]? = some (Obj.cells cs tB (0, 0)) → ∃ cs' : Array Value, w'.heap[b]? = some (Obj.cells cs' tB (0, 0))
theorem KV.trans {a b c : World} (h : KV a b) (k : KV b c) : KV a c := ⟨h.1.trans k.1, fun x cs hx => by obtain ⟨cs', h'⟩ := h.2 x cs hx; exact k.2 x cs' h'⟩
theorem KV.drew (w : World) : KV w w.drew := ⟨KB.drew w, fun _ cs h => ⟨cs, h⟩⟩
theorem KV.setCell (w : World) {b o : Nat} {u : Value} (v : Value) (h : w.cell? ⟨b, o, none⟩ = some u) (hu : ∀ x, u ≠ .int .u8 x) : KV w (w.setCell ⟨b, o, none⟩ v) :=
  ⟨KB.setCell w v h hu, fun x cs hx => by
    by_cases e : x = b
    · subst e
      obtain ⟨hlt, hk⟩ := Array.getElem?_eq_some_iff.1 hx
      simp [World.setCell, Array.getElem?_modify, hx]
    · exact ⟨cs, by
        rw [← hx]
        simp [World.setCell, Array.getElem?_modify, Ne.symm e]⟩⟩
theorem Keeps.kv {S : List Nat} {w w' : World} (h : Keeps S w w') (hS : ∀ b ∈ S, ∀ o x, w.cell? ⟨b, o, none⟩ ≠ some (.int .u8 x)) (hT : ∀ b ∈ S, ∀ cs : Array Value, w.heap[b]? ≠ some (Obj.cells cs tB (0, 0))) : KV w w' :=
  ⟨h.kb hS, fun b cs hb => ⟨cs, (h.block b (Array.getElem?_eq_some_iff.1 hb).1 (fun hm => hT b hm cs hb)).trans hb⟩⟩
theorem Keeps.kv0 {w w' : World} (h : Keeps [] w w') : KV w w' := h.kv (by simp) (by simp)
/-- A slice of bytes that lies in a block of bytes. -/
structure SlV (w : World) (v : Value) (l : List UInt8) : Prop where
  b : SlB w v l
  t : ∀ g : Nat, v.ownBlock = some g → ∃ cs : Array Value, w.heap[g]? = some (Obj.cells cs tB (0, 0))
namespace SlV
variable {w w' : World} {v : Value} {l : List UInt8}
theorem form (h : SlV w v l) : ∃ a cap, v = .slice a l.length cap := h.b.form
theorem cap (h : SlV w v l) : l.length ≤ maxLen := h.b.cap
theorem cases (h : SlV w v l) :
    (l = [] ∧ ∃ a cap, v = .slice a 0 cap ∧ cap ≤ maxLen ∧ (a = none → cap = 0)) ∨
    ∃ g o cap, v = .slice (some ⟨g, o, none⟩) l.length cap ∧ l.length ≤ cap ∧ cap ≤ maxLen ∧ 0 < l.length ∧ g < w.heap.size ∧ ∀ k (hk : k < l.length), w.cell? ⟨g, o + k, none⟩ = some (.int .u8 (l[k].toNat : Int)) := h.b.cases
theorem kv (h : SlV w v l) (hk : KV w w') : SlV w' v l := ⟨h.b.kb hk.1, fun g hg => by obtain ⟨cs, hc⟩ := h.t g hg; exact hk.2 g cs hc⟩
theorem keeps (h : SlV w v l) (hk : Keeps [] w w') : SlV w' v l := h.kv hk.kv0
theorem kb (h : SlV w v l) (hk : KV w w') : SlV w' v l := h.kv hk
theorem nil (w : World) : SlV w (.slice none 0 0) [] := ⟨SlB.nil w, fun g hg => by cases hg⟩
theorem tail {g o n cap : Nat} (h : SlV w (.slice (some ⟨g, o, none⟩) n cap) l) (a : Nat) (ha : a ≤ l.length) :
    SlV w (.slice (if cap = a then some ⟨g, o, none⟩ else some ⟨g, o + a, none⟩) (l.length - a) (cap - a)) (l.drop a) :=
  ⟨h.b.tail a ha, fun x hx => h.t x (by split at hx <;> exact hx)⟩
end SlV
theorem Buf.slV {w : World} {base : Nat} {v : Value} {l : List UInt8} (h : Buf w base v l) : SlV w v l := ⟨h.slB, fun _ hg => (h.tagB hg).2⟩
/-- The reader at block `br`: what is left is the slice `v`, which reads as `l`; its error is `e`. -/
def Rd (w : World) (br : Nat) (v : Value) (l : List UInt8) (e : Int) : Prop := w.heap[br]? = some (.cells #[v, .int .i64 e] 126 (0, 0)) ∧ SlV w v l

theorem cell2_of {w : World} {b : Nat} {u v : Value} {t : TypeId} (h : w.heap[b]? = some (.cells #[u, v] t (0, 0))) : w.cell? ⟨b, 0, none⟩ = some u ∧ w.cell? ⟨b, 1, none⟩ = some v ∧ w.frozen? ⟨b, 0, none⟩ = false ∧ w.frozen? ⟨b, 1, none⟩ = false ∧ b < w.heap.size := by
  refine ⟨by simp [World.cell?, h], by simp [World.cell?, h], by simp [World.frozen?, h], by simp [World.frozen?, h], (Array.getElem?_eq_some_iff.1 h).1⟩

set_option maxRecDepth 100000 in
set_option maxHeartbeats 1000000 in
theorem newReader_c (w : World) (v0 : Value) (l : List UInt8) (h : SlB w v0 l) (hl : l.length ≤ 140737488355328) :
    Calls Tryz.prog 23 #[v0] w fun e w' => ∃ br v', e = .returned (.pointer (some ⟨br, 0, none⟩)) ∧ w.heap.size ≤ br ∧ Rd w' br v' l 0 ∧ Keeps [] w w' := by
  obtain ⟨a0, c0, rfl⟩ := h.form
  replace h := Lib.hid h
  go_enter Tryz.func23, Tryz.ntmps23
  go_wp2_with fail
  refine (clone_c _ _ l h.out hl).mono ?_
  rintro e w1 ⟨v1, rfl, hB1, hk1⟩
  obtain ⟨a1, c1, rfl⟩ := hB1.form
  have hsz := hk1.size
  replace hB1 := Lib.hid hB1
  replace hk1 := Lib.hid hk1
  go_wp2
  go_ret
  refine ⟨w1.heap.size, .slice a1 l.length c1, rfl, hsz, ⟨heap_alloc_new _ _, (hB1.out.keep ((Keeps.refl [] w1).alloc _)).slV⟩, hk1.out.alloc _⟩

/-- The error of a reader at the end. -/
def doneE (l : List UInt8) (e : Int) : Int := if e = 0 ∧ l ≠ [] then 11 else e
set_option maxRecDepth 100000 in
set_option maxHeartbeats 1000000 in
theorem done_c (w : World) (br : Nat) (v : Value) (l : List UInt8) (e : Int) (h : Rd w br v l e) :
    Calls Tryz.prog 36 #[.pointer (some ⟨br, 0, none⟩)] w fun en w' => en = .returned (.int .i64 (doneE l e)) ∧ w = w' := by
  obtain ⟨c0, c1, f0, f1, hlt⟩ := cell2_of h.1
  obtain ⟨a0, cap0, rfl⟩ := h.2.form
  clear h
  by_cases he : e = 0
  · subst he
    by_cases hl : l = []
    · subst hl
      go_enter Tryz.func36, Tryz.ntmps36
      go_wp2
      go_ret
      exact ⟨by simp [doneE], rfl⟩
    · have hp : 0 < l.length := List.length_pos_iff.2 hl
      replace hl := Lib.hid hl
      go_enter Tryz.func36, Tryz.ntmps36
      go_wp2
      go_ret
      exact ⟨by simp [doneE, hl.out], rfl⟩
  · have he2 : (e == 0) = false := by simp [he]
    replace he := Lib.hid he
    go_enter Tryz.func36, Tryz.ntmps36
    go_wp2
    go_ret
    exact ⟨by simp [doneE, he.out], rfl⟩

theorem cell1_of {w : World} {b : Nat} {u : Value} {t : TypeId} (h : w.heap[b]? = some (.cells #[u] t (0, 0))) : w.cell? ⟨b, 0, none⟩ = some u ∧ w.frozen? ⟨b, 0, none⟩ = false ∧ b < w.heap.size := by
  refine ⟨by simp [World.cell?, h], by simp [World.frozen?, h], (Array.getElem?_eq_some_iff.1 h).1⟩

end Go.Proofs.YtiplgpefapeapaaGreat

namespace Go.Proofs.YtiplgpefapeapaaGreat
open Go.RowKit

set_option maxRecDepth 100000 in
set_option maxHeartbeats 2000000 in
theorem uint1_bad (w : World) (br b1 b2 : Nat) (v : Value) (l : List UInt8) (h : Rd w br v l 0) (h1 : w.cell? ⟨b1, 0, none⟩ = some (.pointer (some ⟨br, 0, none⟩))) (hr : readU l = none) :
    Calls Tryz.prog 78 #[.pointer (some ⟨b1, 0, none⟩), .pointer (some ⟨b2, 0, none⟩)] w fun en w' => en = .returned (.int .i64 11) ∧ Keeps [] w w' := by
  obtain ⟨c0, c1, f0, f1, hlt⟩ := cell2_of h.1
  rcases h.2.cases with ⟨rfl, a, cp, rfl, _, _⟩ | ⟨g, o, cp, rfl, hn, hm, hp, hg, hc⟩
  · clear h hr
    go_enter Tryz.func78, Tryz.ntmps78
    go_wp2
    (refine wp_region_quiet_lit (by kernel_rfl) (by kernel_rfl) ?_; (repeat (first | go_big_quiet_step (fail) | quiet_step (fail))); with_reducible refine wpQuiet_nil ?_; intro _ hw'; obtain ⟨nq, hw''⟩ := hw'; subst hw'')
    go_wp2
    go_ret
    exact ⟨rfl, (Keeps.refl _ _).drewN _⟩
  · obtain ⟨k, t, rfl⟩ : ∃ k t, l = k :: t := by cases l with | nil => simp at hp | cons k t => exact ⟨k, t, rfl⟩
    have k0 := hc 0 (by simp)
    have k1 : 0 < t.length → w.cell? ⟨g, o + 1, none⟩ = some (.int .u8 ((t.headD 1).toNat : Int)) := fun ht => by
      have := hc 1 (by simp; omega)
      rw [this]; cases t with | nil => simp at ht | cons a b => rfl
    simp only [Nat.add_zero, List.getElem_cons_zero] at k0
    clear hc h hp
    have hcond : ¬ (k.toNat ≤ 8 ∧ k.toNat ≤ t.length ∧ (0 < k.toNat → t.headD 1 ≠ 0)) := fun hh => by
      rw [readU, if_pos hh] at hr; cases hr
    clear hr
    have hk := k.toNat_lt
    simp only [List.length_cons] at *
    generalize (t.headD 1) = t0 at *
    generalize k.toNat = kk at *
    generalize t.length = N at *
    have hNN : (N : Int) + 1 ≤ 9223372036854775807 := by unfold maxLen at hm; omega
    by_cases h8 : kk ≤ 8
    · have d8 : decide ((8 : Int) < (kk : Int)) = false := by simp; omega
      by_cases hN : kk ≤ N
      · have dN : decide ((N : Int) + 1 ≤ (kk : Int)) = false := by simp; omega
        have hk0 : 0 < kk := by
          rcases Nat.eq_zero_or_pos kk with e | e
          · exact absurd ⟨h8, hN, fun h => by omega⟩ hcond
          · exact e
        have dk : (0 : Int) < (kk : Int) := by omega
        have ht0 : t0 = 0 := by
          rcases Classical.em (t0 = 0) with e | e
          · exact e
          · exact absurd ⟨h8, hN, fun _ => e⟩ hcond
        subst ht0
        have k1' := k1 (by omega)
        simp at k1'
        clear hcond k1
        go_enter Tryz.func78, Tryz.ntmps78
        go_wp2
        (refine wp_region_quiet_lit (by kernel_rfl) (by kernel_rfl) ?_; (repeat (first | go_big_quiet_step (fail) | quiet_step (fail))); with_reducible refine wpQuiet_nil ?_; intro _ hw'; obtain ⟨nq, hw''⟩ := hw'; subst hw'')
        go_wp2
        go_ret
        exact ⟨rfl, (Keeps.refl _ _).drewN _⟩
      · have dN : (N : Int) + 1 ≤ (kk : Int) := by omega
        clear hcond k1
        go_enter Tryz.func78, Tryz.ntmps78
        go_wp2
        (refine wp_region_quiet_lit (by kernel_rfl) (by kernel_rfl) ?_; (repeat (first | go_big_quiet_step (fail) | quiet_step (fail))); with_reducible refine wpQuiet_nil ?_; intro _ hw'; obtain ⟨nq, hw''⟩ := hw'; subst hw'')
        go_wp2
        go_ret
        exact ⟨rfl, (Keeps.refl _ _).drewN _⟩
    · have d8 : (8 : Int) < (kk : Int) := by omega
      clear hcond k1
      go_enter Tryz.func78, Tryz.ntmps78
      go_wp2
      (refine wp_region_quiet_lit (by kernel_rfl) (by kernel_rfl) ?_; (repeat (first | go_big_quiet_step (fail) | quiet_step (fail))); with_reducible refine wpQuiet_nil ?_; intro _ hw'; obtain ⟨nq, hw''⟩ := hw'; subst hw'')
      go_wp2
      go_ret
      exact ⟨rfl, (Keeps.refl _ _).drewN _⟩

end Go.Proofs.YtiplgpefapeapaaGreat

namespace Go.Proofs.YtiplgpefapeapaaGreat
open Go.RowKit

theorem set2_0 {w : World} {b : Nat} {u v : Value} {t : TypeId} (h : w.heap[b]? = some (.cells #[u, v] t (0, 0))) (u' : Value) : (w.setCell ⟨b, 0, none⟩ u').heap[b]? = some (.cells #[u', v] t (0, 0)) := by
  obtain ⟨hlt, hk⟩ := Array.getElem?_eq_some_iff.1 h
  simp [World.setCell, Array.getElem?_modify, h]
theorem set2_1 {w : World} {b : Nat} {u v : Value} {t : TypeId} (h : w.heap[b]? = some (.cells #[u, v] t (0, 0))) (v' : Value) : (w.setCell ⟨b, 1, none⟩ v').heap[b]? = some (.cells #[u, v'] t (0, 0)) := by
  obtain ⟨hlt, hk⟩ := Array.getElem?_eq_some_iff.1 h
  simp [World.setCell, Array.getElem?_modify, h]
/-- One byte more, as the machine reckons it. -/
theorem or_byte (x y : Nat) (hx : (x : Int) < 72057594037927936) (hy : (y : Int) ≤ 255) : bits .or .u64 ((x : Int) * 256) (y : Int) = ((x * 256 + y : Nat) : Int) := by
  have h := u64_or_nat (x * 256) y (by omega) (by omega)
  have h2 : x * 256 + y = x * 256 ||| y := by
    have := Nat.shiftLeft_add_eq_or_of_lt (i := 8) (b := y) (by omega) x
    simpa [Nat.shiftLeft_eq] using this
  rw [h2, ← h]; simp

theorem rd_tail (w wr : World) (br b2 g o N cp : Nat) (k : UInt8) (t : List UInt8) (j : Nat) (h : Rd w br (.slice (some ⟨g, o, none⟩) (t.length + 1) cp) (k :: t) 0) (hk : Keeps [b2] w wr)
    (hb : wr.heap[b2]? = some (.cells #[.int .u64 (valU (t.take j))] 26 (0, 0))) (hb0 : w.heap[b2]? = some (.cells #[.int .u64 0] 26 (0, 0))) (hN : t.length = N) (hj : j ≤ N) (hbr : br ≠ b2) :
    (wr.setCell ⟨br, 0, none⟩ (.slice (if cp = 1 + j then some ⟨g, o, none⟩ else some ⟨g, o + (1 + j), none⟩) (N + 1 - (1 + j)) (cp - (1 + j)))).drew.heap[b2]? = some (.cells #[.int .u64 (valU (t.take j))] 26 (0, 0)) ∧
    (∃ v', Rd (wr.setCell ⟨br, 0, none⟩ (.slice (if cp = 1 + j then some ⟨g, o, none⟩ else some ⟨g, o + (1 + j), none⟩) (N + 1 - (1 + j)) (cp - (1 + j)))).drew br v' (t.drop j) 0) ∧
    Keeps [br, b2] w (wr.setCell ⟨br, 0, none⟩ (.slice (if cp = 1 + j then some ⟨g, o, none⟩ else some ⟨g, o + (1 + j), none⟩) (N + 1 - (1 + j)) (cp - (1 + j)))).drew := by
  subst hN
  obtain ⟨q0, _, _, _, hlt⟩ := cell2_of h.1
  have hbr' := (hk.block br hlt (by simp; omega)).trans h.1
  have htl := SlV.tail h.2 (1 + j) (by simp; omega)
  have hk2 : Keeps [br, b2] w wr := hk.mono (fun x hx => by simp at hx; simp [hx])
  have hkb : KV w wr := hk.kv (by intro b hb; simp at hb; subst hb; exact no_byte hb0 (by simp)) (by intro b hb cs hc; simp at hb; subst hb; rw [hb0] at hc; simp only [Option.some.injEq, Obj.cells.injEq] at hc; exact absurd hc.2.1 (by decide))
  refine ⟨?_, ⟨_, ⟨set2_0 hbr' _, ?_⟩⟩, (hk2.setCell (.inr (by simp)) _).drew⟩
  · exact (Below.heap_setCell _ _ _ _ (by simp; omega)).trans hb
  · simp only [List.length_cons, Nat.add_comm 1 j, List.drop_succ_cons] at htl ⊢
    exact htl.kv (hkb.trans ((KV.setCell wr _ (cell2_of hbr').1 (by simp)).trans (KV.drew _)))

set_option maxRecDepth 100000 in
set_option maxHeartbeats 2000000 in
theorem uint1_ok (w : World) (br b1 b2 : Nat) (v : Value) (l rest : List UInt8) (x : Nat) (h : Rd w br v l 0) (h1 : w.cell? ⟨b1, 0, none⟩ = some (.pointer (some ⟨br, 0, none⟩))) (h2 : w.heap[b2]? = some (.cells #[.int .u64 0] 26 (0, 0)))
    (hne : b1 ≠ b2 ∧ br ≠ b2) (hr : readU l = some (x, rest)) :
    Calls Tryz.prog 78 #[.pointer (some ⟨b1, 0, none⟩), .pointer (some ⟨b2, 0, none⟩)] w fun en w' => en = .returned (.int .i64 0) ∧ w'.heap[b2]? = some (.cells #[.int .u64 x] 26 (0, 0)) ∧ (∃ v', Rd w' br v' rest 0) ∧ Keeps [br, b2] w w' := by
  obtain ⟨c0, c1, f0, f1, hlt⟩ := cell2_of h.1
  obtain ⟨e0, fe0, hlt2⟩ := cell1_of h2
  rcases h.2.cases with ⟨rfl, a, cp, rfl, _, _⟩ | ⟨g, o, cp, rfl, hn, hm, hp, hg, hc⟩
  · cases hr
  · obtain ⟨k, t, rfl⟩ : ∃ k t, l = k :: t := by cases l with | nil => simp at hp | cons k t => exact ⟨k, t, rfl⟩
    have k0 := hc 0 (by simp)
    have hgb : g ≠ b2 := fun e => by subst e; exact no_byte h2 (by simp) _ _ k0
    have k1 : 0 < t.length → w.cell? ⟨g, o + 1, none⟩ = some (.int .u8 ((t.headD 1).toNat : Int)) := fun ht => by
      have := hc 1 (by simp; omega)
      rw [this]; cases t with | nil => simp at ht | cons a b => rfl
    have kj : ∀ j (hj : j < t.length), w.cell? ⟨g, o + 1 + j, none⟩ = some (.int .u8 (t[j].toNat : Int)) := fun j hj => by
      have := hc (j + 1) (by simp; omega)
      rw [show o + 1 + j = o + (j + 1) by omega, this]; rfl
    simp only [Nat.add_zero, List.getElem_cons_zero] at k0
    clear hc hp
    have hcond : k.toNat ≤ 8 ∧ k.toNat ≤ t.length ∧ (0 < k.toNat → t.headD 1 ≠ 0) := by
      rcases Classical.em (k.toNat ≤ 8 ∧ k.toNat ≤ t.length ∧ (0 < k.toNat → t.headD 1 ≠ 0)) with e | e
      · exact e
      · rw [readU, if_neg e] at hr; cases hr
    rw [readU, if_pos hcond] at hr
    simp only [Option.some.injEq, Prod.mk.injEq] at hr
    obtain ⟨h8, hN, ht0⟩ := hcond
    obtain ⟨hx, hrest⟩ := hr
    have hk : k.toNat ≤ 255 := by have := k.toNat_lt; omega
    have hh := Lib.hid h
    have hh2 := Lib.hid h2
    replace hx := Lib.hid hx
    replace hrest := Lib.hid hrest
    replace kj := Lib.hid kj
    clear h h2
    simp only [List.length_cons] at *
    obtain ⟨t0, htt0⟩ : ∃ t0, t.headD 1 = t0 := ⟨_, rfl⟩
    rw [htt0] at k1 ht0
    clear htt0
    obtain ⟨kk, hkk⟩ : ∃ kk, k.toNat = kk := ⟨_, rfl⟩
    rw [hkk] at k0 h8 hN ht0 hk hx hrest
    clear hkk
    obtain ⟨N, hNt⟩ : ∃ N, t.length = N := ⟨_, rfl⟩
    rw [hNt] at hN k1 hn c0
    replace hNt := Lib.hid hNt
    have hNN : (N : Int) + 1 ≤ 9223372036854775807 := by unfold maxLen at hm; omega
    have d8 : decide ((8 : Int) < (kk : Int)) = false := by simp; omega
    have nz : ((N : Int) + 1 == 0) = false := by simp; omega
    have wk : IntKind.i64.wrap (kk : Int) = kk := IntWalk.i64_in _ (by omega)
    have dN : decide ((N : Int) + 1 ≤ (kk : Int)) = false := by simp; omega
    have hfacts : (∃ _ : (0 : Int) < (kk : Int), 0 < kk ∧ w.cell? ⟨g, o + 1, none⟩ = some (.int .u8 (t0.toNat : Int)) ∧ ((t0.toNat : Int) == 0) = false) ∨ (decide ((0 : Int) < (kk : Int)) = false ∧ decide (0 < kk) = false) := by
      by_cases hk0 : 0 < kk
      · refine .inl ⟨by omega, hk0, k1 (by omega), ?_⟩
        have := ht0 hk0
        have h9 : t0.toNat ≠ 0 := fun e => this (UInt8.toNat_inj.1 (by simpa using e))
        simp; omega
      · exact .inr ⟨by simp; omega, by simp; omega⟩
    clear ht0 k1
    have hcp : 1 < cp ∨ (cp = 1 ∧ N = 0 ∧ kk = 0) := by omega
    rcases hcp with hcp | ⟨hcp1, hcp2, hcp3⟩
    · rcases hfacts with ⟨dk, hk0, k1', t0n⟩ | ⟨dk, dk2⟩
      all_goals
        go_enter Tryz.func78, Tryz.ntmps78
        go_wp2
        (refine wp_region_quiet_lit (by kernel_rfl) (by kernel_rfl) ?_; (repeat (first | go_big_quiet_step (fail) | quiet_step (fail))); with_reducible refine wpQuiet_nil ?_; intro _ hw'; obtain ⟨nq, hw''⟩ := hw'; subst hw'')
        go_wp2
        go_loopw [5, 69] (fun _ i wr => ∃ j : Nat, j ≤ kk ∧ i = .int .i64 j ∧ wr.heap[b2]? = some (.cells #[.int .u64 (valU (t.take j))] 26 (0, 0)) ∧ Keeps [b2] w wr) (fun _ i _ => kk - (intOf i).toNat)
        case atStart => exact ⟨0, by omega, rfl, hh2.out, (Keeps.refl _ w).drewN _⟩
        case round =>
          obtain ⟨j, hj, rfl, hb2, hkw⟩ := hrel
          obtain ⟨eb, fb, lb⟩ := cell1_of hb2
          have q0 := (hkw.cell br 0 hlt (by simp; omega)).trans c0
          have q1 := (hkw.frozen br 0 hlt (by simp; omega)).trans f0
          have q2 := (hkw.cell b1 0 (lt_of_cell h1) (by simp; omega)).trans h1
          have hvl := valU_lt j (t.take j) (by rw [List.length_take]; have := hNt.out; omega)
          by_cases hlt3 : j < kk
          · have hjt : j < t.length := by have := hNt.out; omega
            have hcj := (hkw.cell g (o + 1 + j) hg (by simp; omega)).trans (kj.out j hjt)
            have hb8 : (t[j].toNat : Int) ≤ 255 := by have := t[j].toNat_lt; omega
            have hstep : Hid (valU (t.take (j + 1)) = valU (t.take j) * 256 + t[j].toNat) := by show _ = _; rw [List.take_succ_eq_append_getElem hjt, valU_snoc]
            have hvb : (valU (t.take j) : Int) < 72057594037927936 := by
              have : (256 : Nat) ^ j ≤ 256 ^ 7 := Nat.pow_le_pow_right (by omega) (by omega)
              omega
            clear hvl
            generalize t[j].toNat = y at *
            generalize hvv : valU (t.take j) = vv at *
            replace hb2 := Lib.hid hb2
            replace hkw := Lib.hid hkw
            replace hvv := Lib.hid hvv
            go_wp2
            go_roundw
            case rel => exact ⟨j + 1, by omega, by go_num, by rw [or_byte _ _ hvb hb8, hstep.out]; exact one_setCell hb2.out, hkw.out.setCell (.inr (by simp)) _⟩
            case measure => simp [intOf]; omega
          · have hjk : j = kk := by omega
            subst hjk
            replace hb2 := Lib.hid hb2
            replace hkw := Lib.hid hkw
            clear hvl
            go_wp2
            go_region
            have hfin := rd_tail w wr br b2 g o N cp k t j hh.out hkw.out hb2.out hh2.out hNt.out hN (by omega)
            rw [hx.out, hrest.out] at hfin
            generalize hW : (wr.setCell ⟨br, 0, none⟩ (.slice (if cp = 1 + j then some ⟨g, o, none⟩ else some ⟨g, o + (1 + j), none⟩) (N + 1 - (1 + j)) (cp - (1 + j)))).drew = W at *
            replace hfin := Lib.hid hfin
            clear hW
            (repeat go_step)
            go_ret
            exact ⟨rfl, hfin.out⟩
    · clear hfacts
      subst hcp1 hcp2 hcp3
      have k0' : w.cell? ⟨g, o, none⟩ = some (.int .u8 0) := by simpa using k0
      simp only [Nat.zero_add] at c0
      have c0' : w.cell? ⟨br, 0, none⟩ = some (.slice (some ⟨g, o, none⟩) 1 1) := c0
      clear hk h8 k0 d8 dN wk c0 nz hm hn hN hNN
      go_enter Tryz.func78, Tryz.ntmps78
      go_wp2
      (refine wp_region_quiet_lit (by kernel_rfl) (by kernel_rfl) ?_; (repeat (first | go_big_quiet_step (fail) | quiet_step (fail))); with_reducible refine wpQuiet_nil ?_; intro _ hw'; obtain ⟨nq, hw''⟩ := hw'; subst hw'')
      go_wp2
      go_loopw [5, 69] (fun _ i wr => i = .int .i64 0 ∧ ∃ n, wr = w.drewN n) (fun _ i _ => 0)
      case atStart => exact ⟨rfl, _, rfl⟩
      case round =>
        obtain ⟨rfl, n, rfl⟩ := hrel
        have hkw : Keeps [b2] w (w.drewN n) := (Keeps.refl _ w).drewN n
        have hfin := rd_tail w (w.drewN n) br b2 g o 0 1 k t 0 hh.out hkw (by simpa [valU] using hh2.out) hh2.out hNt.out (by omega) hne.2
        rw [hx.out, hrest.out] at hfin
        simp only [Nat.add_zero, if_true, Nat.zero_add, Nat.sub_self] at hfin
        clear hkw
        replace hfin := Lib.hid hfin
        go_wp2
        go_region
        (repeat go_step)
        go_ret
        exact ⟨rfl, hfin.out⟩
end Go.Proofs.YtiplgpefapeapaaGreat

namespace Go.Proofs.YtiplgpefapeapaaGreat
open Go.RowKit

theorem Rd.keeps {w w' : World} {br : Nat} {v : Value} {l : List UInt8} {e : Int} (h : Rd w br v l e) (hk : Keeps [] w w') : Rd w' br v l e :=
  ⟨(hk.block br (cell2_of h.1).2.2.2.2 (by simp)).trans h.1, h.2.keeps hk⟩

theorem two_boxes (w : World) (p : Value) : ((w.alloc (.cells #[p] 57)).alloc (.cells #[.int .u64 0] 26)).heap[w.heap.size + 1]? = some (.cells #[.int .u64 0] 26 (0, 0)) := by
  have := heap_alloc_new (w.alloc (.cells #[p] 57)) (.cells #[.int .u64 0] 26)
  simpa using this
theorem rd_set_ok {w : World} {br : Nat} {v : Value} {l : List UInt8} {e : Int} (h : Rd w br v l e) (e' : Int) : Rd (w.setCell ⟨br, 1, none⟩ (.int .i64 e')) br v l e' :=
  ⟨set2_1 h.1 _, h.2.kv (KV.setCell w _ (cell2_of h.1).2.1 (by simp))⟩
theorem rd_set_bad {w : World} {br : Nat} {v : Value} {l : List UInt8} {e : Int} (h : Rd w br v l e) (e' : Int) : Rd ((w.setCell ⟨br, 1, none⟩ (.int .i64 e')).setCell ⟨br, 0, none⟩ (.slice none 0 0)) br (.slice none 0 0) [] e' :=
  ⟨set2_0 (set2_1 h.1 _) _, SlV.nil _⟩
set_option maxRecDepth 100000 in
set_option maxHeartbeats 2000000 in
theorem uint_ok (w : World) (br : Nat) (v : Value) (l rest : List UInt8) (x : Nat) (h : Rd w br v l 0) (hr : readU l = some (x, rest)) :
    Calls Tryz.prog 27 #[.pointer (some ⟨br, 0, none⟩)] w fun en w' => en = .returned (.int .u64 x) ∧ (∃ v', Rd w' br v' rest 0) ∧ Keeps [br] w w' := by
  obtain ⟨c0, c1, f0, f1, hlt⟩ := cell2_of h.1
  have hne : ¬ w.heap.size = br := by omega
  have hne2 : ¬ w.heap.size + 1 = br := by omega
  obtain ⟨a0, cp0, rfl⟩ := h.2.form
  have hkA : Keeps [] w ((w.alloc (.cells #[.pointer (some ⟨br, 0, none⟩)] 57)).alloc (.cells #[.int .u64 0] 26)) := ((Keeps.refl [] w).alloc _).alloc _
  have hc := uint1_ok _ br w.heap.size (w.heap.size + 1) _ l rest x (h.keeps hkA) (by simp) (two_boxes w _) ⟨by omega, by omega⟩ hr
  replace h := Lib.hid h
  replace hkA := Lib.hid hkA
  replace hc := Lib.hid hc
  replace hr := Lib.hid hr
  clear c0
  go_enter Tryz.func27, Tryz.ntmps27
  go_wp2_with (first
    | (go_at_call 78; refine hc.out.mono ?_; rintro e w3 ⟨rfl, hb2, ⟨v3, hR3⟩, hk3⟩; obtain ⟨d0, d1, g0, g1, hlt3⟩ := cell2_of hR3.1; obtain ⟨e0, _, hlt4⟩ := cell1_of hb2; have hk4 := Lib.hid hk3; have hR4 := Lib.hid hR3; clear hk3 hR3 hb2)
    | go_in)
  go_ret
  exact ⟨rfl, ⟨v3, rd_set_ok hR4.out 0⟩, (hkA.out.of_nil.trans' hk4.out (by simp)).setCell (.inr (by simp)) _⟩

set_option maxRecDepth 100000 in
set_option maxHeartbeats 2000000 in
theorem uint_bad (w : World) (br : Nat) (v : Value) (l : List UInt8) (h : Rd w br v l 0) (hr : readU l = none) :
    Calls Tryz.prog 27 #[.pointer (some ⟨br, 0, none⟩)] w fun en w' => en = .returned (.int .u64 0) ∧ Rd w' br (.slice none 0 0) [] 11 ∧ Keeps [br] w w' := by
  obtain ⟨c0, c1, f0, f1, hlt⟩ := cell2_of h.1
  have hne : ¬ w.heap.size = br := by omega
  have hne2 : ¬ w.heap.size + 1 = br := by omega
  obtain ⟨a0, cp0, rfl⟩ := h.2.form
  have hkA : Keeps [] w ((w.alloc (.cells #[.pointer (some ⟨br, 0, none⟩)] 57)).alloc (.cells #[.int .u64 0] 26)) := ((Keeps.refl [] w).alloc _).alloc _
  have hc := uint1_bad _ br w.heap.size (w.heap.size + 1) _ l (h.keeps hkA) (by simp) hr
  have h2 := two_boxes w (.pointer (some ⟨br, 0, none⟩))
  replace h2 := Lib.hid h2
  replace h := Lib.hid h
  replace hkA := Lib.hid hkA
  replace hc := Lib.hid hc
  replace hr := Lib.hid hr
  clear c0
  go_enter Tryz.func27, Tryz.ntmps27
  go_wp2_with (first
    | (go_at_call 78; refine hc.out.mono ?_; rintro e w3 ⟨rfl, hk3⟩; have hR3 := (h.out.keeps hkA.out).keeps hk3; obtain ⟨d0, d1, g0, g1, hlt3⟩ := cell2_of hR3.1; have hk4 := Lib.hid hk3; have hR4 := Lib.hid hR3; have h22 := Lib.hid ((hk3.block _ (by simp) (by simp)).trans h2.out); obtain ⟨e0, _, hlt4⟩ := cell1_of h22.out; clear hk3 hR3)
    | go_in)
  go_ret
  exact ⟨rfl, rd_set_bad hR4.out 11, (((hkA.out.trans hk4.out).of_nil).setCell (.inr (by simp)) _).setCell (.inr (by simp)) _⟩

/-- Both in one: what a number's reading gives and leaves. -/
def rdU (l : List UInt8) : Nat × List UInt8 × Int := match readU l with | some (x, r) => (x, r, 0) | none => (0, [], 11)
theorem uint_c (w : World) (br : Nat) (v : Value) (l : List UInt8) (h : Rd w br v l 0) :
    Calls Tryz.prog 27 #[.pointer (some ⟨br, 0, none⟩)] w fun en w' => en = .returned (.int .u64 (rdU l).1) ∧ (∃ v', Rd w' br v' (rdU l).2.1 (rdU l).2.2) ∧ Keeps [br] w w' := by
  cases hr : readU l with
  | none =>
    have e : rdU l = (0, [], 11) := by simp [rdU, hr]
    rw [e]
    exact (uint_bad w br v l h hr).mono fun _ _ ⟨h1, h2, h3⟩ => ⟨h1, ⟨_, h2⟩, h3⟩
  | some p =>
    obtain ⟨x, r⟩ := p
    have e : rdU l = (x, r, 0) := by simp [rdU, hr]
    rw [e]
    exact uint_ok w br v l r x h hr
end Go.Proofs.YtiplgpefapeapaaGreat
