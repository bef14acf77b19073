/- Texts that the laws lean on, in the order in which they build. A certificate among a law's arguments, opened. Package certificate: increasing, at answers and at claims. Comparisons of lists: SameInset, SameLines, refmeshref08.Same. (Printed by mklsc.py.) Package certificate: increasing at claims, short. Package certificate: formed. The keys of package certificate: stubs, scions, numbers. (Printed by mkctt.py.) The claims that follow from answers, as certificate.claims gathers them (plain). Package certificate: found, answers. Package certificate: answers. Claims in boxes of their own, each with its lists of needs. DERIVED: THE SHELF's CONTRACTS AT THIS DUMP, IN PLAIN WORDS (tools/lay-plain.mjs out of 'YtiplgpefapeapaaGreatDoorIterSrc36.lean', which tools/lay-shelf.mjs wrote): THE SAME DECLARATIONS UNDER THE SAME NAMES: 'import', 'namespace', 'open', 'def', 'theorem' AND NOTHING ELSE: no command of the shelf's: FOR A HAND-IN. Each laying: the table of numbers ('.._ren') and one theorem, a field a fact of the dump's own or the kernel's comparison; each contract: ONE APPLICATION. -/
import Derived.Test.YtiplgpefapeapaaGreatDoorL4
import Derived.Test.YtiplgpefapeapaaGreatDoorProg
import Derived.Shelf.SlIterI.Sorted
import Derived.Shelf.SlIterI.Collect
import Derived.Shelf.SlIterI.Keys
import Derived.Shelf.SortM.Plain
import Derived.Shelf.SortM.SortNone
import Derived.Ground.GgzProg
import Derived.Ground.SlgmProg
set_option linter.unusedVariables false
set_option linter.unusedSimpArgs false
namespace Go.Proofs.YtiplgpefapeapaaGreatDoor
open Go.ChangeShapes Go.WideShapes Go.ChangeAt Go.RowKit

/-- The elements' cells, and what they say, parted. -/
theorem SlR.split {α β : Type} {w : World} {v : Value} {L : List α} (s : Sh β) {Rel : World → List Value → α → Prop} {Q : β → α → Prop} (hR : ∀ cs y, Rel w cs y → ∃ x, cs = s.cf x ∧ Q x y) (h : Gen.SlR Rel s.sz w v L) :
    ∃ X, s.R w v X ∧ X.length = L.length ∧ ∀ (k : Nat) (x : β) (y : α), X[k]? = some x → L[k]? = some y → Q x y := by
  obtain ⟨cs, h1, h2⟩ := h
  by_cases hl : L.length = 0
  · have : L = [] := List.eq_nil_of_length_eq_zero hl
    subst this
    exact ⟨[], Sh.R.of_slR (Rel := fun _ cs x => cs = s.cf x) (fun _ _ h => h) ⟨cs, h1, fun k hk => by simp at hk⟩, rfl, fun k x y h => by simp at h⟩
  haveI : Inhabited β := ⟨(hR _ _ (h2 0 (by omega))).choose⟩
  obtain ⟨f, hf⟩ := Go.Deep.choose_lt (α := β) (n := L.length) (p := fun k x => ∀ (hk : k < L.length), (cs.drop (k * s.sz)).take s.sz = s.cf x ∧ Q x L[k]) (fun k hk => by
    obtain ⟨x, e1, e2⟩ := hR _ _ (h2 k hk)
    exact ⟨x, fun _ => ⟨e1, e2⟩⟩)
  refine ⟨(List.range L.length).map f, Sh.R.of_slR (Rel := fun _ cs x => cs = s.cf x) (fun _ _ h => h) ⟨cs, by simpa using h1, fun k hk => ?_⟩, by simp, fun k x y hx hy => ?_⟩
  · simp at hk
    simpa using (hf k hk hk).1
  · obtain ⟨hk, rfl⟩ := List.getElem?_eq_some_iff.1 hy
    obtain ⟨hk2, rfl⟩ := List.getElem?_eq_some_iff.1 hx
    simpa using (hf k hk hk).2
/-- Numbers that fit. -/
def T3.Fit (x : T3) : Prop := W64 x.1 ∧ x.2.1 < 18446744073709551616 ∧ W64 x.2.2
structure PCl.Fit (p : PCl) : Prop where
  m : W64 p.m
  ep : W64 p.ep
  st : ∀ x ∈ p.st, T3.Fit x
  sc : ∀ x ∈ p.sc, T3.Fit x
  ch : ∀ x ∈ p.ch, T3.Fit x
structure Ct.Fit (c : Ct) : Prop where
  im : W64 c.im
  is : W64 c.is
  st : T3.Fit c.st
  an : ∀ a ∈ c.an, a.Fit
  cl : ∀ p ∈ c.cl, p.Fit
/-- The cells of a certificate say this certificate. -/
structure CtW (w : World) (x : CtV) (c : Ct) : Prop where
  im : x.im = c.im
  is : x.is = c.is
  s0 : x.s0 = c.st.1
  s1 : x.s1 = c.st.2.1
  s2 : x.s2 = c.st.2.2
  an : RdA w (slv x.va) c.an
  cl : LC w (slv x.vc) c.cl
theorem CtW.keeps {w w' : World} {x : CtV} {c : Ct} (h : CtW w x c) (hk : Keeps [] w w') : CtW w' x c := ⟨h.im, h.is, h.s0, h.s1, h.s2, h.an.keeps hk, h.cl.keeps hk⟩
set_option maxRecDepth 100000 in
set_option maxHeartbeats 1000000 in
theorem cs_needs {w : World} {v : Value} (h : Gen.Cs Tryz.prog w 44 [v]) : ∃ L : List T3, shT.R w v L ∧ ∀ x ∈ L, T3.Fit x := by
  obtain ⟨L, hL, _⟩ := Gen.SlR.open (R := fun _ cs (x : T3) => cs = shT.cf x ∧ T3.Fit x) Tryz.underlying44 (show Tryz.prog.cellsOf tN = 3 by kernel_rfl) (by decide) (fun cs hcs => by
    obtain ⟨x, h1, h2⟩ := cs_need hcs
    exact ⟨x, h1, h2⟩) h
  refine ⟨L, Sh.R.of_slR (s := shT) (fun cs x h => h.1) hL, fun x hx => ?_⟩
  obtain ⟨k, hk, rfl⟩ := List.mem_iff_getElem.1 hx
  obtain ⟨cs, _, h2⟩ := hL
  exact (h2 k hk).2
/-- The cells of a claim. -/
def ClC (w : World) (cs : List Value) (p : PCl) : Prop := ∃ x : ClV, cs = x.cs ∧ CR w x p ∧ p.Fit
set_option maxRecDepth 100000 in
set_option maxHeartbeats 1000000 in
theorem cs_claim {w : World} {cs : List Value} (h : Gen.Cs Tryz.prog w tC cs) : ∃ p, ClC w cs p := by
  obtain ⟨hl, hall⟩ := Gen.Cs.struct Tryz.underlying46 h
  rw [show Tryz.prog.cellsOf tC = 5 by kernel_rfl] at hl
  obtain ⟨a, b, c, d, e, rfl⟩ : ∃ a b c d e, cs = [a, b, c, d, e] := by
    match cs, hl with
    | [a, b, c, d, e], _ => exact ⟨a, b, c, d, e, rfl⟩
  have h0 := hall 0 _ rfl
  have h1 := hall 1 _ rfl
  have h2 := hall 2 _ rfl
  have h3 := hall 3 _ rfl
  have h4 := hall 4 _ rfl
  replace h0 : Gen.Cs Tryz.prog w 3 (([a, b, c, d, e].drop 0).take (Tryz.prog.cellsOf 3)) := h0
  replace h1 : Gen.Cs Tryz.prog w 3 (([a, b, c, d, e].drop 1).take (Tryz.prog.cellsOf 3)) := h1
  replace h2 : Gen.Cs Tryz.prog w 44 (([a, b, c, d, e].drop 2).take (Tryz.prog.cellsOf 44)) := h2
  replace h3 : Gen.Cs Tryz.prog w 44 (([a, b, c, d, e].drop 3).take (Tryz.prog.cellsOf 44)) := h3
  replace h4 : Gen.Cs Tryz.prog w 44 (([a, b, c, d, e].drop 4).take (Tryz.prog.cellsOf 44)) := h4
  rw [show Tryz.prog.cellsOf 3 = 1 by kernel_rfl] at h0 h1
  rw [show Tryz.prog.cellsOf 44 = 1 by kernel_rfl] at h2 h3 h4
  obtain ⟨z0, e0, w0⟩ := Gen.Cs.int Tryz.underlying3 h0
  obtain ⟨z1, e1, w1⟩ := Gen.Cs.int Tryz.underlying3 h1
  simp at e0 e1 h2 h3 h4
  subst e0 e1
  obtain ⟨L2, g2, f2⟩ := cs_needs h2
  obtain ⟨L3, g3, f3⟩ := cs_needs h3
  obtain ⟨L4, g4, f4⟩ := cs_needs h4
  obtain ⟨x2, k2, rfl, _⟩ := g2.form
  obtain ⟨x3, k3, rfl, _⟩ := g3.form
  obtain ⟨x4, k4, rfl, _⟩ := g4.form
  exact ⟨⟨z0, z1, L2, L3, L4⟩, ⟨z0, z1, (x2, L2.length, k2), (x3, L3.length, k3), (x4, L4.length, k4)⟩, rfl, ⟨rfl, rfl, g2, g3, g4⟩, ⟨w64_wf w0, w64_wf w1, f2, f3, f4⟩⟩
set_option maxRecDepth 100000 in
set_option maxHeartbeats 1000000 in
theorem cs_claims {w : World} {v : Value} (h : Gen.Cs Tryz.prog w 28 [v]) : ∃ P : List PCl, LC w v P ∧ ∀ p ∈ P, p.Fit := by
  obtain ⟨L, hL, _⟩ := Gen.SlR.open (R := ClC) Tryz.underlying28 (show Tryz.prog.cellsOf tC = 5 by kernel_rfl) (by decide) (fun cs hcs => cs_claim hcs) h
  refine ⟨L, ?_, fun p hp => ?_⟩
  · obtain ⟨X, h1, h2, h3⟩ := SlR.split shC (Q := fun x p => CR w x p) (fun cs y ⟨x, e1, e2, _⟩ => ⟨x, e1, e2⟩) hL
    exact ⟨X, h1, h2, h3⟩
  · obtain ⟨k, hk, rfl⟩ := List.mem_iff_getElem.1 hp
    obtain ⟨cs, _, h2⟩ := hL
    obtain ⟨x, _, _, h3⟩ := h2 k hk
    exact h3
set_option maxRecDepth 100000 in
set_option maxHeartbeats 1000000 in
theorem cs_answers {w : World} {v : Value} (h : Gen.Cs Tryz.prog w 27 [v]) : ∃ Y : List Ans, RdA w v Y ∧ ∀ a ∈ Y, a.Fit := by
  obtain ⟨L, hL, _⟩ := Gen.SlR.open (R := AnC) Tryz.underlying27 (show Tryz.prog.cellsOf tA = 8 by kernel_rfl) (by decide) (fun cs hcs => cs_ans hcs) h
  refine ⟨L, ?_, fun p hp => ?_⟩
  · obtain ⟨X, h1, h2, h3⟩ := SlR.split shA (Q := fun x p => InR w x p) (fun cs y ⟨x, e1, e2, _⟩ => ⟨x, e1, e2⟩) hL
    exact ⟨X, h1, h2, h3⟩
  · obtain ⟨k, hk, rfl⟩ := List.mem_iff_getElem.1 hp
    obtain ⟨cs, _, h2⟩ := hL
    obtain ⟨x, _, _, h3⟩ := h2 k hk
    exact h3
set_option maxRecDepth 100000 in
set_option maxHeartbeats 1000000 in
theorem open_cert {H : Type} {enc : TypeId × Value → H} {W : World} {base : Nat} {r : Reach} {v : Value} {d : DataW H} {ps : List MemPlace} (hv : Value.okWide Tryz.prog W r base tCt v)
    (h : DataW.Trod enc Tryz.prog W 0 (fun _ => true) true tCt v d ps) : ∃ (x : CtV) (c : Ct), v = ctV x ∧ CtW W x c ∧ c.Fit := by
  have hc := Gen.Cs.of_agg h
  obtain ⟨cs, rfl, _⟩ := okWide_struct Tryz.underlying30 hv
  obtain ⟨hl, hall⟩ := Gen.Cs.struct Tryz.underlying30 hc
  rw [show Tryz.prog.cellsOf tCt = 7 by kernel_rfl] at hl
  replace hl : cs.toList.length = 7 := hl
  obtain ⟨l, hcs⟩ : ∃ l, cs.toList = l := ⟨_, rfl⟩
  rw [hcs] at hl
  have h0 := hall 0 _ rfl
  have h1 := hall 1 _ rfl
  have h2 := hall 2 _ rfl
  have h3 := hall 3 _ rfl
  replace h0 : Gen.Cs Tryz.prog W 23 ((cs.toList.drop 0).take (Tryz.prog.cellsOf 23)) := h0
  replace h1 : Gen.Cs Tryz.prog W tN ((cs.toList.drop 2).take (Tryz.prog.cellsOf tN)) := h1
  replace h2 : Gen.Cs Tryz.prog W 27 ((cs.toList.drop 5).take (Tryz.prog.cellsOf 27)) := h2
  replace h3 : Gen.Cs Tryz.prog W 28 ((cs.toList.drop 6).take (Tryz.prog.cellsOf 28)) := h3
  rw [hcs] at h0 h1 h2 h3
  rw [show Tryz.prog.cellsOf 23 = 2 by kernel_rfl] at h0
  rw [show Tryz.prog.cellsOf tN = 3 by kernel_rfl] at h1
  rw [show Tryz.prog.cellsOf 27 = 1 by kernel_rfl] at h2
  rw [show Tryz.prog.cellsOf 28 = 1 by kernel_rfl] at h3
  obtain ⟨a, b, c, d, e, f, g, rfl⟩ : ∃ a b c d e f g, l = [a, b, c, d, e, f, g] := by
    match l, hl with
    | [a, b, c, d, e, f, g], _ => exact ⟨a, b, c, d, e, f, g, rfl⟩
  obtain ⟨i0, i1, e0, w0, w1⟩ := cs_tid h0
  obtain ⟨s, e1, w2⟩ := cs_need h1
  simp at e0 h2 h3
  obtain ⟨rfl, rfl⟩ := e0
  have e2 : c = .int .i64 s.1 ∧ d = .int .u64 s.2.1 ∧ e = .int .i64 s.2.2 := by simpa [shT] using e1
  obtain ⟨rfl, rfl, rfl⟩ := e2
  obtain ⟨Y, g2, f2⟩ := cs_answers h2
  obtain ⟨P, g3, f3⟩ := cs_claims h3
  obtain ⟨x2, k2, rfl, _⟩ := g2.form
  obtain ⟨x3, k3, rfl, _⟩ := g3.form
  refine ⟨⟨i0, i1, s.1, s.2.1, s.2.2, (x2, Y.length, k2), (x3, P.length, k3)⟩, ⟨i0, i1, s, Y, P⟩, ?_, ⟨rfl, rfl, rfl, rfl, rfl, g2, g3⟩, ⟨w0, w1, w2, f2, f3⟩⟩
  rw [← Array.toArray_toList (xs := cs), hcs]
  rfl
end Go.Proofs.YtiplgpefapeapaaGreatDoor

namespace Go.Proofs.YtiplgpefapeapaaGreatDoor
open Go.RowKit

abbrev fnV (f : Nat) : Value := .func (.func f) #[] #[]
theorem cfA_lt (x y : AnV) : cfA x y < 0 ↔ qlt x.q y.q := by
  have := ltA_iff x y
  unfold ltOf at this
  exact decide_eq_decide.1 this
set_option maxRecDepth 100000 in
set_option maxHeartbeats 4000000 in
theorem incA_c (w : World) (v : Value) (Y : List Ans) (h : RdA w v Y) :
    Calls Tryz.prog 47 #[v, fnV 48] w fun e w' => e = .returned (.bool (incA Y)) ∧ Keeps [] w w' := by
  obtain ⟨a, c, rfl, hlc, hcm⟩ := h.form
  obtain ⟨M, hM⟩ : ∃ N, Y.length = N := ⟨_, rfl⟩
  rw [hM] at hlc ⊢
  have hMm : M ≤ 9223372036854775807 := by unfold maxLen at hcm; omega
  obtain ⟨r, hr⟩ : ∃ r, incA Y = r := ⟨_, rfl⟩
  rw [hr]
  replace h := Lib.hid h
  replace hM := Lib.hid hM
  replace hr := Lib.hid hr
  go_enter Tryz.func47, Tryz.ntmps47
  go_wp2
  go_loopw [5] (fun i wr => ∃ k : Nat, i = .int .i64 k ∧ 1 ≤ k ∧ (k ≤ M ∨ k = 1) ∧ Hid (∀ j (hj : j + 1 < Y.length), j + 1 < k → qlt (Y[j]'(by omega)).q Y[j + 1].q) ∧ Hid (Keeps [] w wr)) (fun i _ => M + 1 - (intOf i).toNat)
  case atStart => exact ⟨1, rfl, by omega, .inr rfl, Lib.hid (fun _ _ h => by omega), Lib.hid (Keeps.refl _ _)⟩
  case round =>
    obtain ⟨k, rfl, hk1, hkM, hno, hkw⟩ := hrel
    by_cases hlt : k < M
    · have hlt2 : (k : Int) < M := by omega
      have hkl : k < Y.length := by rw [hM.out]; exact hlt
      obtain ⟨m, hm⟩ : ∃ m, k = m + 1 := ⟨k - 1, by omega⟩
      have hml : m < Y.length := by omega
      have hmM : (m : Int) < M := by omega
      have hwm : IntKind.i64.wrap ((k : Int) - 1) = m := by rw [IntWalk.i64_in _ (by omega)]; omega
      have hkd := hkw.out.drew
      obtain ⟨g, o, c', x, hv, hx, he⟩ := (h.out.keeps hkd).elem hkl
      obtain ⟨g2, o2, c2, y, hv2, hy, he2⟩ := (h.out.keeps hkd).elem hml
      rw [hM.out] at hv hv2
      cases hv
      cases hv2
      have hqx : x.q = Y[k].q := by unfold AnV.q Ans.q; rw [hx.m, hx.ow, hx.n]
      have hqy : y.q = Y[m].q := by unfold AnV.q Ans.q; rw [hy.m, hy.ow, hy.n]
      obtain ⟨C, hC⟩ : ∃ C, cfA y x = C := ⟨_, rfl⟩
      have hcl : C < 0 ↔ qlt Y[m].q Y[k].q := by rw [← hC, cfA_lt, hqx, hqy]
      have hcc := fun W => cmpB_c y x W
      rw [hC] at hcc
      obtain ⟨x0, x1, x2, x3, x4, x5, x6, x7, x8, x9⟩ := x
      obtain ⟨y0, y1, y2, y3, y4, y5, y6, y7, y8, y9⟩ := y
      simp only [aV, AnV.v] at hcc
      have e0 := he 0 _ rfl
      have e1 := he 1 _ rfl
      have e2 := he 2 _ rfl
      have e3 := he 3 _ rfl
      have e4 := he 4 _ rfl
      have e5 := he 5 _ rfl
      have e6 := he 6 _ rfl
      have e7 := he 7 _ rfl
      have f0 := he2 0 _ rfl
      have f1 := he2 1 _ rfl
      have f2 := he2 2 _ rfl
      have f3 := he2 3 _ rfl
      have f4 := he2 4 _ rfl
      have f5 := he2 5 _ rfl
      have f6 := he2 6 _ rfl
      have f7 := he2 7 _ rfl
      simp only [AnV.v, Nat.add_zero] at e0 e1 e2 e3 e4 e5 e6 e7 f0 f1 f2 f3 f4 f5 f6 f7
      replace hcl := Lib.hid hcl
      replace hcc := Lib.hid hcc
      replace hm := Lib.hid hm
      replace hkd := Lib.hid hkd
      clear he he2 hx hy hqx hqy hC
      go_upto_region 4 with fail
      refine Free.wp_region_chain (fun i => i == 10) (fun i => true) (fun _ _ => False) (by kernel_rfl) (by kernel_rfl) (by kernel_rfl) ?_
      generalize wr.drew = wd at *
      (repeat (first | (apply Free.cw_pure rfl rfl; (intro w'; go_simp <;> exact rfl); go_frame) | (apply Free.cw_steady rfl rfl rfl; (intro w' hS; have q0 := Free.sx_cell hS e0 (fun _ _ hT => hT); have q1 := Free.sx_cell hS e1 (fun _ _ hT => hT); have q2 := Free.sx_cell hS e2 (fun _ _ hT => hT); have q3 := Free.sx_cell hS e3 (fun _ _ hT => hT); have q4 := Free.sx_cell hS e4 (fun _ _ hT => hT); have q5 := Free.sx_cell hS e5 (fun _ _ hT => hT); have q6 := Free.sx_cell hS e6 (fun _ _ hT => hT); have q7 := Free.sx_cell hS e7 (fun _ _ hT => hT); have q8 := Free.sx_cell hS f0 (fun _ _ hT => hT); have q9 := Free.sx_cell hS f1 (fun _ _ hT => hT); have q10 := Free.sx_cell hS f2 (fun _ _ hT => hT); have q11 := Free.sx_cell hS f3 (fun _ _ hT => hT); have q12 := Free.sx_cell hS f4 (fun _ _ hT => hT); have q13 := Free.sx_cell hS f5 (fun _ _ hT => hT); have q14 := Free.sx_cell hS f6 (fun _ _ hT => hT); have q15 := Free.sx_cell hS f7 (fun _ _ hT => hT); go_simp <;> exact rfl); go_frame) | (refine Free.cw_skip rfl ?_; go_frame)))
      refine Free.cw_loud rfl rfl (fun K hK => ?_)
      go_wp2_with fail
      refine (hcc.out _).mono ?_
      rintro e w1 ⟨rfl, q, os, rfl⟩
      have hkg := keeps_grow wd q os
      refine hK _ _ rfl (Free.KeepsP.of hkg (by simp)) ?_
      replace hkd := Lib.hid (hkd.out.trans hkg)
      clear hK K hcc hkg
      (repeat (apply Free.cw_pure rfl rfl; (intro w'; go_simp <;> exact rfl); go_frame))
      refine Free.cw_nil ?_
      by_cases hq : C < 0
      · have hd : decide ((0 : Int) ≤ C) = false := by simpa using hq
        have hno2 : ∀ j (hj : j + 1 < Y.length), j + 1 < k + 1 → qlt (Y[j]'(by omega)).q Y[j + 1].q := fun j hj hjk => by
          by_cases e : j + 1 = k
          · have hjm : j = m := by have := hm.out; omega
            subst hjm
            have := hcl.out.1 hq
            simp only [e]
            exact this
          · exact hno.out j hj (by omega)
        replace hno2 := Lib.hid hno2
        go_wp2
        go_roundw
        case rel => exact ⟨k + 1, rfl, by omega, .inl (by omega), hno2, hkd⟩
        case measure => simp [intOf]; omega
      · have hd : decide ((0 : Int) ≤ C) = true := by simpa using hq
        have hf : false = r := by
          rw [← hr.out]
          refine (Bool.eq_false_iff.2 (fun hi => hq (hcl.out.2 ?_))).symm
          have := incA_iff.1 hi m (by have := hm.out; omega)
          have e := hm.out
          subst e
          exact this
        replace hf := Lib.hid hf
        go_wp2
        go_ret
        exact ⟨by rw [← hf.out]; rfl, hkd.out⟩
    · have hlt2 : ¬ ((k : Int) < M) := by omega
      have hf : true = r := by
        rw [← hr.out]
        exact (incA_iff.2 (fun j hj => hno.out j hj (by have := hM.out; omega))).symm
      replace hf := Lib.hid hf
      go_wp2
      go_ret
      exact ⟨by rw [← hf.out]; rfl, hkw.out⟩
end Go.Proofs.YtiplgpefapeapaaGreatDoor

namespace Go.Proofs.YtiplgpefapeapaaGreatDoor
open Go.RowKit

def shS : Sh (List UInt8) := ⟨1, fun x => [bstr x], fun _ => rfl, by decide, fun x u hu => by simp at hu; subst hu; rfl⟩
theorem eqI0 (w : World) (x0 : Int) (x1 : Int) (x2 : Int) (y0 : Int) (y1 : Int) (y2 : Int) : (Op.equalIn 10000 tI (.agg #[.int .i64 x0, .int .u64 x1, .int .i64 x2]) (.agg #[.int .i64 y0, .int .u64 y1, .int .i64 y2])).run Tryz.prog w = .ok (x0 == y0 && x1 == y1 && x2 == y2) w := by
  have h1 : Tryz.prog.underlying tI = some (.struct (Tryz.prog.fieldsOf tI)) := by kernel_rfl
  have h2 : Tryz.prog.stoodInHeld tI = false := by kernel_rfl
  have h3 : (Tryz.prog.fieldsOf tI).toList.map (fun f => (f.name != "_", f.type, f.offset)) = [(true, 3, 0), (true, 24, 1), (true, 3, 2)] := by kernel_rfl
  obtain ⟨f0, f1, f2, hf⟩ : ∃ f0 f1 f2, (Tryz.prog.fieldsOf tI).toList = [f0, f1, f2] := by
    generalize (Tryz.prog.fieldsOf tI).toList = l at h3
    have hl := congrArg List.length h3
    simp only [List.length_map, List.length_cons, List.length_nil] at hl
    match l, hl with
    | [f0, f1, f2], _ => exact ⟨f0, f1, f2, rfl⟩
  rw [hf] at h3
  simp only [List.map_cons, List.map_nil, List.cons.injEq, Prod.mk.injEq, and_true, bne_iff_ne, ne_eq] at h3
  obtain ⟨⟨n0, t0, o0⟩, ⟨n1, t1, o1⟩, n2, t2, o2⟩ := h3
  rw [run_equalIn_agg w 9999 _ _ _ h1 h2, hf]
  have p0 : ∀ (x0 : Int) (x1 : Int) (x2 : Int) (w : World), (part 3 #[.int .i64 x0, .int .u64 x1, .int .i64 x2] 0).run Tryz.prog w = .ok (.int .i64 x0) w := fun x0 x1 x2 w => by kernel_rfl
  have p1 : ∀ (x0 : Int) (x1 : Int) (x2 : Int) (w : World), (part 24 #[.int .i64 x0, .int .u64 x1, .int .i64 x2] 1).run Tryz.prog w = .ok (.int .u64 x1) w := fun x0 x1 x2 w => by kernel_rfl
  have p2 : ∀ (x0 : Int) (x1 : Int) (x2 : Int) (w : World), (part 3 #[.int .i64 x0, .int .u64 x1, .int .i64 x2] 2).run Tryz.prog w = .ok (.int .i64 x2) w := fun x0 x1 x2 w => by kernel_rfl
  have e_int : ∀ (x y : Int) (w : World), (Op.equalIn 9999 3 (.int .i64 x) (.int .i64 y)).run Tryz.prog w = .ok (x == y) w := fun x y w => run_equalIn_int w 9998 _ _ _ x y Tryz.underlying3
  have e_u64 : ∀ (x y : Int) (w : World), (Op.equalIn 9999 24 (.int .u64 x) (.int .u64 y)).run Tryz.prog w = .ok (x == y) w := fun x y w => run_equalIn_int w 9998 _ _ _ x y Tryz.underlying24
  simp only [Op.eqFields, n0, t0, o0, n1, t1, o1, n2, t2, o2, ne_eq, not_false_eq_true, if_true, Sem.run_bind, p0, p1, p2, e_int, e_u64, Result.andThen]
  cases b0 : (x0 == y0)
  · simp [p0, p1, p2, e_int, e_u64, b0]
  · cases b1 : (x1 == y1)
    · simp [p0, p1, p2, e_int, e_u64, b0, b1]
    · cases b2 : (x2 == y2)
      · simp [p0, p1, p2, e_int, e_u64, b0, b1, b2]
      · simp [p0, p1, p2, e_int, e_u64, b0, b1, b2]
theorem bne_f {x y : Int} (h : x = y) : (x != y) = false := by simp [h]
theorem bne_t {x y : Int} (h : ¬ x = y) : (x != y) = true := by simp [h]
theorem beq_t {x y : List UInt8} (h : x = y) : (x == y) = true := by simp [h]
theorem beq_f {x y : List UInt8} (h : ¬ x = y) : (x == y) = false := by simp [h]
theorem neI (w : World) (x y : T3) : (binOp .neq tI (tV x) (tV y)).run Tryz.prog w = .ok (.bool (decide (x ≠ y))) w := by
  obtain ⟨a, b, c⟩ := x
  obtain ⟨a', b', c'⟩ := y
  rw [run_neq_struct, eqI0, Result.andThen_ok]
  congr 2
  rw [Bool.eq_iff_iff]
  simp
  omega
set_option maxRecDepth 100000 in
set_option maxHeartbeats 2000000 in
theorem sameInset_c (w : World) (v1 v2 : Value) (L1 L2 : List T3) (h1 : shT.R w v1 L1) (h2 : shT.R w v2 L2) :
    Calls Tryz.prog 6 #[v1, v2] w fun e w' => e = .returned (.bool (decide (L1 = L2))) ∧ Keeps [] w w' := by
  obtain ⟨a1, c1, rfl, hlc1, hcm1, _⟩ := h1.form
  obtain ⟨a2, c2, rfl, hlc2, hcm2, _⟩ := h2.form
  have hel1 := fun k hk => h1.elem (k := k) hk
  have hel2 := fun k hk => h2.elem (k := k) hk
  obtain ⟨M1, hM1⟩ : ∃ N, L1.length = N := ⟨_, rfl⟩
  obtain ⟨M2, hM2⟩ : ∃ N, L2.length = N := ⟨_, rfl⟩
  rw [hM1] at hlc1 ⊢
  rw [hM2] at hlc2 ⊢
  have hMm : M1 ≤ 9223372036854775807 := by unfold maxLen at hcm1; omega
  replace hel1 := Lib.hid hel1
  replace hel2 := Lib.hid hel2
  replace hM1 := Lib.hid hM1
  replace hM2 := Lib.hid hM2
  clear h1 h2 hcm1 hcm2
  obtain ⟨rb, hrb⟩ : ∃ b, decide (L1 = L2) = b := ⟨_, rfl⟩
  rw [hrb]
  replace hrb := Lib.hid hrb
  by_cases hne : M1 = M2
  · subst hne
    go_enter Tryz.func6, Tryz.ntmps6
    go_wp2
    go_loopw [5] (fun i wr => ∃ k : Nat, i = .int .i64 k ∧ k ≤ M1 ∧ Hid (∀ j (h1 : j < L1.length) (h2 : j < L2.length), j < k → L1[j] = L2[j]) ∧ Hid (Keeps [] w wr)) (fun i _ => M1 - (intOf i).toNat)
    case atStart => exact ⟨0, rfl, by omega, Lib.hid (fun _ _ _ h => by omega), Lib.hid (Keeps.refl _ _)⟩
    case round =>
      obtain ⟨k, rfl, hk, hno, hkw⟩ := hrel
      by_cases hlt : k < M1
      · have hk1 : k < L1.length := by rw [hM1.out]; exact hlt
        have hk2 : k < L2.length := by rw [hM2.out]; exact hlt
        obtain ⟨g, o, c', hv, he⟩ := hel1.out k hk1
        obtain ⟨g2, o2, c2', hv2, he2⟩ := hel2.out k hk2
        rw [hM1.out] at hv
        rw [hM2.out] at hv2
        cases hv
        cases hv2
        obtain ⟨⟨x0, x1, x2⟩, hx⟩ : ∃ x, L1[k] = x := ⟨_, rfl⟩
        obtain ⟨⟨y0, y1, y2⟩, hy⟩ : ∃ x, L2[k] = x := ⟨_, rfl⟩
        rw [hx] at he
        rw [hy] at he2
        have e0 := hkw.out.val (he 0 _ rfl)
        have e1 := hkw.out.val (he 1 _ rfl)
        have e2 := hkw.out.val (he 2 _ rfl)
        have d0 := hkw.out.val (he2 0 _ rfl)
        have d1 := hkw.out.val (he2 1 _ rfl)
        have d2 := hkw.out.val (he2 2 _ rfl)
        simp only [shT, Nat.add_zero] at e0 e1 e2 d0 d1 d2
        have hq := fun w => neI w (x0, x1, x2) (y0, y1, y2)
        simp only [tV] at hq
        replace hx := Lib.hid hx
        replace hy := Lib.hid hy
        clear he he2
        by_cases h1 : (x0, x1, x2) = (y0, y1, y2)
        · rw [decide_eq_false (fun h => h h1)] at hq
          replace h1 := Lib.hid h1
          go_wp2
          (refine wp_region_quiet_lit (by kernel_rfl) (by kernel_rfl) ?_; (repeat (first | go_big_quiet_step (fail) | quiet_step (fail))); with_reducible refine wpQuiet_nil ?_; intro _ hw'; obtain ⟨nq, hw''⟩ := hw'; subst hw'')
          go_wp2
          go_roundw
          case rel => exact ⟨k + 1, rfl, by omega, Lib.hid (fun j hj1 hj2 hjk => by
              by_cases e : j = k
              · subst e; rw [hx.out, hy.out]; exact h1.out
              · exact hno.out j hj1 hj2 (by omega)), Lib.hid (hkw.out.drewN _)⟩
          case measure => simp [intOf]; omega
        · rw [decide_eq_true h1] at hq
          have hr : decide (L1 = L2) = false := decide_eq_false (fun e => h1 (by rw [← hx.out, ← hy.out]; simp only [e]))
          rw [hrb.out] at hr
          replace hr := Lib.hid hr
          replace h1 := Lib.hid h1
          go_wp2
          (refine wp_region_quiet_lit (by kernel_rfl) (by kernel_rfl) ?_; (repeat (first | go_big_quiet_step (fail) | quiet_step (fail))); with_reducible refine wpQuiet_nil ?_; intro _ hw'; obtain ⟨nq, hw''⟩ := hw'; subst hw'')
          go_wp2
          go_ret
          exact ⟨by rw [hr.out]; rfl, hkw.out.drewN _⟩
      · have hr : decide (L1 = L2) = true := decide_eq_true (List.ext_getElem (by rw [hM1.out, hM2.out]) (fun j h1 h2 => hno.out j h1 h2 (by rw [hM1.out] at h1; omega)))
        rw [hrb.out] at hr
        replace hr := Lib.hid hr
        go_wp2
        go_ret
        exact ⟨by rw [hr.out]; rfl, hkw.out⟩
  · have hne1 : ((M1 : Int) != M2) = true := by simp; omega
    have hr : decide (L1 = L2) = false := decide_eq_false (fun e => hne (by rw [← hM1.out, ← hM2.out, e]))
    rw [hrb.out] at hr
    replace hr := Lib.hid hr
    go_enter Tryz.func6, Tryz.ntmps6
    go_wp2
    go_ret
    exact ⟨by rw [hr.out]; rfl, Keeps.refl _ _⟩
set_option maxRecDepth 100000 in
set_option maxHeartbeats 2000000 in
theorem same08_c (w : World) (v1 v2 : Value) (L1 L2 : List Int) (h1 : shZ.R w v1 L1) (h2 : shZ.R w v2 L2) :
    Calls Tryz.prog 9 #[v1, v2] w fun e w' => e = .returned (.bool (decide (L1 = L2))) ∧ Keeps [] w w' := by
  obtain ⟨a1, c1, rfl, hlc1, hcm1, _⟩ := h1.form
  obtain ⟨a2, c2, rfl, hlc2, hcm2, _⟩ := h2.form
  have hel1 := fun k hk => h1.elem (k := k) hk
  have hel2 := fun k hk => h2.elem (k := k) hk
  obtain ⟨M1, hM1⟩ : ∃ N, L1.length = N := ⟨_, rfl⟩
  obtain ⟨M2, hM2⟩ : ∃ N, L2.length = N := ⟨_, rfl⟩
  rw [hM1] at hlc1 ⊢
  rw [hM2] at hlc2 ⊢
  have hMm : M1 ≤ 9223372036854775807 := by unfold maxLen at hcm1; omega
  replace hel1 := Lib.hid hel1
  replace hel2 := Lib.hid hel2
  replace hM1 := Lib.hid hM1
  replace hM2 := Lib.hid hM2
  clear h1 h2 hcm1 hcm2
  obtain ⟨rb, hrb⟩ : ∃ b, decide (L1 = L2) = b := ⟨_, rfl⟩
  rw [hrb]
  replace hrb := Lib.hid hrb
  by_cases hne : M1 = M2
  · subst hne
    go_enter Tryz.func9, Tryz.ntmps9
    go_wp2
    go_loopw [5] (fun i wr => ∃ k : Nat, i = .int .i64 k ∧ k ≤ M1 ∧ Hid (∀ j (h1 : j < L1.length) (h2 : j < L2.length), j < k → L1[j] = L2[j]) ∧ Hid (Keeps [] w wr)) (fun i _ => M1 - (intOf i).toNat)
    case atStart => exact ⟨0, rfl, by omega, Lib.hid (fun _ _ _ h => by omega), Lib.hid (Keeps.refl _ _)⟩
    case round =>
      obtain ⟨k, rfl, hk, hno, hkw⟩ := hrel
      by_cases hlt : k < M1
      · have hk1 : k < L1.length := by rw [hM1.out]; exact hlt
        have hk2 : k < L2.length := by rw [hM2.out]; exact hlt
        obtain ⟨g, o, c', hv, he⟩ := hel1.out k hk1
        obtain ⟨g2, o2, c2', hv2, he2⟩ := hel2.out k hk2
        rw [hM1.out] at hv
        rw [hM2.out] at hv2
        cases hv
        cases hv2
        obtain ⟨x, hx⟩ : ∃ x, L1[k] = x := ⟨_, rfl⟩
        obtain ⟨y, hy⟩ : ∃ x, L2[k] = x := ⟨_, rfl⟩
        rw [hx] at he
        rw [hy] at he2
        have e0 := hkw.out.val (he 0 _ rfl)
        have d0 := hkw.out.val (he2 0 _ rfl)
        simp only [shZ, Nat.add_zero, Nat.mul_one] at e0 d0
        replace hx := Lib.hid hx
        replace hy := Lib.hid hy
        clear he he2
        by_cases h1 : x = y
        · have hq := bne_f h1
          replace h1 := Lib.hid h1
          go_wp2
          (refine wp_region_quiet_lit (by kernel_rfl) (by kernel_rfl) ?_; (repeat (first | go_big_quiet_step (fail) | quiet_step (fail))); with_reducible refine wpQuiet_nil ?_; intro _ hw'; obtain ⟨nq, hw''⟩ := hw'; subst hw'')
          go_wp2
          go_roundw
          case rel => exact ⟨k + 1, rfl, by omega, Lib.hid (fun j hj1 hj2 hjk => by
              by_cases e : j = k
              · subst e; rw [hx.out, hy.out]; exact h1.out
              · exact hno.out j hj1 hj2 (by omega)), Lib.hid (hkw.out.drewN _)⟩
          case measure => simp [intOf]; omega
        · have hq := bne_t h1
          have hr : decide (L1 = L2) = false := decide_eq_false (fun e => h1 (by rw [← hx.out, ← hy.out]; simp only [e]))
          rw [hrb.out] at hr
          replace hr := Lib.hid hr
          replace h1 := Lib.hid h1
          go_wp2
          (refine wp_region_quiet_lit (by kernel_rfl) (by kernel_rfl) ?_; (repeat (first | go_big_quiet_step (fail) | quiet_step (fail))); with_reducible refine wpQuiet_nil ?_; intro _ hw'; obtain ⟨nq, hw''⟩ := hw'; subst hw'')
          go_wp2
          go_ret
          exact ⟨by rw [hr.out]; rfl, hkw.out.drewN _⟩
      · have hr : decide (L1 = L2) = true := decide_eq_true (List.ext_getElem (by rw [hM1.out, hM2.out]) (fun j h1 h2 => hno.out j h1 h2 (by rw [hM1.out] at h1; omega)))
        rw [hrb.out] at hr
        replace hr := Lib.hid hr
        go_wp2
        go_ret
        exact ⟨by rw [hr.out]; rfl, hkw.out⟩
  · have hne1 : ((M1 : Int) != M2) = true := by simp; omega
    have hr : decide (L1 = L2) = false := decide_eq_false (fun e => hne (by rw [← hM1.out, ← hM2.out, e]))
    rw [hrb.out] at hr
    replace hr := Lib.hid hr
    go_enter Tryz.func9, Tryz.ntmps9
    go_wp2
    go_ret
    exact ⟨by rw [hr.out]; rfl, Keeps.refl _ _⟩
set_option maxRecDepth 100000 in
set_option maxHeartbeats 2000000 in
theorem sameLines_c (w : World) (v1 v2 : Value) (L1 L2 : List (List UInt8)) (h1 : shS.R w v1 L1) (h2 : shS.R w v2 L2) :
    Calls Tryz.prog 12 #[v1, v2] w fun e w' => e = .returned (.bool (decide (L1 = L2))) ∧ Keeps [] w w' := by
  obtain ⟨a1, c1, rfl, hlc1, hcm1, _⟩ := h1.form
  obtain ⟨a2, c2, rfl, hlc2, hcm2, _⟩ := h2.form
  have hel1 := fun k hk => h1.elem (k := k) hk
  have hel2 := fun k hk => h2.elem (k := k) hk
  obtain ⟨M1, hM1⟩ : ∃ N, L1.length = N := ⟨_, rfl⟩
  obtain ⟨M2, hM2⟩ : ∃ N, L2.length = N := ⟨_, rfl⟩
  rw [hM1] at hlc1 ⊢
  rw [hM2] at hlc2 ⊢
  have hMm : M1 ≤ 9223372036854775807 := by unfold maxLen at hcm1; omega
  replace hel1 := Lib.hid hel1
  replace hel2 := Lib.hid hel2
  replace hM1 := Lib.hid hM1
  replace hM2 := Lib.hid hM2
  clear h1 h2 hcm1 hcm2
  obtain ⟨rb, hrb⟩ : ∃ b, decide (L1 = L2) = b := ⟨_, rfl⟩
  rw [hrb]
  replace hrb := Lib.hid hrb
  by_cases hne : M1 = M2
  · subst hne
    go_enter Tryz.func12, Tryz.ntmps12
    go_wp2
    go_loopw [5] (fun i wr => ∃ k : Nat, i = .int .i64 k ∧ k ≤ M1 ∧ Hid (∀ j (h1 : j < L1.length) (h2 : j < L2.length), j < k → L1[j] = L2[j]) ∧ Hid (Keeps [] w wr)) (fun i _ => M1 - (intOf i).toNat)
    case atStart => exact ⟨0, rfl, by omega, Lib.hid (fun _ _ _ h => by omega), Lib.hid (Keeps.refl _ _)⟩
    case round =>
      obtain ⟨k, rfl, hk, hno, hkw⟩ := hrel
      by_cases hlt : k < M1
      · have hk1 : k < L1.length := by rw [hM1.out]; exact hlt
        have hk2 : k < L2.length := by rw [hM2.out]; exact hlt
        obtain ⟨g, o, c', hv, he⟩ := hel1.out k hk1
        obtain ⟨g2, o2, c2', hv2, he2⟩ := hel2.out k hk2
        rw [hM1.out] at hv
        rw [hM2.out] at hv2
        cases hv
        cases hv2
        obtain ⟨x, hx⟩ : ∃ x, L1[k] = x := ⟨_, rfl⟩
        obtain ⟨y, hy⟩ : ∃ x, L2[k] = x := ⟨_, rfl⟩
        rw [hx] at he
        rw [hy] at he2
        have e0 := hkw.out.val (he 0 _ rfl)
        have d0 := hkw.out.val (he2 0 _ rfl)
        simp only [shS, Nat.add_zero, Nat.mul_one] at e0 d0
        replace hx := Lib.hid hx
        replace hy := Lib.hid hy
        clear he he2
        by_cases h1 : x = y
        · have hq := beq_t h1
          replace h1 := Lib.hid h1
          go_wp2
          unfold bstr at e0 d0
          (refine wp_region_quiet_lit (by kernel_rfl) (by kernel_rfl) ?_; (repeat (first | go_big_quiet_step (fail) | quiet_step (fail))); with_reducible refine wpQuiet_nil ?_; intro _ hw'; obtain ⟨nq, hw''⟩ := hw'; subst hw'')
          go_wp2
          go_roundw
          case rel => exact ⟨k + 1, rfl, by omega, Lib.hid (fun j hj1 hj2 hjk => by
              by_cases e : j = k
              · subst e; rw [hx.out, hy.out]; exact h1.out
              · exact hno.out j hj1 hj2 (by omega)), Lib.hid (hkw.out.drewN _)⟩
          case measure => simp [intOf]; omega
        · have hq := beq_f h1
          have hr : decide (L1 = L2) = false := decide_eq_false (fun e => h1 (by rw [← hx.out, ← hy.out]; simp only [e]))
          rw [hrb.out] at hr
          replace hr := Lib.hid hr
          replace h1 := Lib.hid h1
          go_wp2
          unfold bstr at e0 d0
          (refine wp_region_quiet_lit (by kernel_rfl) (by kernel_rfl) ?_; (repeat (first | go_big_quiet_step (fail) | quiet_step (fail))); with_reducible refine wpQuiet_nil ?_; intro _ hw'; obtain ⟨nq, hw''⟩ := hw'; subst hw'')
          go_wp2
          go_ret
          exact ⟨by rw [hr.out]; rfl, hkw.out.drewN _⟩
      · have hr : decide (L1 = L2) = true := decide_eq_true (List.ext_getElem (by rw [hM1.out, hM2.out]) (fun j h1 h2 => hno.out j h1 h2 (by rw [hM1.out] at h1; omega)))
        rw [hrb.out] at hr
        replace hr := Lib.hid hr
        go_wp2
        go_ret
        exact ⟨by rw [hr.out]; rfl, hkw.out⟩
  · have hne1 : ((M1 : Int) != M2) = true := by simp; omega
    have hr : decide (L1 = L2) = false := decide_eq_false (fun e => hne (by rw [← hM1.out, ← hM2.out, e]))
    rw [hrb.out] at hr
    replace hr := Lib.hid hr
    go_enter Tryz.func12, Tryz.ntmps12
    go_wp2
    go_ret
    exact ⟨by rw [hr.out]; rfl, Keeps.refl _ _⟩
end Go.Proofs.YtiplgpefapeapaaGreatDoor

namespace Go.Proofs.YtiplgpefapeapaaGreatDoor
open Go.RowKit

set_option maxRecDepth 100000 in
set_option maxHeartbeats 4000000 in
theorem incC_c (w : World) (v : Value) (Y : List PCl) (h : LC w v Y) :
    Calls Tryz.prog 49 #[v, fnV 50] w fun e w' => e = .returned (.bool (incC Y)) ∧ Keeps [] w w' := by
  obtain ⟨a, c, rfl, hlc, hcm⟩ := h.form
  obtain ⟨M, hM⟩ : ∃ N, Y.length = N := ⟨_, rfl⟩
  rw [hM] at hlc ⊢
  have hMm : M ≤ 9223372036854775807 := by unfold maxLen at hcm; omega
  obtain ⟨r, hr⟩ : ∃ r, incC Y = r := ⟨_, rfl⟩
  rw [hr]
  replace h := Lib.hid h
  replace hM := Lib.hid hM
  replace hr := Lib.hid hr
  go_enter Tryz.func49, Tryz.ntmps49
  go_wp2
  go_loopw [5] (fun i wr => ∃ k : Nat, i = .int .i64 k ∧ 1 ≤ k ∧ (k ≤ M ∨ k = 1) ∧ Hid (∀ j (hj : j + 1 < Y.length), j + 1 < k → (Y[j]'(by omega)).m < Y[j + 1].m) ∧ Hid (Keeps [] w wr)) (fun i _ => M + 1 - (intOf i).toNat)
  case atStart => exact ⟨1, rfl, by omega, .inr rfl, Lib.hid (fun _ _ h => by omega), Lib.hid (Keeps.refl _ _)⟩
  case round =>
    obtain ⟨k, rfl, hk1, hkM, hno, hkw⟩ := hrel
    by_cases hlt : k < M
    · have hlt2 : (k : Int) < M := by omega
      have hkl : k < Y.length := by rw [hM.out]; exact hlt
      obtain ⟨m, hm⟩ : ∃ m, k = m + 1 := ⟨k - 1, by omega⟩
      have hml : m < Y.length := by omega
      have hmM : (m : Int) < M := by omega
      have hwm : IntKind.i64.wrap ((k : Int) - 1) = m := by rw [IntWalk.i64_in _ (by omega)]; omega
      have hkd := hkw.out.drew
      obtain ⟨g, o, c', x, hv, hx, e0, e1, e2, e3, e4⟩ := (h.out.keeps hkd).elem hkl
      obtain ⟨g2, o2, c2, y, hv2, hy, f0, f1, f2, f3, f4⟩ := (h.out.keeps hkd).elem hml
      rw [hM.out] at hv hv2
      cases hv
      cases hv2
      have hqx := hx.m
      have hqy := hy.m
      obtain ⟨C, hC⟩ : ∃ C, cI y.m x.m = C := ⟨_, rfl⟩
      have hcl : C < 0 ↔ Y[m].m < Y[k].m := by rw [← hC, cI_lt, hqx, hqy]
      have hcc := fun W => cmpC_c y x W
      rw [hC] at hcc
      obtain ⟨x0, x1, ⟨x2, x3, x4⟩, ⟨x5, x6, x7⟩, ⟨x8, x9, x10⟩⟩ := x
      obtain ⟨y0, y1, ⟨y2, y3, y4⟩, ⟨y5, y6, y7⟩, ⟨y8, y9, y10⟩⟩ := y
      simp only [slv] at hcc e0 e1 e2 e3 e4 f0 f1 f2 f3 f4
      replace hcl := Lib.hid hcl
      replace hcc := Lib.hid hcc
      replace hm := Lib.hid hm
      replace hkd := Lib.hid hkd
      clear hx hy hqx hqy hC
      go_upto_region 4 with fail
      refine Free.wp_region_chain (fun i => i == 10) (fun i => true) (fun _ _ => False) (by kernel_rfl) (by kernel_rfl) (by kernel_rfl) ?_
      generalize wr.drew = wd at *
      (repeat (first | (apply Free.cw_pure rfl rfl; (intro w'; go_simp <;> exact rfl); go_frame) | (apply Free.cw_steady rfl rfl rfl; (intro w' hS; have q0 := Free.sx_cell hS e0 (fun _ _ hT => hT); have q1 := Free.sx_cell hS e1 (fun _ _ hT => hT); have q2 := Free.sx_cell hS e2 (fun _ _ hT => hT); have q3 := Free.sx_cell hS e3 (fun _ _ hT => hT); have q4 := Free.sx_cell hS e4 (fun _ _ hT => hT); have q5 := Free.sx_cell hS f0 (fun _ _ hT => hT); have q6 := Free.sx_cell hS f1 (fun _ _ hT => hT); have q7 := Free.sx_cell hS f2 (fun _ _ hT => hT); have q8 := Free.sx_cell hS f3 (fun _ _ hT => hT); have q9 := Free.sx_cell hS f4 (fun _ _ hT => hT); go_simp <;> exact rfl); go_frame) | (refine Free.cw_skip rfl ?_; go_frame)))
      refine Free.cw_loud rfl rfl (fun K hK => ?_)
      go_wp2_with fail
      refine (hcc.out _).mono ?_
      rintro e w1 ⟨rfl, hkg⟩
      refine hK _ _ rfl (Free.KeepsP.of hkg (by simp)) ?_
      replace hkd := Lib.hid (hkd.out.trans hkg)
      clear hK K hcc hkg
      (repeat (apply Free.cw_pure rfl rfl; (intro w'; go_simp <;> exact rfl); go_frame))
      refine Free.cw_nil ?_
      by_cases hq : C < 0
      · have hd : decide ((0 : Int) ≤ C) = false := by simpa using hq
        have hno2 : ∀ j (hj : j + 1 < Y.length), j + 1 < k + 1 → (Y[j]'(by omega)).m < Y[j + 1].m := fun j hj hjk => by
          by_cases e : j + 1 = k
          · have hjm : j = m := by have := hm.out; omega
            subst hjm
            have := hcl.out.1 hq
            simp only [e]
            exact this
          · exact hno.out j hj (by omega)
        replace hno2 := Lib.hid hno2
        go_wp2
        go_roundw
        case rel => exact ⟨k + 1, rfl, by omega, .inl (by omega), hno2, hkd⟩
        case measure => simp [intOf]; omega
      · have hd : decide ((0 : Int) ≤ C) = true := by simpa using hq
        have hf : false = r := by
          rw [← hr.out]
          refine (Bool.eq_false_iff.2 (fun hi => hq (hcl.out.2 ?_))).symm
          have := incC_iff.1 hi m (by have := hm.out; omega)
          have e := hm.out
          subst e
          exact this
        replace hf := Lib.hid hf
        go_wp2
        go_ret
        exact ⟨by rw [← hf.out]; rfl, hkd.out⟩
    · have hlt2 : ¬ ((k : Int) < M) := by omega
      have hf : true = r := by
        rw [← hr.out]
        exact (incC_iff.2 (fun j hj => hno.out j hj (by have := hM.out; omega))).symm
      replace hf := Lib.hid hf
      go_wp2
      go_ret
      exact ⟨by rw [← hf.out]; rfl, hkw.out⟩
/-- What the walks count on: all lists are short. -/
structure Ct.Few (c : Ct) : Prop where
  an : c.an.length ≤ 1000
  cl : c.cl.length ≤ 1000
  ins : ∀ a ∈ c.an, a.ins.length ≤ 1000
  ns : ∀ p ∈ c.cl, p.st.length ≤ 1000 ∧ p.sc.length ≤ 1000 ∧ p.ch.length ≤ 1000
set_option maxRecDepth 100000 in
set_option maxHeartbeats 4000000 in
theorem short_c (w : World) (x : CtV) (c : Ct) (h : CtW w x c) (hf : c.Few) :
    Calls Tryz.prog 46 #[ctV x] w fun e w' => e = .returned (.bool true) ∧ Keeps [] w w' := by
  obtain ⟨x0, x1, x2, x3, x4, ⟨x5, x6, x7⟩, ⟨x8, x9, x10⟩⟩ := x
  have han := h.an
  have hcl := h.cl
  have hf1 := hf.an
  have hf2 := hf.cl
  simp only [slv] at han hcl
  obtain ⟨_, _, e1, hla, hca⟩ := han.form
  obtain ⟨_, _, e2, hlc, hcc⟩ := hcl.form
  simp only [Value.slice.injEq] at e1 e2
  obtain ⟨-, e1, -⟩ := e1
  obtain ⟨-, e2, -⟩ := e2
  rw [← e1] at hla hf1
  rw [← e2] at hlc hf2
  have hA := heap_alloc_new w (.cells #[.int .i64 x0, .int .i64 x1, .int .i64 x2, .int .u64 x3, .int .i64 x4, .slice x5 x6 x7, .slice x8 x9 x10] tCt)
  have hkA := (Keeps.refl [] w).alloc (.cells #[.int .i64 x0, .int .i64 x1, .int .i64 x2, .int .u64 x3, .int .i64 x4, .slice x5 x6 x7, .slice x8 x9 x10] tCt)
  have han1 := han.keeps hkA
  have hcl1 := hcl.keeps hkA
  obtain ⟨W, hW⟩ : ∃ W, w.alloc (.cells #[.int .i64 x0, .int .i64 x1, .int .i64 x2, .int .u64 x3, .int .i64 x4, .slice x5 x6 x7, .slice x8 x9 x10] tCt) = W := ⟨_, rfl⟩
  obtain ⟨B, hB⟩ : ∃ B, w.heap.size = B := ⟨_, rfl⟩
  have hn6 : decide ((1024 : Int) < x6) = false := by simp; omega
  have hn9 : decide ((1024 : Int) < x9) = false := by simp; omega
  have hx6m : x6 ≤ 9223372036854775807 := by omega
  have hx9m : x9 ≤ 9223372036854775807 := by omega
  rw [hW] at han1 hcl1 hA hkA
  rw [hB] at hA
  replace han1 := Lib.hid han1
  replace hcl1 := Lib.hid hcl1
  replace hkA := Lib.hid hkA
  replace hW := Lib.hid hW
  replace hB := Lib.hid hB
  replace e1 := Lib.hid e1
  replace e2 := Lib.hid e2
  replace hf := Lib.hid hf
  replace hA := Lib.hid hA
  clear h han hcl
  simp only [ctV, slv]
  go_enter Tryz.func46, Tryz.ntmps46
  go_upto_region 1 with fail
  rw [hW.out, hB.out]
  obtain ⟨i0, i1, i2, i3, i4, i5, i6, if', il⟩ := cl7 hA.out
  go_wp2
  go_loopw [20] (fun i wr => ∃ k : Nat, i = .int .i64 k ∧ k ≤ x6 ∧ Hid (Keeps [] W wr)) (fun i _ => x6 - (intOf i).toNat)
  case atStart => exact ⟨0, rfl, by omega, Lib.hid (Keeps.refl _ _)⟩
  case round =>
    clear i0 i1 i2 i3 i4 i5 i6 if' il
    obtain ⟨k, rfl, hk, hkw⟩ := hrel
    by_cases hlt : k < x6
    · have hlt2 : (k : Int) < x6 := by omega
      have hkl : k < c.an.length := by rw [← e1.out]; exact hlt
      obtain ⟨g, o, c', x, hv, hx, he⟩ := (han1.out.keeps hkw.out).elem hkl
      rw [← e1.out] at hv
      cases hv
      have hil := hf.out.ins _ (List.getElem_mem hkl)
      obtain ⟨_, _, ev, _⟩ := hx.ins.form
      obtain ⟨y0, y1, y2, y3, y4, y5, y6, y7, y8, y9⟩ := x
      simp only [AnV.v, Value.slice.injEq] at ev
      obtain ⟨-, ev, -⟩ := ev
      have hn8 : decide ((1024 : Int) < y8) = false := by simp; omega
      have g0 := he 0 _ rfl
      have g1 := he 1 _ rfl
      have g2 := he 2 _ rfl
      have g3 := he 3 _ rfl
      have g4 := he 4 _ rfl
      have g5 := he 5 _ rfl
      have g6 := he 6 _ rfl
      have g7 := he 7 _ rfl
      simp only [AnV.v, Nat.add_zero] at g0 g1 g2 g3 g4 g5 g6 g7
      replace ev := Lib.hid ev
      have hkn := Lib.hid (hkw.out.trans ((Keeps.refl [] wr).alloc (.cells #[.int .i64 y0, .int .i64 y1, .int .u64 y2, .int .i64 y3, .bool y4, .bool y5, .int .i64 y6, .slice y7 y8 y9] tA)))
      clear he hx
      go_wp2
      go_roundw
      case rel => exact ⟨k + 1, rfl, by omega, hkn⟩
      case measure => simp [intOf]; omega
    · have hlt2 : ¬ ((k : Int) < x6) := by omega
      have hAr := (hkw.out.block _ (lt_of_blk hA.out) (by simp)).trans hA.out
      obtain ⟨i0, i1, i2, i3, i4, i5, i6, if', il⟩ := cl7 hAr
      go_wp2
      generalize wr = W2 at *
      go_loopw [32] (fun i wr => ∃ k : Nat, i = .int .i64 k ∧ k ≤ x9 ∧ Hid (Keeps [] W wr)) (fun i _ => x9 - (intOf i).toNat)
      case atStart => exact ⟨0, rfl, by omega, hkw⟩
      case round =>
        clear i0 i1 i2 i3 i4 i5 i6 if' il
        obtain ⟨k, rfl, hk, hkw⟩ := hrel
        by_cases hlt : k < x9
        · have hlt2 : (k : Int) < x9 := by omega
          have hkl : k < c.cl.length := by rw [← e2.out]; exact hlt
          obtain ⟨g, o, c', x, hv, hx, g0, g1, g2, g3, g4⟩ := (hcl1.out.keeps hkw.out).elem hkl
          rw [← e2.out] at hv
          cases hv
          obtain ⟨hi1, hi2, hi3⟩ := hf.out.ns _ (List.getElem_mem hkl)
          obtain ⟨_, _, ev1, _⟩ := hx.st.form
          obtain ⟨_, _, ev2, _⟩ := hx.sc.form
          obtain ⟨_, _, ev3, _⟩ := hx.ch.form
          obtain ⟨y0, y1, ⟨y2, y3, y4⟩, ⟨y5, y6, y7⟩, ⟨y8, y9, y10⟩⟩ := x
          simp only [slv, Value.slice.injEq] at ev1 ev2 ev3
          simp only [slv] at g0 g1 g2 g3 g4
          obtain ⟨-, ev1, -⟩ := ev1
          obtain ⟨-, ev2, -⟩ := ev2
          obtain ⟨-, ev3, -⟩ := ev3
          have hn1 : decide ((1024 : Int) < y3) = false := by simp; omega
          have hn2 : decide ((1024 : Int) < y6) = false := by simp; omega
          have hn3 : decide ((1024 : Int) < y9) = false := by simp; omega
          replace ev1 := Lib.hid ev1
          replace ev2 := Lib.hid ev2
          replace ev3 := Lib.hid ev3
          have hkn := Lib.hid (hkw.out.trans ((Keeps.refl [] wr).alloc (.cells #[.int .i64 y0, .int .i64 y1, .slice y2 y3 y4, .slice y5 y6 y7, .slice y8 y9 y10] tC)))
          clear hx
          go_wp2
          go_roundw
          case rel => exact ⟨k + 1, rfl, by omega, hkn⟩
          case measure => simp [intOf]; omega
        · have hlt2 : ¬ ((k : Int) < x9) := by omega
          go_wp2
          go_ret
          exact ⟨rfl, hkA.out.trans hkw.out⟩
end Go.Proofs.YtiplgpefapeapaaGreatDoor

namespace Go.Proofs.YtiplgpefapeapaaGreatDoor
open Go.RowKit

theorem ansOk_def (a : Ans) : ansOk a = (mach a.m && mach a.ow && decide (0 ≤ a.ep) && decide (0 ≤ a.lu) && a.ins.all insOk) := rfl
theorem all_take {α : Type} {l : List α} {p : α → Bool} (h : ∀ j (hj : j < l.length), p l[j] = true) : l.all p = true := List.all_eq_true.2 (fun x hx => by obtain ⟨j, hj, rfl⟩ := List.getElem_of_mem hx; exact h j hj)
theorem all_no {α : Type} {l : List α} {p : α → Bool} {j : Nat} (hj : j < l.length) (h : p l[j] = false) : l.all p = false := List.all_eq_false.2 ⟨l[j], List.getElem_mem hj, by rw [h]; decide⟩
set_option maxRecDepth 100000 in
set_option maxHeartbeats 8000000 in
theorem formed_c (w : World) (x : CtV) (c : Ct) (h : CtW w x c) (hf : c.Few) :
    Calls Tryz.prog 27 #[ctV x] w fun e w' => e = .returned (.bool (wf c)) ∧ Keeps [] w w' := by
  have hsh := fun (W : World) (hk : Keeps [] w W) => short_c W x c (h.keeps hk) hf
  have him := h.im
  have his := h.is
  have hs0 := h.s0
  have han := h.an
  have hcl := h.cl
  have hinA := fun (W : World) (hk : Keeps [] w W) => incA_c W _ _ (han.keeps hk)
  have hinC := fun (W : World) (hk : Keeps [] w W) => incC_c W _ _ (hcl.keeps hk)
  obtain ⟨x0, x1, x2, x3, x4, ⟨x5, x6, x7⟩, ⟨x8, x9, x10⟩⟩ := x
  simp only [ctV, slv] at hsh han hcl hinA hinC
  simp only at him his hs0
  obtain ⟨_, _, e1, hla, hca⟩ := han.form
  simp only [Value.slice.injEq] at e1
  obtain ⟨-, e1, -⟩ := e1
  rw [← e1] at hla
  have hx6m : x6 ≤ 9223372036854775807 := by unfold maxLen at hca; omega
  have hA := heap_alloc_new w (.cells #[.int .i64 x0, .int .i64 x1, .int .i64 x2, .int .u64 x3, .int .i64 x4, .slice x5 x6 x7, .slice x8 x9 x10] tCt)
  have hkA := (Keeps.refl [] w).alloc (.cells #[.int .i64 x0, .int .i64 x1, .int .i64 x2, .int .u64 x3, .int .i64 x4, .slice x5 x6 x7, .slice x8 x9 x10] tCt)
  obtain ⟨W, hW⟩ : ∃ W, w.alloc (.cells #[.int .i64 x0, .int .i64 x1, .int .i64 x2, .int .u64 x3, .int .i64 x4, .slice x5 x6 x7, .slice x8 x9 x10] tCt) = W := ⟨_, rfl⟩
  obtain ⟨B, hB⟩ : ∃ B, w.heap.size = B := ⟨_, rfl⟩
  rw [hW] at hA hkA
  rw [hB] at hA
  obtain ⟨r, hr⟩ : ∃ r, wf c = r := ⟨_, rfl⟩
  rw [hr]
  unfold wf at hr
  rw [← him, ← his, ← hs0] at hr
  obtain ⟨m1, hm1⟩ : ∃ b, mach x0 = b := ⟨_, rfl⟩
  obtain ⟨m2, hm2⟩ : ∃ b, mach x2 = b := ⟨_, rfl⟩
  obtain ⟨b1, hb1⟩ : ∃ b, incA c.an = b := ⟨_, rfl⟩
  obtain ⟨b2, hb2⟩ : ∃ b, incC c.cl = b := ⟨_, rfl⟩
  have hc1 := fun W => mach_c x0 W
  have hc2 := fun W => mach_c x2 W
  rw [hm1] at hc1 hr
  rw [hm2] at hc2 hr
  rw [hb1] at hinA hr
  rw [hb2] at hinC hr
  replace hsh := Lib.hid hsh
  replace hinA := Lib.hid hinA
  replace hinC := Lib.hid hinC
  replace hc1 := Lib.hid hc1
  replace hc2 := Lib.hid hc2
  replace hr := Lib.hid hr
  replace han := Lib.hid han
  replace hkA := Lib.hid hkA
  replace hW := Lib.hid hW
  replace hB := Lib.hid hB
  replace e1 := Lib.hid e1
  replace hf := Lib.hid hf
  replace hA := Lib.hid hA
  clear h hcl hm1 hm2 hb1 hb2 him his hs0
  simp only [ctV, slv]
  go_enter Tryz.func27, Tryz.ntmps27
  go_upto_region 1 with fail
  rw [hW.out, hB.out]
  obtain ⟨i0, i1, i2, i3, i4, i5, i6, if', il⟩ := cl7 hA.out
  go_wp2_with fail
  refine (hc1.out _).mono ?_
  rintro e w' ⟨rfl, hw⟩
  obtain rfl := hw
  clear hc1
  cases m1 with
  | false =>
    have hd : false = r := by rw [← hr.out]; simp
    replace hd := Lib.hid hd
    go_wp2
    go_ret
    exact ⟨by rw [← hd.out]; rfl, hkA.out⟩
  | true =>
  by_cases h1 : x1 < 1
  · have hd : false = r := by
      rw [← hr.out]
      have : decide (1 ≤ x1) = false := by simpa using h1
      rw [this]; simp
    replace hd := Lib.hid hd
    go_wp2
    go_ret
    exact ⟨by rw [← hd.out]; rfl, hkA.out⟩
  have h1d : decide (x1 < 1) = false := by simpa using h1
  have h1e : decide (1 ≤ x1) = true := by simpa using h1
  rw [h1e] at hr
  go_wp2_with fail
  refine (hc2.out _).mono ?_
  rintro e w' ⟨rfl, hw⟩
  obtain rfl := hw
  clear hc2
  cases m2 with
  | false =>
    have hd : false = r := by rw [← hr.out]; simp
    replace hd := Lib.hid hd
    go_wp2
    go_ret
    exact ⟨by rw [← hd.out]; rfl, hkA.out⟩
  | true =>
  go_wp2_with fail
  refine (hsh.out _ hkA.out).mono ?_
  rintro e w1 ⟨rfl, hk1⟩
  have hk01 := Lib.hid (hkA.out.trans hk1)
  have hA1 := (hk1.block _ (lt_of_blk hA.out) (by simp)).trans hA.out
  replace hA1 := Lib.hid hA1
  clear i0 i1 i2 i3 i4 i5 i6 if' il hsh hk1
  obtain ⟨i0, i1, i2, i3, i4, i5, i6, if', il⟩ := cl7 hA1.out
  go_wp2_with fail
  refine (hinA.out _ hk01.out).mono ?_
  rintro e w2 ⟨rfl, hk1⟩
  have hk02 := Lib.hid (hk01.out.trans hk1)
  have hA2 := (hk1.block _ (lt_of_blk hA1.out) (by simp)).trans hA1.out
  replace hA2 := Lib.hid hA2
  clear i0 i1 i2 i3 i4 i5 i6 if' il hinA hk1
  obtain ⟨i0, i1, i2, i3, i4, i5, i6, if', il⟩ := cl7 hA2.out
  cases b1 with
  | false =>
    have hd : false = r := by rw [← hr.out]; simp
    replace hd := Lib.hid hd
    go_wp2
    go_ret
    exact ⟨by rw [← hd.out]; rfl, hk02.out⟩
  | true =>
  go_wp2_with fail
  refine (hinC.out _ hk02.out).mono ?_
  rintro e w3 ⟨rfl, hk1⟩
  have hk03 := Lib.hid (hk02.out.trans hk1)
  have hA3 := (hk1.block _ (lt_of_blk hA2.out) (by simp)).trans hA2.out
  replace hA3 := Lib.hid hA3
  clear i0 i1 i2 i3 i4 i5 i6 if' il hinC hk1
  obtain ⟨i0, i1, i2, i3, i4, i5, i6, if', il⟩ := cl7 hA3.out
  cases b2 with
  | false =>
    have hd : false = r := by rw [← hr.out]; simp
    replace hd := Lib.hid hd
    go_wp2
    go_ret
    exact ⟨by rw [← hd.out]; rfl, hk03.out⟩
  | true =>
  have hr2 : c.an.all ansOk = r := by rw [← hr.out]; simp
  replace hr2 := Lib.hid hr2
  have han3 := Lib.hid (han.out.keeps hk03.out)
  clear hr han
  go_wp2
  go_loopw [45] (fun i wr => ∃ k : Nat, i = .int .i64 k ∧ k ≤ x6 ∧ Hid (∀ j (hj : j < c.an.length), j < k → ansOk c.an[j] = true) ∧ Hid (Keeps [] w3 wr)) (fun i _ => x6 - (intOf i).toNat)
  case atStart => exact ⟨0, rfl, by omega, Lib.hid (fun _ _ h => by omega), Lib.hid (Keeps.refl _ _)⟩
  case round =>
    clear i0 i1 i2 i3 i4 i5 i6 if' il
    obtain ⟨k, rfl, hk, hno, hkw⟩ := hrel
    by_cases hlt : k < x6
    · have hlt2 : (k : Int) < x6 := by omega
      have hkl : k < c.an.length := by rw [← e1.out]; exact hlt
      obtain ⟨g, o, c', y, hv, hy, he⟩ := (han3.out.keeps hkw.out).elem hkl
      rw [← e1.out] at hv
      cases hv
      obtain ⟨a, ha⟩ : ∃ a, c.an[k] = a := ⟨_, rfl⟩
      rw [ha] at hy
      have hno1 : ansOk a = false → false = r := fun h => by rw [← hr2.out]; exact (all_no hkl (by rw [ha]; exact h)).symm
      have hno2 : ansOk a = true → ∀ j (hj : j < c.an.length), j < k + 1 → ansOk c.an[j] = true := fun h j hj hjk => by
        by_cases e : j = k
        · subst e; rw [ha]; exact h
        · exact hno.out j hj (by omega)
      obtain ⟨ai, aic, ev, hl1, hl2, _⟩ := hy.ins.form
      have hins := hy.ins
      obtain ⟨y0, y1, y2, y3, y4, y5, y6, y7, y8, y9⟩ := y
      have q0 := hy.m
      have q1 := hy.ow
      have q3 := hy.ep
      have q6 := hy.lu
      simp only [AnV.v] at ev hins
      simp only at q0 q1 q3 q6
      simp only [Value.slice.injEq] at ev
      obtain ⟨-, ev, -⟩ := ev
      have hy8m : y8 ≤ 9223372036854775807 := by unfold maxLen at hl2; omega
      have hok : ansOk a = (mach y0 && mach y1 && decide (0 ≤ y3) && decide (0 ≤ y6) && a.ins.all insOk) := by rw [ansOk_def, q0, q1, q3, q6]
      rw [hok] at hno1 hno2
      obtain ⟨n1, hn1⟩ : ∃ b, mach y0 = b := ⟨_, rfl⟩
      obtain ⟨n2, hn2⟩ : ∃ b, mach y1 = b := ⟨_, rfl⟩
      have hd1 := fun W => mach_c y0 W
      have hd2 := fun W => mach_c y1 W
      rw [hn1] at hd1 hno1 hno2
      rw [hn2] at hd2 hno1 hno2
      have g0 := he 0 _ rfl
      have g1 := he 1 _ rfl
      have g2 := he 2 _ rfl
      have g3 := he 3 _ rfl
      have g4 := he 4 _ rfl
      have g5 := he 5 _ rfl
      have g6 := he 6 _ rfl
      have g7 := he 7 _ rfl
      simp only [AnV.v, Nat.add_zero] at g0 g1 g2 g3 g4 g5 g6 g7
      have hbA := heap_alloc_new wr (.cells #[.int .i64 y0, .int .i64 y1, .int .u64 y2, .int .i64 y3, .bool y4, .bool y5, .int .i64 y6, .slice y7 y8 y9] tA)
      have hkn := (Keeps.refl [] wr).alloc (.cells #[.int .i64 y0, .int .i64 y1, .int .u64 y2, .int .i64 y3, .bool y4, .bool y5, .int .i64 y6, .slice y7 y8 y9] tA)
      have hkr := Lib.hid (hkw.out.trans hkn)
      have hinsn := Lib.hid (hins.keeps hkn)
      replace hno1 := Lib.hid hno1
      replace hno2 := Lib.hid hno2
      replace hd1 := Lib.hid hd1
      replace hd2 := Lib.hid hd2
      replace ev := Lib.hid ev
      replace hbA := Lib.hid hbA
      replace ha := Lib.hid ha
      clear he hy q0 q1 q3 q6 hok hn1 hn2 hins hkn hl1 hl2 hkw hno
      go_upto_region 6 with fail
      generalize (wr.alloc (.cells #[.int .i64 y0, .int .i64 y1, .int .u64 y2, .int .i64 y3, .bool y4, .bool y5, .int .i64 y6, .slice y7 y8 y9] tA)) = WA at *
      obtain ⟨XA, hXA⟩ : ∃ X, wr.heap.size = X := ⟨_, rfl⟩
      rw [hXA] at hbA ⊢
      replace hXA := Lib.hid hXA
      clear g0 g1 g2 g3 g4 g5 g6 g7
      obtain ⟨g0, g1, g2, g3, g4, g5, g6, g7, gf, gl⟩ := cl8 hbA.out
      have hfin := Lib.hid (hk03.out.trans hkr.out)
      go_wp2_with fail
      refine (hd1.out _).mono ?_
      rintro e w' ⟨rfl, hw⟩
      obtain rfl := hw
      cases n1 with
      | false =>
        have hd := Lib.hid (hno1.out (by simp))
        go_wp2
        go_ret
        exact ⟨by rw [← hd.out]; rfl, hfin.out⟩
      | true =>
      go_wp2_with fail
      refine (hd2.out _).mono ?_
      rintro e w' ⟨rfl, hw⟩
      obtain rfl := hw
      cases n2 with
      | false =>
        have hd := Lib.hid (hno1.out (by simp))
        go_wp2
        go_ret
        exact ⟨by rw [← hd.out]; rfl, hfin.out⟩
      | true =>
      by_cases h3 : y3 < 0
      · have hd := Lib.hid (hno1.out (by have : decide (0 ≤ y3) = false := by simpa using h3
                                         rw [this]; simp))
        go_wp2
        go_ret
        exact ⟨by rw [← hd.out]; rfl, hfin.out⟩
      have h3d : decide (y3 < 0) = false := by simpa using h3
      have h3e : decide (0 ≤ y3) = true := by simpa using h3
      by_cases h6 : y6 < 0
      · have hd := Lib.hid (hno1.out (by have : decide (0 ≤ y6) = false := by simpa using h6
                                         rw [this]; simp))
        go_wp2
        go_ret
        exact ⟨by rw [← hd.out]; rfl, hfin.out⟩
      have h6d : decide (y6 < 0) = false := by simpa using h6
      have h6e : decide (0 ≤ y6) = true := by simpa using h6
      rw [h3e, h6e] at hno1 hno2
      simp only [Bool.and_self, Bool.true_and] at hno1 hno2
      go_wp2
      generalize WA = W4 at *
      go_loopw [72] (fun i wr => ∃ q : Nat, i = .int .i64 q ∧ q ≤ y8 ∧ Hid (∀ j (hj : j < a.ins.length), j < q → insOk a.ins[j] = true) ∧ Hid (Keeps [] W4 wr)) (fun i _ => y8 - (intOf i).toNat)
      case atStart => exact ⟨0, rfl, by omega, Lib.hid (fun _ _ h => by omega), Lib.hid (Keeps.refl _ _)⟩
      case round =>
        clear g0 g1 g2 g3 g4 g5 g6 g7 gf gl
        obtain ⟨q, rfl, hq, hnq, hkq⟩ := hrel
        by_cases hltq : q < y8
        · have hlt2q : (q : Int) < y8 := by omega
          have hql : q < a.ins.length := by rw [← ev.out]; exact hltq
          obtain ⟨gi, oi, ci, hvi, hei⟩ := (hinsn.out.keeps hkq.out).elem hql
          rw [← ev.out] at hvi
          cases hvi
          obtain ⟨⟨z0, z1, z2⟩, hz⟩ : ∃ z, a.ins[q] = z := ⟨_, rfl⟩
          rw [hz] at hei
          have t0 := hei 0 _ rfl
          have t1 := hei 1 _ rfl
          have t2 := hei 2 _ rfl
          simp only [shT, Nat.add_zero] at t0 t1 t2
          obtain ⟨n3, hn3⟩ : ∃ b, mach z0 = b := ⟨_, rfl⟩
          have hd3 := fun W => mach_c z0 W
          rw [hn3] at hd3
          have hok : insOk a.ins[q] = (n3 && decide (0 ≤ z2)) := by rw [hz, ← hn3]; rfl
          have hbI := heap_alloc_new wr (.cells #[.int .i64 z0, .int .u64 z1, .int .i64 z2] tI)
          have hkI := (Keeps.refl [] wr).alloc (.cells #[.int .i64 z0, .int .u64 z1, .int .i64 z2] tI)
          have hkqI := Lib.hid (hkq.out.trans hkI)
          have hfq := Lib.hid (hfin.out.trans hkqI.out)
          replace hd3 := Lib.hid hd3
          replace hok := Lib.hid hok
          replace hbI := Lib.hid hbI
          replace hz := Lib.hid hz
          clear hei hn3 hkI
          go_upto_region 11 with fail
          generalize (wr.alloc (.cells #[.int .i64 z0, .int .u64 z1, .int .i64 z2] tI)) = WI at *
          obtain ⟨XI, hXI⟩ : ∃ X, wr.heap.size = X := ⟨_, rfl⟩
          rw [hXI] at hbI ⊢
          replace hXI := Lib.hid hXI
          clear t0 t1 t2
          obtain ⟨t0, t1, t2, tf, tl⟩ := cl3 hbI.out
          go_wp2_with fail
          refine (hd3.out _).mono ?_
          rintro e w' ⟨rfl, hw⟩
          obtain rfl := hw
          cases n3 with
          | false =>
            have hd := Lib.hid (hno1.out (all_no hql (by rw [hok.out]; rfl)))
            go_wp2
            go_ret
            exact ⟨by rw [← hd.out]; rfl, hfq.out⟩
          | true =>
          by_cases h2 : z2 < 0
          · have hd := Lib.hid (hno1.out (all_no hql (by rw [hok.out]; simpa using h2)))
            go_wp2
            go_ret
            exact ⟨by rw [← hd.out]; rfl, hfq.out⟩
          have h2d : decide (z2 < 0) = false := by simpa using h2
          have hnq2 : ∀ j (hj : j < a.ins.length), j < q + 1 → insOk a.ins[j] = true := fun j hj hjq => by
            by_cases e : j = q
            · subst e; rw [hok.out]; simpa using h2
            · exact hnq.out j hj (by omega)
          replace hnq2 := Lib.hid hnq2
          go_wp2
          go_roundw
          case rel => exact ⟨q + 1, rfl, by omega, hnq2, hkqI⟩
          case measure => simp [intOf]; omega
        · have hlt2q : ¬ ((q : Int) < y8) := by omega
          have hn4 := Lib.hid (hno2.out (all_take (fun j hj => hnq.out j hj (by have := ev.out; omega))))
          have hkz := Lib.hid (hkr.out.trans hkq.out)
          go_wp2
          go_roundw
          case rel => exact ⟨k + 1, rfl, by omega, hn4, hkz⟩
          case measure => simp [intOf]; omega
    · have hlt2 : ¬ ((k : Int) < x6) := by omega
      have hd : true = r := by rw [← hr2.out]; exact (all_take (fun j hj => hno.out j hj (by have := e1.out; omega))).symm
      have hfin := Lib.hid (hk03.out.trans hkw.out)
      replace hd := Lib.hid hd
      go_wp2
      go_ret
      exact ⟨by rw [← hd.out]; rfl, hfin.out⟩
end Go.Proofs.YtiplgpefapeapaaGreatDoor

namespace Go.Proofs.YtiplgpefapeapaaGreatDoor
open Go.RowKit

abbrev tS : Nat := 76
theorem sLaw : WideMaps.KeyLaw Tryz.prog tS := deep_law_laid laidOut (m := 4) (by omega) (of_decide_eq_true (by kernel_rfl)) (by kernel_rfl) (by rw [Tryz.underlying76])
theorem s_key (x : Qn) (h : qOk x) : ∃ l, keyOf Tryz.prog tS (qV x) = some l := by
  obtain ⟨m, o, n⟩ := x
  obtain ⟨hm, ho, hn⟩ := h
  simp only at hm ho hn
  obtain ⟨d, hd⟩ : ∃ d, Tryz.prog.types.size = d + 2 := ⟨Tryz.prog.types.size - 2, by have : 2 ≤ Tryz.prog.types.size := of_decide_eq_true (by kernel_rfl); omega⟩
  have h1 : Tryz.prog.keyType tS = true := by kernel_rfl
  have h2 : (qV (m, o, n)).formed Tryz.prog tS = true := by kernel_rfl
  have c1 : Tryz.prog.cellsOf tS = 3 := by kernel_rfl
  have c3 : Tryz.prog.cellsOf 3 = 1 := by kernel_rfl
  have c4 : Tryz.prog.cellsOf 24 = 1 := by kernel_rfl
  unfold keyOf
  simp only [Tryz.underlying76, h1, h2, hd, Bool.and_self, if_true]
  have hk : Tryz.prog.keyLits (d + 2 + 1) tS (qV (m, o, n)).cells.toList = some [.int .i64 m, .int .i64 o, .int .u64 n] := by
    have wm : (Lit.int .i64 m).wf = true := hm
    have wo : (Lit.int .i64 o).wf = true := ho
    have wn := w64u hn
    simp [Program.keyLits, Tryz.underlying76, Tryz.underlying3, Tryz.underlying24, c1, c3, c4, Value.cells, wm, wo, wn]
  rw [hk]
  exact ⟨_, rfl⟩
def ktS : MapS.KT Tryz.prog tS Qn := ⟨qV, qOk, Maps.Keyed.of_law sLaw, s_key, fun x y h => by
  obtain ⟨a, b, c⟩ := x
  obtain ⟨a', b', c'⟩ := y
  simp [qV] at h
  obtain ⟨h1, h2, h3⟩ := h
  rw [h1, h2, show c = c' by omega]⟩
abbrev tK : Nat := 57
theorem kLaw : WideMaps.KeyLaw Tryz.prog tK := deep_law_laid laidOut (m := 4) (by omega) (of_decide_eq_true (by kernel_rfl)) (by kernel_rfl) (by rw [Tryz.underlying57])
theorem k_key (x : Qn) (h : qOk x) : ∃ l, keyOf Tryz.prog tK (qV x) = some l := by
  obtain ⟨m, o, n⟩ := x
  obtain ⟨hm, ho, hn⟩ := h
  simp only at hm ho hn
  obtain ⟨d, hd⟩ : ∃ d, Tryz.prog.types.size = d + 2 := ⟨Tryz.prog.types.size - 2, by have : 2 ≤ Tryz.prog.types.size := of_decide_eq_true (by kernel_rfl); omega⟩
  have h1 : Tryz.prog.keyType tK = true := by kernel_rfl
  have h2 : (qV (m, o, n)).formed Tryz.prog tK = true := by kernel_rfl
  have c1 : Tryz.prog.cellsOf tK = 3 := by kernel_rfl
  have c3 : Tryz.prog.cellsOf 3 = 1 := by kernel_rfl
  have c4 : Tryz.prog.cellsOf 24 = 1 := by kernel_rfl
  unfold keyOf
  simp only [Tryz.underlying57, h1, h2, hd, Bool.and_self, if_true]
  have hk : Tryz.prog.keyLits (d + 2 + 1) tK (qV (m, o, n)).cells.toList = some [.int .i64 m, .int .i64 o, .int .u64 n] := by
    have wm : (Lit.int .i64 m).wf = true := hm
    have wo : (Lit.int .i64 o).wf = true := ho
    have wn := w64u hn
    simp [Program.keyLits, Tryz.underlying57, Tryz.underlying3, Tryz.underlying24, c1, c3, c4, Value.cells, wm, wo, wn]
  rw [hk]
  exact ⟨_, rfl⟩
def ktK : MapS.KT Tryz.prog tK Qn := ⟨qV, qOk, Maps.Keyed.of_law kLaw, k_key, fun x y h => by
  obtain ⟨a, b, c⟩ := x
  obtain ⟨a', b', c'⟩ := y
  simp [qV] at h
  obtain ⟨h1, h2, h3⟩ := h
  rw [h1, h2, show c = c' by omega]⟩
theorem z_key (x : Int) (h : W64 x) : ∃ l, keyOf Tryz.prog 3 (zV x) = some l := ⟨_, Maps.keyOf_int_mk Tryz.underlying3 h⟩
def ktZ : MapS.KT Tryz.prog 3 Int := ⟨zV, W64, Maps.int_keyed Tryz.underlying3, z_key, fun x y h => by simpa using h⟩
end Go.Proofs.YtiplgpefapeapaaGreatDoor

namespace Go.Proofs.YtiplgpefapeapaaGreatDoor
open Go.RowKit

def strip (a : Ans) : Ans := { a with ins := [] }
def stepB (O : List (Qn × Int)) (P : List PCl) (a : Ans) : List PCl := needC O (openC P a) a
/-- The claims without their scions. -/
def basC (O : List (Qn × Int)) (Y : List Ans) : List PCl := Y.foldl (stepB O) []
def basOf (O : List (Qn × Int)) (Y : List Ans) (m : Int) : PCl := ⟨m, epOf Y m, stOf O Y m, [], chOf O Y m⟩
theorem strip_srt {Y : List Ans} (h : SrtA Y) : SrtA (Y.map strip) := by unfold SrtA; rw [List.pairwise_map]; exact h
theorem ms_strip (Y : List Ans) : msOf (Y.map strip) = msOf Y := by unfold msOf; rw [List.foldl_map]; rfl
theorem basC_strip (O : List (Qn × Int)) (Y : List Ans) : basC O Y = rawOf (trOf []) O (Y.map strip) := by
  unfold basC rawOf
  rw [List.foldl_map]
  rfl
theorem sc_strip (t : Tr) (m : Int) : ∀ (Y : List Ans) (l : List T3), (Y.map strip).foldl (scA t m) l = l
  | [], _ => rfl
  | a :: Y, l => by
    rw [List.map_cons, List.foldl_cons]
    have : scA t m l (strip a) = l := by unfold scA strip; split <;> rfl
    rw [this]
    exact sc_strip t m Y l
theorem basC_eq {O : List (Qn × Int)} {Y : List Ans} (hs : SrtA Y) : basC O Y = (msOf Y).map (basOf O Y) := by
  rw [basC_strip, (rawOf_eq (trOf []) O (Y.map strip) (strip_srt hs)).1, ms_strip]
  refine List.map_congr_left (fun m _ => ?_)
  unfold clOf basOf
  have e1 : epOf (Y.map strip) m = epOf Y m := by
    unfold epOf
    rw [List.find?_map, Option.map_map]
    rfl
  have e2 : stOf O (Y.map strip) m = stOf O Y m := by unfold stOf; rw [List.filterMap_map]; rfl
  have e3 : chOf O (Y.map strip) m = chOf O Y m := by unfold chOf; rw [List.filterMap_map]; rfl
  have e4 : scOf (trOf []) (Y.map strip) m = [] := sc_strip _ m Y []
  rw [e1, e2, e3, e4]
theorem basC_ms {O : List (Qn × Int)} {Y : List Ans} (hs : SrtA Y) : (basC O Y).map PCl.m = msOf Y := by
  rw [basC_eq hs, List.map_map]
  have : (PCl.m ∘ basOf O Y) = id := rfl
  rw [this, List.map_id]
theorem ms_srt {Y : List Ans} (hs : SrtA Y) : (msOf Y).Pairwise (· < ·) ∧ ∀ m, m ∈ msOf Y ↔ ∃ a ∈ Y, a.m = m := (rawOf_eq (trOf []) [] Y hs).2
theorem basC_take (O : List (Qn × Int)) (Y : List Ans) (k : Nat) (hk : k < Y.length) : basC O (Y.take (k + 1)) = stepB O (basC O (Y.take k)) Y[k] := foldl_succ _ _ _ _ hk
/-- What the next answer finds. -/
theorem basC_next {O : List (Qn × Int)} {Z : List Ans} {a : Ans} (hs : SrtA (Z ++ [a])) :
    (∃ n, (basC O Z).length = n + 1 ∧ (∃ h : n < (basC O Z).length, ((basC O Z)[n]'h).m = a.m) ∧ openC (basC O Z) a = basC O Z) ∨
    ((∀ p ∈ basC O Z, p.m ≠ a.m) ∧ openC (basC O Z) a = basC O Z ++ [⟨a.m, a.ep, [], [], []⟩]) := by
  obtain ⟨hs1, _, hs2⟩ := List.pairwise_append.1 hs
  have hle : ∀ b ∈ Z, b.m ≤ a.m := fun b hb => by have := hs2 b hb a (by simp); unfold qlt Ans.q at this; simp only at this; omega
  obtain ⟨i2, i3⟩ := ms_srt hs1
  have hm := basC_ms (O := O) hs1
  generalize basC O Z = P at *
  rcases nil_or_snoc P with h | ⟨R, c, h⟩
  · subst h
    exact .inr ⟨by simp, rfl⟩
  · subst h
    have hc : c.m ∈ msOf Z := by rw [← hm]; simp
    obtain ⟨b, hb, hbc⟩ := (i3 c.m).1 hc
    rw [openC_snoc]
    by_cases e : c.m = a.m
    · refine .inl ⟨R.length, by simp, ⟨by simp, by simp [e]⟩, by rw [if_pos e]⟩
    · refine .inr ⟨fun p hp hpa => ?_, by rw [if_neg e]⟩
      have hlt : c.m < a.m := by have := hle b hb; omega
      rcases List.mem_append.1 hp with hp | hp
      · rw [← hm, List.map_append, List.map_cons, List.map_nil] at i2
        have := (List.pairwise_append.1 i2).2.2 p.m (List.mem_map.2 ⟨p, hp, rfl⟩) c.m (by simp)
        omega
      · rw [List.mem_singleton.1 hp] at hpa
        exact e hpa
/-! ### the map by machine -/
theorem get_zip : ∀ {ms : List Int} {bs : List Nat} (_ : bs.length = ms.length) (_ : ms.Nodup) (k : Nat) (h1 : k < ms.length) (h2 : k < bs.length), MapS.get ms[k] (ms.zip bs) = some bs[k]
  | [], _, _, _, k, h1, _ => by simp at h1
  | m :: ms, [], h, _, _, _, _ => by simp at h
  | m :: ms, b :: bs, _, _, 0, _, _ => by simp [MapS.get]
  | m :: ms, b :: bs, hl, hn, k + 1, h1, h2 => by
    obtain ⟨n1, n2⟩ := List.nodup_cons.1 hn
    have hk : k < ms.length := by simpa using h1
    have hne : ¬ m = ms[k] := fun e => n1 (by rw [e]; exact List.getElem_mem hk)
    simp only [List.zip_cons_cons, List.getElem_cons_succ, MapS.get, if_neg hne]
    exact get_zip (by simpa using hl) n2 k hk (by simpa using h2)
theorem get_zip_none : ∀ {ms : List Int} {bs : List Nat} {m : Int}, m ∉ ms → MapS.get m (ms.zip bs) = none
  | [], _, _, _ => by simp [MapS.get]
  | x :: ms, [], _, _ => by simp [MapS.get]
  | x :: ms, b :: bs, m, h => by
    have hne : ¬ x = m := fun e => h (by simp [e])
    simp only [List.zip_cons_cons, MapS.get, if_neg hne]
    exact get_zip_none (fun hm => h (by simp [hm]))
theorem zip_snoc {ms : List Int} {bs : List Nat} (h : bs.length = ms.length) (m : Int) (b : Nat) : (ms ++ [m]).zip (bs ++ [b]) = ms.zip bs ++ [(m, b)] := by
  rw [List.zip_append h.symm]
  rfl
theorem lt_nodup {l : List Int} (h : l.Pairwise (· < ·)) : l.Nodup := h.imp (fun h => by omega)
/-! ### the scions -/
theorem outsOf_nd (Y : List Ans) : MapS.ND (outsOf Y) := by
  unfold outsOf
  suffices h : ∀ (Y : List Ans) (acc : List (Qn × Int)), MapS.ND acc → MapS.ND (Y.foldl outsA acc) from h Y [] List.nodup_nil
  intro Y
  induction Y with
  | nil => exact fun _ h => h
  | cons a Y ih =>
    refine fun acc h => ih _ ?_
    unfold outsA
    generalize a.ins = xs
    induction xs generalizing acc with
    | nil => exact h
    | cons x r ih2 =>
      refine ih2 _ ?_
      unfold outA
      split
      · exact h
      · rename_i hn
        exact MapS.nd_snoc h (by simpa using hn) _
def scE (Y : List Ans) (m : Int) (p : Qn × Int) : Option T3 := if p.1.1 = m then some (p.1.2.1, p.1.2.2, luL Y (p.1.2.1, m, p.1.2.2)) else none
def scD (Y : List Ans) (m : Int) (L : List (Qn × Int)) : List T3 := L.filterMap (scE Y m)
theorem scD_snoc (Y : List Ans) (m : Int) (L : List (Qn × Int)) (p : Qn × Int) : scD Y m (L ++ [p]) = scD Y m L ++ (scE Y m p).toList := by
  unfold scD
  rw [List.filterMap_append]
  have : [p].filterMap (scE Y m) = (scE Y m p).toList := by cases h : scE Y m p <;> simp [h]
  rw [this]
theorem scD_perm {Y : List Ans} (m : Int) {L : List (Qn × Int)} (hp : L.Perm (outsOf Y)) : (scD Y m L).Perm (scOf (trOf Y) Y m) := by
  refine (hp.filterMap _).trans ((List.perm_ext_iff_of_nodup ?_ (scOf_nd _ _ _)).2 (fun e => ?_))
  · have hn := outsOf_nd Y
    generalize outsOf Y = O at hn
    clear hp
    induction O with
    | nil => exact List.nodup_nil
    | cons p O ih =>
      obtain ⟨n1, n2⟩ := List.nodup_cons.1 hn
      rw [List.filterMap_cons]
      cases h : scE Y m p with
      | none => exact ih n2
      | some e =>
        refine List.nodup_cons.2 ⟨fun hm => ?_, ih n2⟩
        obtain ⟨q, hq, hqe⟩ := List.mem_filterMap.1 hm
        refine n1 (List.mem_map.2 ⟨q, hq, ?_⟩)
        unfold scE at h hqe
        split at h
        · split at hqe
          · rename_i h1 h2
            cases h
            simp only [Option.some.injEq, Prod.mk.injEq] at hqe
            obtain ⟨⟨q0, q1, q2⟩, qo⟩ := q
            obtain ⟨⟨p0, p1, p2⟩, po⟩ := p
            simp only at h1 h2 hqe ⊢
            rw [h1, h2, hqe.1, hqe.2.1]
          · cases hqe
        · cases h
  · rw [scOf_mem, List.mem_filterMap]
    constructor
    · rintro ⟨⟨⟨q0, q1, q2⟩, o⟩, hq, he⟩
      unfold scE at he
      split at he
      · rename_i hm
        simp only at hm
        subst hm
        cases he
        have hg := (MapS.get_iff (outsOf_nd Y)).2 hq
        obtain ⟨a, ha, x, hx, e⟩ := (outsOf_some Y (q0, q1, q2)).1 (by rw [hg]; rfl)
        simp only [Prod.mk.injEq] at e
        obtain ⟨e1, e2, e3⟩ := e
        refine ⟨a, ha, e1.symm, x, hx, ?_⟩
        unfold scN
        rw [luOf_trOf, e2, e3]
      · cases he
    · rintro ⟨a, ha, hm, x, hx, rfl⟩
      have h1 := (outsOf_some Y (m, x.1, x.2.1)).2 ⟨a, ha, x, hx, by rw [hm]⟩
      obtain ⟨o, ho⟩ := Option.isSome_iff_exists.1 h1
      refine ⟨((m, x.1, x.2.1), o), MapS.get_mem ho, ?_⟩
      unfold scE scN
      rw [if_pos rfl, luOf_trOf]
/-- The sorted lists are the claims. -/
theorem clY_fin {Y : List Ans} {P : List PCl} (hs : SrtA Y) (hl : P.length = (msOf Y).length) (h : ∀ (k : Nat) (h1 : k < P.length) (h2 : k < (msOf Y).length), P[k].m = (msOf Y)[k] ∧ P[k].ep = epOf Y (msOf Y)[k] ∧
    (P[k].st.Perm (stOf (outsOf Y) Y (msOf Y)[k]) ∧ P[k].st.Pairwise (fun x y => ¬ tlt y x)) ∧ (P[k].sc.Perm (scOf (trOf Y) Y (msOf Y)[k]) ∧ P[k].sc.Pairwise (fun x y => ¬ tlt y x)) ∧ P[k].ch.Perm (chOf (outsOf Y) Y (msOf Y)[k]) ∧ P[k].ch.Pairwise (fun x y => ¬ tlt y x)) : P = clY Y := by
  refine clY_of hs hl (fun k h1 h2 => ?_)
  obtain ⟨e1, e2, e3, e4, e5⟩ := h k h1 h2
  refine ⟨e1, e2, fun j hj => ?_⟩
  match j, hj with
  | 0, _ => exact e3
  | 1, _ => exact e4
  | 2, _ => exact e5
end Go.Proofs.YtiplgpefapeapaaGreatDoor

namespace Go.Proofs.YtiplgpefapeapaaGreatDoor
open Go.RowKit

def FndPost (w : World) (Y : List Ans) (e : Ending) (w' : World) : Prop := ∃ b, e = .returned (.map (some b)) ∧ MapS.M ktK zV w' b (outsOf Y) ∧ w.heap.size ≤ b ∧ Keeps [] w w'
set_option maxRecDepth 100000 in
set_option maxHeartbeats 8000000 in
theorem found_c (w : World) (x : CtV) (c : Ct) (h : CtW w x c) (hfit : ∀ a ∈ c.an, a.Fit) (hf : c.Few) :
    Calls Tryz.prog 17 #[ctV x] w (FndPost w c.an) := by
  have hmm := @run_makeMap Tryz.prog
  have han := h.an
  obtain ⟨x0, x1, x2, x3, x4, ⟨x5, x6, x7⟩, ⟨x8, x9, x10⟩⟩ := x
  simp only [slv] at han
  obtain ⟨_, _, e1, hla, hca⟩ := han.form
  simp only [Value.slice.injEq] at e1
  obtain ⟨-, e1, -⟩ := e1
  rw [← e1] at hla
  have hx6m : x6 ≤ 9223372036854775807 := by unfold maxLen at hca; omega
  have hA := heap_alloc_new w (.cells #[.int .i64 x0, .int .i64 x1, .int .i64 x2, .int .u64 x3, .int .i64 x4, .slice x5 x6 x7, .slice x8 x9 x10] tCt)
  have hkA := (Keeps.refl [] w).alloc (.cells #[.int .i64 x0, .int .i64 x1, .int .i64 x2, .int .u64 x3, .int .i64 x4, .slice x5 x6 x7, .slice x8 x9 x10] tCt)
  obtain ⟨W, hW⟩ : ∃ W, w.alloc (.cells #[.int .i64 x0, .int .i64 x1, .int .i64 x2, .int .u64 x3, .int .i64 x4, .slice x5 x6 x7, .slice x8 x9 x10] tCt) = W := ⟨_, rfl⟩
  obtain ⟨B, hB⟩ : ∃ B, w.heap.size = B := ⟨_, rfl⟩
  rw [hW] at hA hkA
  rw [hB] at hA
  have hWs := hkA.size
  obtain ⟨Y, hY⟩ : ∃ Y, c.an = Y := ⟨_, rfl⟩
  have hfi : ∀ a ∈ Y, a.ins.length ≤ 1000 := by rw [← hY]; exact hf.ins
  have hfn := hf.an
  rw [hY] at han e1 hfit hfn ⊢
  replace hfit := Lib.hid hfit
  replace hfi := Lib.hid hfi
  replace han := Lib.hid han
  replace hkA := Lib.hid hkA
  replace hW := Lib.hid hW
  replace hB := Lib.hid hB
  replace e1 := Lib.hid e1
  replace hA := Lib.hid hA
  replace hfn := Lib.hid hfn
  clear h hY hf
  simp only [ctV, slv]
  go_enter Tryz.func17, Tryz.ntmps17
  go_upto_region 1 with fail
  rw [hW.out, hB.out]
  have hM := MapS.M.made ktK (vf := zV) W
  have hkM : Keeps [] W (W.alloc (.map #[] 0)) := (Keeps.refl _ _).alloc _
  have hbE := heap_alloc_new W (.map #[] 0)
  have hk1 := hkA.out.trans hkM
  have hA1 := (hkM.block _ (lt_of_blk hA.out) (by simp)).trans hA.out
  replace hM := Lib.hid hM
  replace hbE := Lib.hid hbE
  replace hk1 := Lib.hid hk1
  replace hA1 := Lib.hid hA1
  clear hkM
  go_upto_region 2 with fail
  generalize (W.alloc (.map #[] 0)) = w2 at *
  obtain ⟨bE, hbEe⟩ : ∃ b, W.heap.size = b := ⟨_, rfl⟩
  rw [hbEe] at hM hbE hWs ⊢
  clear hmm hbEe
  obtain ⟨i0, i1, i2, i3, i4, i5, i6, if', il⟩ := cl7 hA1.out
  go_wp2
  go_loopw [15] (fun i wr => ∃ k : Nat, i = .int .i64 k ∧ k ≤ x6 ∧ Hid (MapS.M ktK zV wr bE ((Y.take k).foldl outsA [])) ∧ Hid (Keeps [] w wr) ∧ Hid (((Y.take k).foldl outsA []).length ≤ k * 1000)) (fun i _ => x6 - (intOf i).toNat)
  case atStart => exact ⟨0, rfl, by omega, hM, hk1, Lib.hid (by simp)⟩
  case round =>
    clear hM i0 i1 i2 i3 i4 i5 i6 if' il
    obtain ⟨k, rfl, hk, hMr, hkr, hln⟩ := hrel
    by_cases hlt : k < x6
    · have hlt2 : (k : Int) < x6 := by omega
      have hkY : k < Y.length := by rw [← e1.out]; exact hlt
      obtain ⟨g, o, c', y, hv, hy, he⟩ := (han.out.keeps hkr.out).elem hkY
      rw [← e1.out] at hv
      cases hv
      have hst : (Y.take (k + 1)).foldl outsA [] = outsA ((Y.take k).foldl outsA []) Y[k] := foldl_succ _ _ _ _ hkY
      have hao := hfit.out _ (List.getElem_mem hkY)
      have hai := hfi.out _ (List.getElem_mem hkY)
      obtain ⟨a, ha⟩ : ∃ a, Y[k] = a := ⟨_, rfl⟩
      rw [ha] at hy hst hao hai
      obtain ⟨ai, aic, ev, hl1, hl2, _⟩ := hy.ins.form
      have hins := hy.ins
      obtain ⟨y0, y1, y2, y3, y4, y5, y6, y7, y8, y9⟩ := y
      have q0 := hy.m
      simp only [AnV.v] at ev hins
      simp only at q0
      subst q0
      simp only [Value.slice.injEq] at ev
      obtain ⟨-, ev, -⟩ := ev
      rw [← ev] at hai
      have g0 := he 0 _ rfl
      have g1 := he 1 _ rfl
      have g2 := he 2 _ rfl
      have g3 := he 3 _ rfl
      have g4 := he 4 _ rfl
      have g5 := he 5 _ rfl
      have g6 := he 6 _ rfl
      have g7 := he 7 _ rfl
      simp only [AnV.v, Nat.add_zero] at g0 g1 g2 g3 g4 g5 g6 g7
      have hbA := heap_alloc_new wr (.cells #[.int .i64 a.m, .int .i64 y1, .int .u64 y2, .int .i64 y3, .bool y4, .bool y5, .int .i64 y6, .slice y7 y8 y9] tA)
      have hkn := (Keeps.refl [] wr).alloc (.cells #[.int .i64 a.m, .int .i64 y1, .int .u64 y2, .int .i64 y3, .bool y4, .bool y5, .int .i64 y6, .slice y7 y8 y9] tA)
      have hkrA := Lib.hid (hkr.out.trans hkn)
      have hMA := hMr.out.keeps ktK hkn
      have hbEX : bE < wr.heap.size := hMr.out.lt
      have hinsn := Lib.hid (hins.keeps hkn)
      obtain ⟨acc, hacc⟩ : ∃ acc, (Y.take k).foldl outsA [] = acc := ⟨_, rfl⟩
      rw [hacc] at hMA hln hst
      replace hacc := Lib.hid hacc
      replace hMA := Lib.hid hMA
      replace hst := Lib.hid hst
      replace hao := Lib.hid hao
      replace ev := Lib.hid ev
      replace hbA := Lib.hid hbA
      replace ha := Lib.hid ha
      clear he hy hins hkn hl1 hl2 hkr hMr
      go_wp2
      generalize (wr.alloc (.cells #[.int .i64 a.m, .int .i64 y1, .int .u64 y2, .int .i64 y3, .bool y4, .bool y5, .int .i64 y6, .slice y7 y8 y9] tA)) = WA at *
      obtain ⟨XA, hXA⟩ : ∃ X, wr.heap.size = X := ⟨_, rfl⟩
      rw [hXA] at hbA hbEX ⊢
      replace hXA := Lib.hid hXA
      clear g0 g1 g2 g3 g4 g5 g6 g7
      go_loopw [22] (fun i wi => ∃ j : Nat, i = .int .i64 j ∧ j ≤ y8 ∧ Hid (MapS.M ktK zV wi bE ((a.ins.take j).foldl (outA a.m) acc)) ∧ Hid (Keeps [bE] WA wi)) (fun i _ => y8 - (intOf i).toNat)
      case atStart => exact ⟨0, rfl, by omega, hMA, Lib.hid (Keeps.refl _ _)⟩
      case round =>
        obtain ⟨j, rfl, hj, hMi, hki⟩ := hrel
        have hkwi : Keeps [] w wr := hkrA.out.fresh hki.out (fun b hb => by simp at hb; subst hb; exact .inr (by omega))
        by_cases hltj : j < y8
        · have hlt2j : (j : Int) < y8 := by omega
          have hja : j < a.ins.length := by rw [← ev.out]; exact hltj
          have hxo := hao.out.ins _ (List.getElem_mem hja)
          have hst2 : (a.ins.take (j + 1)).foldl (outA a.m) acc = outA a.m ((a.ins.take j).foldl (outA a.m) acc) a.ins[j] := foldl_succ _ _ _ _ hja
          have hkiw : ∀ (i : Nat) (u : Value), i < w.heap.size → True := fun _ _ _ => trivial
          obtain ⟨g2, o2, c2, hv2, he2⟩ := (hinsn.out.keepE hki.out (fun b hb hne e => by
            simp at hb
            subst hb
            obtain ⟨es, ec, hmap⟩ := hMA.out.isMap
            obtain ⟨gg, oo, cc, hvv, hee⟩ := hinsn.out.elem (k := 0) (by cases hq : a.ins with | nil => exact absurd hq hne | cons _ _ => simp)
            rw [hvv] at e
            simp [Value.ownBlock] at e
            subst e
            have := hee 0 _ rfl
            simp [World.cell?, hmap] at this)).elem hja
          rw [← ev.out] at hv2
          cases hv2
          obtain ⟨y, hye⟩ : ∃ y, a.ins[j] = y := ⟨_, rfl⟩
          rw [hye] at he2 hxo hst2
          obtain ⟨z0, z1, z2⟩ := y
          have t0 := he2 0 _ rfl
          have t1 := he2 1 _ rfl
          have t2 := he2 2 _ rfl
          simp only [shT, Nat.add_zero] at t0 t1 t2
          have hbi := (hki.out.block XA (lt_of_blk hbA.out) (by simp; omega)).trans hbA.out
          have hqk : qOk (a.m, z0, z1) := ⟨hao.out.q.1, hxo.1, hxo.2.1⟩
          obtain ⟨aj, haj⟩ : ∃ aj, (a.ins.take j).foldl (outA a.m) acc = aj := ⟨_, rfl⟩
          have hajl : aj.length < maxLen := by
            rw [← haj]
            have h1 := out_fold_len a.m (a.ins.take j) acc
            have h2 := hln.out
            have h3 : (a.ins.take j).length ≤ a.ins.length := by simp; omega
            have h4 := ev.out
            have h5 : k * 1000 ≤ 1000 * 1000 := Nat.mul_le_mul_right _ (by have := hfn.out; omega)
            unfold maxLen; omega
          rw [haj] at hMi hst2
          have hkI := ((Keeps.refl [] wr).alloc (.cells #[.int .i64 z0, .int .u64 z1, .int .i64 z2] tI)).alloc (.cells #[.int .i64 a.m, .int .i64 z0, .int .u64 z1] tK)
          have hMj := hMi.out.keeps ktK hkI
          have hkj : Keeps [bE] WA _ := hki.out.trans (hkI.of_nil)
          have hlk := MapS.M.look_ok ktK Tryz.underlying52 (zV 0) zeroZ hMj hqk
          obtain ⟨ov, hov⟩ : ∃ ov : Int, ((MapS.get (a.m, z0, z1) aj).map zV).getD (zV 0) = zV ov := by
            cases MapS.get (a.m, z0, z1) aj with
            | none => exact ⟨_, rfl⟩
            | some u => exact ⟨u, rfl⟩
          obtain ⟨ob, hob⟩ : ∃ ob, (MapS.get (a.m, z0, z1) aj).isSome = ob := ⟨_, rfl⟩
          rw [hov, hob] at hlk
          simp only [ktK, qV, zV] at hlk
          obtain ⟨b0, _, _, _, _, _, _, _, bf, bl⟩ := cl8 hbi
          have hI := heap_alloc_new wr (.cells #[.int .i64 z0, .int .u64 z1, .int .i64 z2] tI)
          have hIz : (wr.alloc (.cells #[.int .i64 z0, .int .u64 z1, .int .i64 z2] tI)).heap.size = wr.heap.size + 1 := by simp
          clear hov he2 hye hkiw
          cases ob with
          | true =>
            have hsame : outA a.m aj (z0, z1, z2) = aj := if_pos hob
            rw [hsame] at hst2
            rw [← hst2] at hMj
            replace hst2 := Lib.hid hst2
            replace hMj := Lib.hid hMj
            replace hkj := Lib.hid hkj
            replace hob := Lib.hid hob
            replace haj := Lib.hid haj
            replace hqk := Lib.hid hqk
            replace hkwi := Lib.hid hkwi
            clear hsame hI hIz hkI
            go_wp2
            go_roundw
            case rel => exact ⟨j + 1, rfl, by omega, hMj, hkj⟩
            case measure => simp [intOf]; omega
          | false =>
            have hnew : outA a.m aj (z0, z1, z2) = aj ++ [((a.m, z0, z1), z2)] := if_neg (by simp [hob])
            rw [hnew] at hst2
            have hget : MapS.get (a.m, z0, z1) aj = none := by simpa using hob
            obtain ⟨wk, hrun, hMk, hkk⟩ := MapS.M.putNew ktK Tryz.underlying52 hMj hqk hget hajl z2
            rw [← hst2] at hMk
            have hkw := hkj.trans hkk
            simp only [ktK, qV, zV] at hrun
            replace hst2 := Lib.hid hst2
            replace hMk := Lib.hid hMk
            replace hkw := Lib.hid hkw
            replace hob := Lib.hid hob
            replace haj := Lib.hid haj
            replace hqk := Lib.hid hqk
            replace hkwi := Lib.hid hkwi
            clear hnew hMj hkj hkk hget hI hIz hkI
            go_wp2
            go_roundw
            case rel => exact ⟨j + 1, rfl, by omega, hMk, hkw⟩
            case measure => simp [intOf]; omega
        · have hlt2j : ¬ ((j : Int) < y8) := by omega
          have hjx : j = a.ins.length := by have := ev.out; omega
          have hfin : (a.ins.take j).foldl (outA a.m) acc = outsA acc a := by rw [hjx, foldl_all]; rfl
          rw [hfin, ← hst.out] at hMi
          have hlf : ((Y.take (k + 1)).foldl outsA []).length ≤ (k + 1) * 1000 := by
            rw [hst.out]
            have h1 := out_fold_len a.m a.ins acc
            have h2 := hln.out
            have h4 := ev.out
            unfold outsA
            rw [Nat.add_mul]
            omega
          replace hlf := Lib.hid hlf
          replace hkwi := Lib.hid hkwi
          replace hjx := Lib.hid hjx
          clear hfin
          go_wp2
          go_roundw
          case rel => exact ⟨k + 1, rfl, by omega, hMi, hkwi, hlf⟩
          case measure => simp [intOf]; omega
    · have hlt2 : ¬ ((k : Int) < x6) := by omega
      have hkN : k = Y.length := by have := e1.out; omega
      have hO : (Y.take k).foldl outsA [] = outsOf Y := by rw [hkN, foldl_all]; rfl
      rw [hO] at hMr
      replace hkN := Lib.hid hkN
      replace hO := Lib.hid hO
      go_wp2
      go_ret
      exact ⟨bE, rfl, hMr.out, by have := hB.out; omega, hkr.out⟩
end Go.Proofs.YtiplgpefapeapaaGreatDoor

namespace Go.Proofs.YtiplgpefapeapaaGreatDoor
open Go.RowKit

/-- The map of the answers: their questions in order, and what they say of the last use. -/
structure AnsM (R : List (Qn × AnV)) (Y : List Ans) : Prop where
  len : R.length = Y.length
  q : ∀ k (h1 : k < R.length) (h2 : k < Y.length), R[k].1 = Y[k].q
  lu : ∀ k (h1 : k < R.length) (h2 : k < Y.length), R[k].2.lu = Y[k].lu
theorem AnsM.snoc {R : List (Qn × AnV)} {Y : List Ans} (h : AnsM R Y) {x : AnV} {a : Ans} (hl : x.lu = a.lu) : AnsM (R ++ [(a.q, x)]) (Y ++ [a]) := by
  have hlen := h.len
  refine ⟨by simp [hlen], fun k h1 h2 => ?_, fun k h1 h2 => ?_⟩
  · by_cases e : k < R.length
    · rw [List.getElem_append_left e, List.getElem_append_left (by omega)]
      exact h.q k e (by omega)
    · have ek : k = R.length := by simp at h1; omega
      subst ek
      simp [List.getElem_append, hlen]
  · by_cases e : k < R.length
    · rw [List.getElem_append_left e, List.getElem_append_left (by omega)]
      exact h.lu k e (by omega)
    · have ek : k = R.length := by simp at h1; omega
      subst ek
      simp [List.getElem_append, hlen, hl]
theorem AnsM.none {R : List (Qn × AnV)} {Y : List Ans} (h : AnsM R Y) {q : Qn} (hq : ∀ a ∈ Y, a.q ≠ q) : MapS.get q R = none := MapS.get_none.2 (fun p hp e => by
  obtain ⟨k, hk, rfl⟩ := List.getElem_of_mem hp
  have hk2 : k < Y.length := by rw [← h.len]; exact hk
  exact hq _ (List.getElem_mem hk2) ((h.q k hk hk2).symm.trans e))
theorem AnsM.get {R : List (Qn × AnV)} {Y : List Ans} (h : AnsM R Y) (hs : SrtA Y) (q : Qn) : (MapS.get q R).isSome = hasA Y q ∧ ((MapS.get q R).map AnV.lu).getD 0 = luL Y q := by
  by_cases hq : ∃ a ∈ Y, a.q = q
  · obtain ⟨a, ha, hqa⟩ := hq
    obtain ⟨k, hk, rfl⟩ := List.getElem_of_mem ha
    have hk2 : k < R.length := by rw [h.len]; exact hk
    have hnd : MapS.ND R := by
      unfold MapS.ND
      rw [List.Nodup, List.pairwise_iff_getElem]
      intro i j hi hj hij
      simp only [List.length_map] at hi hj
      simp only [List.getElem_map]
      rw [h.q i hi (by rw [← h.len]; exact hi), h.q j hj (by rw [← h.len]; exact hj)]
      intro e
      have := List.pairwise_iff_getElem.1 hs i j (by rw [← h.len]; exact hi) (by rw [← h.len]; exact hj) hij
      rw [e] at this
      exact qlt_irrefl _ this
    have hg : MapS.get q R = some R[k].2 := (MapS.get_iff hnd).2 (by
      have := List.getElem_mem hk2
      have e := h.q k hk2 hk
      rw [hqa] at e
      rw [← e]
      exact this)
    rw [hg]
    refine ⟨(hasA_iff.2 ⟨_, ha, hqa⟩).symm, ?_⟩
    simp only [Option.map_some, Option.getD_some]
    rw [h.lu k hk2 hk]
    exact (luL_at hk (fun j hj hjk e => by
      have := List.pairwise_iff_getElem.1 hs j k hj hk hjk
      rw [e, hqa] at this
      exact qlt_irrefl _ this) hqa).symm
  · have hn : ∀ a ∈ Y, a.q ≠ q := fun a ha e => hq ⟨a, ha, e⟩
    rw [h.none hn]
    refine ⟨?_, ?_⟩
    · cases hh : hasA Y q with
      | false => rfl
      | true => exact absurd (hasA_iff.1 hh) hq
    · exact (luL_no (fun j hj => hn _ (List.getElem_mem hj))).symm
def AnsMPost (w : World) (Y : List Ans) (e : Ending) (w' : World) : Prop := ∃ b R, e = .returned (.map (some b)) ∧ MapS.M ktS aV w' b R ∧ AnsM R Y ∧ w.heap.size ≤ b ∧ Keeps [] w w'
set_option maxRecDepth 100000 in
set_option maxHeartbeats 8000000 in
theorem answersM_c (w : World) (x : CtV) (c : Ct) (h : CtW w x c) (hfit : ∀ a ∈ c.an, a.Fit) (hf : c.Few) (hs : SrtA c.an) :
    Calls Tryz.prog 34 #[ctV x] w (AnsMPost w c.an) := by
  have hmm := @run_makeMap Tryz.prog
  have han := h.an
  obtain ⟨x0, x1, x2, x3, x4, ⟨x5, x6, x7⟩, ⟨x8, x9, x10⟩⟩ := x
  simp only [slv] at han
  obtain ⟨_, _, e1, hla, hca⟩ := han.form
  simp only [Value.slice.injEq] at e1
  obtain ⟨-, e1, -⟩ := e1
  rw [← e1] at hla
  have hx6m : x6 ≤ 9223372036854775807 := by unfold maxLen at hca; omega
  have hA := heap_alloc_new w (.cells #[.int .i64 x0, .int .i64 x1, .int .i64 x2, .int .u64 x3, .int .i64 x4, .slice x5 x6 x7, .slice x8 x9 x10] tCt)
  have hkA := (Keeps.refl [] w).alloc (.cells #[.int .i64 x0, .int .i64 x1, .int .i64 x2, .int .u64 x3, .int .i64 x4, .slice x5 x6 x7, .slice x8 x9 x10] tCt)
  obtain ⟨W, hW⟩ : ∃ W, w.alloc (.cells #[.int .i64 x0, .int .i64 x1, .int .i64 x2, .int .u64 x3, .int .i64 x4, .slice x5 x6 x7, .slice x8 x9 x10] tCt) = W := ⟨_, rfl⟩
  obtain ⟨B, hB⟩ : ∃ B, w.heap.size = B := ⟨_, rfl⟩
  rw [hW] at hA hkA
  rw [hB] at hA
  have hWs := hkA.size
  obtain ⟨Y, hY⟩ : ∃ Y, c.an = Y := ⟨_, rfl⟩
  have hfn := hf.an
  rw [hY] at han e1 hfit hfn hs ⊢
  replace hfit := Lib.hid hfit
  replace han := Lib.hid han
  replace hkA := Lib.hid hkA
  replace hW := Lib.hid hW
  replace hB := Lib.hid hB
  replace e1 := Lib.hid e1
  replace hA := Lib.hid hA
  replace hfn := Lib.hid hfn
  replace hs := Lib.hid hs
  clear h hY hf
  simp only [ctV, slv]
  go_enter Tryz.func34, Tryz.ntmps34
  go_upto_region 1 with fail
  rw [hW.out, hB.out]
  have hM := MapS.M.made ktS (vf := aV) W
  have hkM : Keeps [] W (W.alloc (.map #[] 0)) := (Keeps.refl _ _).alloc _
  have hk1 := hkA.out.trans hkM
  have hA1 := (hkM.block _ (lt_of_blk hA.out) (by simp)).trans hA.out
  replace hM := Lib.hid hM
  replace hk1 := Lib.hid hk1
  replace hA1 := Lib.hid hA1
  clear hkM
  go_upto_region 2 with fail
  generalize (W.alloc (.map #[] 0)) = w2 at *
  obtain ⟨bE, hbEe⟩ : ∃ b, W.heap.size = b := ⟨_, rfl⟩
  rw [hbEe] at hM hWs ⊢
  clear hmm hbEe
  obtain ⟨i0, i1, i2, i3, i4, i5, i6, if', il⟩ := cl7 hA1.out
  go_wp2
  go_loopw [10] (fun i wr => ∃ (k : Nat) (R : List (Qn × AnV)), i = .int .i64 k ∧ k ≤ x6 ∧ Hid (MapS.M ktS aV wr bE R) ∧ Hid (AnsM R (Y.take k)) ∧ Hid (Keeps [] w wr)) (fun i _ => x6 - (intOf i).toNat)
  case atStart => exact ⟨0, [], rfl, by omega, hM, Lib.hid ⟨rfl, fun k h1 => by simp at h1, fun k h1 => by simp at h1⟩, hk1⟩
  case round =>
    clear hM i0 i1 i2 i3 i4 i5 i6 if' il
    obtain ⟨k, R, rfl, hk, hMr, hR, hkr⟩ := hrel
    by_cases hlt : k < x6
    · have hlt2 : (k : Int) < x6 := by omega
      have hkY : k < Y.length := by rw [← e1.out]; exact hlt
      obtain ⟨g, o, c', y, hv, hy, he⟩ := (han.out.keeps hkr.out).elem hkY
      rw [← e1.out] at hv
      cases hv
      have hao := hfit.out _ (List.getElem_mem hkY)
      have hRl : R.length < maxLen := by
        have h1 := hR.out.len
        have h2 := hfn.out
        rw [List.length_take] at h1
        unfold maxLen
        omega
      have hnone : MapS.get Y[k].q R = none := hR.out.none (fun a ha e => by
        obtain ⟨j, hj, rfl⟩ := List.getElem_of_mem ha
        rw [List.length_take] at hj
        rw [List.getElem_take] at e
        have := List.pairwise_iff_getElem.1 hs.out j k (by omega) hkY (by omega)
        rw [e] at this
        exact qlt_irrefl _ this)
      have hRn : AnsM (R ++ [(Y[k].q, y)]) (Y.take (k + 1)) := by
        rw [List.take_succ_eq_append_getElem hkY]
        exact hR.out.snoc hy.lu
      have hq0 : Y[k].q = (y.m, y.ow, y.n) := by unfold Ans.q; rw [hy.m, hy.ow, hy.n]
      have hqk := hao.q
      rw [hq0] at hRn hnone hqk
      obtain ⟨y0, y1, y2, y3, y4, y5, y6, y7, y8, y9⟩ := y
      simp only at hRn hnone hqk
      have g0 := he 0 _ rfl
      have g1 := he 1 _ rfl
      have g2 := he 2 _ rfl
      have g3 := he 3 _ rfl
      have g4 := he 4 _ rfl
      have g5 := he 5 _ rfl
      have g6 := he 6 _ rfl
      have g7 := he 7 _ rfl
      simp only [AnV.v, Nat.add_zero] at g0 g1 g2 g3 g4 g5 g6 g7
      have hkn := (Keeps.refl [] wr).alloc (.cells #[.int .i64 y0, .int .i64 y1, .int .u64 y2, .int .i64 y3, .bool y4, .bool y5, .int .i64 y6, .slice y7 y8 y9] tA)
      have hMA := hMr.out.keeps ktS hkn
      obtain ⟨wk, hrun, hMk, hkk⟩ := MapS.M.putNew ktS Tryz.underlying72 hMA hqk hnone hRl ⟨y0, y1, y2, y3, y4, y5, y6, y7, y8, y9⟩
      simp only [ktS, qV, aV, AnV.v] at hrun
      have hkf : Keeps [] w wk := (hkr.out.trans hkn).fresh hkk (fun b hb => by simp at hb; subst hb; have := hkA.out.size; exact .inr (by omega))
      replace hRn := Lib.hid hRn
      replace hMk := Lib.hid hMk
      replace hkf := Lib.hid hkf
      replace hqk := Lib.hid hqk
      replace hq0 := Lib.hid hq0
      clear he hy hkn hMA hkk hMr hR hnone hao hRl
      go_wp2
      go_roundw
      case rel => exact ⟨k + 1, _, rfl, by omega, hMk, hRn, hkf⟩
      case measure => simp [intOf]; omega
    · have hlt2 : ¬ ((k : Int) < x6) := by omega
      have hkN : k = Y.length := by have := e1.out; omega
      have hR2 : AnsM R Y := by have := hR.out; rw [hkN, List.take_length] at this; exact this
      replace hkN := Lib.hid hkN
      replace hR2 := Lib.hid hR2
      go_wp2
      go_ret
      exact ⟨bE, R, rfl, hMr.out, hR2.out, by have := hB.out; omega, hkr.out⟩
end Go.Proofs.YtiplgpefapeapaaGreatDoor

namespace Go.Proofs.YtiplgpefapeapaaGreatDoor
open Go.RowKit

theorem nd_inj {l : List Nat} (h : l.Nodup) {i j : Nat} (hi : i < l.length) (hj : j < l.length) (e : l[i] = l[j]) : i = j := by
  rcases Nat.lt_trichotomy i j with c | c | c
  · exact absurd e (List.pairwise_iff_getElem.1 h i j hi hj c)
  · exact c
  · exact absurd e.symm (List.pairwise_iff_getElem.1 h j i hj hi c)
abbrev bxC (p : PCl) (V : Nat → Nat → SlT) (k : Nat) : Obj := .cells #[.int .i64 p.m, .int .i64 p.ep, slv (V k 0), slv (V k 1), slv (V k 2)] tC (0, 0)
structure BX (w : World) (B : Nat) (bs : List Nat) (P : List PCl) (V : Nat → Nat → SlT) : Prop where
  len : bs.length = P.length
  b : ∀ k (hk : k < P.length) (hb : k < bs.length), B ≤ bs[k] ∧ w.heap[bs[k]]? = some (bxC P[k] V k)
  nd : bs.Nodup
  o : ∀ k j (hk : k < P.length), j < 3 → shT.O w B tN (slv (V k j)) (P[k].at j)
  d : ∀ k j k' j' b, k < P.length → j < 3 → k' < P.length → j' < 3 → (slv (V k j)).ownBlock = some b → (slv (V k' j')).ownBlock = some b → k = k' ∧ j = j'
namespace BX
variable {w w' : World} {B : Nat} {bs : List Nat} {P : List PCl} {V : Nat → Nat → SlT}
theorem nil (w : World) (B : Nat) (V : Nat → Nat → SlT) : BX w B [] [] V := ⟨rfl, fun k hk => by simp at hk, List.nodup_nil, fun k j hk => by simp at hk, fun k j k' j' b hk => by simp at hk⟩
theorem keeps (h : BX w B bs P V) (hk : Keeps [] w w') : BX w' B bs P V :=
  ⟨h.len, fun k h1 h2 => ⟨(h.b k h1 h2).1, (hk.block _ (lt_of_blk (h.b k h1 h2).2) (by simp)).trans (h.b k h1 h2).2⟩, h.nd, fun k j h1 h2 => (h.o k j h1 h2).keeps hk, h.d⟩
/-- A box is no list's block. -/
theorem ne (h : BX w B bs P V) {k j i b : Nat} (hk : k < P.length) (hj : j < 3) (hi : i < P.length) (hb : i < bs.length) (h1 : (slv (V k j)).ownBlock = some b) : bs[i] ≠ b := fun e => by
  obtain ⟨cs, h2⟩ := (h.o k j hk hj).tag b h1
  exact tag_ne h2 (h.b i hi hb).2 (by decide) e.symm
theorem keepS {S : List Nat} (h : BX w B bs P V) (hk : Keeps S w w') (h1 : ∀ k (hk : k < bs.length), bs[k] ∉ S) (h2 : ∀ k j b, k < P.length → j < 3 → (slv (V k j)).ownBlock = some b → b ∉ S) : BX w' B bs P V :=
  ⟨h.len, fun k g1 g2 => ⟨(h.b k g1 g2).1, (hk.block _ (lt_of_blk (h.b k g1 g2).2) (h1 k g2)).trans (h.b k g1 g2).2⟩, h.nd, fun k j g1 g2 => (h.o k j g1 g2).keepS hk (fun b hb e => h2 k j b g1 g2 e hb), h.d⟩
/-- All blocks have the tags of claims and of needs: a block with another tag may turn. -/
theorem keepT {S : List Nat} (h : BX w B bs P V) (hk : Keeps S w w') (hS : ∀ b ∈ S, ∀ cs, w.heap[b]? ≠ some (Obj.cells cs tC (0, 0)) ∧ w.heap[b]? ≠ some (Obj.cells cs tN (0, 0))) : BX w' B bs P V :=
  h.keepS hk (fun k g2 hm => (hS _ hm _).1 (h.b k (by have := h.len; omega) g2).2) (fun k j b g1 g2 e hm => by obtain ⟨cs, hc⟩ := (h.o k j g1 g2).tag b e; exact (hS b hm cs).2 hc)
theorem lt (h : BX w B bs P V) {k : Nat} (hk : k < bs.length) : bs[k] < w.heap.size := lt_of_blk (h.b k (by have := h.len; omega) hk).2
/-- A new box. -/
theorem push (h : BX w B bs P V) (hk : Keeps [] w w') (m ep : Int) {b : Nat} (hb : w.heap.size ≤ b) (hB : B ≤ b) (hc : w'.heap[b]? = some (.cells #[.int .i64 m, .int .i64 ep, .slice none 0 0, .slice none 0 0, .slice none 0 0] tC (0, 0))) :
    BX w' B (bs ++ [b]) (P ++ [⟨m, ep, [], [], []⟩]) (fun a c => if a = P.length then nilT else V a c) := by
  have hl := h.len
  refine ⟨by simp [hl], fun k h1 h2 => ?_, ?_, fun k j h1 h2 => ?_, fun k j k' j' c h1 h2 h3 h4 e1 e2 => ?_⟩
  · by_cases e : k = P.length
    · subst e
      have e2 : (bs ++ [b])[P.length] = b := by simp [List.getElem_append, hl]
      rw [e2]
      refine ⟨hB, ?_⟩
      rw [hc]
      simp [bxC]
    · have hlt : k < P.length := by simp at h1; omega
      have hlb : k < bs.length := by omega
      rw [List.getElem_append_left hlb]
      obtain ⟨g1, g2⟩ := h.b k hlt hlb
      refine ⟨g1, ?_⟩
      rw [hk.block _ (lt_of_blk g2) (by simp), g2]
      simp [bxC, List.getElem_append_left hlt, e]
  · rw [List.nodup_append]
    refine ⟨h.nd, by simp, fun a ha c hc e => ?_⟩
    simp only [List.mem_singleton] at hc
    subst hc
    subst e
    obtain ⟨i, hi, e⟩ := List.getElem_of_mem ha
    have := h.lt hi
    omega
  · by_cases e : k = P.length
    · subst e
      simp only [if_true]
      have : (P ++ [(⟨m, ep, [], [], []⟩ : PCl)])[P.length].at j = [] := by
        simp only [List.getElem_concat_length]
        unfold PCl.at; split <;> rfl
      rw [this]
      exact Sh.O.nil _ _ _ _
    · have hlt : k < P.length := by simp at h1; omega
      simp only [if_neg e, List.getElem_append_left hlt]
      exact (h.o k j hlt h2).keeps hk
  · have n1 : k ≠ P.length := fun e => by subst e; simp [slv, Value.ownBlock] at e1
    have n2 : k' ≠ P.length := fun e => by subst e; simp [slv, Value.ownBlock] at e2
    simp only [if_neg n1] at e1
    simp only [if_neg n2] at e2
    simp at h1 h3
    exact h.d k j k' j' c (by omega) h2 (by omega) h4 e1 e2
/-- One list has grown; the box's cell is stored. -/
theorem app (h : BX w B bs P V) {k j : Nat} (hk : k < P.length) (hb : k < bs.length) (hj : j < 3) {L' : List T3} {v' : SlT} (hG : Grw w w' (slv (V k j)) (slv v')) (hO : shT.O w' B tN (slv v') L') :
    BX (w'.setCell ⟨bs[k], 2 + j, none⟩ (slv v')) B bs (P.set k (P[k].upd j L')) (updV V k j v') := by
  have hK := hG.keepsO
  have hbk : w'.heap[bs[k]]? = some (bxC P[k] V k) := by
    have g := (h.b k hk hb).2
    rw [hK.block _ (lt_of_blk g) (fun hm => h.ne hk hj hk hb (by simpa using hm) rfl), g]
  have hk2 : Keeps [bs[k]] w' (w'.setCell ⟨bs[k], 2 + j, none⟩ (slv v')) := (Keeps.refl _ _).setCell (.inr (by simp)) _
  have hne : ∀ {L : List T3} {v : Value}, shT.O w' B tN v L → v.ownBlock ≠ some bs[k] := fun hO e => by
    obtain ⟨cs, hc⟩ := hO.tag _ e
    exact tag_ne hc hbk (by decide) rfl
  refine ⟨by rw [List.length_set]; exact h.len, fun i h1 h2 => ?_, h.nd, fun k' j' hk' hj' => ?_, fun k' j' k2 j2 b h1 h2 h3 h4 e1 e2 => ?_⟩
  · have hi : i < P.length := by simpa using h1
    refine ⟨(h.b i hi h2).1, ?_⟩
    by_cases e : i = k
    · subst e
      rw [List.getElem_set_self]
      match j, hj with
      | 0, _ => simp [World.setCell, Array.getElem?_modify, hbk, bxC, PCl.upd, updV]
      | 1, _ => simp [World.setCell, Array.getElem?_modify, hbk, bxC, PCl.upd, updV]
      | 2, _ => simp [World.setCell, Array.getElem?_modify, hbk, bxC, PCl.upd, updV]
    · have hne2 : bs[i] ≠ bs[k] := fun e2 => e (nd_inj h.nd h2 hb e2)
      have g := (h.b i hi h2).2
      have g2 : w'.heap[bs[i]]? = some (bxC P[i] V i) := by rw [hK.block _ (lt_of_blk g) (fun hm => h.ne hk hj hi h2 (by simpa using hm) rfl), g]
      rw [hk2.block _ (lt_of_blk g2) (by simpa using hne2), g2]
      have e3 : (P.set k (P[k].upd j L'))[i]'h1 = P[i] := by rw [List.getElem_set]; rw [if_neg (fun h => e h.symm)]
      rw [e3]
      simp [bxC, updV, e]
  · have hk3 : k' < P.length := by simpa using hk'
    rw [List.getElem_set]
    by_cases e : k = k'
    · subst e
      rw [if_pos rfl, CL.at_upd _ _ _ _ hj hj']
      by_cases ej : j' = j
      · subst ej
        rw [if_pos rfl]
        simp only [updV, and_self, if_true]
        exact hO.keepS hk2 (fun b hb e => by simp at hb; subst hb; exact hne hO e)
      · rw [if_neg ej]
        simp only [updV, ej, and_false, if_false]
        have h1 : shT.O w' B tN (slv (V k j')) (P[k].at j') := (h.o k j' hk hj').keepS hK (fun b hb e => ej (h.d k j k j' b hk hj hk hj' (by simpa using hb) e).2.symm)
        exact h1.keepS hk2 (fun b hb e => by simp at hb; subst hb; exact hne h1 e)
    · rw [if_neg e]
      have e' : ¬ k' = k := fun h => e h.symm
      simp only [updV, e', false_and, if_false]
      have h1 : shT.O w' B tN (slv (V k' j')) (P[k'].at j') := (h.o k' j' hk3 hj').keepS hK (fun b hb e2 => e (h.d k j k' j' b hk hj hk3 hj' (by simpa using hb) e2).1)
      exact h1.keepS hk2 (fun b hb e => by simp at hb; subst hb; exact hne h1 e)
  · have l1 : k' < P.length := by simpa using h1
    have l2 : k2 < P.length := by simpa using h3
    have old : ∀ a c, a < P.length → c < 3 → (slv (V a c)).ownBlock = some b → b < w.heap.size := fun a c ha hc e => (h.o a c ha hc).lt b e
    by_cases c1 : k' = k ∧ j' = j
    · by_cases c2 : k2 = k ∧ j2 = j
      · exact ⟨c1.1.trans c2.1.symm, c1.2.trans c2.2.symm⟩
      · exfalso
        obtain ⟨rfl, rfl⟩ := c1
        simp only [updV, and_self, if_true] at e1
        simp only [updV, if_neg c2] at e2
        rcases hG.own with e3 | ⟨q, e3, hq⟩
        · rw [e3] at e1
          have := h.d k' j' k2 j2 b l1 h2 l2 h4 e1 e2
          exact c2 ⟨this.1.symm, this.2.symm⟩
        · rw [e3] at e1; cases e1
          have := old k2 j2 l2 h4 e2; omega
    · by_cases c2 : k2 = k ∧ j2 = j
      · exfalso
        obtain ⟨rfl, rfl⟩ := c2
        simp only [updV, and_self, if_true] at e2
        simp only [updV, if_neg c1] at e1
        rcases hG.own with e3 | ⟨q, e3, hq⟩
        · rw [e3] at e2
          exact c1 (h.d k' j' k2 j2 b l1 h2 l2 h4 e1 e2)
        · rw [e3] at e2; cases e2
          have := old k' j' l1 h2 e1; omega
      · simp only [updV, if_neg c1] at e1
        simp only [updV, if_neg c2] at e2
        exact h.d k' j' k2 j2 b l1 h2 l2 h4 e1 e2
/-- One list turns, in its own block. -/
theorem turn (h : BX w B bs P V) {k j : Nat} (hk : k < P.length) (hj : j < 3) {L' : List T3} (hK : Keeps (slv (V k j)).ownBlock.toList w w') (hO : shT.O w' B tN (slv (V k j)) L') : BX w' B bs (P.set k (P[k].upd j L')) V := by
  refine ⟨by rw [List.length_set]; exact h.len, fun i h1 h2 => ?_, h.nd, fun k' j' hk' hj' => ?_, fun k' j' k2 j2 b h1 h2 h3 h4 e1 e2 => h.d k' j' k2 j2 b (by simpa using h1) h2 (by simpa using h3) h4 e1 e2⟩
  · have hi : i < P.length := by simpa using h1
    have g := (h.b i hi h2).2
    refine ⟨(h.b i hi h2).1, ?_⟩
    rw [hK.block _ (lt_of_blk g) (fun hm => h.ne hk hj hi h2 (by simpa using hm) rfl), g]
    rw [List.getElem_set]
    split
    · rename_i e; subst e; simp only [bxC, (CL.upd_m _ _ _).1, (CL.upd_m _ _ _).2]
    · rfl
  · have hk2 : k' < P.length := by simpa using hk'
    rw [List.getElem_set]
    by_cases e : k = k'
    · subst e
      rw [if_pos rfl, CL.at_upd _ _ _ _ hj hj']
      by_cases ej : j' = j
      · subst ej; rw [if_pos rfl]; exact hO
      · rw [if_neg ej]
        exact (h.o k j' hk hj').keepS hK (fun b hb e => ej (h.d k j k j' b hk hj hk hj' (by simpa using hb) e).2.symm)
    · rw [if_neg e]
      exact (h.o k' j' hk2 hj').keepS hK (fun b hb e2 => e (h.d k j k' j' b hk hj hk2 hj' (by simpa using hb) e2).1)
end BX
end Go.Proofs.YtiplgpefapeapaaGreatDoor

namespace Go.Proofs
open Go.Shelf
def Tryz.keysA_ren : Go.Shelf.Ren := ⟨fun | 7 => 59 | 10 => 82 | n => n, fun | 23 => 99 | 26 => 3 | 3 => 100 | 28 => 103 | 0 => 0 | 27 => 102 | 33 => 85 | 4 => 4 | n => n, fun | n => n⟩
theorem Tryz.keysA : Go.Proofs.SlLaysZI.n7 Tryz.prog Tryz.keysA_ren := {
  mixed := by kernel_rfl
  f7 := ⟨Tryz.f59.name, by decide, Tryz.func59.trans (congrArg some (by kernel_rfl))⟩
  f10 := ⟨Tryz.f82.name, by decide, Tryz.func82.trans (congrArg some (by kernel_rfl))⟩
  t0 := Tryz.underlying0
  a0 := Tryz.isAgg0
  z0 := Tryz.sizeOf0
  v0 := Tryz.zeroValue0
  t4 := Tryz.underlying4
  a4 := Tryz.isAgg4
  z4 := Tryz.sizeOf4
  v4 := Tryz.zeroValue4
  t23 := Tryz.underlying99
  a23 := Tryz.isAgg99
  z23 := Tryz.sizeOf99
  v23 := Tryz.zeroValue99
  t26 := Tryz.underlying3
  a26 := Tryz.isAgg3
  z26 := Tryz.sizeOf3
  v26 := Tryz.zeroValue3
  t27 := Tryz.underlying102
  a27 := Tryz.isAgg102
  z27 := Tryz.sizeOf102
  v27 := Tryz.zeroValue102
  t28 := Tryz.underlying103
  a28 := Tryz.isAgg103
  z28 := Tryz.sizeOf103
  v28 := Tryz.zeroValue103
  t33 := Tryz.underlying85
  a33 := Tryz.isAgg85
  z33 := Tryz.sizeOf85
  v33 := Tryz.zeroValue85 }
def Tryz.sortedA_ren : Go.Shelf.Ren := ⟨fun | 6 => 58 | 8 => 81 | 9 => 25 | 11 => 103 | 13 => 44 | 12 => 43 | 23 => 74 | 24 => 75 | 14 => 65 | 15 => 66 | 16 => 67 | 17 => 68 | 18 => 69 | 19 => 70 | 20 => 71 | 21 => 72 | 22 => 73 | 25 => 92 | 26 => 93 | 27 => 94 | 28 => 95 | 29 => 96 | 30 => 41 | 31 => 115 | n => n, fun | 26 => 3 | 28 => 103 | 24 => 37 | 0 => 0 | 3 => 3 | 37 => 89 | 48 => 120 | 50 => 24 | 4 => 4 | 40 => 113 | 39 => 112 | 45 => 78 | 5 => 5 | 9 => 9 | 51 => 139 | 55 => 143 | 57 => 158 | 58 => 159 | 33 => 85 | n => n, fun | n => n⟩
theorem Tryz.sortedA : Go.Proofs.SlLaysZI.n6 Tryz.prog Tryz.sortedA_ren := {
  mixed := by kernel_rfl
  f6 := ⟨Tryz.f58.name, by decide, Tryz.func58.trans (congrArg some (by kernel_rfl))⟩
  f8 := ⟨Tryz.f81.name, by decide, Tryz.func81.trans (congrArg some (by kernel_rfl))⟩
  f11 := ⟨Tryz.f103.name, by decide, Tryz.func103.trans (congrArg some (by kernel_rfl))⟩
  t0 := Tryz.underlying0
  a0 := Tryz.isAgg0
  z0 := Tryz.sizeOf0
  v0 := Tryz.zeroValue0
  t24 := Tryz.underlying37
  a24 := Tryz.isAgg37
  z24 := Tryz.sizeOf37
  v24 := Tryz.zeroValue37
  t26 := Tryz.underlying3
  a26 := Tryz.isAgg3
  z26 := Tryz.sizeOf3
  v26 := Tryz.zeroValue3
  t28 := Tryz.underlying103
  a28 := Tryz.isAgg103
  z28 := Tryz.sizeOf103
  v28 := Tryz.zeroValue103
  i26 := by kernel_rfl }
def Tryz.sortA_ren : Go.Shelf.Ren := ⟨fun | 5 => 25 | 8 => 44 | 7 => 43 | 19 => 74 | 20 => 75 | 10 => 65 | 11 => 66 | 12 => 67 | 13 => 68 | 14 => 69 | 15 => 70 | 16 => 71 | 17 => 72 | 18 => 73 | 30 => 92 | 31 => 93 | 32 => 94 | 33 => 95 | 34 => 96 | 35 => 41 | 40 => 115 | n => n, fun | 23 => 37 | 25 => 3 | 3 => 3 | 32 => 89 | 22 => 37 | 0 => 0 | 44 => 120 | 46 => 24 | 4 => 4 | 36 => 113 | 35 => 112 | 41 => 78 | 5 => 5 | 9 => 9 | 53 => 139 | 57 => 143 | 63 => 158 | 64 => 159 | n => n, fun | n => n⟩
theorem Tryz.sortA : Go.Proofs.SlLaysM.n5 Tryz.prog Tryz.sortA_ren := {
  mixed := by kernel_rfl
  f5 := ⟨Tryz.f25.name, by decide, Tryz.func25.trans (congrArg some (by kernel_rfl))⟩
  f7 := ⟨Tryz.f43.name, by decide, Tryz.func43.trans (congrArg some (by kernel_rfl))⟩
  f8 := Tryz.func44.trans (congrArg some (by kernel_rfl))
  f10 := ⟨Tryz.f65.name, by decide, Tryz.func65.trans (congrArg some (by kernel_rfl))⟩
  f11 := ⟨Tryz.f66.name, by decide, Tryz.func66.trans (congrArg some (by kernel_rfl))⟩
  f12 := ⟨Tryz.f67.name, by decide, Tryz.func67.trans (congrArg some (by kernel_rfl))⟩
  f13 := ⟨Tryz.f68.name, by decide, Tryz.func68.trans (congrArg some (by kernel_rfl))⟩
  f14 := ⟨Tryz.f69.name, by decide, Tryz.func69.trans (congrArg some (by kernel_rfl))⟩
  f15 := ⟨Tryz.f70.name, by decide, Tryz.func70.trans (congrArg some (by kernel_rfl))⟩
  f16 := ⟨Tryz.f71.name, by decide, Tryz.func71.trans (congrArg some (by kernel_rfl))⟩
  f17 := ⟨Tryz.f72.name, by decide, Tryz.func72.trans (congrArg some (by kernel_rfl))⟩
  f18 := ⟨Tryz.f73.name, by decide, Tryz.func73.trans (congrArg some (by kernel_rfl))⟩
  f19 := Tryz.func74.trans (congrArg some (by kernel_rfl))
  f20 := Tryz.func75.trans (congrArg some (by kernel_rfl))
  f30 := ⟨Tryz.f92.name, by decide, Tryz.func92.trans (congrArg some (by kernel_rfl))⟩
  f31 := Tryz.func93.trans (congrArg some (by kernel_rfl))
  f32 := Tryz.func94.trans (congrArg some (by kernel_rfl))
  f33 := ⟨Tryz.f95.name, by decide, Tryz.func95.trans (congrArg some (by kernel_rfl))⟩
  f34 := ⟨Tryz.f96.name, by decide, Tryz.func96.trans (congrArg some (by kernel_rfl))⟩
  f35 := ⟨Tryz.f41.name, by decide, Tryz.func41.trans (congrArg some (by kernel_rfl))⟩
  f40 := ⟨Tryz.f115.name, by decide, Tryz.func115.trans (congrArg some (by kernel_rfl))⟩
  t0 := Tryz.underlying0
  a0 := Tryz.isAgg0
  z0 := Tryz.sizeOf0
  v0 := Tryz.zeroValue0
  t3 := Tryz.underlying3
  a3 := Tryz.isAgg3
  z3 := Tryz.sizeOf3
  v3 := Tryz.zeroValue3
  t4 := Tryz.underlying4
  a4 := Tryz.isAgg4
  z4 := Tryz.sizeOf4
  v4 := Tryz.zeroValue4
  t5 := Tryz.underlying5
  a5 := Tryz.isAgg5
  z5 := Tryz.sizeOf5
  v5 := Tryz.zeroValue5
  t9 := Tryz.underlying9
  a9 := Tryz.isAgg9
  z9 := Tryz.sizeOf9
  v9 := Tryz.zeroValue9
  t22 := Tryz.underlying37
  a22 := Tryz.isAgg37
  z22 := Tryz.sizeOf37
  v22 := Tryz.zeroValue37
  t23 := Tryz.underlying37
  a23 := Tryz.isAgg37
  z23 := Tryz.sizeOf37
  v23 := Tryz.zeroValue37
  t25 := Tryz.underlying3
  a25 := Tryz.isAgg3
  z25 := Tryz.sizeOf3
  v25 := Tryz.zeroValue3
  t32 := Tryz.underlying89
  a32 := Tryz.isAgg89
  z32 := Tryz.sizeOf89
  v32 := Tryz.zeroValue89
  t35 := Tryz.underlying112
  a35 := Tryz.isAgg112
  z35 := Tryz.sizeOf112
  v35 := Tryz.zeroValue112
  t36 := Tryz.underlying113
  a36 := Tryz.isAgg113
  z36 := Tryz.sizeOf113
  v36 := Tryz.zeroValue113
  t41 := Tryz.underlying78
  a41 := Tryz.isAgg78
  z41 := Tryz.sizeOf78
  v41 := Tryz.zeroValue78
  t44 := Tryz.underlying120
  a44 := Tryz.isAgg120
  z44 := Tryz.sizeOf120
  v44 := Tryz.zeroValue120
  t46 := Tryz.underlying24
  a46 := Tryz.isAgg24
  z46 := Tryz.sizeOf24
  v46 := Tryz.zeroValue24
  t53 := Tryz.underlying139
  a53 := Tryz.isAgg139
  z53 := Tryz.sizeOf139
  v53 := Tryz.zeroValue139
  t57 := Tryz.underlying143
  a57 := Tryz.isAgg143
  z57 := Tryz.sizeOf143
  v57 := Tryz.zeroValue143
  t63 := Tryz.underlying158
  a63 := Tryz.isAgg158
  z63 := Tryz.sizeOf158
  v63 := Tryz.zeroValue158
  t64 := Tryz.underlying159
  a64 := Tryz.isAgg159
  z64 := Tryz.sizeOf159
  v64 := Tryz.zeroValue159 }
end Go.Proofs
