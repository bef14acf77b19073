/- Texts that the laws lean on, in the order in which they build. Trace.Certificate. (Printed by mktrcert.py.) A certificate among a law's arguments, opened. Package certificate: increasing, at answers and at claims. Package certificate: increasing at claims, short. A trace that asks a list of answers: what holds of it, and that the certificate of an agreed one is accepted where it is well-formed and consistent. Plain. A trace that is answered out of a table: what a round leaves in memory. Package certificate: formed. The keys of package certificate: stubs, scions, numbers. (Printed by mkctt.py.) Package certificate: found, answers. Package certificate: answers. Claims in boxes of their own, each with its lists of needs. DERIVED: THE SHELF's CONTRACTS AT THIS DUMP, IN PLAIN WORDS (tools/lay-plain.mjs out of 'YtiplgpefapeapaaGreatIterSrc36.lean', which tools/lay-shelf.mjs wrote): THE SAME DECLARATIONS UNDER THE SAME NAMES: 'import', 'namespace', 'open', 'def', 'theorem' AND NOTHING ELSE: no command of the shelf's: FOR A HAND-IN. Each laying: the table of numbers ('.._ren') and one theorem, a field a fact of the dump's own or the kernel's comparison; each contract: ONE APPLICATION. -/
import Derived.Test.YtiplgpefapeapaaGreatT6
import Derived.Test.YtiplgpefapeapaaGreatProg
import Derived.Shelf.SlIterI.Sorted
import Derived.Shelf.SlIterI.Collect
import Derived.Shelf.SlIterI.Keys
import Derived.Shelf.SortM.Plain
import Derived.Shelf.SortM.SortNone
import Derived.Ground.GgzProg
import Derived.Ground.SlgmProg
set_option linter.unusedVariables false
set_option linter.unusedSimpArgs false
namespace Go.Proofs.YtiplgpefapeapaaGreat
open Go.RowKit

abbrev tCt : Nat := 32
theorem sizeCt : (Tryz.prog.info? tCt).map (·.size) = some 7 := by kernel_rfl
theorem load_ct (w : World) (g : Nat) (t : TypeId) (x0 x1 x2 x3 x4 x5 x6 : Value) (f : Nat × Nat) (hg : w.heap[g]? = some (.cells #[x0, x1, x2, x3, x4, x5, x6] t f)) : (loadVar tCt ⟨g, 0, none⟩).run Tryz.prog w = .ok (.agg #[x0, x1, x2, x3, x4, x5, x6]) w :=
  run_loadVar_row w g t tCt #[x0, x1, x2, x3, x4, x5, x6] f _ hg Tryz.underlying32 rfl sizeCt
theorem results_ct {fn : Func} {p u : Tmp} (h : fn.results = #[.cell p tCt, .tmp u]) (tmps : Array Value) (w : World) (g : Nat) (t : TypeId) (x0 x1 x2 x3 x4 x5 x6 : Value) (f : Nat × Nat) (hp : tmps.getD p undef = .pointer (some ⟨g, 0, none⟩))
    (hg : w.heap[g]? = some (.cells #[x0, x1, x2, x3, x4, x5, x6] t f)) : (results fn tmps).run Tryz.prog w = .ok (.tuple #[.agg #[x0, x1, x2, x3, x4, x5, x6], tmps.getD u undef]) w := by
  have hp' : tmps[p]?.getD undef = .pointer (some ⟨g, 0, none⟩) := by simpa using hp
  simp [results, h, hp', asAddr, load_ct w g t x0 x1 x2 x3 x4 x5 x6 f hg]
/-- A certificate as its cells. -/
structure CtV where
  im : Int
  is : Int
  s0 : Int
  s1 : Nat
  s2 : Int
  va : Option Addr × Nat × Nat
  vc : Option Addr × Nat × Nat
def ctV (x : CtV) : Value := .agg #[.int .i64 x.im, .int .i64 x.is, .int .i64 x.s0, .int .u64 x.s1, .int .i64 x.s2, slv x.va, slv x.vc]
/-- What a certificate says: its trace, its start, its answers and its claims. -/
structure CtR (w : World) (x : CtV) (t : Tr) : Prop where
  im : x.im = t.im
  is : x.is = t.is
  s0 : x.s0 = t.st.1
  s1 : x.s1 = t.st.2.1
  s2 : x.s2 = t.st.2.2
  an : ∃ X, shA.R w (slv x.va) X ∧ LA w X (srtOf t.qs)
  cl : LC w (slv x.vc) t.clm
def CertPost (w : World) (t : Tr) (e : Ending) (w' : World) : Prop :=
  Keeps [] w w' ∧ ((t.state ≠ 2 ∧ e = .returned (.tuple #[ctV ⟨0, 0, 0, 0, 0, (none, 0, 0), (none, 0, 0)⟩, .int .i64 9])) ∨ (t.state = 2 ∧ ∃ x, e = .returned (.tuple #[ctV x, .int .i64 0]) ∧ CtR w' x t))
set_option maxRecDepth 100000 in
set_option maxHeartbeats 4000000 in
theorem cert_c (w : World) (B bt bm : Nat) (vo vh vg : Value) (t : Tr) (h : TrM w B bt bm vo vh vg t) (hl : t.qs.length ≤ 1000) :
    Calls Tryz.prog 18 #[.pointer (some ⟨bt, 0, none⟩)] w (CertPost w t) := by
  have hlt := h.lt.1
  have hbZ := heap_alloc_new w (.cells #[.int .i64 0, .int .i64 0, .int .i64 0, .int .u64 0, .int .i64 0, .slice none 0 0, .slice none 0 0] tCt)
  have hkA : Keeps [] w (w.alloc (.cells #[.int .i64 0, .int .i64 0, .int .i64 0, .int .u64 0, .int .i64 0, .slice none 0 0, .slice none 0 0] tCt)) := (Keeps.refl _ _).alloc _
  have hcs := h.cells
  by_cases hs : t.state = 2
  case neg =>
    have c9 := hcs.2.2.2.2.2.2.2.2.2.1
    have hsb : (t.state != 2) = true := by simpa using hs
    replace hkA := Lib.hid hkA
    replace hbZ := Lib.hid hbZ
    replace hs := Lib.hid hs
    clear h hcs
    go_enter Tryz.func18, Tryz.ntmps18
    go_wp2
    refine bodyPost_ret (results_ct rfl _ _ _ _ _ _ _ _ _ _ _ _ rfl hbZ.out) rfl ?_
    exact ⟨hkA.out, .inl ⟨hs.out, rfl⟩⟩
  case pos =>
    have hT := h.keeps hkA
    obtain ⟨d0, d1, d2, d3, d4, d5, d6, d7, d8, d9, d10, d11⟩ := hT.cells
    have c9 := hcs.2.2.2.2.2.2.2.2.2.1
    rw [hs] at c9
    clear d9
    obtain ⟨W, hW⟩ : ∃ W, (w.alloc (.cells #[.int .i64 0, .int .i64 0, .int .i64 0, .int .u64 0, .int .i64 0, .slice none 0 0, .slice none 0 0] tCt)) = W := ⟨_, rfl⟩
    rw [hW] at hbZ hkA hT d0 d1 d2 d3 d4
    have hdd : W.drew.heap[w.heap.size]? = _ := hbZ
    have hcT := hT.keeps (Keeps.refl [] W).drew
    have hkd := hkA.drew
    replace hkA := Lib.hid hkA
    replace hbZ := Lib.hid hbZ
    replace hs := Lib.hid hs
    replace hW := Lib.hid hW
    replace hT := Lib.hid hT
    replace hdd := Lib.hid hdd
    replace hcT := Lib.hid hcT
    replace hkd := Lib.hid hkd
    clear h hcs d5 d6 d7 d8 d10 d11
    obtain ⟨im, is, ⟨s0, s1, s2⟩, qs, told, hist, state, ag, rf⟩ := t
    simp only at d0 d1 d2 d3 d4 hl
    go_enter Tryz.func18, Tryz.ntmps18
    go_wp2
    rw [hW.out]
    have e0 := (Keeps.refl [] W).drew.val d0
    have e1 := (Keeps.refl [] W).drew.val d1
    have e2 := (Keeps.refl [] W).drew.val d2
    have e3 := (Keeps.refl [] W).drew.val d3
    have e4 := (Keeps.refl [] W).drew.val d4
    clear d0 d1 d2 d3 d4 c9
    refine Free.wp_region_chain (fun i => i == 9 || i == 11 || i == 13) (fun i => true) (fun _ b => b = w.heap.size) (by kernel_rfl) (by kernel_rfl) (by kernel_rfl) ?_
    generalize W.drew = wd at *
    (repeat (first | (apply Free.cw_pure rfl rfl; (intro w'; go_simp <;> exact rfl); go_frame) | (apply Free.cw_steady rfl rfl rfl; (intro w' hS; have q0 := Free.sx_cell hS e0 (fun _ _ hT => by omega); have q1 := Free.sx_cell hS e1 (fun _ _ hT => by omega); have q2 := Free.sx_cell hS e2 (fun _ _ hT => by omega); have q3 := Free.sx_cell hS e3 (fun _ _ hT => by omega); have q4 := Free.sx_cell hS e4 (fun _ _ hT => by omega); go_simp <;> exact rfl); go_frame) | (refine Free.cw_skip rfl ?_; go_frame)))
    refine Free.cw_loud rfl rfl (fun K hK => ?_)
    go_wp2_with fail
    refine (answers_c wd B bt bm vo vh vg _ hcT.out (by simp only; omega)).mono ?_
    rintro e w2 ⟨v2, X, Y, rfl, hXO, hXL, hY, hk2⟩
    refine hK _ _ rfl (Free.KeepsP.of hk2 (by simp)) ?_
    clear hK K
    have hYe := hY.uniq (srtOf_sorted hcT.out.inv)
    subst hYe
    obtain ⟨va, ca, rfl⟩ := hXO.form
    obtain ⟨YN, hYN⟩ : ∃ n, X.length = n := ⟨_, rfl⟩
    rw [hYN]
    have hT2 := hcT.out.keeps hk2
    have hb2 := (hk2.block _ (lt_of_blk hdd.out) (by simp)).trans hdd.out
    have hkw2 := hkd.out.trans hk2
    rw [hYN] at hXO
    replace hXO := Lib.hid hXO
    replace hXL := Lib.hid hXL
    replace hYN := Lib.hid hYN
    replace hT2 := Lib.hid hT2
    replace hb2 := Lib.hid hb2
    replace hkw2 := Lib.hid hkw2
    clear hk2 hY
    (repeat (first | (apply Free.cw_pure rfl rfl; (intro w'; go_simp <;> exact rfl); go_frame) | (apply Free.cw_steady rfl rfl rfl; (intro w' hS; have q0 := Free.sx_cell hS e0 (fun _ _ hT => by omega); have q1 := Free.sx_cell hS e1 (fun _ _ hT => by omega); have q2 := Free.sx_cell hS e2 (fun _ _ hT => by omega); have q3 := Free.sx_cell hS e3 (fun _ _ hT => by omega); have q4 := Free.sx_cell hS e4 (fun _ _ hT => by omega); go_simp <;> exact rfl); go_frame) | (refine Free.cw_skip rfl ?_; go_frame)))
    refine Free.cw_loud rfl rfl (fun K hK => ?_)
    go_wp2_with fail
    refine (claims_c w2 B bt bm vo vh vg _ hT2.out (by simp only; omega)).mono ?_
    rintro e w3 ⟨v3, P, V, Bc, Y, rfl, hBc, hCL, hY, hP, hk3⟩
    refine hK _ _ rfl (Free.KeepsP.of hk3 (by simp)) ?_
    clear hK K
    have hPe := Tr.clm_eq hT2.out.inv hY hP
    have hLC := hCL.lc
    rw [hPe] at hLC
    obtain ⟨vc, cc, hvc, _, _⟩ := hLC.form
    subst hvc
    obtain ⟨PN, hPN⟩ : ∃ n, (Tr.clm ⟨im, is, (s0, s1, s2), qs, told, hist, state, ag, rf⟩).length = n := ⟨_, rfl⟩
    rw [hPN] at hLC ⊢
    have hCL2 := hCL
    rw [hPN] at hCL2
    replace hCL2 := Lib.hid hCL2
    replace hBc := Lib.hid hBc
    replace hPe := Lib.hid hPe
    have hX3 := hXO.out.keeps hk3
    have hL3 := hXL.out.ki hk3.ki0
    have hb3 := (hk3.block _ (lt_of_blk hb2.out) (by simp)).trans hb2.out
    have hkw3 := hkw2.out.trans hk3
    obtain ⟨z0, z1, z2, z3, z4, z5, z6, zf, zl⟩ := cl7 hb3
    replace hX3 := Lib.hid hX3
    replace hL3 := Lib.hid hL3
    replace hb3 := Lib.hid hb3
    replace hkw3 := Lib.hid hkw3
    replace hLC := Lib.hid hLC
    replace hPN := Lib.hid hPN
    clear hk3 hCL hP hY hXO hXL
    (repeat (first | (apply Free.cw_pure rfl rfl; (intro w'; go_simp <;> exact rfl); go_frame) | (apply Free.cw_steady rfl rfl rfl; (intro w' hS; have q0 := Free.sx_cell hS e0 (fun _ _ hT => by omega); have q1 := Free.sx_cell hS e1 (fun _ _ hT => by omega); have q2 := Free.sx_cell hS e2 (fun _ _ hT => by omega); have q3 := Free.sx_cell hS e3 (fun _ _ hT => by omega); have q4 := Free.sx_cell hS e4 (fun _ _ hT => by omega); go_simp <;> exact rfl); go_frame) | (refine Free.cw_skip rfl ?_; go_frame)))
    refine Free.cw_loud rfl rfl (fun K hK => ?_)
    go_wp2
    refine hK _ _ rfl (Free.KeepsP.of (sc7 (.int .i64 im) (.int .i64 is) (.int .i64 s0) (.int .u64 s1) (.int .i64 s2) (.slice va YN ca) (.slice vc PN cc) hb3.out).2 (fun b hb => by simpa using hb)) ?_
    clear hK K
    (repeat (apply Free.cw_pure rfl rfl; (intro w'; go_simp <;> exact rfl); go_frame))
    refine Free.cw_nil ?_
    go_wp2
    obtain ⟨g1, g2⟩ := sc7 (.int .i64 im) (.int .i64 is) (.int .i64 s0) (.int .u64 s1) (.int .i64 s2) (.slice va YN ca) (.slice vc PN cc) hb3.out
    have hkf := hkw3.out.fresh g2 (fun b hb => by simp only [List.mem_singleton] at hb; subst hb; exact .inr (Nat.le_refl _))
    refine bodyPost_ret (results_ct rfl _ _ _ _ _ _ _ _ _ _ _ _ rfl g1) rfl ?_
    refine ⟨hkf, .inr ⟨hs.out, ⟨im, is, s0, s1, s2, (va, YN, ca), (vc, PN, cc)⟩, rfl, rfl, rfl, rfl, rfl, rfl, ?_, ?_⟩⟩
    · refine ⟨X, (hX3.out.keepS g2 (fun b hb e => ?_)).r, hL3.out.ki (g2.ki (fun b hb cs f e => ?_))⟩
      · simp only [List.mem_singleton] at hb
        subst hb
        obtain ⟨cs, hc⟩ := hX3.out.tag _ e
        exact tag_ne hb3.out hc (by decide) rfl
      · simp only [List.mem_singleton] at hb
        subst hb
        rw [hb3.out] at e
        cases e
    · have hZB : w.heap.size < Bc := Nat.lt_of_lt_of_le (lt_of_blk hb2.out) hBc.out
      have hC4 : CL _ Bc (.slice vc PN cc) P V := ⟨hCL2.out.c.keepS g2 (fun b hb e => by
        simp only [List.mem_singleton] at hb
        subst hb
        have := hCL2.out.c.ge _ e
        omega), fun k j h1 h2 => (hCL2.out.o k j h1 h2).keepS g2 (fun b hb e => by
        simp only [List.mem_singleton] at hb
        subst hb
        have := (hCL2.out.o k j h1 h2).ge _ e
        omega), hCL2.out.d⟩
      have hf := hC4.lc
      rw [hPe.out] at hf
      exact hf
end Go.Proofs.YtiplgpefapeapaaGreat

namespace Go.Proofs.YtiplgpefapeapaaGreat
open Go.ChangeShapes Go.WideShapes Go.ChangeAt Go.RowKit

/-- The elements' cells, and what they say, parted. -/
theorem SlR.split {α β : Type} {w : World} {v : Value} {L : List α} (s : Sh β) {Rel : World → List Value → α → Prop} {Q : β → α → Prop} (hR : ∀ cs y, Rel w cs y → ∃ x, cs = s.cf x ∧ Q x y) (h : Gen.SlR Rel s.sz w v L) :
    ∃ X, s.R w v X ∧ X.length = L.length ∧ ∀ (k : Nat) (x : β) (y : α), X[k]? = some x → L[k]? = some y → Q x y := by
  obtain ⟨cs, h1, h2⟩ := h
  by_cases hl : L.length = 0
  · have : L = [] := List.eq_nil_of_length_eq_zero hl
    subst this
    exact ⟨[], Sh.R.of_slR (Rel := fun _ cs x => cs = s.cf x) (fun _ _ h => h) ⟨cs, h1, fun k hk => by simp at hk⟩, rfl, fun k x y h => by simp at h⟩
  haveI : Inhabited β := ⟨(hR _ _ (h2 0 (by omega))).choose⟩
  obtain ⟨f, hf⟩ := Go.Deep.choose_lt (α := β) (n := L.length) (p := fun k x => ∀ (hk : k < L.length), (cs.drop (k * s.sz)).take s.sz = s.cf x ∧ Q x L[k]) (fun k hk => by
    obtain ⟨x, e1, e2⟩ := hR _ _ (h2 k hk)
    exact ⟨x, fun _ => ⟨e1, e2⟩⟩)
  refine ⟨(List.range L.length).map f, Sh.R.of_slR (Rel := fun _ cs x => cs = s.cf x) (fun _ _ h => h) ⟨cs, by simpa using h1, fun k hk => ?_⟩, by simp, fun k x y hx hy => ?_⟩
  · simp at hk
    simpa using (hf k hk hk).1
  · obtain ⟨hk, rfl⟩ := List.getElem?_eq_some_iff.1 hy
    obtain ⟨hk2, rfl⟩ := List.getElem?_eq_some_iff.1 hx
    simpa using (hf k hk hk).2
/-- Numbers that fit. -/
def T3.Fit (x : T3) : Prop := W64 x.1 ∧ x.2.1 < 18446744073709551616 ∧ W64 x.2.2
structure PCl.Fit (p : PCl) : Prop where
  m : W64 p.m
  ep : W64 p.ep
  st : ∀ x ∈ p.st, T3.Fit x
  sc : ∀ x ∈ p.sc, T3.Fit x
  ch : ∀ x ∈ p.ch, T3.Fit x
structure Ct.Fit (c : Ct) : Prop where
  im : W64 c.im
  is : W64 c.is
  st : T3.Fit c.st
  an : ∀ a ∈ c.an, a.Fit
  cl : ∀ p ∈ c.cl, p.Fit
/-- The cells of a certificate say this certificate. -/
structure CtW (w : World) (x : CtV) (c : Ct) : Prop where
  im : x.im = c.im
  is : x.is = c.is
  s0 : x.s0 = c.st.1
  s1 : x.s1 = c.st.2.1
  s2 : x.s2 = c.st.2.2
  an : RdA w (slv x.va) c.an
  cl : LC w (slv x.vc) c.cl
theorem CtW.keeps {w w' : World} {x : CtV} {c : Ct} (h : CtW w x c) (hk : Keeps [] w w') : CtW w' x c := ⟨h.im, h.is, h.s0, h.s1, h.s2, h.an.keeps hk, h.cl.keeps hk⟩
set_option maxRecDepth 100000 in
set_option maxHeartbeats 1000000 in
theorem cs_answers {w : World} {v : Value} (h : Gen.Cs Tryz.prog w 29 [v]) : ∃ Y : List Ans, RdA w v Y ∧ ∀ a ∈ Y, a.Fit := by
  obtain ⟨L, hL, _⟩ := Gen.SlR.open (R := AnC) Tryz.underlying29 (show Tryz.prog.cellsOf tA = 8 by kernel_rfl) (by decide) (fun cs hcs => cs_ans hcs) h
  refine ⟨L, ?_, fun p hp => ?_⟩
  · obtain ⟨X, h1, h2, h3⟩ := SlR.split shA (Q := fun x p => InR w x p) (fun cs y ⟨x, e1, e2, _⟩ => ⟨x, e1, e2⟩) hL
    exact ⟨X, h1, h2, h3⟩
  · obtain ⟨k, hk, rfl⟩ := List.mem_iff_getElem.1 hp
    obtain ⟨cs, _, h2⟩ := hL
    obtain ⟨x, _, _, h3⟩ := h2 k hk
    exact h3
end Go.Proofs.YtiplgpefapeapaaGreat

namespace Go.Proofs.YtiplgpefapeapaaGreat
open Go.RowKit

abbrev fnV (f : Nat) : Value := .func (.func f) #[] #[]
theorem cfA_lt (x y : AnV) : cfA x y < 0 ↔ qlt x.q y.q := by
  have := ltA_iff x y
  unfold ltOf at this
  exact decide_eq_decide.1 this
set_option maxRecDepth 100000 in
set_option maxHeartbeats 4000000 in
theorem incA_c (w : World) (v : Value) (Y : List Ans) (h : RdA w v Y) :
    Calls Tryz.prog 99 #[v, fnV 100] w fun e w' => e = .returned (.bool (incA Y)) ∧ Keeps [] w w' := by
  obtain ⟨a, c, rfl, hlc, hcm⟩ := h.form
  obtain ⟨M, hM⟩ : ∃ N, Y.length = N := ⟨_, rfl⟩
  rw [hM] at hlc ⊢
  have hMm : M ≤ 9223372036854775807 := by unfold maxLen at hcm; omega
  obtain ⟨r, hr⟩ : ∃ r, incA Y = r := ⟨_, rfl⟩
  rw [hr]
  replace h := Lib.hid h
  replace hM := Lib.hid hM
  replace hr := Lib.hid hr
  go_enter Tryz.func99, Tryz.ntmps99
  go_wp2
  go_loopw [5] (fun i wr => ∃ k : Nat, i = .int .i64 k ∧ 1 ≤ k ∧ (k ≤ M ∨ k = 1) ∧ Hid (∀ j (hj : j + 1 < Y.length), j + 1 < k → qlt (Y[j]'(by omega)).q Y[j + 1].q) ∧ Hid (Keeps [] w wr)) (fun i _ => M + 1 - (intOf i).toNat)
  case atStart => exact ⟨1, rfl, by omega, .inr rfl, Lib.hid (fun _ _ h => by omega), Lib.hid (Keeps.refl _ _)⟩
  case round =>
    obtain ⟨k, rfl, hk1, hkM, hno, hkw⟩ := hrel
    by_cases hlt : k < M
    · have hlt2 : (k : Int) < M := by omega
      have hkl : k < Y.length := by rw [hM.out]; exact hlt
      obtain ⟨m, hm⟩ : ∃ m, k = m + 1 := ⟨k - 1, by omega⟩
      have hml : m < Y.length := by omega
      have hmM : (m : Int) < M := by omega
      have hwm : IntKind.i64.wrap ((k : Int) - 1) = m := by rw [IntWalk.i64_in _ (by omega)]; omega
      have hkd := hkw.out.drew
      obtain ⟨g, o, c', x, hv, hx, he⟩ := (h.out.keeps hkd).elem hkl
      obtain ⟨g2, o2, c2, y, hv2, hy, he2⟩ := (h.out.keeps hkd).elem hml
      rw [hM.out] at hv hv2
      cases hv
      cases hv2
      have hqx : x.q = Y[k].q := by unfold AnV.q Ans.q; rw [hx.m, hx.ow, hx.n]
      have hqy : y.q = Y[m].q := by unfold AnV.q Ans.q; rw [hy.m, hy.ow, hy.n]
      obtain ⟨C, hC⟩ : ∃ C, cfA y x = C := ⟨_, rfl⟩
      have hcl : C < 0 ↔ qlt Y[m].q Y[k].q := by rw [← hC, cfA_lt, hqx, hqy]
      have hcc := fun W => cmpB_c y x W
      rw [hC] at hcc
      obtain ⟨x0, x1, x2, x3, x4, x5, x6, x7, x8, x9⟩ := x
      obtain ⟨y0, y1, y2, y3, y4, y5, y6, y7, y8, y9⟩ := y
      simp only [aV, AnV.v] at hcc
      have e0 := he 0 _ rfl
      have e1 := he 1 _ rfl
      have e2 := he 2 _ rfl
      have e3 := he 3 _ rfl
      have e4 := he 4 _ rfl
      have e5 := he 5 _ rfl
      have e6 := he 6 _ rfl
      have e7 := he 7 _ rfl
      have f0 := he2 0 _ rfl
      have f1 := he2 1 _ rfl
      have f2 := he2 2 _ rfl
      have f3 := he2 3 _ rfl
      have f4 := he2 4 _ rfl
      have f5 := he2 5 _ rfl
      have f6 := he2 6 _ rfl
      have f7 := he2 7 _ rfl
      simp only [AnV.v, Nat.add_zero] at e0 e1 e2 e3 e4 e5 e6 e7 f0 f1 f2 f3 f4 f5 f6 f7
      replace hcl := Lib.hid hcl
      replace hcc := Lib.hid hcc
      replace hm := Lib.hid hm
      replace hkd := Lib.hid hkd
      clear he he2 hx hy hqx hqy hC
      go_upto_region 4 with fail
      refine Free.wp_region_chain (fun i => i == 10) (fun i => true) (fun _ _ => False) (by kernel_rfl) (by kernel_rfl) (by kernel_rfl) ?_
      generalize wr.drew = wd at *
      (repeat (first | (apply Free.cw_pure rfl rfl; (intro w'; go_simp <;> exact rfl); go_frame) | (apply Free.cw_steady rfl rfl rfl; (intro w' hS; have q0 := Free.sx_cell hS e0 (fun _ _ hT => hT); have q1 := Free.sx_cell hS e1 (fun _ _ hT => hT); have q2 := Free.sx_cell hS e2 (fun _ _ hT => hT); have q3 := Free.sx_cell hS e3 (fun _ _ hT => hT); have q4 := Free.sx_cell hS e4 (fun _ _ hT => hT); have q5 := Free.sx_cell hS e5 (fun _ _ hT => hT); have q6 := Free.sx_cell hS e6 (fun _ _ hT => hT); have q7 := Free.sx_cell hS e7 (fun _ _ hT => hT); have q8 := Free.sx_cell hS f0 (fun _ _ hT => hT); have q9 := Free.sx_cell hS f1 (fun _ _ hT => hT); have q10 := Free.sx_cell hS f2 (fun _ _ hT => hT); have q11 := Free.sx_cell hS f3 (fun _ _ hT => hT); have q12 := Free.sx_cell hS f4 (fun _ _ hT => hT); have q13 := Free.sx_cell hS f5 (fun _ _ hT => hT); have q14 := Free.sx_cell hS f6 (fun _ _ hT => hT); have q15 := Free.sx_cell hS f7 (fun _ _ hT => hT); go_simp <;> exact rfl); go_frame) | (refine Free.cw_skip rfl ?_; go_frame)))
      refine Free.cw_loud rfl rfl (fun K hK => ?_)
      go_wp2_with fail
      refine (hcc.out _).mono ?_
      rintro e w1 ⟨rfl, q, os, rfl⟩
      have hkg := keeps_grow wd q os
      refine hK _ _ rfl (Free.KeepsP.of hkg (by simp)) ?_
      replace hkd := Lib.hid (hkd.out.trans hkg)
      clear hK K hcc hkg
      (repeat (apply Free.cw_pure rfl rfl; (intro w'; go_simp <;> exact rfl); go_frame))
      refine Free.cw_nil ?_
      by_cases hq : C < 0
      · have hd : decide ((0 : Int) ≤ C) = false := by simpa using hq
        have hno2 : ∀ j (hj : j + 1 < Y.length), j + 1 < k + 1 → qlt (Y[j]'(by omega)).q Y[j + 1].q := fun j hj hjk => by
          by_cases e : j + 1 = k
          · have hjm : j = m := by have := hm.out; omega
            subst hjm
            have := hcl.out.1 hq
            simp only [e]
            exact this
          · exact hno.out j hj (by omega)
        replace hno2 := Lib.hid hno2
        go_wp2
        go_roundw
        case rel => exact ⟨k + 1, rfl, by omega, .inl (by omega), hno2, hkd⟩
        case measure => simp [intOf]; omega
      · have hd : decide ((0 : Int) ≤ C) = true := by simpa using hq
        have hf : false = r := by
          rw [← hr.out]
          refine (Bool.eq_false_iff.2 (fun hi => hq (hcl.out.2 ?_))).symm
          have := incA_iff.1 hi m (by have := hm.out; omega)
          have e := hm.out
          subst e
          exact this
        replace hf := Lib.hid hf
        go_wp2
        go_ret
        exact ⟨by rw [← hf.out]; rfl, hkd.out⟩
    · have hlt2 : ¬ ((k : Int) < M) := by omega
      have hf : true = r := by
        rw [← hr.out]
        exact (incA_iff.2 (fun j hj => hno.out j hj (by have := hM.out; omega))).symm
      replace hf := Lib.hid hf
      go_wp2
      go_ret
      exact ⟨by rw [← hf.out]; rfl, hkw.out⟩
end Go.Proofs.YtiplgpefapeapaaGreat

namespace Go.Proofs.YtiplgpefapeapaaGreat
open Go.RowKit

set_option maxRecDepth 100000 in
set_option maxHeartbeats 4000000 in
theorem incC_c (w : World) (v : Value) (Y : List PCl) (h : LC w v Y) :
    Calls Tryz.prog 101 #[v, fnV 102] w fun e w' => e = .returned (.bool (incC Y)) ∧ Keeps [] w w' := by
  obtain ⟨a, c, rfl, hlc, hcm⟩ := h.form
  obtain ⟨M, hM⟩ : ∃ N, Y.length = N := ⟨_, rfl⟩
  rw [hM] at hlc ⊢
  have hMm : M ≤ 9223372036854775807 := by unfold maxLen at hcm; omega
  obtain ⟨r, hr⟩ : ∃ r, incC Y = r := ⟨_, rfl⟩
  rw [hr]
  replace h := Lib.hid h
  replace hM := Lib.hid hM
  replace hr := Lib.hid hr
  go_enter Tryz.func101, Tryz.ntmps101
  go_wp2
  go_loopw [5] (fun i wr => ∃ k : Nat, i = .int .i64 k ∧ 1 ≤ k ∧ (k ≤ M ∨ k = 1) ∧ Hid (∀ j (hj : j + 1 < Y.length), j + 1 < k → (Y[j]'(by omega)).m < Y[j + 1].m) ∧ Hid (Keeps [] w wr)) (fun i _ => M + 1 - (intOf i).toNat)
  case atStart => exact ⟨1, rfl, by omega, .inr rfl, Lib.hid (fun _ _ h => by omega), Lib.hid (Keeps.refl _ _)⟩
  case round =>
    obtain ⟨k, rfl, hk1, hkM, hno, hkw⟩ := hrel
    by_cases hlt : k < M
    · have hlt2 : (k : Int) < M := by omega
      have hkl : k < Y.length := by rw [hM.out]; exact hlt
      obtain ⟨m, hm⟩ : ∃ m, k = m + 1 := ⟨k - 1, by omega⟩
      have hml : m < Y.length := by omega
      have hmM : (m : Int) < M := by omega
      have hwm : IntKind.i64.wrap ((k : Int) - 1) = m := by rw [IntWalk.i64_in _ (by omega)]; omega
      have hkd := hkw.out.drew
      obtain ⟨g, o, c', x, hv, hx, e0, e1, e2, e3, e4⟩ := (h.out.keeps hkd).elem hkl
      obtain ⟨g2, o2, c2, y, hv2, hy, f0, f1, f2, f3, f4⟩ := (h.out.keeps hkd).elem hml
      rw [hM.out] at hv hv2
      cases hv
      cases hv2
      have hqx := hx.m
      have hqy := hy.m
      obtain ⟨C, hC⟩ : ∃ C, cI y.m x.m = C := ⟨_, rfl⟩
      have hcl : C < 0 ↔ Y[m].m < Y[k].m := by rw [← hC, cI_lt, hqx, hqy]
      have hcc := fun W => cmpC_c y x W
      rw [hC] at hcc
      obtain ⟨x0, x1, ⟨x2, x3, x4⟩, ⟨x5, x6, x7⟩, ⟨x8, x9, x10⟩⟩ := x
      obtain ⟨y0, y1, ⟨y2, y3, y4⟩, ⟨y5, y6, y7⟩, ⟨y8, y9, y10⟩⟩ := y
      simp only [slv] at hcc e0 e1 e2 e3 e4 f0 f1 f2 f3 f4
      replace hcl := Lib.hid hcl
      replace hcc := Lib.hid hcc
      replace hm := Lib.hid hm
      replace hkd := Lib.hid hkd
      clear hx hy hqx hqy hC
      go_upto_region 4 with fail
      refine Free.wp_region_chain (fun i => i == 10) (fun i => true) (fun _ _ => False) (by kernel_rfl) (by kernel_rfl) (by kernel_rfl) ?_
      generalize wr.drew = wd at *
      (repeat (first | (apply Free.cw_pure rfl rfl; (intro w'; go_simp <;> exact rfl); go_frame) | (apply Free.cw_steady rfl rfl rfl; (intro w' hS; have q0 := Free.sx_cell hS e0 (fun _ _ hT => hT); have q1 := Free.sx_cell hS e1 (fun _ _ hT => hT); have q2 := Free.sx_cell hS e2 (fun _ _ hT => hT); have q3 := Free.sx_cell hS e3 (fun _ _ hT => hT); have q4 := Free.sx_cell hS e4 (fun _ _ hT => hT); have q5 := Free.sx_cell hS f0 (fun _ _ hT => hT); have q6 := Free.sx_cell hS f1 (fun _ _ hT => hT); have q7 := Free.sx_cell hS f2 (fun _ _ hT => hT); have q8 := Free.sx_cell hS f3 (fun _ _ hT => hT); have q9 := Free.sx_cell hS f4 (fun _ _ hT => hT); go_simp <;> exact rfl); go_frame) | (refine Free.cw_skip rfl ?_; go_frame)))
      refine Free.cw_loud rfl rfl (fun K hK => ?_)
      go_wp2_with fail
      refine (hcc.out _).mono ?_
      rintro e w1 ⟨rfl, hkg⟩
      refine hK _ _ rfl (Free.KeepsP.of hkg (by simp)) ?_
      replace hkd := Lib.hid (hkd.out.trans hkg)
      clear hK K hcc hkg
      (repeat (apply Free.cw_pure rfl rfl; (intro w'; go_simp <;> exact rfl); go_frame))
      refine Free.cw_nil ?_
      by_cases hq : C < 0
      · have hd : decide ((0 : Int) ≤ C) = false := by simpa using hq
        have hno2 : ∀ j (hj : j + 1 < Y.length), j + 1 < k + 1 → (Y[j]'(by omega)).m < Y[j + 1].m := fun j hj hjk => by
          by_cases e : j + 1 = k
          · have hjm : j = m := by have := hm.out; omega
            subst hjm
            have := hcl.out.1 hq
            simp only [e]
            exact this
          · exact hno.out j hj (by omega)
        replace hno2 := Lib.hid hno2
        go_wp2
        go_roundw
        case rel => exact ⟨k + 1, rfl, by omega, .inl (by omega), hno2, hkd⟩
        case measure => simp [intOf]; omega
      · have hd : decide ((0 : Int) ≤ C) = true := by simpa using hq
        have hf : false = r := by
          rw [← hr.out]
          refine (Bool.eq_false_iff.2 (fun hi => hq (hcl.out.2 ?_))).symm
          have := incC_iff.1 hi m (by have := hm.out; omega)
          have e := hm.out
          subst e
          exact this
        replace hf := Lib.hid hf
        go_wp2
        go_ret
        exact ⟨by rw [← hf.out]; rfl, hkd.out⟩
    · have hlt2 : ¬ ((k : Int) < M) := by omega
      have hf : true = r := by
        rw [← hr.out]
        exact (incC_iff.2 (fun j hj => hno.out j hj (by have := hM.out; omega))).symm
      replace hf := Lib.hid hf
      go_wp2
      go_ret
      exact ⟨by rw [← hf.out]; rfl, hkw.out⟩
/-- What the walks count on: all lists are short. -/
structure Ct.Few (c : Ct) : Prop where
  an : c.an.length ≤ 1000
  cl : c.cl.length ≤ 1000
  ins : ∀ a ∈ c.an, a.ins.length ≤ 1000
  ns : ∀ p ∈ c.cl, p.st.length ≤ 1000 ∧ p.sc.length ≤ 1000 ∧ p.ch.length ≤ 1000
set_option maxRecDepth 100000 in
set_option maxHeartbeats 4000000 in
theorem short_c (w : World) (x : CtV) (c : Ct) (h : CtW w x c) (hf : c.Few) :
    Calls Tryz.prog 98 #[ctV x] w fun e w' => e = .returned (.bool true) ∧ Keeps [] w w' := by
  obtain ⟨x0, x1, x2, x3, x4, ⟨x5, x6, x7⟩, ⟨x8, x9, x10⟩⟩ := x
  have han := h.an
  have hcl := h.cl
  have hf1 := hf.an
  have hf2 := hf.cl
  simp only [slv] at han hcl
  obtain ⟨_, _, e1, hla, hca⟩ := han.form
  obtain ⟨_, _, e2, hlc, hcc⟩ := hcl.form
  simp only [Value.slice.injEq] at e1 e2
  obtain ⟨-, e1, -⟩ := e1
  obtain ⟨-, e2, -⟩ := e2
  rw [← e1] at hla hf1
  rw [← e2] at hlc hf2
  have hA := heap_alloc_new w (.cells #[.int .i64 x0, .int .i64 x1, .int .i64 x2, .int .u64 x3, .int .i64 x4, .slice x5 x6 x7, .slice x8 x9 x10] tCt)
  have hkA := (Keeps.refl [] w).alloc (.cells #[.int .i64 x0, .int .i64 x1, .int .i64 x2, .int .u64 x3, .int .i64 x4, .slice x5 x6 x7, .slice x8 x9 x10] tCt)
  have han1 := han.keeps hkA
  have hcl1 := hcl.keeps hkA
  obtain ⟨W, hW⟩ : ∃ W, w.alloc (.cells #[.int .i64 x0, .int .i64 x1, .int .i64 x2, .int .u64 x3, .int .i64 x4, .slice x5 x6 x7, .slice x8 x9 x10] tCt) = W := ⟨_, rfl⟩
  obtain ⟨B, hB⟩ : ∃ B, w.heap.size = B := ⟨_, rfl⟩
  have hn6 : decide ((1024 : Int) < x6) = false := by simp; omega
  have hn9 : decide ((1024 : Int) < x9) = false := by simp; omega
  have hx6m : x6 ≤ 9223372036854775807 := by omega
  have hx9m : x9 ≤ 9223372036854775807 := by omega
  rw [hW] at han1 hcl1 hA hkA
  rw [hB] at hA
  replace han1 := Lib.hid han1
  replace hcl1 := Lib.hid hcl1
  replace hkA := Lib.hid hkA
  replace hW := Lib.hid hW
  replace hB := Lib.hid hB
  replace e1 := Lib.hid e1
  replace e2 := Lib.hid e2
  replace hf := Lib.hid hf
  replace hA := Lib.hid hA
  clear h han hcl
  simp only [ctV, slv]
  go_enter Tryz.func98, Tryz.ntmps98
  go_upto_region 1 with fail
  rw [hW.out, hB.out]
  obtain ⟨i0, i1, i2, i3, i4, i5, i6, if', il⟩ := cl7 hA.out
  go_wp2
  go_loopw [20] (fun i wr => ∃ k : Nat, i = .int .i64 k ∧ k ≤ x6 ∧ Hid (Keeps [] W wr)) (fun i _ => x6 - (intOf i).toNat)
  case atStart => exact ⟨0, rfl, by omega, Lib.hid (Keeps.refl _ _)⟩
  case round =>
    clear i0 i1 i2 i3 i4 i5 i6 if' il
    obtain ⟨k, rfl, hk, hkw⟩ := hrel
    by_cases hlt : k < x6
    · have hlt2 : (k : Int) < x6 := by omega
      have hkl : k < c.an.length := by rw [← e1.out]; exact hlt
      obtain ⟨g, o, c', x, hv, hx, he⟩ := (han1.out.keeps hkw.out).elem hkl
      rw [← e1.out] at hv
      cases hv
      have hil := hf.out.ins _ (List.getElem_mem hkl)
      obtain ⟨_, _, ev, _⟩ := hx.ins.form
      obtain ⟨y0, y1, y2, y3, y4, y5, y6, y7, y8, y9⟩ := x
      simp only [AnV.v, Value.slice.injEq] at ev
      obtain ⟨-, ev, -⟩ := ev
      have hn8 : decide ((1024 : Int) < y8) = false := by simp; omega
      have g0 := he 0 _ rfl
      have g1 := he 1 _ rfl
      have g2 := he 2 _ rfl
      have g3 := he 3 _ rfl
      have g4 := he 4 _ rfl
      have g5 := he 5 _ rfl
      have g6 := he 6 _ rfl
      have g7 := he 7 _ rfl
      simp only [AnV.v, Nat.add_zero] at g0 g1 g2 g3 g4 g5 g6 g7
      replace ev := Lib.hid ev
      have hkn := Lib.hid (hkw.out.trans ((Keeps.refl [] wr).alloc (.cells #[.int .i64 y0, .int .i64 y1, .int .u64 y2, .int .i64 y3, .bool y4, .bool y5, .int .i64 y6, .slice y7 y8 y9] tA)))
      clear he hx
      go_wp2
      go_roundw
      case rel => exact ⟨k + 1, rfl, by omega, hkn⟩
      case measure => simp [intOf]; omega
    · have hlt2 : ¬ ((k : Int) < x6) := by omega
      have hAr := (hkw.out.block _ (lt_of_blk hA.out) (by simp)).trans hA.out
      obtain ⟨i0, i1, i2, i3, i4, i5, i6, if', il⟩ := cl7 hAr
      go_wp2
      generalize wr = W2 at *
      go_loopw [32] (fun i wr => ∃ k : Nat, i = .int .i64 k ∧ k ≤ x9 ∧ Hid (Keeps [] W wr)) (fun i _ => x9 - (intOf i).toNat)
      case atStart => exact ⟨0, rfl, by omega, hkw⟩
      case round =>
        clear i0 i1 i2 i3 i4 i5 i6 if' il
        obtain ⟨k, rfl, hk, hkw⟩ := hrel
        by_cases hlt : k < x9
        · have hlt2 : (k : Int) < x9 := by omega
          have hkl : k < c.cl.length := by rw [← e2.out]; exact hlt
          obtain ⟨g, o, c', x, hv, hx, g0, g1, g2, g3, g4⟩ := (hcl1.out.keeps hkw.out).elem hkl
          rw [← e2.out] at hv
          cases hv
          obtain ⟨hi1, hi2, hi3⟩ := hf.out.ns _ (List.getElem_mem hkl)
          obtain ⟨_, _, ev1, _⟩ := hx.st.form
          obtain ⟨_, _, ev2, _⟩ := hx.sc.form
          obtain ⟨_, _, ev3, _⟩ := hx.ch.form
          obtain ⟨y0, y1, ⟨y2, y3, y4⟩, ⟨y5, y6, y7⟩, ⟨y8, y9, y10⟩⟩ := x
          simp only [slv, Value.slice.injEq] at ev1 ev2 ev3
          simp only [slv] at g0 g1 g2 g3 g4
          obtain ⟨-, ev1, -⟩ := ev1
          obtain ⟨-, ev2, -⟩ := ev2
          obtain ⟨-, ev3, -⟩ := ev3
          have hn1 : decide ((1024 : Int) < y3) = false := by simp; omega
          have hn2 : decide ((1024 : Int) < y6) = false := by simp; omega
          have hn3 : decide ((1024 : Int) < y9) = false := by simp; omega
          replace ev1 := Lib.hid ev1
          replace ev2 := Lib.hid ev2
          replace ev3 := Lib.hid ev3
          have hkn := Lib.hid (hkw.out.trans ((Keeps.refl [] wr).alloc (.cells #[.int .i64 y0, .int .i64 y1, .slice y2 y3 y4, .slice y5 y6 y7, .slice y8 y9 y10] tC)))
          clear hx
          go_wp2
          go_roundw
          case rel => exact ⟨k + 1, rfl, by omega, hkn⟩
          case measure => simp [intOf]; omega
        · have hlt2 : ¬ ((k : Int) < x9) := by omega
          go_wp2
          go_ret
          exact ⟨rfl, hkA.out.trans hkw.out⟩
end Go.Proofs.YtiplgpefapeapaaGreat

namespace Go.Proofs.YtiplgpefapeapaaGreat
open Go.RowKit

/-- How many entries all answers of a list have. -/
def insS (T : List Ans) : Nat := (T.map (fun a => a.ins.length)).sum
def lkS (T : List Ans) (K : List Qn) : Nat := (K.map (fun q => ((lookA T q).map (fun a => a.ins.length)).getD 0)).sum
theorem lookA_cons (a : Ans) (T : List Ans) (q : Qn) : lookA (a :: T) q = if a.q = q then some a else lookA T q := by
  unfold lookA
  rw [List.find?_cons]
  by_cases e : a.q = q
  · simp [e]
  · simp [e]
theorem lkS_skip (a : Ans) (T : List Ans) (K : List Qn) (h : a.q ∉ K) : lkS (a :: T) K = lkS T K := by
  unfold lkS
  congr 1
  refine List.map_congr_left fun q hq => ?_
  have hne : ¬ a.q = q := fun e => h (by rw [e]; exact hq)
  rw [lookA_cons, if_neg hne]
theorem lkS_le : ∀ (T : List Ans) (K : List Qn), K.Nodup → lkS T K ≤ insS T
  | [], K, _ => by
    have : ∀ K : List Qn, lkS [] K = 0 := fun K => by
      induction K with
      | nil => rfl
      | cons q K ih =>
        unfold lkS at ih ⊢
        rw [List.map_cons, List.sum_cons, ih]; rfl
    rw [this]; exact Nat.zero_le _
  | a :: T, K, hn => by
    have e1 : insS (a :: T) = a.ins.length + insS T := by simp [insS]
    rw [e1]
    by_cases h : a.q ∈ K
    · have hp := List.perm_cons_erase h
      have hs : lkS (a :: T) K = lkS (a :: T) (a.q :: K.erase a.q) := (hp.map _).sum_nat
      have hn2 : a.q ∉ K.erase a.q := fun hm => by
        have := hp.nodup_iff.1 hn
        exact (List.nodup_cons.1 this).1 hm
      have hn3 : (K.erase a.q).Nodup := (List.nodup_cons.1 (hp.nodup_iff.1 hn)).2
      rw [hs]
      have e2 : lkS (a :: T) (a.q :: K.erase a.q) = a.ins.length + lkS (a :: T) (K.erase a.q) := by
        unfold lkS
        rw [List.map_cons, List.sum_cons, lookA_cons, if_pos rfl]; rfl
      rw [e2, lkS_skip a T _ hn2]
      have := lkS_le T (K.erase a.q) hn3
      omega
    · rw [lkS_skip a T K h]
      have := lkS_le T K hn
      omega
/-- What holds of a trace that asks the list `T` and has no agreement yet. -/
structure TcI (T : List Ans) (t : Tr) : Prop where
  rc : ∀ p ∈ t.rec', lookA T p.1 = some p.2 ∧ p.2.rt = false
  cl : ∀ p ∈ t.rec', ∀ x ∈ p.2.ins, (x.1, p.2.m, x.2.1) ∈ t.op
  hs : (t.im, t.st.1, t.st.2.1) ∈ t.op
  st : t.state = 0 ∨ (t.state = 1 ∧ allQ t.qs = true) ∨ t.state = 3 ∨ t.state = 4
  len : t.qs.length ≤ 1 + insS (t.rec'.map (·.2))
  hl : t.hist.length ≤ t.rec'.length + 1
  hl0 : t.state = 0 → t.hist.length = t.rec'.length
  ag : t.ag = []
  rf : t.rf = false
  nd : t.op.Nodup
  tl : ∃ tn : Nat, t.told = tn ∧ tn ≤ t.qs.length
theorem TcI.new (T : List Ans) (im is : Int) (st : T3) : TcI T (Tr.new im is st) :=
  ⟨by simp [Tr.rec', Tr.new, recOf], by simp [Tr.rec', Tr.new, recOf], by simp [Tr.op, Tr.new], .inl rfl, by simp [Tr.new], by simp [Tr.new], by simp [Tr.new, Tr.rec', recOf], rfl, rfl, by simp [Tr.op, Tr.new], ⟨0, rfl, by simp⟩⟩
theorem TcI.told {T : List Ans} {t : Tr} (h : TcI T t) (n : Nat) (hn : n ≤ t.qs.length) : TcI T { t with told := n } := ⟨h.rc, h.cl, h.hs, h.st, h.len, h.hl, h.hl0, h.ag, h.rf, h.nd, ⟨n, rfl, hn⟩⟩
theorem TcI.ask {T : List Ans} {t : Tr} (h : TcI T t) : TcI T t.queries.1 := by
  unfold Tr.queries
  split
  · exact h
  · exact h.told _ (Nat.le_refl _)
theorem TcI.sum {T : List Ans} {t : Tr} (h : TcI T t) : insS (t.rec'.map (·.2)) ≤ insS T := by
  have h1 : (t.rec'.map (·.1)).Nodup := recOf_nd h.nd
  have h2 := lkS_le T _ h1
  have h3 : insS (t.rec'.map (·.2)) = lkS T (t.rec'.map (·.1)) := by
    unfold insS lkS
    rw [List.map_map, List.map_map]
    congr 1
    refine List.map_congr_left fun p hp => ?_
    simp only [Function.comp]
    rw [(h.rc p hp).1]; rfl
  omega
theorem TcI.recLen {T : List Ans} {t : Tr} (h : TcI T t) : t.rec'.length ≤ T.length := by
  have h1 : (t.rec'.map (·.1)).Nodup := recOf_nd h.nd
  have h2 := nodup_sub_len (m := T.map Ans.q) h1 (fun q hq => by
    obtain ⟨p, hp, rfl⟩ := List.mem_map.1 hq
    obtain ⟨e1, e2⟩ := lookA_some (h.rc p hp).1
    exact List.mem_map.2 ⟨p.2, e1, e2⟩)
  simpa using h2
theorem nd_of_keys : ∀ {l : List (Qn × Ans)}, (l.map (·.1)).Nodup → l.Nodup
  | [], _ => List.nodup_nil
  | p :: l, h => by
    obtain ⟨h1, h2⟩ := List.nodup_cons.1 h
    exact List.nodup_cons.2 ⟨fun hm => h1 (List.mem_map.2 ⟨p, hm, rfl⟩), nd_of_keys h2⟩
theorem TcI.answer {T : List Ans} {t : Tr} (h : TcI T t) (q : Qn) : TcI T (t.answer (ansOf T q)).1 := by
  obtain ⟨a, ha⟩ : ∃ a, ansOf T q = a := ⟨_, rfl⟩
  have haq : a.q = q := by rw [← ha]; exact ansOf_q T q
  rw [ha]
  unfold Tr.answer
  by_cases h0 : t.state ≠ 0
  · rw [if_pos h0]; exact h
  rw [if_neg h0]
  have h0 : t.state = 0 := by simpa using h0
  by_cases hop : isOpen a.q t.qs = false
  · rw [if_pos hop]; exact h
  rw [if_neg hop]
  have hmem : (a.q, none) ∈ t.qs := isOpen_mem.1 (by simpa using hop)
  have hqo : a.q ∈ t.op := List.mem_map.2 ⟨_, hmem, rfl⟩
  have stop : ∀ (sx : Int), sx = 3 ∨ sx = 4 → TcI T { t.take a with state := sx } := fun sx hsx =>
    ⟨h.rc, h.cl, h.hs, .inr (.inr hsx), h.len, by have := h.hl0 h0; simp [Tr.take, Tr.rec'] at this ⊢; omega, fun e => by simp at e; omega, h.ag, h.rf, h.nd, h.tl⟩
  by_cases hkn : a.kn = false
  · rw [if_pos hkn]; exact stop 4 (.inr rfl)
  rw [if_neg hkn]
  by_cases hrt : a.rt = true
  · rw [if_pos hrt]; exact stop 3 (.inl rfl)
  rw [if_neg hrt]
  have hrt : a.rt = false := by simpa using hrt
  have hla : lookA T q = some a := by
    unfold ansOf at ha
    cases e : lookA T q with
    | some b => rw [e] at ha; simp at ha; rw [ha]
    | none => rw [e] at ha; simp at ha; rw [← ha] at hkn; simp at hkn
  by_cases hodd : (t.hist ++ [a]).any (Ans.odd a.m a.ep) = true
  · rw [if_pos hodd]; exact stop 4 (.inr rfl)
  rw [if_neg hodd]
  obtain ⟨N, n1, n2, n3, n4⟩ := fold_app a.m a.ins (setQ a.q a t.qs)
  have hqs : ((t.take a).put a).qs = setQ a.q a t.qs ++ N := n1
  have hrec : recOf (setQ a.q a t.qs ++ N) = recOf (setQ a.q a t.qs) := by rw [← n1]; exact fold_rec _ _ _
  have hqn : ∀ b, (b ∈ (setQ a.q a t.qs ++ N).map (·.1)) ↔ b ∈ t.op ∨ b ∈ N.map (·.1) := fun b => by rw [List.map_append, setQ_keys, List.mem_append]; rfl
  have hmemr : ∀ p, p ∈ recOf (setQ a.q a t.qs) ↔ (p.1 = a.q ∧ p.2 = a) ∨ (p.1 ≠ a.q ∧ p ∈ t.rec') := fun ⟨k, b⟩ => by
    rw [recOf_keys, setQ_mem hqo]
    simp only [Option.some.injEq]
    unfold Tr.rec'
    rw [recOf_keys]
  have hlen := setQ_len (a := a) h.nd hmem
  have hrl : (setQ a.q a t.qs).length = t.qs.length := by unfold setQ; simp
  -- the new records: the old ones and this one
  have hperm : (recOf (setQ a.q a t.qs)).Perm ((a.q, a) :: t.rec') := by
    have hnd1 : ((setQ a.q a t.qs).map (·.1)).Nodup := by rw [setQ_keys]; exact h.nd
    have m1 : (recOf (setQ a.q a t.qs)).Nodup := nd_of_keys (recOf_nd hnd1)
    have m0 : t.rec'.Nodup := nd_of_keys (recOf_nd h.nd)
    have hno : (a.q, a) ∉ t.rec' := fun hm => by
      have h1 := recOf_keys.1 hm
      have := nd_val h.nd h1 hmem
      cases this
    refine (List.perm_ext_iff_of_nodup m1 (List.nodup_cons.2 ⟨hno, m0⟩)).2 fun p => ?_
    rw [hmemr, List.mem_cons]
    constructor
    · rintro (⟨h1, h2⟩ | ⟨_, h2⟩)
      · exact .inl (Prod.ext h1 h2)
      · exact .inr h2
    · rintro (rfl | h2)
      · exact .inl ⟨rfl, rfl⟩
      · refine .inr ⟨fun e => ?_, h2⟩
        obtain ⟨k, b⟩ := p
        have h1 := recOf_keys.1 h2
        simp only at e
        subst e
        have := nd_val h.nd h1 hmem
        cases this
  have hsum : insS ((recOf (setQ a.q a t.qs)).map (·.2)) = a.ins.length + insS (t.rec'.map (·.2)) := by
    unfold insS
    rw [((hperm.map _).map _).sum_nat]
    simp
  have hgen : ∀ (t' : Tr), t'.qs = setQ a.q a t.qs ++ N → t'.hist = t.hist ++ [a] → t'.ag = t.ag → t'.rf = t.rf → t'.im = t.im → t'.st = t.st → t'.told = t.told → (t'.state = 0 ∨ (t'.state = 1 ∧ allQ t'.qs = true)) → TcI T t' := by
    intro t' e1 e2 e3 e4 e6 e7 e8 e5
    have hr' : t'.rec' = recOf (setQ a.q a t.qs) := by unfold Tr.rec'; rw [e1, hrec]
    have ho' : ∀ b, b ∈ t'.op ↔ b ∈ t.op ∨ b ∈ N.map (·.1) := fun b => by unfold Tr.op; rw [e1]; exact hqn b
    refine ⟨fun p hp => ?_, fun p hp x hx => ?_, ?_, ?_, ?_, ?_, fun _ => ?_, e3.trans h.ag, e4.trans h.rf, ?_, ?_⟩
    · rw [hr'] at hp
      rcases (hmemr p).1 hp with ⟨h1, h2⟩ | ⟨_, h2⟩
      · rw [h1, h2, haq]; exact ⟨hla, hrt⟩
      · exact h.rc p h2
    · rw [hr'] at hp
      refine (ho' _).2 ?_
      rcases (hmemr p).1 hp with ⟨h1, h2⟩ | ⟨_, h2⟩
      · rw [h2] at hx ⊢
        exact (hqn _).1 (n4 x hx)
      · exact .inl (h.cl p h2 x hx)
    · rw [e6, e7]; exact (ho' _).2 (.inl h.hs)
    · rcases e5 with e5 | e5
      · exact .inl e5
      · exact .inr (.inl e5)
    · rw [hr', hsum, e1, List.length_append, hrl]
      have := h.len
      omega
    · rw [hr', hlen, e2, List.length_append]
      have := h.hl0 h0
      simp only [Tr.rec'] at *
      simp; omega
    · rw [hr', hlen, e2, List.length_append]
      have := h.hl0 h0
      simp only [Tr.rec'] at *
      simp; omega
    · have : t'.op = (a.ins.foldl (openQ a.m) (setQ a.q a t.qs)).map (·.1) := by unfold Tr.op; rw [e1, n1]
      rw [this]
      exact fold_nd _ _ _ (by rw [setQ_keys]; exact h.nd)
    · obtain ⟨tn, g1, g2⟩ := h.tl
      exact ⟨tn, e8.trans g1, by rw [e1, List.length_append, hrl]; omega⟩
  unfold Tr.close
  by_cases hall : allQ ((t.take a).put a).qs = true
  · rw [if_pos hall]
    exact hgen _ hqs rfl rfl rfl rfl rfl rfl (.inr ⟨rfl, hall⟩)
  · rw [if_neg hall]
    exact hgen _ hqs rfl rfl rfl rfl rfl rfl (.inl h0)
/-- What holds while the machines agree. -/
structure TcF (T : List Ans) (t : Tr) : Prop where
  rc : ∀ p ∈ t.rec', lookA T p.1 = some p.2 ∧ p.2.rt = false
  cl : ∀ p ∈ t.rec', ∀ x ∈ p.2.ins, (x.1, p.2.m, x.2.1) ∈ t.op
  hs : (t.im, t.st.1, t.st.2.1) ∈ t.op
  st : t.state = 1 ∨ t.state = 2 → allQ t.qs = true
  len : t.qs.length ≤ 1 + insS (t.rec'.map (·.2))
  nd : t.op.Nodup
  ag : t.state = 1 → t.ag.length < t.clm.length
theorem TcI.f {T : List Ans} {t : Tr} (h : TcI T t) (hi : t.Inv) : TcF T t := by
  refine ⟨h.rc, h.cl, h.hs, fun e => ?_, h.len, h.nd, fun e => ?_⟩
  · rcases h.st with e1 | e1 | e1 | e1
    · omega
    · exact e1.2
    · omega
    · omega
  · have hall : allQ t.qs = true := by
      rcases h.st with e1 | e1 | e1 | e1
      · omega
      · exact e1.2
      · omega
      · omega
    rw [h.ag]
    refine Tr.clm_pos hi (fun e9 => ?_)
    have h1 := (rec_len t.qs).2.2 hall
    have e' : recOf t.qs = [] := e9
    rw [e'] at h1
    have h2 := h.hs
    unfold Tr.op at h2
    rw [List.eq_nil_of_length_eq_zero h1.symm] at h2
    simp at h2
theorem TcF.agree {T : List Ans} {t : Tr} (h : TcF T t) (m : Int) : TcF T (t.agreeT m).1 := by
  unfold Tr.agreeT
  split
  · exact h
  rename_i h1
  have h1 : t.state = 1 := by simpa using h1
  have hlt := h.ag h1
  split
  · split
    · exact h
    · refine ⟨h.rc, h.cl, h.hs, fun _ => h.st (.inl h1), h.len, h.nd, fun e => ?_⟩
      simp only at e
      split at e
      · omega
      · rename_i hne
        have e2 := @Tr.clm_qs t { t with ag := t.ag ++ [m], state := if t.ag.length + 1 = t.clm.length then 2 else t.state } rfl
        rw [e2]
        simp only [List.length_append, List.length_cons, List.length_nil]
        omega
  · exact h
/-- The certificate. -/
def Tr.ct (t : Tr) : Ct := ⟨t.im, t.is, t.st, srtOf t.qs, t.clm⟩
theorem clm_clY {t : Tr} (h : t.Inv) : t.clm = clY (srtOf t.qs) := by
  have hs := srtOf_sorted h
  obtain ⟨h1, h2⟩ := ClaimsP.at' hs.2 (refOf_claims (t := t) hs.2)
  have hlu : ∀ q, luOf t q = luOf (trOf (srtOf t.qs)) q := fun q => by rw [luOf_trOf, luL_eq h hs]
  have hsc : ∀ m, scOf t (srtOf t.qs) m = scOf (trOf (srtOf t.qs)) (srtOf t.qs) m := fun m => by
    have e1 : scN t m = scN (trOf (srtOf t.qs)) m := funext fun x => by unfold scN; rw [hlu]
    have e2 : scS t m = scS (trOf (srtOf t.qs)) m := by funext l x; unfold scS; rw [e1]
    have e3 : scA t m = scA (trOf (srtOf t.qs)) m := by funext l a; unfold scA; rw [e2]
    unfold scOf
    rw [e3]
  refine clY_of hs.2 h1 (fun k k1 k2 => ?_)
  obtain ⟨a1, a2, a3⟩ := h2 k k1 k2
  refine ⟨a1, a2, fun j hj => ?_⟩
  have e : clOf (trOf (srtOf t.qs)) (outsOf (srtOf t.qs)) (srtOf t.qs) (msOf (srtOf t.qs))[k] = clOf t (outsOf (srtOf t.qs)) (srtOf t.qs) (msOf (srtOf t.qs))[k] := by unfold clOf; rw [hsc]
  rw [e]
  exact a3 j hj
theorem srt_rec {t : Tr} (h : t.Inv) {a : Ans} : a ∈ srtOf t.qs ↔ (a.q, a) ∈ t.rec' := by
  rw [(srtOf_sorted h).1.mem_iff]
  constructor
  · intro ha
    obtain ⟨p, hp, rfl⟩ := List.mem_map.1 ha
    rw [h.rq p hp]; exact hp
  · exact fun ha => List.mem_map.2 ⟨_, ha, rfl⟩
theorem TcF.has {T : List Ans} {t : Tr} (h : TcF T t) (hi : t.Inv) (h2 : t.state = 2) {q : Qn} (hq : q ∈ t.op) : hasA (srtOf t.qs) q = true := by
  obtain ⟨⟨q', u⟩, hp, e⟩ := List.mem_map.1 hq
  simp only at e
  subst e
  have := List.all_eq_true.1 (h.st (.inr h2)) _ hp
  obtain ⟨a, ha⟩ := Option.isSome_iff_exists.1 this
  simp only at ha
  have hr : (q', a) ∈ t.rec' := recOf_keys.2 (by rw [← ha]; exact hp)
  have haq := hi.rq _ hr
  simp only at haq
  exact hasA_iff.2 ⟨a, (srt_rec hi).2 (by rw [haq]; exact hr), haq⟩
/-- The certificate of an agreed trace is accepted where it is well-formed and consistent. -/
theorem TcF.chk {T : List Ans} {t : Tr} (h : TcF T t) (hi : t.Inv) (h2 : t.state = 2) (hw : wf t.ct = true) (hc : consB (srtOf t.qs) = true) : chk t.ct = 0 := by
  rw [← chkR_eq]
  unfold chkR
  have hs := srtOf_sorted hi
  have he : epB (srtOf t.qs) = true := by unfold consB at hc; rw [Bool.and_eq_true] at hc; exact hc.1
  rw [if_pos hw, if_pos]
  refine ⟨h.has hi h2 h.hs, hc, ?_, ?_⟩
  · unfold accB
    simp only [List.all_eq_true, Bool.and_eq_true]
    intro a ha
    have hr := (srt_rec hi).1 ha
    refine ⟨⟨hi.rk _ hr, by rw [(h.rc _ hr).2]; rfl⟩, fun x hx => h.has hi h2 (h.cl _ hr x hx)⟩
  · show (mR (srtOf t.qs)).map (clmR (srtOf t.qs)) = t.clm
    rw [clm_clY hi, clmsR_eq hs.2 he]
theorem TcF.sum {T : List Ans} {t : Tr} (h : TcF T t) : insS (t.rec'.map (·.2)) ≤ insS T := by
  have h1 : (t.rec'.map (·.1)).Nodup := recOf_nd h.nd
  have h2 := lkS_le T _ h1
  have h3 : insS (t.rec'.map (·.2)) = lkS T (t.rec'.map (·.1)) := by
    unfold insS lkS
    rw [List.map_map, List.map_map]
    congr 1
    refine List.map_congr_left fun p hp => ?_
    simp only [Function.comp]
    rw [(h.rc p hp).1]; rfl
  omega
theorem TcF.recLen {T : List Ans} {t : Tr} (h : TcF T t) : t.rec'.length ≤ T.length := by
  have h1 : (t.rec'.map (·.1)).Nodup := recOf_nd h.nd
  have h2 := nodup_sub_len (m := T.map Ans.q) h1 (fun q hq => by
    obtain ⟨p, hp, rfl⟩ := List.mem_map.1 hq
    obtain ⟨e1, e2⟩ := lookA_some (h.rc p hp).1
    exact List.mem_map.2 ⟨p.2, e1, e2⟩)
  simpa using h2
/-! ### its size -/
theorem addN_le (n : T3) (l : List T3) : (addN n l).length ≤ l.length + 1 := by unfold addN; split <;> simp
theorem scS_len (t : Tr) (m : Int) : ∀ (X : List T3) (l : List T3), (X.foldl (scS t m) l).length ≤ l.length + X.length
  | [], l => by simp
  | x :: X, l => by
    rw [List.foldl_cons]
    have h1 := scS_len t m X (scS t m l x)
    have h2 : (scS t m l x).length ≤ l.length + 1 := addN_le _ _
    simp only [List.length_cons]
    omega
theorem scA_len (t : Tr) (m : Int) : ∀ (Y : List Ans) (l : List T3), (Y.foldl (scA t m) l).length ≤ l.length + insS Y
  | [], l => by simp [insS]
  | a :: Y, l => by
    rw [List.foldl_cons]
    have h1 := scA_len t m Y (scA t m l a)
    have h2 : (scA t m l a).length ≤ l.length + a.ins.length := by
      unfold scA
      split
      · exact scS_len t m _ _
      · omega
    have e : insS (a :: Y) = a.ins.length + insS Y := by simp [insS]
    omega
theorem ins_le_S {T : List Ans} {a : Ans} (h : a ∈ T) : a.ins.length ≤ insS T := by
  induction T with
  | nil => cases h
  | cons b T ih =>
    have e : insS (b :: T) = b.ins.length + insS T := by simp [insS]
    rcases List.mem_cons.1 h with rfl | h
    · omega
    · have := ih h; omega
theorem TcF.few {T : List Ans} {t : Tr} (h : TcF T t) (hi : t.Inv) (hT : T.length ≤ 100) (hS : insS T ≤ 100) : t.ct.Few := by
  have hs := srtOf_sorted hi
  have hl : (srtOf t.qs).length ≤ 100 := by
    have := hs.1.length_eq
    rw [List.length_map] at this
    have := h.recLen
    omega
  have hSs : insS (srtOf t.qs) ≤ 100 := by
    have e : insS (srtOf t.qs) = insS (t.rec'.map (·.2)) := (hs.1.map _).sum_nat
    have := h.sum
    omega
  obtain ⟨h1, h2⟩ := ClaimsP.at' hs.2 (refOf_claims (t := t) hs.2)
  have hm := ms_len (srtOf t.qs)
  have hcl : t.clm.length = (msOf (srtOf t.qs)).length := h1
  refine ⟨by show (srtOf t.qs).length ≤ 1000; omega, by show t.clm.length ≤ 1000; omega, fun a ha => ?_, fun p hp => ?_⟩
  · have := ins_le_S (T := srtOf t.qs) ha; omega
  · obtain ⟨k, hk, rfl⟩ := List.mem_iff_getElem.1 hp
    have hk' : k < t.clm.length := hk
    have hc := h2 k hk (by omega)
    have e0 := (hc.at' 0 (by omega)).1.length_eq
    have e1 := (hc.at' 1 (by omega)).1.length_eq
    have e2 := (hc.at' 2 (by omega)).1.length_eq
    have g0 : (stOf (outsOf (srtOf t.qs)) (srtOf t.qs) (msOf (srtOf t.qs))[k]).length ≤ (srtOf t.qs).length := List.length_filterMap_le ..
    have g2 : (chOf (outsOf (srtOf t.qs)) (srtOf t.qs) (msOf (srtOf t.qs))[k]).length ≤ (srtOf t.qs).length := List.length_filterMap_le ..
    have g1 : (scOf t (srtOf t.qs) (msOf (srtOf t.qs))[k]).length ≤ insS (srtOf t.qs) := by
      have := scA_len t (msOf (srtOf t.qs))[k] (srtOf t.qs) []
      unfold scOf
      simpa using this
    simp only [PCl.at, clOf] at e0 e1 e2
    exact ⟨by show (t.clm[k]).st.length ≤ 1000; have := e0; unfold Tr.clm; omega, by show (t.clm[k]).sc.length ≤ 1000; have := e1; unfold Tr.clm; omega, by show (t.clm[k]).ch.length ≤ 1000; have := e2; unfold Tr.clm; omega⟩
end Go.Proofs.YtiplgpefapeapaaGreat

namespace Go.Proofs.YtiplgpefapeapaaGreat
open Go.RowKit

theorem InR.lt {w : World} {x : AnV} {a : Ans} (h : InR w x a) (hne : a.ins ≠ []) : ∀ b, x.v.ownBlock = some b → b < w.heap.size := fun b hb => by
  have hl : 0 < a.ins.length := List.length_pos_iff.2 hne
  obtain ⟨g, o, c, e, he⟩ := h.ins.elem hl
  rw [e] at hb
  simp [Value.ownBlock] at hb
  subst hb
  exact lt_of_cell (he 0 _ rfl)
theorem TrM.notN {w : World} {B B' bt bm : Nat} {vo vh vg v : Value} {t : Tr} {L : List T3} (h : TrM w B bt bm vo vh vg t) (hO : shT.O w B' tN v L) : ∀ b ∈ ownT bt bm vo vh vg, v.ownBlock ≠ some b := fun b hb e => by
  obtain ⟨cs, hc⟩ := hO.tag b e
  obtain ⟨_, _, ⟨es, c, h1⟩ | ⟨cs', e', h1, h2⟩⟩ := h.own_tag hb
  · rw [h1] at hc; cases hc
  · rw [h1] at hc
    cases hc
    rcases h2 with h2 | h2 | h2 | h2 <;> exact absurd h2 (by decide)
/-- A list of needs grows beside a trace. -/
theorem TrM.grwN {w w' : World} {B B' bt bm : Nat} {vo vh vg v v' : Value} {t : Tr} {L : List T3} (h : TrM w B bt bm vo vh vg t) (hO : shT.O w B' tN v L) (hG : Grw w w' v v') : TrM w' B bt bm vo vh vg t :=
  h.keep hG.keepsO (fun b hb hm => h.notN hO b hb (by simpa using hm)) (hG.keepsO.ki (fun b hb cs f e => by
    obtain ⟨cs', hc⟩ := hO.tag b (by simpa using hb)
    rw [hc] at e; cases e))
/-- An answer is stored over another one. -/
theorem st8 {w : World} {X : Nat} {x0 x1 x2 x3 x4 x5 x6 x7 u0 u1 u2 u3 u4 u5 u6 u7 : Value} (h2 : w.heap[X]? = some (.cells #[u0, u1, u2, u3, u4, u5, u6, u7] tA (0, 0))) :
    ((((((((w.setCell ⟨X, 0, none⟩ x0).setCell ⟨X, 1, none⟩ x1).setCell ⟨X, 2, none⟩ x2).setCell ⟨X, 3, none⟩ x3).setCell ⟨X, 4, none⟩ x4).setCell ⟨X, 5, none⟩ x5).setCell ⟨X, 6, none⟩ x6).setCell ⟨X, 7, none⟩ x7).heap[X]? = some (.cells #[x0, x1, x2, x3, x4, x5, x6, x7] tA (0, 0)) ∧
    Keeps [X] w ((((((((w.setCell ⟨X, 0, none⟩ x0).setCell ⟨X, 1, none⟩ x1).setCell ⟨X, 2, none⟩ x2).setCell ⟨X, 3, none⟩ x3).setCell ⟨X, 4, none⟩ x4).setCell ⟨X, 5, none⟩ x5).setCell ⟨X, 6, none⟩ x6).setCell ⟨X, 7, none⟩ x7) ∧ KI w ((((((((w.setCell ⟨X, 0, none⟩ x0).setCell ⟨X, 1, none⟩ x1).setCell ⟨X, 2, none⟩ x2).setCell ⟨X, 3, none⟩ x3).setCell ⟨X, 4, none⟩ x4).setCell ⟨X, 5, none⟩ x5).setCell ⟨X, 6, none⟩ x6).setCell ⟨X, 7, none⟩ x7) := by
  have hk : Keeps [X] w ((((((((w.setCell ⟨X, 0, none⟩ x0).setCell ⟨X, 1, none⟩ x1).setCell ⟨X, 2, none⟩ x2).setCell ⟨X, 3, none⟩ x3).setCell ⟨X, 4, none⟩ x4).setCell ⟨X, 5, none⟩ x5).setCell ⟨X, 6, none⟩ x6).setCell ⟨X, 7, none⟩ x7) := by
    refine ((((((((Keeps.refl _ w).setCell ?_ _).setCell ?_ _).setCell ?_ _).setCell ?_ _).setCell ?_ _).setCell ?_ _).setCell ?_ _).setCell ?_ _ <;> exact .inr (by simp)
  refine ⟨?_, hk, hk.ki (fun b hb cs f e => ?_)⟩
  · clear hk
    have s1 := setCs h2 0 x0
    generalize w.setCell ⟨X, 0, none⟩ x0 = w1 at s1 ⊢
    have s2 := setCs s1 1 x1
    generalize w1.setCell ⟨X, 1, none⟩ x1 = w2 at s2 ⊢
    have s3 := setCs s2 2 x2
    generalize w2.setCell ⟨X, 2, none⟩ x2 = w3 at s3 ⊢
    have s4 := setCs s3 3 x3
    generalize w3.setCell ⟨X, 3, none⟩ x3 = w4 at s4 ⊢
    have s5 := setCs s4 4 x4
    generalize w4.setCell ⟨X, 4, none⟩ x4 = w5 at s5 ⊢
    have s6 := setCs s5 5 x5
    generalize w5.setCell ⟨X, 5, none⟩ x5 = w6 at s6 ⊢
    have s7 := setCs s6 6 x6
    generalize w6.setCell ⟨X, 6, none⟩ x6 = w7 at s7 ⊢
    have s8 := setCs s7 7 x7
    generalize w7.setCell ⟨X, 7, none⟩ x7 = w8 at s8 ⊢
    simpa using s8
  · simp at hb
    subst hb
    rw [h2] at e; cases e
end Go.Proofs.YtiplgpefapeapaaGreat

namespace Go.Proofs.YtiplgpefapeapaaGreat
open Go.RowKit

theorem ansOk_def (a : Ans) : ansOk a = (mach a.m && mach a.ow && decide (0 ≤ a.ep) && decide (0 ≤ a.lu) && a.ins.all insOk) := rfl
theorem all_take {α : Type} {l : List α} {p : α → Bool} (h : ∀ j (hj : j < l.length), p l[j] = true) : l.all p = true := List.all_eq_true.2 (fun x hx => by obtain ⟨j, hj, rfl⟩ := List.getElem_of_mem hx; exact h j hj)
theorem all_no {α : Type} {l : List α} {p : α → Bool} {j : Nat} (hj : j < l.length) (h : p l[j] = false) : l.all p = false := List.all_eq_false.2 ⟨l[j], List.getElem_mem hj, by rw [h]; decide⟩
set_option maxRecDepth 100000 in
set_option maxHeartbeats 8000000 in
theorem formed_c (w : World) (x : CtV) (c : Ct) (h : CtW w x c) (hf : c.Few) :
    Calls Tryz.prog 70 #[ctV x] w fun e w' => e = .returned (.bool (wf c)) ∧ Keeps [] w w' := by
  have hsh := fun (W : World) (hk : Keeps [] w W) => short_c W x c (h.keeps hk) hf
  have him := h.im
  have his := h.is
  have hs0 := h.s0
  have han := h.an
  have hcl := h.cl
  have hinA := fun (W : World) (hk : Keeps [] w W) => incA_c W _ _ (han.keeps hk)
  have hinC := fun (W : World) (hk : Keeps [] w W) => incC_c W _ _ (hcl.keeps hk)
  obtain ⟨x0, x1, x2, x3, x4, ⟨x5, x6, x7⟩, ⟨x8, x9, x10⟩⟩ := x
  simp only [ctV, slv] at hsh han hcl hinA hinC
  simp only at him his hs0
  obtain ⟨_, _, e1, hla, hca⟩ := han.form
  simp only [Value.slice.injEq] at e1
  obtain ⟨-, e1, -⟩ := e1
  rw [← e1] at hla
  have hx6m : x6 ≤ 9223372036854775807 := by unfold maxLen at hca; omega
  have hA := heap_alloc_new w (.cells #[.int .i64 x0, .int .i64 x1, .int .i64 x2, .int .u64 x3, .int .i64 x4, .slice x5 x6 x7, .slice x8 x9 x10] tCt)
  have hkA := (Keeps.refl [] w).alloc (.cells #[.int .i64 x0, .int .i64 x1, .int .i64 x2, .int .u64 x3, .int .i64 x4, .slice x5 x6 x7, .slice x8 x9 x10] tCt)
  obtain ⟨W, hW⟩ : ∃ W, w.alloc (.cells #[.int .i64 x0, .int .i64 x1, .int .i64 x2, .int .u64 x3, .int .i64 x4, .slice x5 x6 x7, .slice x8 x9 x10] tCt) = W := ⟨_, rfl⟩
  obtain ⟨B, hB⟩ : ∃ B, w.heap.size = B := ⟨_, rfl⟩
  rw [hW] at hA hkA
  rw [hB] at hA
  obtain ⟨r, hr⟩ : ∃ r, wf c = r := ⟨_, rfl⟩
  rw [hr]
  unfold wf at hr
  rw [← him, ← his, ← hs0] at hr
  obtain ⟨m1, hm1⟩ : ∃ b, mach x0 = b := ⟨_, rfl⟩
  obtain ⟨m2, hm2⟩ : ∃ b, mach x2 = b := ⟨_, rfl⟩
  obtain ⟨b1, hb1⟩ : ∃ b, incA c.an = b := ⟨_, rfl⟩
  obtain ⟨b2, hb2⟩ : ∃ b, incC c.cl = b := ⟨_, rfl⟩
  have hc1 := fun W => mach_c x0 W
  have hc2 := fun W => mach_c x2 W
  rw [hm1] at hc1 hr
  rw [hm2] at hc2 hr
  rw [hb1] at hinA hr
  rw [hb2] at hinC hr
  replace hsh := Lib.hid hsh
  replace hinA := Lib.hid hinA
  replace hinC := Lib.hid hinC
  replace hc1 := Lib.hid hc1
  replace hc2 := Lib.hid hc2
  replace hr := Lib.hid hr
  replace han := Lib.hid han
  replace hkA := Lib.hid hkA
  replace hW := Lib.hid hW
  replace hB := Lib.hid hB
  replace e1 := Lib.hid e1
  replace hf := Lib.hid hf
  replace hA := Lib.hid hA
  clear h hcl hm1 hm2 hb1 hb2 him his hs0
  simp only [ctV, slv]
  go_enter Tryz.func70, Tryz.ntmps70
  go_upto_region 1 with fail
  rw [hW.out, hB.out]
  obtain ⟨i0, i1, i2, i3, i4, i5, i6, if', il⟩ := cl7 hA.out
  go_wp2_with fail
  refine (hc1.out _).mono ?_
  rintro e w' ⟨rfl, hw⟩
  obtain rfl := hw
  clear hc1
  cases m1 with
  | false =>
    have hd : false = r := by rw [← hr.out]; simp
    replace hd := Lib.hid hd
    go_wp2
    go_ret
    exact ⟨by rw [← hd.out]; rfl, hkA.out⟩
  | true =>
  by_cases h1 : x1 < 1
  · have hd : false = r := by
      rw [← hr.out]
      have : decide (1 ≤ x1) = false := by simpa using h1
      rw [this]; simp
    replace hd := Lib.hid hd
    go_wp2
    go_ret
    exact ⟨by rw [← hd.out]; rfl, hkA.out⟩
  have h1d : decide (x1 < 1) = false := by simpa using h1
  have h1e : decide (1 ≤ x1) = true := by simpa using h1
  rw [h1e] at hr
  go_wp2_with fail
  refine (hc2.out _).mono ?_
  rintro e w' ⟨rfl, hw⟩
  obtain rfl := hw
  clear hc2
  cases m2 with
  | false =>
    have hd : false = r := by rw [← hr.out]; simp
    replace hd := Lib.hid hd
    go_wp2
    go_ret
    exact ⟨by rw [← hd.out]; rfl, hkA.out⟩
  | true =>
  go_wp2_with fail
  refine (hsh.out _ hkA.out).mono ?_
  rintro e w1 ⟨rfl, hk1⟩
  have hk01 := Lib.hid (hkA.out.trans hk1)
  have hA1 := (hk1.block _ (lt_of_blk hA.out) (by simp)).trans hA.out
  replace hA1 := Lib.hid hA1
  clear i0 i1 i2 i3 i4 i5 i6 if' il hsh hk1
  obtain ⟨i0, i1, i2, i3, i4, i5, i6, if', il⟩ := cl7 hA1.out
  go_wp2_with fail
  refine (hinA.out _ hk01.out).mono ?_
  rintro e w2 ⟨rfl, hk1⟩
  have hk02 := Lib.hid (hk01.out.trans hk1)
  have hA2 := (hk1.block _ (lt_of_blk hA1.out) (by simp)).trans hA1.out
  replace hA2 := Lib.hid hA2
  clear i0 i1 i2 i3 i4 i5 i6 if' il hinA hk1
  obtain ⟨i0, i1, i2, i3, i4, i5, i6, if', il⟩ := cl7 hA2.out
  cases b1 with
  | false =>
    have hd : false = r := by rw [← hr.out]; simp
    replace hd := Lib.hid hd
    go_wp2
    go_ret
    exact ⟨by rw [← hd.out]; rfl, hk02.out⟩
  | true =>
  go_wp2_with fail
  refine (hinC.out _ hk02.out).mono ?_
  rintro e w3 ⟨rfl, hk1⟩
  have hk03 := Lib.hid (hk02.out.trans hk1)
  have hA3 := (hk1.block _ (lt_of_blk hA2.out) (by simp)).trans hA2.out
  replace hA3 := Lib.hid hA3
  clear i0 i1 i2 i3 i4 i5 i6 if' il hinC hk1
  obtain ⟨i0, i1, i2, i3, i4, i5, i6, if', il⟩ := cl7 hA3.out
  cases b2 with
  | false =>
    have hd : false = r := by rw [← hr.out]; simp
    replace hd := Lib.hid hd
    go_wp2
    go_ret
    exact ⟨by rw [← hd.out]; rfl, hk03.out⟩
  | true =>
  have hr2 : c.an.all ansOk = r := by rw [← hr.out]; simp
  replace hr2 := Lib.hid hr2
  have han3 := Lib.hid (han.out.keeps hk03.out)
  clear hr han
  go_wp2
  go_loopw [45] (fun i wr => ∃ k : Nat, i = .int .i64 k ∧ k ≤ x6 ∧ Hid (∀ j (hj : j < c.an.length), j < k → ansOk c.an[j] = true) ∧ Hid (Keeps [] w3 wr)) (fun i _ => x6 - (intOf i).toNat)
  case atStart => exact ⟨0, rfl, by omega, Lib.hid (fun _ _ h => by omega), Lib.hid (Keeps.refl _ _)⟩
  case round =>
    clear i0 i1 i2 i3 i4 i5 i6 if' il
    obtain ⟨k, rfl, hk, hno, hkw⟩ := hrel
    by_cases hlt : k < x6
    · have hlt2 : (k : Int) < x6 := by omega
      have hkl : k < c.an.length := by rw [← e1.out]; exact hlt
      obtain ⟨g, o, c', y, hv, hy, he⟩ := (han3.out.keeps hkw.out).elem hkl
      rw [← e1.out] at hv
      cases hv
      obtain ⟨a, ha⟩ : ∃ a, c.an[k] = a := ⟨_, rfl⟩
      rw [ha] at hy
      have hno1 : ansOk a = false → false = r := fun h => by rw [← hr2.out]; exact (all_no hkl (by rw [ha]; exact h)).symm
      have hno2 : ansOk a = true → ∀ j (hj : j < c.an.length), j < k + 1 → ansOk c.an[j] = true := fun h j hj hjk => by
        by_cases e : j = k
        · subst e; rw [ha]; exact h
        · exact hno.out j hj (by omega)
      obtain ⟨ai, aic, ev, hl1, hl2, _⟩ := hy.ins.form
      have hins := hy.ins
      obtain ⟨y0, y1, y2, y3, y4, y5, y6, y7, y8, y9⟩ := y
      have q0 := hy.m
      have q1 := hy.ow
      have q3 := hy.ep
      have q6 := hy.lu
      simp only [AnV.v] at ev hins
      simp only at q0 q1 q3 q6
      simp only [Value.slice.injEq] at ev
      obtain ⟨-, ev, -⟩ := ev
      have hy8m : y8 ≤ 9223372036854775807 := by unfold maxLen at hl2; omega
      have hok : ansOk a = (mach y0 && mach y1 && decide (0 ≤ y3) && decide (0 ≤ y6) && a.ins.all insOk) := by rw [ansOk_def, q0, q1, q3, q6]
      rw [hok] at hno1 hno2
      obtain ⟨n1, hn1⟩ : ∃ b, mach y0 = b := ⟨_, rfl⟩
      obtain ⟨n2, hn2⟩ : ∃ b, mach y1 = b := ⟨_, rfl⟩
      have hd1 := fun W => mach_c y0 W
      have hd2 := fun W => mach_c y1 W
      rw [hn1] at hd1 hno1 hno2
      rw [hn2] at hd2 hno1 hno2
      have g0 := he 0 _ rfl
      have g1 := he 1 _ rfl
      have g2 := he 2 _ rfl
      have g3 := he 3 _ rfl
      have g4 := he 4 _ rfl
      have g5 := he 5 _ rfl
      have g6 := he 6 _ rfl
      have g7 := he 7 _ rfl
      simp only [AnV.v, Nat.add_zero] at g0 g1 g2 g3 g4 g5 g6 g7
      have hbA := heap_alloc_new wr (.cells #[.int .i64 y0, .int .i64 y1, .int .u64 y2, .int .i64 y3, .bool y4, .bool y5, .int .i64 y6, .slice y7 y8 y9] tA)
      have hkn := (Keeps.refl [] wr).alloc (.cells #[.int .i64 y0, .int .i64 y1, .int .u64 y2, .int .i64 y3, .bool y4, .bool y5, .int .i64 y6, .slice y7 y8 y9] tA)
      have hkr := Lib.hid (hkw.out.trans hkn)
      have hinsn := Lib.hid (hins.keeps hkn)
      replace hno1 := Lib.hid hno1
      replace hno2 := Lib.hid hno2
      replace hd1 := Lib.hid hd1
      replace hd2 := Lib.hid hd2
      replace ev := Lib.hid ev
      replace hbA := Lib.hid hbA
      replace ha := Lib.hid ha
      clear he hy q0 q1 q3 q6 hok hn1 hn2 hins hkn hl1 hl2 hkw hno
      go_upto_region 6 with fail
      generalize (wr.alloc (.cells #[.int .i64 y0, .int .i64 y1, .int .u64 y2, .int .i64 y3, .bool y4, .bool y5, .int .i64 y6, .slice y7 y8 y9] tA)) = WA at *
      obtain ⟨XA, hXA⟩ : ∃ X, wr.heap.size = X := ⟨_, rfl⟩
      rw [hXA] at hbA ⊢
      replace hXA := Lib.hid hXA
      clear g0 g1 g2 g3 g4 g5 g6 g7
      obtain ⟨g0, g1, g2, g3, g4, g5, g6, g7, gf, gl⟩ := cl8 hbA.out
      have hfin := Lib.hid (hk03.out.trans hkr.out)
      go_wp2_with fail
      refine (hd1.out _).mono ?_
      rintro e w' ⟨rfl, hw⟩
      obtain rfl := hw
      cases n1 with
      | false =>
        have hd := Lib.hid (hno1.out (by simp))
        go_wp2
        go_ret
        exact ⟨by rw [← hd.out]; rfl, hfin.out⟩
      | true =>
      go_wp2_with fail
      refine (hd2.out _).mono ?_
      rintro e w' ⟨rfl, hw⟩
      obtain rfl := hw
      cases n2 with
      | false =>
        have hd := Lib.hid (hno1.out (by simp))
        go_wp2
        go_ret
        exact ⟨by rw [← hd.out]; rfl, hfin.out⟩
      | true =>
      by_cases h3 : y3 < 0
      · have hd := Lib.hid (hno1.out (by have : decide (0 ≤ y3) = false := by simpa using h3
                                         rw [this]; simp))
        go_wp2
        go_ret
        exact ⟨by rw [← hd.out]; rfl, hfin.out⟩
      have h3d : decide (y3 < 0) = false := by simpa using h3
      have h3e : decide (0 ≤ y3) = true := by simpa using h3
      by_cases h6 : y6 < 0
      · have hd := Lib.hid (hno1.out (by have : decide (0 ≤ y6) = false := by simpa using h6
                                         rw [this]; simp))
        go_wp2
        go_ret
        exact ⟨by rw [← hd.out]; rfl, hfin.out⟩
      have h6d : decide (y6 < 0) = false := by simpa using h6
      have h6e : decide (0 ≤ y6) = true := by simpa using h6
      rw [h3e, h6e] at hno1 hno2
      simp only [Bool.and_self, Bool.true_and] at hno1 hno2
      go_wp2
      generalize WA = W4 at *
      go_loopw [72] (fun i wr => ∃ q : Nat, i = .int .i64 q ∧ q ≤ y8 ∧ Hid (∀ j (hj : j < a.ins.length), j < q → insOk a.ins[j] = true) ∧ Hid (Keeps [] W4 wr)) (fun i _ => y8 - (intOf i).toNat)
      case atStart => exact ⟨0, rfl, by omega, Lib.hid (fun _ _ h => by omega), Lib.hid (Keeps.refl _ _)⟩
      case round =>
        clear g0 g1 g2 g3 g4 g5 g6 g7 gf gl
        obtain ⟨q, rfl, hq, hnq, hkq⟩ := hrel
        by_cases hltq : q < y8
        · have hlt2q : (q : Int) < y8 := by omega
          have hql : q < a.ins.length := by rw [← ev.out]; exact hltq
          obtain ⟨gi, oi, ci, hvi, hei⟩ := (hinsn.out.keeps hkq.out).elem hql
          rw [← ev.out] at hvi
          cases hvi
          obtain ⟨⟨z0, z1, z2⟩, hz⟩ : ∃ z, a.ins[q] = z := ⟨_, rfl⟩
          rw [hz] at hei
          have t0 := hei 0 _ rfl
          have t1 := hei 1 _ rfl
          have t2 := hei 2 _ rfl
          simp only [shT, Nat.add_zero] at t0 t1 t2
          obtain ⟨n3, hn3⟩ : ∃ b, mach z0 = b := ⟨_, rfl⟩
          have hd3 := fun W => mach_c z0 W
          rw [hn3] at hd3
          have hok : insOk a.ins[q] = (n3 && decide (0 ≤ z2)) := by rw [hz, ← hn3]; rfl
          have hbI := heap_alloc_new wr (.cells #[.int .i64 z0, .int .u64 z1, .int .i64 z2] tI)
          have hkI := (Keeps.refl [] wr).alloc (.cells #[.int .i64 z0, .int .u64 z1, .int .i64 z2] tI)
          have hkqI := Lib.hid (hkq.out.trans hkI)
          have hfq := Lib.hid (hfin.out.trans hkqI.out)
          replace hd3 := Lib.hid hd3
          replace hok := Lib.hid hok
          replace hbI := Lib.hid hbI
          replace hz := Lib.hid hz
          clear hei hn3 hkI
          go_upto_region 11 with fail
          generalize (wr.alloc (.cells #[.int .i64 z0, .int .u64 z1, .int .i64 z2] tI)) = WI at *
          obtain ⟨XI, hXI⟩ : ∃ X, wr.heap.size = X := ⟨_, rfl⟩
          rw [hXI] at hbI ⊢
          replace hXI := Lib.hid hXI
          clear t0 t1 t2
          obtain ⟨t0, t1, t2, tf, tl⟩ := cl3 hbI.out
          go_wp2_with fail
          refine (hd3.out _).mono ?_
          rintro e w' ⟨rfl, hw⟩
          obtain rfl := hw
          cases n3 with
          | false =>
            have hd := Lib.hid (hno1.out (all_no hql (by rw [hok.out]; rfl)))
            go_wp2
            go_ret
            exact ⟨by rw [← hd.out]; rfl, hfq.out⟩
          | true =>
          by_cases h2 : z2 < 0
          · have hd := Lib.hid (hno1.out (all_no hql (by rw [hok.out]; simpa using h2)))
            go_wp2
            go_ret
            exact ⟨by rw [← hd.out]; rfl, hfq.out⟩
          have h2d : decide (z2 < 0) = false := by simpa using h2
          have hnq2 : ∀ j (hj : j < a.ins.length), j < q + 1 → insOk a.ins[j] = true := fun j hj hjq => by
            by_cases e : j = q
            · subst e; rw [hok.out]; simpa using h2
            · exact hnq.out j hj (by omega)
          replace hnq2 := Lib.hid hnq2
          go_wp2
          go_roundw
          case rel => exact ⟨q + 1, rfl, by omega, hnq2, hkqI⟩
          case measure => simp [intOf]; omega
        · have hlt2q : ¬ ((q : Int) < y8) := by omega
          have hn4 := Lib.hid (hno2.out (all_take (fun j hj => hnq.out j hj (by have := ev.out; omega))))
          have hkz := Lib.hid (hkr.out.trans hkq.out)
          go_wp2
          go_roundw
          case rel => exact ⟨k + 1, rfl, by omega, hn4, hkz⟩
          case measure => simp [intOf]; omega
    · have hlt2 : ¬ ((k : Int) < x6) := by omega
      have hd : true = r := by rw [← hr2.out]; exact (all_take (fun j hj => hno.out j hj (by have := e1.out; omega))).symm
      have hfin := Lib.hid (hk03.out.trans hkw.out)
      replace hd := Lib.hid hd
      go_wp2
      go_ret
      exact ⟨by rw [← hd.out]; rfl, hfin.out⟩
end Go.Proofs.YtiplgpefapeapaaGreat

namespace Go.Proofs.YtiplgpefapeapaaGreat
open Go.RowKit

abbrev tS : Nat := 115
theorem sLaw : WideMaps.KeyLaw Tryz.prog tS := deep_law_laid laidOut (m := 4) (by omega) (of_decide_eq_true (by kernel_rfl)) (by kernel_rfl) (by rw [Tryz.underlying115])
theorem s_key (x : Qn) (h : qOk x) : ∃ l, keyOf Tryz.prog tS (qV x) = some l := by
  obtain ⟨m, o, n⟩ := x
  obtain ⟨hm, ho, hn⟩ := h
  simp only at hm ho hn
  obtain ⟨d, hd⟩ : ∃ d, Tryz.prog.types.size = d + 2 := ⟨Tryz.prog.types.size - 2, by have : 2 ≤ Tryz.prog.types.size := of_decide_eq_true (by kernel_rfl); omega⟩
  have h1 : Tryz.prog.keyType tS = true := by kernel_rfl
  have h2 : (qV (m, o, n)).formed Tryz.prog tS = true := by kernel_rfl
  have c1 : Tryz.prog.cellsOf tS = 3 := by kernel_rfl
  have c3 : Tryz.prog.cellsOf 3 = 1 := by kernel_rfl
  have c4 : Tryz.prog.cellsOf 26 = 1 := by kernel_rfl
  unfold keyOf
  simp only [Tryz.underlying115, h1, h2, hd, Bool.and_self, if_true]
  have hk : Tryz.prog.keyLits (d + 2 + 1) tS (qV (m, o, n)).cells.toList = some [.int .i64 m, .int .i64 o, .int .u64 n] := by
    have wm : (Lit.int .i64 m).wf = true := hm
    have wo : (Lit.int .i64 o).wf = true := ho
    have wn := w64u hn
    simp [Program.keyLits, Tryz.underlying115, Tryz.underlying3, Tryz.underlying26, c1, c3, c4, Value.cells, wm, wo, wn]
  rw [hk]
  exact ⟨_, rfl⟩
def ktS : MapS.KT Tryz.prog tS Qn := ⟨qV, qOk, Maps.Keyed.of_law sLaw, s_key, fun x y h => by
  obtain ⟨a, b, c⟩ := x
  obtain ⟨a', b', c'⟩ := y
  simp [qV] at h
  obtain ⟨h1, h2, h3⟩ := h
  rw [h1, h2, show c = c' by omega]⟩
abbrev tK : Nat := 120
theorem kLaw : WideMaps.KeyLaw Tryz.prog tK := deep_law_laid laidOut (m := 4) (by omega) (of_decide_eq_true (by kernel_rfl)) (by kernel_rfl) (by rw [Tryz.underlying120])
theorem k_key (x : Qn) (h : qOk x) : ∃ l, keyOf Tryz.prog tK (qV x) = some l := by
  obtain ⟨m, o, n⟩ := x
  obtain ⟨hm, ho, hn⟩ := h
  simp only at hm ho hn
  obtain ⟨d, hd⟩ : ∃ d, Tryz.prog.types.size = d + 2 := ⟨Tryz.prog.types.size - 2, by have : 2 ≤ Tryz.prog.types.size := of_decide_eq_true (by kernel_rfl); omega⟩
  have h1 : Tryz.prog.keyType tK = true := by kernel_rfl
  have h2 : (qV (m, o, n)).formed Tryz.prog tK = true := by kernel_rfl
  have c1 : Tryz.prog.cellsOf tK = 3 := by kernel_rfl
  have c3 : Tryz.prog.cellsOf 3 = 1 := by kernel_rfl
  have c4 : Tryz.prog.cellsOf 26 = 1 := by kernel_rfl
  unfold keyOf
  simp only [Tryz.underlying120, h1, h2, hd, Bool.and_self, if_true]
  have hk : Tryz.prog.keyLits (d + 2 + 1) tK (qV (m, o, n)).cells.toList = some [.int .i64 m, .int .i64 o, .int .u64 n] := by
    have wm : (Lit.int .i64 m).wf = true := hm
    have wo : (Lit.int .i64 o).wf = true := ho
    have wn := w64u hn
    simp [Program.keyLits, Tryz.underlying120, Tryz.underlying3, Tryz.underlying26, c1, c3, c4, Value.cells, wm, wo, wn]
  rw [hk]
  exact ⟨_, rfl⟩
def ktK : MapS.KT Tryz.prog tK Qn := ⟨qV, qOk, Maps.Keyed.of_law kLaw, k_key, fun x y h => by
  obtain ⟨a, b, c⟩ := x
  obtain ⟨a', b', c'⟩ := y
  simp [qV] at h
  obtain ⟨h1, h2, h3⟩ := h
  rw [h1, h2, show c = c' by omega]⟩
theorem z_key (x : Int) (h : W64 x) : ∃ l, keyOf Tryz.prog 3 (zV x) = some l := ⟨_, Maps.keyOf_int_mk Tryz.underlying3 h⟩
def ktZ : MapS.KT Tryz.prog 3 Int := ⟨zV, W64, Maps.int_keyed Tryz.underlying3, z_key, fun x y h => by simpa using h⟩
end Go.Proofs.YtiplgpefapeapaaGreat

namespace Go.Proofs.YtiplgpefapeapaaGreat
open Go.RowKit

def FndPost (w : World) (Y : List Ans) (e : Ending) (w' : World) : Prop := ∃ b, e = .returned (.map (some b)) ∧ MapS.M ktK zV w' b (outsOf Y) ∧ w.heap.size ≤ b ∧ Keeps [] w w'
set_option maxRecDepth 100000 in
set_option maxHeartbeats 8000000 in
theorem found_c (w : World) (x : CtV) (c : Ct) (h : CtW w x c) (hfit : ∀ a ∈ c.an, a.Fit) (hf : c.Few) :
    Calls Tryz.prog 72 #[ctV x] w (FndPost w c.an) := by
  have hmm := @run_makeMap Tryz.prog
  have han := h.an
  obtain ⟨x0, x1, x2, x3, x4, ⟨x5, x6, x7⟩, ⟨x8, x9, x10⟩⟩ := x
  simp only [slv] at han
  obtain ⟨_, _, e1, hla, hca⟩ := han.form
  simp only [Value.slice.injEq] at e1
  obtain ⟨-, e1, -⟩ := e1
  rw [← e1] at hla
  have hx6m : x6 ≤ 9223372036854775807 := by unfold maxLen at hca; omega
  have hA := heap_alloc_new w (.cells #[.int .i64 x0, .int .i64 x1, .int .i64 x2, .int .u64 x3, .int .i64 x4, .slice x5 x6 x7, .slice x8 x9 x10] tCt)
  have hkA := (Keeps.refl [] w).alloc (.cells #[.int .i64 x0, .int .i64 x1, .int .i64 x2, .int .u64 x3, .int .i64 x4, .slice x5 x6 x7, .slice x8 x9 x10] tCt)
  obtain ⟨W, hW⟩ : ∃ W, w.alloc (.cells #[.int .i64 x0, .int .i64 x1, .int .i64 x2, .int .u64 x3, .int .i64 x4, .slice x5 x6 x7, .slice x8 x9 x10] tCt) = W := ⟨_, rfl⟩
  obtain ⟨B, hB⟩ : ∃ B, w.heap.size = B := ⟨_, rfl⟩
  rw [hW] at hA hkA
  rw [hB] at hA
  have hWs := hkA.size
  obtain ⟨Y, hY⟩ : ∃ Y, c.an = Y := ⟨_, rfl⟩
  have hfi : ∀ a ∈ Y, a.ins.length ≤ 1000 := by rw [← hY]; exact hf.ins
  have hfn := hf.an
  rw [hY] at han e1 hfit hfn ⊢
  replace hfit := Lib.hid hfit
  replace hfi := Lib.hid hfi
  replace han := Lib.hid han
  replace hkA := Lib.hid hkA
  replace hW := Lib.hid hW
  replace hB := Lib.hid hB
  replace e1 := Lib.hid e1
  replace hA := Lib.hid hA
  replace hfn := Lib.hid hfn
  clear h hY hf
  simp only [ctV, slv]
  go_enter Tryz.func72, Tryz.ntmps72
  go_upto_region 1 with fail
  rw [hW.out, hB.out]
  have hM := MapS.M.made ktK (vf := zV) W
  have hkM : Keeps [] W (W.alloc (.map #[] 0)) := (Keeps.refl _ _).alloc _
  have hbE := heap_alloc_new W (.map #[] 0)
  have hk1 := hkA.out.trans hkM
  have hA1 := (hkM.block _ (lt_of_blk hA.out) (by simp)).trans hA.out
  replace hM := Lib.hid hM
  replace hbE := Lib.hid hbE
  replace hk1 := Lib.hid hk1
  replace hA1 := Lib.hid hA1
  clear hkM
  go_upto_region 2 with fail
  generalize (W.alloc (.map #[] 0)) = w2 at *
  obtain ⟨bE, hbEe⟩ : ∃ b, W.heap.size = b := ⟨_, rfl⟩
  rw [hbEe] at hM hbE hWs ⊢
  clear hmm hbEe
  obtain ⟨i0, i1, i2, i3, i4, i5, i6, if', il⟩ := cl7 hA1.out
  go_wp2
  go_loopw [15] (fun i wr => ∃ k : Nat, i = .int .i64 k ∧ k ≤ x6 ∧ Hid (MapS.M ktK zV wr bE ((Y.take k).foldl outsA [])) ∧ Hid (Keeps [] w wr) ∧ Hid (((Y.take k).foldl outsA []).length ≤ k * 1000)) (fun i _ => x6 - (intOf i).toNat)
  case atStart => exact ⟨0, rfl, by omega, hM, hk1, Lib.hid (by simp)⟩
  case round =>
    clear hM i0 i1 i2 i3 i4 i5 i6 if' il
    obtain ⟨k, rfl, hk, hMr, hkr, hln⟩ := hrel
    by_cases hlt : k < x6
    · have hlt2 : (k : Int) < x6 := by omega
      have hkY : k < Y.length := by rw [← e1.out]; exact hlt
      obtain ⟨g, o, c', y, hv, hy, he⟩ := (han.out.keeps hkr.out).elem hkY
      rw [← e1.out] at hv
      cases hv
      have hst : (Y.take (k + 1)).foldl outsA [] = outsA ((Y.take k).foldl outsA []) Y[k] := foldl_succ _ _ _ _ hkY
      have hao := hfit.out _ (List.getElem_mem hkY)
      have hai := hfi.out _ (List.getElem_mem hkY)
      obtain ⟨a, ha⟩ : ∃ a, Y[k] = a := ⟨_, rfl⟩
      rw [ha] at hy hst hao hai
      obtain ⟨ai, aic, ev, hl1, hl2, _⟩ := hy.ins.form
      have hins := hy.ins
      obtain ⟨y0, y1, y2, y3, y4, y5, y6, y7, y8, y9⟩ := y
      have q0 := hy.m
      simp only [AnV.v] at ev hins
      simp only at q0
      subst q0
      simp only [Value.slice.injEq] at ev
      obtain ⟨-, ev, -⟩ := ev
      rw [← ev] at hai
      have g0 := he 0 _ rfl
      have g1 := he 1 _ rfl
      have g2 := he 2 _ rfl
      have g3 := he 3 _ rfl
      have g4 := he 4 _ rfl
      have g5 := he 5 _ rfl
      have g6 := he 6 _ rfl
      have g7 := he 7 _ rfl
      simp only [AnV.v, Nat.add_zero] at g0 g1 g2 g3 g4 g5 g6 g7
      have hbA := heap_alloc_new wr (.cells #[.int .i64 a.m, .int .i64 y1, .int .u64 y2, .int .i64 y3, .bool y4, .bool y5, .int .i64 y6, .slice y7 y8 y9] tA)
      have hkn := (Keeps.refl [] wr).alloc (.cells #[.int .i64 a.m, .int .i64 y1, .int .u64 y2, .int .i64 y3, .bool y4, .bool y5, .int .i64 y6, .slice y7 y8 y9] tA)
      have hkrA := Lib.hid (hkr.out.trans hkn)
      have hMA := hMr.out.keeps ktK hkn
      have hbEX : bE < wr.heap.size := hMr.out.lt
      have hinsn := Lib.hid (hins.keeps hkn)
      obtain ⟨acc, hacc⟩ : ∃ acc, (Y.take k).foldl outsA [] = acc := ⟨_, rfl⟩
      rw [hacc] at hMA hln hst
      replace hacc := Lib.hid hacc
      replace hMA := Lib.hid hMA
      replace hst := Lib.hid hst
      replace hao := Lib.hid hao
      replace ev := Lib.hid ev
      replace hbA := Lib.hid hbA
      replace ha := Lib.hid ha
      clear he hy hins hkn hl1 hl2 hkr hMr
      go_wp2
      generalize (wr.alloc (.cells #[.int .i64 a.m, .int .i64 y1, .int .u64 y2, .int .i64 y3, .bool y4, .bool y5, .int .i64 y6, .slice y7 y8 y9] tA)) = WA at *
      obtain ⟨XA, hXA⟩ : ∃ X, wr.heap.size = X := ⟨_, rfl⟩
      rw [hXA] at hbA hbEX ⊢
      replace hXA := Lib.hid hXA
      clear g0 g1 g2 g3 g4 g5 g6 g7
      go_loopw [22] (fun i wi => ∃ j : Nat, i = .int .i64 j ∧ j ≤ y8 ∧ Hid (MapS.M ktK zV wi bE ((a.ins.take j).foldl (outA a.m) acc)) ∧ Hid (Keeps [bE] WA wi)) (fun i _ => y8 - (intOf i).toNat)
      case atStart => exact ⟨0, rfl, by omega, hMA, Lib.hid (Keeps.refl _ _)⟩
      case round =>
        obtain ⟨j, rfl, hj, hMi, hki⟩ := hrel
        have hkwi : Keeps [] w wr := hkrA.out.fresh hki.out (fun b hb => by simp at hb; subst hb; exact .inr (by omega))
        by_cases hltj : j < y8
        · have hlt2j : (j : Int) < y8 := by omega
          have hja : j < a.ins.length := by rw [← ev.out]; exact hltj
          have hxo := hao.out.ins _ (List.getElem_mem hja)
          have hst2 : (a.ins.take (j + 1)).foldl (outA a.m) acc = outA a.m ((a.ins.take j).foldl (outA a.m) acc) a.ins[j] := foldl_succ _ _ _ _ hja
          have hkiw : ∀ (i : Nat) (u : Value), i < w.heap.size → True := fun _ _ _ => trivial
          obtain ⟨g2, o2, c2, hv2, he2⟩ := (hinsn.out.keepE hki.out (fun b hb hne e => by
            simp at hb
            subst hb
            obtain ⟨es, ec, hmap⟩ := hMA.out.isMap
            obtain ⟨gg, oo, cc, hvv, hee⟩ := hinsn.out.elem (k := 0) (by cases hq : a.ins with | nil => exact absurd hq hne | cons _ _ => simp)
            rw [hvv] at e
            simp [Value.ownBlock] at e
            subst e
            have := hee 0 _ rfl
            simp [World.cell?, hmap] at this)).elem hja
          rw [← ev.out] at hv2
          cases hv2
          obtain ⟨y, hye⟩ : ∃ y, a.ins[j] = y := ⟨_, rfl⟩
          rw [hye] at he2 hxo hst2
          obtain ⟨z0, z1, z2⟩ := y
          have t0 := he2 0 _ rfl
          have t1 := he2 1 _ rfl
          have t2 := he2 2 _ rfl
          simp only [shT, Nat.add_zero] at t0 t1 t2
          have hbi := (hki.out.block XA (lt_of_blk hbA.out) (by simp; omega)).trans hbA.out
          have hqk : qOk (a.m, z0, z1) := ⟨hao.out.q.1, hxo.1, hxo.2.1⟩
          obtain ⟨aj, haj⟩ : ∃ aj, (a.ins.take j).foldl (outA a.m) acc = aj := ⟨_, rfl⟩
          have hajl : aj.length < maxLen := by
            rw [← haj]
            have h1 := out_fold_len a.m (a.ins.take j) acc
            have h2 := hln.out
            have h3 : (a.ins.take j).length ≤ a.ins.length := by simp; omega
            have h4 := ev.out
            have h5 : k * 1000 ≤ 1000 * 1000 := Nat.mul_le_mul_right _ (by have := hfn.out; omega)
            unfold maxLen; omega
          rw [haj] at hMi hst2
          have hkI := ((Keeps.refl [] wr).alloc (.cells #[.int .i64 z0, .int .u64 z1, .int .i64 z2] tI)).alloc (.cells #[.int .i64 a.m, .int .i64 z0, .int .u64 z1] tK)
          have hMj := hMi.out.keeps ktK hkI
          have hkj : Keeps [bE] WA _ := hki.out.trans (hkI.of_nil)
          have hlk := MapS.M.look_ok ktK Tryz.underlying117 (zV 0) zeroZ hMj hqk
          obtain ⟨ov, hov⟩ : ∃ ov : Int, ((MapS.get (a.m, z0, z1) aj).map zV).getD (zV 0) = zV ov := by
            cases MapS.get (a.m, z0, z1) aj with
            | none => exact ⟨_, rfl⟩
            | some u => exact ⟨u, rfl⟩
          obtain ⟨ob, hob⟩ : ∃ ob, (MapS.get (a.m, z0, z1) aj).isSome = ob := ⟨_, rfl⟩
          rw [hov, hob] at hlk
          simp only [ktK, qV, zV] at hlk
          obtain ⟨b0, _, _, _, _, _, _, _, bf, bl⟩ := cl8 hbi
          have hI := heap_alloc_new wr (.cells #[.int .i64 z0, .int .u64 z1, .int .i64 z2] tI)
          have hIz : (wr.alloc (.cells #[.int .i64 z0, .int .u64 z1, .int .i64 z2] tI)).heap.size = wr.heap.size + 1 := by simp
          clear hov he2 hye hkiw
          cases ob with
          | true =>
            have hsame : outA a.m aj (z0, z1, z2) = aj := if_pos hob
            rw [hsame] at hst2
            rw [← hst2] at hMj
            replace hst2 := Lib.hid hst2
            replace hMj := Lib.hid hMj
            replace hkj := Lib.hid hkj
            replace hob := Lib.hid hob
            replace haj := Lib.hid haj
            replace hqk := Lib.hid hqk
            replace hkwi := Lib.hid hkwi
            clear hsame hI hIz hkI
            go_wp2
            go_roundw
            case rel => exact ⟨j + 1, rfl, by omega, hMj, hkj⟩
            case measure => simp [intOf]; omega
          | false =>
            have hnew : outA a.m aj (z0, z1, z2) = aj ++ [((a.m, z0, z1), z2)] := if_neg (by simp [hob])
            rw [hnew] at hst2
            have hget : MapS.get (a.m, z0, z1) aj = none := by simpa using hob
            obtain ⟨wk, hrun, hMk, hkk⟩ := MapS.M.putNew ktK Tryz.underlying117 hMj hqk hget hajl z2
            rw [← hst2] at hMk
            have hkw := hkj.trans hkk
            simp only [ktK, qV, zV] at hrun
            replace hst2 := Lib.hid hst2
            replace hMk := Lib.hid hMk
            replace hkw := Lib.hid hkw
            replace hob := Lib.hid hob
            replace haj := Lib.hid haj
            replace hqk := Lib.hid hqk
            replace hkwi := Lib.hid hkwi
            clear hnew hMj hkj hkk hget hI hIz hkI
            go_wp2
            go_roundw
            case rel => exact ⟨j + 1, rfl, by omega, hMk, hkw⟩
            case measure => simp [intOf]; omega
        · have hlt2j : ¬ ((j : Int) < y8) := by omega
          have hjx : j = a.ins.length := by have := ev.out; omega
          have hfin : (a.ins.take j).foldl (outA a.m) acc = outsA acc a := by rw [hjx, foldl_all]; rfl
          rw [hfin, ← hst.out] at hMi
          have hlf : ((Y.take (k + 1)).foldl outsA []).length ≤ (k + 1) * 1000 := by
            rw [hst.out]
            have h1 := out_fold_len a.m a.ins acc
            have h2 := hln.out
            have h4 := ev.out
            unfold outsA
            rw [Nat.add_mul]
            omega
          replace hlf := Lib.hid hlf
          replace hkwi := Lib.hid hkwi
          replace hjx := Lib.hid hjx
          clear hfin
          go_wp2
          go_roundw
          case rel => exact ⟨k + 1, rfl, by omega, hMi, hkwi, hlf⟩
          case measure => simp [intOf]; omega
    · have hlt2 : ¬ ((k : Int) < x6) := by omega
      have hkN : k = Y.length := by have := e1.out; omega
      have hO : (Y.take k).foldl outsA [] = outsOf Y := by rw [hkN, foldl_all]; rfl
      rw [hO] at hMr
      replace hkN := Lib.hid hkN
      replace hO := Lib.hid hO
      go_wp2
      go_ret
      exact ⟨bE, rfl, hMr.out, by have := hB.out; omega, hkr.out⟩
end Go.Proofs.YtiplgpefapeapaaGreat

namespace Go.Proofs.YtiplgpefapeapaaGreat
open Go.RowKit

/-- The map of the answers: their questions in order, and what they say of the last use. -/
structure AnsM (R : List (Qn × AnV)) (Y : List Ans) : Prop where
  len : R.length = Y.length
  q : ∀ k (h1 : k < R.length) (h2 : k < Y.length), R[k].1 = Y[k].q
  lu : ∀ k (h1 : k < R.length) (h2 : k < Y.length), R[k].2.lu = Y[k].lu
theorem AnsM.snoc {R : List (Qn × AnV)} {Y : List Ans} (h : AnsM R Y) {x : AnV} {a : Ans} (hl : x.lu = a.lu) : AnsM (R ++ [(a.q, x)]) (Y ++ [a]) := by
  have hlen := h.len
  refine ⟨by simp [hlen], fun k h1 h2 => ?_, fun k h1 h2 => ?_⟩
  · by_cases e : k < R.length
    · rw [List.getElem_append_left e, List.getElem_append_left (by omega)]
      exact h.q k e (by omega)
    · have ek : k = R.length := by simp at h1; omega
      subst ek
      simp [List.getElem_append, hlen]
  · by_cases e : k < R.length
    · rw [List.getElem_append_left e, List.getElem_append_left (by omega)]
      exact h.lu k e (by omega)
    · have ek : k = R.length := by simp at h1; omega
      subst ek
      simp [List.getElem_append, hlen, hl]
theorem AnsM.none {R : List (Qn × AnV)} {Y : List Ans} (h : AnsM R Y) {q : Qn} (hq : ∀ a ∈ Y, a.q ≠ q) : MapS.get q R = none := MapS.get_none.2 (fun p hp e => by
  obtain ⟨k, hk, rfl⟩ := List.getElem_of_mem hp
  have hk2 : k < Y.length := by rw [← h.len]; exact hk
  exact hq _ (List.getElem_mem hk2) ((h.q k hk hk2).symm.trans e))
theorem AnsM.get {R : List (Qn × AnV)} {Y : List Ans} (h : AnsM R Y) (hs : SrtA Y) (q : Qn) : (MapS.get q R).isSome = hasA Y q ∧ ((MapS.get q R).map AnV.lu).getD 0 = luL Y q := by
  by_cases hq : ∃ a ∈ Y, a.q = q
  · obtain ⟨a, ha, hqa⟩ := hq
    obtain ⟨k, hk, rfl⟩ := List.getElem_of_mem ha
    have hk2 : k < R.length := by rw [h.len]; exact hk
    have hnd : MapS.ND R := by
      unfold MapS.ND
      rw [List.Nodup, List.pairwise_iff_getElem]
      intro i j hi hj hij
      simp only [List.length_map] at hi hj
      simp only [List.getElem_map]
      rw [h.q i hi (by rw [← h.len]; exact hi), h.q j hj (by rw [← h.len]; exact hj)]
      intro e
      have := List.pairwise_iff_getElem.1 hs i j (by rw [← h.len]; exact hi) (by rw [← h.len]; exact hj) hij
      rw [e] at this
      exact qlt_irrefl _ this
    have hg : MapS.get q R = some R[k].2 := (MapS.get_iff hnd).2 (by
      have := List.getElem_mem hk2
      have e := h.q k hk2 hk
      rw [hqa] at e
      rw [← e]
      exact this)
    rw [hg]
    refine ⟨(hasA_iff.2 ⟨_, ha, hqa⟩).symm, ?_⟩
    simp only [Option.map_some, Option.getD_some]
    rw [h.lu k hk2 hk]
    exact (luL_at hk (fun j hj hjk e => by
      have := List.pairwise_iff_getElem.1 hs j k hj hk hjk
      rw [e, hqa] at this
      exact qlt_irrefl _ this) hqa).symm
  · have hn : ∀ a ∈ Y, a.q ≠ q := fun a ha e => hq ⟨a, ha, e⟩
    rw [h.none hn]
    refine ⟨?_, ?_⟩
    · cases hh : hasA Y q with
      | false => rfl
      | true => exact absurd (hasA_iff.1 hh) hq
    · exact (luL_no (fun j hj => hn _ (List.getElem_mem hj))).symm
def AnsMPost (w : World) (Y : List Ans) (e : Ending) (w' : World) : Prop := ∃ b R, e = .returned (.map (some b)) ∧ MapS.M ktS aV w' b R ∧ AnsM R Y ∧ w.heap.size ≤ b ∧ Keeps [] w w'
set_option maxRecDepth 100000 in
set_option maxHeartbeats 8000000 in
theorem answersM_c (w : World) (x : CtV) (c : Ct) (h : CtW w x c) (hfit : ∀ a ∈ c.an, a.Fit) (hf : c.Few) (hs : SrtA c.an) :
    Calls Tryz.prog 71 #[ctV x] w (AnsMPost w c.an) := by
  have hmm := @run_makeMap Tryz.prog
  have han := h.an
  obtain ⟨x0, x1, x2, x3, x4, ⟨x5, x6, x7⟩, ⟨x8, x9, x10⟩⟩ := x
  simp only [slv] at han
  obtain ⟨_, _, e1, hla, hca⟩ := han.form
  simp only [Value.slice.injEq] at e1
  obtain ⟨-, e1, -⟩ := e1
  rw [← e1] at hla
  have hx6m : x6 ≤ 9223372036854775807 := by unfold maxLen at hca; omega
  have hA := heap_alloc_new w (.cells #[.int .i64 x0, .int .i64 x1, .int .i64 x2, .int .u64 x3, .int .i64 x4, .slice x5 x6 x7, .slice x8 x9 x10] tCt)
  have hkA := (Keeps.refl [] w).alloc (.cells #[.int .i64 x0, .int .i64 x1, .int .i64 x2, .int .u64 x3, .int .i64 x4, .slice x5 x6 x7, .slice x8 x9 x10] tCt)
  obtain ⟨W, hW⟩ : ∃ W, w.alloc (.cells #[.int .i64 x0, .int .i64 x1, .int .i64 x2, .int .u64 x3, .int .i64 x4, .slice x5 x6 x7, .slice x8 x9 x10] tCt) = W := ⟨_, rfl⟩
  obtain ⟨B, hB⟩ : ∃ B, w.heap.size = B := ⟨_, rfl⟩
  rw [hW] at hA hkA
  rw [hB] at hA
  have hWs := hkA.size
  obtain ⟨Y, hY⟩ : ∃ Y, c.an = Y := ⟨_, rfl⟩
  have hfn := hf.an
  rw [hY] at han e1 hfit hfn hs ⊢
  replace hfit := Lib.hid hfit
  replace han := Lib.hid han
  replace hkA := Lib.hid hkA
  replace hW := Lib.hid hW
  replace hB := Lib.hid hB
  replace e1 := Lib.hid e1
  replace hA := Lib.hid hA
  replace hfn := Lib.hid hfn
  replace hs := Lib.hid hs
  clear h hY hf
  simp only [ctV, slv]
  go_enter Tryz.func71, Tryz.ntmps71
  go_upto_region 1 with fail
  rw [hW.out, hB.out]
  have hM := MapS.M.made ktS (vf := aV) W
  have hkM : Keeps [] W (W.alloc (.map #[] 0)) := (Keeps.refl _ _).alloc _
  have hk1 := hkA.out.trans hkM
  have hA1 := (hkM.block _ (lt_of_blk hA.out) (by simp)).trans hA.out
  replace hM := Lib.hid hM
  replace hk1 := Lib.hid hk1
  replace hA1 := Lib.hid hA1
  clear hkM
  go_upto_region 2 with fail
  generalize (W.alloc (.map #[] 0)) = w2 at *
  obtain ⟨bE, hbEe⟩ : ∃ b, W.heap.size = b := ⟨_, rfl⟩
  rw [hbEe] at hM hWs ⊢
  clear hmm hbEe
  obtain ⟨i0, i1, i2, i3, i4, i5, i6, if', il⟩ := cl7 hA1.out
  go_wp2
  go_loopw [10] (fun i wr => ∃ (k : Nat) (R : List (Qn × AnV)), i = .int .i64 k ∧ k ≤ x6 ∧ Hid (MapS.M ktS aV wr bE R) ∧ Hid (AnsM R (Y.take k)) ∧ Hid (Keeps [] w wr)) (fun i _ => x6 - (intOf i).toNat)
  case atStart => exact ⟨0, [], rfl, by omega, hM, Lib.hid ⟨rfl, fun k h1 => by simp at h1, fun k h1 => by simp at h1⟩, hk1⟩
  case round =>
    clear hM i0 i1 i2 i3 i4 i5 i6 if' il
    obtain ⟨k, R, rfl, hk, hMr, hR, hkr⟩ := hrel
    by_cases hlt : k < x6
    · have hlt2 : (k : Int) < x6 := by omega
      have hkY : k < Y.length := by rw [← e1.out]; exact hlt
      obtain ⟨g, o, c', y, hv, hy, he⟩ := (han.out.keeps hkr.out).elem hkY
      rw [← e1.out] at hv
      cases hv
      have hao := hfit.out _ (List.getElem_mem hkY)
      have hRl : R.length < maxLen := by
        have h1 := hR.out.len
        have h2 := hfn.out
        rw [List.length_take] at h1
        unfold maxLen
        omega
      have hnone : MapS.get Y[k].q R = none := hR.out.none (fun a ha e => by
        obtain ⟨j, hj, rfl⟩ := List.getElem_of_mem ha
        rw [List.length_take] at hj
        rw [List.getElem_take] at e
        have := List.pairwise_iff_getElem.1 hs.out j k (by omega) hkY (by omega)
        rw [e] at this
        exact qlt_irrefl _ this)
      have hRn : AnsM (R ++ [(Y[k].q, y)]) (Y.take (k + 1)) := by
        rw [List.take_succ_eq_append_getElem hkY]
        exact hR.out.snoc hy.lu
      have hq0 : Y[k].q = (y.m, y.ow, y.n) := by unfold Ans.q; rw [hy.m, hy.ow, hy.n]
      have hqk := hao.q
      rw [hq0] at hRn hnone hqk
      obtain ⟨y0, y1, y2, y3, y4, y5, y6, y7, y8, y9⟩ := y
      simp only at hRn hnone hqk
      have g0 := he 0 _ rfl
      have g1 := he 1 _ rfl
      have g2 := he 2 _ rfl
      have g3 := he 3 _ rfl
      have g4 := he 4 _ rfl
      have g5 := he 5 _ rfl
      have g6 := he 6 _ rfl
      have g7 := he 7 _ rfl
      simp only [AnV.v, Nat.add_zero] at g0 g1 g2 g3 g4 g5 g6 g7
      have hkn := (Keeps.refl [] wr).alloc (.cells #[.int .i64 y0, .int .i64 y1, .int .u64 y2, .int .i64 y3, .bool y4, .bool y5, .int .i64 y6, .slice y7 y8 y9] tA)
      have hMA := hMr.out.keeps ktS hkn
      obtain ⟨wk, hrun, hMk, hkk⟩ := MapS.M.putNew ktS Tryz.underlying112 hMA hqk hnone hRl ⟨y0, y1, y2, y3, y4, y5, y6, y7, y8, y9⟩
      simp only [ktS, qV, aV, AnV.v] at hrun
      have hkf : Keeps [] w wk := (hkr.out.trans hkn).fresh hkk (fun b hb => by simp at hb; subst hb; have := hkA.out.size; exact .inr (by omega))
      replace hRn := Lib.hid hRn
      replace hMk := Lib.hid hMk
      replace hkf := Lib.hid hkf
      replace hqk := Lib.hid hqk
      replace hq0 := Lib.hid hq0
      clear he hy hkn hMA hkk hMr hR hnone hao hRl
      go_wp2
      go_roundw
      case rel => exact ⟨k + 1, _, rfl, by omega, hMk, hRn, hkf⟩
      case measure => simp [intOf]; omega
    · have hlt2 : ¬ ((k : Int) < x6) := by omega
      have hkN : k = Y.length := by have := e1.out; omega
      have hR2 : AnsM R Y := by have := hR.out; rw [hkN, List.take_length] at this; exact this
      replace hkN := Lib.hid hkN
      replace hR2 := Lib.hid hR2
      go_wp2
      go_ret
      exact ⟨bE, R, rfl, hMr.out, hR2.out, by have := hB.out; omega, hkr.out⟩
end Go.Proofs.YtiplgpefapeapaaGreat

namespace Go.Proofs.YtiplgpefapeapaaGreat
open Go.RowKit

theorem nd_inj {l : List Nat} (h : l.Nodup) {i j : Nat} (hi : i < l.length) (hj : j < l.length) (e : l[i] = l[j]) : i = j := by
  rcases Nat.lt_trichotomy i j with c | c | c
  · exact absurd e (List.pairwise_iff_getElem.1 h i j hi hj c)
  · exact c
  · exact absurd e.symm (List.pairwise_iff_getElem.1 h j i hj hi c)
abbrev bxC (p : PCl) (V : Nat → Nat → SlT) (k : Nat) : Obj := .cells #[.int .i64 p.m, .int .i64 p.ep, slv (V k 0), slv (V k 1), slv (V k 2)] tC (0, 0)
structure BX (w : World) (B : Nat) (bs : List Nat) (P : List PCl) (V : Nat → Nat → SlT) : Prop where
  len : bs.length = P.length
  b : ∀ k (hk : k < P.length) (hb : k < bs.length), B ≤ bs[k] ∧ w.heap[bs[k]]? = some (bxC P[k] V k)
  nd : bs.Nodup
  o : ∀ k j (hk : k < P.length), j < 3 → shT.O w B tN (slv (V k j)) (P[k].at j)
  d : ∀ k j k' j' b, k < P.length → j < 3 → k' < P.length → j' < 3 → (slv (V k j)).ownBlock = some b → (slv (V k' j')).ownBlock = some b → k = k' ∧ j = j'
namespace BX
variable {w w' : World} {B : Nat} {bs : List Nat} {P : List PCl} {V : Nat → Nat → SlT}
theorem nil (w : World) (B : Nat) (V : Nat → Nat → SlT) : BX w B [] [] V := ⟨rfl, fun k hk => by simp at hk, List.nodup_nil, fun k j hk => by simp at hk, fun k j k' j' b hk => by simp at hk⟩
theorem keeps (h : BX w B bs P V) (hk : Keeps [] w w') : BX w' B bs P V :=
  ⟨h.len, fun k h1 h2 => ⟨(h.b k h1 h2).1, (hk.block _ (lt_of_blk (h.b k h1 h2).2) (by simp)).trans (h.b k h1 h2).2⟩, h.nd, fun k j h1 h2 => (h.o k j h1 h2).keeps hk, h.d⟩
/-- A box is no list's block. -/
theorem ne (h : BX w B bs P V) {k j i b : Nat} (hk : k < P.length) (hj : j < 3) (hi : i < P.length) (hb : i < bs.length) (h1 : (slv (V k j)).ownBlock = some b) : bs[i] ≠ b := fun e => by
  obtain ⟨cs, h2⟩ := (h.o k j hk hj).tag b h1
  exact tag_ne h2 (h.b i hi hb).2 (by decide) e.symm
theorem keepS {S : List Nat} (h : BX w B bs P V) (hk : Keeps S w w') (h1 : ∀ k (hk : k < bs.length), bs[k] ∉ S) (h2 : ∀ k j b, k < P.length → j < 3 → (slv (V k j)).ownBlock = some b → b ∉ S) : BX w' B bs P V :=
  ⟨h.len, fun k g1 g2 => ⟨(h.b k g1 g2).1, (hk.block _ (lt_of_blk (h.b k g1 g2).2) (h1 k g2)).trans (h.b k g1 g2).2⟩, h.nd, fun k j g1 g2 => (h.o k j g1 g2).keepS hk (fun b hb e => h2 k j b g1 g2 e hb), h.d⟩
/-- All blocks have the tags of claims and of needs: a block with another tag may turn. -/
theorem keepT {S : List Nat} (h : BX w B bs P V) (hk : Keeps S w w') (hS : ∀ b ∈ S, ∀ cs, w.heap[b]? ≠ some (Obj.cells cs tC (0, 0)) ∧ w.heap[b]? ≠ some (Obj.cells cs tN (0, 0))) : BX w' B bs P V :=
  h.keepS hk (fun k g2 hm => (hS _ hm _).1 (h.b k (by have := h.len; omega) g2).2) (fun k j b g1 g2 e hm => by obtain ⟨cs, hc⟩ := (h.o k j g1 g2).tag b e; exact (hS b hm cs).2 hc)
theorem lt (h : BX w B bs P V) {k : Nat} (hk : k < bs.length) : bs[k] < w.heap.size := lt_of_blk (h.b k (by have := h.len; omega) hk).2
/-- A new box. -/
theorem push (h : BX w B bs P V) (hk : Keeps [] w w') (m ep : Int) {b : Nat} (hb : w.heap.size ≤ b) (hB : B ≤ b) (hc : w'.heap[b]? = some (.cells #[.int .i64 m, .int .i64 ep, .slice none 0 0, .slice none 0 0, .slice none 0 0] tC (0, 0))) :
    BX w' B (bs ++ [b]) (P ++ [⟨m, ep, [], [], []⟩]) (fun a c => if a = P.length then nilT else V a c) := by
  have hl := h.len
  refine ⟨by simp [hl], fun k h1 h2 => ?_, ?_, fun k j h1 h2 => ?_, fun k j k' j' c h1 h2 h3 h4 e1 e2 => ?_⟩
  · by_cases e : k = P.length
    · subst e
      have e2 : (bs ++ [b])[P.length] = b := by simp [List.getElem_append, hl]
      rw [e2]
      refine ⟨hB, ?_⟩
      rw [hc]
      simp [bxC]
    · have hlt : k < P.length := by simp at h1; omega
      have hlb : k < bs.length := by omega
      rw [List.getElem_append_left hlb]
      obtain ⟨g1, g2⟩ := h.b k hlt hlb
      refine ⟨g1, ?_⟩
      rw [hk.block _ (lt_of_blk g2) (by simp), g2]
      simp [bxC, List.getElem_append_left hlt, e]
  · rw [List.nodup_append]
    refine ⟨h.nd, by simp, fun a ha c hc e => ?_⟩
    simp only [List.mem_singleton] at hc
    subst hc
    subst e
    obtain ⟨i, hi, e⟩ := List.getElem_of_mem ha
    have := h.lt hi
    omega
  · by_cases e : k = P.length
    · subst e
      simp only [if_true]
      have : (P ++ [(⟨m, ep, [], [], []⟩ : PCl)])[P.length].at j = [] := by
        simp only [List.getElem_concat_length]
        unfold PCl.at; split <;> rfl
      rw [this]
      exact Sh.O.nil _ _ _ _
    · have hlt : k < P.length := by simp at h1; omega
      simp only [if_neg e, List.getElem_append_left hlt]
      exact (h.o k j hlt h2).keeps hk
  · have n1 : k ≠ P.length := fun e => by subst e; simp [slv, Value.ownBlock] at e1
    have n2 : k' ≠ P.length := fun e => by subst e; simp [slv, Value.ownBlock] at e2
    simp only [if_neg n1] at e1
    simp only [if_neg n2] at e2
    simp at h1 h3
    exact h.d k j k' j' c (by omega) h2 (by omega) h4 e1 e2
/-- One list has grown; the box's cell is stored. -/
theorem app (h : BX w B bs P V) {k j : Nat} (hk : k < P.length) (hb : k < bs.length) (hj : j < 3) {L' : List T3} {v' : SlT} (hG : Grw w w' (slv (V k j)) (slv v')) (hO : shT.O w' B tN (slv v') L') :
    BX (w'.setCell ⟨bs[k], 2 + j, none⟩ (slv v')) B bs (P.set k (P[k].upd j L')) (updV V k j v') := by
  have hK := hG.keepsO
  have hbk : w'.heap[bs[k]]? = some (bxC P[k] V k) := by
    have g := (h.b k hk hb).2
    rw [hK.block _ (lt_of_blk g) (fun hm => h.ne hk hj hk hb (by simpa using hm) rfl), g]
  have hk2 : Keeps [bs[k]] w' (w'.setCell ⟨bs[k], 2 + j, none⟩ (slv v')) := (Keeps.refl _ _).setCell (.inr (by simp)) _
  have hne : ∀ {L : List T3} {v : Value}, shT.O w' B tN v L → v.ownBlock ≠ some bs[k] := fun hO e => by
    obtain ⟨cs, hc⟩ := hO.tag _ e
    exact tag_ne hc hbk (by decide) rfl
  refine ⟨by rw [List.length_set]; exact h.len, fun i h1 h2 => ?_, h.nd, fun k' j' hk' hj' => ?_, fun k' j' k2 j2 b h1 h2 h3 h4 e1 e2 => ?_⟩
  · have hi : i < P.length := by simpa using h1
    refine ⟨(h.b i hi h2).1, ?_⟩
    by_cases e : i = k
    · subst e
      rw [List.getElem_set_self]
      match j, hj with
      | 0, _ => simp [World.setCell, Array.getElem?_modify, hbk, bxC, PCl.upd, updV]
      | 1, _ => simp [World.setCell, Array.getElem?_modify, hbk, bxC, PCl.upd, updV]
      | 2, _ => simp [World.setCell, Array.getElem?_modify, hbk, bxC, PCl.upd, updV]
    · have hne2 : bs[i] ≠ bs[k] := fun e2 => e (nd_inj h.nd h2 hb e2)
      have g := (h.b i hi h2).2
      have g2 : w'.heap[bs[i]]? = some (bxC P[i] V i) := by rw [hK.block _ (lt_of_blk g) (fun hm => h.ne hk hj hi h2 (by simpa using hm) rfl), g]
      rw [hk2.block _ (lt_of_blk g2) (by simpa using hne2), g2]
      have e3 : (P.set k (P[k].upd j L'))[i]'h1 = P[i] := by rw [List.getElem_set]; rw [if_neg (fun h => e h.symm)]
      rw [e3]
      simp [bxC, updV, e]
  · have hk3 : k' < P.length := by simpa using hk'
    rw [List.getElem_set]
    by_cases e : k = k'
    · subst e
      rw [if_pos rfl, CL.at_upd _ _ _ _ hj hj']
      by_cases ej : j' = j
      · subst ej
        rw [if_pos rfl]
        simp only [updV, and_self, if_true]
        exact hO.keepS hk2 (fun b hb e => by simp at hb; subst hb; exact hne hO e)
      · rw [if_neg ej]
        simp only [updV, ej, and_false, if_false]
        have h1 : shT.O w' B tN (slv (V k j')) (P[k].at j') := (h.o k j' hk hj').keepS hK (fun b hb e => ej (h.d k j k j' b hk hj hk hj' (by simpa using hb) e).2.symm)
        exact h1.keepS hk2 (fun b hb e => by simp at hb; subst hb; exact hne h1 e)
    · rw [if_neg e]
      have e' : ¬ k' = k := fun h => e h.symm
      simp only [updV, e', false_and, if_false]
      have h1 : shT.O w' B tN (slv (V k' j')) (P[k'].at j') := (h.o k' j' hk3 hj').keepS hK (fun b hb e2 => e (h.d k j k' j' b hk hj hk3 hj' (by simpa using hb) e2).1)
      exact h1.keepS hk2 (fun b hb e => by simp at hb; subst hb; exact hne h1 e)
  · have l1 : k' < P.length := by simpa using h1
    have l2 : k2 < P.length := by simpa using h3
    have old : ∀ a c, a < P.length → c < 3 → (slv (V a c)).ownBlock = some b → b < w.heap.size := fun a c ha hc e => (h.o a c ha hc).lt b e
    by_cases c1 : k' = k ∧ j' = j
    · by_cases c2 : k2 = k ∧ j2 = j
      · exact ⟨c1.1.trans c2.1.symm, c1.2.trans c2.2.symm⟩
      · exfalso
        obtain ⟨rfl, rfl⟩ := c1
        simp only [updV, and_self, if_true] at e1
        simp only [updV, if_neg c2] at e2
        rcases hG.own with e3 | ⟨q, e3, hq⟩
        · rw [e3] at e1
          have := h.d k' j' k2 j2 b l1 h2 l2 h4 e1 e2
          exact c2 ⟨this.1.symm, this.2.symm⟩
        · rw [e3] at e1; cases e1
          have := old k2 j2 l2 h4 e2; omega
    · by_cases c2 : k2 = k ∧ j2 = j
      · exfalso
        obtain ⟨rfl, rfl⟩ := c2
        simp only [updV, and_self, if_true] at e2
        simp only [updV, if_neg c1] at e1
        rcases hG.own with e3 | ⟨q, e3, hq⟩
        · rw [e3] at e2
          exact c1 (h.d k' j' k2 j2 b l1 h2 l2 h4 e1 e2)
        · rw [e3] at e2; cases e2
          have := old k' j' l1 h2 e1; omega
      · simp only [updV, if_neg c1] at e1
        simp only [updV, if_neg c2] at e2
        exact h.d k' j' k2 j2 b l1 h2 l2 h4 e1 e2
/-- One list turns, in its own block. -/
theorem turn (h : BX w B bs P V) {k j : Nat} (hk : k < P.length) (hj : j < 3) {L' : List T3} (hK : Keeps (slv (V k j)).ownBlock.toList w w') (hO : shT.O w' B tN (slv (V k j)) L') : BX w' B bs (P.set k (P[k].upd j L')) V := by
  refine ⟨by rw [List.length_set]; exact h.len, fun i h1 h2 => ?_, h.nd, fun k' j' hk' hj' => ?_, fun k' j' k2 j2 b h1 h2 h3 h4 e1 e2 => h.d k' j' k2 j2 b (by simpa using h1) h2 (by simpa using h3) h4 e1 e2⟩
  · have hi : i < P.length := by simpa using h1
    have g := (h.b i hi h2).2
    refine ⟨(h.b i hi h2).1, ?_⟩
    rw [hK.block _ (lt_of_blk g) (fun hm => h.ne hk hj hi h2 (by simpa using hm) rfl), g]
    rw [List.getElem_set]
    split
    · rename_i e; subst e; simp only [bxC, (CL.upd_m _ _ _).1, (CL.upd_m _ _ _).2]
    · rfl
  · have hk2 : k' < P.length := by simpa using hk'
    rw [List.getElem_set]
    by_cases e : k = k'
    · subst e
      rw [if_pos rfl, CL.at_upd _ _ _ _ hj hj']
      by_cases ej : j' = j
      · subst ej; rw [if_pos rfl]; exact hO
      · rw [if_neg ej]
        exact (h.o k j' hk hj').keepS hK (fun b hb e => ej (h.d k j k j' b hk hj hk hj' (by simpa using hb) e).2.symm)
    · rw [if_neg e]
      exact (h.o k' j' hk2 hj').keepS hK (fun b hb e2 => e (h.d k j k' j' b hk hj hk2 hj' (by simpa using hb) e2).1)
end BX
end Go.Proofs.YtiplgpefapeapaaGreat

namespace Go.Proofs
open Go.Shelf
def Tryz.keysA_ren : Go.Shelf.Ren := ⟨fun | 7 => 104 | 10 => 117 | n => n, fun | 23 => 149 | 26 => 3 | 3 => 136 | 28 => 152 | 0 => 0 | 27 => 151 | 33 => 108 | 4 => 4 | n => n, fun | n => n⟩
theorem Tryz.keysA : Go.Proofs.SlLaysZI.n7 Tryz.prog Tryz.keysA_ren := {
  mixed := by kernel_rfl
  f7 := ⟨Tryz.f104.name, by decide, Tryz.func104.trans (congrArg some (by kernel_rfl))⟩
  f10 := ⟨Tryz.f117.name, by decide, Tryz.func117.trans (congrArg some (by kernel_rfl))⟩
  t0 := Tryz.underlying0
  a0 := Tryz.isAgg0
  z0 := Tryz.sizeOf0
  v0 := Tryz.zeroValue0
  t4 := Tryz.underlying4
  a4 := Tryz.isAgg4
  z4 := Tryz.sizeOf4
  v4 := Tryz.zeroValue4
  t23 := Tryz.underlying149
  a23 := Tryz.isAgg149
  z23 := Tryz.sizeOf149
  v23 := Tryz.zeroValue149
  t26 := Tryz.underlying3
  a26 := Tryz.isAgg3
  z26 := Tryz.sizeOf3
  v26 := Tryz.zeroValue3
  t27 := Tryz.underlying151
  a27 := Tryz.isAgg151
  z27 := Tryz.sizeOf151
  v27 := Tryz.zeroValue151
  t28 := Tryz.underlying152
  a28 := Tryz.isAgg152
  z28 := Tryz.sizeOf152
  v28 := Tryz.zeroValue152
  t33 := Tryz.underlying108
  a33 := Tryz.isAgg108
  z33 := Tryz.sizeOf108
  v33 := Tryz.zeroValue108 }
def Tryz.sortedA_ren : Go.Shelf.Ren := ⟨fun | 6 => 103 | 8 => 115 | 9 => 116 | 11 => 136 | 13 => 111 | 12 => 137 | 23 => 126 | 24 => 127 | 14 => 146 | 15 => 147 | 16 => 148 | 17 => 149 | 18 => 150 | 19 => 151 | 20 => 152 | 21 => 153 | 22 => 154 | 25 => 157 | 26 => 139 | 27 => 140 | 28 => 158 | 29 => 159 | 30 => 112 | 31 => 160 | n => n, fun | 26 => 3 | 28 => 152 | 24 => 98 | 0 => 0 | 3 => 3 | 37 => 127 | 48 => 171 | 50 => 26 | 4 => 4 | 40 => 165 | 39 => 164 | 45 => 110 | 5 => 5 | 9 => 9 | 51 => 180 | 55 => 183 | 57 => 193 | 58 => 194 | 33 => 108 | n => n, fun | n => n⟩
theorem Tryz.sortedA : Go.Proofs.SlLaysZI.n6 Tryz.prog Tryz.sortedA_ren := {
  mixed := by kernel_rfl
  f6 := ⟨Tryz.f103.name, by decide, Tryz.func103.trans (congrArg some (by kernel_rfl))⟩
  f8 := ⟨Tryz.f115.name, by decide, Tryz.func115.trans (congrArg some (by kernel_rfl))⟩
  f11 := ⟨Tryz.f136.name, by decide, Tryz.func136.trans (congrArg some (by kernel_rfl))⟩
  t0 := Tryz.underlying0
  a0 := Tryz.isAgg0
  z0 := Tryz.sizeOf0
  v0 := Tryz.zeroValue0
  t24 := Tryz.underlying98
  a24 := Tryz.isAgg98
  z24 := Tryz.sizeOf98
  v24 := Tryz.zeroValue98
  t26 := Tryz.underlying3
  a26 := Tryz.isAgg3
  z26 := Tryz.sizeOf3
  v26 := Tryz.zeroValue3
  t28 := Tryz.underlying152
  a28 := Tryz.isAgg152
  z28 := Tryz.sizeOf152
  v28 := Tryz.zeroValue152
  i26 := by kernel_rfl }
def Tryz.sortA_ren : Go.Shelf.Ren := ⟨fun | 5 => 116 | 8 => 111 | 7 => 137 | 19 => 126 | 20 => 127 | 10 => 146 | 11 => 147 | 12 => 148 | 13 => 149 | 14 => 150 | 15 => 151 | 16 => 152 | 17 => 153 | 18 => 154 | 30 => 157 | 31 => 139 | 32 => 140 | 33 => 158 | 34 => 159 | 35 => 112 | 40 => 160 | n => n, fun | 23 => 98 | 25 => 3 | 3 => 3 | 32 => 127 | 22 => 98 | 0 => 0 | 44 => 171 | 46 => 26 | 4 => 4 | 36 => 165 | 35 => 164 | 41 => 110 | 5 => 5 | 9 => 9 | 53 => 180 | 57 => 183 | 63 => 193 | 64 => 194 | n => n, fun | n => n⟩
theorem Tryz.sortA : Go.Proofs.SlLaysM.n5 Tryz.prog Tryz.sortA_ren := {
  mixed := by kernel_rfl
  f5 := ⟨Tryz.f116.name, by decide, Tryz.func116.trans (congrArg some (by kernel_rfl))⟩
  f7 := ⟨Tryz.f137.name, by decide, Tryz.func137.trans (congrArg some (by kernel_rfl))⟩
  f8 := Tryz.func111.trans (congrArg some (by kernel_rfl))
  f10 := ⟨Tryz.f146.name, by decide, Tryz.func146.trans (congrArg some (by kernel_rfl))⟩
  f11 := ⟨Tryz.f147.name, by decide, Tryz.func147.trans (congrArg some (by kernel_rfl))⟩
  f12 := ⟨Tryz.f148.name, by decide, Tryz.func148.trans (congrArg some (by kernel_rfl))⟩
  f13 := ⟨Tryz.f149.name, by decide, Tryz.func149.trans (congrArg some (by kernel_rfl))⟩
  f14 := ⟨Tryz.f150.name, by decide, Tryz.func150.trans (congrArg some (by kernel_rfl))⟩
  f15 := ⟨Tryz.f151.name, by decide, Tryz.func151.trans (congrArg some (by kernel_rfl))⟩
  f16 := ⟨Tryz.f152.name, by decide, Tryz.func152.trans (congrArg some (by kernel_rfl))⟩
  f17 := ⟨Tryz.f153.name, by decide, Tryz.func153.trans (congrArg some (by kernel_rfl))⟩
  f18 := ⟨Tryz.f154.name, by decide, Tryz.func154.trans (congrArg some (by kernel_rfl))⟩
  f19 := Tryz.func126.trans (congrArg some (by kernel_rfl))
  f20 := Tryz.func127.trans (congrArg some (by kernel_rfl))
  f30 := ⟨Tryz.f157.name, by decide, Tryz.func157.trans (congrArg some (by kernel_rfl))⟩
  f31 := Tryz.func139.trans (congrArg some (by kernel_rfl))
  f32 := Tryz.func140.trans (congrArg some (by kernel_rfl))
  f33 := ⟨Tryz.f158.name, by decide, Tryz.func158.trans (congrArg some (by kernel_rfl))⟩
  f34 := ⟨Tryz.f159.name, by decide, Tryz.func159.trans (congrArg some (by kernel_rfl))⟩
  f35 := ⟨Tryz.f112.name, by decide, Tryz.func112.trans (congrArg some (by kernel_rfl))⟩
  f40 := ⟨Tryz.f160.name, by decide, Tryz.func160.trans (congrArg some (by kernel_rfl))⟩
  t0 := Tryz.underlying0
  a0 := Tryz.isAgg0
  z0 := Tryz.sizeOf0
  v0 := Tryz.zeroValue0
  t3 := Tryz.underlying3
  a3 := Tryz.isAgg3
  z3 := Tryz.sizeOf3
  v3 := Tryz.zeroValue3
  t4 := Tryz.underlying4
  a4 := Tryz.isAgg4
  z4 := Tryz.sizeOf4
  v4 := Tryz.zeroValue4
  t5 := Tryz.underlying5
  a5 := Tryz.isAgg5
  z5 := Tryz.sizeOf5
  v5 := Tryz.zeroValue5
  t9 := Tryz.underlying9
  a9 := Tryz.isAgg9
  z9 := Tryz.sizeOf9
  v9 := Tryz.zeroValue9
  t22 := Tryz.underlying98
  a22 := Tryz.isAgg98
  z22 := Tryz.sizeOf98
  v22 := Tryz.zeroValue98
  t23 := Tryz.underlying98
  a23 := Tryz.isAgg98
  z23 := Tryz.sizeOf98
  v23 := Tryz.zeroValue98
  t25 := Tryz.underlying3
  a25 := Tryz.isAgg3
  z25 := Tryz.sizeOf3
  v25 := Tryz.zeroValue3
  t32 := Tryz.underlying127
  a32 := Tryz.isAgg127
  z32 := Tryz.sizeOf127
  v32 := Tryz.zeroValue127
  t35 := Tryz.underlying164
  a35 := Tryz.isAgg164
  z35 := Tryz.sizeOf164
  v35 := Tryz.zeroValue164
  t36 := Tryz.underlying165
  a36 := Tryz.isAgg165
  z36 := Tryz.sizeOf165
  v36 := Tryz.zeroValue165
  t41 := Tryz.underlying110
  a41 := Tryz.isAgg110
  z41 := Tryz.sizeOf110
  v41 := Tryz.zeroValue110
  t44 := Tryz.underlying171
  a44 := Tryz.isAgg171
  z44 := Tryz.sizeOf171
  v44 := Tryz.zeroValue171
  t46 := Tryz.underlying26
  a46 := Tryz.isAgg26
  z46 := Tryz.sizeOf26
  v46 := Tryz.zeroValue26
  t53 := Tryz.underlying180
  a53 := Tryz.isAgg180
  z53 := Tryz.sizeOf180
  v53 := Tryz.zeroValue180
  t57 := Tryz.underlying183
  a57 := Tryz.isAgg183
  z57 := Tryz.sizeOf183
  v57 := Tryz.zeroValue183
  t63 := Tryz.underlying193
  a63 := Tryz.isAgg193
  z63 := Tryz.sizeOf193
  v63 := Tryz.zeroValue193
  t64 := Tryz.underlying194
  a64 := Tryz.isAgg194
  z64 := Tryz.sizeOf194
  v64 := Tryz.zeroValue194 }
end Go.Proofs
