/- Texts that the laws lean on, in the order in which they build. The tracer's copied: a certificate in new memory. The tracer's Certificates. The specification's Begins and Find. (Printed by mkura.py.) The specification's SameAnswer, of equal answers. (Printed by mktrsma.py.) The specification's SameIDs, SameCertificate, SameCertificates, IDs. (Printed by mkurb.py.) The specification's SameCertificates, IDs. (Printed by mkurc.py.) -/
import Derived.Test.YtpobepninifenaaGreatS9
set_option linter.unusedVariables false
set_option linter.unusedSimpArgs false
namespace Go.Proofs.YtpobepninifenaaGreat
open Go Go.RowKit

/-- Lists of a size that can be copied. -/
structure Ct.Sm (c : Ct) : Prop where
  an : c.an.length ≤ 100000
  cl : c.cl.length ≤ 100000
  ins : ∀ a ∈ c.an, a.ins.length ≤ 1000000
  ns : ∀ p ∈ c.cl, ∀ j, j < 3 → (p.at j).length ≤ 100000000000
def CopPost (w : World) (c : Ct) (e : Ending) (w' : World) : Prop :=
  ∃ x', e = .returned (ctV x') ∧ CtO w' x' c ∧ (∀ b, (slv x'.va).ownBlock = some b → w.heap.size ≤ b) ∧ Keeps [] w w'
theorem LA.set {w : World} {X : List AnV} {Y : List Ans} (h : LA w X Y) (k : Nat) (hk : k < X.length) (hk2 : k < Y.length) (x : AnV) (hx : InA w x Y[k]) : LA w (X.set k x) Y := by
  refine ⟨by rw [List.length_set]; exact h.1, fun j a b ha hb => ?_⟩
  by_cases e : k = j
  · subst e
    rw [List.getElem?_set_self hk] at ha
    rw [List.getElem?_eq_getElem hk2] at hb
    cases ha; cases hb
    exact hx
  · rw [List.getElem?_set_ne e] at ha
    exact h.2 j a b ha hb
theorem Rows'.set {w : World} {C : List ClV} {P : List PCl} (h : Rows' w C P) (k : Nat) (hk : k < C.length) (hk2 : k < P.length) (x : ClV) (hx : CRt w x P[k]) : Rows' w (C.set k x) P := by
  refine ⟨by rw [List.length_set]; exact h.1, fun j a b ha hb => ?_⟩
  by_cases e : k = j
  · subst e
    rw [List.getElem?_set_self hk] at ha
    rw [List.getElem?_eq_getElem hk2] at hb
    cases ha; cases hb
    exact hx
  · rw [List.getElem?_set_ne e] at ha
    exact h.2 j a b ha hb
/-- While a certificate is copied: the copies of its two lists, and the two blocks of the call. -/
def CpI (w wr : World) (X : Nat) (c : Ct) (cx cz : Array Value) (v1 v2 : Value) : Prop :=
  ∃ Z C, shA.O wr X tA v1 Z ∧ LA wr Z c.an ∧ shC.O wr X tC v2 C ∧ Rows' wr C c.cl ∧ wr.heap[X]? = some (.cells cx tCt (0, 0)) ∧ wr.heap[X + 1]? = some (.cells cz tCt (0, 0)) ∧ Keeps [] w wr
theorem cell_setO {w : World} {g o o' : Nat} {cs : Array Value} {t : TypeId} {f : Nat × Nat} {u : Value} (v : Value) (hg : w.heap[g]? = some (.cells cs t f)) (h : w.cell? ⟨g, o, none⟩ = some u) (hne : o' ≠ o) : (w.setCell ⟨g, o', none⟩ v).cell? ⟨g, o, none⟩ = some u := by
  have h2 := setCs hg o' v
  have h3 : cs[o]? = some u := by simpa [World.cell?, hg] using h
  have h4 : (cs.setIfInBounds o' v)[o]? = some u := by rw [Array.getElem?_setIfInBounds_ne hne]; exact h3
  simpa [World.cell?, h2] using h4
theorem CpI.keeps {w wr w1 : World} {X : Nat} {c : Ct} {cx cz : Array Value} {v1 v2 : Value} (h : CpI w wr X c cx cz v1 v2) (hk : Keeps [] wr w1) : CpI w w1 X c cx cz v1 v2 := by
  obtain ⟨Z, C, h1, h2, h3, h4, h5, h6, h7⟩ := h
  exact ⟨Z, C, h1.keeps hk, h2.ki hk.ki0, h3.keeps hk, h4.keeps hk, (hk.block _ (lt_of_blk h5) (by simp)).trans h5, (hk.block _ (lt_of_blk h6) (by simp)).trans h6, h7.trans hk⟩
theorem CpI.blk {w wr : World} {X : Nat} {c : Ct} {cx cz : Array Value} {v1 v2 : Value} (h : CpI w wr X c cx cz v1 v2) : wr.heap[X]? = some (.cells cx tCt (0, 0)) ∧ wr.heap[X + 1]? = some (.cells cz tCt (0, 0)) := by
  obtain ⟨_, _, _, _, _, _, h5, h6, _⟩ := h
  exact ⟨h5, h6⟩
theorem CpI.setA {w wr w1 : World} {X g n cp : Nat} {c : Ct} {cx cz : Array Value} {v2 : Value} (h : CpI w wr X c cx cz (.slice (some ⟨g, 0, none⟩) n cp) v2) (hX : w.heap.size ≤ X) (hk : Keeps [] wr w1) {k : Nat} (hkc : k < c.an.length) {a' : Option Addr} {n' c' : Nat} (hv : InsO w1 (.slice a' n' c') c.an[k].ins) :
    CpI w (w1.setCell ⟨g, k * 8 + 7, none⟩ (.slice a' n' c')) X c cx cz (.slice (some ⟨g, 0, none⟩) n cp) v2 := by
  obtain ⟨Z, C, h1, h2, h3, h4, h5, h6, h7⟩ := h.keeps hk
  have hkZ : k < Z.length := by rw [h2.1]; exact hkc
  obtain ⟨cs, hg⟩ := h1.tag g rfl
  have hge := h1.ge g rfl
  have hks : Keeps [g] w1 (w1.setCell ⟨g, k * 8 + 7, none⟩ (.slice a' n' c')) := (Keeps.refl _ _).setCell (.inr (by simp)) _
  have hi : KI w1 (w1.setCell ⟨g, k * 8 + 7, none⟩ (.slice a' n' c')) := hks.ki (fun b hb cs' f e => by simp at hb; subst hb; exact tag_ne hg e (by decide) rfl)
  have hO := h1.set hkZ { Z[k] with a := a', k := n', c := c' } 7 (.slice a' n' c') rfl (by decide) rfl
  have hin := (h2.get hkc).2
  have hL := (h2.set k hkZ hkc { Z[k] with a := a', k := n', c := c' } ⟨hin.m, hin.ow, hin.n, hin.ep, hin.kn, hin.rt, hin.lu, hv⟩).ki hi
  exact ⟨_, C, hO, hL, h3.keepS hks (fun b hb e => by simp at hb; subst hb; obtain ⟨cs', hc'⟩ := h3.tag _ e; exact tag_ne hg hc' (by decide) rfl), h4.keepS hks (fun b hb cs' f e => by simp at hb; subst hb; exact tag_ne hg e (by decide) rfl),
    (hks.block _ (lt_of_blk h5) (by simp; intro e; subst e; exact tag_ne hg h5 (by decide) rfl)).trans h5, (hks.block _ (lt_of_blk h6) (by simp; intro e; rw [← e] at hg; exact tag_ne hg h6 (by decide) rfl)).trans h6,
    h7.fresh hks (fun b hb => by simp at hb; subst hb; exact .inr (by omega))⟩
theorem CpI.setC {w wr w1 : World} {X g n cp : Nat} {c : Ct} {cx cz : Array Value} {v1 : Value} (h : CpI w wr X c cx cz v1 (.slice (some ⟨g, 0, none⟩) n cp)) (hX : w.heap.size ≤ X) (hk : Keeps [] wr w1) {k : Nat} (hkc : k < c.cl.length) (j : Nat) (hj : j < 3) {y : Option Addr × Nat × Nat} (hv : Nd w1 (slv y) (c.cl[k].at j)) :
    CpI w (w1.setCell ⟨g, k * 5 + (2 + j), none⟩ (slv y)) X c cx cz v1 (.slice (some ⟨g, 0, none⟩) n cp) := by
  obtain ⟨Z, C, h1, h2, h3, h4, h5, h6, h7⟩ := h.keeps hk
  have hkC : k < C.length := by rw [h4.1]; exact hkc
  obtain ⟨cs, hg⟩ := h3.tag g rfl
  have hge := h3.ge g rfl
  have hks : Keeps [g] w1 (w1.setCell ⟨g, k * 5 + (2 + j), none⟩ (slv y)) := (Keeps.refl _ _).setCell (.inr (by simp)) _
  have hi : KI w1 (w1.setCell ⟨g, k * 5 + (2 + j), none⟩ (slv y)) := hks.ki (fun b hb cs' f e => by simp at hb; subst hb; exact tag_ne hg e (by decide) rfl)
  have hnT : ∀ b ∈ [g], ∀ (cs : Array Value) (f : Nat × Nat), w1.heap[b]? ≠ some (Obj.cells cs tN f) := fun b hb cs' f e => by simp at hb; subst hb; exact tag_ne hg e (by decide) rfl
  have hrow := h4.2 k _ _ (List.getElem?_eq_getElem hkC) (List.getElem?_eq_getElem hkc)
  obtain ⟨y', hy1, hy2⟩ : ∃ y' : ClV, shC.cf y' = (shC.cf C[k]).set (2 + j) (slv y) ∧ CRt w1 y' c.cl[k] := by
    match j, hj with
    | 0, _ => exact ⟨{ C[k] with v1 := y }, rfl, ⟨hrow.m, hrow.ep, hv, hrow.sc, hrow.ch⟩⟩
    | 1, _ => exact ⟨{ C[k] with v2 := y }, rfl, ⟨hrow.m, hrow.ep, hrow.st, hv, hrow.ch⟩⟩
    | 2, _ => exact ⟨{ C[k] with v3 := y }, rfl, ⟨hrow.m, hrow.ep, hrow.st, hrow.sc, hv⟩⟩
  have hO := h3.set hkC y' (2 + j) (slv y) hy1 (by show 2 + j < 5; omega) rfl
  have hR := (h4.set k hkC hkc y' hy2).keepS hks hnT
  exact ⟨Z, _, h1.keepS hks (fun b hb e => by simp at hb; subst hb; obtain ⟨cs', hc'⟩ := h1.tag _ e; exact tag_ne hg hc' (by decide) rfl), h2.ki hi, hO, hR,
    (hks.block _ (lt_of_blk h5) (by simp; intro e; subst e; exact tag_ne hg h5 (by decide) rfl)).trans h5, (hks.block _ (lt_of_blk h6) (by simp; intro e; rw [← e] at hg; exact tag_ne hg h6 (by decide) rfl)).trans h6,
    h7.fresh hks (fun b hb => by simp at hb; subst hb; exact .inr (by omega))⟩
set_option maxRecDepth 100000 in
set_option maxHeartbeats 16000000 in
theorem copiedC_c (w : World) (x : CtV) (c : Ct) (h : CtO w x c) (hc : c.Sm) :
    Calls Tryz.prog 52 #[ctV x] w (CopPost w c) := by
  obtain ⟨XA, hXA, hLA, _⟩ := h.an
  obtain ⟨XC, hXC, _, hRw⟩ := h.cl
  have him := h.im
  have his := h.is
  have hs0 := h.s0
  have hs1 := h.s1
  have hs2 := h.s2
  have hla : XA.length = c.an.length := hLA.1
  have hlc : XC.length = c.cl.length := hRw.1
  obtain ⟨x0, x1, x2, x3, x4, ⟨x5, x6, x7⟩, ⟨x8, x9, x10⟩⟩ := x
  obtain ⟨hb1, hb2, hkW, hzW⟩ := blks2 w (.cells #[.int .i64 x0, .int .i64 x1, .int .i64 x2, .int .u64 x3, .int .i64 x4, .slice x5 x6 x7, .slice x8 x9 x10] tCt) (.cells #[.int .i64 0, .int .i64 0, .int .i64 0, .int .u64 0, .int .i64 0, .slice none 0 0, .slice none 0 0] tCt)
  have hcA := fun W (hk : Keeps [] w W) => cloneA_c W _ XA (hXA.keeps hk) (by rw [hla]; have := hc.an; omega)
  have hcC := fun W (hk : Keeps [] w W) => cloneC_c W _ XC (hXC.keeps hk) (by rw [hlc]; have := hc.cl; omega)
  simp only at him his hs0 hs1 hs2
  simp only [slv] at hcA hcC
  replace hcA := Lib.hid hcA
  replace hcC := Lib.hid hcC
  replace hLA := Lib.hid hLA
  replace hRw := Lib.hid hRw
  replace hb1 := Lib.hid hb1
  replace hb2 := Lib.hid hb2
  replace hkW := Lib.hid hkW
  have hfl := Lib.hid (And.intro him (And.intro his (And.intro hs0 (And.intro hs1 hs2))))
  have hln := Lib.hid (And.intro hla hlc)
  replace hc := Lib.hid hc
  clear h hXA hXC him his hs0 hs1 hs2 hla hlc
  simp only [ctV, slv]
  go_enter Tryz.func52, Tryz.ntmps52
  go_upto_region 1 with fail
  generalize ((w.alloc (.cells #[.int .i64 x0, .int .i64 x1, .int .i64 x2, .int .u64 x3, .int .i64 x4, .slice x5 x6 x7, .slice x8 x9 x10] tCt)).alloc (.cells #[.int .i64 0, .int .i64 0, .int .i64 0, .int .u64 0, .int .i64 0, .slice none 0 0, .slice none 0 0] tCt)) = W at *
  obtain ⟨X, hX⟩ : ∃ X, w.heap.size = X := ⟨_, rfl⟩
  rw [hX] at hb1 hb2 hzW ⊢
  replace hX := Lib.hid hX
  obtain ⟨z0, z1, z2, z3, z4, z5, z6, zf, zl⟩ := cl7 hb1.out
  refine Free.wp_region_chain (fun i => i == 2 || i == 5 || i == 7 || i == 9) (fun i => true) (fun j b => (j = 7 ∨ j = 9) ∧ b = X) (by kernel_rfl) (by kernel_rfl) (by kernel_rfl) ?_
  (repeat (first | (apply Free.cw_pure rfl rfl; (intro w'; go_simp <;> exact rfl); go_frame) | (apply Free.cw_steady rfl rfl rfl; (intro w' hS; have q0 := Free.sx_cell hS z5 (fun j hp hT => Or.elim hT.1 (fun h => by subst h; exact absurd hp (by decide +kernel)) (fun h => by subst h; exact absurd hp (by decide +kernel))); have q1 := Free.sx_cell hS z6 (fun j hp hT => Or.elim hT.1 (fun h => by subst h; exact absurd hp (by decide +kernel)) (fun h => by subst h; exact absurd hp (by decide +kernel))); go_simp <;> exact rfl); go_frame) | (refine Free.cw_skip rfl ?_; go_frame)))
  refine Free.cw_loud rfl rfl (fun K hK => ?_)
  go_wp2_with fail
  refine (hcA.out W.drew hkW.out.drew).mono ?_
  rintro e w1 ⟨v1, rfl, hO1, hk1⟩
  refine hK _ _ rfl (Free.KeepsP.of hk1 (by simp)) ?_
  clear hK K
  have hkw1 := Lib.hid (hkW.out.drew.trans hk1)
  have hd1 := Lib.hid ((Keeps.refl [] W).drew.trans hk1)
  replace hO1 := Lib.hid hO1
  clear hk1
  (repeat (first | (apply Free.cw_pure rfl rfl; (intro w'; go_simp <;> exact rfl); go_frame) | (apply Free.cw_steady rfl rfl rfl; (intro w' hS; have q0 := Free.sx_cell hS z5 (fun j hp hT => Or.elim hT.1 (fun h => by subst h; exact absurd hp (by decide +kernel)) (fun h => by subst h; exact absurd hp (by decide +kernel))); have q1 := Free.sx_cell hS z6 (fun j hp hT => Or.elim hT.1 (fun h => by subst h; exact absurd hp (by decide +kernel)) (fun h => by subst h; exact absurd hp (by decide +kernel))); go_simp <;> exact rfl); go_frame) | (refine Free.cw_skip rfl ?_; go_frame)))
  refine Free.cw_loud rfl rfl (fun K hK => ?_)
  go_wp2_with fail
  refine (hcC.out w1 hkw1.out).mono ?_
  rintro e w2 ⟨v2, rfl, hO2, hk2⟩
  refine hK _ _ rfl (Free.KeepsP.of hk2 (by simp)) ?_
  clear hK K
  have hd2 := hd1.out.trans hk2
  obtain ⟨a1, c1, rfl⟩ := hO1.out.form
  obtain ⟨a2, c2, rfl⟩ := hO2.form
  obtain ⟨NA, hNA⟩ : ∃ m, XA.length = m := ⟨_, rfl⟩
  obtain ⟨NC, hNC⟩ : ∃ m, XC.length = m := ⟨_, rfl⟩
  rw [hNA] at hO1 ⊢
  rw [hNC] at hO2 ⊢
  have hNAc : NA = c.an.length := by rw [← hNA]; exact hln.out.1
  have hNCc : NC = c.cl.length := by rw [← hNC]; exact hln.out.2
  have hWX : X ≤ W.heap.size := by omega
  have hq1 := (hd2.block _ (lt_of_blk hb1.out) (by simp)).trans hb1.out
  have hq2 := (hd2.block _ (lt_of_blk hb2.out) (by simp)).trans hb2.out
  have hOA := (hO1.out.keeps hk2).lowB (B' := X) (by show X ≤ W.heap.size; exact hWX)
  have hOC := hO2.lowB (B' := X) (by have := hd1.out.size; omega)
  have hLA2 := hLA.out.ki (hkw1.out.trans hk2).ki0
  have hRw2 := hRw.out.keeps (hkw1.out.trans hk2)
  have hkw2 := hkw1.out.trans hk2
  have hs3 := setCs hq1 5 (.slice a1 NA c1)
  have hs3k : Keeps [X] w2 (w2.setCell ⟨X, 5, none⟩ (.slice a1 NA c1)) := (Keeps.refl _ _).setCell (.inr (by simp)) _
  have hs4 := setCs hs3 6 (.slice a2 NC c2)
  have hs4k := hs3k.setCell (p := ⟨X, 6, none⟩) (.inr (by simp)) (.slice a2 NC c2)
  have hI : CpI w ((w2.setCell ⟨X, 5, none⟩ (.slice a1 NA c1)).setCell ⟨X, 6, none⟩ (.slice a2 NC c2)) X c #[.int .i64 x0, .int .i64 x1, .int .i64 x2, .int .u64 x3, .int .i64 x4, .slice a1 NA c1, .slice a2 NC c2] #[.int .i64 0, .int .i64 0, .int .i64 0, .int .u64 0, .int .i64 0, .slice none 0 0, .slice none 0 0] (.slice a1 NA c1) (.slice a2 NC c2) := by
    refine ⟨XA, XC, hOA.keepS hs4k (fun b hb e => ?_), hLA2.ki (hs4k.ki (fun b hb cs f e => ?_)), hOC.keepS hs4k (fun b hb e => ?_), hRw2.keepS hs4k (fun b hb cs f e => ?_), hs4, (hs4k.block _ (lt_of_blk hq2) (by simp)).trans hq2, hkw2.fresh hs4k (fun b hb => by simp at hb; subst hb; exact .inr (Nat.le_of_eq hX.out))⟩
    · simp at hb; subst hb
      obtain ⟨cs, hc'⟩ := hOA.tag _ e
      exact tag_ne hc' hq1 (by decide) rfl
    · simp at hb; subst hb
      exact tag_ne hq1 e (by decide) rfl
    · simp at hb; subst hb
      obtain ⟨cs, hc'⟩ := hOC.tag _ e
      exact tag_ne hc' hq1 (by decide) rfl
    · simp at hb; subst hb
      exact tag_ne hq1 e (by decide) rfl
  obtain ⟨y0, y1, y2, y3, y4, y5, y6, yf, yl⟩ := cl7 hq1
  have hs3b := Lib.hid hs3
  replace hI := Lib.hid hI
  replace hNA := Lib.hid hNA
  replace hNC := Lib.hid hNC
  replace hNAc := Lib.hid hNAc
  replace hNCc := Lib.hid hNCc
  replace hs3k := Lib.hid hs3k
  clear hd2 hq2 hOA hOC hLA2 hRw2 hkw2 hs3 hs4 hs4k hO2 hk2 hq1
  (repeat (apply Free.cw_pure rfl rfl; (intro w'; go_simp <;> exact rfl); go_frame))
  refine Free.cw_loud rfl rfl (fun K hK => ?_)
  go_wp2
  refine hK _ _ rfl (Free.KeepsP.setCell _ ⟨.inl trivial, rfl⟩ _) ?_
  clear hK K y0 y1 y2 y3 y4 y5 y6 yf yl
  generalize (w2.setCell ⟨X, 5, none⟩ (.slice a1 NA c1)) = w3 at *
  obtain ⟨y0, y1, y2, y3, y4, y5, y6, yf, yl⟩ := cl7 hs3b.out
  (repeat (apply Free.cw_pure rfl rfl; (intro w'; go_simp <;> exact rfl); go_frame))
  refine Free.cw_loud rfl rfl (fun K hK => ?_)
  go_wp2
  refine hK _ _ rfl (Free.KeepsP.setCell _ ⟨.inr trivial, rfl⟩ _) ?_
  clear hK K y0 y1 y2 y3 y4 y5 y6 yf yl
  generalize (w3.setCell ⟨X, 6, none⟩ (.slice a2 NC c2)) = w4 at *
  refine Free.cw_nil ?_
  clear z0 z1 z2 z3 z4 z5 z6 zf zl hs3b hs3k hb1 hb2 hkw1 hd1 hO1 hkW hLA hRw hcA hcC
  have hXb : w.heap.size ≤ X := Nat.le_of_eq hX.out
  have hb4 := hI.out.blk.1
  obtain ⟨z0, z1, z2, z3, z4, z5, z6, zf, zl⟩ := cl7 hb4
  have hNAm : NA ≤ 100000 := by rw [hNAc.out]; exact hc.out.an
  have hNCm : NC ≤ 100000 := by rw [hNCc.out]; exact hc.out.cl
  clear hb4
  go_wp2
  clear z0 z1 z2 z3 z4 z5 z6 zf zl
  go_loopw [17] (fun i wr => ∃ k : Nat, i = .int .i64 k ∧ k ≤ NA ∧ Hid (CpI w wr X c #[.int .i64 x0, .int .i64 x1, .int .i64 x2, .int .u64 x3, .int .i64 x4, .slice a1 NA c1, .slice a2 NC c2] #[.int .i64 0, .int .i64 0, .int .i64 0, .int .u64 0, .int .i64 0, .slice none 0 0, .slice none 0 0] (.slice a1 NA c1) (.slice a2 NC c2))) (fun i _ => NA - (intOf i).toNat)
  case atStart => exact ⟨0, rfl, by omega, hI⟩
  case round =>
    clear hI
    obtain ⟨k, rfl, hk, hI⟩ := hrel
    have hb4 := hI.out.blk.1
    obtain ⟨z0, z1, z2, z3, z4, z5, z6, zf, zl⟩ := cl7 hb4
    clear hb4
    by_cases hlt : k < NA
    · have hlt2 : (k : Int) < NA := by omega
      obtain ⟨Z, ZC, hZ, hZL, _⟩ := hI.out
      have hkZ : k < Z.length := by rw [hZL.1, ← hNAc.out]; exact hlt
      have hZl : Z.length = NA := by rw [hZL.1, ← hNAc.out]
      have hkc : k < c.an.length := by rw [← hNAc.out]; exact hlt
      obtain ⟨g, cap, cur, e1, hge, hg, _⟩ : ∃ g cap cur, Value.slice a1 NA c1 = .slice (some ⟨g, 0, none⟩) Z.length cap ∧ X ≤ g ∧ wr.heap[g]? = some (.cells cur tA (0, 0)) ∧ True := by
        rcases hZ.2 with ⟨e, h0⟩ | ⟨g, cap, cur, e, h1, h2, _⟩
        · exfalso
          cases e
          omega
        · exact ⟨g, cap, cur, e, h1, h2, trivial⟩
      rw [hZl] at e1
      cases e1
      obtain ⟨g', o', cc', hv, he⟩ := hZ.r.elem hkZ
      rw [hZl] at hv
      cases hv
      have e7 := he 7 _ rfl
      have e0 := he 0 _ rfl
      have hin := (hZL.get hkc).2
      have hco := hc.out.ins _ (List.getElem_mem hkc)
      obtain ⟨⟨q0, q1, q2, q3, q4, q5, q6, q7, q8, q9⟩, hq⟩ : ∃ q, Z[k] = q := ⟨_, rfl⟩
      rw [hq] at e7 e0 hin
      simp only [shA, AnV.cs, AnV.v, Nat.zero_add] at e7 e0
      have hcl := fun W (hk : Keeps [] wr W) => cloneI_c W _ _ (hin.ins.r.keeps hk) hco
      simp only [AnV.v] at hcl
      have hgf : ∀ o, wr.frozen? ⟨g, o, none⟩ = false := fun o => by simp [World.frozen?, hg]
      have hgl := lt_of_blk hg
      have hgX : g ≠ X := fun e => by subst e; exact tag_ne hg hI.out.blk.1 (by decide) rfl
      replace hcl := Lib.hid hcl
      clear hin hZ hZL he hq hkZ hZl hg hco
      go_upto_region 5 with fail
      refine Free.wp_region_chain (fun i => i == 9 || i == 12) (fun i => true) (fun j b => j = 12 ∧ b = g) (by kernel_rfl) (by kernel_rfl) (by kernel_rfl) ?_
      (repeat (first | (apply Free.cw_pure rfl rfl; (intro w'; go_simp <;> exact rfl); go_frame) | (apply Free.cw_steady rfl rfl rfl; (intro w' hS; have q0 := Free.sx_cell hS z5 (fun _ _ hT => hgX hT.2.symm); have q1 := Free.sx_cell hS e7 (fun j hp hT => by have := hT.1; subst this; exact absurd hp (by decide +kernel)); go_simp <;> exact rfl); go_frame) | (refine Free.cw_skip rfl ?_; go_frame)))
      refine Free.cw_loud rfl rfl (fun K hK => ?_)
      go_wp2_with fail
      refine (hcl.out wr.drew (Keeps.refl [] wr).drew).mono ?_
      rintro e w5 ⟨v5, rfl, hO5, hk5⟩
      refine hK _ _ rfl (Free.KeepsP.of hk5 (by simp)) ?_
      clear hK K
      have hr5 := (Keeps.refl [] wr).drew.trans hk5
      obtain ⟨a5, c5, rfl⟩ := hO5.form
      obtain ⟨N5, hN5⟩ : ∃ m, (c.an[k].ins).length = m := ⟨_, rfl⟩
      rw [hN5] at hO5 ⊢
      have hI5 := hI.out.setA hXb hr5 hkc (a' := a5) (n' := N5) (c' := c5) ⟨_, hO5⟩
      have m7 := hr5.val e7
      have mf : ∀ o, w5.frozen? ⟨g, o, none⟩ = false := fun o => (hr5.frozen g o hgl (by simp)).trans (hgf o)
      have ml := Nat.lt_of_lt_of_le hgl hr5.size
      replace hI5 := Lib.hid hI5
      clear hO5 hk5 hr5 hcl
      (repeat (first | (apply Free.cw_pure rfl rfl; (intro w'; go_simp <;> exact rfl); go_frame) | (apply Free.cw_steady rfl rfl rfl; (intro w' hS; have q0 := Free.sx_cell hS z5 (fun _ _ hT => hgX hT.2.symm); have q1 := Free.sx_cell hS e7 (fun j hp hT => by have := hT.1; subst this; exact absurd hp (by decide +kernel)); go_simp <;> exact rfl); go_frame) | (refine Free.cw_skip rfl ?_; go_frame)))
      refine Free.cw_loud rfl rfl (fun K hK => ?_)
      go_wp2
      refine hK _ _ rfl (Free.KeepsP.setCell _ ⟨trivial, rfl⟩ _) ?_
      clear hK K m7 mf ml z0 z1 z2 z3 z4 z5 z6 zf zl e7 e0 hgf hgl
      refine Free.cw_nil ?_
      go_wp2
      go_roundw
      case rel => exact ⟨k + 1, rfl, by omega, hI5⟩
      case measure => simp [intOf]; omega
    · have hlt2 : ¬ ((k : Int) < NA) := by omega
      have hlt3 : decide ((k : Int) < (NA : Int)) = false := by simp; omega
      go_upto_region 7 with fail
      clear hk hlt hlt2 hlt3
      go_wp2
      clear z0 z1 z2 z3 z4 z5 z6 zf zl
      go_loopw [36] (fun i wl => ∃ k : Nat, i = .int .i64 k ∧ k ≤ NC ∧ Hid (CpI w wl X c #[.int .i64 x0, .int .i64 x1, .int .i64 x2, .int .u64 x3, .int .i64 x4, .slice a1 NA c1, .slice a2 NC c2] #[.int .i64 0, .int .i64 0, .int .i64 0, .int .u64 0, .int .i64 0, .slice none 0 0, .slice none 0 0] (.slice a1 NA c1) (.slice a2 NC c2))) (fun i _ => NC - (intOf i).toNat)
      case atStart => exact ⟨0, rfl, by omega, hI⟩
      case round =>
        clear hI
        obtain ⟨k, rfl, hk, hI⟩ := hrel
        have hb4 := hI.out.blk.1
        obtain ⟨z0, z1, z2, z3, z4, z5, z6, zf, zl⟩ := cl7 hb4
        clear hb4
        by_cases hlt : k < NC
        · have hlt2 : (k : Int) < NC := by omega
          obtain ⟨Z, ZC, _, _, hZ, hZR, _⟩ := hI.out
          have hkZ : k < ZC.length := by rw [hZR.1, ← hNCc.out]; exact hlt
          have hZl : ZC.length = NC := by rw [hZR.1, ← hNCc.out]
          have hkc : k < c.cl.length := by rw [← hNCc.out]; exact hlt
          obtain ⟨g, cap, cur, e1, hge, hg, _⟩ : ∃ g cap cur, Value.slice a2 NC c2 = .slice (some ⟨g, 0, none⟩) ZC.length cap ∧ X ≤ g ∧ wr.heap[g]? = some (.cells cur tC (0, 0)) ∧ True := by
            rcases hZ.2 with ⟨e, h0⟩ | ⟨g, cap, cur, e, h1, h2, _⟩
            · exfalso
              cases e
              omega
            · exact ⟨g, cap, cur, e, h1, h2, trivial⟩
          rw [hZl] at e1
          cases e1
          obtain ⟨g', o', cc', hv, he⟩ := hZ.r.elem hkZ
          rw [hZl] at hv
          cases hv
          have e2 := he 2 _ rfl
          have e3 := he 3 _ rfl
          have e4 := he 4 _ rfl
          have hrow := hZR.2 k _ _ (List.getElem?_eq_getElem hkZ) (List.getElem?_eq_getElem hkc)
          have hco := hc.out.ns _ (List.getElem_mem hkc)
          obtain ⟨⟨q0, q1, ⟨q2, q3, q4⟩, ⟨q5, q6, q7⟩, ⟨q8, q9, q10⟩⟩, hq⟩ : ∃ q, ZC[k] = q := ⟨_, rfl⟩
          rw [hq] at e2 e3 e4 hrow
          simp only [shC, ClV.cs, slv, Nat.zero_add] at e2 e3 e4
          have hc0 := fun W (hk : Keeps [] wr W) => cloneN_c W _ _ (hrow.st.1.keeps hk) (hco 0 (by omega))
          have hc1 := fun W (hk : Keeps [] wr W) => cloneN_c W _ _ (hrow.sc.1.keeps hk) (hco 1 (by omega))
          have hc2 := fun W (hk : Keeps [] wr W) => cloneN_c W _ _ (hrow.ch.1.keeps hk) (hco 2 (by omega))
          simp only [slv] at hc0 hc1 hc2
          have hgf : ∀ o, wr.frozen? ⟨g, o, none⟩ = false := fun o => by simp [World.frozen?, hg]
          have hgl := lt_of_blk hg
          have hgX : g ≠ X := fun e => by subst e; exact tag_ne hg hI.out.blk.1 (by decide) rfl
          replace hc0 := Lib.hid hc0
          replace hc1 := Lib.hid hc1
          replace hc2 := Lib.hid hc2
          replace hg := Lib.hid hg
          clear hrow hZ hZR he hq hkZ hZl hco
          go_upto_region 11 with fail
          refine Free.wp_region_chain (fun i => i == 7 || i == 12 || i == 17 || i == 20 || i == 23 || i == 26) (fun i => true) (fun j b => (j = 20 ∨ j = 23 ∨ j = 26) ∧ b = g) (by kernel_rfl) (by kernel_rfl) (by kernel_rfl) ?_
          (repeat (first | (apply Free.cw_pure rfl rfl; (intro w'; go_simp <;> exact rfl); go_frame) | (apply Free.cw_steady rfl rfl rfl; (intro w' hS; have q0 := Free.sx_cell hS z6 (fun _ _ hT => hgX hT.2.symm); have q1 := Free.sx_cell hS e2 (fun j hp hT => Or.elim hT.1 (fun h => by subst h; exact absurd hp (by decide +kernel)) (fun h => Or.elim h (fun h => by subst h; exact absurd hp (by decide +kernel)) (fun h => by subst h; exact absurd hp (by decide +kernel)))); have q2 := Free.sx_cell hS e3 (fun j hp hT => Or.elim hT.1 (fun h => by subst h; exact absurd hp (by decide +kernel)) (fun h => Or.elim h (fun h => by subst h; exact absurd hp (by decide +kernel)) (fun h => by subst h; exact absurd hp (by decide +kernel)))); have q3 := Free.sx_cell hS e4 (fun j hp hT => Or.elim hT.1 (fun h => by subst h; exact absurd hp (by decide +kernel)) (fun h => Or.elim h (fun h => by subst h; exact absurd hp (by decide +kernel)) (fun h => by subst h; exact absurd hp (by decide +kernel)))); go_simp <;> exact rfl); go_frame) | (refine Free.cw_skip rfl ?_; go_frame)))
          refine Free.cw_loud rfl rfl (fun K hK => ?_)
          go_wp2_with fail
          refine (hc0.out wr.drew (Keeps.refl [] wr).drew).mono ?_
          rintro e w5 ⟨v5, rfl, hO5, hk5⟩
          refine hK _ _ rfl (Free.KeepsP.of hk5 (by simp)) ?_
          clear hK K hc0
          have hr5 := Lib.hid ((Keeps.refl [] wr).drew.trans hk5)
          replace hO5 := Lib.hid hO5
          clear hk5
          (repeat (first | (apply Free.cw_pure rfl rfl; (intro w'; go_simp <;> exact rfl); go_frame) | (apply Free.cw_steady rfl rfl rfl; (intro w' hS; have q0 := Free.sx_cell hS z6 (fun _ _ hT => hgX hT.2.symm); have q1 := Free.sx_cell hS e2 (fun j hp hT => Or.elim hT.1 (fun h => by subst h; exact absurd hp (by decide +kernel)) (fun h => Or.elim h (fun h => by subst h; exact absurd hp (by decide +kernel)) (fun h => by subst h; exact absurd hp (by decide +kernel)))); have q2 := Free.sx_cell hS e3 (fun j hp hT => Or.elim hT.1 (fun h => by subst h; exact absurd hp (by decide +kernel)) (fun h => Or.elim h (fun h => by subst h; exact absurd hp (by decide +kernel)) (fun h => by subst h; exact absurd hp (by decide +kernel)))); have q3 := Free.sx_cell hS e4 (fun j hp hT => Or.elim hT.1 (fun h => by subst h; exact absurd hp (by decide +kernel)) (fun h => Or.elim h (fun h => by subst h; exact absurd hp (by decide +kernel)) (fun h => by subst h; exact absurd hp (by decide +kernel)))); go_simp <;> exact rfl); go_frame) | (refine Free.cw_skip rfl ?_; go_frame)))
          refine Free.cw_loud rfl rfl (fun K hK => ?_)
          go_wp2_with fail
          refine (hc1.out w5 hr5.out).mono ?_
          rintro e w6 ⟨v6, rfl, hO6, hk6⟩
          refine hK _ _ rfl (Free.KeepsP.of hk6 (by simp)) ?_
          clear hK K hc1
          have hr6 := Lib.hid (hr5.out.trans hk6)
          replace hO5 := Lib.hid (hO5.out.keeps hk6)
          replace hO6 := Lib.hid hO6
          clear hk6 hr5
          (repeat (first | (apply Free.cw_pure rfl rfl; (intro w'; go_simp <;> exact rfl); go_frame) | (apply Free.cw_steady rfl rfl rfl; (intro w' hS; have q0 := Free.sx_cell hS z6 (fun _ _ hT => hgX hT.2.symm); have q1 := Free.sx_cell hS e2 (fun j hp hT => Or.elim hT.1 (fun h => by subst h; exact absurd hp (by decide +kernel)) (fun h => Or.elim h (fun h => by subst h; exact absurd hp (by decide +kernel)) (fun h => by subst h; exact absurd hp (by decide +kernel)))); have q2 := Free.sx_cell hS e3 (fun j hp hT => Or.elim hT.1 (fun h => by subst h; exact absurd hp (by decide +kernel)) (fun h => Or.elim h (fun h => by subst h; exact absurd hp (by decide +kernel)) (fun h => by subst h; exact absurd hp (by decide +kernel)))); have q3 := Free.sx_cell hS e4 (fun j hp hT => Or.elim hT.1 (fun h => by subst h; exact absurd hp (by decide +kernel)) (fun h => Or.elim h (fun h => by subst h; exact absurd hp (by decide +kernel)) (fun h => by subst h; exact absurd hp (by decide +kernel)))); go_simp <;> exact rfl); go_frame) | (refine Free.cw_skip rfl ?_; go_frame)))
          refine Free.cw_loud rfl rfl (fun K hK => ?_)
          go_wp2_with fail
          refine (hc2.out w6 hr6.out).mono ?_
          rintro e w7 ⟨v7, rfl, hO7, hk7⟩
          refine hK _ _ rfl (Free.KeepsP.of hk7 (by simp)) ?_
          clear hK K hc2
          have hr7 := hr6.out.trans hk7
          replace hO5 := Lib.hid (hO5.out.keeps hk7)
          replace hO6 := Lib.hid (hO6.out.keeps hk7)
          obtain ⟨a5, c5, rfl⟩ := hO5.out.form
          obtain ⟨a6, c6, rfl⟩ := hO6.out.form
          obtain ⟨a7, c7, rfl⟩ := hO7.form
          obtain ⟨N5, hN5⟩ : ∃ m, (c.cl[k].at 0).length = m := ⟨_, rfl⟩
          obtain ⟨N6, hN6⟩ : ∃ m, (c.cl[k].at 1).length = m := ⟨_, rfl⟩
          obtain ⟨N7, hN7⟩ : ∃ m, (c.cl[k].at 2).length = m := ⟨_, rfl⟩
          rw [show c.cl[k].st.length = N5 from hN5] at hO5 ⊢
          rw [show c.cl[k].sc.length = N6 from hN6] at hO6 ⊢
          rw [show c.cl[k].ch.length = N7 from hN7] at hO7 ⊢
          have hnd5 : Nd w7 (slv (a5, N5, c5)) (c.cl[k].at 0) := Nd.of_O hO5.out
          have hnd6 : Nd w7 (slv (a6, N6, c6)) (c.cl[k].at 1) := Nd.of_O hO6.out
          have hnd7 : Nd w7 (slv (a7, N7, c7)) (c.cl[k].at 2) := Nd.of_O hO7
          have hg7 := (hr7.block g hgl (by simp)).trans hg.out
          have hI8 := hI.out.setC hXb hr7 hkc 0 (by omega) (y := (a5, N5, c5)) hnd5
          have hg8 := setCs hg7 (k * 5 + 2) (.slice a5 N5 c5)
          have hk8 : Keeps [g] w7 (w7.setCell ⟨g, k * 5 + (2 + 0), none⟩ (slv (a5, N5, c5))) := (Keeps.refl _ _).setCell (.inr (by simp)) _
          have hnT : ∀ b ∈ [g], ∀ (cs : Array Value) (f : Nat × Nat), w7.heap[b]? ≠ some (Obj.cells cs tN f) := fun b hb cs' f e => by simp at hb; subst hb; exact tag_ne hg7 e (by decide) rfl
          have hI9 := hI8.setC hXb (Keeps.refl _ _) hkc 1 (by omega) (y := (a6, N6, c6)) (hnd6.keepS hk8 hnT)
          have hg9 := setCs hg8 (k * 5 + 3) (.slice a6 N6 c6)
          have hk9 := hk8.setCell (p := ⟨g, k * 5 + (2 + 1), none⟩) (.inr (by simp)) (slv (a6, N6, c6))
          have hI10 := hI9.setC hXb (Keeps.refl _ _) hkc 2 (by omega) (y := (a7, N7, c7)) (hnd7.keepS hk9 hnT)
          have m2 := hr7.val e2
          have mf : ∀ o, w7.frozen? ⟨g, o, none⟩ = false := fun o => (hr7.frozen g o hgl (by simp)).trans (hgf o)
          have ml := Nat.lt_of_lt_of_le hgl hr7.size
          have m3 := hr7.val e3
          have m4 := hr7.val e4
          have hI11 : Hid (CpI w (((w7.setCell ⟨g, k * 5 + 2, none⟩ (.slice a5 N5 c5)).setCell ⟨g, k * 5 + 3, none⟩ (.slice a6 N6 c6)).setCell ⟨g, k * 5 + 4, none⟩ (.slice a7 N7 c7)) X c #[.int .i64 x0, .int .i64 x1, .int .i64 x2, .int .u64 x3, .int .i64 x4, .slice a1 NA c1, .slice (some ⟨g, 0, none⟩) NC c2] #[.int .i64 0, .int .i64 0, .int .i64 0, .int .u64 0, .int .i64 0, .slice none 0 0, .slice none 0 0] (.slice a1 NA c1) (.slice (some ⟨g, 0, none⟩) NC c2)) := hI10
          have n3 := cell_setO (.slice a5 N5 c5) hg7 m3 (show k * 5 + 2 ≠ k * 5 + 3 by omega)
          have n4 := cell_setO (.slice a5 N5 c5) hg7 m4 (show k * 5 + 2 ≠ k * 5 + 4 by omega)
          have l4 := cell_setO (.slice a6 N6 c6) hg8 n4 (show k * 5 + 3 ≠ k * 5 + 4 by omega)
          have nf : ∀ o, (w7.setCell ⟨g, k * 5 + 2, none⟩ (.slice a5 N5 c5)).frozen? ⟨g, o, none⟩ = false := fun o => by simp [World.frozen?, hg8]
          have lf : ∀ o, ((w7.setCell ⟨g, k * 5 + 2, none⟩ (.slice a5 N5 c5)).setCell ⟨g, k * 5 + 3, none⟩ (.slice a6 N6 c6)).frozen? ⟨g, o, none⟩ = false := fun o => by simp [World.frozen?, hg9]
          have nl := lt_of_blk hg8
          have ll := lt_of_blk hg9
          clear hI10 m3 m4
          clear hO5 hO6 hO7 hk7 hr6 hr7 hnd5 hnd6 hnd7 hI8 hI9 hk8 hk9 hnT hN5 hN6 hN7
          (repeat (first | (apply Free.cw_pure rfl rfl; (intro w'; go_simp <;> exact rfl); go_frame) | (apply Free.cw_steady rfl rfl rfl; (intro w' hS; have q0 := Free.sx_cell hS z6 (fun _ _ hT => hgX hT.2.symm); have q1 := Free.sx_cell hS e2 (fun j hp hT => Or.elim hT.1 (fun h => by subst h; exact absurd hp (by decide +kernel)) (fun h => Or.elim h (fun h => by subst h; exact absurd hp (by decide +kernel)) (fun h => by subst h; exact absurd hp (by decide +kernel)))); have q2 := Free.sx_cell hS e3 (fun j hp hT => Or.elim hT.1 (fun h => by subst h; exact absurd hp (by decide +kernel)) (fun h => Or.elim h (fun h => by subst h; exact absurd hp (by decide +kernel)) (fun h => by subst h; exact absurd hp (by decide +kernel)))); have q3 := Free.sx_cell hS e4 (fun j hp hT => Or.elim hT.1 (fun h => by subst h; exact absurd hp (by decide +kernel)) (fun h => Or.elim h (fun h => by subst h; exact absurd hp (by decide +kernel)) (fun h => by subst h; exact absurd hp (by decide +kernel)))); go_simp <;> exact rfl); go_frame) | (refine Free.cw_skip rfl ?_; go_frame)))
          refine Free.cw_loud rfl rfl (fun K hK => ?_)
          go_wp2
          refine hK _ _ rfl (Free.KeepsP.setCell _ ⟨.inl trivial, rfl⟩ _) ?_
          clear hK K m2 mf ml
          generalize (w7.setCell ⟨g, k * 5 + 2, none⟩ (.slice a5 N5 c5)) = w8 at *
          (repeat (first | (apply Free.cw_pure rfl rfl; (intro w'; go_simp <;> exact rfl); go_frame) | (apply Free.cw_steady rfl rfl rfl; (intro w' hS; have q0 := Free.sx_cell hS z6 (fun _ _ hT => hgX hT.2.symm); have q1 := Free.sx_cell hS e2 (fun j hp hT => Or.elim hT.1 (fun h => by subst h; exact absurd hp (by decide +kernel)) (fun h => Or.elim h (fun h => by subst h; exact absurd hp (by decide +kernel)) (fun h => by subst h; exact absurd hp (by decide +kernel)))); have q2 := Free.sx_cell hS e3 (fun j hp hT => Or.elim hT.1 (fun h => by subst h; exact absurd hp (by decide +kernel)) (fun h => Or.elim h (fun h => by subst h; exact absurd hp (by decide +kernel)) (fun h => by subst h; exact absurd hp (by decide +kernel)))); have q3 := Free.sx_cell hS e4 (fun j hp hT => Or.elim hT.1 (fun h => by subst h; exact absurd hp (by decide +kernel)) (fun h => Or.elim h (fun h => by subst h; exact absurd hp (by decide +kernel)) (fun h => by subst h; exact absurd hp (by decide +kernel)))); go_simp <;> exact rfl); go_frame) | (refine Free.cw_skip rfl ?_; go_frame)))
          refine Free.cw_loud rfl rfl (fun K hK => ?_)
          go_wp2
          refine hK _ _ rfl (Free.KeepsP.setCell _ ⟨.inr (.inl trivial), rfl⟩ _) ?_
          clear hK K n3 n4 nf nl
          generalize (w8.setCell ⟨g, k * 5 + 3, none⟩ (.slice a6 N6 c6)) = w9 at *
          (repeat (first | (apply Free.cw_pure rfl rfl; (intro w'; go_simp <;> exact rfl); go_frame) | (apply Free.cw_steady rfl rfl rfl; (intro w' hS; have q0 := Free.sx_cell hS z6 (fun _ _ hT => hgX hT.2.symm); have q1 := Free.sx_cell hS e2 (fun j hp hT => Or.elim hT.1 (fun h => by subst h; exact absurd hp (by decide +kernel)) (fun h => Or.elim h (fun h => by subst h; exact absurd hp (by decide +kernel)) (fun h => by subst h; exact absurd hp (by decide +kernel)))); have q2 := Free.sx_cell hS e3 (fun j hp hT => Or.elim hT.1 (fun h => by subst h; exact absurd hp (by decide +kernel)) (fun h => Or.elim h (fun h => by subst h; exact absurd hp (by decide +kernel)) (fun h => by subst h; exact absurd hp (by decide +kernel)))); have q3 := Free.sx_cell hS e4 (fun j hp hT => Or.elim hT.1 (fun h => by subst h; exact absurd hp (by decide +kernel)) (fun h => Or.elim h (fun h => by subst h; exact absurd hp (by decide +kernel)) (fun h => by subst h; exact absurd hp (by decide +kernel)))); go_simp <;> exact rfl); go_frame) | (refine Free.cw_skip rfl ?_; go_frame)))
          refine Free.cw_loud rfl rfl (fun K hK => ?_)
          go_wp2
          refine hK _ _ rfl (Free.KeepsP.setCell _ ⟨.inr (.inr trivial), rfl⟩ _) ?_
          clear hK K l4 lf ll hg7 hg8 hg9
          generalize (w9.setCell ⟨g, k * 5 + 4, none⟩ (.slice a7 N7 c7)) = w10 at *
          refine Free.cw_nil ?_
          clear z0 z1 z2 z3 z4 z5 z6 zf zl e2 e3 e4 hgf hgl
          go_wp2
          go_roundw
          case rel => exact ⟨k + 1, rfl, by omega, hI11⟩
          case measure => simp [intOf]; omega
        · have hlt2 : ¬ ((k : Int) < NC) := by omega
          have hlt3 : decide ((k : Int) < (NC : Int)) = false := by simp; omega
          have hbZ := hI.out.blk.2
          obtain ⟨g1, g2⟩ := sc7 (.int .i64 x0) (.int .i64 x1) (.int .i64 x2) (.int .u64 x3) (.int .i64 x4) (.slice a1 NA c1) (.slice a2 NC c2) hbZ
          obtain ⟨s0, s1, s2, s3, s4, s5, s6, sf, sl⟩ := cl7 hbZ
          obtain ⟨Z, ZC, hZ, hZL, hC, hCR, _, _, hkw⟩ := hI.out
          have hfin : CopPost w c (.returned (ctV ⟨x0, x1, x2, x3, x4, (a1, NA, c1), (a2, NC, c2)⟩)) _ := ⟨⟨x0, x1, x2, x3, x4, (a1, NA, c1), (a2, NC, c2)⟩, rfl, ⟨hfl.out.1, hfl.out.2.1, hfl.out.2.2.1, hfl.out.2.2.2.1, hfl.out.2.2.2.2,
            ⟨Z, (hZ.keepS g2 (fun b hb e => by simp at hb; subst hb; obtain ⟨cs, hc'⟩ := hZ.tag _ e; exact tag_ne hc' hbZ (by decide) rfl)).r, hZL.ki (g2.ki (fun b hb cs f e => by simp at hb; subst hb; exact tag_ne hbZ e (by decide) rfl)),
              fun b hb => by obtain ⟨cs, hc'⟩ := (hZ.keepS g2 (fun b hb e => by simp at hb; subst hb; obtain ⟨cs, hc'⟩ := hZ.tag _ e; exact tag_ne hc' hbZ (by decide) rfl)).tag b hb; exact ⟨cs, _, hc'⟩⟩,
            ⟨ZC, (hC.keepS g2 (fun b hb e => by simp at hb; subst hb; obtain ⟨cs, hc'⟩ := hC.tag _ e; exact tag_ne hc' hbZ (by decide) rfl)).r, fun b hb => by obtain ⟨cs, hc'⟩ := (hC.keepS g2 (fun b hb e => by simp at hb; subst hb; obtain ⟨cs, hc'⟩ := hC.tag _ e; exact tag_ne hc' hbZ (by decide) rfl)).tag b hb; exact ⟨cs, _, hc'⟩, hCR.keepS g2 (fun b hb cs f e => by simp at hb; subst hb; exact tag_ne hbZ e (by decide) rfl)⟩⟩,
            fun b hb => by have := hZ.ge b hb; omega, hkw.fresh g2 (fun b hb => by simp at hb; subst hb; exact .inr (by omega))⟩
          replace hfin := Lib.hid hfin
          replace g1 := Lib.hid g1
          clear hZ hZL hC hCR hkw g2 hbZ
          go_wp2
          refine bodyPost_ret (results_ct1 rfl _ _ _ _ _ _ _ _ _ _ _ _ rfl g1.out) rfl ?_
          exact hfin.out
end Go.Proofs.YtpobepninifenaaGreat

namespace Go.Proofs.YtpobepninifenaaGreat
open Go Go.RowKit

/-- Rows that say certificates, out of blocks from S on. -/
def LCs (w : World) (S : Nat) (X : List CtV) (C : List Ct) : Prop := X.length = C.length ∧ ∀ (k : Nat) (x : CtV) (c : Ct), X[k]? = some x → C[k]? = some c → CtO w x c ∧ ∀ b, (slv x.va).ownBlock = some b → S ≤ b
theorem LCs.nil (w : World) (S : Nat) : LCs w S [] [] := ⟨rfl, fun k x c h => by simp at h⟩
theorem LCs.keepG {w w' : World} {S : Nat} {X : List CtV} {C : List Ct} {D : List Nat} (h : LCs w S X C) (hk : Keeps D w w') (hi : KI w w') (hD : ∀ b ∈ D, ∀ (cs : Array Value) (f : Nat × Nat), w.heap[b]? ≠ some (Obj.cells cs tC f) ∧ w.heap[b]? ≠ some (Obj.cells cs tN f) ∧ w.heap[b]? ≠ some (Obj.cells cs tA f)) : LCs w' S X C :=
  ⟨h.1, fun k x c h1 h2 => by
    obtain ⟨g1, g2⟩ := h.2 k x c h1 h2
    obtain ⟨Z, _, _, hz⟩ := g1.an
    exact ⟨g1.keepG hk hi (fun b hb cs f => ⟨(hD b hb cs f).1, (hD b hb cs f).2.1⟩) (fun b hb hm => by obtain ⟨cs, f, g⟩ := hz b hb; exact (hD b hm cs f).2.2 g), g2⟩⟩
theorem LCs.keeps {w w' : World} {S : Nat} {X : List CtV} {C : List Ct} (h : LCs w S X C) (hk : Keeps [] w w') : LCs w' S X C := h.keepG hk hk.ki0 (by simp)
theorem LCs.snoc {w : World} {S : Nat} {X : List CtV} {C : List Ct} {x : CtV} {c : Ct} (h : LCs w S X C) (hx : CtO w x c) (hb : ∀ b, (slv x.va).ownBlock = some b → S ≤ b) : LCs w S (X ++ [x]) (C ++ [c]) := by
  obtain ⟨h1, h2⟩ := h
  refine ⟨by simp [h1], fun k a b ha hb' => ?_⟩
  rcases Nat.lt_trichotomy k X.length with hk | hk | hk
  · rw [List.getElem?_append_left hk] at ha
    rw [List.getElem?_append_left (by omega)] at hb'
    exact h2 k a b ha hb'
  · rw [List.getElem?_append_right (by omega), show k - X.length = 0 by omega] at ha
    rw [List.getElem?_append_right (by omega), show k - C.length = 0 by omega] at hb'
    simp at ha hb'
    subst ha hb'
    exact ⟨hx, hb⟩
  · rw [List.getElem?_eq_none (by simp; omega)] at ha; cases ha
theorem Tc.Ok.sm {T : Tc} {n k : Nat} (h : T.Ok n k) (hn : n ≤ 100) : ∀ c ∈ T.cs, c.Sm := fun c hc => by
  obtain ⟨h1, h2, h3, h4, h5, h6, h7, h8, h9⟩ := h.ci c hc
  refine ⟨by omega, by omega, fun a ha => Nat.le_trans (h7 a ha) (by omega), fun p hp j hj => Nat.le_trans (h9 p hp j hj) ?_⟩
  have := Nat.mul_le_mul_right 100001 (show 1 + 5 * n ≤ 501 by omega)
  exact Nat.le_trans this (by decide)
def CsPost (w : World) (T : Tc) (e : Ending) (w' : World) : Prop := ∃ v X, e = .returned v ∧ shCt.O w' w.heap.size tCt v X ∧ LCs w' w.heap.size X T.cs ∧ Keeps [] w w'
set_option maxRecDepth 100000 in
set_option maxHeartbeats 8000000 in
theorem tcerts_c (w : World) (B bp bm : Nat) (vc : Value) (A : List AT) (T : Tc) (n k : Nat) (h : TcM w B bp bm vc A T) (ho : T.Ok n k) (hn : n ≤ 100) :
    Calls Tryz.prog 21 #[ptrV bp] w (CsPost w T) := by
  obtain ⟨c0, c1, c2, c3⟩ := h.cells
  obtain ⟨X, hX, hXl, hXc⟩ := h.cs
  have hsm := ho.sm hn
  have hcl := ho.cl
  obtain ⟨va, vcap, rfl⟩ := hX.form
  obtain ⟨N, hN⟩ : ∃ m, X.length = m := ⟨_, rfl⟩
  have hNC : N = T.cs.length := by rw [← hN]; exact hXl
  rw [hN] at hX c3
  replace hX := Lib.hid hX
  replace hXc := Lib.hid hXc
  replace hsm := Lib.hid hsm
  have hNm : N ≤ 100 := by omega
  replace hN := Lib.hid hN
  replace hNC := Lib.hid hNC
  clear h ho hXl
  unfold ptrV
  go_enter Tryz.func21, Tryz.ntmps21
  go_wp2
  go_loopw [3, 11] (fun ov i wr => ∃ (k : Nat) (Y : List CtV), i = .int .i64 k ∧ k ≤ N ∧ Hid (shCt.O wr w.heap.size tCt ov Y) ∧ Hid (LCs wr w.heap.size Y (T.cs.take k)) ∧ Hid (Keeps [] w wr)) (fun _ i _ => N - (intOf i).toNat)
  case atStart => exact ⟨0, [], rfl, by omega, Lib.hid (Sh.O.nil _ _ _ _), Lib.hid (LCs.nil _ _), Lib.hid (Keeps.refl _ _)⟩
  case round =>
    obtain ⟨k, Y, rfl, hk, hO, hL, hkw⟩ := hrel
    obtain ⟨oa, oc, rfl⟩ := hO.out.form
    have hYl : Y.length = k := by rw [hL.out.1, List.length_take, ← hNC.out]; omega
    rw [hYl] at hO ⊢
    replace hYl := Lib.hid hYl
    by_cases hlt : k < N
    · have hlt2 : (k : Int) < N := by omega
      have hkX : k < X.length := by rw [hN.out]; exact hlt
      have hkc : k < T.cs.length := by rw [← hNC.out]; exact hlt
      obtain ⟨g, o, c', hv, he⟩ := (hX.out.r.keeps hkw.out).elem hkX
      rw [hN.out] at hv
      cases hv
      have hxk := (hXc.out k _ _ (List.getElem?_eq_getElem hkX) (List.getElem?_eq_getElem hkc)).1.keeps hkw.out
      have hst : T.cs.take (k + 1) = T.cs.take k ++ [T.cs[k]] := List.take_succ_eq_append_getElem hkc
      have hsk := hsm.out _ (List.getElem_mem hkc)
      obtain ⟨⟨x0, x1, x2, x3, x4, ⟨x5, x6, x7⟩, ⟨x8, x9, x10⟩⟩, hx⟩ : ∃ q, X[k] = q := ⟨_, rfl⟩
      rw [hx] at he hxk
      have e0 := he 0 _ rfl
      have e1 := he 1 _ rfl
      have e2 := he 2 _ rfl
      have e3 := he 3 _ rfl
      have e4 := he 4 _ rfl
      have e5 := he 5 _ rfl
      have e6 := he 6 _ rfl
      simp only [shCt, CtV.cs, slv, Nat.add_zero] at e0 e1 e2 e3 e4 e5 e6
      obtain ⟨ck, hck⟩ : ∃ c, T.cs[k] = c := ⟨_, rfl⟩
      rw [hck] at hxk hst hsk
      have hkA := (Keeps.refl [] wr).alloc (.cells #[.int .i64 x0, .int .i64 x1, .int .i64 x2, .int .u64 x3, .int .i64 x4, .slice x5 x6 x7, .slice x8 x9 x10] tCt)
      have hbA := heap_alloc_new wr (.cells #[.int .i64 x0, .int .i64 x1, .int .i64 x2, .int .u64 x3, .int .i64 x4, .slice x5 x6 x7, .slice x8 x9 x10] tCt)
      have hcp := copiedC_c (wr.alloc (.cells #[.int .i64 x0, .int .i64 x1, .int .i64 x2, .int .u64 x3, .int .i64 x4, .slice x5 x6 x7, .slice x8 x9 x10] tCt)) _ ck (hxk.keeps hkA) hsk
      simp only [ctV, slv] at hcp
      replace hcp := Lib.hid hcp
      replace hkA := Lib.hid hkA
      replace hbA := Lib.hid hbA
      replace hst := Lib.hid hst
      clear he hxk hsk hx hck
      go_upto_region 5 with fail
      clear e0 e1 e2 e3 e4 e5 e6
      generalize (wr.alloc (.cells #[.int .i64 x0, .int .i64 x1, .int .i64 x2, .int .u64 x3, .int .i64 x4, .slice x5 x6 x7, .slice x8 x9 x10] tCt)) = W at *
      obtain ⟨z0, z1, z2, z3, z4, z5, z6, zf, zl⟩ := cl7 hbA.out
      go_wp2_with fail
      refine hcp.out.mono ?_
      rintro e w2 ⟨⟨y0, y1, y2, y3, y4, ⟨y5, y6, y7⟩, ⟨y8, y9, y10⟩⟩, rfl, hy, hyb, hk2⟩
      simp only [ctV, slv]
      have hkr := hkA.out.trans hk2
      have hkr3 := hkr.alloc (.cells #[.int .i64 y0, .int .i64 y1, .int .i64 y2, .int .u64 y3, .int .i64 y4, .slice y5 y6 y7, .slice y8 y9 y10] tCt)
      have hmade := Lib.hid (Sh.R.made shCt w2 [(⟨y0, y1, y2, y3, y4, (y5, y6, y7), (y8, y9, y10)⟩ : CtV)] #[.int .i64 y0, .int .i64 y1, .int .i64 y2, .int .u64 y3, .int .i64 y4, .slice y5 y6 y7, .slice y8 y9 y10] tCt rfl (by simp [maxLen]) 1 rfl)
      have hO1 := Lib.hid (hO.out.keeps hkr3)
      have hyw : ∀ b, (slv (y5, y6, y7)).ownBlock = some b → w.heap.size ≤ b := fun b hb => Nat.le_trans (Nat.le_trans hkw.out.size hkA.out.size) (hyb b hb)
      have hL1 := Lib.hid ((hL.out.keeps hkr3).snoc (hy.keeps ((Keeps.refl [] w2).alloc (.cells #[.int .i64 y0, .int .i64 y1, .int .i64 y2, .int .u64 y3, .int .i64 y4, .slice y5 y6 y7, .slice y8 y9 y10] tCt))) hyw)
      have hk9 := Lib.hid (hkw.out.trans hkr3)
      clear hkr hkr3 hyb hyw hy hk2 z0 z1 z2 z3 z4 z5 z6 zf zl hcp
      have hsz := hk9.out.size
      go_wp2_with (first
        | (at_builtin; (refine Sh.wpl_app shCt w.heap.size infoCt rfl Tryz.underlying28 (.slice oa k oc) (.slice (some ⟨w2.heap.size, 0, none⟩) 1 1) Y [(⟨y0, y1, y2, y3, y4, (y5, y6, y7), (y8, y9, y10)⟩ : CtV)] rfl _ _ rfl rfl rfl ?hA ?hB ?hC ?hD ?_); (case hA => exact hO1.out); (case hB => exact hmade.out); (case hC => rw [hYl.out]; simp only [List.length_singleton]; omega); (case hD => exact hsz); intro v7 w7 hO7 hG7)
        | fail)
      have hK7 := hG7.keepsO
      have hI7 := hK7.ki (fun b hb cs f e => by obtain ⟨cs', hc⟩ := hO1.out.tag b (by simpa using hb); exact tag_ne hc e (by decide) rfl)
      have hL7 := hL1.out.keepG hK7 hI7 (fun b hb cs f => by
        obtain ⟨cs', hc⟩ := hO1.out.tag b (by simpa using hb)
        exact ⟨fun g => tag_ne hc g (by decide) rfl, fun g => tag_ne hc g (by decide) rfl, fun g => tag_ne hc g (by decide) rfl⟩)
      have hk7 := hk9.out.fresh hK7 (fun b hb => .inr (hO1.out.ge b (by simpa using hb)))
      rw [← hst.out] at hL7
      refine ⟨⟨k + 1, _, rfl, by omega, Lib.hid hO7, Lib.hid hL7, Lib.hid hk7⟩, ?_⟩
      simp [intOf]; omega
    · have hlt2 : ¬ ((k : Int) < N) := by omega
      have hlt3 : decide ((k : Int) < (N : Int)) = false := by simp; omega
      have hkN : T.cs.take k = T.cs := List.take_of_length_le (by rw [← hNC.out]; omega)
      rw [hkN] at hL
      replace hkN := Lib.hid hkN
      go_wp2
      go_ret
      exact ⟨_, Y, rfl, hO.out, hL.out, hkw.out⟩
end Go.Proofs.YtpobepninifenaaGreat

namespace Go.Proofs.YtpobepninifenaaGreat
open Go Go.RowKit


theorem eqId0 (w : World) (x0 : Int) (x1 : Int) (y0 : Int) (y1 : Int) : (Op.equalIn 10000 tId (.agg #[.int .i64 x0, .int .i64 x1]) (.agg #[.int .i64 y0, .int .i64 y1])).run Tryz.prog w = .ok (x0 == y0 && x1 == y1) w := by
  have h1 : Tryz.prog.underlying tId = some (.struct (Tryz.prog.fieldsOf tId)) := by kernel_rfl
  have h2 : Tryz.prog.stoodInHeld tId = false := by kernel_rfl
  have h3 : (Tryz.prog.fieldsOf tId).toList.map (fun f => (f.name != "_", f.type, f.offset)) = [(true, 3, 0), (true, 3, 1)] := by kernel_rfl
  obtain ⟨f0, f1, hf⟩ : ∃ f0 f1, (Tryz.prog.fieldsOf tId).toList = [f0, f1] := by
    generalize (Tryz.prog.fieldsOf tId).toList = l at h3
    have hl := congrArg List.length h3
    simp only [List.length_map, List.length_cons, List.length_nil] at hl
    match l, hl with
    | [f0, f1], _ => exact ⟨f0, f1, rfl⟩
  rw [hf] at h3
  simp only [List.map_cons, List.map_nil, List.cons.injEq, Prod.mk.injEq, and_true, bne_iff_ne, ne_eq] at h3
  obtain ⟨⟨n0, t0, o0⟩, n1, t1, o1⟩ := h3
  rw [run_equalIn_agg w 9999 _ _ _ h1 h2, hf]
  have p0 : ∀ (x0 : Int) (x1 : Int) (w : World), (part 3 #[.int .i64 x0, .int .i64 x1] 0).run Tryz.prog w = .ok (.int .i64 x0) w := fun x0 x1 w => by kernel_rfl
  have p1 : ∀ (x0 : Int) (x1 : Int) (w : World), (part 3 #[.int .i64 x0, .int .i64 x1] 1).run Tryz.prog w = .ok (.int .i64 x1) w := fun x0 x1 w => by kernel_rfl
  have e_int : ∀ (x y : Int) (w : World), (Op.equalIn 9999 3 (.int .i64 x) (.int .i64 y)).run Tryz.prog w = .ok (x == y) w := fun x y w => run_equalIn_int w 9998 _ _ _ x y Tryz.underlying3
  simp only [Op.eqFields, n0, t0, o0, n1, t1, o1, ne_eq, not_false_eq_true, if_true, Sem.run_bind, p0, p1, e_int, Result.andThen]
  cases b0 : (x0 == y0)
  · simp [p0, p1, e_int, b0]
  · cases b1 : (x1 == y1)
    · simp [p0, p1, e_int, b0, b1]
    · simp [p0, p1, e_int, b0, b1]
theorem eqId (w : World) (x y : Idp) : (binOp .eql tId (ipV x) (ipV y)).run Tryz.prog w = .ok (.bool (decide (x = y))) w := by
  obtain ⟨a, b⟩ := x
  obtain ⟨a', b'⟩ := y
  rw [run_eql_struct, eqId0, Result.andThen_ok]
  congr 2
  rw [Bool.eq_iff_iff]
  simp
theorem neId (w : World) (x y : Idp) : (binOp .neq tId (ipV x) (ipV y)).run Tryz.prog w = .ok (.bool (decide (x ≠ y))) w := by
  obtain ⟨a, b⟩ := x
  obtain ⟨a', b'⟩ := y
  rw [run_neq_struct, eqId0, Result.andThen_ok]
  congr 2
  rw [Bool.eq_iff_iff]
  simp
/-- Its place, as the specification says it. -/
def Tc.findI (T : Tc) (id : Idp) : Int := match T.find id with | none => -1 | some i => (i : Int)
set_option maxRecDepth 100000 in
set_option maxHeartbeats 8000000 in
theorem rbegins_c (O : List Nat) (w : World) (x : RtV) (T : Tc) (h : RtR O w x T) (st : T3) (hN : T.act.length ≤ 100000) :
    Calls Tryz.prog 68 #[rtV x, tV st] w fun e w' => e = .returned (.bool (T.begins st)) ∧ Keeps [] w w' := by
  obtain ⟨X, hX, _, hXl, hXr⟩ := h.ac
  obtain ⟨x0, x1, ⟨x2, x3, x4⟩, ⟨x5, x6, x7⟩⟩ := x
  obtain ⟨s0, s1, s2⟩ := st
  simp only [slv] at hX
  have e1 : x3 = T.act.length := by
    obtain ⟨_, _, e1, _, _⟩ := hX.form
    simp only [Value.slice.injEq] at e1
    rw [← hXl]; exact e1.2.1
  obtain ⟨hb1, hb2, hkW, hzW⟩ := blks2 w (.cells #[.int .i64 x0, .int .i64 x1, .slice x2 x3 x4, .slice x5 x6 x7] tRc) (.cells #[.int .i64 s0, .int .u64 s1, .int .i64 s2] tN)
  replace hX := Lib.hid hX
  replace hXl := Lib.hid hXl
  replace hXr := Lib.hid hXr
  replace hb1 := Lib.hid hb1
  replace hb2 := Lib.hid hb2
  replace hkW := Lib.hid hkW
  have hNm : x3 ≤ 100000 := by omega
  replace e1 := Lib.hid e1
  clear h hN
  simp only [rtV, slv]
  go_enter Tryz.func68, Tryz.ntmps68
  go_upto_region 1 with fail
  generalize ((w.alloc (.cells #[.int .i64 x0, .int .i64 x1, .slice x2 x3 x4, .slice x5 x6 x7] tRc)).alloc (.cells #[.int .i64 s0, .int .u64 s1, .int .i64 s2] tN)) = W at *
  obtain ⟨B, hB⟩ : ∃ B, w.heap.size = B := ⟨_, rfl⟩
  rw [hB] at hb1 hb2 hzW ⊢
  replace hB := Lib.hid hB
  go_wp2
  go_loopw [5] (fun i wr => ∃ k : Nat, i = .int .i64 k ∧ k ≤ x3 ∧ Hid (∀ j (hj : j < T.act.length), j < k → T.act[j].st ≠ (s0, s1, s2)) ∧ Hid (Keeps [] W wr)) (fun i _ => x3 - (intOf i).toNat)
  case atStart => exact ⟨0, rfl, by omega, Lib.hid (fun j hj h => by omega), Lib.hid (Keeps.refl _ _)⟩
  case round =>
    obtain ⟨k, rfl, hk, hno, hkr⟩ := hrel
    obtain ⟨z0, z1, z2, z3, zf, zl⟩ := cl4 ((hkr.out.block _ (lt_of_blk hb1.out) (by simp)).trans hb1.out)
    obtain ⟨p0, p1, p2, pf, pl⟩ := cl3 ((hkr.out.block _ (lt_of_blk hb2.out) (by simp)).trans hb2.out)
    by_cases hlt : k < x3
    · have hlt2 : (k : Int) < x3 := by omega
      have hka : k < T.act.length := by rw [← e1.out]; exact hlt
      have hkX : k < X.length := by rw [hXl.out]; exact hka
      have hkw := hkW.out.trans hkr.out
      obtain ⟨g, o, c', hv, he⟩ := (hX.out.keeps hkw).elem hkX
      rw [hXl.out, ← e1.out] at hv
      cases hv
      obtain ⟨hr, _⟩ := hXr.out k _ _ (List.getElem?_eq_getElem hkX) (List.getElem?_eq_getElem hka)
      have e2 := he 2 _ rfl
      have e3 := he 3 _ rfl
      have e4 := he 4 _ rfl
      obtain ⟨u, hu⟩ : ∃ u, T.act[k] = u := ⟨_, rfl⟩
      rw [hu] at hr
      obtain ⟨⟨y0, y1, y2, y3, y4, y5, ⟨y6, y7, y8⟩, ⟨y9, y10, y11⟩, y12, ⟨y13, y14, y15⟩, y16, ⟨y17, y18, y19⟩⟩, hy⟩ : ∃ q, X[k] = q := ⟨_, rfl⟩
      rw [hy] at hr e2 e3 e4
      simp only [shRf, RfV.cs, Nat.add_zero] at e2 e3 e4
      have hkey : u.st = (y2, y3, y4) := by have h1 := hr.s0; have h2 := hr.s1; have h3 := hr.s2; simp only at h1 h2 h3; rw [h1, h2, h3]
      have hq := fun w => eqN w (y2, y3, y4) (s0, s1, s2)
      simp only [tV] at hq
      replace hu := Lib.hid hu
      replace hkw := Lib.hid hkw
      replace hkey := Lib.hid hkey
      clear he hr hy
      by_cases hs : (y2, y3, y4) = (s0, s1, s2)
      · rw [decide_eq_true hs] at hq
        replace hs := Lib.hid hs
        go_upto_region 4 with fail
        refine Free.wp_region_chain (fun i => i == 100) (fun i => true) (fun _ _ => False) (by kernel_rfl) (by kernel_rfl) (by kernel_rfl) ?_
        (repeat (first | (apply Free.cw_pure rfl rfl; (intro w'; go_simp <;> exact rfl); go_frame) | (apply Free.cw_steady rfl rfl rfl; (intro w' hS; have q0 := Free.sx_cell hS z2 (fun _ _ hT => hT); have q1 := Free.sx_cell hS e2 (fun _ _ hT => hT); have q2 := Free.sx_cell hS e3 (fun _ _ hT => hT); have q3 := Free.sx_cell hS e4 (fun _ _ hT => hT); have q4 := Free.sx_cell hS p0 (fun _ _ hT => hT); have q5 := Free.sx_cell hS p1 (fun _ _ hT => hT); have q6 := Free.sx_cell hS p2 (fun _ _ hT => hT); go_simp <;> exact rfl); go_frame) | (refine Free.cw_skip rfl ?_; go_frame)))
        refine Free.cw_nil ?_
        go_wp2
        go_ret
        have hkd := hkw.out.trans (Keeps.refl [] wr).drew
        exact ⟨by rw [show T.begins (s0, s1, s2) = true from List.any_eq_true.2 ⟨T.act[k], List.getElem_mem hka, by rw [hu.out, hkey.out]; simp [hs.out]⟩]; rfl, hkd⟩
      · rw [decide_eq_false hs] at hq
        have hno2 : Hid (∀ j (hj : j < T.act.length), j < k + 1 → T.act[j].st ≠ (s0, s1, s2)) := Lib.hid (fun j hj h => by
          rcases Nat.lt_or_ge j k with h2 | h2
          · exact hno.out j hj h2
          · have : j = k := by omega
            subst this
            rw [hu.out, hkey.out]; exact hs)
        replace hs := Lib.hid hs
        go_upto_region 4 with fail
        refine Free.wp_region_chain (fun i => i == 100) (fun i => true) (fun _ _ => False) (by kernel_rfl) (by kernel_rfl) (by kernel_rfl) ?_
        (repeat (first | (apply Free.cw_pure rfl rfl; (intro w'; go_simp <;> exact rfl); go_frame) | (apply Free.cw_steady rfl rfl rfl; (intro w' hS; have q0 := Free.sx_cell hS z2 (fun _ _ hT => hT); have q1 := Free.sx_cell hS e2 (fun _ _ hT => hT); have q2 := Free.sx_cell hS e3 (fun _ _ hT => hT); have q3 := Free.sx_cell hS e4 (fun _ _ hT => hT); have q4 := Free.sx_cell hS p0 (fun _ _ hT => hT); have q5 := Free.sx_cell hS p1 (fun _ _ hT => hT); have q6 := Free.sx_cell hS p2 (fun _ _ hT => hT); go_simp <;> exact rfl); go_frame) | (refine Free.cw_skip rfl ?_; go_frame)))
        refine Free.cw_nil ?_
        go_wp2
        go_roundw
        case rel => exact ⟨k + 1, rfl, by omega, hno2, Lib.hid (hkr.out.trans (Keeps.refl [] wr).drew)⟩
        case measure => simp [intOf]; omega
    · have hlt2 : ¬ ((k : Int) < x3) := by omega
      have hlt3 : decide ((k : Int) < (x3 : Int)) = false := by simp; omega
      have hall : ∀ j (hj : j < T.act.length), T.act[j].st ≠ (s0, s1, s2) := fun j hj => hno.out j hj (by have := e1.out; omega)
      replace hall := Lib.hid hall
      go_wp2
      go_ret
      have hkd := hkW.out.trans hkr.out
      exact ⟨by rw [show T.begins (s0, s1, s2) = false from List.any_eq_false.2 (fun t ht => by obtain ⟨j, hj, rfl⟩ := List.mem_iff_getElem.1 ht; simp [hall.out j hj])]; rfl, hkd⟩

set_option maxRecDepth 100000 in
set_option maxHeartbeats 8000000 in
theorem rfind_c (O : List Nat) (w : World) (x : RtV) (T : Tc) (h : RtR O w x T) (id : Idp) (hN : T.act.length ≤ 100000) :
    Calls Tryz.prog 70 #[rtV x, ipV id] w fun e w' => e = .returned (.int .i64 (T.findI id)) ∧ Keeps [] w w' := by
  obtain ⟨X, hX, _, hXl, hXr⟩ := h.ac
  obtain ⟨x0, x1, ⟨x2, x3, x4⟩, ⟨x5, x6, x7⟩⟩ := x
  obtain ⟨i0, i1⟩ := id
  simp only [slv] at hX
  have e1 : x3 = T.act.length := by
    obtain ⟨_, _, e1, _, _⟩ := hX.form
    simp only [Value.slice.injEq] at e1
    rw [← hXl]; exact e1.2.1
  obtain ⟨hb1, hb2, hkW, hzW⟩ := blks2 w (.cells #[.int .i64 x0, .int .i64 x1, .slice x2 x3 x4, .slice x5 x6 x7] tRc) (.cells #[.int .i64 i0, .int .i64 i1] tId)
  replace hX := Lib.hid hX
  replace hXl := Lib.hid hXl
  replace hXr := Lib.hid hXr
  replace hb1 := Lib.hid hb1
  replace hb2 := Lib.hid hb2
  replace hkW := Lib.hid hkW
  have hNm : x3 ≤ 100000 := by omega
  replace e1 := Lib.hid e1
  clear h hN
  simp only [rtV, slv]
  go_enter Tryz.func70, Tryz.ntmps70
  go_upto_region 1 with fail
  generalize ((w.alloc (.cells #[.int .i64 x0, .int .i64 x1, .slice x2 x3 x4, .slice x5 x6 x7] tRc)).alloc (.cells #[.int .i64 i0, .int .i64 i1] tId)) = W at *
  obtain ⟨B, hB⟩ : ∃ B, w.heap.size = B := ⟨_, rfl⟩
  rw [hB] at hb1 hb2 hzW ⊢
  replace hB := Lib.hid hB
  go_wp2
  go_loopw [5] (fun i wr => ∃ k : Nat, i = .int .i64 k ∧ k ≤ x3 ∧ Hid (∀ j (hj : j < T.act.length), j < k → T.act[j].idp ≠ (i0, i1)) ∧ Hid (Keeps [] W wr)) (fun i _ => x3 - (intOf i).toNat)
  case atStart => exact ⟨0, rfl, by omega, Lib.hid (fun j hj h => by omega), Lib.hid (Keeps.refl _ _)⟩
  case round =>
    obtain ⟨k, rfl, hk, hno, hkr⟩ := hrel
    obtain ⟨z0, z1, z2, z3, zf, zl⟩ := cl4 ((hkr.out.block _ (lt_of_blk hb1.out) (by simp)).trans hb1.out)
    obtain ⟨p0, p1, pf, pl⟩ := cl2 ((hkr.out.block _ (lt_of_blk hb2.out) (by simp)).trans hb2.out)
    by_cases hlt : k < x3
    · have hlt2 : (k : Int) < x3 := by omega
      have hka : k < T.act.length := by rw [← e1.out]; exact hlt
      have hkX : k < X.length := by rw [hXl.out]; exact hka
      have hkw := hkW.out.trans hkr.out
      obtain ⟨g, o, c', hv, he⟩ := (hX.out.keeps hkw).elem hkX
      rw [hXl.out, ← e1.out] at hv
      cases hv
      obtain ⟨hr, _⟩ := hXr.out k _ _ (List.getElem?_eq_getElem hkX) (List.getElem?_eq_getElem hka)
      have e2 := he 0 _ rfl
      have e3 := he 1 _ rfl
      obtain ⟨u, hu⟩ : ∃ u, T.act[k] = u := ⟨_, rfl⟩
      rw [hu] at hr
      obtain ⟨⟨y0, y1, y2, y3, y4, y5, ⟨y6, y7, y8⟩, ⟨y9, y10, y11⟩, y12, ⟨y13, y14, y15⟩, y16, ⟨y17, y18, y19⟩⟩, hy⟩ : ∃ q, X[k] = q := ⟨_, rfl⟩
      rw [hy] at hr e2 e3
      simp only [shRf, RfV.cs, Nat.add_zero] at e2 e3
      have hkey : u.idp = (y0, y1) := by have h1 := hr.im; have h2 := hr.is; simp only at h1 h2; rw [h1, h2]
      have hq := fun w => eqId w (y0, y1) (i0, i1)
      simp only [ipV] at hq
      replace hu := Lib.hid hu
      replace hkw := Lib.hid hkw
      replace hkey := Lib.hid hkey
      clear he hr hy
      by_cases hs : (y0, y1) = (i0, i1)
      · rw [decide_eq_true hs] at hq
        replace hs := Lib.hid hs
        go_upto_region 4 with fail
        refine Free.wp_region_chain (fun i => i == 100) (fun i => true) (fun _ _ => False) (by kernel_rfl) (by kernel_rfl) (by kernel_rfl) ?_
        (repeat (first | (apply Free.cw_pure rfl rfl; (intro w'; go_simp <;> exact rfl); go_frame) | (apply Free.cw_steady rfl rfl rfl; (intro w' hS; have q0 := Free.sx_cell hS z2 (fun _ _ hT => hT); have q1 := Free.sx_cell hS e2 (fun _ _ hT => hT); have q2 := Free.sx_cell hS e3 (fun _ _ hT => hT); have q3 := Free.sx_cell hS p0 (fun _ _ hT => hT); have q4 := Free.sx_cell hS p1 (fun _ _ hT => hT); go_simp <;> exact rfl); go_frame) | (refine Free.cw_skip rfl ?_; go_frame)))
        refine Free.cw_nil ?_
        go_wp2
        go_ret
        have hkd := hkw.out.trans (Keeps.refl [] wr).drew
        exact ⟨by rw [show T.findI (i0, i1) = (k : Int) from by unfold Tc.findI; rw [show T.find (i0, i1) = some k from List.findIdx?_eq_some_iff_getElem.2 ⟨hka, by rw [hu.out, hkey.out]; simp [hs.out], fun j hj => by simp [hno.out j (by omega) hj]⟩]]; rfl, hkd⟩
      · rw [decide_eq_false hs] at hq
        have hno2 : Hid (∀ j (hj : j < T.act.length), j < k + 1 → T.act[j].idp ≠ (i0, i1)) := Lib.hid (fun j hj h => by
          rcases Nat.lt_or_ge j k with h2 | h2
          · exact hno.out j hj h2
          · have : j = k := by omega
            subst this
            rw [hu.out, hkey.out]; exact hs)
        replace hs := Lib.hid hs
        go_upto_region 4 with fail
        refine Free.wp_region_chain (fun i => i == 100) (fun i => true) (fun _ _ => False) (by kernel_rfl) (by kernel_rfl) (by kernel_rfl) ?_
        (repeat (first | (apply Free.cw_pure rfl rfl; (intro w'; go_simp <;> exact rfl); go_frame) | (apply Free.cw_steady rfl rfl rfl; (intro w' hS; have q0 := Free.sx_cell hS z2 (fun _ _ hT => hT); have q1 := Free.sx_cell hS e2 (fun _ _ hT => hT); have q2 := Free.sx_cell hS e3 (fun _ _ hT => hT); have q3 := Free.sx_cell hS p0 (fun _ _ hT => hT); have q4 := Free.sx_cell hS p1 (fun _ _ hT => hT); go_simp <;> exact rfl); go_frame) | (refine Free.cw_skip rfl ?_; go_frame)))
        refine Free.cw_nil ?_
        go_wp2
        go_roundw
        case rel => exact ⟨k + 1, rfl, by omega, hno2, Lib.hid (hkr.out.trans (Keeps.refl [] wr).drew)⟩
        case measure => simp [intOf]; omega
    · have hlt2 : ¬ ((k : Int) < x3) := by omega
      have hlt3 : decide ((k : Int) < (x3 : Int)) = false := by simp; omega
      have hall : ∀ j (hj : j < T.act.length), T.act[j].idp ≠ (i0, i1) := fun j hj => hno.out j hj (by have := e1.out; omega)
      replace hall := Lib.hid hall
      go_wp2
      go_ret
      have hkd := hkW.out.trans hkr.out
      exact ⟨by rw [show T.findI (i0, i1) = -1 from by unfold Tc.findI; rw [show T.find (i0, i1) = none from List.findIdx?_eq_none_iff.2 (fun t ht => by obtain ⟨j, hj, rfl⟩ := List.mem_iff_getElem.1 ht; simp [hall.out j hj])]]; rfl, hkd⟩

end Go.Proofs.YtpobepninifenaaGreat

namespace Go.Proofs.YtpobepninifenaaGreat
open Go.RowKit

theorem eqI0 (w : World) (x0 : Int) (x1 : Int) (x2 : Int) (y0 : Int) (y1 : Int) (y2 : Int) : (Op.equalIn 10000 tI (.agg #[.int .i64 x0, .int .u64 x1, .int .i64 x2]) (.agg #[.int .i64 y0, .int .u64 y1, .int .i64 y2])).run Tryz.prog w = .ok (x0 == y0 && x1 == y1 && x2 == y2) w := by
  have h1 : Tryz.prog.underlying tI = some (.struct (Tryz.prog.fieldsOf tI)) := by kernel_rfl
  have h2 : Tryz.prog.stoodInHeld tI = false := by kernel_rfl
  have h3 : (Tryz.prog.fieldsOf tI).toList.map (fun f => (f.name != "_", f.type, f.offset)) = [(true, 3, 0), (true, 34, 1), (true, 3, 2)] := by kernel_rfl
  obtain ⟨f0, f1, f2, hf⟩ : ∃ f0 f1 f2, (Tryz.prog.fieldsOf tI).toList = [f0, f1, f2] := by
    generalize (Tryz.prog.fieldsOf tI).toList = l at h3
    have hl := congrArg List.length h3
    simp only [List.length_map, List.length_cons, List.length_nil] at hl
    match l, hl with
    | [f0, f1, f2], _ => exact ⟨f0, f1, f2, rfl⟩
  rw [hf] at h3
  simp only [List.map_cons, List.map_nil, List.cons.injEq, Prod.mk.injEq, and_true, bne_iff_ne, ne_eq] at h3
  obtain ⟨⟨n0, t0, o0⟩, ⟨n1, t1, o1⟩, n2, t2, o2⟩ := h3
  rw [run_equalIn_agg w 9999 _ _ _ h1 h2, hf]
  have p0 : ∀ (x0 : Int) (x1 : Int) (x2 : Int) (w : World), (part 3 #[.int .i64 x0, .int .u64 x1, .int .i64 x2] 0).run Tryz.prog w = .ok (.int .i64 x0) w := fun x0 x1 x2 w => by kernel_rfl
  have p1 : ∀ (x0 : Int) (x1 : Int) (x2 : Int) (w : World), (part 34 #[.int .i64 x0, .int .u64 x1, .int .i64 x2] 1).run Tryz.prog w = .ok (.int .u64 x1) w := fun x0 x1 x2 w => by kernel_rfl
  have p2 : ∀ (x0 : Int) (x1 : Int) (x2 : Int) (w : World), (part 3 #[.int .i64 x0, .int .u64 x1, .int .i64 x2] 2).run Tryz.prog w = .ok (.int .i64 x2) w := fun x0 x1 x2 w => by kernel_rfl
  have e_int : ∀ (x y : Int) (w : World), (Op.equalIn 9999 3 (.int .i64 x) (.int .i64 y)).run Tryz.prog w = .ok (x == y) w := fun x y w => run_equalIn_int w 9998 _ _ _ x y Tryz.underlying3
  have e_u64 : ∀ (x y : Int) (w : World), (Op.equalIn 9999 34 (.int .u64 x) (.int .u64 y)).run Tryz.prog w = .ok (x == y) w := fun x y w => run_equalIn_int w 9998 _ _ _ x y Tryz.underlying34
  simp only [Op.eqFields, n0, t0, o0, n1, t1, o1, n2, t2, o2, ne_eq, not_false_eq_true, if_true, Sem.run_bind, p0, p1, p2, e_int, e_u64, Result.andThen]
  cases b0 : (x0 == y0)
  · simp [p0, p1, p2, e_int, e_u64, b0]
  · cases b1 : (x1 == y1)
    · simp [p0, p1, p2, e_int, e_u64, b0, b1]
    · cases b2 : (x2 == y2)
      · simp [p0, p1, p2, e_int, e_u64, b0, b1, b2]
      · simp [p0, p1, p2, e_int, e_u64, b0, b1, b2]
theorem neI (w : World) (x : T3) : (binOp .neq tI (tV x) (tV x)).run Tryz.prog w = .ok (.bool false) w := by
  obtain ⟨a, b, c⟩ := x
  rw [run_neq_struct, eqI0, Result.andThen_ok]
  simp
  try rfl
theorem Blk.two (w : World) (A B : Obj) : ((w.alloc A).alloc B).heap[w.heap.size]? = some A ∧ ((w.alloc A).alloc B).heap[w.heap.size + 1]? = some B ∧ Keeps [] w ((w.alloc A).alloc B) := by
  have h2 := heap_alloc_new (w.alloc A) B
  rw [show (w.alloc A).heap.size = w.heap.size + 1 by simp] at h2
  exact ⟨(((Keeps.refl [] (w.alloc A)).alloc B).block _ (by simp) (by simp)).trans (heap_alloc_new w A), h2, ((Keeps.refl _ _).alloc _).alloc _⟩
set_option maxRecDepth 100000 in
set_option maxHeartbeats 4000000 in
theorem sameAnswer_c (w : World) (x y : AnV) (a : Ans) (hx : InR w x a) (hy : InR w y a) :
    Calls Tryz.prog 93 #[aV x, aV y] w fun e w' => e = .returned (.bool true) ∧ Keeps [] w w' := by
  obtain ⟨x0, x1, x2, x3, x4, x5, x6, x8, x9, x10⟩ := x
  obtain ⟨y0, y1, y2, y3, y4, y5, y6, y8, y9, y10⟩ := y
  obtain ⟨i1, i2, i3, i4, i5, i6, i7, hI⟩ := hx
  obtain ⟨j1, j2, j3, j4, j5, j6, j7, hJ⟩ := hy
  simp only [AnV.v] at i1 i2 i3 i4 i5 i6 i7 hI j1 j2 j3 j4 j5 j6 j7 hJ
  subst i1 i2 i3 i4 i5 i6 i7 j1 j2 j3 j4 j5 j6 j7
  obtain ⟨ax, cx, hvx, hlx, hcx, _⟩ := hI.form
  obtain ⟨ay, cy, hvy, hly, hcy, _⟩ := hJ.form
  have hel1 := fun k hk => hI.elem (k := k) hk
  have hel2 := fun k hk => hJ.elem (k := k) hk
  obtain ⟨M, hM⟩ : ∃ n, a.ins.length = n := ⟨_, rfl⟩
  rw [hM] at hvx hvy hlx hly
  obtain ⟨rfl, rfl, rfl⟩ : x8 = ax ∧ x9 = M ∧ x10 = cx := by simpa using hvx
  obtain ⟨rfl, rfl, rfl⟩ : y8 = ay ∧ y9 = x9 ∧ y10 = cy := by simpa using hvy
  have hMm : y9 ≤ 9223372036854775807 := by unfold maxLen at hcx; omega
  obtain ⟨hb0, hb1, hkA⟩ := Blk.two w (.cells #[.int .i64 a.m, .int .i64 a.ow, .int .u64 a.n, .int .i64 a.ep, .bool a.kn, .bool a.rt, .int .i64 a.lu, .slice x8 y9 x10] tA) (.cells #[.int .i64 a.m, .int .i64 a.ow, .int .u64 a.n, .int .i64 a.ep, .bool a.kn, .bool a.rt, .int .i64 a.lu, .slice y8 y9 y10] tA)
  obtain ⟨W, hW⟩ : ∃ W, ((w.alloc (.cells #[.int .i64 a.m, .int .i64 a.ow, .int .u64 a.n, .int .i64 a.ep, .bool a.kn, .bool a.rt, .int .i64 a.lu, .slice x8 y9 x10] tA)).alloc (.cells #[.int .i64 a.m, .int .i64 a.ow, .int .u64 a.n, .int .i64 a.ep, .bool a.kn, .bool a.rt, .int .i64 a.lu, .slice y8 y9 y10] tA)) = W := ⟨_, rfl⟩
  rw [hW] at hb0 hb1 hkA
  obtain ⟨z0, z1, z2, z3, z4, z5, z6, z7, zf, zl⟩ := cells8f hb0
  obtain ⟨k0, k1, k2, k3, k4, k5, k6, k7, kf, kl⟩ := cells8f hb1
  have n0 : ∀ z : Int, (z != z) = false := fun z => by simp
  have n1 : ∀ z : Bool, (z != z) = false := fun z => by simp
  have hq := neI
  simp only [tV] at hq
  replace hb0 := Lib.hid hb0
  replace hb1 := Lib.hid hb1
  replace hkA := Lib.hid hkA
  replace hM := Lib.hid hM
  replace hel1 := Lib.hid hel1
  replace hel2 := Lib.hid hel2
  replace hW := Lib.hid hW
  clear hI hJ hvx hvy hcx hcy
  simp only [aV, AnV.v]
  go_enter Tryz.func93, Tryz.ntmps93
  go_wp2
  rw [hW.out]
  go_loopw [5] (fun i wr => ∃ k : Nat, i = .int .i64 k ∧ k ≤ y9 ∧ Hid (Keeps [] W wr)) (fun i _ => y9 - (intOf i).toNat)
  case atStart => exact ⟨0, rfl, by omega, Lib.hid (Keeps.refl _ _)⟩
  case round =>
    obtain ⟨k, rfl, hk, hkr⟩ := hrel
    have hkw := hkA.out.trans hkr.out
    have hr0 := (hkr.out.block _ (lt_of_blk hb0.out) (by simp)).trans hb0.out
    have hr1 := (hkr.out.block _ (lt_of_blk hb1.out) (by simp)).trans hb1.out
    clear z0 z1 z2 z3 z4 z5 z6 z7 zf zl k0 k1 k2 k3 k4 k5 k6 k7 kf kl
    obtain ⟨z0, z1, z2, z3, z4, z5, z6, z7, zf, zl⟩ := cells8f hr0
    obtain ⟨k0, k1, k2, k3, k4, k5, k6, k7, kf, kl⟩ := cells8f hr1
    clear hr0 hr1
    by_cases hlt : k < y9
    · have hlt2 : (k : Int) < y9 := by omega
      obtain ⟨g, o, c', hv, he⟩ := hel1.out k (by rw [hM.out]; exact hlt)
      obtain ⟨g2, o2, c2', hv2, he2⟩ := hel2.out k (by rw [hM.out]; exact hlt)
      rw [hM.out] at hv hv2
      cases hv
      cases hv2
      obtain ⟨⟨p0, p1, p2⟩, hp⟩ : ∃ p, a.ins[k]'(by rw [hM.out]; exact hlt) = p := ⟨_, rfl⟩
      rw [hp] at he he2
      have e0 := hkw.val (he 0 _ rfl)
      have e1 := hkw.val (he 1 _ rfl)
      have e2 := hkw.val (he 2 _ rfl)
      have d0 := hkw.val (he2 0 _ rfl)
      have d1 := hkw.val (he2 1 _ rfl)
      have d2 := hkw.val (he2 2 _ rfl)
      simp only [shT, Nat.add_zero] at e0 e1 e2 d0 d1 d2
      have hq2 := fun w => hq w (p0, p1, p2)
      simp only at hq2
      replace hp := Lib.hid hp
      clear he he2
      go_wp2
      (refine wp_region_quiet_lit (by kernel_rfl) (by kernel_rfl) ?_; (repeat (first | go_big_quiet_step (fail) | quiet_step (fail))); with_reducible refine wpQuiet_nil ?_; intro _ hw'; obtain ⟨nq, hw''⟩ := hw'; subst hw'')
      go_wp2
      go_roundw
      case rel => exact ⟨k + 1, rfl, by omega, Lib.hid (hkr.out.drewN _)⟩
      case measure => simp [intOf]; omega
    · have hlt2 : ¬ ((k : Int) < y9) := by omega
      replace hkw := Lib.hid hkw
      go_wp2
      go_ret
      exact ⟨rfl, hkw.out⟩
end Go.Proofs.YtpobepninifenaaGreat

namespace Go.Proofs.YtpobepninifenaaGreat
open Go Go.RowKit

set_option maxRecDepth 100000 in
set_option maxHeartbeats 2000000 in
theorem sameIDs_c (w : World) (v1 v2 : Value) (L1 L2 : List Idp) (h1 : shId.R w v1 L1) (h2 : shId.R w v2 L2) :
    Calls Tryz.prog 23 #[v1, v2] w fun e w' => e = .returned (.bool (decide (L1 = L2))) ∧ Keeps [] w w' := by
  obtain ⟨a1, c1, rfl, hlc1, hcm1, _⟩ := h1.form
  obtain ⟨a2, c2, rfl, hlc2, hcm2, _⟩ := h2.form
  have hel1 := fun k hk => h1.elem (k := k) hk
  have hel2 := fun k hk => h2.elem (k := k) hk
  obtain ⟨M1, hM1⟩ : ∃ N, L1.length = N := ⟨_, rfl⟩
  obtain ⟨M2, hM2⟩ : ∃ N, L2.length = N := ⟨_, rfl⟩
  rw [hM1] at hlc1 ⊢
  rw [hM2] at hlc2 ⊢
  have hMm : M1 ≤ 9223372036854775807 := by unfold maxLen at hcm1; omega
  replace hel1 := Lib.hid hel1
  replace hel2 := Lib.hid hel2
  replace hM1 := Lib.hid hM1
  replace hM2 := Lib.hid hM2
  clear h1 h2 hcm1 hcm2
  obtain ⟨rb, hrb⟩ : ∃ b, decide (L1 = L2) = b := ⟨_, rfl⟩
  rw [hrb]
  replace hrb := Lib.hid hrb
  by_cases hne : M1 = M2
  · subst hne
    go_enter Tryz.func23, Tryz.ntmps23
    go_wp2
    go_loopw [5] (fun i wr => ∃ k : Nat, i = .int .i64 k ∧ k ≤ M1 ∧ Hid (∀ j (h1 : j < L1.length) (h2 : j < L2.length), j < k → L1[j] = L2[j]) ∧ Hid (Keeps [] w wr)) (fun i _ => M1 - (intOf i).toNat)
    case atStart => exact ⟨0, rfl, by omega, Lib.hid (fun _ _ _ h => by omega), Lib.hid (Keeps.refl _ _)⟩
    case round =>
      obtain ⟨k, rfl, hk, hno, hkw⟩ := hrel
      by_cases hlt : k < M1
      · have hk1 : k < L1.length := by rw [hM1.out]; exact hlt
        have hk2 : k < L2.length := by rw [hM2.out]; exact hlt
        obtain ⟨g, o, c', hv, he⟩ := hel1.out k hk1
        obtain ⟨g2, o2, c2', hv2, he2⟩ := hel2.out k hk2
        rw [hM1.out] at hv
        rw [hM2.out] at hv2
        cases hv
        cases hv2
        obtain ⟨⟨x0, x1⟩, hx⟩ : ∃ x, L1[k] = x := ⟨_, rfl⟩
        obtain ⟨⟨y0, y1⟩, hy⟩ : ∃ x, L2[k] = x := ⟨_, rfl⟩
        rw [hx] at he
        rw [hy] at he2
        have e0 := hkw.out.val (he 0 _ rfl)
        have e1 := hkw.out.val (he 1 _ rfl)
        have d0 := hkw.out.val (he2 0 _ rfl)
        have d1 := hkw.out.val (he2 1 _ rfl)
        simp only [shId, Nat.add_zero] at e0 e1 d0 d1
        have hq := fun w => neId w (x0, x1) (y0, y1)
        simp only [ipV] at hq
        replace hx := Lib.hid hx
        replace hy := Lib.hid hy
        clear he he2
        by_cases h1 : (x0, x1) = (y0, y1)
        · rw [decide_eq_false (fun h => h h1)] at hq
          replace h1 := Lib.hid h1
          go_wp2
          (refine wp_region_quiet_lit (by kernel_rfl) (by kernel_rfl) ?_; (repeat (first | go_big_quiet_step (fail) | quiet_step (fail))); with_reducible refine wpQuiet_nil ?_; intro _ hw'; obtain ⟨nq, hw''⟩ := hw'; subst hw'')
          go_wp2
          go_roundw
          case rel => exact ⟨k + 1, rfl, by omega, Lib.hid (fun j hj1 hj2 hjk => by
              by_cases e : j = k
              · subst e; rw [hx.out, hy.out]; exact h1.out
              · exact hno.out j hj1 hj2 (by omega)), Lib.hid (hkw.out.drewN _)⟩
          case measure => simp [intOf]; omega
        · rw [decide_eq_true h1] at hq
          have hr : decide (L1 = L2) = false := decide_eq_false (fun e => h1 (by rw [← hx.out, ← hy.out]; simp only [e]))
          rw [hrb.out] at hr
          replace hr := Lib.hid hr
          replace h1 := Lib.hid h1
          go_wp2
          (refine wp_region_quiet_lit (by kernel_rfl) (by kernel_rfl) ?_; (repeat (first | go_big_quiet_step (fail) | quiet_step (fail))); with_reducible refine wpQuiet_nil ?_; intro _ hw'; obtain ⟨nq, hw''⟩ := hw'; subst hw'')
          go_wp2
          go_ret
          exact ⟨by rw [hr.out]; rfl, hkw.out.drewN _⟩
      · have hr : decide (L1 = L2) = true := decide_eq_true (List.ext_getElem (by rw [hM1.out, hM2.out]) (fun j h1 h2 => hno.out j h1 h2 (by rw [hM1.out] at h1; omega)))
        rw [hrb.out] at hr
        replace hr := Lib.hid hr
        go_wp2
        go_ret
        exact ⟨by rw [hr.out]; rfl, hkw.out⟩
  · have hne1 : ((M1 : Int) != M2) = true := by simp; omega
    have hr : decide (L1 = L2) = false := decide_eq_false (fun e => hne (by rw [← hM1.out, ← hM2.out, e]))
    rw [hrb.out] at hr
    replace hr := Lib.hid hr
    go_enter Tryz.func23, Tryz.ntmps23
    go_wp2
    go_ret
    exact ⟨by rw [hr.out]; rfl, Keeps.refl _ _⟩
set_option maxRecDepth 100000 in
set_option maxHeartbeats 8000000 in
theorem sameCert_c (w : World) (x y : CtV) (c : Ct) (hx : CtW w x c) (hy : CtW w y c) :
    Calls Tryz.prog 54 #[ctV x, ctV y] w fun e w' => e = .returned (.bool true) ∧ Keeps [] w w' := by
  have han := hx.an
  have hbn := hy.an
  have hcl := fun W (hk : Keeps [] w W) => sameClaims_c W _ _ c.cl c.cl (hx.cl.keeps hk) (hy.cl.keeps hk)
  simp only [decide_true] at hcl
  obtain ⟨X, hX, hXL⟩ := han
  obtain ⟨Y, hY, hYL⟩ := hbn
  have f0 := hx.im.trans hy.im.symm
  have f1 := hx.is.trans hy.is.symm
  have f2 := hx.s0.trans hy.s0.symm
  have f3 := hx.s1.trans hy.s1.symm
  have f4 := hx.s2.trans hy.s2.symm
  obtain ⟨x0, x1, x2, x3, x4, ⟨x5, x6, x7⟩, ⟨x8, x9, x10⟩⟩ := x
  obtain ⟨y0, y1, y2, y3, y4, ⟨y5, y6, y7⟩, ⟨y8, y9, y10⟩⟩ := y
  simp only at f0 f1 f2 f3 f4
  subst f0 f1 f2 f3 f4
  simp only [slv] at hX hY hcl
  obtain ⟨N, hN⟩ : ∃ n, c.an.length = n := ⟨_, rfl⟩
  have e6 : x6 = N := by
    obtain ⟨_, _, e, _, _⟩ := hX.form
    simp only [Value.slice.injEq] at e
    rw [← hN, ← hXL.1]; exact e.2.1
  have g6 : y6 = N := by
    obtain ⟨_, _, e, _, _⟩ := hY.form
    simp only [Value.slice.injEq] at e
    rw [← hN, ← hYL.1]; exact e.2.1
  subst e6
  have g7 := g6.symm
  clear g6
  subst g7
  have hNm : x6 ≤ 9223372036854775807 := by
    obtain ⟨_, _, e, h1, h2, _⟩ := hX.form
    rw [hXL.1, hN] at h1
    unfold maxLen at h2; omega
  obtain ⟨hb1, hb2, hkW, hzW⟩ := blks2 w (.cells #[.int .i64 x0, .int .i64 x1, .int .i64 x2, .int .u64 x3, .int .i64 x4, .slice x5 x6 x7, .slice x8 x9 x10] tCt) (.cells #[.int .i64 x0, .int .i64 x1, .int .i64 x2, .int .u64 x3, .int .i64 x4, .slice y5 x6 y7, .slice y8 y9 y10] tCt)
  have hq1 := fun w => neId w (x0, x1) (x0, x1)
  have hq2 := fun w => neN w (x2, x3, x4) (x2, x3, x4)
  simp only [ne_eq, not_true, decide_false, ipV, tV] at hq1 hq2
  replace hX := Lib.hid hX
  replace hY := Lib.hid hY
  replace hXL := Lib.hid hXL
  replace hYL := Lib.hid hYL
  replace hcl := Lib.hid hcl
  replace hN := Lib.hid hN
  replace hb1 := Lib.hid hb1
  replace hb2 := Lib.hid hb2
  replace hkW := Lib.hid hkW
  clear hx hy
  simp only [ctV, slv]
  go_enter Tryz.func54, Tryz.ntmps54
  go_upto_region 1 with fail
  generalize ((w.alloc (.cells #[.int .i64 x0, .int .i64 x1, .int .i64 x2, .int .u64 x3, .int .i64 x4, .slice x5 x6 x7, .slice x8 x9 x10] tCt)).alloc (.cells #[.int .i64 x0, .int .i64 x1, .int .i64 x2, .int .u64 x3, .int .i64 x4, .slice y5 x6 y7, .slice y8 y9 y10] tCt)) = W at *
  obtain ⟨B, hB⟩ : ∃ B, w.heap.size = B := ⟨_, rfl⟩
  rw [hB] at hb1 hb2 hzW ⊢
  replace hB := Lib.hid hB
  obtain ⟨z0, z1, z2, z3, z4, z5, z6, zf, zl⟩ := cl7 hb1.out
  obtain ⟨u0, u1, u2, u3, u4, u5, u6, uf, ul⟩ := cl7 hb2.out
  go_wp2
  clear z0 z1 z2 z3 z4 z5 z6 zf zl u0 u1 u2 u3 u4 u5 u6 uf ul hq1 hq2
  go_loopw [5] (fun i wr => ∃ k : Nat, i = .int .i64 k ∧ k ≤ x6 ∧ Hid (Keeps [] W wr)) (fun i _ => x6 - (intOf i).toNat)
  case atStart => exact ⟨0, rfl, by omega, Lib.hid (Keeps.refl _ _)⟩
  case round =>
    obtain ⟨k, rfl, hk, hkr⟩ := hrel
    obtain ⟨z0, z1, z2, z3, z4, z5, z6, zf, zl⟩ := cl7 ((hkr.out.block _ (lt_of_blk hb1.out) (by simp)).trans hb1.out)
    obtain ⟨u0, u1, u2, u3, u4, u5, u6, uf, ul⟩ := cl7 ((hkr.out.block _ (lt_of_blk hb2.out) (by simp)).trans hb2.out)
    have hkw := hkW.out.trans hkr.out
    by_cases hlt : k < x6
    · have hlt2 : (k : Int) < x6 := by omega
      have hkX : k < X.length := by rw [hXL.out.1, hN.out]; exact hlt
      have hkY : k < Y.length := by rw [hYL.out.1, hN.out]; exact hlt
      have hkc : k < c.an.length := by rw [hN.out]; exact hlt
      obtain ⟨g, o, c', hv, he⟩ := (hX.out.keeps hkw).elem hkX
      obtain ⟨g2, o2, c2', hv2, he2⟩ := (hY.out.keeps hkw).elem hkY
      rw [hXL.out.1, hN.out] at hv
      rw [hYL.out.1, hN.out] at hv2
      cases hv
      cases hv2
      have ra := (hXL.out.2 k _ _ (List.getElem?_eq_getElem hkX) (List.getElem?_eq_getElem hkc)).keeps hkw
      have rb := (hYL.out.2 k _ _ (List.getElem?_eq_getElem hkY) (List.getElem?_eq_getElem hkc)).keeps hkw
      obtain ⟨⟨p0, p1, p2, p3, p4, p5, p6, p7, p8, p9⟩, hp⟩ : ∃ q, X[k] = q := ⟨_, rfl⟩
      obtain ⟨⟨s0, s1, s2, s3, s4, s5, s6, s7, s8, s9⟩, hs⟩ : ∃ q, Y[k] = q := ⟨_, rfl⟩
      rw [hp] at he ra
      rw [hs] at he2 rb
      have e0 := he 0 _ rfl
      have d0 := he2 0 _ rfl
      have e1 := he 1 _ rfl
      have d1 := he2 1 _ rfl
      have e2 := he 2 _ rfl
      have d2 := he2 2 _ rfl
      have e3 := he 3 _ rfl
      have d3 := he2 3 _ rfl
      have e4 := he 4 _ rfl
      have d4 := he2 4 _ rfl
      have e5 := he 5 _ rfl
      have d5 := he2 5 _ rfl
      have e6 := he 6 _ rfl
      have d6 := he2 6 _ rfl
      have e7 := he 7 _ rfl
      have d7 := he2 7 _ rfl
      simp only [shA, AnV.cs, AnV.v, Nat.add_zero] at e0 e1 e2 e3 e4 e5 e6 e7 d0 d1 d2 d3 d4 d5 d6 d7
      have hsa := fun W' (hk : Keeps [] wr W') => sameAnswer_c W' _ _ _ (ra.keeps hk) (rb.keeps hk)
      simp only [aV, AnV.v] at hsa
      replace hsa := Lib.hid hsa
      replace hkw := Lib.hid hkw
      clear he he2 ra rb hp hs
      go_upto_region 6 with fail
      refine Free.wp_region_chain (fun i => i == 10) (fun i => true) (fun _ _ => False) (by kernel_rfl) (by kernel_rfl) (by kernel_rfl) ?_
      (repeat (first | (apply Free.cw_pure rfl rfl; (intro w'; go_simp <;> exact rfl); go_frame) | (apply Free.cw_steady rfl rfl rfl; (intro w' hS; have q0 := Free.sx_cell hS z5 (fun _ _ hT => hT); have q1 := Free.sx_cell hS u5 (fun _ _ hT => hT); have q2 := Free.sx_cell hS e0 (fun _ _ hT => hT); have q3 := Free.sx_cell hS d0 (fun _ _ hT => hT); have q4 := Free.sx_cell hS e1 (fun _ _ hT => hT); have q5 := Free.sx_cell hS d1 (fun _ _ hT => hT); have q6 := Free.sx_cell hS e2 (fun _ _ hT => hT); have q7 := Free.sx_cell hS d2 (fun _ _ hT => hT); have q8 := Free.sx_cell hS e3 (fun _ _ hT => hT); have q9 := Free.sx_cell hS d3 (fun _ _ hT => hT); have q10 := Free.sx_cell hS e4 (fun _ _ hT => hT); have q11 := Free.sx_cell hS d4 (fun _ _ hT => hT); have q12 := Free.sx_cell hS e5 (fun _ _ hT => hT); have q13 := Free.sx_cell hS d5 (fun _ _ hT => hT); have q14 := Free.sx_cell hS e6 (fun _ _ hT => hT); have q15 := Free.sx_cell hS d6 (fun _ _ hT => hT); have q16 := Free.sx_cell hS e7 (fun _ _ hT => hT); have q17 := Free.sx_cell hS d7 (fun _ _ hT => hT); go_simp <;> exact rfl); go_frame) | (refine Free.cw_skip rfl ?_; go_frame)))
      refine Free.cw_loud rfl rfl (fun K hK => ?_)
      go_wp2_with fail
      refine (hsa.out wr.drew (Keeps.refl [] wr).drew).mono ?_
      rintro e w5 ⟨rfl, hk5⟩
      refine hK _ _ rfl (Free.KeepsP.of hk5 (by simp)) ?_
      clear hK K
      have hkr5 := Lib.hid (hkr.out.trans ((Keeps.refl [] wr).drew.trans hk5))
      clear hk5
      (repeat (apply Free.cw_pure rfl rfl; (intro w'; go_simp <;> exact rfl); go_frame))
      refine Free.cw_nil ?_
      clear z0 z1 z2 z3 z4 z5 z6 zf zl u0 u1 u2 u3 u4 u5 u6 uf ul e0 e1 e2 e3 e4 e5 e6 e7 d0 d1 d2 d3 d4 d5 d6 d7
      go_wp2
      go_roundw
      case rel => exact ⟨k + 1, rfl, by omega, hkr5⟩
      case measure => simp [intOf]; omega
    · have hlt2 : ¬ ((k : Int) < x6) := by omega
      have hlt3 : decide ((k : Int) < (x6 : Int)) = false := by simp; omega
      go_wp2_with fail
      refine (hcl.out wr hkw).mono ?_
      rintro e w5 ⟨rfl, hk5⟩
      go_wp2
      go_ret
      exact ⟨rfl, hkw.trans hk5⟩
end Go.Proofs.YtpobepninifenaaGreat

namespace Go.Proofs.YtpobepninifenaaGreat
open Go Go.RowKit

def LCw (w : World) (X : List CtV) (C : List Ct) : Prop := X.length = C.length ∧ ∀ (k : Nat) (x : CtV) (c : Ct), X[k]? = some x → C[k]? = some c → CtW w x c
theorem LCs.cw {w : World} {S : Nat} {X : List CtV} {C : List Ct} (h : LCs w S X C) : LCw w X C := ⟨h.1, fun k x c h1 h2 => (h.2 k x c h1 h2).1.w⟩
set_option maxRecDepth 100000 in
set_option maxHeartbeats 8000000 in
theorem sameCerts_c (w : World) (v1 v2 : Value) (X Y : List CtV) (C : List Ct) (h1 : shCt.R w v1 X) (h2 : shCt.R w v2 Y) (hX : LCw w X C) (hY : LCw w Y C) :
    Calls Tryz.prog 24 #[v1, v2] w fun e w' => e = .returned (.bool true) ∧ Keeps [] w w' := by
  obtain ⟨a1, c1, rfl, hlc1, hcm1, _⟩ := h1.form
  obtain ⟨a2, c2, rfl, _, _, _⟩ := h2.form
  obtain ⟨N, hN⟩ : ∃ n, X.length = n := ⟨_, rfl⟩
  have hYN : Y.length = N := by rw [hY.1, ← hX.1]; exact hN
  have hCN : C.length = N := by rw [← hX.1]; exact hN
  rw [hN] at hlc1 ⊢
  rw [hYN]
  have hNm : N ≤ 9223372036854775807 := by unfold maxLen at hcm1; omega
  replace h1 := Lib.hid h1
  replace h2 := Lib.hid h2
  replace hX := Lib.hid hX
  replace hY := Lib.hid hY
  replace hN := Lib.hid hN
  replace hYN := Lib.hid hYN
  replace hCN := Lib.hid hCN
  clear hcm1
  go_enter Tryz.func24, Tryz.ntmps24
  go_wp2
  go_loopw [5] (fun i wr => ∃ k : Nat, i = .int .i64 k ∧ k ≤ N ∧ Hid (Keeps [] w wr)) (fun i _ => N - (intOf i).toNat)
  case atStart => exact ⟨0, rfl, by omega, Lib.hid (Keeps.refl _ _)⟩
  case round =>
    obtain ⟨k, rfl, hk, hkr⟩ := hrel
    by_cases hlt : k < N
    · have hlt2 : (k : Int) < N := by omega
      have hkX : k < X.length := by rw [hN.out]; exact hlt
      have hkY : k < Y.length := by rw [hYN.out]; exact hlt
      have hkc : k < C.length := by rw [hCN.out]; exact hlt
      obtain ⟨g, o, c', hv, he⟩ := (h1.out.keeps hkr.out).elem hkX
      obtain ⟨g2, o2, c2', hv2, he2⟩ := (h2.out.keeps hkr.out).elem hkY
      rw [hN.out] at hv
      rw [hYN.out] at hv2
      cases hv
      cases hv2
      have ra := (hX.out.2 k _ _ (List.getElem?_eq_getElem hkX) (List.getElem?_eq_getElem hkc)).keeps hkr.out
      have rb := (hY.out.2 k _ _ (List.getElem?_eq_getElem hkY) (List.getElem?_eq_getElem hkc)).keeps hkr.out
      obtain ⟨⟨p0, p1, p2, p3, p4, ⟨p5, p6, p7⟩, ⟨p8, p9, p10⟩⟩, hp⟩ : ∃ q, X[k] = q := ⟨_, rfl⟩
      obtain ⟨⟨s0, s1, s2, s3, s4, ⟨s5, s6, s7⟩, ⟨s8, s9, s10⟩⟩, hs⟩ : ∃ q, Y[k] = q := ⟨_, rfl⟩
      rw [hp] at he ra
      rw [hs] at he2 rb
      have e0 := he 0 _ rfl
      have d0 := he2 0 _ rfl
      have e1 := he 1 _ rfl
      have d1 := he2 1 _ rfl
      have e2 := he 2 _ rfl
      have d2 := he2 2 _ rfl
      have e3 := he 3 _ rfl
      have d3 := he2 3 _ rfl
      have e4 := he 4 _ rfl
      have d4 := he2 4 _ rfl
      have e5 := he 5 _ rfl
      have d5 := he2 5 _ rfl
      have e6 := he 6 _ rfl
      have d6 := he2 6 _ rfl
      simp only [shCt, CtV.cs, slv, Nat.add_zero] at e0 e1 e2 e3 e4 e5 e6 d0 d1 d2 d3 d4 d5 d6
      have hsa := fun W' (hk : Keeps [] wr W') => sameCert_c W' _ _ _ (ra.keeps hk) (rb.keeps hk)
      simp only [ctV, slv] at hsa
      replace hsa := Lib.hid hsa
      clear he he2 ra rb hp hs
      go_upto_region 6 with fail
      refine Free.wp_region_chain (fun i => i == 8) (fun i => true) (fun _ _ => False) (by kernel_rfl) (by kernel_rfl) (by kernel_rfl) ?_
      (repeat (first | (apply Free.cw_pure rfl rfl; (intro w'; go_simp <;> exact rfl); go_frame) | (apply Free.cw_steady rfl rfl rfl; (intro w' hS; have q0 := Free.sx_cell hS e0 (fun _ _ hT => hT); have q1 := Free.sx_cell hS d0 (fun _ _ hT => hT); have q2 := Free.sx_cell hS e1 (fun _ _ hT => hT); have q3 := Free.sx_cell hS d1 (fun _ _ hT => hT); have q4 := Free.sx_cell hS e2 (fun _ _ hT => hT); have q5 := Free.sx_cell hS d2 (fun _ _ hT => hT); have q6 := Free.sx_cell hS e3 (fun _ _ hT => hT); have q7 := Free.sx_cell hS d3 (fun _ _ hT => hT); have q8 := Free.sx_cell hS e4 (fun _ _ hT => hT); have q9 := Free.sx_cell hS d4 (fun _ _ hT => hT); have q10 := Free.sx_cell hS e5 (fun _ _ hT => hT); have q11 := Free.sx_cell hS d5 (fun _ _ hT => hT); have q12 := Free.sx_cell hS e6 (fun _ _ hT => hT); have q13 := Free.sx_cell hS d6 (fun _ _ hT => hT); go_simp <;> exact rfl); go_frame) | (refine Free.cw_skip rfl ?_; go_frame)))
      refine Free.cw_loud rfl rfl (fun K hK => ?_)
      go_wp2_with fail
      refine (hsa.out wr.drew (Keeps.refl [] wr).drew).mono ?_
      rintro e w5 ⟨rfl, hk5⟩
      refine hK _ _ rfl (Free.KeepsP.of hk5 (by simp)) ?_
      clear hK K
      have hkr5 := Lib.hid (hkr.out.trans ((Keeps.refl [] wr).drew.trans hk5))
      clear hk5
      (repeat (apply Free.cw_pure rfl rfl; (intro w'; go_simp <;> exact rfl); go_frame))
      refine Free.cw_nil ?_
      clear e0 e1 e2 e3 e4 e5 e6 d0 d1 d2 d3 d4 d5 d6
      go_wp2
      go_roundw
      case rel => exact ⟨k + 1, rfl, by omega, hkr5⟩
      case measure => simp [intOf]; omega
    · have hlt2 : ¬ ((k : Int) < N) := by omega
      have hlt3 : decide ((k : Int) < (N : Int)) = false := by simp; omega
      go_wp2
      go_ret
      exact ⟨rfl, hkr.out⟩
set_option maxRecDepth 100000 in
set_option maxHeartbeats 8000000 in
theorem rids_c (O : List Nat) (w : World) (x : RtV) (T : Tc) (h : RtR O w x T) (hN : T.act.length ≤ 100000) :
    Calls Tryz.prog 42 #[rtV x] w fun e w' => ∃ v, e = .returned v ∧ shId.O w' w.heap.size tId v (T.act.map Tr.idp) ∧ Keeps [] w w' := by
  obtain ⟨X, hX, _, hXl, hXr⟩ := h.ac
  obtain ⟨x0, x1, ⟨x2, x3, x4⟩, ⟨x5, x6, x7⟩⟩ := x
  simp only [slv] at hX
  have e1 : x3 = T.act.length := by
    obtain ⟨_, _, e1, _, _⟩ := hX.form
    simp only [Value.slice.injEq] at e1
    rw [← hXl]; exact e1.2.1
  have hkW := (Keeps.refl [] w).alloc (.cells #[.int .i64 x0, .int .i64 x1, .slice x2 x3 x4, .slice x5 x6 x7] tRc)
  have hb1 := heap_alloc_new w (.cells #[.int .i64 x0, .int .i64 x1, .slice x2 x3 x4, .slice x5 x6 x7] tRc)
  replace hX := Lib.hid hX
  replace hXl := Lib.hid hXl
  replace hXr := Lib.hid hXr
  replace hb1 := Lib.hid hb1
  replace hkW := Lib.hid hkW
  have hNm : x3 ≤ 100000 := by omega
  replace e1 := Lib.hid e1
  clear h hN
  simp only [rtV, slv]
  go_enter Tryz.func42, Tryz.ntmps42
  go_upto_region 1 with fail
  generalize (w.alloc (.cells #[.int .i64 x0, .int .i64 x1, .slice x2 x3 x4, .slice x5 x6 x7] tRc)) = W at *
  obtain ⟨B, hB⟩ : ∃ B, w.heap.size = B := ⟨_, rfl⟩
  have hOn := Sh.O.fresh shId W w.heap.size tId hkW.out.size
  have hkn := hkW.out.alloc (.cells #[] tId)
  have hb1n := (((Keeps.refl [] W).alloc (.cells #[] tId)).block _ (lt_of_blk hb1.out) (by simp)).trans hb1.out
  rw [hB] at hb1 hOn hb1n ⊢
  have hBs : B ≤ W.heap.size := by rw [← hB]; exact hkW.out.size
  replace hOn := Lib.hid hOn
  replace hkn := Lib.hid hkn
  replace hb1n := Lib.hid hb1n
  go_wp2
  go_loopw [3, 4] (fun ov i wr => ∃ k : Nat, i = .int .i64 k ∧ k ≤ x3 ∧ Hid (shId.O wr B tId ov ((T.act.take k).map Tr.idp)) ∧ Hid (wr.heap[B]? = some (.cells #[.int .i64 x0, .int .i64 x1, .slice x2 x3 x4, .slice x5 x6 x7] tRc (0, 0))) ∧ Hid (Keeps [] w wr)) (fun _ i _ => x3 - (intOf i).toNat)
  case atStart => exact ⟨0, rfl, by omega, hOn, hb1n, hkn⟩
  case round =>
    obtain ⟨k, rfl, hk, hO, hbr, hkw⟩ := hrel
    clear hOn hkn hb1n
    obtain ⟨oa, oc, rfl⟩ := hO.out.form
    have hLk : ((T.act.take k).map Tr.idp).length = k := by rw [List.length_map, List.length_take, ← e1.out]; omega
    rw [hLk] at hO ⊢
    replace hLk := Lib.hid hLk
    obtain ⟨z0, z1, z2, z3, zf, zl⟩ := cl4 hbr.out
    by_cases hlt : k < x3
    · have hlt2 : (k : Int) < x3 := by omega
      have hka : k < T.act.length := by rw [← e1.out]; exact hlt
      have hkX : k < X.length := by rw [hXl.out]; exact hka
      obtain ⟨g, o, c', hv, he⟩ := (hX.out.keeps hkw.out).elem hkX
      rw [hXl.out, ← e1.out] at hv
      cases hv
      obtain ⟨hr, _⟩ := hXr.out k _ _ (List.getElem?_eq_getElem hkX) (List.getElem?_eq_getElem hka)
      have e2 := he 0 _ rfl
      have e3 := he 1 _ rfl
      have hst : (T.act.take (k + 1)).map Tr.idp = (T.act.take k).map Tr.idp ++ [T.act[k].idp] := by rw [List.take_succ_eq_append_getElem hka, List.map_append]; rfl
      obtain ⟨u, hu⟩ : ∃ u, T.act[k] = u := ⟨_, rfl⟩
      rw [hu] at hr hst
      obtain ⟨⟨y0, y1, y2, y3, y4, y5, ⟨y6, y7, y8⟩, ⟨y9, y10, y11⟩, y12, ⟨y13, y14, y15⟩, y16, ⟨y17, y18, y19⟩⟩, hy⟩ : ∃ q, X[k] = q := ⟨_, rfl⟩
      rw [hy] at hr e2 e3
      simp only [shRf, RfV.cs, Nat.add_zero] at e2 e3
      have hkey : u.idp = (y0, y1) := by have h1 := hr.im; have h2 := hr.is; simp only at h1 h2; rw [h1, h2]
      rw [hkey] at hst
      have hmade := Lib.hid (Sh.R.made shId wr [(y0, y1)] #[.int .i64 y0, .int .i64 y1] tId rfl (by simp [maxLen]) 1 rfl)
      have hkr1 := (Keeps.refl [] wr).alloc (.cells #[.int .i64 y0, .int .i64 y1] tId)
      have hO1 := Lib.hid (hO.out.keeps hkr1)
      have hb9 := Lib.hid ((hkr1.block _ (lt_of_blk hbr.out) (by simp)).trans hbr.out)
      have hk9 := Lib.hid (hkw.out.trans hkr1)
      replace hst := Lib.hid hst
      have hsz : B ≤ (wr.alloc (.cells #[.int .i64 y0, .int .i64 y1] tId)).heap.size := Nat.le_of_lt (lt_of_blk hb9.out)
      clear he hr hy hu hkey hkr1
      go_wp2_with (first
        | (at_builtin; (refine Sh.wpl_app shId B infoId rfl Tryz.underlying47 (.slice oa k oc) (.slice (some ⟨wr.heap.size, 0, none⟩) 1 1) ((T.act.take k).map Tr.idp) [(y0, y1)] rfl _ _ rfl rfl rfl ?hA ?hB ?hC ?hD ?_); (case hA => exact hO1.out); (case hB => exact hmade.out); (case hC => rw [hLk.out]; simp only [List.length_singleton]; omega); (case hD => exact hsz); intro v7 w7 hO7 hG7)
        | fail)
      have hK7 := hG7.keepsO
      have hB7 := (hK7.block B (lt_of_blk hb9.out) (fun hm => by obtain ⟨cs, hc⟩ := hO1.out.tag B (by simpa using hm); exact tag_ne hc hb9.out (by decide) rfl)).trans hb9.out
      have hk7 := hk9.out.fresh hK7 (fun b hb => .inr (by rw [hB]; exact hO1.out.ge b (by simpa using hb)))
      rw [← hst.out] at hO7
      refine ⟨⟨k + 1, rfl, by omega, Lib.hid hO7, Lib.hid hB7, Lib.hid hk7⟩, ?_⟩
      simp [intOf]; omega
    · have hlt2 : ¬ ((k : Int) < x3) := by omega
      have hlt3 : decide ((k : Int) < (x3 : Int)) = false := by simp; omega
      have hkN : T.act.take k = T.act := List.take_of_length_le (by rw [← e1.out]; omega)
      rw [hkN] at hO
      replace hkN := Lib.hid hkN
      go_wp2
      go_ret
      exact ⟨_, rfl, hO.out, hkw.out⟩
end Go.Proofs.YtpobepninifenaaGreat
