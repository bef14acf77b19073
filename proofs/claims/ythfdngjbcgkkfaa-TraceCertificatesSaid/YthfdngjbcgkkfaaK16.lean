/- Texts that the laws lean on, in the order in which they build. Trace.Certificate. (Printed by mktrcert.py.) The specification's SameAnswer, of equal answers. (Printed by mktrsma.py.) TraceCertificates: the walk. (Printed by mktrcrt.py.) -/
import Derived.Test.YthfdngjbcgkkfaaK15
set_option linter.unusedVariables false
set_option linter.unusedSimpArgs false
namespace Go.Proofs.Ythfdngjbcgkkfaa
open Go.RowKit

abbrev tCt : Nat := 63
theorem sizeCt : (Try.prog.info? tCt).map (·.size) = some 7 := by kernel_rfl
theorem load_ct (w : World) (g : Nat) (t : TypeId) (x0 x1 x2 x3 x4 x5 x6 : Value) (f : Nat × Nat) (hg : w.heap[g]? = some (.cells #[x0, x1, x2, x3, x4, x5, x6] t f)) : (loadVar tCt ⟨g, 0, none⟩).run Try.prog w = .ok (.agg #[x0, x1, x2, x3, x4, x5, x6]) w :=
  run_loadVar_row w g t tCt #[x0, x1, x2, x3, x4, x5, x6] f _ hg Try.underlying63 rfl sizeCt
theorem results_ct {fn : Func} {p u : Tmp} (h : fn.results = #[.cell p tCt, .tmp u]) (tmps : Array Value) (w : World) (g : Nat) (t : TypeId) (x0 x1 x2 x3 x4 x5 x6 : Value) (f : Nat × Nat) (hp : tmps.getD p undef = .pointer (some ⟨g, 0, none⟩))
    (hg : w.heap[g]? = some (.cells #[x0, x1, x2, x3, x4, x5, x6] t f)) : (results fn tmps).run Try.prog w = .ok (.tuple #[.agg #[x0, x1, x2, x3, x4, x5, x6], tmps.getD u undef]) w := by
  have hp' : tmps[p]?.getD undef = .pointer (some ⟨g, 0, none⟩) := by simpa using hp
  simp [results, h, hp', asAddr, load_ct w g t x0 x1 x2 x3 x4 x5 x6 f hg]
/-- A certificate as its cells. -/
structure CtV where
  im : Int
  is : Int
  s0 : Int
  s1 : Nat
  s2 : Int
  va : Option Addr × Nat × Nat
  vc : Option Addr × Nat × Nat
def ctV (x : CtV) : Value := .agg #[.int .i64 x.im, .int .i64 x.is, .int .i64 x.s0, .int .u64 x.s1, .int .i64 x.s2, slv x.va, slv x.vc]
/-- What a certificate says: its trace, its start, its answers and its claims. -/
structure CtR (w : World) (x : CtV) (t : Tr) : Prop where
  im : x.im = t.im
  is : x.is = t.is
  s0 : x.s0 = t.st.1
  s1 : x.s1 = t.st.2.1
  s2 : x.s2 = t.st.2.2
  an : ∃ X, shA.R w (slv x.va) X ∧ LA w X (srtOf t.qs)
  cl : LC w (slv x.vc) t.clm
def CertPost (w : World) (t : Tr) (e : Ending) (w' : World) : Prop :=
  Keeps [] w w' ∧ ((t.state ≠ 2 ∧ e = .returned (.tuple #[ctV ⟨0, 0, 0, 0, 0, (none, 0, 0), (none, 0, 0)⟩, .int .i64 9])) ∨ (t.state = 2 ∧ ∃ x, e = .returned (.tuple #[ctV x, .int .i64 0]) ∧ CtR w' x t))
set_option maxRecDepth 100000 in
set_option maxHeartbeats 4000000 in
theorem cert_c (w : World) (B bt bm : Nat) (vo vh vg : Value) (t : Tr) (h : TrM w B bt bm vo vh vg t) (hl : t.qs.length ≤ 1000) :
    Calls Try.prog 21 #[.pointer (some ⟨bt, 0, none⟩)] w (CertPost w t) := by
  have hlt := h.lt.1
  have hbZ := heap_alloc_new w (.cells #[.int .i64 0, .int .i64 0, .int .i64 0, .int .u64 0, .int .i64 0, .slice none 0 0, .slice none 0 0] tCt)
  have hkA : Keeps [] w (w.alloc (.cells #[.int .i64 0, .int .i64 0, .int .i64 0, .int .u64 0, .int .i64 0, .slice none 0 0, .slice none 0 0] tCt)) := (Keeps.refl _ _).alloc _
  have hcs := h.cells
  by_cases hs : t.state = 2
  case neg =>
    have c9 := hcs.2.2.2.2.2.2.2.2.2.1
    have hsb : (t.state != 2) = true := by simpa using hs
    replace hkA := Lib.hid hkA
    replace hbZ := Lib.hid hbZ
    replace hs := Lib.hid hs
    clear h hcs
    go_enter Try.func21, Try.ntmps21
    go_wp2
    refine bodyPost_ret (results_ct rfl _ _ _ _ _ _ _ _ _ _ _ _ rfl hbZ.out) rfl ?_
    exact ⟨hkA.out, .inl ⟨hs.out, rfl⟩⟩
  case pos =>
    have hT := h.keeps hkA
    obtain ⟨d0, d1, d2, d3, d4, d5, d6, d7, d8, d9, d10, d11⟩ := hT.cells
    have c9 := hcs.2.2.2.2.2.2.2.2.2.1
    rw [hs] at c9
    clear d9
    obtain ⟨W, hW⟩ : ∃ W, (w.alloc (.cells #[.int .i64 0, .int .i64 0, .int .i64 0, .int .u64 0, .int .i64 0, .slice none 0 0, .slice none 0 0] tCt)) = W := ⟨_, rfl⟩
    rw [hW] at hbZ hkA hT d0 d1 d2 d3 d4
    have hdd : W.drew.heap[w.heap.size]? = _ := hbZ
    have hcT := hT.keeps (Keeps.refl [] W).drew
    have hkd := hkA.drew
    replace hkA := Lib.hid hkA
    replace hbZ := Lib.hid hbZ
    replace hs := Lib.hid hs
    replace hW := Lib.hid hW
    replace hT := Lib.hid hT
    replace hdd := Lib.hid hdd
    replace hcT := Lib.hid hcT
    replace hkd := Lib.hid hkd
    clear h hcs d5 d6 d7 d8 d10 d11
    obtain ⟨im, is, ⟨s0, s1, s2⟩, qs, told, hist, state, ag, rf⟩ := t
    simp only at d0 d1 d2 d3 d4 hl
    go_enter Try.func21, Try.ntmps21
    go_wp2
    rw [hW.out]
    have e0 := (Keeps.refl [] W).drew.val d0
    have e1 := (Keeps.refl [] W).drew.val d1
    have e2 := (Keeps.refl [] W).drew.val d2
    have e3 := (Keeps.refl [] W).drew.val d3
    have e4 := (Keeps.refl [] W).drew.val d4
    clear d0 d1 d2 d3 d4 c9
    refine Free.wp_region_chain (fun i => i == 9 || i == 11 || i == 13) (fun i => true) (fun _ b => b = w.heap.size) (by kernel_rfl) (by kernel_rfl) (by kernel_rfl) ?_
    generalize W.drew = wd at *
    (repeat (first | (apply Free.cw_pure rfl rfl; (intro w'; go_simp <;> exact rfl); go_frame) | (apply Free.cw_steady rfl rfl rfl; (intro w' hS; have q0 := Free.sx_cell hS e0 (fun _ _ hT => by omega); have q1 := Free.sx_cell hS e1 (fun _ _ hT => by omega); have q2 := Free.sx_cell hS e2 (fun _ _ hT => by omega); have q3 := Free.sx_cell hS e3 (fun _ _ hT => by omega); have q4 := Free.sx_cell hS e4 (fun _ _ hT => by omega); go_simp <;> exact rfl); go_frame) | (refine Free.cw_skip rfl ?_; go_frame)))
    refine Free.cw_loud rfl rfl (fun K hK => ?_)
    go_wp2_with fail
    refine (answers_c wd B bt bm vo vh vg _ hcT.out (by simp only; omega)).mono ?_
    rintro e w2 ⟨v2, X, Y, rfl, hXO, hXL, hY, hk2⟩
    refine hK _ _ rfl (Free.KeepsP.of hk2 (by simp)) ?_
    clear hK K
    have hYe := hY.uniq (srtOf_sorted hcT.out.inv)
    subst hYe
    obtain ⟨va, ca, rfl⟩ := hXO.form
    obtain ⟨YN, hYN⟩ : ∃ n, X.length = n := ⟨_, rfl⟩
    rw [hYN]
    have hT2 := hcT.out.keeps hk2
    have hb2 := (hk2.block _ (lt_of_blk hdd.out) (by simp)).trans hdd.out
    have hkw2 := hkd.out.trans hk2
    rw [hYN] at hXO
    replace hXO := Lib.hid hXO
    replace hXL := Lib.hid hXL
    replace hYN := Lib.hid hYN
    replace hT2 := Lib.hid hT2
    replace hb2 := Lib.hid hb2
    replace hkw2 := Lib.hid hkw2
    clear hk2 hY
    (repeat (first | (apply Free.cw_pure rfl rfl; (intro w'; go_simp <;> exact rfl); go_frame) | (apply Free.cw_steady rfl rfl rfl; (intro w' hS; have q0 := Free.sx_cell hS e0 (fun _ _ hT => by omega); have q1 := Free.sx_cell hS e1 (fun _ _ hT => by omega); have q2 := Free.sx_cell hS e2 (fun _ _ hT => by omega); have q3 := Free.sx_cell hS e3 (fun _ _ hT => by omega); have q4 := Free.sx_cell hS e4 (fun _ _ hT => by omega); go_simp <;> exact rfl); go_frame) | (refine Free.cw_skip rfl ?_; go_frame)))
    refine Free.cw_loud rfl rfl (fun K hK => ?_)
    go_wp2_with fail
    refine (claims_c w2 B bt bm vo vh vg _ hT2.out (by simp only; omega)).mono ?_
    rintro e w3 ⟨v3, P, V, Bc, Y, rfl, hBc, hCL, hY, hP, hk3⟩
    refine hK _ _ rfl (Free.KeepsP.of hk3 (by simp)) ?_
    clear hK K
    have hPe := Tr.clm_eq hT2.out.inv hY hP
    have hLC := hCL.lc
    rw [hPe] at hLC
    obtain ⟨vc, cc, hvc, _, _⟩ := hLC.form
    subst hvc
    obtain ⟨PN, hPN⟩ : ∃ n, (Tr.clm ⟨im, is, (s0, s1, s2), qs, told, hist, state, ag, rf⟩).length = n := ⟨_, rfl⟩
    rw [hPN] at hLC ⊢
    have hCL2 := hCL
    rw [hPN] at hCL2
    replace hCL2 := Lib.hid hCL2
    replace hBc := Lib.hid hBc
    replace hPe := Lib.hid hPe
    have hX3 := hXO.out.keeps hk3
    have hL3 := hXL.out.ki hk3.ki0
    have hb3 := (hk3.block _ (lt_of_blk hb2.out) (by simp)).trans hb2.out
    have hkw3 := hkw2.out.trans hk3
    obtain ⟨z0, z1, z2, z3, z4, z5, z6, zf, zl⟩ := cl7 hb3
    replace hX3 := Lib.hid hX3
    replace hL3 := Lib.hid hL3
    replace hb3 := Lib.hid hb3
    replace hkw3 := Lib.hid hkw3
    replace hLC := Lib.hid hLC
    replace hPN := Lib.hid hPN
    clear hk3 hCL hP hY hXO hXL
    (repeat (first | (apply Free.cw_pure rfl rfl; (intro w'; go_simp <;> exact rfl); go_frame) | (apply Free.cw_steady rfl rfl rfl; (intro w' hS; have q0 := Free.sx_cell hS e0 (fun _ _ hT => by omega); have q1 := Free.sx_cell hS e1 (fun _ _ hT => by omega); have q2 := Free.sx_cell hS e2 (fun _ _ hT => by omega); have q3 := Free.sx_cell hS e3 (fun _ _ hT => by omega); have q4 := Free.sx_cell hS e4 (fun _ _ hT => by omega); go_simp <;> exact rfl); go_frame) | (refine Free.cw_skip rfl ?_; go_frame)))
    refine Free.cw_loud rfl rfl (fun K hK => ?_)
    go_wp2
    refine hK _ _ rfl (Free.KeepsP.of (sc7 (.int .i64 im) (.int .i64 is) (.int .i64 s0) (.int .u64 s1) (.int .i64 s2) (.slice va YN ca) (.slice vc PN cc) hb3.out).2 (fun b hb => by simpa using hb)) ?_
    clear hK K
    (repeat (apply Free.cw_pure rfl rfl; (intro w'; go_simp <;> exact rfl); go_frame))
    refine Free.cw_nil ?_
    go_wp2
    obtain ⟨g1, g2⟩ := sc7 (.int .i64 im) (.int .i64 is) (.int .i64 s0) (.int .u64 s1) (.int .i64 s2) (.slice va YN ca) (.slice vc PN cc) hb3.out
    have hkf := hkw3.out.fresh g2 (fun b hb => by simp only [List.mem_singleton] at hb; subst hb; exact .inr (Nat.le_refl _))
    refine bodyPost_ret (results_ct rfl _ _ _ _ _ _ _ _ _ _ _ _ rfl g1) rfl ?_
    refine ⟨hkf, .inr ⟨hs.out, ⟨im, is, s0, s1, s2, (va, YN, ca), (vc, PN, cc)⟩, rfl, rfl, rfl, rfl, rfl, rfl, ?_, ?_⟩⟩
    · refine ⟨X, (hX3.out.keepS g2 (fun b hb e => ?_)).r, hL3.out.ki (g2.ki (fun b hb cs f e => ?_))⟩
      · simp only [List.mem_singleton] at hb
        subst hb
        obtain ⟨cs, hc⟩ := hX3.out.tag _ e
        exact tag_ne hb3.out hc (by decide) rfl
      · simp only [List.mem_singleton] at hb
        subst hb
        rw [hb3.out] at e
        cases e
    · have hZB : w.heap.size < Bc := Nat.lt_of_lt_of_le (lt_of_blk hb2.out) hBc.out
      have hC4 : CL _ Bc (.slice vc PN cc) P V := ⟨hCL2.out.c.keepS g2 (fun b hb e => by
        simp only [List.mem_singleton] at hb
        subst hb
        have := hCL2.out.c.ge _ e
        omega), fun k j h1 h2 => (hCL2.out.o k j h1 h2).keepS g2 (fun b hb e => by
        simp only [List.mem_singleton] at hb
        subst hb
        have := (hCL2.out.o k j h1 h2).ge _ e
        omega), hCL2.out.d⟩
      have hf := hC4.lc
      rw [hPe.out] at hf
      exact hf
end Go.Proofs.Ythfdngjbcgkkfaa

namespace Go.Proofs.Ythfdngjbcgkkfaa
open Go.RowKit

theorem eqI0 (w : World) (x0 : Int) (x1 : Int) (x2 : Int) (y0 : Int) (y1 : Int) (y2 : Int) : (Op.equalIn 10000 tI (.agg #[.int .i64 x0, .int .u64 x1, .int .i64 x2]) (.agg #[.int .i64 y0, .int .u64 y1, .int .i64 y2])).run Try.prog w = .ok (x0 == y0 && x1 == y1 && x2 == y2) w := by
  have h1 : Try.prog.underlying tI = some (.struct (Try.prog.fieldsOf tI)) := by kernel_rfl
  have h2 : Try.prog.stoodInHeld tI = false := by kernel_rfl
  have h3 : (Try.prog.fieldsOf tI).toList.map (fun f => (f.name != "_", f.type, f.offset)) = [(true, 3, 0), (true, 24, 1), (true, 3, 2)] := by kernel_rfl
  obtain ⟨f0, f1, f2, hf⟩ : ∃ f0 f1 f2, (Try.prog.fieldsOf tI).toList = [f0, f1, f2] := by
    generalize (Try.prog.fieldsOf tI).toList = l at h3
    have hl := congrArg List.length h3
    simp only [List.length_map, List.length_cons, List.length_nil] at hl
    match l, hl with
    | [f0, f1, f2], _ => exact ⟨f0, f1, f2, rfl⟩
  rw [hf] at h3
  simp only [List.map_cons, List.map_nil, List.cons.injEq, Prod.mk.injEq, and_true, bne_iff_ne, ne_eq] at h3
  obtain ⟨⟨n0, t0, o0⟩, ⟨n1, t1, o1⟩, n2, t2, o2⟩ := h3
  rw [run_equalIn_agg w 9999 _ _ _ h1 h2, hf]
  have p0 : ∀ (x0 : Int) (x1 : Int) (x2 : Int) (w : World), (part 3 #[.int .i64 x0, .int .u64 x1, .int .i64 x2] 0).run Try.prog w = .ok (.int .i64 x0) w := fun x0 x1 x2 w => by kernel_rfl
  have p1 : ∀ (x0 : Int) (x1 : Int) (x2 : Int) (w : World), (part 24 #[.int .i64 x0, .int .u64 x1, .int .i64 x2] 1).run Try.prog w = .ok (.int .u64 x1) w := fun x0 x1 x2 w => by kernel_rfl
  have p2 : ∀ (x0 : Int) (x1 : Int) (x2 : Int) (w : World), (part 3 #[.int .i64 x0, .int .u64 x1, .int .i64 x2] 2).run Try.prog w = .ok (.int .i64 x2) w := fun x0 x1 x2 w => by kernel_rfl
  have e_int : ∀ (x y : Int) (w : World), (Op.equalIn 9999 3 (.int .i64 x) (.int .i64 y)).run Try.prog w = .ok (x == y) w := fun x y w => run_equalIn_int w 9998 _ _ _ x y Try.underlying3
  have e_u64 : ∀ (x y : Int) (w : World), (Op.equalIn 9999 24 (.int .u64 x) (.int .u64 y)).run Try.prog w = .ok (x == y) w := fun x y w => run_equalIn_int w 9998 _ _ _ x y Try.underlying24
  simp only [Op.eqFields, n0, t0, o0, n1, t1, o1, n2, t2, o2, ne_eq, not_false_eq_true, if_true, Sem.run_bind, p0, p1, p2, e_int, e_u64, Result.andThen]
  cases b0 : (x0 == y0)
  · simp [p0, p1, p2, e_int, e_u64, b0]
  · cases b1 : (x1 == y1)
    · simp [p0, p1, p2, e_int, e_u64, b0, b1]
    · cases b2 : (x2 == y2)
      · simp [p0, p1, p2, e_int, e_u64, b0, b1, b2]
      · simp [p0, p1, p2, e_int, e_u64, b0, b1, b2]
theorem neI (w : World) (x : T3) : (binOp .neq tI (tV x) (tV x)).run Try.prog w = .ok (.bool false) w := by
  obtain ⟨a, b, c⟩ := x
  rw [run_neq_struct, eqI0, Result.andThen_ok]
  simp
  try rfl
theorem Blk.two (w : World) (A B : Obj) : ((w.alloc A).alloc B).heap[w.heap.size]? = some A ∧ ((w.alloc A).alloc B).heap[w.heap.size + 1]? = some B ∧ Keeps [] w ((w.alloc A).alloc B) := by
  have h2 := heap_alloc_new (w.alloc A) B
  rw [show (w.alloc A).heap.size = w.heap.size + 1 by simp] at h2
  exact ⟨(((Keeps.refl [] (w.alloc A)).alloc B).block _ (by simp) (by simp)).trans (heap_alloc_new w A), h2, ((Keeps.refl _ _).alloc _).alloc _⟩
set_option maxRecDepth 100000 in
set_option maxHeartbeats 4000000 in
theorem sameAnswer_c (w : World) (x y : AnV) (a : Ans) (hx : InR w x a) (hy : InR w y a) :
    Calls Try.prog 24 #[aV x, aV y] w fun e w' => e = .returned (.bool true) ∧ Keeps [] w w' := by
  obtain ⟨x0, x1, x2, x3, x4, x5, x6, x8, x9, x10⟩ := x
  obtain ⟨y0, y1, y2, y3, y4, y5, y6, y8, y9, y10⟩ := y
  obtain ⟨i1, i2, i3, i4, i5, i6, i7, hI⟩ := hx
  obtain ⟨j1, j2, j3, j4, j5, j6, j7, hJ⟩ := hy
  simp only [AnV.v] at i1 i2 i3 i4 i5 i6 i7 hI j1 j2 j3 j4 j5 j6 j7 hJ
  subst i1 i2 i3 i4 i5 i6 i7 j1 j2 j3 j4 j5 j6 j7
  obtain ⟨ax, cx, hvx, hlx, hcx, _⟩ := hI.form
  obtain ⟨ay, cy, hvy, hly, hcy, _⟩ := hJ.form
  have hel1 := fun k hk => hI.elem (k := k) hk
  have hel2 := fun k hk => hJ.elem (k := k) hk
  obtain ⟨M, hM⟩ : ∃ n, a.ins.length = n := ⟨_, rfl⟩
  rw [hM] at hvx hvy hlx hly
  obtain ⟨rfl, rfl, rfl⟩ : x8 = ax ∧ x9 = M ∧ x10 = cx := by simpa using hvx
  obtain ⟨rfl, rfl, rfl⟩ : y8 = ay ∧ y9 = x9 ∧ y10 = cy := by simpa using hvy
  have hMm : y9 ≤ 9223372036854775807 := by unfold maxLen at hcx; omega
  obtain ⟨hb0, hb1, hkA⟩ := Blk.two w (.cells #[.int .i64 a.m, .int .i64 a.ow, .int .u64 a.n, .int .i64 a.ep, .bool a.kn, .bool a.rt, .int .i64 a.lu, .slice x8 y9 x10] tA) (.cells #[.int .i64 a.m, .int .i64 a.ow, .int .u64 a.n, .int .i64 a.ep, .bool a.kn, .bool a.rt, .int .i64 a.lu, .slice y8 y9 y10] tA)
  obtain ⟨W, hW⟩ : ∃ W, ((w.alloc (.cells #[.int .i64 a.m, .int .i64 a.ow, .int .u64 a.n, .int .i64 a.ep, .bool a.kn, .bool a.rt, .int .i64 a.lu, .slice x8 y9 x10] tA)).alloc (.cells #[.int .i64 a.m, .int .i64 a.ow, .int .u64 a.n, .int .i64 a.ep, .bool a.kn, .bool a.rt, .int .i64 a.lu, .slice y8 y9 y10] tA)) = W := ⟨_, rfl⟩
  rw [hW] at hb0 hb1 hkA
  obtain ⟨z0, z1, z2, z3, z4, z5, z6, z7, zf, zl⟩ := cells8f hb0
  obtain ⟨k0, k1, k2, k3, k4, k5, k6, k7, kf, kl⟩ := cells8f hb1
  have n0 : ∀ z : Int, (z != z) = false := fun z => by simp
  have n1 : ∀ z : Bool, (z != z) = false := fun z => by simp
  have hq := neI
  simp only [tV] at hq
  replace hb0 := Lib.hid hb0
  replace hb1 := Lib.hid hb1
  replace hkA := Lib.hid hkA
  replace hM := Lib.hid hM
  replace hel1 := Lib.hid hel1
  replace hel2 := Lib.hid hel2
  replace hW := Lib.hid hW
  clear hI hJ hvx hvy hcx hcy
  simp only [aV, AnV.v]
  go_enter Try.func24, Try.ntmps24
  go_wp2
  rw [hW.out]
  go_loopw [5] (fun i wr => ∃ k : Nat, i = .int .i64 k ∧ k ≤ y9 ∧ Hid (Keeps [] W wr)) (fun i _ => y9 - (intOf i).toNat)
  case atStart => exact ⟨0, rfl, by omega, Lib.hid (Keeps.refl _ _)⟩
  case round =>
    obtain ⟨k, rfl, hk, hkr⟩ := hrel
    have hkw := hkA.out.trans hkr.out
    have hr0 := (hkr.out.block _ (lt_of_blk hb0.out) (by simp)).trans hb0.out
    have hr1 := (hkr.out.block _ (lt_of_blk hb1.out) (by simp)).trans hb1.out
    clear z0 z1 z2 z3 z4 z5 z6 z7 zf zl k0 k1 k2 k3 k4 k5 k6 k7 kf kl
    obtain ⟨z0, z1, z2, z3, z4, z5, z6, z7, zf, zl⟩ := cells8f hr0
    obtain ⟨k0, k1, k2, k3, k4, k5, k6, k7, kf, kl⟩ := cells8f hr1
    clear hr0 hr1
    by_cases hlt : k < y9
    · have hlt2 : (k : Int) < y9 := by omega
      obtain ⟨g, o, c', hv, he⟩ := hel1.out k (by rw [hM.out]; exact hlt)
      obtain ⟨g2, o2, c2', hv2, he2⟩ := hel2.out k (by rw [hM.out]; exact hlt)
      rw [hM.out] at hv hv2
      cases hv
      cases hv2
      obtain ⟨⟨p0, p1, p2⟩, hp⟩ : ∃ p, a.ins[k]'(by rw [hM.out]; exact hlt) = p := ⟨_, rfl⟩
      rw [hp] at he he2
      have e0 := hkw.val (he 0 _ rfl)
      have e1 := hkw.val (he 1 _ rfl)
      have e2 := hkw.val (he 2 _ rfl)
      have d0 := hkw.val (he2 0 _ rfl)
      have d1 := hkw.val (he2 1 _ rfl)
      have d2 := hkw.val (he2 2 _ rfl)
      simp only [shT, Nat.add_zero] at e0 e1 e2 d0 d1 d2
      have hq2 := fun w => hq w (p0, p1, p2)
      simp only at hq2
      replace hp := Lib.hid hp
      clear he he2
      go_wp2
      (refine wp_region_quiet_lit (by kernel_rfl) (by kernel_rfl) ?_; (repeat (first | go_big_quiet_step (fail) | quiet_step (fail))); with_reducible refine wpQuiet_nil ?_; intro _ hw'; obtain ⟨nq, hw''⟩ := hw'; subst hw'')
      go_wp2
      go_roundw
      case rel => exact ⟨k + 1, rfl, by omega, Lib.hid (hkr.out.drewN _)⟩
      case measure => simp [intOf]; omega
    · have hlt2 : ¬ ((k : Int) < y9) := by omega
      replace hkw := Lib.hid hkw
      go_wp2
      go_ret
      exact ⟨rfl, hkw.out⟩
end Go.Proofs.Ythfdngjbcgkkfaa

namespace Go.Proofs.Ythfdngjbcgkkfaa
open Go Go.RowKit

theorem runT_id : ∀ (L : List Op3) (t : Tr), (runT L t).im = t.im ∧ (runT L t).is = t.is ∧ (runT L t).st = t.st
  | [], _ => ⟨rfl, rfl, rfl⟩
  | o :: L, t => by
    obtain ⟨h1, h2, h3⟩ := runT_id L (o.step t)
    obtain ⟨g1, g2, g3⟩ := o.step_id t
    exact ⟨h1.trans g1, h2.trans g2, h3.trans g3⟩
theorem neDD (w : World) (a b : Int) : (binOp .neq 23 (.agg #[.int .i64 a, .int .i64 b]) (.agg #[.int .i64 a, .int .i64 b])).run Try.prog w = .ok (.bool false) w := by
  rw [run_neq_struct, eqD0, Result.andThen_ok]
  simp
  try rfl
theorem neNN (w : World) (a : Int) (b : Nat) (c : Int) : (binOp .neq tN (.agg #[.int .i64 a, .int .u64 b, .int .i64 c]) (.agg #[.int .i64 a, .int .u64 b, .int .i64 c])).run Try.prog w = .ok (.bool false) w := by
  have := neN w (a, b, c) (a, b, c)
  rw [decide_eq_false (fun h => h rfl)] at this
  exact this
set_option maxRecDepth 100000 in
set_option maxHeartbeats 20000000 in
theorem certificates_w (w : World) (im is : Int) (st : T3) (vO : Value) (L : List Op3) (h1 : W64 im) (h2 : W64 is) (hst : W64 st.1 ∧ st.2.1 < 18446744073709551616 ∧ W64 st.2.2) (hL : LO w vO L) :
    Calls Try.prog 6 #[idV im is, tV st, vO] w fun e w' => e = .returned (.bool true) ∧ Keeps [] w w' := by
  obtain ⟨ao, co, rfl, hlo, hco, _⟩ := Gen.SlR.form hL
  have hfew := fun (W : World) (hk : Keeps [] w W) => few_c W _ L (hL.keeps hk)
  have helo := fun (W : World) (hk : Keeps [] w W) (k : Nat) (hk2 : k < L.length) => (hL.keeps hk).elem hk2
  obtain ⟨NL, hNL⟩ : ∃ n, L.length = n := ⟨_, rfl⟩
  have hNm : NL ≤ 9223372036854775807 := by unfold Go.maxLen at hco; omega
  rw [hNL] at hlo hfew ⊢
  obtain ⟨s0, s1, s2⟩ := st
  obtain ⟨hb3, hb4, hkA, hzA⟩ := blks2 w (.cells #[.int .i64 im, .int .i64 is] 23) (.cells #[.int .i64 s0, .int .u64 s1, .int .i64 s2] tN)
  obtain ⟨WA, hWA⟩ : ∃ W, ((w.alloc (.cells #[.int .i64 im, .int .i64 is] 23)).alloc (.cells #[.int .i64 s0, .int .u64 s1, .int .i64 s2] tN)) = W := ⟨_, rfl⟩
  rw [hWA] at hb3 hb4 hkA hzA
  obtain ⟨fb, hfb⟩ : ∃ b, fewB L = b := ⟨_, rfl⟩
  simp only [hfb] at hfew
  replace hb3 := Lib.hid hb3
  replace hb4 := Lib.hid hb4
  replace hkA := Lib.hid hkA
  replace hzA := Lib.hid hzA
  replace hWA := Lib.hid hWA
  replace hfew := Lib.hid hfew
  replace helo := Lib.hid helo
  replace hNL := Lib.hid hNL
  replace hfb := Lib.hid hfb
  replace hst := Lib.hid hst
  replace h1 := Lib.hid h1
  replace h2 := Lib.hid h2
  replace hL := Lib.hid hL
  simp only [tV]
  go_enter Try.func6, Try.ntmps6
  go_wp2_with fail
  rw [hWA.out]
  refine (awake_c WA).mono ?_
  rintro e w1 ⟨rfl, hk1⟩
  have hkw1 := Lib.hid (hkA.out.trans hk1)
  replace hk1 := Lib.hid hk1
  go_wp2_with fail
  refine (hfew.out _ hkw1.out).mono ?_
  rintro e w2 ⟨rfl, hk2⟩
  replace hk1 := Lib.hid (hk1.out.trans hk2)
  have hkw2 := Lib.hid (hkA.out.trans hk1.out)
  clear hk2 hkw1
  cases fb with
  | false =>
    go_wp2_with fail
    refine (awake_c w2).mono ?_
    rintro e w3 ⟨rfl, hk3⟩
    have hkf := Lib.hid (hkw2.out.trans hk3)
    go_wp2
    go_ret
    exact ⟨rfl, hkf.out⟩
  | true =>
    have hb5 : (∀ j (hj : j < L.length), L[j].a.ins.length ≤ 5) ∧ NL ≤ 30 := by
      have h := hfb.out
      unfold fewB at h
      rw [Bool.and_eq_true] at h
      exact ⟨fun j hj => by have := List.all_eq_true.1 h.1 _ (List.getElem_mem hj); simpa using this, by have := h.2; rw [hNL.out] at this; simpa using this⟩
    replace hb5 := Lib.hid hb5
    clear hfew
    replace hb3 := Lib.hid ((hk1.out.block _ (lt_of_blk hb3.out) (by simp)).trans hb3.out)
    replace hb4 := Lib.hid ((hk1.out.block _ (lt_of_blk hb4.out) (by simp)).trans hb4.out)
    obtain ⟨i0, i1, if', il⟩ := cl2 hb3.out
    obtain ⟨n0, n1, n2, nf, nl⟩ := cl3 hb4.out
    go_upto_region 3 with fail
    have hb3d := Lib.hid (show w2.drew.heap[w.heap.size]? = _ from hb3.out)
    have hb4d := Lib.hid (show w2.drew.heap[w.heap.size + 1]? = _ from hb4.out)
    have hdz : w2.drew.heap.size = w2.heap.size := rfl
    refine FreeO.wp_region_free (by kernel_rfl) (by kernel_rfl) (fun i => i == 2 || i == 5 || i == 6 || i == 8) (RgF w2.drew.heap.size im is (s0, s1, s2) 8) (fun k => TR w2.drew.heap.size 8 k) RgK (RgF.agree (by kernel_rfl)) (fun i k a v w w' h1 h2 h3 _ => RgF.stable i k a v w w' h1 h2 h3 trivial) ?_
    apply FreeO.walk_quiet rfl rfl
    · intro w' hg hf
      clear hf
      have g0 := hg.cell hb3d.out (by intro h; obtain ⟨k, _, _, _, hB, _⟩ := h; omega) i0
      have g1 := hg.cell hb3d.out (by intro h; obtain ⟨k, _, _, _, hB, _⟩ := h; omega) i1
      go_simp <;> exact rfl
    apply FreeO.walk_quiet rfl rfl
    · intro w' hg hf
      clear hf
      have g0 := hg.cell hb4d.out (by intro h; obtain ⟨k, _, _, _, hB, _⟩ := h; omega) n0
      have g1 := hg.cell hb4d.out (by intro h; obtain ⟨k, _, _, _, hB, _⟩ := h; omega) n1
      have g2 := hg.cell hb4d.out (by intro h; obtain ⟨k, _, _, _, hB, _⟩ := h; omega) n2
      go_simp <;> exact rfl
    apply FreeO.walk_loud rfl rfl
    · intro w' hg hf
      have hB := hg.size
      clear hf hg
      go_simp
      refine (new_c w' im is (s0, s1, s2) h1.out hst.out.1 hst.out.2.1).mono ?_
      rintro e w3 ⟨bt, bm, vo, rfl, hT, hk⟩
      exact ⟨_, rfl, ⟨fun _ => ⟨bt, bm, vo, rfl, hT.lowB hB⟩, fun h => absurd h (by decide), fun h => absurd h (by decide), fun h => absurd h (by decide)⟩, FreeO.KeepsO.of hk (by simp)⟩
    intro v2
    apply FreeO.walk_quiet rfl rfl
    · intro w' hg hf
      clear hf
      have g0 := hg.cell hb3d.out (by intro h; obtain ⟨k, _, _, _, hB, _⟩ := h; omega) i0
      have g1 := hg.cell hb3d.out (by intro h; obtain ⟨k, _, _, _, hB, _⟩ := h; omega) i1
      go_simp <;> exact rfl
    apply FreeO.walk_quiet rfl rfl
    · intro w' hg hf
      clear hf
      have g0 := hg.cell hb4d.out (by intro h; obtain ⟨k, _, _, _, hB, _⟩ := h; omega) n0
      have g1 := hg.cell hb4d.out (by intro h; obtain ⟨k, _, _, _, hB, _⟩ := h; omega) n1
      have g2 := hg.cell hb4d.out (by intro h; obtain ⟨k, _, _, _, hB, _⟩ := h; omega) n2
      go_simp <;> exact rfl
    apply FreeO.walk_loud rfl rfl
    · intro w' hg hf
      have hB := hg.size
      clear hf hg
      go_simp
      refine (newR2_c w' im is (s0, s1, s2)).mono ?_
      rintro e w3 ⟨xo, xa, rfl, hO, hA, hk⟩
      exact ⟨_, rfl, ⟨fun h => absurd h (by decide), fun _ => ⟨xo, xa, rfl, hO.lowB hB, hA.lowB hB⟩, fun h => absurd h (by decide), fun h => absurd h (by decide)⟩, FreeO.KeepsO.of hk (by simp)⟩
    intro v5
    apply FreeO.walk_loud rfl rfl
    · intro w' hg hf
      have hB := hg.size
      have hn := heap_alloc_new w' (.cells #[.int .i64 0, .int .i64 0, .int .i64 0, .int .u64 0, .int .i64 0, .int .i64 0, .slice none 0 0, .slice none 0 0, .int .i64 0, .slice none 0 0, .bool false, .slice none 0 0] tR)
      clear hf hg
      go_simp
      exact ⟨⟨fun h => absurd h (by decide), fun h => absurd h (by decide), fun _ => ⟨_, rfl, hB, hn⟩, fun h => absurd h (by decide)⟩, FreeO.KeepsO.of ((Keeps.refl [] w').alloc _) (by simp)⟩
    intro v6
    apply FreeO.walk_quiet rfl rfl
    · intro w' hg hf
      clear hf
      go_simp <;> exact rfl
    apply FreeO.walk_loud rfl rfl
    · intro w' hg hf
      have h5 := hf 5 (by decide) (by kernel_rfl)
      have h6 := hf 6 (by decide) (by kernel_rfl)
      clear hf hg
      obtain ⟨xo, xa, e5, hO, hA⟩ := (show RgF _ _ _ _ _ 5 _ v5 w' from by simpa using h5).2.1 rfl
      obtain ⟨p, e6, hp, hp3⟩ := (show RgF _ _ _ _ _ 6 _ v6 w' from by simpa using h6).2.2.1 rfl
      clear h5 h6
      subst e5 e6
      obtain ⟨o0, o1, o2⟩ := xo
      obtain ⟨a0, a1, a2⟩ := xa
      obtain ⟨e0, e1, e2, e3, e4, e5, e6, e7, e8, e9, e10, e11, ef, el⟩ := cl12 hp3
      have hsc := sc12 (.int .i64 im) (.int .i64 is) (.int .i64 s0) (.int .u64 s1) (.int .i64 s2) (.int .i64 0) (.slice o0 o1 o2) (.slice a0 a1 a2) (.int .i64 0) (.slice none 0 0) (.bool false) (.slice none 0 0) hp3
      have hO' := hO.keepO (B := w2.drew.heap.size) (k := 8) (q := 8) (FreeO.KeepsO.of hsc.2 (fun b hb o ho => by simp only [List.mem_singleton] at hb; subst hb; rw [hp3] at ho; cases ho; exact ⟨rfl, hp, _, _, rfl⟩)) (by decide)
      have hA' := hA.keepO (B := w2.drew.heap.size) (k := 8) (q := 8) (FreeO.KeepsO.of hsc.2 (fun b hb o ho => by simp only [List.mem_singleton] at hb; subst hb; rw [hp3] at ho; cases ho; exact ⟨rfl, hp, _, _, rfl⟩)) (by decide)
      have hK' : FreeO.KeepsO (TR w2.drew.heap.size 8 8) w' _ := FreeO.KeepsO.of hsc.2 (fun b hb o ho => by simp only [List.mem_singleton] at hb; subst hb; rw [hp3] at ho; cases ho; exact ⟨rfl, hp, _, _, rfl⟩)
      have hs1 := hsc.1
      clear hsc
      replace hO' := Lib.hid hO'
      replace hA' := Lib.hid hA'
      replace hK' := Lib.hid hK'
      replace hs1 := Lib.hid hs1
      simp only [rfV, rf0, slv]
      go_simp
      exact ⟨⟨fun h => absurd h (by decide), fun h => absurd h (by decide), fun h => absurd h (by decide), fun _ => ⟨p, (o0, o1, o2), (a0, a1, a2), rfl, hp, hs1.out, hO'.out, hA'.out⟩⟩, hK'.out⟩
    intro v8
    refine FreeO.walk_nil ?_
    intro wF hg hf
    have h2' := hf 2 (by decide) (by kernel_rfl)
    have h8' := hf 8 (by decide) (by kernel_rfl)
    clear hf
    obtain ⟨bt, bm, vo, e2, hT⟩ := (show RgF _ _ _ _ _ 2 _ v2 wF from by simpa using h2').1 rfl
    obtain ⟨p, xo, xa, e8, hp, hbp, hO, hA⟩ := (show RgF _ _ _ _ _ 8 _ v8 wF from by simpa using h8').2.2.2 rfl
    simp [Act.put] at e8
    subst e2 e8
    clear h2' h8'
    have hkF : Keeps [] w2 wF := ((Keeps.refl [] w2).drew).trans (hg.to (fun b o h => by obtain ⟨k, _, h, _⟩ := h; exact h))
    clear hg
    obtain ⟨o0, o1, o2⟩ := xo
    obtain ⟨a0, a1, a2⟩ := xa
    have hB0 := Both.start hT hO hA
    have hk0 := hkw2.out.trans hkF
    have hnp : ∀ b ∈ blks (rf0 im is (s0, s1, s2) (o0, o1, o2) (a0, a1, a2)), b ≠ p := fun b hb e => by
      subst e
      rcases mem_blks.1 hb with h | h | h | h
      · obtain ⟨cs, hc⟩ := hO.tag _ h
        rw [hc] at hbp; cases hbp
      · obtain ⟨cs, hc⟩ := hA.tag _ h
        rw [hc] at hbp; cases hbp
      · simp [rf0, Value.ownBlock] at h
      · simp [rf0, Value.ownBlock] at h
    have hBs : w.heap.size ≤ w2.heap.size := hkw2.out.size
    have hpB : w2.heap.size ≤ p := hp
    have hB2 : w.heap.size + 1 < w2.heap.size := nl
    replace hb3 := Lib.hid ((hkF.block _ il (by simp)).trans hb3.out)
    replace hb4 := Lib.hid ((hkF.block _ nl (by simp)).trans hb4.out)
    have hbd0 := Tr.Bnd.new im is (s0, s1, s2)
    have hnum0 : (Tr.new im is (s0, s1, s2)).Num := ⟨h1.out, h2.out, hst.out.1, hst.out.2.1, hst.out.2.2⟩
    clear i0 i1 if' il n0 n1 n2 nf nl hT hO hA hkF hp hk1 hkw2 hkA hWA hzA hdz hb3d hb4d
    generalize w2.heap.size = B at *
    simp only at hbp
    obtain ⟨e0, e1, e2, e3, e4, e5, e6, e7, e8, e9, e10, e11, ef, el⟩ := cl12 hbp
    replace hbp := Lib.hid hbp
    replace hk0 := Lib.hid hk0
    replace hB0 := Lib.hid hB0
    replace hnp := Lib.hid hnp
    replace hbd0 := Lib.hid hbd0
    replace hnum0 := Lib.hid hnum0
    go_frame
    go_wp2
    go_loopw [33] (fun iv wr => ∃ (k : Nat) (vo vh vg : Value) (x : RfV), iv = .int .i64 k ∧ k ≤ NL ∧ Hid (Both wr B bt bm vo vh vg x (runT (L.take k) (Tr.new im is (s0, s1, s2)))) ∧ Hid (wr.heap[p]? = some (.cells x.cs.toArray tR (0, 0))) ∧ Hid (∀ b ∈ blks x, b ≠ p) ∧ Hid ((runT (L.take k) (Tr.new im is (s0, s1, s2))).Bnd k) ∧ Hid ((runT (L.take k) (Tr.new im is (s0, s1, s2))).Num) ∧ Hid (Keeps [] w wr) ∧ Hid (wr.heap[w.heap.size]? = some (.cells #[.int .i64 im, .int .i64 is] 23)) ∧ Hid (wr.heap[w.heap.size + 1]? = some (.cells #[.int .i64 s0, .int .u64 s1, .int .i64 s2] tN))) (fun iv _ => NL - (intOf iv).toNat)
    case atStart => exact ⟨0, vo, _, _, _, rfl, by omega, hB0, hbp, hnp, hbd0, hnum0, hk0, hb3, hb4⟩
    case round =>
      clear hB0 hbp hnp hbd0 hnum0 hk0 e0 e1 e2 e3 e4 e5 e6 e7 e8 e9 e10 e11 ef el
      clear hb3 hb4
      obtain ⟨k, vo, vh, vg, x, rfl, hk, hB, hbp, hnp, hbd, hnum, hkr, hb3, hb4⟩ := hrel
      by_cases hlt : k < NL
      · skip
        have hlt2 : (k : Int) < NL := by omega
        have hNL30 : NL ≤ 30 := hb5.out.2
        have hkL : k < L.length := by rw [hNL.out]; exact hlt
        obtain ⟨g, of, c', y, hv, hIR, hFit, f0, f1, f2, f3, f4, f5, f6, f7, f8, f9, f10⟩ := hL.out.elem hkL
        rw [hNL.out] at hv
        cases hv
        have hrun := runT_take L (Tr.new im is (s0, s1, s2)) k hkL
        have h5 := hb5.out.1 k hkL
        have hin := InR.lt hIR
        obtain ⟨⟨ok, oi, on, oa⟩, ho⟩ : ∃ o, L[k] = o := ⟨_, rfl⟩
        rw [ho] at hIR hFit f0 f1 f2 hrun h5 hin
        obtain ⟨y0, y1, y2, y3, y4, y5, y6, y7, y8, y9⟩ := y
        simp only [AnV.v] at f3 f4 f5 f6 f7 f8 f9 f10 hin
        have hkw := hkr.out
        replace f0 := hkw.val f0
        replace f1 := hkw.val f1
        replace f2 := hkw.val f2
        replace f3 := hkw.val f3
        replace f4 := hkw.val f4
        replace f5 := hkw.val f5
        replace f6 := hkw.val f6
        replace f7 := hkw.val f7
        replace f8 := hkw.val f8
        replace f9 := hkw.val f9
        replace f10 := hkw.val f10
        have hbO := heap_alloc_new wr (.cells #[.int .u8 ok, .int .i64 oi, .bool on, .int .i64 y0, .int .i64 y1, .int .u64 y2, .int .i64 y3, .bool y4, .bool y5, .int .i64 y6, .slice y7 y8 y9] tOp)
        have hkM := (Keeps.refl [] wr).alloc (.cells #[.int .u8 ok, .int .i64 oi, .bool on, .int .i64 y0, .int .i64 y1, .int .u64 y2, .int .i64 y3, .bool y4, .bool y5, .int .i64 y6, .slice y7 y8 y9] tOp)
        have hBM := hB.out.keeps hkM
        have hbpM := (hkM.block _ (lt_of_blk hbp.out) (by simp)).trans hbp.out
        have hkrM := hkr.out.trans hkM
        have hb3M := (hkM.block _ (lt_of_blk hb3.out) (by simp)).trans hb3.out
        have hb4M := (hkM.block _ (lt_of_blk hb4.out) (by simp)).trans hb4.out
        replace hb3M := Lib.hid hb3M
        replace hb4M := Lib.hid hb4M
        have hst := step_c (wr.alloc (.cells #[.int .u8 ok, .int .i64 oi, .bool on, .int .i64 y0, .int .i64 y1, .int .u64 y2, .int .i64 y3, .bool y4, .bool y5, .int .i64 y6, .slice y7 y8 y9] tOp)) B bt bm vo vh vg x _ k ⟨ok, oi, on, oa⟩ ⟨y0, y1, y2, y3, y4, y5, y6, y7, y8, y9⟩ hBM hbd.out (by omega) (hIR.keeps hkrM) hFit h5 (fun b hne e => Nat.lt_of_lt_of_le (hin hne b e) hBs)
        obtain ⟨x0, x1, x2, x3, x4, x5, ⟨x6, x7, x8⟩, ⟨x9, x10, x11⟩, x12, ⟨x13, x14, x15⟩, x16, ⟨x17, x18, x19⟩⟩ := x
        simp only [rfV, slv, opV, AnV.v] at hst
        simp only [RfV.cs, slv, List.toArray] at hbp hbpM
        replace hst := Lib.hid hst
        replace hbO := Lib.hid hbO
        replace hbpM := Lib.hid hbpM
        replace hkrM := Lib.hid hkrM
        replace hrun := Lib.hid hrun
        replace ho := Lib.hid ho
        replace hBM := Lib.hid hBM
        clear hIR hFit hin h5 hkM hB hkr hkw
        obtain ⟨e0, e1, e2, e3, e4, e5, e6, e7, e8, e9, e10, e11, ef, el⟩ := cl12 hbp.out
        go_upto_region 9 with fail
        generalize (wr.alloc (.cells #[.int .u8 ok, .int .i64 oi, .bool on, .int .i64 y0, .int .i64 y1, .int .u64 y2, .int .i64 y3, .bool y4, .bool y5, .int .i64 y6, .slice y7 y8 y9] tOp)) = W1 at *
        obtain ⟨XO, hXO⟩ : ∃ X, wr.heap.size = X := ⟨_, rfl⟩
        rw [hXO] at hbO ⊢
        replace hXO := Lib.hid hXO
        clear f0 f1 f2 f3 f4 f5 f6 f7 f8 f9 f10 hbp e0 e1 e2 e3 e4 e5 e6 e7 e8 e9 e10 e11 ef el
        have hbp := hbpM
        clear hbpM
        obtain ⟨e0, e1, e2, e3, e4, e5, e6, e7, e8, e9, e10, e11, ef, el⟩ := cl12 hbp.out
        obtain ⟨r0, r1, r2, r3, r4, r5, r6, r7, r8, r9, r10, rf, rl⟩ := cl11 hbO.out
        go_wp2_with fail
        refine hst.out.mono ?_
        rintro e w5 ⟨xs, vo', vh', vg', rfl, hB5, hM5, hF5⟩
        have hown : ∀ b ∈ ownT bt bm vo vh vg, B ≤ b := fun b hb => (hBM.out.m.own_tag hb).1
        have hpo : p ∉ ownT bt bm vo vh vg := fun hm => by
          obtain ⟨_, _, ht⟩ := hBM.out.m.own_tag hm
          rcases ht with ⟨es, c, h⟩ | ⟨cs, e, h, he⟩
          · rw [hbp.out] at h; cases h
          · rw [hbp.out] at h
            cases h
            rcases he with he | he | he | he <;> exact absurd he (by decide)
        have hbp5 := (hM5.k.block _ el hpo).trans hbp.out
        have hb3S := (hM5.k.block _ (lt_of_blk hb3M.out) (fun hm => by have := hown _ hm; omega)).trans hb3M.out
        have hb4S := (hM5.k.block _ (lt_of_blk hb4M.out) (fun hm => by have := hown _ hm; omega)).trans hb4M.out
        replace hb3S := Lib.hid hb3S
        replace hb4S := Lib.hid hb4S
        clear hb3M hb4M
        have hnp5 : ∀ b ∈ blks xs, b ≠ p := fun b hb e => by
          rcases hF5 b hb with h | h
          · exact hnp.out b h e
          · omega
        have hkr5 : Keeps [] w w5 := hkrM.out.fresh hM5.k (fun b hb => .inr (Nat.le_trans hBs (hown b hb)))
        have hbd5 : (runT (L.take (k + 1)) (Tr.new im is (s0, s1, s2))).Bnd (k + 1) := by
          rw [hrun.out]
          exact Op3.step_bnd hbd.out hBM.out.m.inv hB5.m.inv (by have := hb5.out.1 k hkL; rw [ho.out] at this; exact this)
        have hnum5 : (runT (L.take (k + 1)) (Tr.new im is (s0, s1, s2))).Num := by
          rw [hrun.out]
          exact hnum.out.step _
        rw [← hrun.out] at hB5
        obtain ⟨m0, m1, m2, m3, m4, m5, ⟨m6, m7, m8⟩, ⟨m9, m10, m11⟩, m12, ⟨m13, m14, m15⟩, m16, ⟨m17, m18, m19⟩⟩ := xs
        simp only [rfV, slv]
        replace hbp5 := Lib.hid hbp5
        replace hnp5 := Lib.hid hnp5
        replace hkr5 := Lib.hid hkr5
        replace hbd5 := Lib.hid hbd5
        replace hnum5 := Lib.hid hnum5
        replace hB5 := Lib.hid hB5
        clear hst hM5 hF5 hown hpo hbp hBM hkrM hbd hnum hnp e0 e1 e2 e3 e4 e5 e6 e7 e8 e9 e10 e11 ef el r0 r1 r2 r3 r4 r5 r6 r7 r8 r9 r10 rf rl
        obtain ⟨e0, e1, e2, e3, e4, e5, e6, e7, e8, e9, e10, e11, ef, el⟩ := cl12 hbp5.out
        go_wp2
        obtain ⟨g1, g2⟩ := sc12 (.int .i64 m0) (.int .i64 m1) (.int .i64 m2) (.int .u64 m3) (.int .i64 m4) (.int .i64 m5) (.slice m6 m7 m8) (.slice m9 m10 m11) (.int .i64 m12) (.slice m13 m14 m15) (.bool m16) (.slice m17 m18 m19) hbp5.out
        have hnt := hnp5.out
        have hBz' := hB5.out.keep g2 (g2.ki (fun b hb cs f e => by simp only [List.mem_singleton] at hb; subst hb; rw [hbp5.out] at e; cases e)) (fun b hb => by
          simp only [List.mem_singleton] at hb
          subst hb
          refine ⟨fun hm => ?_, fun hm => hnt _ hm rfl⟩
          obtain ⟨_, _, ht⟩ := hB5.out.m.own_tag hm
          rcases ht with ⟨es, c, h⟩ | ⟨cs, e, h, he⟩
          · rw [hbp5.out] at h; cases h
          · rw [hbp5.out] at h
            cases h
            rcases he with he | he | he | he <;> exact absurd he (by decide))
        have hkf := hkr5.out.fresh g2 (fun b hb => by simp only [List.mem_singleton] at hb; subst hb; exact .inr (Nat.le_trans hBs hpB))
        have hb3f := (g2.block _ (lt_of_blk hb3S.out) (by simp only [List.mem_singleton]; omega)).trans hb3S.out
        have hb4f := (g2.block _ (lt_of_blk hb4S.out) (by simp only [List.mem_singleton]; omega)).trans hb4S.out
        replace hb3f := Lib.hid hb3f
        replace hb4f := Lib.hid hb4f
        replace hBz' := Lib.hid hBz'
        replace hkf := Lib.hid hkf
        replace g1 := Lib.hid g1
        go_roundw
        case rel => exact ⟨k + 1, vo', vh', vg', _, rfl, by omega, hBz', g1, hnp5, hbd5, hnum5, hkf, hb3f, hb4f⟩
        case measure => simp [intOf]; omega
      · have hbd2 := hbd.out
        clear hbd
        have hlt2 : ¬ ((k : Int) < NL) := by omega
        have hkN : k = L.length := by rw [hNL.out]; omega
        rw [hkN, List.take_length] at hB hnum hbd2
        obtain ⟨t, ht⟩ : ∃ t, runT L (Tr.new im is (s0, s1, s2)) = t := ⟨_, rfl⟩
        have hid := runT_id L (Tr.new im is (s0, s1, s2))
        rw [ht] at hB hnum hbd2 hid
        obtain ⟨d1, d2, d3⟩ := hid
        simp only [Tr.new] at d1 d2 d3
        have hqs : t.qs.length ≤ 501 := by have := hbd2.qs; have := hb5.out.2; have := hNL.out; omega
        have hi := hB.out.m.inv
        have hst5 := hB.out.r.st
        have hcs := cert_c wr B bt bm vo vh vg t hB.out.m (by omega)
        have hso := fun (W : World) (hk : Keeps [] wr W) => sortedR_c W x t (hB.out.r.keeps hk) hi.rk (by omega)
        have hco := fun (W : World) (v : Value) (hv : RdA W v (srtOf t.qs)) => clmOf_c W v t hi (by omega) hv
        obtain ⟨x0, x1, x2, x3, x4, x5, ⟨x6, x7, x8⟩, ⟨x9, x10, x11⟩, x12, ⟨x13, x14, x15⟩, x16, ⟨x17, x18, x19⟩⟩ := x
        simp only [RfV.cs, slv, List.toArray] at hbp
        simp only at hst5
        simp only [rfV, slv] at hso
        replace hcs := Lib.hid hcs
        replace hso := Lib.hid hso
        replace hco := Lib.hid hco
        replace hi := Lib.hid hi
        replace hkN := Lib.hid hkN
        replace ht := Lib.hid ht
        replace d1 := Lib.hid d1
        replace d2 := Lib.hid d2
        replace d3 := Lib.hid d3
        clear hB hnum hbd2 hnp
        go_wp2_with fail
        refine hcs.out.mono ?_
        rintro e w5 ⟨hk5, hcase⟩
        replace hkr := Lib.hid (hkr.out.trans hk5)
        replace hbp := Lib.hid ((hk5.block _ (lt_of_blk hbp.out) (by simp)).trans hbp.out)
        replace hb3 := Lib.hid ((hk5.block _ (lt_of_blk hb3.out) (by simp)).trans hb3.out)
        replace hb4 := Lib.hid ((hk5.block _ (lt_of_blk hb4.out) (by simp)).trans hb4.out)
        have hk5h := Lib.hid hk5
        clear hk5
        rcases hcase with ⟨hs2, rfl⟩ | ⟨hs2, xc, rfl, hct⟩
        · have hn2 : (x5 != 2) = true := by rw [hst5]; simpa using hs2
          simp only [ctV, slv]
          have hbC := heap_alloc_new w5 (.cells #[.int .i64 0, .int .i64 0, .int .i64 0, .int .u64 0, .int .i64 0, .slice none 0 0, .slice none 0 0] tCt)
          have hkM := (Keeps.refl [] w5).alloc (.cells #[.int .i64 0, .int .i64 0, .int .i64 0, .int .u64 0, .int .i64 0, .slice none 0 0, .slice none 0 0] tCt)
          replace hkr := Lib.hid (hkr.out.trans hkM)
          replace hbp := Lib.hid ((hkM.block _ (lt_of_blk hbp.out) (by simp)).trans hbp.out)
          have hq := fun W => eqDD W 0 0
          replace hs2 := Lib.hid hs2
          replace hst5 := Lib.hid hst5
          clear hkM
          go_upto_region 12 with fail
          generalize (w5.alloc (.cells #[.int .i64 0, .int .i64 0, .int .i64 0, .int .u64 0, .int .i64 0, .slice none 0 0, .slice none 0 0] tCt)) = W5 at *
          obtain ⟨XC, hXC⟩ : ∃ X, w5.heap.size = X := ⟨_, rfl⟩
          rw [hXC] at hbC ⊢
          replace hXC := Lib.hid hXC
          obtain ⟨e0, e1, e2, e3, e4, e5, e6, e7, e8, e9, e10, e11, ef, el⟩ := cl12 hbp.out
          obtain ⟨j0, j1, j2, j3, j4, j5, j6, jf, jl⟩ := cl7 hbC
          go_wp2
          go_ret
          exact ⟨rfl, hkr.out⟩
        · have hn2 : (x5 != 2) = false := by rw [hst5, hs2]; rfl
          obtain ⟨cm1, cm2, cm3, cm4, cm5, ⟨X, hXR, hXL⟩, hLCc⟩ := hct
          obtain ⟨c0, c1, c2, c3, c4, ⟨c5, c6, c7⟩, ⟨c8, c9, c10⟩⟩ := xc
          simp only [slv, d1.out, d2.out, d3.out] at cm1 cm2 cm3 cm4 cm5 hXR hLCc
          replace cm1 := cm1.symm
          replace cm2 := cm2.symm
          replace cm3 := cm3.symm
          replace cm4 := cm4.symm
          replace cm5 := cm5.symm
          subst cm1 cm2 cm3 cm4 cm5
          obtain ⟨N, hN⟩ : ∃ n, (srtOf t.qs).length = n := ⟨_, rfl⟩
          have hXN : X.length = N := by rw [hXL.1, hN]
          obtain ⟨_, _, ea, hla, hca, _⟩ := hXR.form
          rw [hXN] at ea hla
          simp only [Value.slice.injEq] at ea
          obtain ⟨-, ea, -⟩ := ea
          subst ea
          have hNm : c6 ≤ 9223372036854775807 := by unfold Go.maxLen at hca; omega
          simp only [ctV, slv]
          have hbC := heap_alloc_new w5 (.cells #[.int .i64 im, .int .i64 is, .int .i64 s0, .int .u64 s1, .int .i64 s2, .slice c5 c6 c7, .slice c8 c9 c10] tCt)
          have hkM := (Keeps.refl [] w5).alloc (.cells #[.int .i64 im, .int .i64 is, .int .i64 s0, .int .u64 s1, .int .i64 s2, .slice c5 c6 c7, .slice c8 c9 c10] tCt)
          replace hkr := Lib.hid (hkr.out.trans hkM)
          replace hbp := Lib.hid ((hkM.block _ (lt_of_blk hbp.out) (by simp)).trans hbp.out)
          replace hb3 := Lib.hid ((hkM.block _ (lt_of_blk hb3.out) (by simp)).trans hb3.out)
          replace hb4 := Lib.hid ((hkM.block _ (lt_of_blk hb4.out) (by simp)).trans hb4.out)
          replace hk5h := Lib.hid (hk5h.out.trans hkM)
          replace hXR := Lib.hid (hXR.keeps hkM)
          replace hXL := Lib.hid (hXL.ki hkM.ki0)
          replace hLCc := Lib.hid (hLCc.keeps hkM)
          replace hbC := Lib.hid hbC
          replace hs2 := Lib.hid hs2
          replace hst5 := Lib.hid hst5
          replace hN := Lib.hid hN
          replace hXN := Lib.hid hXN
          clear hkM hla hca
          go_upto_region 12 with fail
          generalize (w5.alloc (.cells #[.int .i64 im, .int .i64 is, .int .i64 s0, .int .u64 s1, .int .i64 s2, .slice c5 c6 c7, .slice c8 c9 c10] tCt)) = W5 at *
          obtain ⟨XC, hXC⟩ : ∃ X, w5.heap.size = X := ⟨_, rfl⟩
          rw [hXC] at hbC ⊢
          replace hXC := Lib.hid hXC
          obtain ⟨e0, e1, e2, e3, e4, e5, e6, e7, e8, e9, e10, e11, ef, el⟩ := cl12 hbp.out
          go_wp2_with fail
          refine (hso.out _ hk5h.out).mono ?_
          rintro e w6 ⟨v6, rfl, hv6, hk6⟩
          obtain ⟨aW, cW, rfl, _, _⟩ := hv6.form
          rw [hN.out]
          replace hkr := Lib.hid (hkr.out.trans hk6)
          replace hb3 := Lib.hid ((hk6.block _ (lt_of_blk hb3.out) (by simp)).trans hb3.out)
          replace hb4 := Lib.hid ((hk6.block _ (lt_of_blk hb4.out) (by simp)).trans hb4.out)
          replace hbC := Lib.hid ((hk6.block _ (lt_of_blk hbC.out) (by simp)).trans hbC.out)
          replace hXR := Lib.hid (hXR.out.keeps hk6)
          replace hXL := Lib.hid (hXL.out.ki hk6.ki0)
          replace hLCc := Lib.hid (hLCc.out.keeps hk6)
          rw [hN.out] at hv6
          replace hv6 := Lib.hid hv6
          clear hk6 hbp e0 e1 e2 e3 e4 e5 e6 e7 e8 e9 e10 e11 ef el hso hk5h
          go_upto_region 15 with fail
          have hkd : Keeps [] w6 w6.drew := (Keeps.refl [] w6).drew
          have hb3d : w6.drew.heap[w.heap.size]? = _ := hb3.out
          have hb4d : w6.drew.heap[w.heap.size + 1]? = _ := hb4.out
          have hbCd : w6.drew.heap[XC]? = _ := hbC.out
          have hcd := hco.out w6.drew _ (hv6.out.keeps hkd)
          have hLd := hLCc.out.keeps hkd
          obtain ⟨i0, i1, if', il⟩ := cl2 hb3d
          obtain ⟨n0, n1, n2, nf, nl⟩ := cl3 hb4d
          obtain ⟨j0, j1, j2, j3, j4, j5, j6, jf, jl⟩ := cl7 hbCd
          have hqD := fun W => neDD W im is
          have hqN := fun W => neNN W s0 s1 s2
          have hz0 : ((0 : Int) != 0) = false := rfl
          have hzN : ((c6 : Int) != c6) = false := by simp
          have hkwd := hkr.out.drew
          replace hkwd := Lib.hid hkwd
          replace hb3d := Lib.hid hb3d
          replace hb4d := Lib.hid hb4d
          replace hbCd := Lib.hid hbCd
          replace hcd := Lib.hid hcd
          replace hLd := Lib.hid hLd
          have hXRd := Lib.hid (hXR.out.keeps hkd)
          have hXLd := Lib.hid (hXL.out.ki hkd.ki0)
          have hvd := Lib.hid (hv6.out.keeps hkd)
          clear hkd hb3 hb4 hbC hco hv6 hLCc hkr hXR hXL
          refine Free.wp_region_chain (fun i => i == 26 || i == 27) (fun i => true) (fun _ _ => False) (by kernel_rfl) (by kernel_rfl) (by kernel_rfl) ?_
          generalize w6.drew = wd at *
          (repeat (first | (apply Free.cw_pureW rfl rfl; (intro w'; go_simp <;> exact rfl); go_frame) | (apply Free.cw_steadyW rfl rfl rfl; (intro w' hS; have q0 := Free.sx_cell hS j0 (fun _ _ hT => hT); have q1 := Free.sx_cell hS j1 (fun _ _ hT => hT); have q2 := Free.sx_cell hS j2 (fun _ _ hT => hT); have q3 := Free.sx_cell hS j3 (fun _ _ hT => hT); have q4 := Free.sx_cell hS j4 (fun _ _ hT => hT); have q5 := Free.sx_cell hS j5 (fun _ _ hT => hT); have q6 := Free.sx_cell hS j6 (fun _ _ hT => hT); have q7 := Free.sx_cell hS i0 (fun _ _ hT => hT); have q8 := Free.sx_cell hS i1 (fun _ _ hT => hT); have q9 := Free.sx_cell hS n0 (fun _ _ hT => hT); have q10 := Free.sx_cell hS n1 (fun _ _ hT => hT); have q11 := Free.sx_cell hS n2 (fun _ _ hT => hT); go_simp <;> exact rfl); go_frame) | (refine Free.cw_skip rfl ?_; go_frame)))
          refine Free.cw_loudW rfl rfl (fun K hK => ?_)
          go_wp2_with fail
          refine hcd.out.mono ?_
          rintro e w7 ⟨v7, rfl, hv7, hk7⟩
          refine hK _ _ rfl (Free.KeepsP.of hk7 (by simp)) ?_
          clear hK K hcd
          (repeat (first | (apply Free.cw_pureW rfl rfl; (intro w'; go_simp <;> exact rfl); go_frame) | (apply Free.cw_steadyW rfl rfl rfl; (intro w' hS; have q0 := Free.sx_cell hS j0 (fun _ _ hT => hT); have q1 := Free.sx_cell hS j1 (fun _ _ hT => hT); have q2 := Free.sx_cell hS j2 (fun _ _ hT => hT); have q3 := Free.sx_cell hS j3 (fun _ _ hT => hT); have q4 := Free.sx_cell hS j4 (fun _ _ hT => hT); have q5 := Free.sx_cell hS j5 (fun _ _ hT => hT); have q6 := Free.sx_cell hS j6 (fun _ _ hT => hT); have q7 := Free.sx_cell hS i0 (fun _ _ hT => hT); have q8 := Free.sx_cell hS i1 (fun _ _ hT => hT); have q9 := Free.sx_cell hS n0 (fun _ _ hT => hT); have q10 := Free.sx_cell hS n1 (fun _ _ hT => hT); have q11 := Free.sx_cell hS n2 (fun _ _ hT => hT); go_simp <;> exact rfl); go_frame) | (refine Free.cw_skip rfl ?_; go_frame)))
          have hsc := sameClaims_c w7 _ _ _ _ (hLd.out.keeps hk7) hv7.lc
          rw [decide_eq_true rfl] at hsc
          replace hsc := Lib.hid hsc
          replace hk7 := Lib.hid hk7
          clear hv7 hLd
          refine Free.cw_loudW rfl rfl (fun K hK => ?_)
          go_wp2_with fail
          refine hsc.out.mono ?_
          rintro e w8 ⟨rfl, hk8⟩
          refine hK _ _ rfl (Free.KeepsP.of hk8 (by simp)) ?_
          clear hK K hsc
          (repeat (first | (apply Free.cw_pureW rfl rfl; (intro w'; go_simp <;> exact rfl); go_frame) | (apply Free.cw_steadyW rfl rfl rfl; (intro w' hS; have q0 := Free.sx_cell hS j0 (fun _ _ hT => hT); have q1 := Free.sx_cell hS j1 (fun _ _ hT => hT); have q2 := Free.sx_cell hS j2 (fun _ _ hT => hT); have q3 := Free.sx_cell hS j3 (fun _ _ hT => hT); have q4 := Free.sx_cell hS j4 (fun _ _ hT => hT); have q5 := Free.sx_cell hS j5 (fun _ _ hT => hT); have q6 := Free.sx_cell hS j6 (fun _ _ hT => hT); have q7 := Free.sx_cell hS i0 (fun _ _ hT => hT); have q8 := Free.sx_cell hS i1 (fun _ _ hT => hT); have q9 := Free.sx_cell hS n0 (fun _ _ hT => hT); have q10 := Free.sx_cell hS n1 (fun _ _ hT => hT); have q11 := Free.sx_cell hS n2 (fun _ _ hT => hT); go_simp <;> exact rfl); go_frame) | (refine Free.cw_skip rfl ?_; go_frame)))
          refine Free.cw_nil ?_
          have hk := hk7.out.trans hk8
          replace hkwd := Lib.hid (hkwd.out.trans hk)
          replace hbCd := Lib.hid ((hk.block _ (lt_of_blk hbCd.out) (by simp)).trans hbCd.out)
          replace hXRd := Lib.hid (hXRd.out.keeps hk)
          replace hXLd := Lib.hid (hXLd.out.ki hk.ki0)
          replace hvd := Lib.hid (hvd.out.keeps hk)
          clear hk hk7 hk8 i0 i1 if' il n0 n1 n2 nf nl j0 j1 j2 j3 j4 j5 j6 jf jl hb3d hb4d
          obtain ⟨j0, j1, j2, j3, j4, j5, j6, jf, jl⟩ := cl7 hbCd.out
          go_wp2
          go_loopw [107] (fun iv wr => ∃ q : Nat, iv = .int .i64 q ∧ q ≤ c6 ∧ Hid (Keeps [] w8 wr)) (fun iv _ => c6 - (intOf iv).toNat)
          case atStart => exact ⟨0, rfl, by omega, Lib.hid (Keeps.refl _ _)⟩
          case round =>
            obtain ⟨q, rfl, hq, hkq⟩ := hrel
            have hbCr := (hkq.out.block _ (lt_of_blk hbCd.out) (by simp)).trans hbCd.out
            clear j0 j1 j2 j3 j4 j5 j6 jf jl
            by_cases hlq : q < c6
            · have hlq2 : (q : Int) < c6 := by omega
              have hkq2 := hkq.out.drew
              have hqX : q < X.length := by rw [hXN.out]; exact hlq
              have hqS : q < (srtOf t.qs).length := by rw [hN.out]; exact hlq
              obtain ⟨ga, oa, ca, hva, hea⟩ := (hXRd.out.keeps hkq2).elem hqX
              rw [hXN.out] at hva
              cases hva
              have hIa := ((hXLd.out.ki hkq2.ki0).2 q _ _ (List.getElem?_eq_getElem hqX) (List.getElem?_eq_getElem hqS)).r
              obtain ⟨gw, ow, cw, xw, hvw, hIw, hew⟩ := (hvd.out.keeps hkq2).elem hqS
              rw [hN.out] at hvw
              cases hvw
              have hsa := sameAnswer_c wr.drew _ _ _ hIa hIw
              obtain ⟨⟨y0, y1, y2, y3, y4, y5, y6, y7, y8, y9⟩, hy⟩ : ∃ y, X[q] = y := ⟨_, rfl⟩
              rw [hy] at hea hsa
              obtain ⟨m0, m1, m2, m3, m4, m5, m6, m7, m8, m9⟩ := xw
              simp only [aV, AnV.v] at hsa
              have f0 := hea 0 _ rfl
              have f1 := hea 1 _ rfl
              have f2 := hea 2 _ rfl
              have f3 := hea 3 _ rfl
              have f4 := hea 4 _ rfl
              have f5 := hea 5 _ rfl
              have f6 := hea 6 _ rfl
              have f7 := hea 7 _ rfl
              have h0 := hew 0 _ rfl
              have h1' := hew 1 _ rfl
              have h2' := hew 2 _ rfl
              have h3 := hew 3 _ rfl
              have h4 := hew 4 _ rfl
              have h5 := hew 5 _ rfl
              have h6 := hew 6 _ rfl
              have h7 := hew 7 _ rfl
              simp only [shA, AnV.v, Nat.add_zero] at f0 f1 f2 f3 f4 f5 f6 f7 h0 h1' h2' h3 h4 h5 h6 h7
              have hbCd2 : wr.drew.heap[XC]? = _ := hbCr
              obtain ⟨j0, j1, j2, j3, j4, j5, j6, jf, jl⟩ := cl7 hbCd2
              replace hsa := Lib.hid hsa
              replace hkq2 := Lib.hid hkq2
              clear hIa hIw hea hew hy hbCr hbCd2
              go_upto_region 20 with fail
              refine Free.wp_region_chain (fun i => i == 9) (fun i => true) (fun _ _ => False) (by kernel_rfl) (by kernel_rfl) (by kernel_rfl) ?_
              generalize wr.drew = we at *
              (repeat (first | (apply Free.cw_pure rfl rfl; (intro w'; go_simp <;> exact rfl); go_frame) | (apply Free.cw_steady rfl rfl rfl; (intro w' hS; have q0 := Free.sx_cell hS j0 (fun _ _ hT => hT); have q1 := Free.sx_cell hS j1 (fun _ _ hT => hT); have q2 := Free.sx_cell hS j2 (fun _ _ hT => hT); have q3 := Free.sx_cell hS j3 (fun _ _ hT => hT); have q4 := Free.sx_cell hS j4 (fun _ _ hT => hT); have q5 := Free.sx_cell hS j5 (fun _ _ hT => hT); have q6 := Free.sx_cell hS j6 (fun _ _ hT => hT); have q7 := Free.sx_cell hS f0 (fun _ _ hT => hT); have q8 := Free.sx_cell hS f1 (fun _ _ hT => hT); have q9 := Free.sx_cell hS f2 (fun _ _ hT => hT); have q10 := Free.sx_cell hS f3 (fun _ _ hT => hT); have q11 := Free.sx_cell hS f4 (fun _ _ hT => hT); have q12 := Free.sx_cell hS f5 (fun _ _ hT => hT); have q13 := Free.sx_cell hS f6 (fun _ _ hT => hT); have q14 := Free.sx_cell hS f7 (fun _ _ hT => hT); have q15 := Free.sx_cell hS h0 (fun _ _ hT => hT); have q16 := Free.sx_cell hS h1' (fun _ _ hT => hT); have q17 := Free.sx_cell hS h2' (fun _ _ hT => hT); have q18 := Free.sx_cell hS h3 (fun _ _ hT => hT); have q19 := Free.sx_cell hS h4 (fun _ _ hT => hT); have q20 := Free.sx_cell hS h5 (fun _ _ hT => hT); have q21 := Free.sx_cell hS h6 (fun _ _ hT => hT); have q22 := Free.sx_cell hS h7 (fun _ _ hT => hT); go_simp <;> exact rfl); go_frame) | (refine Free.cw_skip rfl ?_; go_frame)))
              refine Free.cw_loud rfl rfl (fun K hK => ?_)
              go_wp2_with fail
              refine hsa.out.mono ?_
              rintro e w9 ⟨rfl, hk9⟩
              refine hK _ _ rfl (Free.KeepsP.of hk9 (by simp)) ?_
              clear hK K hsa
              (repeat (first | (apply Free.cw_pure rfl rfl; (intro w'; go_simp <;> exact rfl); go_frame) | (apply Free.cw_steady rfl rfl rfl; (intro w' hS; have q0 := Free.sx_cell hS j0 (fun _ _ hT => hT); have q1 := Free.sx_cell hS j1 (fun _ _ hT => hT); have q2 := Free.sx_cell hS j2 (fun _ _ hT => hT); have q3 := Free.sx_cell hS j3 (fun _ _ hT => hT); have q4 := Free.sx_cell hS j4 (fun _ _ hT => hT); have q5 := Free.sx_cell hS j5 (fun _ _ hT => hT); have q6 := Free.sx_cell hS j6 (fun _ _ hT => hT); have q7 := Free.sx_cell hS f0 (fun _ _ hT => hT); have q8 := Free.sx_cell hS f1 (fun _ _ hT => hT); have q9 := Free.sx_cell hS f2 (fun _ _ hT => hT); have q10 := Free.sx_cell hS f3 (fun _ _ hT => hT); have q11 := Free.sx_cell hS f4 (fun _ _ hT => hT); have q12 := Free.sx_cell hS f5 (fun _ _ hT => hT); have q13 := Free.sx_cell hS f6 (fun _ _ hT => hT); have q14 := Free.sx_cell hS f7 (fun _ _ hT => hT); have q15 := Free.sx_cell hS h0 (fun _ _ hT => hT); have q16 := Free.sx_cell hS h1' (fun _ _ hT => hT); have q17 := Free.sx_cell hS h2' (fun _ _ hT => hT); have q18 := Free.sx_cell hS h3 (fun _ _ hT => hT); have q19 := Free.sx_cell hS h4 (fun _ _ hT => hT); have q20 := Free.sx_cell hS h5 (fun _ _ hT => hT); have q21 := Free.sx_cell hS h6 (fun _ _ hT => hT); have q22 := Free.sx_cell hS h7 (fun _ _ hT => hT); go_simp <;> exact rfl); go_frame) | (refine Free.cw_skip rfl ?_; go_frame)))
              refine Free.cw_nil ?_
              replace hkq2 := Lib.hid (hkq2.out.trans hk9)
              clear hk9 f0 f1 f2 f3 f4 f5 f6 f7 h0 h1' h2' h3 h4 h5 h6 h7 j0 j1 j2 j3 j4 j5 j6 jf jl
              go_wp2
              go_roundw
              case rel => exact ⟨q + 1, rfl, by omega, hkq2⟩
              case measure => simp [intOf]; omega
            · have hlq2 : ¬ ((q : Int) < c6) := by omega
              have hkf := Lib.hid (hkwd.out.trans hkq.out)
              go_wp2
              go_ret
              exact ⟨rfl, hkf.out⟩
end Go.Proofs.Ythfdngjbcgkkfaa
