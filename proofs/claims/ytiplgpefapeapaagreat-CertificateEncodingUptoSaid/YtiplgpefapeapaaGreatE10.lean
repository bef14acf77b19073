/- Texts that the laws lean on, in the order in which they build. The specification's Encode of a certificate. (Printed by mkcva.py.) A region that draws its order, walked once: what an operation may write is told by the object that lies in the block. (Printed by mkfreeo.py out of XFree.) The program's Encode of a certificate: what a step of it leaves; ints. -/
import Derived.Test.YtiplgpefapeapaaGreatE9
set_option linter.unusedVariables false
set_option linter.unusedSimpArgs false
namespace Go.Proofs.YtiplgpefapeapaaGreat
open Go.RowKit

def encNs (L : List T3) : List UInt8 := encU L.length ++ encXs L
def encP (p : PCl) : List UInt8 := encI p.m ++ encI p.ep ++ (encNs p.st ++ (encNs p.sc ++ encNs p.ch))
def encPs (P : List PCl) : List UInt8 := (P.map encP).flatten
/-- The bytes of a certificate. -/
def encCt (c : Ct) : List UInt8 := encI c.im ++ encI c.is ++ encX c.st ++ encU c.an.length ++ encH c.an ++ encU c.cl.length ++ encPs c.cl
theorem encPs_take (L : List PCl) (k : Nat) (hk : k < L.length) : encPs (L.take (k + 1)) = encPs (L.take k) ++ encP L[k] := by
  unfold encPs
  rw [List.take_succ_eq_append_getElem hk, List.map_append, List.flatten_append]
  simp
theorem encB_len (b : Bool) : (encB b).length ≤ 1 := by cases b <;> decide
theorem T3.Fit.ins {x : T3} (h : x.Fit) : InsFit x := ⟨h.1, h.2.1, h.2.2⟩
/-- How long the bytes may be, roughly. -/
def wA (a : Ans) : Nat := 100 + 30 * a.ins.length
def wP (p : PCl) : Nat := 100 + 30 * (p.st.length + (p.sc.length + p.ch.length))
def Ct.wt (c : Ct) : Nat := 200 + (c.an.map wA).sum + (c.cl.map wP).sum
theorem sum_takeLe {α : Type} (g : α → Nat) (l : List α) (k : Nat) : ((l.take k).map g).sum ≤ (l.map g).sum := by
  have h : (l.map g).sum = ((l.take k).map g).sum + ((l.drop k).map g).sum := by rw [← List.sum_append, ← List.map_append, List.take_append_drop]
  omega
theorem pI_c (w : World) (v : Value) (l : List UInt8) (n : Int) (h : SlB w v l) (hn : W64 n) (hl : l.length ≤ 140737488355000) : Calls Tryz.prog 55 #[v, .int .i64 n] w fun e w' => ∃ v', e = .returned v' ∧ SlB w' v' (l ++ encI n) ∧ Keeps [] w w' := refInt_c w v l n h (w64_iff.1 hn) hl
theorem pU_c (w : World) (v : Value) (l : List UInt8) (n : Nat) (h : SlB w v l) (hn : n < 18446744073709551616) (hl : l.length ≤ 140737488355000) : Calls Tryz.prog 56 #[v, .int .u64 n] w fun e w' => ∃ v', e = .returned v' ∧ SlB w' v' (l ++ encU n) ∧ Keeps [] w w' :=
  (refU_c w v l n h hn hl).mono fun _ _ ⟨v', h1, h2, h3⟩ => ⟨v', h1, h2.slB, h3⟩
theorem pB_c (w : World) (v : Value) (l : List UInt8) (b : Bool) (h : SlB w v l) (hl : l.length ≤ 140737488355000) : Calls Tryz.prog 57 #[v, .bool b] w fun e w' => ∃ v', e = .returned v' ∧ SlB w' v' (l ++ encB b) ∧ Keeps [] w w' :=
  refB_c w v l b h hl
set_option maxRecDepth 100000 in
set_option maxHeartbeats 4000000 in
theorem pN_c (w : World) (v : Value) (l : List UInt8) (x : T3) (h : SlB w v l) (hx : x.Fit) (hl : l.length ≤ 140737488354900) :
    Calls Tryz.prog 54 #[v, tV x] w fun e w' => ∃ v', e = .returned v' ∧ SlB w' v' (l ++ encX x) ∧ Keeps [] w w' := by
  obtain ⟨x0, x1, x2⟩ := x
  obtain ⟨hx0, hx1, hx2⟩ := hx
  simp only at hx0 hx1 hx2
  have hkA := (Keeps.refl [] w).alloc (.cells #[.int .i64 x0, .int .u64 x1, .int .i64 x2] tN)
  have hA := heap_alloc_new w (.cells #[.int .i64 x0, .int .u64 x1, .int .i64 x2] tN)
  have hB := Lib.hid (h.keeps hkA)
  have hres : ∀ y, y = l ++ encI x0 ++ encU x1 ++ encI x2 → y = l ++ encX (x0, x1, x2) := fun y e => by rw [e]; simp [encX, List.append_assoc]
  replace hkA := Lib.hid hkA
  replace hA := Lib.hid hA
  replace hres := Lib.hid hres
  clear h
  simp only [tV]
  go_enter Tryz.func54, Tryz.ntmps54
  go_upto_region 1 with fail
  generalize (w.alloc (.cells #[.int .i64 x0, .int .u64 x1, .int .i64 x2] tN)) = W at *
  obtain ⟨B, hBB⟩ : ∃ B, w.heap.size = B := ⟨_, rfl⟩
  rw [hBB] at hA ⊢
  replace hBB := Lib.hid hBB
  obtain ⟨i0, i1, i2, if', il⟩ := cl3 hA.out
  refine Free.wp_region_chain (fun i => i == 3 || i == 6 || i == 9) (fun i => true) (fun _ _ => False) (by kernel_rfl) (by kernel_rfl) (by kernel_rfl) ?_
  have hkr := Lib.hid ((Keeps.refl [] W).drew)
  replace hB := Lib.hid (hB.out.keeps (Keeps.refl [] W).drew)
  (repeat (first | (apply Free.cw_pure rfl rfl; (intro w'; go_simp <;> exact rfl); go_frame) | (apply Free.cw_steady rfl rfl rfl; (intro w' hS; have q0 := Free.sx_cell hS i0 (fun _ _ hT => hT); have q1 := Free.sx_cell hS i1 (fun _ _ hT => hT); have q2 := Free.sx_cell hS i2 (fun _ _ hT => hT); go_simp <;> exact rfl); go_frame) | (refine Free.cw_skip rfl ?_; go_frame)))
  refine Free.cw_loud rfl rfl (fun K hK => ?_)
  have hc := pI_c _ _ l x0 hB.out hx0 (by omega)
  obtain ⟨l0, hl0⟩ : ∃ y, l ++ encI x0 = y := ⟨_, rfl⟩
  rw [hl0] at hc
  have hn0 : l0.length ≤ l.length + 9 := by rw [← hl0, List.length_append]; have := encI_len hx0; omega
  replace hc := Lib.hid hc
  replace hl0 := Lib.hid hl0
  go_wp2_with fail
  refine hc.out.mono ?_
  rintro e w0 ⟨v0, rfl, hB0, hk0⟩
  refine hK _ _ rfl (Free.KeepsP.of hk0 (by simp)) ?_
  clear hK K hc hB
  have hB := Lib.hid hB0
  replace hkr := Lib.hid (hkr.out.trans hk0)
  clear hB0 hk0
  (repeat (first | (apply Free.cw_pure rfl rfl; (intro w'; go_simp <;> exact rfl); go_frame) | (apply Free.cw_steady rfl rfl rfl; (intro w' hS; have q0 := Free.sx_cell hS i0 (fun _ _ hT => hT); have q1 := Free.sx_cell hS i1 (fun _ _ hT => hT); have q2 := Free.sx_cell hS i2 (fun _ _ hT => hT); go_simp <;> exact rfl); go_frame) | (refine Free.cw_skip rfl ?_; go_frame)))
  refine Free.cw_loud rfl rfl (fun K hK => ?_)
  have hc := pU_c _ _ l0 x1 hB.out hx1 (by omega)
  obtain ⟨l1, hl1⟩ : ∃ y, l0 ++ encU x1 = y := ⟨_, rfl⟩
  rw [hl1] at hc
  have hn1 : l1.length ≤ l0.length + 9 := by rw [← hl1, List.length_append]; have := encU_len (n := x1) hx1; omega
  replace hc := Lib.hid hc
  replace hl1 := Lib.hid hl1
  go_wp2_with fail
  refine hc.out.mono ?_
  rintro e w1 ⟨v1, rfl, hB1, hk1⟩
  refine hK _ _ rfl (Free.KeepsP.of hk1 (by simp)) ?_
  clear hK K hc hB
  have hB := Lib.hid hB1
  replace hkr := Lib.hid (hkr.out.trans hk1)
  clear hB1 hk1
  (repeat (first | (apply Free.cw_pure rfl rfl; (intro w'; go_simp <;> exact rfl); go_frame) | (apply Free.cw_steady rfl rfl rfl; (intro w' hS; have q0 := Free.sx_cell hS i0 (fun _ _ hT => hT); have q1 := Free.sx_cell hS i1 (fun _ _ hT => hT); have q2 := Free.sx_cell hS i2 (fun _ _ hT => hT); go_simp <;> exact rfl); go_frame) | (refine Free.cw_skip rfl ?_; go_frame)))
  refine Free.cw_loud rfl rfl (fun K hK => ?_)
  have hc := pI_c _ _ l1 x2 hB.out hx2 (by omega)
  obtain ⟨l2, hl2⟩ : ∃ y, l1 ++ encI x2 = y := ⟨_, rfl⟩
  rw [hl2] at hc
  have hn2 : l2.length ≤ l1.length + 9 := by rw [← hl2, List.length_append]; have := encI_len hx2; omega
  replace hc := Lib.hid hc
  replace hl2 := Lib.hid hl2
  go_wp2_with fail
  refine hc.out.mono ?_
  rintro e w2 ⟨v2, rfl, hB2, hk2⟩
  refine hK _ _ rfl (Free.KeepsP.of hk2 (by simp)) ?_
  clear hK K hc hB
  have hB := Lib.hid hB2
  replace hkr := Lib.hid (hkr.out.trans hk2)
  clear hB2 hk2
  (repeat (apply Free.cw_pure rfl rfl; (intro w'; go_simp <;> exact rfl); go_frame))
  refine Free.cw_nil ?_
  go_wp2
  go_ret
  exact ⟨_, rfl, by rw [← hres.out l2 (by rw [← hl2.out, ← hl1.out, ← hl0.out])]; exact hB.out, hkA.out.trans hkr.out⟩
set_option maxRecDepth 100000 in
set_option maxHeartbeats 4000000 in
theorem pNs_c (w : World) (v : Value) (l : List UInt8) (vl : Value) (L : List T3) (hR : shT.R w vl L) (hf : ∀ x ∈ L, T3.Fit x) (h : SlB w v l) (hl : l.length + 30 * L.length ≤ 140737488354800) :
    Calls Tryz.prog 58 #[v, vl] w fun e w' => ∃ v', e = .returned v' ∧ SlB w' v' (l ++ encNs L) ∧ Keeps [] w w' := by
  obtain ⟨a, c, rfl, hlc, hcm, _⟩ := hR.form
  obtain ⟨M, hM⟩ : ∃ N, L.length = N := ⟨_, rfl⟩
  rw [hM] at hlc hl hR ⊢
  have hB := Lib.hid h
  have hwM : IntKind.u64.wrap (M : Int) = M := by rw [IntKind.wrap_u64]; omega
  replace hM := Lib.hid hM
  replace hR := Lib.hid hR
  replace hf := Lib.hid hf
  clear h
  go_enter Tryz.func58, Tryz.ntmps58
  have hc := pU_c _ _ l M hB.out (by omega) (by omega)
  obtain ⟨la, hla⟩ : ∃ y, l ++ encU M = y := ⟨_, rfl⟩
  rw [hla] at hc
  have hna : la.length ≤ l.length + 9 := by rw [← hla, List.length_append]; have := encU_len (n := M) (by omega); omega
  replace hc := Lib.hid hc
  replace hla := Lib.hid hla
  go_wp2_with fail
  refine hc.out.mono ?_
  rintro e wa ⟨va, rfl, hBa, hka⟩
  clear hc hB
  have hB := Lib.hid hBa
  have hkr := Lib.hid hka
  clear hBa hka
  have hkA := hkr
  clear hkr
  go_wp2
  go_loopw [0, 5] (fun bv i wr => ∃ (k : Nat) (lk : List UInt8), i = .int .i64 k ∧ k ≤ M ∧ Hid (SlB wr bv lk) ∧ Hid (lk = la ++ encXs (L.take k)) ∧ Hid (lk.length ≤ la.length + 27 * k) ∧ Hid (Keeps [] wa wr)) (fun _ i _ => M - (intOf i).toNat)
  case atStart => exact ⟨0, la, rfl, by omega, hB, Lib.hid (by simp [encXs]), Lib.hid (by omega), Lib.hid (Keeps.refl _ _)⟩
  case round =>
    clear hB
    obtain ⟨k, lk, rfl, hk, hB, hlk, hlen, hkw⟩ := hrel
    by_cases hlt : k < M
    · have hlt2 : (k : Int) < M := by omega
      have hkl : k < L.length := by rw [hM.out]; exact hlt
      obtain ⟨g, o, c', hv, he⟩ := (hR.out.keeps (hkA.out.trans hkw.out)).elem hkl
      rw [hM.out] at hv
      cases hv
      have hfx := hf.out _ (List.getElem_mem hkl)
      have hsucc := encXs_take L k hkl
      obtain ⟨⟨n0, n1, n2⟩, hz⟩ : ∃ z, L[k] = z := ⟨_, rfl⟩
      rw [hz] at he hfx hsucc
      have t0 := he 0 _ rfl
      have t1 := he 1 _ rfl
      have t2 := he 2 _ rfl
      simp only [shT, Nat.add_zero] at t0 t1 t2
      have hlen2 := hlen.out
      replace hz := Lib.hid hz
      replace hfx := Lib.hid hfx
      replace hsucc := Lib.hid hsucc
      clear he
      have hc := pN_c _ _ lk (n0, n1, n2) hB.out hfx.out (by omega)
      obtain ⟨lb, hlb⟩ : ∃ y, lk ++ encX (n0, n1, n2) = y := ⟨_, rfl⟩
      rw [hlb] at hc
      have hnb : lb.length ≤ lk.length + 27 := by rw [← hlb, List.length_append]; have := encX_len hfx.out.ins; omega
      simp only [tV] at hc
      replace hc := Lib.hid hc
      replace hlb := Lib.hid hlb
      go_wp2_with fail
      refine hc.out.mono ?_
      rintro e wb ⟨vb, rfl, hBb, hkb⟩
      clear hc hB
      have hB := Lib.hid hBb
      have hkr := Lib.hid hkb
      clear hBb hkb
      have hlb2 : Hid (lb = la ++ encXs (L.take (k + 1))) := Lib.hid (by rw [← hlb.out, hlk.out, hsucc.out, List.append_assoc])
      have hlb3 : Hid (lb.length ≤ la.length + 27 * (k + 1)) := Lib.hid (by omega)
      have hkz := Lib.hid (hkw.out.trans hkr.out)
      go_wp2
      go_roundw
      case rel => exact ⟨k + 1, lb, rfl, by omega, hB, hlb2, hlb3, hkz⟩
      case measure => simp [intOf]; omega
    · have hlt2 : ¬ ((k : Int) < M) := by omega
      have hkM : k = L.length := by have := hM.out; omega
      have hres : Hid (lk = l ++ encNs L) := Lib.hid (by rw [hlk.out, ← hla.out, hkM, List.take_length]; unfold encNs; rw [hM.out, List.append_assoc])
      replace hkM := Lib.hid hkM
      go_wp2
      go_ret
      exact ⟨_, rfl, by rw [← hres.out]; exact hB.out, hkA.out.trans hkw.out⟩
theorem encNs_len {L : List T3} (h : ∀ x ∈ L, T3.Fit x) (hl : L.length < 18446744073709551616) : (encNs L).length ≤ 9 + 27 * L.length := by
  unfold encNs
  rw [List.length_append]
  have h1 := encU_len (n := L.length) hl
  have h2 := encXs_len (L := L) (fun x hx => (h x hx).ins)
  omega
set_option maxRecDepth 100000 in
set_option maxHeartbeats 16000000 in
theorem encodeS_c (w : World) (x : CtV) (c : Ct) (h : CtW w x c) (hf : c.Fit) (hw : c.wt ≤ 140737488354000) :
    Calls Tryz.prog 12 #[ctV x] w fun e w' => ∃ v', e = .returned v' ∧ SlB w' v' (encCt c) ∧ Keeps [] w w' := by
  have hf0 := hf.im
  have hf1 := hf.is
  have hf2 := hf.st
  have him := h.im
  have his := h.is
  have hs0 := h.s0
  have hs1 := h.s1
  have hs2 := h.s2
  have han := h.an
  have hcl := h.cl
  obtain ⟨x0, x1, x2, x3, x4, ⟨x5, x6, x7⟩, ⟨x8, x9, x10⟩⟩ := x
  simp only [slv] at han hcl
  simp only at him his hs0 hs1 hs2
  obtain ⟨_, _, e1, hla, hca⟩ := han.form
  obtain ⟨_, _, e2, hlc, hcc⟩ := hcl.form
  simp only [Value.slice.injEq] at e1 e2
  obtain ⟨-, e1, -⟩ := e1
  obtain ⟨-, e2, -⟩ := e2
  have hx6 : x6 ≤ 9223372036854775807 := by unfold maxLen at hca; omega
  have hx9 : x9 ≤ 9223372036854775807 := by unfold maxLen at hcc; omega
  have hw6 : IntKind.u64.wrap (x6 : Int) = x6 := by rw [IntKind.wrap_u64]; omega
  have hw9 : IntKind.u64.wrap (x9 : Int) = x9 := by rw [IntKind.wrap_u64]; omega
  have hkA := (Keeps.refl [] w).alloc (.cells #[.int .i64 x0, .int .i64 x1, .int .i64 x2, .int .u64 x3, .int .i64 x4, .slice x5 x6 x7, .slice x8 x9 x10] tCt)
  have hA := heap_alloc_new w (.cells #[.int .i64 x0, .int .i64 x1, .int .i64 x2, .int .u64 x3, .int .i64 x4, .slice x5 x6 x7, .slice x8 x9 x10] tCt)
  have hst : c.st = (x2, x3, x4) := Prod.ext hs0.symm (Prod.ext hs1.symm hs2.symm)
  rw [← him] at hf0
  rw [← his] at hf1
  rw [hst] at hf2
  have henc : encCt c = encI x0 ++ encI x1 ++ encX (x2, x3, x4) ++ encU x6 ++ encH c.an ++ encU x9 ++ encPs c.cl := by unfold encCt; rw [him, his, hst, e1, e2]
  rw [henc]
  have hwA := fun k => sum_takeLe wA c.an k
  have hwP := fun k => sum_takeLe wP c.cl k
  unfold Ct.wt at hw
  obtain ⟨SA, hSA⟩ : ∃ n, (c.an.map wA).sum = n := ⟨_, rfl⟩
  obtain ⟨SP, hSP⟩ : ∃ n, (c.cl.map wP).sum = n := ⟨_, rfl⟩
  rw [hSA] at hw hwA
  rw [hSP] at hw hwP
  have hB : Hid (SlB (w.alloc (.cells #[.int .i64 x0, .int .i64 x1, .int .i64 x2, .int .u64 x3, .int .i64 x4, .slice x5 x6 x7, .slice x8 x9 x10] tCt)) (.slice none 0 0) []) := Lib.hid (SlB.nil _)
  have hnil : ([] : List UInt8).length = 0 := rfl
  replace hf0 := Lib.hid hf0
  replace hf1 := Lib.hid hf1
  replace hf2 := Lib.hid hf2
  replace han := Lib.hid han
  replace hcl := Lib.hid hcl
  replace e1 := Lib.hid e1
  replace e2 := Lib.hid e2
  replace hkA := Lib.hid hkA
  replace hA := Lib.hid hA
  replace hf := Lib.hid hf
  replace hwA := Lib.hid hwA
  replace hwP := Lib.hid hwP
  replace hSA := Lib.hid hSA
  replace hSP := Lib.hid hSP
  clear h him his hs0 hs1 hs2 hst henc
  simp only [ctV, slv]
  go_enter Tryz.func12, Tryz.ntmps12
  go_upto_region 1 with fail
  generalize (w.alloc (.cells #[.int .i64 x0, .int .i64 x1, .int .i64 x2, .int .u64 x3, .int .i64 x4, .slice x5 x6 x7, .slice x8 x9 x10] tCt)) = W at *
  obtain ⟨B, hBB⟩ : ∃ B, w.heap.size = B := ⟨_, rfl⟩
  rw [hBB] at hA ⊢
  replace hBB := Lib.hid hBB
  obtain ⟨i0, i1, i2, i3, i4, i5, i6, if', il⟩ := cl7 hA.out
  refine Free.wp_region_chain (fun i => i == 3 || i == 7 || i == 10) (fun i => true) (fun _ _ => False) (by kernel_rfl) (by kernel_rfl) (by kernel_rfl) ?_
  have hkr := Lib.hid ((Keeps.refl [] W).drew)
  replace hB := Lib.hid (hB.out.keeps (Keeps.refl [] W).drew)
  (repeat (first | (apply Free.cw_pure rfl rfl; (intro w'; go_simp <;> exact rfl); go_frame) | (apply Free.cw_steady rfl rfl rfl; (intro w' hS; have q0 := Free.sx_cell hS i0 (fun _ _ hT => hT); have q1 := Free.sx_cell hS i1 (fun _ _ hT => hT); have q2 := Free.sx_cell hS i2 (fun _ _ hT => hT); have q3 := Free.sx_cell hS i3 (fun _ _ hT => hT); have q4 := Free.sx_cell hS i4 (fun _ _ hT => hT); have q5 := Free.sx_cell hS i5 (fun _ _ hT => hT); have q6 := Free.sx_cell hS i6 (fun _ _ hT => hT); go_simp <;> exact rfl); go_frame) | (refine Free.cw_skip rfl ?_; go_frame)))
  refine Free.cw_loud rfl rfl (fun K hK => ?_)
  have hc := pI_c _ _ ([] : List UInt8) x0 hB.out hf0.out (by omega)
  obtain ⟨la0, hla0⟩ : ∃ y, ([] : List UInt8) ++ encI x0 = y := ⟨_, rfl⟩
  rw [hla0] at hc
  have hna0 : la0.length ≤ ([] : List UInt8).length + 9 := by rw [← hla0, List.length_append]; have := encI_len hf0.out; omega
  replace hc := Lib.hid hc
  replace hla0 := Lib.hid hla0
  go_wp2_with fail
  refine hc.out.mono ?_
  rintro e wa0 ⟨va0, rfl, hBa0, hka0⟩
  refine hK _ _ rfl (Free.KeepsP.of hka0 (by simp)) ?_
  clear hK K hc hB
  have hB := Lib.hid hBa0
  replace hkr := Lib.hid (hkr.out.trans hka0)
  clear hBa0 hka0
  (repeat (first | (apply Free.cw_pure rfl rfl; (intro w'; go_simp <;> exact rfl); go_frame) | (apply Free.cw_steady rfl rfl rfl; (intro w' hS; have q0 := Free.sx_cell hS i0 (fun _ _ hT => hT); have q1 := Free.sx_cell hS i1 (fun _ _ hT => hT); have q2 := Free.sx_cell hS i2 (fun _ _ hT => hT); have q3 := Free.sx_cell hS i3 (fun _ _ hT => hT); have q4 := Free.sx_cell hS i4 (fun _ _ hT => hT); have q5 := Free.sx_cell hS i5 (fun _ _ hT => hT); have q6 := Free.sx_cell hS i6 (fun _ _ hT => hT); go_simp <;> exact rfl); go_frame) | (refine Free.cw_skip rfl ?_; go_frame)))
  refine Free.cw_loud rfl rfl (fun K hK => ?_)
  have hc := pI_c _ _ la0 x1 hB.out hf1.out (by omega)
  obtain ⟨la1, hla1⟩ : ∃ y, la0 ++ encI x1 = y := ⟨_, rfl⟩
  rw [hla1] at hc
  have hna1 : la1.length ≤ la0.length + 9 := by rw [← hla1, List.length_append]; have := encI_len hf1.out; omega
  replace hc := Lib.hid hc
  replace hla1 := Lib.hid hla1
  go_wp2_with fail
  refine hc.out.mono ?_
  rintro e wa1 ⟨va1, rfl, hBa1, hka1⟩
  refine hK _ _ rfl (Free.KeepsP.of hka1 (by simp)) ?_
  clear hK K hc hB
  have hB := Lib.hid hBa1
  replace hkr := Lib.hid (hkr.out.trans hka1)
  clear hBa1 hka1
  (repeat (first | (apply Free.cw_pure rfl rfl; (intro w'; go_simp <;> exact rfl); go_frame) | (apply Free.cw_steady rfl rfl rfl; (intro w' hS; have q0 := Free.sx_cell hS i0 (fun _ _ hT => hT); have q1 := Free.sx_cell hS i1 (fun _ _ hT => hT); have q2 := Free.sx_cell hS i2 (fun _ _ hT => hT); have q3 := Free.sx_cell hS i3 (fun _ _ hT => hT); have q4 := Free.sx_cell hS i4 (fun _ _ hT => hT); have q5 := Free.sx_cell hS i5 (fun _ _ hT => hT); have q6 := Free.sx_cell hS i6 (fun _ _ hT => hT); go_simp <;> exact rfl); go_frame) | (refine Free.cw_skip rfl ?_; go_frame)))
  refine Free.cw_loud rfl rfl (fun K hK => ?_)
  have hc := pN_c _ _ la1 (x2, x3, x4) hB.out hf2.out (by omega)
  obtain ⟨la2, hla2⟩ : ∃ y, la1 ++ encX (x2, x3, x4) = y := ⟨_, rfl⟩
  rw [hla2] at hc
  have hna2 : la2.length ≤ la1.length + 27 := by rw [← hla2, List.length_append]; have := encX_len hf2.out.ins; omega
  simp only [tV] at hc
  replace hc := Lib.hid hc
  replace hla2 := Lib.hid hla2
  go_wp2_with fail
  refine hc.out.mono ?_
  rintro e wa2 ⟨va2, rfl, hBa2, hka2⟩
  refine hK _ _ rfl (Free.KeepsP.of hka2 (by simp)) ?_
  clear hK K hc hB
  have hB := Lib.hid hBa2
  replace hkr := Lib.hid (hkr.out.trans hka2)
  clear hBa2 hka2
  (repeat (apply Free.cw_pure rfl rfl; (intro w'; go_simp <;> exact rfl); go_frame))
  refine Free.cw_nil ?_
  replace hA := Lib.hid ((hkr.out.block _ (lt_of_blk hA.out) (by simp)).trans hA.out)
  replace hkA := Lib.hid (hkA.out.trans hkr.out)
  clear i0 i1 i2 i3 i4 i5 i6 if' il hkr
  obtain ⟨i0, i1, i2, i3, i4, i5, i6, if', il⟩ := cl7 hA.out
  have hc := pU_c _ _ la2 x6 hB.out (by omega) (by omega)
  obtain ⟨lb, hlb⟩ : ∃ y, la2 ++ encU x6 = y := ⟨_, rfl⟩
  rw [hlb] at hc
  have hnb : lb.length ≤ la2.length + 9 := by rw [← hlb, List.length_append]; have := encU_len (n := x6) (by omega); omega
  replace hc := Lib.hid hc
  replace hlb := Lib.hid hlb
  go_wp2_with fail
  refine hc.out.mono ?_
  rintro e wb ⟨vb, rfl, hBb, hkb⟩
  clear hc hB
  have hB := Lib.hid hBb
  have hkr := Lib.hid hkb
  clear hBb hkb
  replace hA := Lib.hid ((hkr.out.block _ (lt_of_blk hA.out) (by simp)).trans hA.out)
  replace hkA := Lib.hid (hkA.out.trans hkr.out)
  clear i0 i1 i2 i3 i4 i5 i6 if' il hkr
  have hlb2 : Hid (lb = encI x0 ++ encI x1 ++ encX (x2, x3, x4) ++ encU x6) := Lib.hid (by rw [← hlb.out, ← hla2.out, ← hla1.out, ← hla0.out, List.nil_append])
  have hlb100 : lb.length ≤ 60 := by omega
  go_wp2
  go_loopw [3, 4] (fun bv i wr => ∃ (k : Nat) (lk : List UInt8), i = .int .i64 k ∧ k ≤ x6 ∧ Hid (SlB wr bv lk) ∧ Hid (lk = lb ++ encH (c.an.take k)) ∧ Hid (lk.length ≤ 60 + ((c.an.take k).map wA).sum) ∧ Hid (Keeps [] wb wr)) (fun _ i _ => x6 - (intOf i).toNat)
  case atStart => exact ⟨0, lb, rfl, by omega, hB, Lib.hid (by simp [encH]), Lib.hid (by simp; omega), Lib.hid (Keeps.refl _ _)⟩
  case round =>
    clear hB
    obtain ⟨k, lk, rfl, hk, hB, hlk, hlen, hkw⟩ := hrel
    have hAr := (hkw.out.block _ (lt_of_blk hA.out) (by simp)).trans hA.out
    obtain ⟨i0, i1, i2, i3, i4, i5, i6, if', il⟩ := cl7 hAr
    have hkF := Lib.hid (hkA.out.trans hkw.out)
    by_cases hlt : k < x6
    · have hlt2 : (k : Int) < x6 := by omega
      have hkl : k < c.an.length := by rw [← e1.out]; exact hlt
      have hsucc := encH_take c.an k hkl
      have hsum := sum_succ wA c.an k hkl
      have hsum2 := hwA.out (k + 1)
      obtain ⟨g, o, c', y, hv, hy, he⟩ := han.out.elem hkl
      rw [← e1.out] at hv
      cases hv
      have haf := hf.out.an _ (List.getElem_mem hkl)
      obtain ⟨a, ha⟩ : ∃ a, c.an[k] = a := ⟨_, rfl⟩
      rw [ha] at hy hsucc hsum haf
      obtain ⟨_, _, ev, hl1, hl2, _⟩ := hy.ins.form
      have hins := hy.ins
      have m0 := hy.m
      have m1 := hy.ow
      have m2 := hy.n
      have m3 := hy.ep
      have m4 := hy.kn
      have m5 := hy.rt
      have m6 := hy.lu
      have ha0 := haf.q.1
      have ha1 := haf.q.2.1
      have ha2 := haf.q.2.2
      have ha3 := haf.ep
      have ha6 := haf.lu
      obtain ⟨y0, y1, y2, y3, y4, y5, y6, y7, y8, y9⟩ := y
      simp only [AnV.v] at ev hins
      simp only at m0 m1 m2 m3 m4 m5 m6
      simp only [Value.slice.injEq] at ev
      obtain ⟨-, ev, -⟩ := ev
      simp only [Ans.q] at ha0 ha1 ha2
      rw [← m0] at ha0
      rw [← m1] at ha1
      rw [← m2] at ha2
      rw [← m3] at ha3
      rw [← m6] at ha6
      have henA : encA a = encI y0 ++ encI y1 ++ encU y2 ++ encI y3 ++ encB y4 ++ encB y5 ++ encI y6 ++ encU y8 ++ encXs a.ins := by unfold encA encA0; rw [m0, m1, m2, m3, m4, m5, m6, ev]
      have hwa : wA a = 100 + 30 * y8 := by unfold wA; rw [ev]
      have hy8 : y8 ≤ 9223372036854775807 := by unfold maxLen at hl2; omega
      have hw8 : IntKind.u64.wrap (y8 : Int) = y8 := by rw [IntKind.wrap_u64]; omega
      rw [hwa] at hsum
      have e0 := hkF.out.val (he 0 _ rfl)
      have e1' := hkF.out.val (he 1 _ rfl)
      have e2' := hkF.out.val (he 2 _ rfl)
      have e3 := hkF.out.val (he 3 _ rfl)
      have e4 := hkF.out.val (he 4 _ rfl)
      have e5 := hkF.out.val (he 5 _ rfl)
      have e6 := hkF.out.val (he 6 _ rfl)
      have e7 := hkF.out.val (he 7 _ rfl)
      simp only [AnV.v, Nat.add_zero] at e0 e1' e2' e3 e4 e5 e6 e7
      have hbN := heap_alloc_new wr (.cells #[.int .i64 y0, .int .i64 y1, .int .u64 y2, .int .i64 y3, .bool y4, .bool y5, .int .i64 y6, .slice y7 y8 y9] tA)
      have hka := (Keeps.refl [] wr).alloc (.cells #[.int .i64 y0, .int .i64 y1, .int .u64 y2, .int .i64 y3, .bool y4, .bool y5, .int .i64 y6, .slice y7 y8 y9] tA)
      have hkn := Lib.hid (hkw.out.trans hka)
      have hkG := Lib.hid (hkF.out.trans hka)
      obtain ⟨SK, hSK⟩ : ∃ n, ((c.an.take k).map wA).sum = n := ⟨_, rfl⟩
      obtain ⟨SK1, hSK1⟩ : ∃ n, ((c.an.take (k + 1)).map wA).sum = n := ⟨_, rfl⟩
      rw [hSK] at hlen hsum
      rw [hSK1] at hsum hsum2
      have hlen2 := hlen.out
      have hsb : SK + (100 + 30 * y8) ≤ SA := by omega
      replace hB := Lib.hid (hB.out.keeps hka)
      replace ha := Lib.hid ha
      replace ev := Lib.hid ev
      replace hins := Lib.hid hins
      replace ha0 := Lib.hid ha0
      replace ha1 := Lib.hid ha1
      replace ha2 := Lib.hid ha2
      replace ha3 := Lib.hid ha3
      replace ha6 := Lib.hid ha6
      replace haf := Lib.hid haf
      replace henA := Lib.hid henA
      replace hsucc := Lib.hid hsucc
      replace hsum := Lib.hid hsum
      replace hSK := Lib.hid hSK
      replace hSK1 := Lib.hid hSK1
      replace hbN := Lib.hid hbN
      clear he hy hka hl1 hl2 m0 m1 m2 m3 m4 m5 m6 hsum2 hwa
      go_upto_region 7 with fail
      generalize (wr.alloc (.cells #[.int .i64 y0, .int .i64 y1, .int .u64 y2, .int .i64 y3, .bool y4, .bool y5, .int .i64 y6, .slice y7 y8 y9] tA)) = WN at *
      obtain ⟨XN, hXN⟩ : ∃ X, wr.heap.size = X := ⟨_, rfl⟩
      rw [hXN] at hbN ⊢
      replace hXN := Lib.hid hXN
      clear i0 i1 i2 i3 i4 i5 i6 if' il e0 e1' e2' e3 e4 e5 e6 e7
      obtain ⟨e0, e1', e2, e3, e4, e5, e6, e7, ef, el⟩ := cl8 hbN.out
      refine Free.wp_region_chain (fun i => i == 3 || i == 6 || i == 9) (fun i => true) (fun _ _ => False) (by kernel_rfl) (by kernel_rfl) (by kernel_rfl) ?_
      have hkr := Lib.hid ((Keeps.refl [] WN).drew)
      replace hB := Lib.hid (hB.out.keeps (Keeps.refl [] WN).drew)
      (repeat (first | (apply Free.cw_pure rfl rfl; (intro w'; go_simp <;> exact rfl); go_frame) | (apply Free.cw_steady rfl rfl rfl; (intro w' hS; have q0 := Free.sx_cell hS e0 (fun _ _ hT => hT); have q1 := Free.sx_cell hS e1' (fun _ _ hT => hT); have q2 := Free.sx_cell hS e2 (fun _ _ hT => hT); have q3 := Free.sx_cell hS e3 (fun _ _ hT => hT); have q4 := Free.sx_cell hS e4 (fun _ _ hT => hT); have q5 := Free.sx_cell hS e5 (fun _ _ hT => hT); have q6 := Free.sx_cell hS e6 (fun _ _ hT => hT); have q7 := Free.sx_cell hS e7 (fun _ _ hT => hT); go_simp <;> exact rfl); go_frame) | (refine Free.cw_skip rfl ?_; go_frame)))
      refine Free.cw_loud rfl rfl (fun K hK => ?_)
      have hc := pI_c _ _ lk y0 hB.out ha0.out (by omega)
      obtain ⟨lc0, hlc0⟩ : ∃ y, lk ++ encI y0 = y := ⟨_, rfl⟩
      rw [hlc0] at hc
      have hnc0 : lc0.length ≤ lk.length + 9 := by rw [← hlc0, List.length_append]; have := encI_len ha0.out; omega
      replace hc := Lib.hid hc
      replace hlc0 := Lib.hid hlc0
      go_wp2_with fail
      refine hc.out.mono ?_
      rintro e wc0 ⟨vc0, rfl, hBc0, hkc0⟩
      refine hK _ _ rfl (Free.KeepsP.of hkc0 (by simp)) ?_
      clear hK K hc hB
      have hB := Lib.hid hBc0
      replace hkr := Lib.hid (hkr.out.trans hkc0)
      clear hBc0 hkc0
      (repeat (first | (apply Free.cw_pure rfl rfl; (intro w'; go_simp <;> exact rfl); go_frame) | (apply Free.cw_steady rfl rfl rfl; (intro w' hS; have q0 := Free.sx_cell hS e0 (fun _ _ hT => hT); have q1 := Free.sx_cell hS e1' (fun _ _ hT => hT); have q2 := Free.sx_cell hS e2 (fun _ _ hT => hT); have q3 := Free.sx_cell hS e3 (fun _ _ hT => hT); have q4 := Free.sx_cell hS e4 (fun _ _ hT => hT); have q5 := Free.sx_cell hS e5 (fun _ _ hT => hT); have q6 := Free.sx_cell hS e6 (fun _ _ hT => hT); have q7 := Free.sx_cell hS e7 (fun _ _ hT => hT); go_simp <;> exact rfl); go_frame) | (refine Free.cw_skip rfl ?_; go_frame)))
      refine Free.cw_loud rfl rfl (fun K hK => ?_)
      have hc := pI_c _ _ lc0 y1 hB.out ha1.out (by omega)
      obtain ⟨lc1, hlc1⟩ : ∃ y, lc0 ++ encI y1 = y := ⟨_, rfl⟩
      rw [hlc1] at hc
      have hnc1 : lc1.length ≤ lc0.length + 9 := by rw [← hlc1, List.length_append]; have := encI_len ha1.out; omega
      replace hc := Lib.hid hc
      replace hlc1 := Lib.hid hlc1
      go_wp2_with fail
      refine hc.out.mono ?_
      rintro e wc1 ⟨vc1, rfl, hBc1, hkc1⟩
      refine hK _ _ rfl (Free.KeepsP.of hkc1 (by simp)) ?_
      clear hK K hc hB
      have hB := Lib.hid hBc1
      replace hkr := Lib.hid (hkr.out.trans hkc1)
      clear hBc1 hkc1
      (repeat (first | (apply Free.cw_pure rfl rfl; (intro w'; go_simp <;> exact rfl); go_frame) | (apply Free.cw_steady rfl rfl rfl; (intro w' hS; have q0 := Free.sx_cell hS e0 (fun _ _ hT => hT); have q1 := Free.sx_cell hS e1' (fun _ _ hT => hT); have q2 := Free.sx_cell hS e2 (fun _ _ hT => hT); have q3 := Free.sx_cell hS e3 (fun _ _ hT => hT); have q4 := Free.sx_cell hS e4 (fun _ _ hT => hT); have q5 := Free.sx_cell hS e5 (fun _ _ hT => hT); have q6 := Free.sx_cell hS e6 (fun _ _ hT => hT); have q7 := Free.sx_cell hS e7 (fun _ _ hT => hT); go_simp <;> exact rfl); go_frame) | (refine Free.cw_skip rfl ?_; go_frame)))
      refine Free.cw_loud rfl rfl (fun K hK => ?_)
      have hc := pU_c _ _ lc1 y2 hB.out ha2.out (by omega)
      obtain ⟨lc2, hlc2⟩ : ∃ y, lc1 ++ encU y2 = y := ⟨_, rfl⟩
      rw [hlc2] at hc
      have hnc2 : lc2.length ≤ lc1.length + 9 := by rw [← hlc2, List.length_append]; have := encU_len (n := y2) ha2.out; omega
      replace hc := Lib.hid hc
      replace hlc2 := Lib.hid hlc2
      go_wp2_with fail
      refine hc.out.mono ?_
      rintro e wc2 ⟨vc2, rfl, hBc2, hkc2⟩
      refine hK _ _ rfl (Free.KeepsP.of hkc2 (by simp)) ?_
      clear hK K hc hB
      have hB := Lib.hid hBc2
      replace hkr := Lib.hid (hkr.out.trans hkc2)
      clear hBc2 hkc2
      (repeat (apply Free.cw_pure rfl rfl; (intro w'; go_simp <;> exact rfl); go_frame))
      refine Free.cw_nil ?_
      replace hbN := Lib.hid ((hkr.out.block _ (lt_of_blk hbN.out) (by simp)).trans hbN.out)
      replace hkn := Lib.hid (hkn.out.trans hkr.out)
      replace hkG := Lib.hid (hkG.out.trans hkr.out)
      clear e0 e1' e2 e3 e4 e5 e6 e7 ef el hkr
      obtain ⟨e0, e1', e2, e3, e4, e5, e6, e7, ef, el⟩ := cl8 hbN.out
      go_upto_region 8 with fail
      refine Free.wp_region_chain (fun i => i == 3 || i == 6 || i == 9) (fun i => true) (fun _ _ => False) (by kernel_rfl) (by kernel_rfl) (by kernel_rfl) ?_
      have hkr := Lib.hid ((Keeps.refl [] wc2).drew)
      replace hB := Lib.hid (hB.out.keeps (Keeps.refl [] wc2).drew)
      (repeat (first | (apply Free.cw_pure rfl rfl; (intro w'; go_simp <;> exact rfl); go_frame) | (apply Free.cw_steady rfl rfl rfl; (intro w' hS; have q0 := Free.sx_cell hS e0 (fun _ _ hT => hT); have q1 := Free.sx_cell hS e1' (fun _ _ hT => hT); have q2 := Free.sx_cell hS e2 (fun _ _ hT => hT); have q3 := Free.sx_cell hS e3 (fun _ _ hT => hT); have q4 := Free.sx_cell hS e4 (fun _ _ hT => hT); have q5 := Free.sx_cell hS e5 (fun _ _ hT => hT); have q6 := Free.sx_cell hS e6 (fun _ _ hT => hT); have q7 := Free.sx_cell hS e7 (fun _ _ hT => hT); go_simp <;> exact rfl); go_frame) | (refine Free.cw_skip rfl ?_; go_frame)))
      refine Free.cw_loud rfl rfl (fun K hK => ?_)
      have hc := pI_c _ _ lc2 y3 hB.out ha3.out (by omega)
      obtain ⟨ld0, hld0⟩ : ∃ y, lc2 ++ encI y3 = y := ⟨_, rfl⟩
      rw [hld0] at hc
      have hnd0 : ld0.length ≤ lc2.length + 9 := by rw [← hld0, List.length_append]; have := encI_len ha3.out; omega
      replace hc := Lib.hid hc
      replace hld0 := Lib.hid hld0
      go_wp2_with fail
      refine hc.out.mono ?_
      rintro e wd0 ⟨vd0, rfl, hBd0, hkd0⟩
      refine hK _ _ rfl (Free.KeepsP.of hkd0 (by simp)) ?_
      clear hK K hc hB
      have hB := Lib.hid hBd0
      replace hkr := Lib.hid (hkr.out.trans hkd0)
      clear hBd0 hkd0
      (repeat (first | (apply Free.cw_pure rfl rfl; (intro w'; go_simp <;> exact rfl); go_frame) | (apply Free.cw_steady rfl rfl rfl; (intro w' hS; have q0 := Free.sx_cell hS e0 (fun _ _ hT => hT); have q1 := Free.sx_cell hS e1' (fun _ _ hT => hT); have q2 := Free.sx_cell hS e2 (fun _ _ hT => hT); have q3 := Free.sx_cell hS e3 (fun _ _ hT => hT); have q4 := Free.sx_cell hS e4 (fun _ _ hT => hT); have q5 := Free.sx_cell hS e5 (fun _ _ hT => hT); have q6 := Free.sx_cell hS e6 (fun _ _ hT => hT); have q7 := Free.sx_cell hS e7 (fun _ _ hT => hT); go_simp <;> exact rfl); go_frame) | (refine Free.cw_skip rfl ?_; go_frame)))
      refine Free.cw_loud rfl rfl (fun K hK => ?_)
      have hc := pB_c _ _ ld0 y4 hB.out (by omega)
      obtain ⟨ld1, hld1⟩ : ∃ y, ld0 ++ encB y4 = y := ⟨_, rfl⟩
      rw [hld1] at hc
      have hnd1 : ld1.length ≤ ld0.length + 1 := by rw [← hld1, List.length_append]; have := encB_len y4; omega
      replace hc := Lib.hid hc
      replace hld1 := Lib.hid hld1
      go_wp2_with fail
      refine hc.out.mono ?_
      rintro e wd1 ⟨vd1, rfl, hBd1, hkd1⟩
      refine hK _ _ rfl (Free.KeepsP.of hkd1 (by simp)) ?_
      clear hK K hc hB
      have hB := Lib.hid hBd1
      replace hkr := Lib.hid (hkr.out.trans hkd1)
      clear hBd1 hkd1
      (repeat (first | (apply Free.cw_pure rfl rfl; (intro w'; go_simp <;> exact rfl); go_frame) | (apply Free.cw_steady rfl rfl rfl; (intro w' hS; have q0 := Free.sx_cell hS e0 (fun _ _ hT => hT); have q1 := Free.sx_cell hS e1' (fun _ _ hT => hT); have q2 := Free.sx_cell hS e2 (fun _ _ hT => hT); have q3 := Free.sx_cell hS e3 (fun _ _ hT => hT); have q4 := Free.sx_cell hS e4 (fun _ _ hT => hT); have q5 := Free.sx_cell hS e5 (fun _ _ hT => hT); have q6 := Free.sx_cell hS e6 (fun _ _ hT => hT); have q7 := Free.sx_cell hS e7 (fun _ _ hT => hT); go_simp <;> exact rfl); go_frame) | (refine Free.cw_skip rfl ?_; go_frame)))
      refine Free.cw_loud rfl rfl (fun K hK => ?_)
      have hc := pB_c _ _ ld1 y5 hB.out (by omega)
      obtain ⟨ld2, hld2⟩ : ∃ y, ld1 ++ encB y5 = y := ⟨_, rfl⟩
      rw [hld2] at hc
      have hnd2 : ld2.length ≤ ld1.length + 1 := by rw [← hld2, List.length_append]; have := encB_len y5; omega
      replace hc := Lib.hid hc
      replace hld2 := Lib.hid hld2
      go_wp2_with fail
      refine hc.out.mono ?_
      rintro e wd2 ⟨vd2, rfl, hBd2, hkd2⟩
      refine hK _ _ rfl (Free.KeepsP.of hkd2 (by simp)) ?_
      clear hK K hc hB
      have hB := Lib.hid hBd2
      replace hkr := Lib.hid (hkr.out.trans hkd2)
      clear hBd2 hkd2
      (repeat (apply Free.cw_pure rfl rfl; (intro w'; go_simp <;> exact rfl); go_frame))
      refine Free.cw_nil ?_
      replace hbN := Lib.hid ((hkr.out.block _ (lt_of_blk hbN.out) (by simp)).trans hbN.out)
      replace hkn := Lib.hid (hkn.out.trans hkr.out)
      replace hkG := Lib.hid (hkG.out.trans hkr.out)
      clear e0 e1' e2 e3 e4 e5 e6 e7 ef el hkr
      obtain ⟨e0, e1', e2, e3, e4, e5, e6, e7, ef, el⟩ := cl8 hbN.out
      go_upto_region 9 with fail
      refine Free.wp_region_chain (fun i => i == 3 || i == 8) (fun i => true) (fun _ _ => False) (by kernel_rfl) (by kernel_rfl) (by kernel_rfl) ?_
      have hkr := Lib.hid ((Keeps.refl [] wd2).drew)
      replace hB := Lib.hid (hB.out.keeps (Keeps.refl [] wd2).drew)
      (repeat (first | (apply Free.cw_pure rfl rfl; (intro w'; go_simp <;> exact rfl); go_frame) | (apply Free.cw_steady rfl rfl rfl; (intro w' hS; have q0 := Free.sx_cell hS e0 (fun _ _ hT => hT); have q1 := Free.sx_cell hS e1' (fun _ _ hT => hT); have q2 := Free.sx_cell hS e2 (fun _ _ hT => hT); have q3 := Free.sx_cell hS e3 (fun _ _ hT => hT); have q4 := Free.sx_cell hS e4 (fun _ _ hT => hT); have q5 := Free.sx_cell hS e5 (fun _ _ hT => hT); have q6 := Free.sx_cell hS e6 (fun _ _ hT => hT); have q7 := Free.sx_cell hS e7 (fun _ _ hT => hT); go_simp <;> exact rfl); go_frame) | (refine Free.cw_skip rfl ?_; go_frame)))
      refine Free.cw_loud rfl rfl (fun K hK => ?_)
      have hc := pI_c _ _ ld2 y6 hB.out ha6.out (by omega)
      obtain ⟨le0, hle0⟩ : ∃ y, ld2 ++ encI y6 = y := ⟨_, rfl⟩
      rw [hle0] at hc
      have hne0 : le0.length ≤ ld2.length + 9 := by rw [← hle0, List.length_append]; have := encI_len ha6.out; omega
      replace hc := Lib.hid hc
      replace hle0 := Lib.hid hle0
      go_wp2_with fail
      refine hc.out.mono ?_
      rintro e we0 ⟨ve0, rfl, hBe0, hke0⟩
      refine hK _ _ rfl (Free.KeepsP.of hke0 (by simp)) ?_
      clear hK K hc hB
      have hB := Lib.hid hBe0
      replace hkr := Lib.hid (hkr.out.trans hke0)
      clear hBe0 hke0
      (repeat (first | (apply Free.cw_pure rfl rfl; (intro w'; go_simp <;> exact rfl); go_frame) | (apply Free.cw_steady rfl rfl rfl; (intro w' hS; have q0 := Free.sx_cell hS e0 (fun _ _ hT => hT); have q1 := Free.sx_cell hS e1' (fun _ _ hT => hT); have q2 := Free.sx_cell hS e2 (fun _ _ hT => hT); have q3 := Free.sx_cell hS e3 (fun _ _ hT => hT); have q4 := Free.sx_cell hS e4 (fun _ _ hT => hT); have q5 := Free.sx_cell hS e5 (fun _ _ hT => hT); have q6 := Free.sx_cell hS e6 (fun _ _ hT => hT); have q7 := Free.sx_cell hS e7 (fun _ _ hT => hT); go_simp <;> exact rfl); go_frame) | (refine Free.cw_skip rfl ?_; go_frame)))
      refine Free.cw_loud rfl rfl (fun K hK => ?_)
      have hc := pU_c _ _ le0 y8 hB.out (by omega) (by omega)
      obtain ⟨le1, hle1⟩ : ∃ y, le0 ++ encU y8 = y := ⟨_, rfl⟩
      rw [hle1] at hc
      have hne1 : le1.length ≤ le0.length + 9 := by rw [← hle1, List.length_append]; have := encU_len (n := y8) (by omega); omega
      replace hc := Lib.hid hc
      replace hle1 := Lib.hid hle1
      go_wp2_with fail
      refine hc.out.mono ?_
      rintro e we1 ⟨ve1, rfl, hBe1, hke1⟩
      refine hK _ _ rfl (Free.KeepsP.of hke1 (by simp)) ?_
      clear hK K hc hB
      have hB := Lib.hid hBe1
      replace hkr := Lib.hid (hkr.out.trans hke1)
      clear hBe1 hke1
      (repeat (apply Free.cw_pure rfl rfl; (intro w'; go_simp <;> exact rfl); go_frame))
      refine Free.cw_nil ?_
      replace hbN := Lib.hid ((hkr.out.block _ (lt_of_blk hbN.out) (by simp)).trans hbN.out)
      replace hkn := Lib.hid (hkn.out.trans hkr.out)
      replace hkG := Lib.hid (hkG.out.trans hkr.out)
      clear e0 e1' e2 e3 e4 e5 e6 e7 ef el hkr
      have hle2 : Hid (le1 = lk ++ (encI y0 ++ encI y1 ++ encU y2 ++ encI y3 ++ encB y4 ++ encB y5 ++ encI y6 ++ encU y8)) := Lib.hid (by rw [← hle1.out, ← hle0.out, ← hld2.out, ← hld1.out, ← hld0.out, ← hlc2.out, ← hlc1.out, ← hlc0.out]; simp only [List.append_assoc])
      have hle100 : le1.length ≤ 60 + SK + 60 := by omega
      clear hnc0 hnc1 hnc2 hnd0 hnd1 hnd2 hne0 hne1
      obtain ⟨e0, e1', e2, e3, e4, e5, e6, e7, ef, el⟩ := cl8 hbN.out
      go_wp2
      go_loopw [3, 6] (fun bv i wr => ∃ (q : Nat) (lq : List UInt8), i = .int .i64 q ∧ q ≤ y8 ∧ Hid (SlB wr bv lq) ∧ Hid (lq = le1 ++ encXs (a.ins.take q)) ∧ Hid (lq.length ≤ 60 + SK + 60 + 27 * q) ∧ Hid (Keeps [] we1 wr)) (fun _ i _ => y8 - (intOf i).toNat)
      case atStart => exact ⟨0, le1, rfl, by omega, hB, Lib.hid (by simp [encXs]), Lib.hid (by omega), Lib.hid (Keeps.refl _ _)⟩
      case round =>
        clear hB e0 e1' e2 e3 e4 e5 e6 e7 ef el
        obtain ⟨q, lq, rfl, hq, hB, hlq, hlenq, hkq⟩ := hrel
        have hNq := (hkq.out.block _ (lt_of_blk hbN.out) (by simp)).trans hbN.out
        obtain ⟨e0, e1', e2, e3, e4, e5, e6, e7, ef, el⟩ := cl8 hNq
        by_cases hltq : q < y8
        · have hltq2 : (q : Int) < y8 := by omega
          have hql : q < a.ins.length := by rw [← ev.out]; exact hltq
          have hsq := encXs_take a.ins q hql
          have hfx := haf.out.ins _ (List.getElem_mem hql)
          obtain ⟨gi, oi, ci, hvi, hei⟩ := (hins.out.keeps (hkG.out.trans hkq.out)).elem hql
          rw [← ev.out] at hvi
          cases hvi
          obtain ⟨⟨n0, n1, n2⟩, hz⟩ : ∃ z, a.ins[q] = z := ⟨_, rfl⟩
          rw [hz] at hei hsq hfx
          have t0 := hei 0 _ rfl
          have t1 := hei 1 _ rfl
          have t2 := hei 2 _ rfl
          simp only [shT, Nat.add_zero] at t0 t1 t2
          have hbI := heap_alloc_new wr (.cells #[.int .i64 n0, .int .u64 n1, .int .i64 n2] tI)
          have hkI := (Keeps.refl [] wr).alloc (.cells #[.int .i64 n0, .int .u64 n1, .int .i64 n2] tI)
          have hkqI := Lib.hid (hkq.out.trans hkI)
          replace hB := Lib.hid (hB.out.keeps hkI)
          have hlenq2 := hlenq.out
          replace hbI := Lib.hid hbI
          replace hz := Lib.hid hz
          replace hsq := Lib.hid hsq
          have hfx0 : Hid (W64 n0) := Lib.hid hfx.1
          have hfx1 : Hid (n1 < 18446744073709551616) := Lib.hid hfx.2.1
          have hfx2 : Hid (W64 n2) := Lib.hid hfx.2.2
          clear hfx
          clear hei hkI
          go_upto_region 14 with fail
          generalize (wr.alloc (.cells #[.int .i64 n0, .int .u64 n1, .int .i64 n2] tI)) = WI at *
          obtain ⟨XI, hXI⟩ : ∃ X, wr.heap.size = X := ⟨_, rfl⟩
          rw [hXI] at hbI ⊢
          replace hXI := Lib.hid hXI
          clear t0 t1 t2 e0 e1' e2 e3 e4 e5 e6 e7 ef el
          obtain ⟨t0, t1, t2, tf, tl⟩ := cl3 hbI.out
          refine Free.wp_region_chain (fun i => i == 3 || i == 6 || i == 9) (fun i => true) (fun _ _ => False) (by kernel_rfl) (by kernel_rfl) (by kernel_rfl) ?_
          have hkr := Lib.hid ((Keeps.refl [] WI).drew)
          replace hB := Lib.hid (hB.out.keeps (Keeps.refl [] WI).drew)
          (repeat (first | (apply Free.cw_pure rfl rfl; (intro w'; go_simp <;> exact rfl); go_frame) | (apply Free.cw_steady rfl rfl rfl; (intro w' hS; have q0 := Free.sx_cell hS t0 (fun _ _ hT => hT); have q1 := Free.sx_cell hS t1 (fun _ _ hT => hT); have q2 := Free.sx_cell hS t2 (fun _ _ hT => hT); go_simp <;> exact rfl); go_frame) | (refine Free.cw_skip rfl ?_; go_frame)))
          refine Free.cw_loud rfl rfl (fun K hK => ?_)
          have hc := pI_c _ _ lq n0 hB.out hfx0.out (by omega)
          obtain ⟨lf0, hlf0⟩ : ∃ y, lq ++ encI n0 = y := ⟨_, rfl⟩
          rw [hlf0] at hc
          have hnf0 : lf0.length ≤ lq.length + 9 := by rw [← hlf0, List.length_append]; have := encI_len hfx0.out; omega
          replace hc := Lib.hid hc
          replace hlf0 := Lib.hid hlf0
          go_wp2_with fail
          refine hc.out.mono ?_
          rintro e wf0 ⟨vf0, rfl, hBf0, hkf0⟩
          refine hK _ _ rfl (Free.KeepsP.of hkf0 (by simp)) ?_
          clear hK K hc hB
          have hB := Lib.hid hBf0
          replace hkr := Lib.hid (hkr.out.trans hkf0)
          clear hBf0 hkf0
          (repeat (first | (apply Free.cw_pure rfl rfl; (intro w'; go_simp <;> exact rfl); go_frame) | (apply Free.cw_steady rfl rfl rfl; (intro w' hS; have q0 := Free.sx_cell hS t0 (fun _ _ hT => hT); have q1 := Free.sx_cell hS t1 (fun _ _ hT => hT); have q2 := Free.sx_cell hS t2 (fun _ _ hT => hT); go_simp <;> exact rfl); go_frame) | (refine Free.cw_skip rfl ?_; go_frame)))
          refine Free.cw_loud rfl rfl (fun K hK => ?_)
          have hc := pU_c _ _ lf0 n1 hB.out hfx1.out (by omega)
          obtain ⟨lf1, hlf1⟩ : ∃ y, lf0 ++ encU n1 = y := ⟨_, rfl⟩
          rw [hlf1] at hc
          have hnf1 : lf1.length ≤ lf0.length + 9 := by rw [← hlf1, List.length_append]; have := encU_len (n := n1) hfx1.out; omega
          replace hc := Lib.hid hc
          replace hlf1 := Lib.hid hlf1
          go_wp2_with fail
          refine hc.out.mono ?_
          rintro e wf1 ⟨vf1, rfl, hBf1, hkf1⟩
          refine hK _ _ rfl (Free.KeepsP.of hkf1 (by simp)) ?_
          clear hK K hc hB
          have hB := Lib.hid hBf1
          replace hkr := Lib.hid (hkr.out.trans hkf1)
          clear hBf1 hkf1
          (repeat (first | (apply Free.cw_pure rfl rfl; (intro w'; go_simp <;> exact rfl); go_frame) | (apply Free.cw_steady rfl rfl rfl; (intro w' hS; have q0 := Free.sx_cell hS t0 (fun _ _ hT => hT); have q1 := Free.sx_cell hS t1 (fun _ _ hT => hT); have q2 := Free.sx_cell hS t2 (fun _ _ hT => hT); go_simp <;> exact rfl); go_frame) | (refine Free.cw_skip rfl ?_; go_frame)))
          refine Free.cw_loud rfl rfl (fun K hK => ?_)
          have hc := pI_c _ _ lf1 n2 hB.out hfx2.out (by omega)
          obtain ⟨lf2, hlf2⟩ : ∃ y, lf1 ++ encI n2 = y := ⟨_, rfl⟩
          rw [hlf2] at hc
          have hnf2 : lf2.length ≤ lf1.length + 9 := by rw [← hlf2, List.length_append]; have := encI_len hfx2.out; omega
          replace hc := Lib.hid hc
          replace hlf2 := Lib.hid hlf2
          go_wp2_with fail
          refine hc.out.mono ?_
          rintro e wf2 ⟨vf2, rfl, hBf2, hkf2⟩
          refine hK _ _ rfl (Free.KeepsP.of hkf2 (by simp)) ?_
          clear hK K hc hB
          have hB := Lib.hid hBf2
          replace hkr := Lib.hid (hkr.out.trans hkf2)
          clear hBf2 hkf2
          (repeat (apply Free.cw_pure rfl rfl; (intro w'; go_simp <;> exact rfl); go_frame))
          refine Free.cw_nil ?_
          have hkz := Lib.hid (hkqI.out.trans hkr.out)
          have hlf : Hid (lf2 = le1 ++ encXs (a.ins.take (q + 1))) := Lib.hid (by rw [← hlf2.out, ← hlf1.out, ← hlf0.out, hsq.out, hlq.out]; simp [encX, List.append_assoc])
          have hlfn : Hid (lf2.length ≤ 60 + SK + 60 + 27 * (q + 1)) := Lib.hid (by omega)
          go_wp2
          go_roundw
          case rel => exact ⟨q + 1, lf2, rfl, by omega, hB, hlf, hlfn, hkz⟩
          case measure => simp [intOf]; omega
        · have hltq2 : ¬ ((q : Int) < y8) := by omega
          have hqy : q = a.ins.length := by have := ev.out; omega
          have hlz : Hid (lq = lb ++ encH (c.an.take (k + 1))) := Lib.hid (by rw [hlq.out, hqy, List.take_length, hle2.out, hsucc.out, henA.out, hlk.out]; simp only [List.append_assoc])
          have hlzn : Hid (lq.length ≤ 60 + ((c.an.take (k + 1)).map wA).sum) := Lib.hid (by rw [hSK1.out]; have h1 := hsum.out; have h2 := hlenq.out; omega)
          have hkz := Lib.hid (hkn.out.trans hkq.out)
          replace hqy := Lib.hid hqy
          go_wp2
          go_roundw
          case rel => exact ⟨k + 1, lq, rfl, by omega, hB, hlz, hlzn, hkz⟩
          case measure => simp [intOf]; omega
    · have hlt2 : ¬ ((k : Int) < x6) := by omega
      have hkY : k = c.an.length := by have := e1.out; omega
      have hlk2 : Hid (lk = lb ++ encH c.an) := Lib.hid (by rw [hlk.out, hkY, List.take_length])
      have hlk3 : lk.length ≤ 60 + SA := by have := hlen.out; rw [hkY, List.take_length, hSA.out] at this; exact this
      replace hkY := Lib.hid hkY
      clear hlk hlen hlb100
      have hc := pU_c _ _ lk x9 hB.out (by omega) (by omega)
      obtain ⟨lg, hlg⟩ : ∃ y, lk ++ encU x9 = y := ⟨_, rfl⟩
      rw [hlg] at hc
      have hng : lg.length ≤ lk.length + 9 := by rw [← hlg, List.length_append]; have := encU_len (n := x9) (by omega); omega
      replace hc := Lib.hid hc
      replace hlg := Lib.hid hlg
      go_wp2_with fail
      refine hc.out.mono ?_
      rintro e wg ⟨vg, rfl, hBg, hkg⟩
      clear hc hB
      have hB := Lib.hid hBg
      have hkr := Lib.hid hkg
      clear hBg hkg
      have hAg := (hkr.out.block _ (lt_of_blk hAr) (by simp)).trans hAr
      replace hkF := Lib.hid (hkF.out.trans hkr.out)
      clear i0 i1 i2 i3 i4 i5 i6 if' il hkr
      have hlg100 : lg.length ≤ 70 + SA := by omega
      replace hAg := Lib.hid hAg
      go_wp2
      go_loopw [3, 8] (fun bv i wr => ∃ (k : Nat) (lp : List UInt8), i = .int .i64 k ∧ k ≤ x9 ∧ Hid (SlB wr bv lp) ∧ Hid (lp = lg ++ encPs (c.cl.take k)) ∧ Hid (lp.length ≤ 70 + SA + ((c.cl.take k).map wP).sum) ∧ Hid (Keeps [] wg wr)) (fun _ i _ => x9 - (intOf i).toNat)
      case atStart => exact ⟨0, lg, rfl, by omega, hB, Lib.hid (by simp [encPs]), Lib.hid (by simp; omega), Lib.hid (Keeps.refl _ _)⟩
      case round =>
        clear hB
        obtain ⟨k, lp, rfl, hk, hB, hlp, hlen, hkw⟩ := hrel
        have hAr := (hkw.out.block _ (lt_of_blk hAg.out) (by simp)).trans hAg.out
        obtain ⟨i0, i1, i2, i3, i4, i5, i6, if', il⟩ := cl7 hAr
        have hkH := Lib.hid (hkF.out.trans hkw.out)
        by_cases hlt : k < x9
        · have hlt2 : (k : Int) < x9 := by omega
          have hkl : k < c.cl.length := by rw [← e2.out]; exact hlt
          have hsucc := encPs_take c.cl k hkl
          have hsum := sum_succ wP c.cl k hkl
          have hsum2 := hwP.out (k + 1)
          obtain ⟨g, o, c', y, hv, hy, g0, g1, g2, g3, g4⟩ := (hcl.out.keeps hkH.out).elem hkl
          rw [← e2.out] at hv
          cases hv
          have hpf := hf.out.cl _ (List.getElem_mem hkl)
          obtain ⟨pp, hpp⟩ : ∃ p, c.cl[k] = p := ⟨_, rfl⟩
          rw [hpp] at hy hsucc hsum hpf
          have m0 := hy.m
          have m1 := hy.ep
          have hpst := hy.st
          have hpsc := hy.sc
          have hpch := hy.ch
          have hp0 := hpf.m
          have hp1 := hpf.ep
          obtain ⟨y0, y1, ⟨y2, y3, y4⟩, ⟨y5, y6, y7⟩, ⟨y8, y9, y10⟩⟩ := y
          simp only [slv] at hpst hpsc hpch g0 g1 g2 g3 g4
          simp only at m0 m1
          rw [← m0] at hp0
          rw [← m1] at hp1
          have henP : encP pp = encI y0 ++ encI y1 ++ (encNs pp.st ++ (encNs pp.sc ++ encNs pp.ch)) := by unfold encP; rw [m0, m1]
          have hbC := heap_alloc_new wr (.cells #[.int .i64 y0, .int .i64 y1, .slice y2 y3 y4, .slice y5 y6 y7, .slice y8 y9 y10] tC)
          have hka := (Keeps.refl [] wr).alloc (.cells #[.int .i64 y0, .int .i64 y1, .slice y2 y3 y4, .slice y5 y6 y7, .slice y8 y9 y10] tC)
          have hkn := Lib.hid (hkw.out.trans hka)
          obtain ⟨SK, hSK⟩ : ∃ n, ((c.cl.take k).map wP).sum = n := ⟨_, rfl⟩
          obtain ⟨SK1, hSK1⟩ : ∃ n, ((c.cl.take (k + 1)).map wP).sum = n := ⟨_, rfl⟩
          rw [hSK] at hlen hsum
          rw [hSK1] at hsum hsum2
          have hlen2 := hlen.out
          have hwp : wP pp = 100 + 30 * (pp.st.length + (pp.sc.length + pp.ch.length)) := rfl
          rw [hwp] at hsum
          have hsb : SK + (100 + 30 * (pp.st.length + (pp.sc.length + pp.ch.length))) ≤ SP := by omega
          replace hB := Lib.hid (hB.out.keeps hka)
          have hkr2 := Lib.hid hka
          replace hpp := Lib.hid hpp
          replace hpst := Lib.hid hpst
          replace hpsc := Lib.hid hpsc
          replace hpch := Lib.hid hpch
          replace hpf := Lib.hid hpf
          replace hp0 := Lib.hid hp0
          replace hp1 := Lib.hid hp1
          replace henP := Lib.hid henP
          replace hsucc := Lib.hid hsucc
          replace hsum := Lib.hid hsum
          replace hSK := Lib.hid hSK
          replace hSK1 := Lib.hid hSK1
          replace hbC := Lib.hid hbC
          clear hy hka m0 m1 hsum2 hwp
          go_upto_region 20 with fail
          generalize (wr.alloc (.cells #[.int .i64 y0, .int .i64 y1, .slice y2 y3 y4, .slice y5 y6 y7, .slice y8 y9 y10] tC)) = WC at *
          obtain ⟨XC, hXC⟩ : ∃ X, wr.heap.size = X := ⟨_, rfl⟩
          rw [hXC] at hbC ⊢
          replace hXC := Lib.hid hXC
          clear i0 i1 i2 i3 i4 i5 i6 if' il g0 g1 g2 g3 g4
          obtain ⟨c0, c1, c2, c3, c4, cf, cl⟩ := cl5 hbC.out
          refine Free.wp_region_chain (fun i => i == 3 || i == 6) (fun i => true) (fun _ _ => False) (by kernel_rfl) (by kernel_rfl) (by kernel_rfl) ?_
          have hkr := Lib.hid ((Keeps.refl [] WC).drew)
          replace hB := Lib.hid (hB.out.keeps (Keeps.refl [] WC).drew)
          (repeat (first | (apply Free.cw_pure rfl rfl; (intro w'; go_simp <;> exact rfl); go_frame) | (apply Free.cw_steady rfl rfl rfl; (intro w' hS; have q0 := Free.sx_cell hS c0 (fun _ _ hT => hT); have q1 := Free.sx_cell hS c1 (fun _ _ hT => hT); have q2 := Free.sx_cell hS c2 (fun _ _ hT => hT); have q3 := Free.sx_cell hS c3 (fun _ _ hT => hT); have q4 := Free.sx_cell hS c4 (fun _ _ hT => hT); go_simp <;> exact rfl); go_frame) | (refine Free.cw_skip rfl ?_; go_frame)))
          refine Free.cw_loud rfl rfl (fun K hK => ?_)
          have hc := pI_c _ _ lp y0 hB.out hp0.out (by omega)
          obtain ⟨lh0, hlh0⟩ : ∃ y, lp ++ encI y0 = y := ⟨_, rfl⟩
          rw [hlh0] at hc
          have hnh0 : lh0.length ≤ lp.length + 9 := by rw [← hlh0, List.length_append]; have := encI_len hp0.out; omega
          replace hc := Lib.hid hc
          replace hlh0 := Lib.hid hlh0
          go_wp2_with fail
          refine hc.out.mono ?_
          rintro e wh0 ⟨vh0, rfl, hBh0, hkh0⟩
          refine hK _ _ rfl (Free.KeepsP.of hkh0 (by simp)) ?_
          clear hK K hc hB
          have hB := Lib.hid hBh0
          replace hkr := Lib.hid (hkr.out.trans hkh0)
          clear hBh0 hkh0
          (repeat (first | (apply Free.cw_pure rfl rfl; (intro w'; go_simp <;> exact rfl); go_frame) | (apply Free.cw_steady rfl rfl rfl; (intro w' hS; have q0 := Free.sx_cell hS c0 (fun _ _ hT => hT); have q1 := Free.sx_cell hS c1 (fun _ _ hT => hT); have q2 := Free.sx_cell hS c2 (fun _ _ hT => hT); have q3 := Free.sx_cell hS c3 (fun _ _ hT => hT); have q4 := Free.sx_cell hS c4 (fun _ _ hT => hT); go_simp <;> exact rfl); go_frame) | (refine Free.cw_skip rfl ?_; go_frame)))
          refine Free.cw_loud rfl rfl (fun K hK => ?_)
          have hc := pI_c _ _ lh0 y1 hB.out hp1.out (by omega)
          obtain ⟨lh1, hlh1⟩ : ∃ y, lh0 ++ encI y1 = y := ⟨_, rfl⟩
          rw [hlh1] at hc
          have hnh1 : lh1.length ≤ lh0.length + 9 := by rw [← hlh1, List.length_append]; have := encI_len hp1.out; omega
          replace hc := Lib.hid hc
          replace hlh1 := Lib.hid hlh1
          go_wp2_with fail
          refine hc.out.mono ?_
          rintro e wh1 ⟨vh1, rfl, hBh1, hkh1⟩
          refine hK _ _ rfl (Free.KeepsP.of hkh1 (by simp)) ?_
          clear hK K hc hB
          have hB := Lib.hid hBh1
          replace hkr := Lib.hid (hkr.out.trans hkh1)
          clear hBh1 hkh1
          (repeat (apply Free.cw_pure rfl rfl; (intro w'; go_simp <;> exact rfl); go_frame))
          refine Free.cw_nil ?_
          replace hbC := Lib.hid ((hkr.out.block _ (lt_of_blk hbC.out) (by simp)).trans hbC.out)
          replace hkn := Lib.hid (hkn.out.trans hkr.out)
          replace hkr2 := Lib.hid (hkr2.out.trans hkr.out)
          clear c0 c1 c2 c3 c4 cf cl hkr
          obtain ⟨c0, c1, c2, c3, c4, cf, cl⟩ := cl5 hbC.out
          go_upto_region 21 with fail
          refine Free.wp_region_chain (fun i => i == 3 || i == 6 || i == 9) (fun i => true) (fun _ _ => False) (by kernel_rfl) (by kernel_rfl) (by kernel_rfl) ?_
          have hkr := Lib.hid ((Keeps.refl [] wh1).drew)
          replace hB := Lib.hid (hB.out.keeps (Keeps.refl [] wh1).drew)
          (repeat (first | (apply Free.cw_pure rfl rfl; (intro w'; go_simp <;> exact rfl); go_frame) | (apply Free.cw_steady rfl rfl rfl; (intro w' hS; have q0 := Free.sx_cell hS c0 (fun _ _ hT => hT); have q1 := Free.sx_cell hS c1 (fun _ _ hT => hT); have q2 := Free.sx_cell hS c2 (fun _ _ hT => hT); have q3 := Free.sx_cell hS c3 (fun _ _ hT => hT); have q4 := Free.sx_cell hS c4 (fun _ _ hT => hT); go_simp <;> exact rfl); go_frame) | (refine Free.cw_skip rfl ?_; go_frame)))
          refine Free.cw_loud rfl rfl (fun K hK => ?_)
          have hc := pNs_c _ _ lh1 (.slice y2 y3 y4) pp.st (hpst.out.keeps (hkr2.out.trans hkr.out)) hpf.out.st hB.out (by omega)
          obtain ⟨lj0, hlj0⟩ : ∃ y, lh1 ++ encNs pp.st = y := ⟨_, rfl⟩
          rw [hlj0] at hc
          have hnj0 : lj0.length ≤ lh1.length + (9 + 27 * pp.st.length) := by rw [← hlj0, List.length_append]; have := encNs_len (L := pp.st) hpf.out.st (by omega); omega
          replace hc := Lib.hid hc
          replace hlj0 := Lib.hid hlj0
          go_wp2_with fail
          refine hc.out.mono ?_
          rintro e wj0 ⟨vj0, rfl, hBj0, hkj0⟩
          refine hK _ _ rfl (Free.KeepsP.of hkj0 (by simp)) ?_
          clear hK K hc hB
          have hB := Lib.hid hBj0
          replace hkr := Lib.hid (hkr.out.trans hkj0)
          clear hBj0 hkj0
          (repeat (first | (apply Free.cw_pure rfl rfl; (intro w'; go_simp <;> exact rfl); go_frame) | (apply Free.cw_steady rfl rfl rfl; (intro w' hS; have q0 := Free.sx_cell hS c0 (fun _ _ hT => hT); have q1 := Free.sx_cell hS c1 (fun _ _ hT => hT); have q2 := Free.sx_cell hS c2 (fun _ _ hT => hT); have q3 := Free.sx_cell hS c3 (fun _ _ hT => hT); have q4 := Free.sx_cell hS c4 (fun _ _ hT => hT); go_simp <;> exact rfl); go_frame) | (refine Free.cw_skip rfl ?_; go_frame)))
          refine Free.cw_loud rfl rfl (fun K hK => ?_)
          have hc := pNs_c _ _ lj0 (.slice y5 y6 y7) pp.sc (hpsc.out.keeps (hkr2.out.trans hkr.out)) hpf.out.sc hB.out (by omega)
          obtain ⟨lj1, hlj1⟩ : ∃ y, lj0 ++ encNs pp.sc = y := ⟨_, rfl⟩
          rw [hlj1] at hc
          have hnj1 : lj1.length ≤ lj0.length + (9 + 27 * pp.sc.length) := by rw [← hlj1, List.length_append]; have := encNs_len (L := pp.sc) hpf.out.sc (by omega); omega
          replace hc := Lib.hid hc
          replace hlj1 := Lib.hid hlj1
          go_wp2_with fail
          refine hc.out.mono ?_
          rintro e wj1 ⟨vj1, rfl, hBj1, hkj1⟩
          refine hK _ _ rfl (Free.KeepsP.of hkj1 (by simp)) ?_
          clear hK K hc hB
          have hB := Lib.hid hBj1
          replace hkr := Lib.hid (hkr.out.trans hkj1)
          clear hBj1 hkj1
          (repeat (first | (apply Free.cw_pure rfl rfl; (intro w'; go_simp <;> exact rfl); go_frame) | (apply Free.cw_steady rfl rfl rfl; (intro w' hS; have q0 := Free.sx_cell hS c0 (fun _ _ hT => hT); have q1 := Free.sx_cell hS c1 (fun _ _ hT => hT); have q2 := Free.sx_cell hS c2 (fun _ _ hT => hT); have q3 := Free.sx_cell hS c3 (fun _ _ hT => hT); have q4 := Free.sx_cell hS c4 (fun _ _ hT => hT); go_simp <;> exact rfl); go_frame) | (refine Free.cw_skip rfl ?_; go_frame)))
          refine Free.cw_loud rfl rfl (fun K hK => ?_)
          have hc := pNs_c _ _ lj1 (.slice y8 y9 y10) pp.ch (hpch.out.keeps (hkr2.out.trans hkr.out)) hpf.out.ch hB.out (by omega)
          obtain ⟨lj2, hlj2⟩ : ∃ y, lj1 ++ encNs pp.ch = y := ⟨_, rfl⟩
          rw [hlj2] at hc
          have hnj2 : lj2.length ≤ lj1.length + (9 + 27 * pp.ch.length) := by rw [← hlj2, List.length_append]; have := encNs_len (L := pp.ch) hpf.out.ch (by omega); omega
          replace hc := Lib.hid hc
          replace hlj2 := Lib.hid hlj2
          go_wp2_with fail
          refine hc.out.mono ?_
          rintro e wj2 ⟨vj2, rfl, hBj2, hkj2⟩
          refine hK _ _ rfl (Free.KeepsP.of hkj2 (by simp)) ?_
          clear hK K hc hB
          have hB := Lib.hid hBj2
          replace hkr := Lib.hid (hkr.out.trans hkj2)
          clear hBj2 hkj2
          (repeat (apply Free.cw_pure rfl rfl; (intro w'; go_simp <;> exact rfl); go_frame))
          refine Free.cw_nil ?_
          have hkz := Lib.hid (hkn.out.trans hkr.out)
          have hlj : Hid (lj2 = lg ++ encPs (c.cl.take (k + 1))) := Lib.hid (by rw [← hlj2.out, ← hlj1.out, ← hlj0.out, ← hlh1.out, ← hlh0.out, hsucc.out, henP.out, hlp.out]; simp only [List.append_assoc])
          have hljn : Hid (lj2.length ≤ 70 + SA + ((c.cl.take (k + 1)).map wP).sum) := Lib.hid (by rw [hSK1.out]; have h1 := hsum.out; omega)
          go_wp2
          go_roundw
          case rel => exact ⟨k + 1, lj2, rfl, by omega, hB, hlj, hljn, hkz⟩
          case measure => simp [intOf]; omega
        · have hlt2 : ¬ ((k : Int) < x9) := by omega
          have hkY2 : k = c.cl.length := by have := e2.out; omega
          have hres : Hid (lp = encI x0 ++ encI x1 ++ encX (x2, x3, x4) ++ encU x6 ++ encH c.an ++ encU x9 ++ encPs c.cl) := Lib.hid (by rw [hlp.out, hkY2, List.take_length, ← hlg.out, hlk2.out, hlb2.out])
          replace hkY2 := Lib.hid hkY2
          go_wp2
          go_ret
          refine ⟨_, rfl, ?_, hkH.out⟩
          have hz := hB.out
          rw [hres.out] at hz
          simp only [List.append_assoc] at hz ⊢
          exact hz
end Go.Proofs.YtiplgpefapeapaaGreat

namespace Go.Proofs.YtiplgpefapeapaaGreat
namespace FreeO
open Go Go.RowKit Free

/-- Every block whose object is not of `S` is as it was. -/
structure KeepsO (S : Nat → Obj → Prop) (w w' : World) : Prop where
  os : w'.os = w.os
  tape : w'.tape = w.tape
  output : w'.output = w.output
  size : w.heap.size ≤ w'.heap.size
  block : ∀ (k : Nat) (o : Obj), w.heap[k]? = some o → ¬ S k o → w'.heap[k]? = some o
theorem KeepsO.refl (S : Nat → Obj → Prop) (w : World) : KeepsO S w w := ⟨rfl, rfl, rfl, Nat.le_refl _, fun _ _ h _ => h⟩
theorem KeepsO.trans {S : Nat → Obj → Prop} {a b c : World} (h : KeepsO S a b) (k : KeepsO S b c) : KeepsO S a c :=
  ⟨k.os.trans h.os, k.tape.trans h.tape, k.output.trans h.output, Nat.le_trans h.size k.size, fun i o hi hs => k.block i o (h.block i o hi hs) hs⟩
theorem KeepsO.mono {S T : Nat → Obj → Prop} {w w' : World} (h : KeepsO S w w') (hst : ∀ b x, S b x → T b x) : KeepsO T w w' := ⟨h.os, h.tape, h.output, h.size, fun k o hk hT => h.block k o hk fun hs => hT (hst _ _ hs)⟩
theorem KeepsO.of {w w' : World} {S : List Nat} {T : Nat → Obj → Prop} (h : Keeps S w w') (hst : ∀ k ∈ S, ∀ o, w.heap[k]? = some o → T k o) : KeepsO T w w' :=
  ⟨h.os, h.tape, h.output, h.size, fun k o hk hT => (h.block k (Array.getElem?_eq_some_iff.1 hk).1 fun hs => hT (hst k hs o hk)).trans hk⟩
theorem KeepsO.cell {S : Nat → Obj → Prop} {w w' : World} (h : KeepsO S w w') {b off : Nat} {v : Value} {o : Obj} (hb : w.heap[b]? = some o) (hS : ¬ S b o) (hc : w.cell? ⟨b, off, none⟩ = some v) : w'.cell? ⟨b, off, none⟩ = some v :=
  (World.cell?_of_block (w := w) (a := ⟨b, off, none⟩) ((h.block b o hb hS).trans hb.symm)).trans hc

/-- The blocks that may have been written when operation `i` comes up. -/
def sx (ops : Array Oper) (T : Nat → Nat → Obj → Prop) (i : Nat) (b : Nat) (x : Obj) : Prop := ∃ k, k ≠ i ∧ pre ops i k = false ∧ T k b x
/-- .. and behind the region. -/
def sa (T : Nat → Nat → Obj → Prop) (b : Nat) (x : Obj) : Prop := ∃ k, T k b x
section
variable (P : Program) (ops : Array Oper) (w0 : World) (loud : Nat → Bool) (F : Nat → Act → Value → World → Prop) (T : Nat → Nat → Obj → Prop) (kills : Nat → Nat → Bool) (Q : Act → World → Prop)

/-- THE WALK, in the order of the text. -/
def walk : List Oper → Nat → (Nat → World → Prop) → Act → Prop
  | [], n, fs, a => ∀ w', KeepsO (sa T) w0 w' → (∀ j, j < n → unk ops kills j = true → fs j w') → Q a w'
  | o :: r, i, fs, a =>
    if Region.wanted o (yielded ops a.tmps) then
      if loud i then
        (∀ w', KeepsO (sx ops T i) w0 w' → (∀ j, j < i → av ops kills j i = true → fs j w') → Loud P o a w' (fun v w'' => F i a v w'' ∧ KeepsO (T i) w' w'')) ∧
        ∀ v, walk r (i + 1) (fun j => if j = i then F i a v else fs j) (a.put o.dst v)
      else
        ∃ c, (∀ w', KeepsO (sx ops T i) w0 w' → (∀ j, j < i → av ops kills j i = true → fs j w') → Quiet P o a w' c) ∧ walk r (i + 1) fs (a.put o.dst c)
    else walk r (i + 1) fs (a.put o.dst undef)

variable (a0 : Act)
/-- The frame ahead of operation `i`, in the order of the text. -/
def lex (u : Nat → Value) (i : Nat) : Act := fill u (fun j => decide (j < i)) ops.toList 0 a0
def want (u : Nat → Value) (i : Nat) : Bool := match ops[i]? with | some o => Region.wanted o (yielded ops (lex ops a0 u i).tmps) | none => false
def fact (u : Nat → Value) (i : Nat) (w : World) : Prop := want ops a0 u i = true → loud i = true → F i (lex ops a0 u i) (u i) w

def Step (l : Nat → Value) (u : Nat → Value) (i : Nat) (o : Oper) : Prop :=
  if Region.wanted o (yielded ops (lex ops a0 u i).tmps) then
    if loud i then u i = l i ∧ ∀ w', KeepsO (sx ops T i) w0 w' → (∀ j, j < i → av ops kills j i = true → fact ops loud F a0 u j w') → Loud P o (lex ops a0 u i) w' (fun v w'' => F i (lex ops a0 u i) v w'' ∧ KeepsO (T i) w' w'')
    else ∀ w', KeepsO (sx ops T i) w0 w' → (∀ j, j < i → av ops kills j i = true → fact ops loud F a0 u j w') → Quiet P o (lex ops a0 u i) w' (u i)
  else u i = undef

variable {P ops w0 loud F T kills Q a0}

theorem lex_congr {u u' : Nat → Value} {i : Nat} (h : ∀ j, j < i → u j = u' j) : lex ops a0 u i = lex ops a0 u' i :=
  fill_congr _ 0 _ fun j _ _ => ⟨rfl, fun hj => h j (by simpa using hj)⟩
theorem want_congr {u u' : Nat → Value} {i : Nat} (h : ∀ j, j < i → u j = u' j) : want ops a0 u i = want ops a0 u' i := by
  unfold want; rw [lex_congr h]
theorem fact_congr {u u' : Nat → Value} {i : Nat} {w : World} (h : ∀ j, j ≤ i → u j = u' j) : fact ops loud F a0 u i w = fact ops loud F a0 u' i w := by
  unfold fact; rw [want_congr (fun j hj => h j (by omega)), lex_congr (fun j hj => h j (by omega)), h i (Nat.le_refl _)]
theorem step_congr {l u u' : Nat → Value} {i : Nat} {o : Oper} (h : ∀ j, j ≤ i → u j = u' j) (hs : Step P ops w0 loud F T kills a0 l u i o) : Step P ops w0 loud F T kills a0 l u' i o := by
  have hl : lex ops a0 u i = lex ops a0 u' i := lex_congr (fun j hj => h j (by omega))
  have hf : ∀ w', (∀ j, j < i → av ops kills j i = true → fact ops loud F a0 u' j w') → ∀ j, j < i → av ops kills j i = true → fact ops loud F a0 u j w' :=
    fun w' hh j hj hp => by rw [fact_congr (fun k hk => h k (by omega))]; exact hh j hj hp
  unfold Step at *
  rw [hl, h i (Nat.le_refl _)] at hs
  split
  · rename_i hw
    rw [if_pos hw] at hs
    split
    · rename_i hl2
      rw [if_pos hl2] at hs
      exact ⟨hs.1, fun w' hk hh => hs.2 w' hk (hf w' hh)⟩
    · rename_i hl2
      rw [if_neg hl2] at hs
      exact fun w' hk hh => hs w' hk (hf w' hh)
  · rename_i hw
    rw [if_neg hw] at hs
    exact hs
theorem lex_succ (hok : Ok ops) (u : Nat → Value) (i : Nat) (o : Oper) (ho : ops[i]? = some o) : lex ops a0 u (i + 1) = (lex ops a0 u i).put o.dst (u i) := by
  unfold lex
  refine fill_put (i := i) (o := o) (by simp) (by simp) (fun j hj => ?_) _ 0 _ (Nat.zero_le _) (by simpa using ho) (fun j p hp hne t ht => ?_)
  · by_cases h : j < i
    · simp [h]; omega
    · simp [h]; omega
  · exact hok.dst i o j p ho (by simpa using hp) (by omega) t ht

/-- For each choice of the loud operations' values there are values of all operations that fit. -/
theorem flat (hok : Ok ops) (l : Nat → Value) : ∀ (r : List Oper) (i : Nat) (u : Nat → Value) (fs : Nat → World → Prop), ops.toList.drop i = r →
    (∀ j o, ops[j]? = some o → j < i → Step P ops w0 loud F T kills a0 l u j o) → (∀ j w', j < i → fact ops loud F a0 u j w' → fs j w') → (∀ j w', i ≤ j → fs j w') →
    walk P ops w0 loud F T kills Q r i fs (lex ops a0 u i) →
    ∃ u' : Nat → Value, (∀ j, j < i → u' j = u j) ∧ (∀ j o, ops[j]? = some o → Step P ops w0 loud F T kills a0 l u' j o) ∧
      ∀ w', KeepsO (sa T) w0 w' → (∀ j, j < ops.size → unk ops kills j = true → fact ops loud F a0 u' j w') → Q (lex ops a0 u' ops.size) w'
  | [], i, u, fs, hr, hs, hf, hge, hw => by
    have hn : ops.size ≤ i := by simpa using hr
    have hx : lex ops a0 u i = lex ops a0 u ops.size := fill_congr _ 0 _ fun j _ hj => by
      have : j < ops.size := by simpa using hj
      exact ⟨by simp [this]; omega, fun _ => rfl⟩
    refine ⟨u, fun _ _ => rfl, fun j o ho => hs j o ho (by have := (Array.getElem?_eq_some_iff.1 ho).1; omega), fun w' hk hh => ?_⟩
    rw [← hx]
    refine hw w' hk (fun j hj hun => hf j w' hj ?_)
    by_cases h : j < ops.size
    · exact hh j h hun
    · unfold fact want
      have : ops[j]? = none := by simp; omega
      simp [this]
  | o :: r, i, u, fs, hr, hs, hf, hge, hw => by
    have ho : ops[i]? = some o := by
      have := congrArg (fun x : List Oper => x[0]?) hr
      simpa using this
    have hr' : ops.toList.drop (i + 1) = r := by
      have := congrArg List.tail hr
      simpa using this
    -- the value that this operation gets
    have go : ∀ (c : Value) (fs' : Nat → World → Prop), Step P ops w0 loud F T kills a0 l (fun j => if j = i then c else u j) i o →
        (∀ j w', j < i → fs j w' → fs' j w') → (∀ w', fact ops loud F a0 (fun j => if j = i then c else u j) i w' → fs' i w') → (∀ j w', i + 1 ≤ j → fs' j w') → walk P ops w0 loud F T kills Q r (i + 1) fs' ((lex ops a0 u i).put o.dst c) →
        ∃ u' : Nat → Value, (∀ j, j < i → u' j = u j) ∧ (∀ j o, ops[j]? = some o → Step P ops w0 loud F T kills a0 l u' j o) ∧
          ∀ w', KeepsO (sa T) w0 w' → (∀ j, j < ops.size → unk ops kills j = true → fact ops loud F a0 u' j w') → Q (lex ops a0 u' ops.size) w' := by
      intro c fs' hst hfs hfi hge' hwk
      have hu : ∀ j, j < i → (fun j => if j = i then c else u j) j = u j := fun j hj => by simp; intro e; omega
      have hl : lex ops a0 (fun j => if j = i then c else u j) (i + 1) = (lex ops a0 u i).put o.dst c := by
        rw [lex_succ hok _ i o ho, lex_congr hu]; simp
      obtain ⟨u', h1, h2, h3⟩ := flat hok l r (i + 1) (fun j => if j = i then c else u j) fs' hr'
        (fun j p hp hj => by
          by_cases e : j = i
          · subst e; rw [ho] at hp; cases hp; exact hst
          · exact step_congr (fun k hk => (hu k (by omega)).symm) (hs j p hp (by omega)))
        (fun j w' hj hh => by
          by_cases e : j = i
          · subst e; exact hfi w' hh
          · exact hfs j w' (by omega) (hf j w' (by omega) (by rw [← fact_congr (fun k hk => hu k (by omega))]; exact hh)))
        hge' (by rw [hl]; exact hwk)
      exact ⟨u', fun j hj => (h1 j (by omega)).trans (hu j hj), h2, h3⟩
    have hlex : ∀ c, lex ops a0 (fun j => if j = i then c else u j) i = lex ops a0 u i := fun c => lex_congr fun j hj => by simp; intro e; omega
    have hfc : ∀ c w', (∀ j, j < i → av ops kills j i = true → fact ops loud F a0 (fun j => if j = i then c else u j) j w') → ∀ j, j < i → av ops kills j i = true → fs j w' :=
      fun c w' hh j hj hp => hf j w' hj (by
        have := hh j hj hp
        rwa [fact_congr (u' := u) (fun k hk => by simp; intro e; omega)] at this)
    unfold walk at hw
    by_cases hwant : Region.wanted o (yielded ops (lex ops a0 u i).tmps) = true
    · rw [if_pos hwant] at hw
      by_cases hl : loud i = true
      · rw [if_pos hl] at hw
        refine go (l i) (fun j => if j = i then F i (lex ops a0 u i) (l i) else fs j) ?_ (fun j w' hj hh => by rw [if_neg (show ¬ j = i by omega)]; exact hh) ?_ (fun j w' hj => by rw [if_neg (show ¬ j = i by omega)]; exact hge j w' (by omega)) (hw.2 (l i))
        · unfold Step
          rw [hlex, if_pos hwant, if_pos hl]
          exact ⟨by simp, fun w' hk hh => hw.1 w' hk (hfc _ w' hh)⟩
        · intro w' hh
          have h1 : want ops a0 (fun j => if j = i then l i else u j) i = true := by
            unfold want; rw [ho]; simp only; rw [hlex]; exact hwant
          have := hh h1 hl
          rw [hlex] at this
          simpa using this
      · rw [if_neg hl] at hw
        obtain ⟨c, h1, h2⟩ := hw
        refine go c fs ?_ (fun _ _ _ hh => hh) (fun w' _ => hge i w' (Nat.le_refl _)) (fun j w' hj => hge j w' (by omega)) h2
        · unfold Step
          rw [hlex, if_pos hwant, if_neg hl]
          simp only [if_true]
          exact fun w' hk hh => h1 w' hk (hfc _ w' hh)
    · rw [if_neg hwant] at hw
      refine go undef fs ?_ (fun _ _ _ hh => hh) (fun w' _ => hge i w' (Nat.le_refl _)) (fun j w' hj => hge j w' (by omega)) hw
      · unfold Step
        rw [hlex, if_neg hwant]
        simp

theorem ready_sub {ops : Array Oper} {listed : Array Bool} (hok : Ok ops) (hr : Region.ready .any ops listed = []) (hsz : listed.size = ops.size) : ∀ n i, i < n → i < ops.size → listed.getD i false = true
  | 0, _, h, _ => by omega
  | n + 1, i, h, hi => by
    have ih := fun j (hj : j < i) => ready_sub hok hr hsz n j (by omega) (by omega)
    cases hl : listed.getD i false
    · have : i ∈ Region.ready .any ops listed := mem_ready.2 ⟨by
        have h1 : i < listed.size := by omega
        simpa [Array.getD, h1] using hl, ops[i], by simp [hi], fun e he hb => ih e.on (hok.low i _ (by simp [hi]) e he hb)⟩
      rw [hr] at this
      cases this
    · rfl

def count (listed : Array Bool) (n : Nat) : Nat := (List.range n).countP fun i => !listed.getD i false
theorem count_set {listed : Array Bool} {i : Nat} (hi : i < listed.size) (hl : listed.getD i false = false) : ∀ n, i < n → count (listed.setIfInBounds i true) n + 1 = count listed n := by
  have hset : ∀ j, (listed.setIfInBounds i true).getD j false = if j = i then true else listed.getD j false := fun j => by
    simp only [Array.getD_eq_getD_getElem?, Array.getElem?_setIfInBounds]
    by_cases e : i = j
    · subst e; simp [hi]
    · simp [e]; intro h; exact absurd h.symm e
  have same : ∀ n, n ≤ i → count (listed.setIfInBounds i true) n = count listed n := by
    intro n hn
    unfold count
    refine List.countP_congr fun j hj => ?_
    have := List.mem_range.1 hj
    rw [hset, if_neg (by omega)]
  intro n
  induction n with
  | zero => intro h; omega
  | succ n ih =>
    intro hn
    unfold count at *
    rw [List.range_succ, List.countP_append, List.countP_append]
    by_cases e : n = i
    · subst e
      rw [same n (Nat.le_refl _)]
      simp only [List.countP_cons, List.countP_nil, hset, hl]
      simp
    · have := ih (by omega)
      have hx : (listed.setIfInBounds i true).getD n false = listed.getD n false := by rw [hset, if_neg e]
      simp only [List.countP_cons, List.countP_nil, hx]
      omega
theorem getD_set {listed : Array Bool} {i j : Nat} (hi : i < listed.size) : (listed.setIfInBounds i true).getD j false = (if j = i then true else listed.getD j false) := by
  simp only [Array.getD_eq_getD_getElem?, Array.getElem?_setIfInBounds]
  by_cases e : i = j
  · subst e; simp [hi]
  · simp [e]; intro h; exact absurd h.symm e

/-- What holds at every point of a run in whatever order. -/
structure Inv (P : Program) (ops : Array Oper) (w0 : World) (loud : Nat → Bool) (F : Nat → Act → Value → World → Prop) (T : Nat → Nat → Obj → Prop) (kills : Nat → Nat → Bool) (a0 : Act) (U : (Nat → Value) → Nat → Value) (listed : Array Bool) (b : Act) (w : World) : Prop where
  size : listed.size = ops.size
  closed : ∀ (i : Nat) (o : Oper), ops[i]? = some o → listed.getD i false = true → ∀ e ∈ o.after, Region.binds .any e = true → listed.getD e.on false = true
  good : KeepsO (fun b x => ∃ k, listed.getD k false = true ∧ T k b x) w0 w
  some : ∃ l, b = fill (U l) (fun j => listed.getD j false) ops.toList 0 a0 ∧ (∀ j, listed.getD j false = true → (∀ k, k < ops.size → listed.getD k false = true → kills k j = false) → fact ops loud F a0 (U l) j w) ∧
    ∀ l', (∀ j, listed.getD j false = true → l' j = l j) → ∀ j, listed.getD j false = true → U l' j = U l j

theorem closed_pre {ops : Array Oper} {listed : Array Bool} (hok : Ok ops) (hc : ∀ (i : Nat) (o : Oper), ops[i]? = some o → listed.getD i false = true → ∀ e ∈ o.after, Region.binds .any e = true → listed.getD e.on false = true) :
    ∀ n i, i < n → ∀ o, ops[i]? = some o → (∀ e ∈ o.after, Region.binds .any e = true → listed.getD e.on false = true) → ∀ j, j < ops.size → pre ops j i = true → listed.getD j false = true
  | 0, _, h, _, _, _, _, _, _ => by omega
  | n + 1, i, h, o, ho, hr, j, hj, hp => by
    obtain ⟨e, he, hb, h1⟩ := hok.road i o ho j hj hp
    have hl := hr e he hb
    rcases h1 with rfl | h1
    · exact hl
    · have hlt := hok.low i o ho e he hb
      have hi : i < ops.size := (Array.getElem?_eq_some_iff.1 ho).1
      have hoe : ops[e.on]? = some ops[e.on] := by simp [show e.on < ops.size by omega]
      exact closed_pre hok hc n e.on (by omega) _ hoe (hc e.on _ hoe hl) j hj h1

theorem pre_lt {ops : Array Oper} (hok : Ok ops) : ∀ n i, i < n → i < ops.size → ∀ j, j < ops.size → pre ops j i = true → j < i
  | 0, _, h, _, _, _, _ => by omega
  | n + 1, i, h, hi, j, hj, hp => by
    obtain ⟨e, he, hb, h1⟩ := hok.road i ops[i] (by simp [hi]) j hj hp
    have hlt := hok.low i ops[i] (by simp [hi]) e he hb
    rcases h1 with rfl | h1
    · exact hlt
    · have := pre_lt hok n e.on (by omega) (by omega) j hj h1
      omega

theorem any (hok : Ok ops) (U : (Nat → Value) → Nat → Value)
    (hU : ∀ l, (∀ j o, ops[j]? = some o → Step P ops w0 loud F T kills a0 l (U l) j o) ∧ ∀ w', KeepsO (sa T) w0 w' → (∀ j, j < ops.size → unk ops kills j = true → fact ops loud F a0 (U l) j w') → Q (lex ops a0 (U l) ops.size) w')
    (hFa : ∀ i o a b, ops[i]? = some o → Agree (o.looksAt ops) a b → ∀ v w, F i a v w → F i b v w) (hst : ∀ i k a v w w', loud i = true → i ≠ k → kills k i = false → pre ops k i = false → F i a v w → KeepsO (T k) w w' → F i a v w') {Q' : Exit → Act → World → Prop} (hQ : ∀ a w, Q a w → Q' .normal a w) :
    ∀ (fuel : Nat) (listed : Array Bool) (b : Act) (w : World), Inv P ops w0 loud F T kills a0 U listed b w → count listed ops.size = fuel → wpAny P .any ops Q' fuel listed b w := by
  -- the end: all have run
  have fin : ∀ (listed : Array Bool) (b : Act) (w : World), Inv P ops w0 loud F T kills a0 U listed b w → (∀ i, i < ops.size → listed.getD i false = true) → Q' .normal b w := by
    intro listed b w hI hall
    obtain ⟨l, rfl, hf, _⟩ := hI.some
    refine hQ _ _ ?_
    have : fill (U l) (fun j => listed.getD j false) ops.toList 0 a0 = lex ops a0 (U l) ops.size := fill_congr _ 0 _ fun j _ hj => by
      have : j < ops.size := by simpa using hj
      exact ⟨by rw [hall j this]; simp [this], fun _ => rfl⟩
    rw [this]
    exact (hU l).2 w (hI.good.mono (fun b x ⟨k, _, hk⟩ => ⟨k, hk⟩)) (fun j hj hun => hf j (hall j hj) (fun k hk _ => by
      have := List.all_eq_true.1 hun k (List.mem_range.2 hk)
      simpa using this))
  intro fuel
  induction fuel with
  | zero =>
    intro listed b w hI hc
    have hall : ∀ i, i < ops.size → listed.getD i false = true := fun i hi => by
      have := List.countP_eq_zero.1 hc i (List.mem_range.2 hi)
      simpa using this
    refine ⟨?_, fin listed b w hI hall⟩
    refine List.eq_nil_iff_forall_not_mem.2 fun i hi => ?_
    obtain ⟨h1, o, ho, _⟩ := mem_ready.1 hi
    have hlt : i < ops.size := (Array.getElem?_eq_some_iff.1 ho).1
    have h2 := hall i hlt
    have hs : i < listed.size := by rw [hI.size]; exact hlt
    simp [Array.getD, hs] at h1 h2
    rw [h1] at h2
    cases h2
  | succ fuel ih =>
    intro listed b w hI hc
    refine ⟨fun hr => fin listed b w hI (fun i hi => ready_sub hok hr hI.size (i + 1) i (by omega) hi), fun i hi => ?_⟩
    obtain ⟨h1, o, ho, hedge⟩ := mem_ready.1 hi
    have hlt : i < ops.size := (Array.getElem?_eq_some_iff.1 ho).1
    have hs : i < listed.size := by rw [hI.size]; exact hlt
    have hnl : listed.getD i false = false := by simpa [Array.getD, hs] using h1
    have hcount : count (listed.setIfInBounds i true) ops.size = fuel := by
      have := count_set hs hnl ops.size hlt
      omega
    obtain ⟨l, hb, hf, hcons⟩ := hI.some
    have hpre : ∀ j, j < ops.size → pre ops j i = true → listed.getD j false = true := closed_pre hok hI.closed (i + 1) i (by omega) o ho hedge
    -- what the operation looks at is as in the order of the text
    have hagree : ∀ l', (∀ j, listed.getD j false = true → U l' j = U l j) → Agree (o.looksAt ops) (lex ops a0 (U l') i) b := by
      intro l' hl'
      have hb' : b = fill (U l') (fun j => listed.getD j false) ops.toList 0 a0 := by
        rw [hb]; exact fill_congr _ 0 _ fun j _ _ => ⟨rfl, fun hj => (hl' j hj).symm⟩
      rw [hb']
      refine fill_agree _ 0 _ _ (Agree.refl _ _) fun j p hp hne t ht => ?_
      have hp' : ops[j]? = some p := by simpa using hp
      have hj : j < ops.size := (Array.getElem?_eq_some_iff.1 hp').1
      simp only [Nat.zero_add] at hne
      have hji : i ≠ j := fun e => by
        subst e
        rw [hnl] at hne
        simp at hne
      rcases hok.apart i o j p ho hp' hji with h | h | h
      · have h2 := pre_lt hok (i + 1) i (by omega) hlt j hj h
        rw [hpre j hj h] at hne
        simp [h2] at hne
      · have h2 := pre_lt hok (j + 1) j (by omega) hj i hlt h
        have h3 : listed.getD j false = false := by
          cases h4 : listed.getD j false
          · rfl
          · have := closed_pre hok hI.closed (j + 1) j (by omega) p hp' (hI.closed j p hp' h4) i hlt h
            rw [hnl] at this
            cases this
        rw [h3] at hne
        simp at hne
        omega
      · exact (Oper.apart_spec h).1 t ht
    have hag := hagree l (fun _ _ => rfl)
    have hex := exec_agree hag (hok.sel i o ho)
    have hwa := wanted_agree (o := o) hag
    have hfacts : ∀ j, j < i → av ops kills j i = true → fact ops loud F a0 (U l) j w := fun j hj hp => hf j (hpre j (by omega) (av_pre hp)) (fun k hk hkl => by
      cases hkk : kills k j
      · rfl
      · rcases av_kill hp hk hkk with rfl | h
        · rw [hnl] at hkl; cases hkl
        · have hok' : ops[k]? = some ops[k] := by simp [hk]
          have := closed_pre hok hI.closed (k + 1) k (by omega) _ hok' (hI.closed k _ hok' hkl) i hlt h
          rw [hnl] at this; cases this)
    have hclosed' : ∀ (k : Nat) (p : Oper), ops[k]? = some p → (listed.setIfInBounds i true).getD k false = true → ∀ e ∈ p.after, Region.binds .any e = true → (listed.setIfInBounds i true).getD e.on false = true := by
      intro k p hp hk e he hb
      rw [getD_set hs] at hk ⊢
      by_cases e1 : e.on = i
      · rw [if_pos e1]
      · rw [if_neg e1]
        by_cases e2 : k = i
        · subst e2; rw [ho] at hp; cases hp; exact hedge e he hb
        · rw [if_neg e2] at hk; exact hI.closed k p hp hk e he hb
    have hprej : ∀ j, listed.getD j false = true → pre ops i j = false := fun j hj => by
      cases hpp : pre ops i j
      · rfl
      · have hj' : j < ops.size := by
          rcases Nat.lt_or_ge j listed.size with h | h
          · rw [← hI.size]; exact h
          · simp [Array.getD, Nat.not_lt.2 h] at hj
        have := closed_pre hok hI.closed (j + 1) j (by omega) ops[j] (by simp [hj']) (hI.closed j ops[j] (by simp [hj']) hj) i hlt hpp
        rw [hnl] at this; cases this
    have hgood : KeepsO (sx ops T i) w0 w := hI.good.mono (fun b x ⟨k, hk, ht⟩ => ⟨k, (fun e => by subst e; rw [hnl] at hk; cases hk), hprej k hk, ht⟩)
    have hgood2 : KeepsO (fun b x => ∃ k, (listed.setIfInBounds i true).getD k false = true ∧ T k b x) w0 w := hI.good.mono (fun b x ⟨k, hk, ht⟩ => ⟨k, (by rw [getD_set hs]; split <;> first | rfl | exact hk), ht⟩)
    have hagsame : ∀ l1, (∀ j, listed.getD j false = true → U l1 j = U l j) → ∀ j (hj' : j < ops.size), listed.getD j false = true → Agree (ops[j].looksAt ops) (lex ops a0 (U l1) j) (lex ops a0 (U l) j) := by
      intro l1 h2 j hj' hj
      have hp' : ops[j]? = some ops[j] := by simp [hj']
      have hprej : ∀ k, k < ops.size → pre ops k j = true → listed.getD k false = true := closed_pre hok hI.closed (j + 1) j (by omega) _ hp' (hI.closed j _ hp' hj)
      -- both frames agree with the one that has the roads to j alone
      have ag : ∀ u : Nat → Value, Agree (ops[j].looksAt ops) (lex ops a0 u j) (fill u (fun k => pre ops k j && decide (k < ops.size)) ops.toList 0 a0) := by
        intro u
        refine fill_agree _ 0 _ _ (Agree.refl _ _) fun k p hp hne t ht => ?_
        have hpk : ops[k]? = some p := by simpa using hp
        have hk : k < ops.size := (Array.getElem?_eq_some_iff.1 hpk).1
        simp only [Nat.zero_add] at hne
        have hkj : j ≠ k := fun e => by
          subst e
          have : pre ops j j = false := by
            cases hpp : pre ops j j
            · rfl
            · have := pre_lt hok (j + 1) j (by omega) hj' j hj' hpp; omega
          simp [this] at hne
        rcases hok.apart j _ k p hp' hpk hkj with h | h | h
        · have := pre_lt hok (j + 1) j (by omega) hj' k hk h
          simp [this, h, hk] at hne
        · have h9 := pre_lt hok (k + 1) k (by omega) hk j hj' h
          have h10 : pre ops k j = false := by
            cases hpp : pre ops k j
            · rfl
            · have := pre_lt hok (j + 1) j (by omega) hj' k hk hpp; omega
          simp [h10] at hne
          omega
        · exact (Oper.apart_spec h).1 t ht
      have e2 : fill (U l1) (fun k => pre ops k j && decide (k < ops.size)) ops.toList 0 a0 = fill (U l) (fun k => pre ops k j && decide (k < ops.size)) ops.toList 0 a0 :=
        fill_congr _ 0 _ fun k _ _ => ⟨rfl, fun hk => by
          simp only [Bool.and_eq_true, decide_eq_true_eq] at hk
          exact h2 k (hprej k hk.2 hk.1)⟩
      have a1 := ag (U l1)
      rw [e2] at a1
      have a2 := ag (U l)
      exact ⟨a1.1.trans a2.1.symm, fun t ht => (a1.2 t ht).trans (a2.2 t ht).symm⟩
    have hwsame : ∀ l1, (∀ j, listed.getD j false = true → U l1 j = U l j) → ∀ j (hj' : j < ops.size), listed.getD j false = true → want ops a0 (U l1) j = want ops a0 (U l) j := by
      intro l1 h2 j hj' hj
      have hp' : ops[j]? = some ops[j] := by simp [hj']
      unfold want
      rw [hp']
      exact wanted_agree (ops := ops) (hagsame l1 h2 j hj' hj)
    have next : ∀ (v : Value) (w' : World) (l1 : Nat → Value), (∀ j, listed.getD j false = true → U l1 j = U l j) → U l1 i = v → KeepsO (fun b x => ∃ k, (listed.setIfInBounds i true).getD k false = true ∧ T k b x) w0 w' → (∀ j, listed.getD j false = true → (∀ k, k < ops.size → listed.getD k false = true ∨ k = i → kills k j = false) → fact ops loud F a0 (U l) j w') → fact ops loud F a0 (U l1) i w' →
        (∀ l', (∀ j, listed.getD j false = true → l' j = l1 j) → l' i = l1 i → U l' i = v ∧ ∀ j, listed.getD j false = true → U l' j = U l1 j) →
        wpAny P .any ops Q' fuel (listed.setIfInBounds i true) (b.put o.dst v) w' := by
      intro v w' l1 h2 h3 h4 h5 h6 h7
      refine ih _ _ _ ⟨by simp [hI.size], hclosed', h4, l1, ?_, ?_, ?_⟩ hcount
      · have e1 : b = fill (U l1) (fun j => listed.getD j false) ops.toList 0 a0 := by
          rw [hb]; exact fill_congr _ 0 _ fun j _ _ => ⟨rfl, fun hj => (h2 j hj).symm⟩
        rw [e1, ← h3]
        refine (fill_put (i := i) (o := o) hnl (by rw [getD_set hs, if_pos rfl]) (fun j hj => by rw [getD_set hs, if_neg hj]) _ 0 _ (Nat.zero_le _) (by simpa using ho) (fun j p hp hne t ht => ?_)).symm
        exact hok.dst i o j p ho (by simpa using hp) (by omega) t ht
      · intro j hj hkl
        rw [getD_set hs] at hj
        by_cases e : j = i
        · subst e; exact h6
        · rw [if_neg e] at hj
          intro ha hb'
          have h8 := h5 j hj (fun k hk hor => hkl k hk (by
            rw [getD_set hs]
            rcases hor with h | h
            · split <;> first | rfl | exact h
            · rw [if_pos h]))
          have hj' : j < ops.size := by
            have : j < listed.size := by
              rcases Nat.lt_or_ge j listed.size with h | h
              · exact h
              · simp [Array.getD, Nat.not_lt.2 h] at hj
            rw [← hI.size]; exact this
          rw [h2 j hj]
          refine hFa j _ _ _ (show ops[j]? = some ops[j] by simp [hj']) (hagsame l1 h2 j hj' hj).symm _ _ (h8 ?_ hb')
          rw [← hwsame l1 h2 j hj' hj]; exact ha
      · intro l' hl' j hj
        have hA : ∀ k, listed.getD k false = true → l' k = l1 k := fun k hk => hl' k (by rw [getD_set hs]; split <;> first | rfl | exact hk)
        have hB := h7 l' hA (hl' i (by rw [getD_set hs, if_pos rfl]))
        rw [getD_set hs] at hj
        by_cases e : j = i
        · subst e; rw [hB.1, h3]
        · rw [if_neg e] at hj; exact hB.2 j hj
    have hstep := (hU l).1 i o ho
    unfold wpOp
    simp only [ho]
    unfold Step at hstep
    by_cases hwant : Region.wanted o (yielded ops (lex ops a0 (U l) i).tmps) = true
    · rw [if_pos hwant] at hstep
      rw [← hwa, if_pos hwant]
      refine .inl ?_
      have hwantl : want ops a0 (U l) i = true := by unfold want; rw [ho]; exact hwant
      by_cases hl : loud i = true
      · rw [if_pos hl] at hstep
        refine wp_of_loud (hstep.2 w hgood hfacts) hex.symm fun v w' hv => ?_
        obtain ⟨hF, hK⟩ := hv
        have hgood' : KeepsO (fun b x => ∃ k, (listed.setIfInBounds i true).getD k false = true ∧ T k b x) w0 w' := (hI.good.mono (fun b x ⟨k, hk, ht⟩ => ⟨k, (by rw [getD_set hs]; split <;> first | rfl | exact hk), ht⟩)).trans (hK.mono (fun b x hb => ⟨i, (by rw [getD_set hs, if_pos rfl]), hb⟩))
        have hl1 : ∀ j, listed.getD j false = true → (fun k => if k = i then v else l k) j = l j := fun j hj => by
          have : j ≠ i := fun e => by subst e; rw [hnl] at hj; cases hj
          simp [this]
        have hsame := hcons _ hl1
        have hst1 := (hU (fun k => if k = i then v else l k)).1 i o ho
        have hag1 := hagree _ hsame
        have hw1 : Region.wanted o (yielded ops (lex ops a0 (U fun k => if k = i then v else l k) i).tmps) = true := by
          rw [wanted_agree hag1, ← hwa]; exact hwant
        unfold Step at hst1
        rw [if_pos hw1, if_pos hl] at hst1
        have hv1 : U (fun k => if k = i then v else l k) i = v := by rw [hst1.1]; simp
        refine next v w' _ hsame hv1 hgood' (fun j hj hkl => ?_) (fun _ _ => by rw [hv1]; exact hFa i o _ _ ho ⟨hag.1.trans hag1.1.symm, fun t ht => (hag.2 t ht).trans (hag1.2 t ht).symm⟩ _ _ hF) (fun l' h2 h3 => ?_)
        · intro ha hb'
          exact hst j i _ _ _ _ hb' (fun e => by subst e; rw [hnl] at hj; cases hj) (hkl i hlt (.inr rfl)) (hprej j hj) (hf j hj (fun k hk h => hkl k hk (.inl h)) ha hb') hK
        · have h4 : ∀ j, listed.getD j false = true → l' j = l j := fun j hj => (h2 j hj).trans (hl1 j hj)
          have h5 := hcons l' h4
          refine ⟨?_, fun j hj => (h5 j hj).trans (hsame j hj).symm⟩
          have hst2 := (hU l').1 i o ho
          have hw2 : Region.wanted o (yielded ops (lex ops a0 (U l') i).tmps) = true := by
            rw [wanted_agree (hagree l' h5), ← hwa]; exact hwant
          unfold Step at hst2
          rw [if_pos hw2, if_pos hl] at hst2
          rw [hst2.1, h3]; simp
      · rw [if_neg hl] at hstep
        have hq := hstep w hgood hfacts
        refine wp_of_quiet hq hex.symm (next _ w l (fun _ _ => rfl) rfl hgood2 (fun j hj hkl => hf j hj (fun k hk h => hkl k hk (.inl h))) (fun _ hb' => absurd hb' hl) (fun l' h2 _ => ?_))
        have h5 := hcons l' h2
        refine ⟨?_, h5⟩
        have hst2 := (hU l').1 i o ho
        have hag2 := hagree l' h5
        have hw2 : Region.wanted o (yielded ops (lex ops a0 (U l') i).tmps) = true := by
          rw [wanted_agree hag2, ← hwa]; exact hwant
        unfold Step at hst2
        rw [if_pos hw2, if_neg hl] at hst2
        have hq2 := hst2 w hgood (fun j hj hp => ?_)
        · exact quiet_one hq2 hq ((exec_agree hag2 (hok.sel i o ho)).trans hex.symm)
        · have h6 := hfacts j hj hp
          have hj' : j < ops.size := by omega
          intro ha hb'
          rw [h5 j (hpre j hj' (av_pre hp))]
          exact hFa j _ _ _ (show ops[j]? = some ops[j] by simp [hj']) (hagsame l' h5 j hj' (hpre j hj' (av_pre hp))).symm _ _ (h6 (by rw [← hwsame l' h5 j hj' (hpre j hj' (av_pre hp))]; exact ha) hb')
    · rw [if_neg hwant] at hstep
      rw [← hwa, if_neg hwant]
      have hwf : want ops a0 (U l) i = false := by unfold want; rw [ho]; simpa using hwant
      rw [← hstep]
      refine next _ w l (fun _ _ => rfl) rfl hgood2 (fun j hj hkl => hf j hj (fun k hk h => hkl k hk (.inl h))) (fun ha => by rw [hwf] at ha; cases ha) (fun l' h2 _ => ?_)
      have h5 := hcons l' h2
      refine ⟨?_, h5⟩
      have hst2 := (hU l').1 i o ho
      have hw2 : ¬ Region.wanted o (yielded ops (lex ops a0 (U l') i).tmps) = true := by
        rw [wanted_agree (hagree l' h5), ← hwa]; exact hwant
      unfold Step at hst2
      rw [if_neg hw2] at hst2
      rw [hst2, hstep]

theorem wp_region_free {id : Nat} {l : List Oper} {a : Act} {w : World} {Q' : Exit → Act → World → Prop} (hm : P.follows .mixedOrders = true) (hB : okB l.toArray = true) (loud : Nat → Bool) (F : Nat → Act → Value → World → Prop) (T : Nat → Nat → Obj → Prop) (kills : Nat → Nat → Bool)
    (hFa : ∀ i o a b, l.toArray[i]? = some o → Agree (o.looksAt l.toArray) a b → ∀ v w, F i a v w → F i b v w) (hst : ∀ i k a v w w', loud i = true → i ≠ k → kills k i = false → pre l.toArray k i = false → F i a v w → KeepsO (T k) w w' → F i a v w')
    (h : walk P l.toArray w.drew loud F T kills (fun a' w' => Q' .normal a' w') l 0 (fun _ _ => True) a) : (Code.region id l.toArray true).wp P Q' a w := by
  refine wp_region_any hm ?_
  have hok := ok_of hB
  have hlex0 : ∀ u, lex l.toArray a u 0 = a := fun u => (fill_congr (v' := u) (S' := fun _ => false) _ 0 _ (fun j _ _ => ⟨by simp, fun _ => rfl⟩)).trans (fill_none _ 0 _)
  have hfl : ∀ l' : Nat → Value, ∃ u' : Nat → Value, (∀ j o, l.toArray[j]? = some o → Step P l.toArray w.drew loud F T kills a l' u' j o) ∧
      ∀ w', KeepsO (sa T) w.drew w' → (∀ j, j < l.toArray.size → unk l.toArray kills j = true → fact l.toArray loud F a u' j w') → Q' .normal (lex l.toArray a u' l.toArray.size) w' := fun l' => by
    obtain ⟨u', _, h2, h3⟩ := flat (Q := fun a' w' => Q' .normal a' w') hok l' l 0 (fun _ => undef) (fun _ _ => True) (by simp) (fun j o _ hj => by omega) (fun _ _ _ _ => trivial) (fun _ _ _ => trivial) (by rw [hlex0]; exact h)
    exact ⟨u', h2, h3⟩
  refine any (Q := fun a' w' => Q' .normal a' w') (a0 := a) hok (fun l' => Classical.choose (hfl l')) (fun l' => Classical.choose_spec (hfl l')) hFa hst (fun _ _ h => h) _ _ _ _ ?_ ?_
  · have hno : ∀ j, (Array.replicate l.toArray.size false).getD j false = false := fun j => by
      simp only [Array.getD_eq_getD_getElem?, Array.getElem?_replicate]
      split <;> rfl
    refine ⟨by simp, fun i o _ hi => ?_, KeepsO.refl _ _, fun _ => undef, ?_, fun j hj _ => ?_, fun _ _ j hj => ?_⟩
    · rw [hno] at hi; cases hi
    · refine ((fill_congr (v' := fun _ => undef) (S' := fun _ => false) _ 0 _ (fun j _ _ => ⟨by simp only [hno], fun hj => ?_⟩)).trans (fill_none _ 0 _)).symm
      simp only [hno] at hj; cases hj
    · rw [hno] at hj; cases hj
    · rw [hno] at hj; cases hj
  · unfold count
    rw [List.countP_eq_length.2 (fun i hi => ?_)]
    · simp
    · have : (Array.replicate l.toArray.size false).getD i false = false := by
        simp only [Array.getD_eq_getD_getElem?, Array.getElem?_replicate]
        split <;> rfl
      rw [this]; rfl

theorem walk_quiet {o : Oper} {r : List Oper} {i : Nat} {fs : Nat → World → Prop} {a : Act} {c : Value} (hw : Region.wanted o (yielded ops a.tmps) = true) (hl : loud i = false)
    (h1 : ∀ w', KeepsO (sx ops T i) w0 w' → (∀ j, j < i → av ops kills j i = true → fs j w') → Quiet P o a w' c) (h2 : walk P ops w0 loud F T kills Q r (i + 1) fs (a.put o.dst c)) : walk P ops w0 loud F T kills Q (o :: r) i fs a := by
  unfold walk
  rw [if_pos hw, if_neg (by rw [hl]; simp)]
  exact ⟨c, h1, h2⟩
theorem walk_loud {o : Oper} {r : List Oper} {i : Nat} {fs : Nat → World → Prop} {a : Act} (hw : Region.wanted o (yielded ops a.tmps) = true) (hl : loud i = true)
    (h1 : ∀ w', KeepsO (sx ops T i) w0 w' → (∀ j, j < i → av ops kills j i = true → fs j w') → Loud P o a w' (fun v w'' => F i a v w'' ∧ KeepsO (T i) w' w''))
    (h2 : ∀ v, walk P ops w0 loud F T kills Q r (i + 1) (fun j => if j = i then F i a v else fs j) (a.put o.dst v)) : walk P ops w0 loud F T kills Q (o :: r) i fs a := by
  unfold walk
  rw [if_pos hw, if_pos hl]
  exact ⟨h1, h2⟩
theorem walk_nil {n : Nat} {fs : Nat → World → Prop} {a : Act} (h : ∀ w', KeepsO (sa T) w0 w' → (∀ j, j < n → unk ops kills j = true → fs j w') → Q a w') : walk P ops w0 loud F T kills Q [] n fs a := h
end
end FreeO
end Go.Proofs.YtiplgpefapeapaaGreat

namespace Go.Proofs.YtiplgpefapeapaaGreat
open Go Go.RowKit
open FreeO (KeepsO)

/-- Every block is as it was, but those of bytes that lie behind `B`. -/
def KY (B : Nat) (w w' : World) : Prop := KeepsO (fun b o => B ≤ b ∧ ∃ (cs : Array Value) (f : Nat × Nat), o = .cells cs tB f) w w'
theorem KY.refl (B : Nat) (w : World) : KY B w w := KeepsO.refl _ w
theorem KY.trans {B : Nat} {a b c : World} (h : KY B a b) (k : KY B b c) : KY B a c := KeepsO.trans h k
theorem KY.of {B : Nat} {w w' : World} (h : Keeps [] w w') : KY B w w' := KeepsO.of h (by simp)
theorem KY.grw {B : Nat} {w w' : World} {v v' : Value} {l : List UInt8} (hG : Grw w w' v v') (hB : Buf w B v l) : KY B w w' :=
  KeepsO.of hG.keepsO (fun b hb o ho => by
    obtain ⟨h1, cs, h2⟩ := hB.tagB (by simpa using hb)
    rw [h2] at ho; cases ho
    exact ⟨h1, _, _, rfl⟩)
theorem KY.blk {B : Nat} {w w' : World} (h : KY B w w') {b : Nat} {cs : Array Value} {t : TypeId} {f : Nat × Nat} (hb : w.heap[b]? = some (.cells cs t f)) (ht : t ≠ tB) : w'.heap[b]? = some (.cells cs t f) :=
  KeepsO.block h b _ hb (fun ⟨_, _, _, e⟩ => by cases e; exact ht rfl)
theorem KY.old {w0 w w' : World} (k : Keeps [] w0 w) (h : KY w0.heap.size w w') : Keeps [] w0 w' :=
  ⟨h.os.trans k.os, h.tape.trans k.tape, h.output.trans k.output, Nat.le_trans k.size h.size, fun i hi hn => by
    have h1 := k.block i hi hn
    obtain ⟨o, ho⟩ : ∃ o, w0.heap[i]? = some o := ⟨w0.heap[i], by simp [hi]⟩
    rw [ho] at h1 ⊢
    exact KeepsO.block h i o h1 (fun hs => by have := hs.1; omega)⟩
/-- What a step of Encode leaves: the buffer grown by `x`, all else as it was. -/
def EP (w0 w : World) (l x : List UInt8) (e : Ending) (w' : World) : Prop := ∃ v', e = .returned v' ∧ Buf w' w0.heap.size v' (l ++ x) ∧ KY w0.heap.size w w'
theorem appUE (w0 w : World) (v : Value) (l : List UInt8) (n : Nat) (h : Buf w w0.heap.size v l) (k : Keeps [] w0 w) (hn : n < 18446744073709551616) (hl : l.length ≤ 130000000000000) :
    Calls Tryz.prog 47 #[v, .int .u64 n] w (EP w0 w l (encU n)) :=
  (appU_c w _ v l n h hn (by omega) k.size).mono fun e w' ⟨v', h1, h2, h3⟩ => ⟨v', h1, h2, KY.grw h3 h⟩
theorem appBE (w0 w : World) (v : Value) (l : List UInt8) (b : Bool) (h : Buf w w0.heap.size v l) (k : Keeps [] w0 w) (hl : l.length ≤ 130000000000000) :
    Calls Tryz.prog 48 #[v, .bool b] w (EP w0 w l (encB b)) :=
  (appB_c w _ v l b h (by omega) k.size).mono fun e w' ⟨v', h1, h2, h3⟩ => ⟨v', h1, h2, KY.grw h3 h⟩
theorem appIE (w0 w : World) (v : Value) (l : List UInt8) (n : Int) (h : Buf w w0.heap.size v l) (k : Keeps [] w0 w) (hn : W64 n) (hl : l.length ≤ 130000000000000) :
    Calls Tryz.prog 84 #[v, .int .i64 n] w (EP w0 w l (encI n)) :=
  (appI_c w _ v l n h (w64_iff.1 hn) (by omega) k.size).mono fun e w' ⟨v', h1, h2, h3⟩ => ⟨v', h1, h2, KY.grw h3 h⟩
/-- A block of ints reads as a list. -/
theorem shZ_blk {w : World} {p : Nat} {L : List Int} {xs : Array Value} {n : Nat} (hx : xs.toList = L.map (.int .i64)) (hn : L.length = n) (hm : n ≤ 1000) (hb : w.heap[p]? = some (.cells xs 3 (0, 0))) : shZ.R w (.slice (some ⟨p, 0, none⟩) n n) L := by
  subst hn
  refine ⟨by rw [csZ]; simp [shZ], some ⟨p, 0, none⟩, L.length, rfl, Nat.le_refl _, by unfold maxLen; omega, by simp, fun _ => ⟨p, 0, rfl, fun j u hj => ?_⟩⟩
  rw [csZ, ← hx] at hj
  simp [World.cell?, hb]
  simpa using hj
set_option maxRecDepth 100000 in
set_option maxHeartbeats 4000000 in
theorem intsE_c (w0 w : World) (v : Value) (l : List UInt8) (va : Value) (L : List Int) (h : Buf w w0.heap.size v l) (k0 : Keeps [] w0 w) (hv : ∀ w', KY w0.heap.size w w' → shZ.R w' va L) (hL : ∀ z ∈ L, W64 z) (hn : L.length ≤ 1000) (hl : l.length ≤ 120000000000000) :
    Calls Tryz.prog 44 #[v, va] w (EP w0 w l (flatI L)) := by
  obtain ⟨a, c, rfl, hlc, hcm, _⟩ := (hv w (KY.refl _ _)).form
  obtain ⟨M, hM⟩ : ∃ n, L.length = n := ⟨_, rfl⟩
  rw [hM] at hlc hn hv ⊢
  have hMm : M ≤ 9223372036854775807 := by omega
  replace hM := Lib.hid hM
  replace h := Lib.hid h
  replace k0 := Lib.hid k0
  replace hL := Lib.hid hL
  replace hl := Lib.hid hl
  replace hv := Lib.hid hv
  go_enter Tryz.func44, Tryz.ntmps44
  go_wp2
  go_loopw [0, 9] (fun bv iv wr => ∃ k : Nat, iv = .int .i64 k ∧ k ≤ M ∧ Hid (Buf wr w0.heap.size bv (l ++ flatI (L.take k))) ∧ Hid (KY w0.heap.size w wr)) (fun _ iv _ => M - (intOf iv).toNat)
  case atStart => exact ⟨0, rfl, by omega, Lib.hid (by simpa [flatI] using h.out), Lib.hid (KY.refl _ _)⟩
  case round =>
    obtain ⟨k, rfl, hk, hB, hkw⟩ := hrel
    obtain ⟨b1, b2, rfl⟩ := hB.out.form
    obtain ⟨NB, hNB⟩ : ∃ n, (l ++ flatI (L.take k)).length = n := ⟨_, rfl⟩
    rw [hNB] at hB ⊢
    replace hNB := Lib.hid hNB
    by_cases hlt : k < M
    · have hlt2 : (k : Int) < M := by omega
      have hkL : k < L.length := by rw [hM.out]; exact hlt
      obtain ⟨g, o, c', hvv, he⟩ := (hv.out wr hkw.out).elem hkL
      rw [hM.out] at hvv
      cases hvv
      have e0 := he 0 _ rfl
      simp only [shZ, Nat.add_zero, Nat.mul_one] at e0
      obtain ⟨z, hz⟩ : ∃ z, L[k] = z := ⟨_, rfl⟩
      rw [hz] at e0
      have hzw : W64 z := hz ▸ hL.out _ (List.getElem_mem hkL)
      have hlen : (l ++ flatI (L.take k)).length ≤ 130000000000000 := by
        have h1 := flatI_len (L := L.take k) (fun y hy => hL.out y (List.mem_of_mem_take hy))
        have h2 := hl.out
        simp only [List.length_append, List.length_take] at h1 ⊢
        omega
      have hc := appIE w0 wr _ _ z hB.out (KY.old k0.out hkw.out) hzw hlen
      unfold EP at hc
      replace hc := Lib.hid hc
      replace hz := Lib.hid hz
      clear he hlen
      go_wp2_with fail
      refine hc.out.mono ?_
      rintro e w2 ⟨v', rfl, hB2, hG⟩
      have hB3 : Hid (Buf w2 w0.heap.size v' (l ++ flatI (L.take (k + 1)))) := Lib.hid (by rw [flatI_take L k hkL, hz.out, ← List.append_assoc]; exact hB2)
      have hkw2 := Lib.hid (hkw.out.trans hG)
      clear hc hB2 hG
      go_wp2
      go_roundw
      case rel => exact ⟨k + 1, rfl, by omega, hB3, hkw2⟩
      case measure => simp [intOf]; omega
    · have hlt2 : ¬ ((k : Int) < M) := by omega
      have hkM : k = L.length := by rw [hM.out]; omega
      replace hkM := Lib.hid hkM
      go_wp2
      go_ret
      refine ⟨_, rfl, ?_, hkw.out⟩
      have := hB.out
      rw [hkM.out, List.take_length] at this
      exact this
/-! ### a region of calls and slices made -/
def EnF (B : Nat) (bs : Nat → Option (List UInt8)) (zs : Nat → Option (List Int)) (i : Nat) (_ : Act) (v : Value) (w' : World) : Prop :=
  (∀ y, bs i = some y → Buf w' B v y) ∧ (∀ z, zs i = some z → ∃ p, v = .slice (some ⟨p, 0, none⟩) z.length z.length ∧ ∃ xs : Array Value, xs.toList = z.map (.int .i64) ∧ w'.heap[p]? = some (.cells xs 3 (0, 0)))
def EnT (B : Nat) (ks : List Nat) (k b : Nat) (o : Obj) : Prop := k ∈ ks ∧ B ≤ b ∧ ∃ (cs : Array Value) (f : Nat × Nat), o = .cells cs tB f
def EnK (ks : List Nat) (k i : Nat) : Bool := ks.contains k && ks.contains i && decide (i < k)
theorem KeepsO.none {S : Nat → Obj → Prop} {w w' : World} (h : KeepsO S w w') (hS : ∀ b o, ¬ S b o) : Keeps [] w w' :=
  ⟨h.os, h.tape, h.output, h.size, fun k hk _ => by
    obtain ⟨o, ho⟩ : ∃ o, w.heap[k]? = some o := ⟨w.heap[k], by simp [hk]⟩
    rw [ho]
    exact h.block k o ho (hS k o)⟩
theorem EnF.stable {ops : Array Oper} {B : Nat} {bs : Nat → Option (List UInt8)} {zs : Nat → Option (List Int)} {ks : List Nat} (hks : ∀ i, (bs i).isSome = true → i ∈ ks) (hpre : (ks.all fun k => ks.all fun i => !decide (k < i) || Free.pre ops k i) = true)
    (i k : Nat) (a : Act) (v : Value) (w w' : World) (hne : i ≠ k) (hki : EnK ks k i = false) (hp : Free.pre ops k i = false) (h : EnF B bs zs i a v w) (hk : KeepsO (EnT B ks k) w w') : EnF B bs zs i a v w' := by
  refine ⟨fun y hy => ?_, fun z hz => ?_⟩
  · have hB := h.1 y hy
    have hi := hks i (by rw [hy]; rfl)
    refine hB.keep (KeepsO.none hk (fun b o hs => ?_))
    have hm := hs.1
    rcases Nat.lt_or_ge k i with h9 | h9
    · have h8 := List.all_eq_true.1 (List.all_eq_true.1 hpre k hm) i hi
      simp [h9, hp] at h8
    · have h9' : i < k := Nat.lt_of_le_of_ne h9 hne
      simp [EnK, hm, hi, h9'] at hki
  · obtain ⟨p, e, xs, h1, h2⟩ := h.2 z hz
    exact ⟨p, e, xs, h1, hk.block p _ h2 (fun hs => by obtain ⟨_, _, cs, f, e⟩ := hs; cases e)⟩
theorem EnT.not {ops : Array Oper} {B : Nat} {ks : List Nat} {i b : Nat} {cs : Array Value} {t : TypeId} {f : Nat × Nat} (ht : t ≠ tB) : ¬ FreeO.sx ops (EnT B ks) i b (.cells cs t f) := by
  rintro ⟨k, _, _, _, _, _, _, e⟩
  cases e; exact ht rfl
theorem EnT.ky {B : Nat} {ks : List Nat} {i : Nat} {ops : Array Oper} {w w' : World} (h : KeepsO (FreeO.sx ops (EnT B ks) i) w w') : KY B w w' := h.mono (fun b o ⟨_, _, _, _, h1, h2⟩ => ⟨h1, h2⟩)
theorem EnT.kyA {B : Nat} {ks : List Nat} {w w' : World} (h : KeepsO (FreeO.sa (EnT B ks)) w w') : KY B w w' := h.mono (fun b o ⟨_, _, h1, h2⟩ => ⟨h1, h2⟩)
theorem EnT.first {ops : Array Oper} {B : Nat} {ks : List Nat} {i : Nat} {w w' : World} (hc : (ks.all fun k => (k == i) || Free.pre ops i k) = true) (hg : KeepsO (FreeO.sx ops (EnT B ks) i) w w') : Keeps [] w w' :=
  KeepsO.none hg (fun b o hs => by
    simp only [List.all_eq_true, Bool.or_eq_true, beq_iff_eq] at hc
    obtain ⟨k, hne, hp, h1⟩ := hs
    rcases hc k h1.1 with h2 | h2
    · exact hne h2
    · rw [hp] at h2; cases h2)
theorem EnT.of {B : Nat} {ks : List Nat} {k : Nat} {w w' : World} (h : KY B w w') (hm : k ∈ ks) : KeepsO (EnT B ks k) w w' := KeepsO.mono h (fun b o hs => ⟨hm, hs.1, hs.2⟩)
end Go.Proofs.YtiplgpefapeapaaGreat
