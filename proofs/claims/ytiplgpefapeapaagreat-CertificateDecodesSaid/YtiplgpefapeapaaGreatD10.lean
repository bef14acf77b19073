/- Texts that the laws lean on, in the order in which they build. The specification's Encode of a certificate. (Printed by mkcva.py.) The specification reads needs. The specification reads an answer. (Printed by mkcvc.py.) -/
import Derived.Test.YtiplgpefapeapaaGreatD9
set_option linter.unusedVariables false
set_option linter.unusedSimpArgs false
namespace Go.Proofs.YtiplgpefapeapaaGreat
open Go.RowKit

def encNs (L : List T3) : List UInt8 := encU L.length ++ encXs L
def encP (p : PCl) : List UInt8 := encI p.m ++ encI p.ep ++ (encNs p.st ++ (encNs p.sc ++ encNs p.ch))
def encPs (P : List PCl) : List UInt8 := (P.map encP).flatten
/-- The bytes of a certificate. -/
def encCt (c : Ct) : List UInt8 := encI c.im ++ encI c.is ++ encX c.st ++ encU c.an.length ++ encH c.an ++ encU c.cl.length ++ encPs c.cl
theorem encPs_take (L : List PCl) (k : Nat) (hk : k < L.length) : encPs (L.take (k + 1)) = encPs (L.take k) ++ encP L[k] := by
  unfold encPs
  rw [List.take_succ_eq_append_getElem hk, List.map_append, List.flatten_append]
  simp
theorem encB_len (b : Bool) : (encB b).length ≤ 1 := by cases b <;> decide
theorem T3.Fit.ins {x : T3} (h : x.Fit) : InsFit x := ⟨h.1, h.2.1, h.2.2⟩
/-- How long the bytes may be, roughly. -/
def wA (a : Ans) : Nat := 100 + 30 * a.ins.length
def wP (p : PCl) : Nat := 100 + 30 * (p.st.length + (p.sc.length + p.ch.length))
def Ct.wt (c : Ct) : Nat := 200 + (c.an.map wA).sum + (c.cl.map wP).sum
theorem sum_takeLe {α : Type} (g : α → Nat) (l : List α) (k : Nat) : ((l.take k).map g).sum ≤ (l.map g).sum := by
  have h : (l.map g).sum = ((l.take k).map g).sum + ((l.drop k).map g).sum := by rw [← List.sum_append, ← List.map_append, List.take_append_drop]
  omega
theorem pI_c (w : World) (v : Value) (l : List UInt8) (n : Int) (h : SlB w v l) (hn : W64 n) (hl : l.length ≤ 140737488355000) : Calls Tryz.prog 55 #[v, .int .i64 n] w fun e w' => ∃ v', e = .returned v' ∧ SlB w' v' (l ++ encI n) ∧ Keeps [] w w' := refInt_c w v l n h (w64_iff.1 hn) hl
theorem pU_c (w : World) (v : Value) (l : List UInt8) (n : Nat) (h : SlB w v l) (hn : n < 18446744073709551616) (hl : l.length ≤ 140737488355000) : Calls Tryz.prog 56 #[v, .int .u64 n] w fun e w' => ∃ v', e = .returned v' ∧ SlB w' v' (l ++ encU n) ∧ Keeps [] w w' :=
  (refU_c w v l n h hn hl).mono fun _ _ ⟨v', h1, h2, h3⟩ => ⟨v', h1, h2.slB, h3⟩
theorem pB_c (w : World) (v : Value) (l : List UInt8) (b : Bool) (h : SlB w v l) (hl : l.length ≤ 140737488355000) : Calls Tryz.prog 57 #[v, .bool b] w fun e w' => ∃ v', e = .returned v' ∧ SlB w' v' (l ++ encB b) ∧ Keeps [] w w' :=
  refB_c w v l b h hl
set_option maxRecDepth 100000 in
set_option maxHeartbeats 4000000 in
theorem pN_c (w : World) (v : Value) (l : List UInt8) (x : T3) (h : SlB w v l) (hx : x.Fit) (hl : l.length ≤ 140737488354900) :
    Calls Tryz.prog 54 #[v, tV x] w fun e w' => ∃ v', e = .returned v' ∧ SlB w' v' (l ++ encX x) ∧ Keeps [] w w' := by
  obtain ⟨x0, x1, x2⟩ := x
  obtain ⟨hx0, hx1, hx2⟩ := hx
  simp only at hx0 hx1 hx2
  have hkA := (Keeps.refl [] w).alloc (.cells #[.int .i64 x0, .int .u64 x1, .int .i64 x2] tN)
  have hA := heap_alloc_new w (.cells #[.int .i64 x0, .int .u64 x1, .int .i64 x2] tN)
  have hB := Lib.hid (h.keeps hkA)
  have hres : ∀ y, y = l ++ encI x0 ++ encU x1 ++ encI x2 → y = l ++ encX (x0, x1, x2) := fun y e => by rw [e]; simp [encX, List.append_assoc]
  replace hkA := Lib.hid hkA
  replace hA := Lib.hid hA
  replace hres := Lib.hid hres
  clear h
  simp only [tV]
  go_enter Tryz.func54, Tryz.ntmps54
  go_upto_region 1 with fail
  generalize (w.alloc (.cells #[.int .i64 x0, .int .u64 x1, .int .i64 x2] tN)) = W at *
  obtain ⟨B, hBB⟩ : ∃ B, w.heap.size = B := ⟨_, rfl⟩
  rw [hBB] at hA ⊢
  replace hBB := Lib.hid hBB
  obtain ⟨i0, i1, i2, if', il⟩ := cl3 hA.out
  refine Free.wp_region_chain (fun i => i == 3 || i == 6 || i == 9) (fun i => true) (fun _ _ => False) (by kernel_rfl) (by kernel_rfl) (by kernel_rfl) ?_
  have hkr := Lib.hid ((Keeps.refl [] W).drew)
  replace hB := Lib.hid (hB.out.keeps (Keeps.refl [] W).drew)
  (repeat (first | (apply Free.cw_pure rfl rfl; (intro w'; go_simp <;> exact rfl); go_frame) | (apply Free.cw_steady rfl rfl rfl; (intro w' hS; have q0 := Free.sx_cell hS i0 (fun _ _ hT => hT); have q1 := Free.sx_cell hS i1 (fun _ _ hT => hT); have q2 := Free.sx_cell hS i2 (fun _ _ hT => hT); go_simp <;> exact rfl); go_frame) | (refine Free.cw_skip rfl ?_; go_frame)))
  refine Free.cw_loud rfl rfl (fun K hK => ?_)
  have hc := pI_c _ _ l x0 hB.out hx0 (by omega)
  obtain ⟨l0, hl0⟩ : ∃ y, l ++ encI x0 = y := ⟨_, rfl⟩
  rw [hl0] at hc
  have hn0 : l0.length ≤ l.length + 9 := by rw [← hl0, List.length_append]; have := encI_len hx0; omega
  replace hc := Lib.hid hc
  replace hl0 := Lib.hid hl0
  go_wp2_with fail
  refine hc.out.mono ?_
  rintro e w0 ⟨v0, rfl, hB0, hk0⟩
  refine hK _ _ rfl (Free.KeepsP.of hk0 (by simp)) ?_
  clear hK K hc hB
  have hB := Lib.hid hB0
  replace hkr := Lib.hid (hkr.out.trans hk0)
  clear hB0 hk0
  (repeat (first | (apply Free.cw_pure rfl rfl; (intro w'; go_simp <;> exact rfl); go_frame) | (apply Free.cw_steady rfl rfl rfl; (intro w' hS; have q0 := Free.sx_cell hS i0 (fun _ _ hT => hT); have q1 := Free.sx_cell hS i1 (fun _ _ hT => hT); have q2 := Free.sx_cell hS i2 (fun _ _ hT => hT); go_simp <;> exact rfl); go_frame) | (refine Free.cw_skip rfl ?_; go_frame)))
  refine Free.cw_loud rfl rfl (fun K hK => ?_)
  have hc := pU_c _ _ l0 x1 hB.out hx1 (by omega)
  obtain ⟨l1, hl1⟩ : ∃ y, l0 ++ encU x1 = y := ⟨_, rfl⟩
  rw [hl1] at hc
  have hn1 : l1.length ≤ l0.length + 9 := by rw [← hl1, List.length_append]; have := encU_len (n := x1) hx1; omega
  replace hc := Lib.hid hc
  replace hl1 := Lib.hid hl1
  go_wp2_with fail
  refine hc.out.mono ?_
  rintro e w1 ⟨v1, rfl, hB1, hk1⟩
  refine hK _ _ rfl (Free.KeepsP.of hk1 (by simp)) ?_
  clear hK K hc hB
  have hB := Lib.hid hB1
  replace hkr := Lib.hid (hkr.out.trans hk1)
  clear hB1 hk1
  (repeat (first | (apply Free.cw_pure rfl rfl; (intro w'; go_simp <;> exact rfl); go_frame) | (apply Free.cw_steady rfl rfl rfl; (intro w' hS; have q0 := Free.sx_cell hS i0 (fun _ _ hT => hT); have q1 := Free.sx_cell hS i1 (fun _ _ hT => hT); have q2 := Free.sx_cell hS i2 (fun _ _ hT => hT); go_simp <;> exact rfl); go_frame) | (refine Free.cw_skip rfl ?_; go_frame)))
  refine Free.cw_loud rfl rfl (fun K hK => ?_)
  have hc := pI_c _ _ l1 x2 hB.out hx2 (by omega)
  obtain ⟨l2, hl2⟩ : ∃ y, l1 ++ encI x2 = y := ⟨_, rfl⟩
  rw [hl2] at hc
  have hn2 : l2.length ≤ l1.length + 9 := by rw [← hl2, List.length_append]; have := encI_len hx2; omega
  replace hc := Lib.hid hc
  replace hl2 := Lib.hid hl2
  go_wp2_with fail
  refine hc.out.mono ?_
  rintro e w2 ⟨v2, rfl, hB2, hk2⟩
  refine hK _ _ rfl (Free.KeepsP.of hk2 (by simp)) ?_
  clear hK K hc hB
  have hB := Lib.hid hB2
  replace hkr := Lib.hid (hkr.out.trans hk2)
  clear hB2 hk2
  (repeat (apply Free.cw_pure rfl rfl; (intro w'; go_simp <;> exact rfl); go_frame))
  refine Free.cw_nil ?_
  go_wp2
  go_ret
  exact ⟨_, rfl, by rw [← hres.out l2 (by rw [← hl2.out, ← hl1.out, ← hl0.out])]; exact hB.out, hkA.out.trans hkr.out⟩
set_option maxRecDepth 100000 in
set_option maxHeartbeats 4000000 in
theorem pNs_c (w : World) (v : Value) (l : List UInt8) (vl : Value) (L : List T3) (hR : shT.R w vl L) (hf : ∀ x ∈ L, T3.Fit x) (h : SlB w v l) (hl : l.length + 30 * L.length ≤ 140737488354800) :
    Calls Tryz.prog 58 #[v, vl] w fun e w' => ∃ v', e = .returned v' ∧ SlB w' v' (l ++ encNs L) ∧ Keeps [] w w' := by
  obtain ⟨a, c, rfl, hlc, hcm, _⟩ := hR.form
  obtain ⟨M, hM⟩ : ∃ N, L.length = N := ⟨_, rfl⟩
  rw [hM] at hlc hl hR ⊢
  have hB := Lib.hid h
  have hwM : IntKind.u64.wrap (M : Int) = M := by rw [IntKind.wrap_u64]; omega
  replace hM := Lib.hid hM
  replace hR := Lib.hid hR
  replace hf := Lib.hid hf
  clear h
  go_enter Tryz.func58, Tryz.ntmps58
  have hc := pU_c _ _ l M hB.out (by omega) (by omega)
  obtain ⟨la, hla⟩ : ∃ y, l ++ encU M = y := ⟨_, rfl⟩
  rw [hla] at hc
  have hna : la.length ≤ l.length + 9 := by rw [← hla, List.length_append]; have := encU_len (n := M) (by omega); omega
  replace hc := Lib.hid hc
  replace hla := Lib.hid hla
  go_wp2_with fail
  refine hc.out.mono ?_
  rintro e wa ⟨va, rfl, hBa, hka⟩
  clear hc hB
  have hB := Lib.hid hBa
  have hkr := Lib.hid hka
  clear hBa hka
  have hkA := hkr
  clear hkr
  go_wp2
  go_loopw [0, 5] (fun bv i wr => ∃ (k : Nat) (lk : List UInt8), i = .int .i64 k ∧ k ≤ M ∧ Hid (SlB wr bv lk) ∧ Hid (lk = la ++ encXs (L.take k)) ∧ Hid (lk.length ≤ la.length + 27 * k) ∧ Hid (Keeps [] wa wr)) (fun _ i _ => M - (intOf i).toNat)
  case atStart => exact ⟨0, la, rfl, by omega, hB, Lib.hid (by simp [encXs]), Lib.hid (by omega), Lib.hid (Keeps.refl _ _)⟩
  case round =>
    clear hB
    obtain ⟨k, lk, rfl, hk, hB, hlk, hlen, hkw⟩ := hrel
    by_cases hlt : k < M
    · have hlt2 : (k : Int) < M := by omega
      have hkl : k < L.length := by rw [hM.out]; exact hlt
      obtain ⟨g, o, c', hv, he⟩ := (hR.out.keeps (hkA.out.trans hkw.out)).elem hkl
      rw [hM.out] at hv
      cases hv
      have hfx := hf.out _ (List.getElem_mem hkl)
      have hsucc := encXs_take L k hkl
      obtain ⟨⟨n0, n1, n2⟩, hz⟩ : ∃ z, L[k] = z := ⟨_, rfl⟩
      rw [hz] at he hfx hsucc
      have t0 := he 0 _ rfl
      have t1 := he 1 _ rfl
      have t2 := he 2 _ rfl
      simp only [shT, Nat.add_zero] at t0 t1 t2
      have hlen2 := hlen.out
      replace hz := Lib.hid hz
      replace hfx := Lib.hid hfx
      replace hsucc := Lib.hid hsucc
      clear he
      have hc := pN_c _ _ lk (n0, n1, n2) hB.out hfx.out (by omega)
      obtain ⟨lb, hlb⟩ : ∃ y, lk ++ encX (n0, n1, n2) = y := ⟨_, rfl⟩
      rw [hlb] at hc
      have hnb : lb.length ≤ lk.length + 27 := by rw [← hlb, List.length_append]; have := encX_len hfx.out.ins; omega
      simp only [tV] at hc
      replace hc := Lib.hid hc
      replace hlb := Lib.hid hlb
      go_wp2_with fail
      refine hc.out.mono ?_
      rintro e wb ⟨vb, rfl, hBb, hkb⟩
      clear hc hB
      have hB := Lib.hid hBb
      have hkr := Lib.hid hkb
      clear hBb hkb
      have hlb2 : Hid (lb = la ++ encXs (L.take (k + 1))) := Lib.hid (by rw [← hlb.out, hlk.out, hsucc.out, List.append_assoc])
      have hlb3 : Hid (lb.length ≤ la.length + 27 * (k + 1)) := Lib.hid (by omega)
      have hkz := Lib.hid (hkw.out.trans hkr.out)
      go_wp2
      go_roundw
      case rel => exact ⟨k + 1, lb, rfl, by omega, hB, hlb2, hlb3, hkz⟩
      case measure => simp [intOf]; omega
    · have hlt2 : ¬ ((k : Int) < M) := by omega
      have hkM : k = L.length := by have := hM.out; omega
      have hres : Hid (lk = l ++ encNs L) := Lib.hid (by rw [hlk.out, ← hla.out, hkM, List.take_length]; unfold encNs; rw [hM.out, List.append_assoc])
      replace hkM := Lib.hid hkM
      go_wp2
      go_ret
      exact ⟨_, rfl, by rw [← hres.out]; exact hB.out, hkA.out.trans hkw.out⟩
theorem encNs_len {L : List T3} (h : ∀ x ∈ L, T3.Fit x) (hl : L.length < 18446744073709551616) : (encNs L).length ≤ 9 + 27 * L.length := by
  unfold encNs
  rw [List.length_append]
  have h1 := encU_len (n := L.length) hl
  have h2 := encXs_len (L := L) (fun x hx => (h x hx).ins)
  omega
set_option maxRecDepth 100000 in
set_option maxHeartbeats 16000000 in
theorem encodeS_c (w : World) (x : CtV) (c : Ct) (h : CtW w x c) (hf : c.Fit) (hw : c.wt ≤ 140737488354000) :
    Calls Tryz.prog 12 #[ctV x] w fun e w' => ∃ v', e = .returned v' ∧ SlB w' v' (encCt c) ∧ Keeps [] w w' := by
  have hf0 := hf.im
  have hf1 := hf.is
  have hf2 := hf.st
  have him := h.im
  have his := h.is
  have hs0 := h.s0
  have hs1 := h.s1
  have hs2 := h.s2
  have han := h.an
  have hcl := h.cl
  obtain ⟨x0, x1, x2, x3, x4, ⟨x5, x6, x7⟩, ⟨x8, x9, x10⟩⟩ := x
  simp only [slv] at han hcl
  simp only at him his hs0 hs1 hs2
  obtain ⟨_, _, e1, hla, hca⟩ := han.form
  obtain ⟨_, _, e2, hlc, hcc⟩ := hcl.form
  simp only [Value.slice.injEq] at e1 e2
  obtain ⟨-, e1, -⟩ := e1
  obtain ⟨-, e2, -⟩ := e2
  have hx6 : x6 ≤ 9223372036854775807 := by unfold maxLen at hca; omega
  have hx9 : x9 ≤ 9223372036854775807 := by unfold maxLen at hcc; omega
  have hw6 : IntKind.u64.wrap (x6 : Int) = x6 := by rw [IntKind.wrap_u64]; omega
  have hw9 : IntKind.u64.wrap (x9 : Int) = x9 := by rw [IntKind.wrap_u64]; omega
  have hkA := (Keeps.refl [] w).alloc (.cells #[.int .i64 x0, .int .i64 x1, .int .i64 x2, .int .u64 x3, .int .i64 x4, .slice x5 x6 x7, .slice x8 x9 x10] tCt)
  have hA := heap_alloc_new w (.cells #[.int .i64 x0, .int .i64 x1, .int .i64 x2, .int .u64 x3, .int .i64 x4, .slice x5 x6 x7, .slice x8 x9 x10] tCt)
  have hst : c.st = (x2, x3, x4) := Prod.ext hs0.symm (Prod.ext hs1.symm hs2.symm)
  rw [← him] at hf0
  rw [← his] at hf1
  rw [hst] at hf2
  have henc : encCt c = encI x0 ++ encI x1 ++ encX (x2, x3, x4) ++ encU x6 ++ encH c.an ++ encU x9 ++ encPs c.cl := by unfold encCt; rw [him, his, hst, e1, e2]
  rw [henc]
  have hwA := fun k => sum_takeLe wA c.an k
  have hwP := fun k => sum_takeLe wP c.cl k
  unfold Ct.wt at hw
  obtain ⟨SA, hSA⟩ : ∃ n, (c.an.map wA).sum = n := ⟨_, rfl⟩
  obtain ⟨SP, hSP⟩ : ∃ n, (c.cl.map wP).sum = n := ⟨_, rfl⟩
  rw [hSA] at hw hwA
  rw [hSP] at hw hwP
  have hB : Hid (SlB (w.alloc (.cells #[.int .i64 x0, .int .i64 x1, .int .i64 x2, .int .u64 x3, .int .i64 x4, .slice x5 x6 x7, .slice x8 x9 x10] tCt)) (.slice none 0 0) []) := Lib.hid (SlB.nil _)
  have hnil : ([] : List UInt8).length = 0 := rfl
  replace hf0 := Lib.hid hf0
  replace hf1 := Lib.hid hf1
  replace hf2 := Lib.hid hf2
  replace han := Lib.hid han
  replace hcl := Lib.hid hcl
  replace e1 := Lib.hid e1
  replace e2 := Lib.hid e2
  replace hkA := Lib.hid hkA
  replace hA := Lib.hid hA
  replace hf := Lib.hid hf
  replace hwA := Lib.hid hwA
  replace hwP := Lib.hid hwP
  replace hSA := Lib.hid hSA
  replace hSP := Lib.hid hSP
  clear h him his hs0 hs1 hs2 hst henc
  simp only [ctV, slv]
  go_enter Tryz.func12, Tryz.ntmps12
  go_upto_region 1 with fail
  generalize (w.alloc (.cells #[.int .i64 x0, .int .i64 x1, .int .i64 x2, .int .u64 x3, .int .i64 x4, .slice x5 x6 x7, .slice x8 x9 x10] tCt)) = W at *
  obtain ⟨B, hBB⟩ : ∃ B, w.heap.size = B := ⟨_, rfl⟩
  rw [hBB] at hA ⊢
  replace hBB := Lib.hid hBB
  obtain ⟨i0, i1, i2, i3, i4, i5, i6, if', il⟩ := cl7 hA.out
  refine Free.wp_region_chain (fun i => i == 3 || i == 7 || i == 10) (fun i => true) (fun _ _ => False) (by kernel_rfl) (by kernel_rfl) (by kernel_rfl) ?_
  have hkr := Lib.hid ((Keeps.refl [] W).drew)
  replace hB := Lib.hid (hB.out.keeps (Keeps.refl [] W).drew)
  (repeat (first | (apply Free.cw_pure rfl rfl; (intro w'; go_simp <;> exact rfl); go_frame) | (apply Free.cw_steady rfl rfl rfl; (intro w' hS; have q0 := Free.sx_cell hS i0 (fun _ _ hT => hT); have q1 := Free.sx_cell hS i1 (fun _ _ hT => hT); have q2 := Free.sx_cell hS i2 (fun _ _ hT => hT); have q3 := Free.sx_cell hS i3 (fun _ _ hT => hT); have q4 := Free.sx_cell hS i4 (fun _ _ hT => hT); have q5 := Free.sx_cell hS i5 (fun _ _ hT => hT); have q6 := Free.sx_cell hS i6 (fun _ _ hT => hT); go_simp <;> exact rfl); go_frame) | (refine Free.cw_skip rfl ?_; go_frame)))
  refine Free.cw_loud rfl rfl (fun K hK => ?_)
  have hc := pI_c _ _ ([] : List UInt8) x0 hB.out hf0.out (by omega)
  obtain ⟨la0, hla0⟩ : ∃ y, ([] : List UInt8) ++ encI x0 = y := ⟨_, rfl⟩
  rw [hla0] at hc
  have hna0 : la0.length ≤ ([] : List UInt8).length + 9 := by rw [← hla0, List.length_append]; have := encI_len hf0.out; omega
  replace hc := Lib.hid hc
  replace hla0 := Lib.hid hla0
  go_wp2_with fail
  refine hc.out.mono ?_
  rintro e wa0 ⟨va0, rfl, hBa0, hka0⟩
  refine hK _ _ rfl (Free.KeepsP.of hka0 (by simp)) ?_
  clear hK K hc hB
  have hB := Lib.hid hBa0
  replace hkr := Lib.hid (hkr.out.trans hka0)
  clear hBa0 hka0
  (repeat (first | (apply Free.cw_pure rfl rfl; (intro w'; go_simp <;> exact rfl); go_frame) | (apply Free.cw_steady rfl rfl rfl; (intro w' hS; have q0 := Free.sx_cell hS i0 (fun _ _ hT => hT); have q1 := Free.sx_cell hS i1 (fun _ _ hT => hT); have q2 := Free.sx_cell hS i2 (fun _ _ hT => hT); have q3 := Free.sx_cell hS i3 (fun _ _ hT => hT); have q4 := Free.sx_cell hS i4 (fun _ _ hT => hT); have q5 := Free.sx_cell hS i5 (fun _ _ hT => hT); have q6 := Free.sx_cell hS i6 (fun _ _ hT => hT); go_simp <;> exact rfl); go_frame) | (refine Free.cw_skip rfl ?_; go_frame)))
  refine Free.cw_loud rfl rfl (fun K hK => ?_)
  have hc := pI_c _ _ la0 x1 hB.out hf1.out (by omega)
  obtain ⟨la1, hla1⟩ : ∃ y, la0 ++ encI x1 = y := ⟨_, rfl⟩
  rw [hla1] at hc
  have hna1 : la1.length ≤ la0.length + 9 := by rw [← hla1, List.length_append]; have := encI_len hf1.out; omega
  replace hc := Lib.hid hc
  replace hla1 := Lib.hid hla1
  go_wp2_with fail
  refine hc.out.mono ?_
  rintro e wa1 ⟨va1, rfl, hBa1, hka1⟩
  refine hK _ _ rfl (Free.KeepsP.of hka1 (by simp)) ?_
  clear hK K hc hB
  have hB := Lib.hid hBa1
  replace hkr := Lib.hid (hkr.out.trans hka1)
  clear hBa1 hka1
  (repeat (first | (apply Free.cw_pure rfl rfl; (intro w'; go_simp <;> exact rfl); go_frame) | (apply Free.cw_steady rfl rfl rfl; (intro w' hS; have q0 := Free.sx_cell hS i0 (fun _ _ hT => hT); have q1 := Free.sx_cell hS i1 (fun _ _ hT => hT); have q2 := Free.sx_cell hS i2 (fun _ _ hT => hT); have q3 := Free.sx_cell hS i3 (fun _ _ hT => hT); have q4 := Free.sx_cell hS i4 (fun _ _ hT => hT); have q5 := Free.sx_cell hS i5 (fun _ _ hT => hT); have q6 := Free.sx_cell hS i6 (fun _ _ hT => hT); go_simp <;> exact rfl); go_frame) | (refine Free.cw_skip rfl ?_; go_frame)))
  refine Free.cw_loud rfl rfl (fun K hK => ?_)
  have hc := pN_c _ _ la1 (x2, x3, x4) hB.out hf2.out (by omega)
  obtain ⟨la2, hla2⟩ : ∃ y, la1 ++ encX (x2, x3, x4) = y := ⟨_, rfl⟩
  rw [hla2] at hc
  have hna2 : la2.length ≤ la1.length + 27 := by rw [← hla2, List.length_append]; have := encX_len hf2.out.ins; omega
  simp only [tV] at hc
  replace hc := Lib.hid hc
  replace hla2 := Lib.hid hla2
  go_wp2_with fail
  refine hc.out.mono ?_
  rintro e wa2 ⟨va2, rfl, hBa2, hka2⟩
  refine hK _ _ rfl (Free.KeepsP.of hka2 (by simp)) ?_
  clear hK K hc hB
  have hB := Lib.hid hBa2
  replace hkr := Lib.hid (hkr.out.trans hka2)
  clear hBa2 hka2
  (repeat (apply Free.cw_pure rfl rfl; (intro w'; go_simp <;> exact rfl); go_frame))
  refine Free.cw_nil ?_
  replace hA := Lib.hid ((hkr.out.block _ (lt_of_blk hA.out) (by simp)).trans hA.out)
  replace hkA := Lib.hid (hkA.out.trans hkr.out)
  clear i0 i1 i2 i3 i4 i5 i6 if' il hkr
  obtain ⟨i0, i1, i2, i3, i4, i5, i6, if', il⟩ := cl7 hA.out
  have hc := pU_c _ _ la2 x6 hB.out (by omega) (by omega)
  obtain ⟨lb, hlb⟩ : ∃ y, la2 ++ encU x6 = y := ⟨_, rfl⟩
  rw [hlb] at hc
  have hnb : lb.length ≤ la2.length + 9 := by rw [← hlb, List.length_append]; have := encU_len (n := x6) (by omega); omega
  replace hc := Lib.hid hc
  replace hlb := Lib.hid hlb
  go_wp2_with fail
  refine hc.out.mono ?_
  rintro e wb ⟨vb, rfl, hBb, hkb⟩
  clear hc hB
  have hB := Lib.hid hBb
  have hkr := Lib.hid hkb
  clear hBb hkb
  replace hA := Lib.hid ((hkr.out.block _ (lt_of_blk hA.out) (by simp)).trans hA.out)
  replace hkA := Lib.hid (hkA.out.trans hkr.out)
  clear i0 i1 i2 i3 i4 i5 i6 if' il hkr
  have hlb2 : Hid (lb = encI x0 ++ encI x1 ++ encX (x2, x3, x4) ++ encU x6) := Lib.hid (by rw [← hlb.out, ← hla2.out, ← hla1.out, ← hla0.out, List.nil_append])
  have hlb100 : lb.length ≤ 60 := by omega
  go_wp2
  go_loopw [3, 4] (fun bv i wr => ∃ (k : Nat) (lk : List UInt8), i = .int .i64 k ∧ k ≤ x6 ∧ Hid (SlB wr bv lk) ∧ Hid (lk = lb ++ encH (c.an.take k)) ∧ Hid (lk.length ≤ 60 + ((c.an.take k).map wA).sum) ∧ Hid (Keeps [] wb wr)) (fun _ i _ => x6 - (intOf i).toNat)
  case atStart => exact ⟨0, lb, rfl, by omega, hB, Lib.hid (by simp [encH]), Lib.hid (by simp; omega), Lib.hid (Keeps.refl _ _)⟩
  case round =>
    clear hB
    obtain ⟨k, lk, rfl, hk, hB, hlk, hlen, hkw⟩ := hrel
    have hAr := (hkw.out.block _ (lt_of_blk hA.out) (by simp)).trans hA.out
    obtain ⟨i0, i1, i2, i3, i4, i5, i6, if', il⟩ := cl7 hAr
    have hkF := Lib.hid (hkA.out.trans hkw.out)
    by_cases hlt : k < x6
    · have hlt2 : (k : Int) < x6 := by omega
      have hkl : k < c.an.length := by rw [← e1.out]; exact hlt
      have hsucc := encH_take c.an k hkl
      have hsum := sum_succ wA c.an k hkl
      have hsum2 := hwA.out (k + 1)
      obtain ⟨g, o, c', y, hv, hy, he⟩ := han.out.elem hkl
      rw [← e1.out] at hv
      cases hv
      have haf := hf.out.an _ (List.getElem_mem hkl)
      obtain ⟨a, ha⟩ : ∃ a, c.an[k] = a := ⟨_, rfl⟩
      rw [ha] at hy hsucc hsum haf
      obtain ⟨_, _, ev, hl1, hl2, _⟩ := hy.ins.form
      have hins := hy.ins
      have m0 := hy.m
      have m1 := hy.ow
      have m2 := hy.n
      have m3 := hy.ep
      have m4 := hy.kn
      have m5 := hy.rt
      have m6 := hy.lu
      have ha0 := haf.q.1
      have ha1 := haf.q.2.1
      have ha2 := haf.q.2.2
      have ha3 := haf.ep
      have ha6 := haf.lu
      obtain ⟨y0, y1, y2, y3, y4, y5, y6, y7, y8, y9⟩ := y
      simp only [AnV.v] at ev hins
      simp only at m0 m1 m2 m3 m4 m5 m6
      simp only [Value.slice.injEq] at ev
      obtain ⟨-, ev, -⟩ := ev
      simp only [Ans.q] at ha0 ha1 ha2
      rw [← m0] at ha0
      rw [← m1] at ha1
      rw [← m2] at ha2
      rw [← m3] at ha3
      rw [← m6] at ha6
      have henA : encA a = encI y0 ++ encI y1 ++ encU y2 ++ encI y3 ++ encB y4 ++ encB y5 ++ encI y6 ++ encU y8 ++ encXs a.ins := by unfold encA encA0; rw [m0, m1, m2, m3, m4, m5, m6, ev]
      have hwa : wA a = 100 + 30 * y8 := by unfold wA; rw [ev]
      have hy8 : y8 ≤ 9223372036854775807 := by unfold maxLen at hl2; omega
      have hw8 : IntKind.u64.wrap (y8 : Int) = y8 := by rw [IntKind.wrap_u64]; omega
      rw [hwa] at hsum
      have e0 := hkF.out.val (he 0 _ rfl)
      have e1' := hkF.out.val (he 1 _ rfl)
      have e2' := hkF.out.val (he 2 _ rfl)
      have e3 := hkF.out.val (he 3 _ rfl)
      have e4 := hkF.out.val (he 4 _ rfl)
      have e5 := hkF.out.val (he 5 _ rfl)
      have e6 := hkF.out.val (he 6 _ rfl)
      have e7 := hkF.out.val (he 7 _ rfl)
      simp only [AnV.v, Nat.add_zero] at e0 e1' e2' e3 e4 e5 e6 e7
      have hbN := heap_alloc_new wr (.cells #[.int .i64 y0, .int .i64 y1, .int .u64 y2, .int .i64 y3, .bool y4, .bool y5, .int .i64 y6, .slice y7 y8 y9] tA)
      have hka := (Keeps.refl [] wr).alloc (.cells #[.int .i64 y0, .int .i64 y1, .int .u64 y2, .int .i64 y3, .bool y4, .bool y5, .int .i64 y6, .slice y7 y8 y9] tA)
      have hkn := Lib.hid (hkw.out.trans hka)
      have hkG := Lib.hid (hkF.out.trans hka)
      obtain ⟨SK, hSK⟩ : ∃ n, ((c.an.take k).map wA).sum = n := ⟨_, rfl⟩
      obtain ⟨SK1, hSK1⟩ : ∃ n, ((c.an.take (k + 1)).map wA).sum = n := ⟨_, rfl⟩
      rw [hSK] at hlen hsum
      rw [hSK1] at hsum hsum2
      have hlen2 := hlen.out
      have hsb : SK + (100 + 30 * y8) ≤ SA := by omega
      replace hB := Lib.hid (hB.out.keeps hka)
      replace ha := Lib.hid ha
      replace ev := Lib.hid ev
      replace hins := Lib.hid hins
      replace ha0 := Lib.hid ha0
      replace ha1 := Lib.hid ha1
      replace ha2 := Lib.hid ha2
      replace ha3 := Lib.hid ha3
      replace ha6 := Lib.hid ha6
      replace haf := Lib.hid haf
      replace henA := Lib.hid henA
      replace hsucc := Lib.hid hsucc
      replace hsum := Lib.hid hsum
      replace hSK := Lib.hid hSK
      replace hSK1 := Lib.hid hSK1
      replace hbN := Lib.hid hbN
      clear he hy hka hl1 hl2 m0 m1 m2 m3 m4 m5 m6 hsum2 hwa
      go_upto_region 7 with fail
      generalize (wr.alloc (.cells #[.int .i64 y0, .int .i64 y1, .int .u64 y2, .int .i64 y3, .bool y4, .bool y5, .int .i64 y6, .slice y7 y8 y9] tA)) = WN at *
      obtain ⟨XN, hXN⟩ : ∃ X, wr.heap.size = X := ⟨_, rfl⟩
      rw [hXN] at hbN ⊢
      replace hXN := Lib.hid hXN
      clear i0 i1 i2 i3 i4 i5 i6 if' il e0 e1' e2' e3 e4 e5 e6 e7
      obtain ⟨e0, e1', e2, e3, e4, e5, e6, e7, ef, el⟩ := cl8 hbN.out
      refine Free.wp_region_chain (fun i => i == 3 || i == 6 || i == 9) (fun i => true) (fun _ _ => False) (by kernel_rfl) (by kernel_rfl) (by kernel_rfl) ?_
      have hkr := Lib.hid ((Keeps.refl [] WN).drew)
      replace hB := Lib.hid (hB.out.keeps (Keeps.refl [] WN).drew)
      (repeat (first | (apply Free.cw_pure rfl rfl; (intro w'; go_simp <;> exact rfl); go_frame) | (apply Free.cw_steady rfl rfl rfl; (intro w' hS; have q0 := Free.sx_cell hS e0 (fun _ _ hT => hT); have q1 := Free.sx_cell hS e1' (fun _ _ hT => hT); have q2 := Free.sx_cell hS e2 (fun _ _ hT => hT); have q3 := Free.sx_cell hS e3 (fun _ _ hT => hT); have q4 := Free.sx_cell hS e4 (fun _ _ hT => hT); have q5 := Free.sx_cell hS e5 (fun _ _ hT => hT); have q6 := Free.sx_cell hS e6 (fun _ _ hT => hT); have q7 := Free.sx_cell hS e7 (fun _ _ hT => hT); go_simp <;> exact rfl); go_frame) | (refine Free.cw_skip rfl ?_; go_frame)))
      refine Free.cw_loud rfl rfl (fun K hK => ?_)
      have hc := pI_c _ _ lk y0 hB.out ha0.out (by omega)
      obtain ⟨lc0, hlc0⟩ : ∃ y, lk ++ encI y0 = y := ⟨_, rfl⟩
      rw [hlc0] at hc
      have hnc0 : lc0.length ≤ lk.length + 9 := by rw [← hlc0, List.length_append]; have := encI_len ha0.out; omega
      replace hc := Lib.hid hc
      replace hlc0 := Lib.hid hlc0
      go_wp2_with fail
      refine hc.out.mono ?_
      rintro e wc0 ⟨vc0, rfl, hBc0, hkc0⟩
      refine hK _ _ rfl (Free.KeepsP.of hkc0 (by simp)) ?_
      clear hK K hc hB
      have hB := Lib.hid hBc0
      replace hkr := Lib.hid (hkr.out.trans hkc0)
      clear hBc0 hkc0
      (repeat (first | (apply Free.cw_pure rfl rfl; (intro w'; go_simp <;> exact rfl); go_frame) | (apply Free.cw_steady rfl rfl rfl; (intro w' hS; have q0 := Free.sx_cell hS e0 (fun _ _ hT => hT); have q1 := Free.sx_cell hS e1' (fun _ _ hT => hT); have q2 := Free.sx_cell hS e2 (fun _ _ hT => hT); have q3 := Free.sx_cell hS e3 (fun _ _ hT => hT); have q4 := Free.sx_cell hS e4 (fun _ _ hT => hT); have q5 := Free.sx_cell hS e5 (fun _ _ hT => hT); have q6 := Free.sx_cell hS e6 (fun _ _ hT => hT); have q7 := Free.sx_cell hS e7 (fun _ _ hT => hT); go_simp <;> exact rfl); go_frame) | (refine Free.cw_skip rfl ?_; go_frame)))
      refine Free.cw_loud rfl rfl (fun K hK => ?_)
      have hc := pI_c _ _ lc0 y1 hB.out ha1.out (by omega)
      obtain ⟨lc1, hlc1⟩ : ∃ y, lc0 ++ encI y1 = y := ⟨_, rfl⟩
      rw [hlc1] at hc
      have hnc1 : lc1.length ≤ lc0.length + 9 := by rw [← hlc1, List.length_append]; have := encI_len ha1.out; omega
      replace hc := Lib.hid hc
      replace hlc1 := Lib.hid hlc1
      go_wp2_with fail
      refine hc.out.mono ?_
      rintro e wc1 ⟨vc1, rfl, hBc1, hkc1⟩
      refine hK _ _ rfl (Free.KeepsP.of hkc1 (by simp)) ?_
      clear hK K hc hB
      have hB := Lib.hid hBc1
      replace hkr := Lib.hid (hkr.out.trans hkc1)
      clear hBc1 hkc1
      (repeat (first | (apply Free.cw_pure rfl rfl; (intro w'; go_simp <;> exact rfl); go_frame) | (apply Free.cw_steady rfl rfl rfl; (intro w' hS; have q0 := Free.sx_cell hS e0 (fun _ _ hT => hT); have q1 := Free.sx_cell hS e1' (fun _ _ hT => hT); have q2 := Free.sx_cell hS e2 (fun _ _ hT => hT); have q3 := Free.sx_cell hS e3 (fun _ _ hT => hT); have q4 := Free.sx_cell hS e4 (fun _ _ hT => hT); have q5 := Free.sx_cell hS e5 (fun _ _ hT => hT); have q6 := Free.sx_cell hS e6 (fun _ _ hT => hT); have q7 := Free.sx_cell hS e7 (fun _ _ hT => hT); go_simp <;> exact rfl); go_frame) | (refine Free.cw_skip rfl ?_; go_frame)))
      refine Free.cw_loud rfl rfl (fun K hK => ?_)
      have hc := pU_c _ _ lc1 y2 hB.out ha2.out (by omega)
      obtain ⟨lc2, hlc2⟩ : ∃ y, lc1 ++ encU y2 = y := ⟨_, rfl⟩
      rw [hlc2] at hc
      have hnc2 : lc2.length ≤ lc1.length + 9 := by rw [← hlc2, List.length_append]; have := encU_len (n := y2) ha2.out; omega
      replace hc := Lib.hid hc
      replace hlc2 := Lib.hid hlc2
      go_wp2_with fail
      refine hc.out.mono ?_
      rintro e wc2 ⟨vc2, rfl, hBc2, hkc2⟩
      refine hK _ _ rfl (Free.KeepsP.of hkc2 (by simp)) ?_
      clear hK K hc hB
      have hB := Lib.hid hBc2
      replace hkr := Lib.hid (hkr.out.trans hkc2)
      clear hBc2 hkc2
      (repeat (apply Free.cw_pure rfl rfl; (intro w'; go_simp <;> exact rfl); go_frame))
      refine Free.cw_nil ?_
      replace hbN := Lib.hid ((hkr.out.block _ (lt_of_blk hbN.out) (by simp)).trans hbN.out)
      replace hkn := Lib.hid (hkn.out.trans hkr.out)
      replace hkG := Lib.hid (hkG.out.trans hkr.out)
      clear e0 e1' e2 e3 e4 e5 e6 e7 ef el hkr
      obtain ⟨e0, e1', e2, e3, e4, e5, e6, e7, ef, el⟩ := cl8 hbN.out
      go_upto_region 8 with fail
      refine Free.wp_region_chain (fun i => i == 3 || i == 6 || i == 9) (fun i => true) (fun _ _ => False) (by kernel_rfl) (by kernel_rfl) (by kernel_rfl) ?_
      have hkr := Lib.hid ((Keeps.refl [] wc2).drew)
      replace hB := Lib.hid (hB.out.keeps (Keeps.refl [] wc2).drew)
      (repeat (first | (apply Free.cw_pure rfl rfl; (intro w'; go_simp <;> exact rfl); go_frame) | (apply Free.cw_steady rfl rfl rfl; (intro w' hS; have q0 := Free.sx_cell hS e0 (fun _ _ hT => hT); have q1 := Free.sx_cell hS e1' (fun _ _ hT => hT); have q2 := Free.sx_cell hS e2 (fun _ _ hT => hT); have q3 := Free.sx_cell hS e3 (fun _ _ hT => hT); have q4 := Free.sx_cell hS e4 (fun _ _ hT => hT); have q5 := Free.sx_cell hS e5 (fun _ _ hT => hT); have q6 := Free.sx_cell hS e6 (fun _ _ hT => hT); have q7 := Free.sx_cell hS e7 (fun _ _ hT => hT); go_simp <;> exact rfl); go_frame) | (refine Free.cw_skip rfl ?_; go_frame)))
      refine Free.cw_loud rfl rfl (fun K hK => ?_)
      have hc := pI_c _ _ lc2 y3 hB.out ha3.out (by omega)
      obtain ⟨ld0, hld0⟩ : ∃ y, lc2 ++ encI y3 = y := ⟨_, rfl⟩
      rw [hld0] at hc
      have hnd0 : ld0.length ≤ lc2.length + 9 := by rw [← hld0, List.length_append]; have := encI_len ha3.out; omega
      replace hc := Lib.hid hc
      replace hld0 := Lib.hid hld0
      go_wp2_with fail
      refine hc.out.mono ?_
      rintro e wd0 ⟨vd0, rfl, hBd0, hkd0⟩
      refine hK _ _ rfl (Free.KeepsP.of hkd0 (by simp)) ?_
      clear hK K hc hB
      have hB := Lib.hid hBd0
      replace hkr := Lib.hid (hkr.out.trans hkd0)
      clear hBd0 hkd0
      (repeat (first | (apply Free.cw_pure rfl rfl; (intro w'; go_simp <;> exact rfl); go_frame) | (apply Free.cw_steady rfl rfl rfl; (intro w' hS; have q0 := Free.sx_cell hS e0 (fun _ _ hT => hT); have q1 := Free.sx_cell hS e1' (fun _ _ hT => hT); have q2 := Free.sx_cell hS e2 (fun _ _ hT => hT); have q3 := Free.sx_cell hS e3 (fun _ _ hT => hT); have q4 := Free.sx_cell hS e4 (fun _ _ hT => hT); have q5 := Free.sx_cell hS e5 (fun _ _ hT => hT); have q6 := Free.sx_cell hS e6 (fun _ _ hT => hT); have q7 := Free.sx_cell hS e7 (fun _ _ hT => hT); go_simp <;> exact rfl); go_frame) | (refine Free.cw_skip rfl ?_; go_frame)))
      refine Free.cw_loud rfl rfl (fun K hK => ?_)
      have hc := pB_c _ _ ld0 y4 hB.out (by omega)
      obtain ⟨ld1, hld1⟩ : ∃ y, ld0 ++ encB y4 = y := ⟨_, rfl⟩
      rw [hld1] at hc
      have hnd1 : ld1.length ≤ ld0.length + 1 := by rw [← hld1, List.length_append]; have := encB_len y4; omega
      replace hc := Lib.hid hc
      replace hld1 := Lib.hid hld1
      go_wp2_with fail
      refine hc.out.mono ?_
      rintro e wd1 ⟨vd1, rfl, hBd1, hkd1⟩
      refine hK _ _ rfl (Free.KeepsP.of hkd1 (by simp)) ?_
      clear hK K hc hB
      have hB := Lib.hid hBd1
      replace hkr := Lib.hid (hkr.out.trans hkd1)
      clear hBd1 hkd1
      (repeat (first | (apply Free.cw_pure rfl rfl; (intro w'; go_simp <;> exact rfl); go_frame) | (apply Free.cw_steady rfl rfl rfl; (intro w' hS; have q0 := Free.sx_cell hS e0 (fun _ _ hT => hT); have q1 := Free.sx_cell hS e1' (fun _ _ hT => hT); have q2 := Free.sx_cell hS e2 (fun _ _ hT => hT); have q3 := Free.sx_cell hS e3 (fun _ _ hT => hT); have q4 := Free.sx_cell hS e4 (fun _ _ hT => hT); have q5 := Free.sx_cell hS e5 (fun _ _ hT => hT); have q6 := Free.sx_cell hS e6 (fun _ _ hT => hT); have q7 := Free.sx_cell hS e7 (fun _ _ hT => hT); go_simp <;> exact rfl); go_frame) | (refine Free.cw_skip rfl ?_; go_frame)))
      refine Free.cw_loud rfl rfl (fun K hK => ?_)
      have hc := pB_c _ _ ld1 y5 hB.out (by omega)
      obtain ⟨ld2, hld2⟩ : ∃ y, ld1 ++ encB y5 = y := ⟨_, rfl⟩
      rw [hld2] at hc
      have hnd2 : ld2.length ≤ ld1.length + 1 := by rw [← hld2, List.length_append]; have := encB_len y5; omega
      replace hc := Lib.hid hc
      replace hld2 := Lib.hid hld2
      go_wp2_with fail
      refine hc.out.mono ?_
      rintro e wd2 ⟨vd2, rfl, hBd2, hkd2⟩
      refine hK _ _ rfl (Free.KeepsP.of hkd2 (by simp)) ?_
      clear hK K hc hB
      have hB := Lib.hid hBd2
      replace hkr := Lib.hid (hkr.out.trans hkd2)
      clear hBd2 hkd2
      (repeat (apply Free.cw_pure rfl rfl; (intro w'; go_simp <;> exact rfl); go_frame))
      refine Free.cw_nil ?_
      replace hbN := Lib.hid ((hkr.out.block _ (lt_of_blk hbN.out) (by simp)).trans hbN.out)
      replace hkn := Lib.hid (hkn.out.trans hkr.out)
      replace hkG := Lib.hid (hkG.out.trans hkr.out)
      clear e0 e1' e2 e3 e4 e5 e6 e7 ef el hkr
      obtain ⟨e0, e1', e2, e3, e4, e5, e6, e7, ef, el⟩ := cl8 hbN.out
      go_upto_region 9 with fail
      refine Free.wp_region_chain (fun i => i == 3 || i == 8) (fun i => true) (fun _ _ => False) (by kernel_rfl) (by kernel_rfl) (by kernel_rfl) ?_
      have hkr := Lib.hid ((Keeps.refl [] wd2).drew)
      replace hB := Lib.hid (hB.out.keeps (Keeps.refl [] wd2).drew)
      (repeat (first | (apply Free.cw_pure rfl rfl; (intro w'; go_simp <;> exact rfl); go_frame) | (apply Free.cw_steady rfl rfl rfl; (intro w' hS; have q0 := Free.sx_cell hS e0 (fun _ _ hT => hT); have q1 := Free.sx_cell hS e1' (fun _ _ hT => hT); have q2 := Free.sx_cell hS e2 (fun _ _ hT => hT); have q3 := Free.sx_cell hS e3 (fun _ _ hT => hT); have q4 := Free.sx_cell hS e4 (fun _ _ hT => hT); have q5 := Free.sx_cell hS e5 (fun _ _ hT => hT); have q6 := Free.sx_cell hS e6 (fun _ _ hT => hT); have q7 := Free.sx_cell hS e7 (fun _ _ hT => hT); go_simp <;> exact rfl); go_frame) | (refine Free.cw_skip rfl ?_; go_frame)))
      refine Free.cw_loud rfl rfl (fun K hK => ?_)
      have hc := pI_c _ _ ld2 y6 hB.out ha6.out (by omega)
      obtain ⟨le0, hle0⟩ : ∃ y, ld2 ++ encI y6 = y := ⟨_, rfl⟩
      rw [hle0] at hc
      have hne0 : le0.length ≤ ld2.length + 9 := by rw [← hle0, List.length_append]; have := encI_len ha6.out; omega
      replace hc := Lib.hid hc
      replace hle0 := Lib.hid hle0
      go_wp2_with fail
      refine hc.out.mono ?_
      rintro e we0 ⟨ve0, rfl, hBe0, hke0⟩
      refine hK _ _ rfl (Free.KeepsP.of hke0 (by simp)) ?_
      clear hK K hc hB
      have hB := Lib.hid hBe0
      replace hkr := Lib.hid (hkr.out.trans hke0)
      clear hBe0 hke0
      (repeat (first | (apply Free.cw_pure rfl rfl; (intro w'; go_simp <;> exact rfl); go_frame) | (apply Free.cw_steady rfl rfl rfl; (intro w' hS; have q0 := Free.sx_cell hS e0 (fun _ _ hT => hT); have q1 := Free.sx_cell hS e1' (fun _ _ hT => hT); have q2 := Free.sx_cell hS e2 (fun _ _ hT => hT); have q3 := Free.sx_cell hS e3 (fun _ _ hT => hT); have q4 := Free.sx_cell hS e4 (fun _ _ hT => hT); have q5 := Free.sx_cell hS e5 (fun _ _ hT => hT); have q6 := Free.sx_cell hS e6 (fun _ _ hT => hT); have q7 := Free.sx_cell hS e7 (fun _ _ hT => hT); go_simp <;> exact rfl); go_frame) | (refine Free.cw_skip rfl ?_; go_frame)))
      refine Free.cw_loud rfl rfl (fun K hK => ?_)
      have hc := pU_c _ _ le0 y8 hB.out (by omega) (by omega)
      obtain ⟨le1, hle1⟩ : ∃ y, le0 ++ encU y8 = y := ⟨_, rfl⟩
      rw [hle1] at hc
      have hne1 : le1.length ≤ le0.length + 9 := by rw [← hle1, List.length_append]; have := encU_len (n := y8) (by omega); omega
      replace hc := Lib.hid hc
      replace hle1 := Lib.hid hle1
      go_wp2_with fail
      refine hc.out.mono ?_
      rintro e we1 ⟨ve1, rfl, hBe1, hke1⟩
      refine hK _ _ rfl (Free.KeepsP.of hke1 (by simp)) ?_
      clear hK K hc hB
      have hB := Lib.hid hBe1
      replace hkr := Lib.hid (hkr.out.trans hke1)
      clear hBe1 hke1
      (repeat (apply Free.cw_pure rfl rfl; (intro w'; go_simp <;> exact rfl); go_frame))
      refine Free.cw_nil ?_
      replace hbN := Lib.hid ((hkr.out.block _ (lt_of_blk hbN.out) (by simp)).trans hbN.out)
      replace hkn := Lib.hid (hkn.out.trans hkr.out)
      replace hkG := Lib.hid (hkG.out.trans hkr.out)
      clear e0 e1' e2 e3 e4 e5 e6 e7 ef el hkr
      have hle2 : Hid (le1 = lk ++ (encI y0 ++ encI y1 ++ encU y2 ++ encI y3 ++ encB y4 ++ encB y5 ++ encI y6 ++ encU y8)) := Lib.hid (by rw [← hle1.out, ← hle0.out, ← hld2.out, ← hld1.out, ← hld0.out, ← hlc2.out, ← hlc1.out, ← hlc0.out]; simp only [List.append_assoc])
      have hle100 : le1.length ≤ 60 + SK + 60 := by omega
      clear hnc0 hnc1 hnc2 hnd0 hnd1 hnd2 hne0 hne1
      obtain ⟨e0, e1', e2, e3, e4, e5, e6, e7, ef, el⟩ := cl8 hbN.out
      go_wp2
      go_loopw [3, 6] (fun bv i wr => ∃ (q : Nat) (lq : List UInt8), i = .int .i64 q ∧ q ≤ y8 ∧ Hid (SlB wr bv lq) ∧ Hid (lq = le1 ++ encXs (a.ins.take q)) ∧ Hid (lq.length ≤ 60 + SK + 60 + 27 * q) ∧ Hid (Keeps [] we1 wr)) (fun _ i _ => y8 - (intOf i).toNat)
      case atStart => exact ⟨0, le1, rfl, by omega, hB, Lib.hid (by simp [encXs]), Lib.hid (by omega), Lib.hid (Keeps.refl _ _)⟩
      case round =>
        clear hB e0 e1' e2 e3 e4 e5 e6 e7 ef el
        obtain ⟨q, lq, rfl, hq, hB, hlq, hlenq, hkq⟩ := hrel
        have hNq := (hkq.out.block _ (lt_of_blk hbN.out) (by simp)).trans hbN.out
        obtain ⟨e0, e1', e2, e3, e4, e5, e6, e7, ef, el⟩ := cl8 hNq
        by_cases hltq : q < y8
        · have hltq2 : (q : Int) < y8 := by omega
          have hql : q < a.ins.length := by rw [← ev.out]; exact hltq
          have hsq := encXs_take a.ins q hql
          have hfx := haf.out.ins _ (List.getElem_mem hql)
          obtain ⟨gi, oi, ci, hvi, hei⟩ := (hins.out.keeps (hkG.out.trans hkq.out)).elem hql
          rw [← ev.out] at hvi
          cases hvi
          obtain ⟨⟨n0, n1, n2⟩, hz⟩ : ∃ z, a.ins[q] = z := ⟨_, rfl⟩
          rw [hz] at hei hsq hfx
          have t0 := hei 0 _ rfl
          have t1 := hei 1 _ rfl
          have t2 := hei 2 _ rfl
          simp only [shT, Nat.add_zero] at t0 t1 t2
          have hbI := heap_alloc_new wr (.cells #[.int .i64 n0, .int .u64 n1, .int .i64 n2] tI)
          have hkI := (Keeps.refl [] wr).alloc (.cells #[.int .i64 n0, .int .u64 n1, .int .i64 n2] tI)
          have hkqI := Lib.hid (hkq.out.trans hkI)
          replace hB := Lib.hid (hB.out.keeps hkI)
          have hlenq2 := hlenq.out
          replace hbI := Lib.hid hbI
          replace hz := Lib.hid hz
          replace hsq := Lib.hid hsq
          have hfx0 : Hid (W64 n0) := Lib.hid hfx.1
          have hfx1 : Hid (n1 < 18446744073709551616) := Lib.hid hfx.2.1
          have hfx2 : Hid (W64 n2) := Lib.hid hfx.2.2
          clear hfx
          clear hei hkI
          go_upto_region 14 with fail
          generalize (wr.alloc (.cells #[.int .i64 n0, .int .u64 n1, .int .i64 n2] tI)) = WI at *
          obtain ⟨XI, hXI⟩ : ∃ X, wr.heap.size = X := ⟨_, rfl⟩
          rw [hXI] at hbI ⊢
          replace hXI := Lib.hid hXI
          clear t0 t1 t2 e0 e1' e2 e3 e4 e5 e6 e7 ef el
          obtain ⟨t0, t1, t2, tf, tl⟩ := cl3 hbI.out
          refine Free.wp_region_chain (fun i => i == 3 || i == 6 || i == 9) (fun i => true) (fun _ _ => False) (by kernel_rfl) (by kernel_rfl) (by kernel_rfl) ?_
          have hkr := Lib.hid ((Keeps.refl [] WI).drew)
          replace hB := Lib.hid (hB.out.keeps (Keeps.refl [] WI).drew)
          (repeat (first | (apply Free.cw_pure rfl rfl; (intro w'; go_simp <;> exact rfl); go_frame) | (apply Free.cw_steady rfl rfl rfl; (intro w' hS; have q0 := Free.sx_cell hS t0 (fun _ _ hT => hT); have q1 := Free.sx_cell hS t1 (fun _ _ hT => hT); have q2 := Free.sx_cell hS t2 (fun _ _ hT => hT); go_simp <;> exact rfl); go_frame) | (refine Free.cw_skip rfl ?_; go_frame)))
          refine Free.cw_loud rfl rfl (fun K hK => ?_)
          have hc := pI_c _ _ lq n0 hB.out hfx0.out (by omega)
          obtain ⟨lf0, hlf0⟩ : ∃ y, lq ++ encI n0 = y := ⟨_, rfl⟩
          rw [hlf0] at hc
          have hnf0 : lf0.length ≤ lq.length + 9 := by rw [← hlf0, List.length_append]; have := encI_len hfx0.out; omega
          replace hc := Lib.hid hc
          replace hlf0 := Lib.hid hlf0
          go_wp2_with fail
          refine hc.out.mono ?_
          rintro e wf0 ⟨vf0, rfl, hBf0, hkf0⟩
          refine hK _ _ rfl (Free.KeepsP.of hkf0 (by simp)) ?_
          clear hK K hc hB
          have hB := Lib.hid hBf0
          replace hkr := Lib.hid (hkr.out.trans hkf0)
          clear hBf0 hkf0
          (repeat (first | (apply Free.cw_pure rfl rfl; (intro w'; go_simp <;> exact rfl); go_frame) | (apply Free.cw_steady rfl rfl rfl; (intro w' hS; have q0 := Free.sx_cell hS t0 (fun _ _ hT => hT); have q1 := Free.sx_cell hS t1 (fun _ _ hT => hT); have q2 := Free.sx_cell hS t2 (fun _ _ hT => hT); go_simp <;> exact rfl); go_frame) | (refine Free.cw_skip rfl ?_; go_frame)))
          refine Free.cw_loud rfl rfl (fun K hK => ?_)
          have hc := pU_c _ _ lf0 n1 hB.out hfx1.out (by omega)
          obtain ⟨lf1, hlf1⟩ : ∃ y, lf0 ++ encU n1 = y := ⟨_, rfl⟩
          rw [hlf1] at hc
          have hnf1 : lf1.length ≤ lf0.length + 9 := by rw [← hlf1, List.length_append]; have := encU_len (n := n1) hfx1.out; omega
          replace hc := Lib.hid hc
          replace hlf1 := Lib.hid hlf1
          go_wp2_with fail
          refine hc.out.mono ?_
          rintro e wf1 ⟨vf1, rfl, hBf1, hkf1⟩
          refine hK _ _ rfl (Free.KeepsP.of hkf1 (by simp)) ?_
          clear hK K hc hB
          have hB := Lib.hid hBf1
          replace hkr := Lib.hid (hkr.out.trans hkf1)
          clear hBf1 hkf1
          (repeat (first | (apply Free.cw_pure rfl rfl; (intro w'; go_simp <;> exact rfl); go_frame) | (apply Free.cw_steady rfl rfl rfl; (intro w' hS; have q0 := Free.sx_cell hS t0 (fun _ _ hT => hT); have q1 := Free.sx_cell hS t1 (fun _ _ hT => hT); have q2 := Free.sx_cell hS t2 (fun _ _ hT => hT); go_simp <;> exact rfl); go_frame) | (refine Free.cw_skip rfl ?_; go_frame)))
          refine Free.cw_loud rfl rfl (fun K hK => ?_)
          have hc := pI_c _ _ lf1 n2 hB.out hfx2.out (by omega)
          obtain ⟨lf2, hlf2⟩ : ∃ y, lf1 ++ encI n2 = y := ⟨_, rfl⟩
          rw [hlf2] at hc
          have hnf2 : lf2.length ≤ lf1.length + 9 := by rw [← hlf2, List.length_append]; have := encI_len hfx2.out; omega
          replace hc := Lib.hid hc
          replace hlf2 := Lib.hid hlf2
          go_wp2_with fail
          refine hc.out.mono ?_
          rintro e wf2 ⟨vf2, rfl, hBf2, hkf2⟩
          refine hK _ _ rfl (Free.KeepsP.of hkf2 (by simp)) ?_
          clear hK K hc hB
          have hB := Lib.hid hBf2
          replace hkr := Lib.hid (hkr.out.trans hkf2)
          clear hBf2 hkf2
          (repeat (apply Free.cw_pure rfl rfl; (intro w'; go_simp <;> exact rfl); go_frame))
          refine Free.cw_nil ?_
          have hkz := Lib.hid (hkqI.out.trans hkr.out)
          have hlf : Hid (lf2 = le1 ++ encXs (a.ins.take (q + 1))) := Lib.hid (by rw [← hlf2.out, ← hlf1.out, ← hlf0.out, hsq.out, hlq.out]; simp [encX, List.append_assoc])
          have hlfn : Hid (lf2.length ≤ 60 + SK + 60 + 27 * (q + 1)) := Lib.hid (by omega)
          go_wp2
          go_roundw
          case rel => exact ⟨q + 1, lf2, rfl, by omega, hB, hlf, hlfn, hkz⟩
          case measure => simp [intOf]; omega
        · have hltq2 : ¬ ((q : Int) < y8) := by omega
          have hqy : q = a.ins.length := by have := ev.out; omega
          have hlz : Hid (lq = lb ++ encH (c.an.take (k + 1))) := Lib.hid (by rw [hlq.out, hqy, List.take_length, hle2.out, hsucc.out, henA.out, hlk.out]; simp only [List.append_assoc])
          have hlzn : Hid (lq.length ≤ 60 + ((c.an.take (k + 1)).map wA).sum) := Lib.hid (by rw [hSK1.out]; have h1 := hsum.out; have h2 := hlenq.out; omega)
          have hkz := Lib.hid (hkn.out.trans hkq.out)
          replace hqy := Lib.hid hqy
          go_wp2
          go_roundw
          case rel => exact ⟨k + 1, lq, rfl, by omega, hB, hlz, hlzn, hkz⟩
          case measure => simp [intOf]; omega
    · have hlt2 : ¬ ((k : Int) < x6) := by omega
      have hkY : k = c.an.length := by have := e1.out; omega
      have hlk2 : Hid (lk = lb ++ encH c.an) := Lib.hid (by rw [hlk.out, hkY, List.take_length])
      have hlk3 : lk.length ≤ 60 + SA := by have := hlen.out; rw [hkY, List.take_length, hSA.out] at this; exact this
      replace hkY := Lib.hid hkY
      clear hlk hlen hlb100
      have hc := pU_c _ _ lk x9 hB.out (by omega) (by omega)
      obtain ⟨lg, hlg⟩ : ∃ y, lk ++ encU x9 = y := ⟨_, rfl⟩
      rw [hlg] at hc
      have hng : lg.length ≤ lk.length + 9 := by rw [← hlg, List.length_append]; have := encU_len (n := x9) (by omega); omega
      replace hc := Lib.hid hc
      replace hlg := Lib.hid hlg
      go_wp2_with fail
      refine hc.out.mono ?_
      rintro e wg ⟨vg, rfl, hBg, hkg⟩
      clear hc hB
      have hB := Lib.hid hBg
      have hkr := Lib.hid hkg
      clear hBg hkg
      have hAg := (hkr.out.block _ (lt_of_blk hAr) (by simp)).trans hAr
      replace hkF := Lib.hid (hkF.out.trans hkr.out)
      clear i0 i1 i2 i3 i4 i5 i6 if' il hkr
      have hlg100 : lg.length ≤ 70 + SA := by omega
      replace hAg := Lib.hid hAg
      go_wp2
      go_loopw [3, 8] (fun bv i wr => ∃ (k : Nat) (lp : List UInt8), i = .int .i64 k ∧ k ≤ x9 ∧ Hid (SlB wr bv lp) ∧ Hid (lp = lg ++ encPs (c.cl.take k)) ∧ Hid (lp.length ≤ 70 + SA + ((c.cl.take k).map wP).sum) ∧ Hid (Keeps [] wg wr)) (fun _ i _ => x9 - (intOf i).toNat)
      case atStart => exact ⟨0, lg, rfl, by omega, hB, Lib.hid (by simp [encPs]), Lib.hid (by simp; omega), Lib.hid (Keeps.refl _ _)⟩
      case round =>
        clear hB
        obtain ⟨k, lp, rfl, hk, hB, hlp, hlen, hkw⟩ := hrel
        have hAr := (hkw.out.block _ (lt_of_blk hAg.out) (by simp)).trans hAg.out
        obtain ⟨i0, i1, i2, i3, i4, i5, i6, if', il⟩ := cl7 hAr
        have hkH := Lib.hid (hkF.out.trans hkw.out)
        by_cases hlt : k < x9
        · have hlt2 : (k : Int) < x9 := by omega
          have hkl : k < c.cl.length := by rw [← e2.out]; exact hlt
          have hsucc := encPs_take c.cl k hkl
          have hsum := sum_succ wP c.cl k hkl
          have hsum2 := hwP.out (k + 1)
          obtain ⟨g, o, c', y, hv, hy, g0, g1, g2, g3, g4⟩ := (hcl.out.keeps hkH.out).elem hkl
          rw [← e2.out] at hv
          cases hv
          have hpf := hf.out.cl _ (List.getElem_mem hkl)
          obtain ⟨pp, hpp⟩ : ∃ p, c.cl[k] = p := ⟨_, rfl⟩
          rw [hpp] at hy hsucc hsum hpf
          have m0 := hy.m
          have m1 := hy.ep
          have hpst := hy.st
          have hpsc := hy.sc
          have hpch := hy.ch
          have hp0 := hpf.m
          have hp1 := hpf.ep
          obtain ⟨y0, y1, ⟨y2, y3, y4⟩, ⟨y5, y6, y7⟩, ⟨y8, y9, y10⟩⟩ := y
          simp only [slv] at hpst hpsc hpch g0 g1 g2 g3 g4
          simp only at m0 m1
          rw [← m0] at hp0
          rw [← m1] at hp1
          have henP : encP pp = encI y0 ++ encI y1 ++ (encNs pp.st ++ (encNs pp.sc ++ encNs pp.ch)) := by unfold encP; rw [m0, m1]
          have hbC := heap_alloc_new wr (.cells #[.int .i64 y0, .int .i64 y1, .slice y2 y3 y4, .slice y5 y6 y7, .slice y8 y9 y10] tC)
          have hka := (Keeps.refl [] wr).alloc (.cells #[.int .i64 y0, .int .i64 y1, .slice y2 y3 y4, .slice y5 y6 y7, .slice y8 y9 y10] tC)
          have hkn := Lib.hid (hkw.out.trans hka)
          obtain ⟨SK, hSK⟩ : ∃ n, ((c.cl.take k).map wP).sum = n := ⟨_, rfl⟩
          obtain ⟨SK1, hSK1⟩ : ∃ n, ((c.cl.take (k + 1)).map wP).sum = n := ⟨_, rfl⟩
          rw [hSK] at hlen hsum
          rw [hSK1] at hsum hsum2
          have hlen2 := hlen.out
          have hwp : wP pp = 100 + 30 * (pp.st.length + (pp.sc.length + pp.ch.length)) := rfl
          rw [hwp] at hsum
          have hsb : SK + (100 + 30 * (pp.st.length + (pp.sc.length + pp.ch.length))) ≤ SP := by omega
          replace hB := Lib.hid (hB.out.keeps hka)
          have hkr2 := Lib.hid hka
          replace hpp := Lib.hid hpp
          replace hpst := Lib.hid hpst
          replace hpsc := Lib.hid hpsc
          replace hpch := Lib.hid hpch
          replace hpf := Lib.hid hpf
          replace hp0 := Lib.hid hp0
          replace hp1 := Lib.hid hp1
          replace henP := Lib.hid henP
          replace hsucc := Lib.hid hsucc
          replace hsum := Lib.hid hsum
          replace hSK := Lib.hid hSK
          replace hSK1 := Lib.hid hSK1
          replace hbC := Lib.hid hbC
          clear hy hka m0 m1 hsum2 hwp
          go_upto_region 20 with fail
          generalize (wr.alloc (.cells #[.int .i64 y0, .int .i64 y1, .slice y2 y3 y4, .slice y5 y6 y7, .slice y8 y9 y10] tC)) = WC at *
          obtain ⟨XC, hXC⟩ : ∃ X, wr.heap.size = X := ⟨_, rfl⟩
          rw [hXC] at hbC ⊢
          replace hXC := Lib.hid hXC
          clear i0 i1 i2 i3 i4 i5 i6 if' il g0 g1 g2 g3 g4
          obtain ⟨c0, c1, c2, c3, c4, cf, cl⟩ := cl5 hbC.out
          refine Free.wp_region_chain (fun i => i == 3 || i == 6) (fun i => true) (fun _ _ => False) (by kernel_rfl) (by kernel_rfl) (by kernel_rfl) ?_
          have hkr := Lib.hid ((Keeps.refl [] WC).drew)
          replace hB := Lib.hid (hB.out.keeps (Keeps.refl [] WC).drew)
          (repeat (first | (apply Free.cw_pure rfl rfl; (intro w'; go_simp <;> exact rfl); go_frame) | (apply Free.cw_steady rfl rfl rfl; (intro w' hS; have q0 := Free.sx_cell hS c0 (fun _ _ hT => hT); have q1 := Free.sx_cell hS c1 (fun _ _ hT => hT); have q2 := Free.sx_cell hS c2 (fun _ _ hT => hT); have q3 := Free.sx_cell hS c3 (fun _ _ hT => hT); have q4 := Free.sx_cell hS c4 (fun _ _ hT => hT); go_simp <;> exact rfl); go_frame) | (refine Free.cw_skip rfl ?_; go_frame)))
          refine Free.cw_loud rfl rfl (fun K hK => ?_)
          have hc := pI_c _ _ lp y0 hB.out hp0.out (by omega)
          obtain ⟨lh0, hlh0⟩ : ∃ y, lp ++ encI y0 = y := ⟨_, rfl⟩
          rw [hlh0] at hc
          have hnh0 : lh0.length ≤ lp.length + 9 := by rw [← hlh0, List.length_append]; have := encI_len hp0.out; omega
          replace hc := Lib.hid hc
          replace hlh0 := Lib.hid hlh0
          go_wp2_with fail
          refine hc.out.mono ?_
          rintro e wh0 ⟨vh0, rfl, hBh0, hkh0⟩
          refine hK _ _ rfl (Free.KeepsP.of hkh0 (by simp)) ?_
          clear hK K hc hB
          have hB := Lib.hid hBh0
          replace hkr := Lib.hid (hkr.out.trans hkh0)
          clear hBh0 hkh0
          (repeat (first | (apply Free.cw_pure rfl rfl; (intro w'; go_simp <;> exact rfl); go_frame) | (apply Free.cw_steady rfl rfl rfl; (intro w' hS; have q0 := Free.sx_cell hS c0 (fun _ _ hT => hT); have q1 := Free.sx_cell hS c1 (fun _ _ hT => hT); have q2 := Free.sx_cell hS c2 (fun _ _ hT => hT); have q3 := Free.sx_cell hS c3 (fun _ _ hT => hT); have q4 := Free.sx_cell hS c4 (fun _ _ hT => hT); go_simp <;> exact rfl); go_frame) | (refine Free.cw_skip rfl ?_; go_frame)))
          refine Free.cw_loud rfl rfl (fun K hK => ?_)
          have hc := pI_c _ _ lh0 y1 hB.out hp1.out (by omega)
          obtain ⟨lh1, hlh1⟩ : ∃ y, lh0 ++ encI y1 = y := ⟨_, rfl⟩
          rw [hlh1] at hc
          have hnh1 : lh1.length ≤ lh0.length + 9 := by rw [← hlh1, List.length_append]; have := encI_len hp1.out; omega
          replace hc := Lib.hid hc
          replace hlh1 := Lib.hid hlh1
          go_wp2_with fail
          refine hc.out.mono ?_
          rintro e wh1 ⟨vh1, rfl, hBh1, hkh1⟩
          refine hK _ _ rfl (Free.KeepsP.of hkh1 (by simp)) ?_
          clear hK K hc hB
          have hB := Lib.hid hBh1
          replace hkr := Lib.hid (hkr.out.trans hkh1)
          clear hBh1 hkh1
          (repeat (apply Free.cw_pure rfl rfl; (intro w'; go_simp <;> exact rfl); go_frame))
          refine Free.cw_nil ?_
          replace hbC := Lib.hid ((hkr.out.block _ (lt_of_blk hbC.out) (by simp)).trans hbC.out)
          replace hkn := Lib.hid (hkn.out.trans hkr.out)
          replace hkr2 := Lib.hid (hkr2.out.trans hkr.out)
          clear c0 c1 c2 c3 c4 cf cl hkr
          obtain ⟨c0, c1, c2, c3, c4, cf, cl⟩ := cl5 hbC.out
          go_upto_region 21 with fail
          refine Free.wp_region_chain (fun i => i == 3 || i == 6 || i == 9) (fun i => true) (fun _ _ => False) (by kernel_rfl) (by kernel_rfl) (by kernel_rfl) ?_
          have hkr := Lib.hid ((Keeps.refl [] wh1).drew)
          replace hB := Lib.hid (hB.out.keeps (Keeps.refl [] wh1).drew)
          (repeat (first | (apply Free.cw_pure rfl rfl; (intro w'; go_simp <;> exact rfl); go_frame) | (apply Free.cw_steady rfl rfl rfl; (intro w' hS; have q0 := Free.sx_cell hS c0 (fun _ _ hT => hT); have q1 := Free.sx_cell hS c1 (fun _ _ hT => hT); have q2 := Free.sx_cell hS c2 (fun _ _ hT => hT); have q3 := Free.sx_cell hS c3 (fun _ _ hT => hT); have q4 := Free.sx_cell hS c4 (fun _ _ hT => hT); go_simp <;> exact rfl); go_frame) | (refine Free.cw_skip rfl ?_; go_frame)))
          refine Free.cw_loud rfl rfl (fun K hK => ?_)
          have hc := pNs_c _ _ lh1 (.slice y2 y3 y4) pp.st (hpst.out.keeps (hkr2.out.trans hkr.out)) hpf.out.st hB.out (by omega)
          obtain ⟨lj0, hlj0⟩ : ∃ y, lh1 ++ encNs pp.st = y := ⟨_, rfl⟩
          rw [hlj0] at hc
          have hnj0 : lj0.length ≤ lh1.length + (9 + 27 * pp.st.length) := by rw [← hlj0, List.length_append]; have := encNs_len (L := pp.st) hpf.out.st (by omega); omega
          replace hc := Lib.hid hc
          replace hlj0 := Lib.hid hlj0
          go_wp2_with fail
          refine hc.out.mono ?_
          rintro e wj0 ⟨vj0, rfl, hBj0, hkj0⟩
          refine hK _ _ rfl (Free.KeepsP.of hkj0 (by simp)) ?_
          clear hK K hc hB
          have hB := Lib.hid hBj0
          replace hkr := Lib.hid (hkr.out.trans hkj0)
          clear hBj0 hkj0
          (repeat (first | (apply Free.cw_pure rfl rfl; (intro w'; go_simp <;> exact rfl); go_frame) | (apply Free.cw_steady rfl rfl rfl; (intro w' hS; have q0 := Free.sx_cell hS c0 (fun _ _ hT => hT); have q1 := Free.sx_cell hS c1 (fun _ _ hT => hT); have q2 := Free.sx_cell hS c2 (fun _ _ hT => hT); have q3 := Free.sx_cell hS c3 (fun _ _ hT => hT); have q4 := Free.sx_cell hS c4 (fun _ _ hT => hT); go_simp <;> exact rfl); go_frame) | (refine Free.cw_skip rfl ?_; go_frame)))
          refine Free.cw_loud rfl rfl (fun K hK => ?_)
          have hc := pNs_c _ _ lj0 (.slice y5 y6 y7) pp.sc (hpsc.out.keeps (hkr2.out.trans hkr.out)) hpf.out.sc hB.out (by omega)
          obtain ⟨lj1, hlj1⟩ : ∃ y, lj0 ++ encNs pp.sc = y := ⟨_, rfl⟩
          rw [hlj1] at hc
          have hnj1 : lj1.length ≤ lj0.length + (9 + 27 * pp.sc.length) := by rw [← hlj1, List.length_append]; have := encNs_len (L := pp.sc) hpf.out.sc (by omega); omega
          replace hc := Lib.hid hc
          replace hlj1 := Lib.hid hlj1
          go_wp2_with fail
          refine hc.out.mono ?_
          rintro e wj1 ⟨vj1, rfl, hBj1, hkj1⟩
          refine hK _ _ rfl (Free.KeepsP.of hkj1 (by simp)) ?_
          clear hK K hc hB
          have hB := Lib.hid hBj1
          replace hkr := Lib.hid (hkr.out.trans hkj1)
          clear hBj1 hkj1
          (repeat (first | (apply Free.cw_pure rfl rfl; (intro w'; go_simp <;> exact rfl); go_frame) | (apply Free.cw_steady rfl rfl rfl; (intro w' hS; have q0 := Free.sx_cell hS c0 (fun _ _ hT => hT); have q1 := Free.sx_cell hS c1 (fun _ _ hT => hT); have q2 := Free.sx_cell hS c2 (fun _ _ hT => hT); have q3 := Free.sx_cell hS c3 (fun _ _ hT => hT); have q4 := Free.sx_cell hS c4 (fun _ _ hT => hT); go_simp <;> exact rfl); go_frame) | (refine Free.cw_skip rfl ?_; go_frame)))
          refine Free.cw_loud rfl rfl (fun K hK => ?_)
          have hc := pNs_c _ _ lj1 (.slice y8 y9 y10) pp.ch (hpch.out.keeps (hkr2.out.trans hkr.out)) hpf.out.ch hB.out (by omega)
          obtain ⟨lj2, hlj2⟩ : ∃ y, lj1 ++ encNs pp.ch = y := ⟨_, rfl⟩
          rw [hlj2] at hc
          have hnj2 : lj2.length ≤ lj1.length + (9 + 27 * pp.ch.length) := by rw [← hlj2, List.length_append]; have := encNs_len (L := pp.ch) hpf.out.ch (by omega); omega
          replace hc := Lib.hid hc
          replace hlj2 := Lib.hid hlj2
          go_wp2_with fail
          refine hc.out.mono ?_
          rintro e wj2 ⟨vj2, rfl, hBj2, hkj2⟩
          refine hK _ _ rfl (Free.KeepsP.of hkj2 (by simp)) ?_
          clear hK K hc hB
          have hB := Lib.hid hBj2
          replace hkr := Lib.hid (hkr.out.trans hkj2)
          clear hBj2 hkj2
          (repeat (apply Free.cw_pure rfl rfl; (intro w'; go_simp <;> exact rfl); go_frame))
          refine Free.cw_nil ?_
          have hkz := Lib.hid (hkn.out.trans hkr.out)
          have hlj : Hid (lj2 = lg ++ encPs (c.cl.take (k + 1))) := Lib.hid (by rw [← hlj2.out, ← hlj1.out, ← hlj0.out, ← hlh1.out, ← hlh0.out, hsucc.out, henP.out, hlp.out]; simp only [List.append_assoc])
          have hljn : Hid (lj2.length ≤ 70 + SA + ((c.cl.take (k + 1)).map wP).sum) := Lib.hid (by rw [hSK1.out]; have h1 := hsum.out; omega)
          go_wp2
          go_roundw
          case rel => exact ⟨k + 1, lj2, rfl, by omega, hB, hlj, hljn, hkz⟩
          case measure => simp [intOf]; omega
        · have hlt2 : ¬ ((k : Int) < x9) := by omega
          have hkY2 : k = c.cl.length := by have := e2.out; omega
          have hres : Hid (lp = encI x0 ++ encI x1 ++ encX (x2, x3, x4) ++ encU x6 ++ encH c.an ++ encU x9 ++ encPs c.cl) := Lib.hid (by rw [hlp.out, hkY2, List.take_length, ← hlg.out, hlk2.out, hlb2.out])
          replace hkY2 := Lib.hid hkY2
          go_wp2
          go_ret
          refine ⟨_, rfl, ?_, hkH.out⟩
          have hz := hB.out
          rw [hres.out] at hz
          simp only [List.append_assoc] at hz ⊢
          exact hz
end Go.Proofs.YtiplgpefapeapaaGreat

namespace Go.Proofs.YtiplgpefapeapaaGreat
open Go.RowKit

/-- Reading goes on while there is no error. -/
def rXc : Nat → RS → List T3 → List T3 × RS
  | 0, s, L => (L, s)
  | n + 1, s, L => if s.2 = 0 then rXc n (rX s).2 (L ++ [(rX s).1]) else (L, s)
def rNs (s : RS) : List T3 × RS := rXc (rCS 1024 s).1 (rCS 1024 s).2 []
theorem rXc_len : ∀ (n : Nat) (s : RS) (L : List T3), (rXc n s L).1.length ≤ n + L.length
  | 0, s, L => by simp [rXc]
  | n + 1, s, L => by
    unfold rXc
    split
    · have := rXc_len n (rX s).2 (L ++ [(rX s).1])
      simp only [List.length_append, List.length_cons, List.length_nil] at this
      omega
    · simp only; omega
abbrev tRr : Nat := 75
theorem RrS.tag {w : World} {br : Nat} {s : RS} (h : RrS w br s) : ∃ cs : Array Value, w.heap[br]? = some (Obj.cells cs tRr (0, 0)) := by obtain ⟨v, h⟩ := h; exact ⟨_, h.1⟩
theorem RrS.moved {w w' : World} {br : Nat} {s : RS} {S : List Nat} (h : RrS w br s) (hk : Keeps S w w') (hbr : br ∉ S) (hS : ∀ b ∈ S, ∀ cs : Array Value, w.heap[b]? ≠ some (Obj.cells cs tB (0, 0))) : RrS w' br s := by
  obtain ⟨v, h1, h2⟩ := h
  exact ⟨v, (hk.block br (lt_of_blk h1) hbr).trans h1, h2.moved hk hS⟩
theorem RrS.cell {w : World} {br : Nat} {s : RS} (h : RrS w br s) : ∃ v, w.cell? ⟨br, 0, none⟩ = some v ∧ w.cell? ⟨br, 1, none⟩ = some (.int .i64 s.2) ∧ w.frozen? ⟨br, 0, none⟩ = false ∧ w.frozen? ⟨br, 1, none⟩ = false ∧ br < w.heap.size := by
  obtain ⟨v, h1, _⟩ := h
  exact ⟨v, cell2_of h1⟩
/-- One block with another tag is written. -/
theorem RrS.other {w w' : World} {br : Nat} {s : RS} {X : Nat} {cs : Array Value} {t : TypeId} {f : Nat × Nat} (h : RrS w br s) (hk : Keeps [X] w w') (hX : w.heap[X]? = some (.cells cs t f)) (ht : t ≠ tRr) (hb : t ≠ tB) : RrS w' br s := by
  refine h.moved hk (fun hm => ?_) (fun b hm cs' e => ?_)
  · simp only [List.mem_singleton] at hm
    obtain ⟨c2, h2⟩ := h.tag
    rw [hm, hX] at h2
    cases h2
    exact ht rfl
  · simp only [List.mem_singleton] at hm
    subst hm
    rw [hX] at e
    cases e
    exact hb rfl
theorem RrS.ne {w : World} {br : Nat} {s : RS} {X : Nat} {cs : Array Value} {t : TypeId} {f : Nat × Nat} (h : RrS w br s) (hX : w.heap[X]? = some (.cells cs t f)) (ht : t ≠ tRr) : X ≠ br := fun e => by
  obtain ⟨c2, h2⟩ := h.tag
  rw [← e, hX] at h2
  cases h2
  exact ht rfl
theorem loadN3 (w : World) (g : Nat) (t : TypeId) (x0 x1 x2 : Value) (f : Nat × Nat) (hg : w.heap[g]? = some (.cells #[x0, x1, x2] t f)) : (loadVar tN ⟨g, 0, none⟩).run Tryz.prog w = .ok (.agg #[x0, x1, x2]) w :=
  run_loadVar_row w g t tN #[x0, x1, x2] f _ hg Tryz.underlying28 rfl (show (Tryz.prog.info? tN).map (·.size) = some 3 by kernel_rfl)
theorem results_n3 {fn : Func} {p : Tmp} (h : fn.results = #[.cell p tN]) (tmps : Array Value) (w : World) (g : Nat) (t : TypeId) (x0 x1 x2 : Value) (f : Nat × Nat) (hp : tmps.getD p undef = .pointer (some ⟨g, 0, none⟩))
    (hg : w.heap[g]? = some (.cells #[x0, x1, x2] t f)) : (results fn tmps).run Tryz.prog w = .ok (.agg #[x0, x1, x2]) w := by
  have hp' : tmps[p]?.getD undef = .pointer (some ⟨g, 0, none⟩) := by simpa using hp
  simp [results, h, hp', asAddr, loadN3 w g t x0 x1 x2 f hg]
theorem tN_r : (tN : Nat) ≠ tRr := by decide
theorem tN_b : (tN : Nat) ≠ tB := by decide
set_option maxRecDepth 100000 in
set_option maxHeartbeats 4000000 in
theorem getNeed_c (w : World) (br : Nat) (s : RS) (h : RrS w br s) :
    Calls Tryz.prog 38 #[.pointer (some ⟨br, 0, none⟩)] w fun e w' => e = .returned (tV (rX s).1) ∧ RrS w' br (rX s).2 ∧ Keeps [br] w w' := by
  have hkZ := (Keeps.refl [] w).alloc (.cells #[.int .i64 0, .int .u64 0, .int .i64 0] tN)
  have hZ := heap_alloc_new w (.cells #[.int .i64 0, .int .u64 0, .int .i64 0] tN)
  have hbw := h.lt
  have h1 := h.keeps hkZ
  have hres : (rX s) = (((rI s).1, (rU (rI s).2).1, (rI (rU (rI s).2).2).1), (rI (rU (rI s).2).2).2) := rfl
  rw [hres]
  obtain ⟨p1, hp1⟩ : ∃ p, rI s = p := ⟨_, rfl⟩
  obtain ⟨n1, s1⟩ := p1
  have hc1 := intRS_c _ br s h1
  rw [hp1] at hc1 ⊢
  simp only at hc1 ⊢
  obtain ⟨p2, hp2⟩ : ∃ p, rU s1 = p := ⟨_, rfl⟩
  obtain ⟨n2, s2⟩ := p2
  have hc2 := fun W h => uintRS_c W br s1 h
  rw [hp2] at hc2 ⊢
  simp only at hc2 ⊢
  obtain ⟨p3, hp3⟩ : ∃ p, rI s2 = p := ⟨_, rfl⟩
  obtain ⟨n3, s3⟩ := p3
  have hc3 := fun W h => intRS_c W br s2 h
  rw [hp3] at hc3 ⊢
  simp only [tV] at hc3 ⊢
  replace hp1 := Lib.hid hp1
  replace hp2 := Lib.hid hp2
  replace hp3 := Lib.hid hp3
  replace hc1 := Lib.hid hc1
  replace hc2 := Lib.hid hc2
  replace hc3 := Lib.hid hc3
  replace hkZ := Lib.hid hkZ
  replace hZ := Lib.hid hZ
  replace hbw := Lib.hid hbw
  clear h h1 hres
  go_enter Tryz.func38, Tryz.ntmps38
  go_upto_region 1 with fail
  generalize (w.alloc (.cells #[.int .i64 0, .int .u64 0, .int .i64 0] tN)) = W at *
  obtain ⟨R, hR⟩ : ∃ B, w.heap.size = B := ⟨_, rfl⟩
  rw [hR] at hZ ⊢
  replace hR := Lib.hid hR
  go_wp2_with fail
  refine hc1.out.mono ?_
  rintro e w1 ⟨rfl, hR1, hk1⟩
  have hRb : R ≠ br := by have h1 := hR.out; have h2 := hbw.out; omega
  have hZ1 := (hk1.block R (lt_of_blk hZ.out) (by simpa using hRb)).trans hZ.out
  have hRX : R ≠ w1.heap.size := Nat.ne_of_lt (lt_of_blk hZ1)
  have hkX := (Keeps.refl [] w1).alloc (.cells #[.int .i64 n1, .int .u64 0, .int .i64 0] tN)
  have hX := heap_alloc_new w1 (.cells #[.int .i64 n1, .int .u64 0, .int .i64 0] tN)
  have hR2 := hR1.keeps hkX
  have hXR := hR2.ne hX tN_r
  have hZ2 := (hkX.block R (lt_of_blk hZ1) (by simp)).trans hZ1
  have hk := Lib.hid ((hkZ.out.of_nil.trans hk1).trans hkX.of_nil)
  have hwX0 : w.heap.size ≤ w1.heap.size := (hkZ.out.of_nil.trans hk1).size
  clear hZ
  have hZ := Lib.hid hZ2
  clear hZ1 hZ2 hkX hk1 hc1 hkZ
  go_upto_region 2 with fail
  generalize (w1.alloc (.cells #[.int .i64 n1, .int .u64 0, .int .i64 0] tN)) = W2 at *
  obtain ⟨X, hXX⟩ : ∃ X, w1.heap.size = X := ⟨_, rfl⟩
  rw [hXX] at hX hXR hRX hwX0 ⊢
  have hwR := hR
  clear hR
  have hR := Lib.hid hR2
  have hwX := Lib.hid hwX0
  replace hXX := Lib.hid hXX
  replace hX := Lib.hid hX
  replace hXR := Lib.hid hXR
  replace hRX := Lib.hid hRX
  replace hRb := Lib.hid hRb
  clear hR1 hR2 hwX0
  obtain ⟨c0, c1, c2, cf, cl⟩ := cl3 hX.out
  go_wp2_with fail
  refine (hc2.out W2 hR.out).mono ?_
  rintro e v3 ⟨rfl, hR3, hk3⟩
  clear c0 c1 c2 cf cl
  have hX3 := (hk3.block X (lt_of_blk hX.out) (by simpa using hXR.out)).trans hX.out
  have hZ3 := (hk3.block R (lt_of_blk hZ.out) (by simpa using hRb.out)).trans hZ.out
  have hs3 : Keeps [X] v3 (v3.setCell ⟨X, 1, none⟩ (.int .u64 n2)) := (Keeps.refl _ _).setCell (.inr (by simp)) _
  have hY3 : (v3.setCell ⟨X, 1, none⟩ (.int .u64 n2)).heap[X]? = some (.cells #[.int .i64 n1, .int .u64 n2, .int .i64 0] tN (0, 0)) := by simp [World.setCell, Array.getElem?_modify, hX3]
  have hR3b := hR3.other hs3 hX3 tN_r tN_b
  have hZ3b := (hs3.block R (lt_of_blk hZ3) (by simpa using hRX.out)).trans hZ3
  have hkn := Lib.hid ((hk.out.trans hk3).fresh hs3 (fun b hb => by simp only [List.mem_singleton] at hb; subst hb; exact .inr hwX.out))
  obtain ⟨c0, c1, c2, cf, cl⟩ := cl3 hX3
  clear hX hZ hR hk
  have hX := Lib.hid hY3
  have hZ := Lib.hid hZ3b
  have hR := Lib.hid hR3b
  have hk := hkn
  clear hX3 hZ3 hs3 hY3 hR3b hZ3b hkn hR3 hk3
  go_upto_region 3 with fail
  generalize (v3.setCell ⟨X, 1, none⟩ (.int .u64 n2)) = W3 at *
  clear c0 c1 c2 cf cl
  obtain ⟨c0, c1, c2, cf, cl⟩ := cl3 hX.out
  go_wp2_with fail
  refine (hc3.out W3 hR.out).mono ?_
  rintro e v4 ⟨rfl, hR4, hk4⟩
  clear c0 c1 c2 cf cl
  have hX4 := (hk4.block X (lt_of_blk hX.out) (by simpa using hXR.out)).trans hX.out
  have hZ4 := (hk4.block R (lt_of_blk hZ.out) (by simpa using hRb.out)).trans hZ.out
  have hs4 : Keeps [X] v4 (v4.setCell ⟨X, 2, none⟩ (.int .i64 n3)) := (Keeps.refl _ _).setCell (.inr (by simp)) _
  have hY4 : (v4.setCell ⟨X, 2, none⟩ (.int .i64 n3)).heap[X]? = some (.cells #[.int .i64 n1, .int .u64 n2, .int .i64 n3] tN (0, 0)) := by simp [World.setCell, Array.getElem?_modify, hX4]
  have hR4b := hR4.other hs4 hX4 tN_r tN_b
  have hZ4b := (hs4.block R (lt_of_blk hZ4) (by simpa using hRX.out)).trans hZ4
  have hkn := Lib.hid ((hk.out.trans hk4).fresh hs4 (fun b hb => by simp only [List.mem_singleton] at hb; subst hb; exact .inr hwX.out))
  obtain ⟨c0, c1, c2, cf, cl⟩ := cl3 hX4
  clear hX hZ hR hk
  have hX := Lib.hid hY4
  have hZ := Lib.hid hZ4b
  have hR := Lib.hid hR4b
  have hk := hkn
  clear hX4 hZ4 hs4 hY4 hR4b hZ4b hkn hR4 hk4
  go_upto_region 4 with fail
  generalize (v4.setCell ⟨X, 2, none⟩ (.int .i64 n3)) = W4 at *
  clear c0 c1 c2 cf cl
  obtain ⟨c0, c1, c2, cf, cl⟩ := cl3 hX.out
  obtain ⟨z0, z1, z2, zf, zl⟩ := cl3 hZ.out
  go_wp2
  obtain ⟨g1, g2⟩ := sc3 (.int .i64 n1) (.int .u64 n2) (.int .i64 n3) hZ.out
  refine bodyPost_ret (results_n3 rfl _ _ _ _ _ _ _ _ rfl g1) rfl ?_
  exact ⟨rfl, hR.out.other g2 hZ.out tN_r tN_b, hk.out.fresh g2 (fun b hb => by simp only [List.mem_singleton] at hb; subst hb; exact .inr (Nat.le_of_eq hwR.out))⟩
set_option maxRecDepth 100000 in
set_option maxHeartbeats 8000000 in
theorem getNeeds_c (w : World) (br : Nat) (s : RS) (h : RrS w br s) :
    Calls Tryz.prog 41 #[.pointer (some ⟨br, 0, none⟩)] w fun e w' => ∃ v, e = .returned v ∧ shT.O w' w.heap.size tN v (rNs s).1 ∧ RrS w' br (rNs s).2 ∧ Keeps [br] w w' := by
  have hkE := (Keeps.refl [] w).alloc (.cells #[] tN)
  have hE := Sh.O.fresh shT w w.heap.size tN (Nat.le_refl _)
  have h1 := h.keeps hkE
  have hlt := h.lt
  unfold rNs
  have hle := rCS_le 1024 s
  have hc := countRX_c _ br s h1
  obtain ⟨p, hp⟩ : ∃ p, rCS 1024 s = p := ⟨_, rfl⟩
  obtain ⟨M, s0⟩ := p
  rw [hp] at hc hle ⊢
  simp only at hc hle ⊢
  obtain ⟨B, hB⟩ : ∃ B, w.heap.size = B := ⟨_, rfl⟩
  obtain ⟨r, hr⟩ : ∃ r, rXc M s0 [] = r := ⟨_, rfl⟩
  rw [hr]
  rw [hB] at hE hlt ⊢
  replace hp := Lib.hid hp
  replace hc := Lib.hid hc
  replace hkE := Lib.hid hkE
  replace hE := Lib.hid hE
  replace hr := Lib.hid hr
  replace hlt := Lib.hid hlt
  replace hB := Lib.hid hB
  clear h h1
  go_enter Tryz.func41, Tryz.ntmps41
  go_upto_region 2 with fail
  rw [hB.out]
  generalize (w.alloc (.cells #[] tN)) = W at *
  go_wp2_with fail
  refine hc.out.mono ?_
  rintro e w1 ⟨rfl, hR1, hk1⟩
  have hO1 := hE.out.keepS hk1 (fun b hb => by simp only [List.mem_singleton] at hb; subst hb; intro e; have h2 := hE.out.ge _ e; have h3 := hlt.out; omega)
  have hk01 := Lib.hid ((hkE.out.of_nil).trans hk1)
  replace hO1 := Lib.hid hO1
  replace hR1 := Lib.hid hR1
  clear hk1 hE hkE hc
  go_wp2
  go_loopw [3, 5] (fun lv i wr => ∃ (k : Nat) (L : List T3) (sk : RS), i = .int .i64 k ∧ k ≤ M ∧ Hid (shT.O wr B tN lv L) ∧ Hid (L.length ≤ k) ∧ Hid (rXc (M - k) sk L = r) ∧ Hid (RrS wr br sk) ∧ Hid (Keeps [br] w wr)) (fun _ i _ => M - (intOf i).toNat)
  case atStart => exact ⟨0, [], s0, rfl, by omega, hO1, Lib.hid (by simp), Lib.hid hr.out, hR1, hk01⟩
  case round =>
    obtain ⟨k, L, sk, rfl, hk, hO, hLk, hrk, hRr, hkw⟩ := hrel
    obtain ⟨vr, d0, d1, df0, df1, dl⟩ := hRr.out.cell
    obtain ⟨oa, oc, hov⟩ := hO.out.form
    subst hov
    by_cases hlt2 : k < M
    · have hlt3 : (k : Int) < M := by omega
      obtain ⟨j, hj⟩ : ∃ j, M - k = j + 1 := ⟨M - k - 1, by omega⟩
      have hj2 : M - (k + 1) = j := by omega
      by_cases hs : sk.2 = 0
      · have hsb : (sk.2 == 0) = true := by simpa using hs
        have hstep : rXc (M - (k + 1)) (rX sk).2 (L ++ [(rX sk).1]) = r := by
          have := hrk.out
          rw [hj] at this
          rw [hj2]
          unfold rXc at this
          rw [if_pos hs] at this
          exact this
        obtain ⟨z, hz⟩ : ∃ z, rX sk = z := ⟨_, rfl⟩
        obtain ⟨⟨n0, n1, n2⟩, s2⟩ := z
        have hcall := getNeed_c wr br sk hRr.out
        rw [hz] at hcall hstep
        simp only [tV] at hcall hstep
        obtain ⟨N, hN⟩ : ∃ N, L.length = N := ⟨_, rfl⟩
        rw [hN] at hLk hO ⊢
        have hN1 : N ≤ 1024 := by have := hLk.out; omega
        replace hs := Lib.hid hs
        replace hz := Lib.hid hz
        replace hcall := Lib.hid hcall
        replace hstep := Lib.hid hstep
        replace hN := Lib.hid hN
        replace hj := Lib.hid hj
        replace hj2 := Lib.hid hj2
        go_wp2_with fail
        refine hcall.out.mono ?_
        rintro e w2 ⟨rfl, hR2, hk2⟩
        have hO2 := hO.out.keepS hk2 (fun b hb => by simp only [List.mem_singleton] at hb; subst hb; intro e; have h2 := hO.out.ge _ e; have h3 := hlt.out; omega)
        have hmade := Sh.R.made shT w2 [(n0, n1, n2)] #[.int .i64 n0, .int .u64 n1, .int .i64 n2] tN rfl (by simp [maxLen]) 1 rfl
        have hkM := (Keeps.refl [] w2).alloc (.cells #[.int .i64 n0, .int .u64 n1, .int .i64 n2] tN)
        have hOM := hO2.keeps hkM
        have hRM := hR2.keeps hkM
        have hkwM := (hkw.out.trans hk2).trans hkM.of_nil
        have hsz : B ≤ (w2.alloc (.cells #[.int .i64 n0, .int .u64 n1, .int .i64 n2] tN)).heap.size := by have := hkwM.size; have := hB.out; omega
        replace hmade := Lib.hid hmade
        replace hOM := Lib.hid hOM
        replace hRM := Lib.hid hRM
        replace hkwM := Lib.hid hkwM
        clear hkM hO2 hR2 hk2 hcall d0 d1 df0 df1 dl
        go_wp2_with (first
          | (at_builtin; (refine Sh.wpl_app shT B infoN rfl Tryz.underlying42 (.slice oa N oc) (.slice (some ⟨w2.heap.size, 0, none⟩) 1 1) L [(n0, n1, n2)] rfl _ _ rfl rfl rfl hOM.out hmade.out (by rw [hN.out]; simp only [List.length_singleton]; omega) hsz ?_; intro v5 w5 hO5 hG5; have hR5 := hRM.out.moved hG5.keepsO (fun hm => by have h2 := hOM.out.ge br (by simpa using hm); have h3 := hlt.out; omega) (fun b hm cs e => by obtain ⟨cs', hc⟩ := hOM.out.tag b (by simpa using hm); rw [hc] at e; cases e); have hk5 := hkwM.out.fresh hG5.keepsO (fun b hb => .inr (by have h2 := hOM.out.ge b (by simpa using hb); have h3 := hB.out; omega)); replace hO5 := Lib.hid hO5; replace hR5 := Lib.hid hR5; replace hk5 := Lib.hid hk5; clear hG5))
          | fail)
        go_roundw
        case rel => exact ⟨k + 1, L ++ [(n0, n1, n2)], s2, rfl, by omega, hO5, Lib.hid (by rw [List.length_append, hN.out]; have := hLk.out; simp; omega), hstep, hR5, hk5⟩
        case measure => simp [intOf]; omega
      · have hsb : (sk.2 == 0) = false := by simpa using hs
        have hend : r = (L, sk) := by
          have := hrk.out
          rw [hj] at this
          unfold rXc at this
          rw [if_neg hs] at this
          exact this.symm
        replace hs := Lib.hid hs
        replace hend := Lib.hid hend
        replace hj := Lib.hid hj
        replace hj2 := Lib.hid hj2
        go_wp2
        go_ret
        exact ⟨_, rfl, by rw [hend.out]; exact hO.out, by rw [hend.out]; exact hRr.out, hkw.out⟩
    · have hlt3 : ¬ ((k : Int) < M) := by omega
      have hlt4 : decide ((k : Int) < (M : Int)) = false := by simp; omega
      have hend : r = (L, sk) := by
        have := hrk.out
        rw [show M - k = 0 by omega] at this
        exact this.symm
      replace hend := Lib.hid hend
      go_wp2
      go_ret
      exact ⟨_, rfl, by rw [hend.out]; exact hO.out, by rw [hend.out]; exact hRr.out, hkw.out⟩
end Go.Proofs.YtiplgpefapeapaaGreat

namespace Go.Proofs.YtiplgpefapeapaaGreat
open Go.RowKit

def rAs (s : RS) : Ans × RS := ({ rA0 s with ins := (rXc (rCS 1024 (f7 s)).1 (rCS 1024 (f7 s)).2 []).1 }, (rXc (rCS 1024 (f7 s)).1 (rCS 1024 (f7 s)).2 []).2)
theorem tA_r : (tA : Nat) ≠ tRr := by decide
theorem tA_b : (tA : Nat) ≠ tB := by decide
theorem tI_r : (tI : Nat) ≠ tRr := by decide
theorem tI_b : (tI : Nat) ≠ tB := by decide
theorem loadA8 (w : World) (g : Nat) (t : TypeId) (x0 x1 x2 x3 x4 x5 x6 x7 : Value) (f : Nat × Nat) (hg : w.heap[g]? = some (.cells #[x0, x1, x2, x3, x4, x5, x6, x7] t f)) : (loadVar tA ⟨g, 0, none⟩).run Tryz.prog w = .ok (.agg #[x0, x1, x2, x3, x4, x5, x6, x7]) w :=
  run_loadVar_row w g t tA #[x0, x1, x2, x3, x4, x5, x6, x7] f _ hg Tryz.underlying46 rfl sizeA8
theorem results_a8 {fn : Func} {p : Tmp} (h : fn.results = #[.cell p tA]) (tmps : Array Value) (w : World) (g : Nat) (t : TypeId) (x0 x1 x2 x3 x4 x5 x6 x7 : Value) (f : Nat × Nat) (hp : tmps.getD p undef = .pointer (some ⟨g, 0, none⟩))
    (hg : w.heap[g]? = some (.cells #[x0, x1, x2, x3, x4, x5, x6, x7] t f)) : (results fn tmps).run Tryz.prog w = .ok (.agg #[x0, x1, x2, x3, x4, x5, x6, x7]) w := by
  have hp' : tmps[p]?.getD undef = .pointer (some ⟨g, 0, none⟩) := by simpa using hp
  simp [results, h, hp', asAddr, loadA8 w g t x0 x1 x2 x3 x4 x5 x6 x7 f hg]
/-- An answer handed back: its inset in a block of the call's own. -/
def AnsP (w : World) (br : Nat) (s : RS) (e : Ending) (w' : World) : Prop := ∃ y : AnV, e = .returned (.agg #[.int .i64 y.m, .int .i64 y.ow, .int .u64 y.n, .int .i64 y.ep, .bool y.kn, .bool y.rt, .int .i64 y.lu, y.v]) ∧ InR w' y (rAs s).1 ∧ shT.O w' w.heap.size tI y.v (rAs s).1.ins ∧ RrS w' br (rAs s).2 ∧ Keeps [br] w w'
set_option maxRecDepth 100000 in
set_option maxHeartbeats 16000000 in
theorem getAnswer_c (w : World) (br : Nat) (s : RS) (h : RrS w br s) :
    Calls Tryz.prog 40 #[.pointer (some ⟨br, 0, none⟩)] w (AnsP w br s) := by
  have hkZ := (Keeps.refl [] w).alloc (.cells #[.int .i64 0, .int .i64 0, .int .u64 0, .int .i64 0, .bool false, .bool false, .int .i64 0, .slice none 0 0] tA)
  have hZ0 := heap_alloc_new w (.cells #[.int .i64 0, .int .i64 0, .int .u64 0, .int .i64 0, .bool false, .bool false, .int .i64 0, .slice none 0 0] tA)
  have hbw := h.lt
  have h1 := h.keeps hkZ
  have hRb0 : w.heap.size ≠ br := by omega
  obtain ⟨p1, hp1⟩ : ∃ p, rI s = p := ⟨_, rfl⟩
  obtain ⟨y0, s1⟩ := p1
  obtain ⟨p2, hp2⟩ : ∃ p, rI s1 = p := ⟨_, rfl⟩
  obtain ⟨y1, s2⟩ := p2
  obtain ⟨p3, hp3⟩ : ∃ p, rU s2 = p := ⟨_, rfl⟩
  obtain ⟨y2, s3⟩ := p3
  obtain ⟨p4, hp4⟩ : ∃ p, rI s3 = p := ⟨_, rfl⟩
  obtain ⟨y3, s4⟩ := p4
  obtain ⟨p5, hp5⟩ : ∃ p, rB s4 = p := ⟨_, rfl⟩
  obtain ⟨y4, s5⟩ := p5
  obtain ⟨p6, hp6⟩ : ∃ p, rB s5 = p := ⟨_, rfl⟩
  obtain ⟨y5, s6⟩ := p6
  obtain ⟨p7, hp7⟩ : ∃ p, rI s6 = p := ⟨_, rfl⟩
  obtain ⟨y6, s7⟩ := p7
  obtain ⟨p8, hp8⟩ : ∃ p, rCS 1024 s7 = p := ⟨_, rfl⟩
  obtain ⟨M, s8⟩ := p8
  obtain ⟨r, hr⟩ : ∃ r, rXc M s8 [] = r := ⟨_, rfl⟩
  have g1 : f1 s = s1 := by unfold f1; rw [hp1]
  have g2 : f2 s = s2 := by unfold f2; rw [g1, hp2]
  have g3 : f3 s = s3 := by unfold f3; rw [g2, hp3]
  have g4 : f4 s = s4 := by unfold f4; rw [g3, hp4]
  have g5 : f5 s = s5 := by unfold f5; rw [g4, hp5]
  have g6 : f6 s = s6 := by unfold f6; rw [g5, hp6]
  have g7 : f7 s = s7 := by unfold f7; rw [g6, hp7]
  have hres : rAs s = (⟨y0, y1, y2, y3, y4, y5, y6, r.1⟩, r.2) := by unfold rAs rA0; rw [g1, g2, g3, g4, g5, g6, g7, hp8, hr, hp1, hp2, hp3, hp4, hp5, hp6, hp7]
  have hM : M ≤ 1024 := by have := rCS_le 1024 s7; rw [hp8] at this; exact this
  have hc1 := fun W h => intRS_c W br s h
  have hc2 := fun W h => intRS_c W br s1 h
  have hc3 := fun W h => uintRS_c W br s2 h
  have hc4 := fun W h => intRS_c W br s3 h
  have hc5 := fun W h => boolRS_c W br s4 h
  have hc6 := fun W h => boolRS_c W br s5 h
  have hc7 := fun W h => intRS_c W br s6 h
  have hc8 := fun W h => countRX_c W br s7 h
  rw [hp1] at hc1
  rw [hp2] at hc2
  rw [hp3] at hc3
  rw [hp4] at hc4
  rw [hp5] at hc5
  rw [hp6] at hc6
  rw [hp7] at hc7
  rw [hp8] at hc8
  unfold AnsP
  rw [hres]
  simp only at hc1 hc2 hc3 hc4 hc5 hc6 hc7 hc8 ⊢
  replace hc1 := Lib.hid hc1
  replace hc2 := Lib.hid hc2
  replace hc3 := Lib.hid hc3
  replace hc4 := Lib.hid hc4
  replace hc5 := Lib.hid hc5
  replace hc6 := Lib.hid hc6
  replace hc7 := Lib.hid hc7
  replace hc8 := Lib.hid hc8
  replace hr := Lib.hid hr
  have hkp := Lib.hid (hkZ.of_nil (T := [br]))
  clear hp1 hp2 hp3 hp4 hp5 hp6 hp7 hp8 g1 g2 g3 g4 g5 g6 g7 hres h hkZ
  go_enter Tryz.func40, Tryz.ntmps40
  go_upto_region 1 with fail
  generalize (w.alloc (.cells #[.int .i64 0, .int .i64 0, .int .u64 0, .int .i64 0, .bool false, .bool false, .int .i64 0, .slice none 0 0] tA)) = W at *
  obtain ⟨Z, hRe⟩ : ∃ B, w.heap.size = B := ⟨_, rfl⟩
  rw [hRe] at hZ0 hRb0 ⊢
  have hbR : br < Z := by omega
  have hR := Lib.hid h1
  have hZ := Lib.hid hZ0
  have hZb := Lib.hid hRb0
  replace hRe := Lib.hid hRe
  clear h1 hZ0 hRb0 hbw
  go_wp2_with fail
  refine (hc1.out _ hR.out).mono ?_
  rintro e w1 ⟨rfl, hR1, hk1⟩
  have hZ1 := (hk1.block Z (lt_of_blk hZ.out) (by simpa using hZb.out)).trans hZ.out
  have hZX0 : Z ≠ w1.heap.size := Nat.ne_of_lt (lt_of_blk hZ1)
  have hkA1 := (Keeps.refl [] w1).alloc (.cells #[.int .i64 y0, .int .i64 0, .int .u64 0, .int .i64 0, .bool false, .bool false, .int .i64 0, .slice none 0 0] tA)
  have hX1 := heap_alloc_new w1 (.cells #[.int .i64 y0, .int .i64 0, .int .u64 0, .int .i64 0, .bool false, .bool false, .int .i64 0, .slice none 0 0] tA)
  have hR2 := hR1.keeps hkA1
  have hXb1 := hR2.ne hX1 tA_r
  have hZ2 := (hkA1.block Z (lt_of_blk hZ1) (by simp)).trans hZ1
  have hkX1 := (hkp.out.trans hk1).trans hkA1.of_nil
  have hwX1 : w.heap.size ≤ w1.heap.size := (hkp.out.trans hk1).size
  clear hR hZ
  go_upto_region 2 with fail
  generalize (w1.alloc (.cells #[.int .i64 y0, .int .i64 0, .int .u64 0, .int .i64 0, .bool false, .bool false, .int .i64 0, .slice none 0 0] tA)) = W1 at *
  obtain ⟨X, hXe⟩ : ∃ X, w1.heap.size = X := ⟨_, rfl⟩
  rw [hXe] at hX1 hXb1 hwX1 hZX0 ⊢
  replace hXe := Lib.hid hXe
  have hX := Lib.hid hX1
  have hXb := Lib.hid hXb1
  have hwX := Lib.hid hwX1
  have hkX := Lib.hid hkX1
  have hR := Lib.hid hR2
  have hZ := Lib.hid hZ2
  replace hZX0 := Lib.hid hZX0
  have hZX := hZX0
  clear hZ1 hZ2 hZX0
  clear hX1 hXb1 hwX1 hkX1 hR1 hR2 hk1 hkA1
  obtain ⟨c0, c1, c2, c3, c4, c5, c6, c7, cf, cl⟩ := cl8 hX.out
  go_wp2_with fail
  refine (hc2.out _ hR.out).mono ?_
  rintro e v2 ⟨rfl, hR2, hk2⟩
  clear c0 c1 c2 c3 c4 c5 c6 c7 cf cl
  have hX2 := (hk2.block X (lt_of_blk hX.out) (by simpa using hXb.out)).trans hX.out
  have hZ2 := (hk2.block Z (lt_of_blk hZ.out) (by simpa using hZb.out)).trans hZ.out
  have hs2 : Keeps [X] v2 (v2.setCell ⟨X, 1, none⟩ (.int .i64 y1)) := (Keeps.refl _ _).setCell (.inr (by simp)) _
  have hY2 : (v2.setCell ⟨X, 1, none⟩ (.int .i64 y1)).heap[X]? = some (.cells #[.int .i64 y0, .int .i64 y1, .int .u64 0, .int .i64 0, .bool false, .bool false, .int .i64 0, .slice none 0 0] tA (0, 0)) := by simp [World.setCell, Array.getElem?_modify, hX2]
  have hR2b := hR2.other hs2 hX2 tA_r tA_b
  have hZ2b := (hs2.block Z (lt_of_blk hZ2) (by simpa using hZX.out)).trans hZ2
  have hkn := Lib.hid ((hkX.out.trans hk2).fresh hs2 (fun b hb => by simp only [List.mem_singleton] at hb; subst hb; exact .inr hwX.out))
  obtain ⟨c0, c1, c2, c3, c4, c5, c6, c7, cf, cl⟩ := cl8 hX2
  clear hX hR hkX hZ
  have hX := Lib.hid hY2
  have hZ := Lib.hid hZ2b
  have hR := Lib.hid hR2b
  have hkX := hkn
  clear hX2 hs2 hY2 hR2b hkn hR2 hk2 hZ2 hZ2b
  go_upto_region 3 with fail
  generalize (v2.setCell ⟨X, 1, none⟩ (.int .i64 y1)) = W2 at *
  clear c0 c1 c2 c3 c4 c5 c6 c7 cf cl
  obtain ⟨c0, c1, c2, c3, c4, c5, c6, c7, cf, cl⟩ := cl8 hX.out
  go_wp2_with fail
  refine (hc3.out _ hR.out).mono ?_
  rintro e v3 ⟨rfl, hR3, hk3⟩
  clear c0 c1 c2 c3 c4 c5 c6 c7 cf cl
  have hX3 := (hk3.block X (lt_of_blk hX.out) (by simpa using hXb.out)).trans hX.out
  have hZ3 := (hk3.block Z (lt_of_blk hZ.out) (by simpa using hZb.out)).trans hZ.out
  have hs3 : Keeps [X] v3 (v3.setCell ⟨X, 2, none⟩ (.int .u64 y2)) := (Keeps.refl _ _).setCell (.inr (by simp)) _
  have hY3 : (v3.setCell ⟨X, 2, none⟩ (.int .u64 y2)).heap[X]? = some (.cells #[.int .i64 y0, .int .i64 y1, .int .u64 y2, .int .i64 0, .bool false, .bool false, .int .i64 0, .slice none 0 0] tA (0, 0)) := by simp [World.setCell, Array.getElem?_modify, hX3]
  have hR3b := hR3.other hs3 hX3 tA_r tA_b
  have hZ3b := (hs3.block Z (lt_of_blk hZ3) (by simpa using hZX.out)).trans hZ3
  have hkn := Lib.hid ((hkX.out.trans hk3).fresh hs3 (fun b hb => by simp only [List.mem_singleton] at hb; subst hb; exact .inr hwX.out))
  obtain ⟨c0, c1, c2, c3, c4, c5, c6, c7, cf, cl⟩ := cl8 hX3
  clear hX hR hkX hZ
  have hX := Lib.hid hY3
  have hZ := Lib.hid hZ3b
  have hR := Lib.hid hR3b
  have hkX := hkn
  clear hX3 hs3 hY3 hR3b hkn hR3 hk3 hZ3 hZ3b
  go_upto_region 4 with fail
  generalize (v3.setCell ⟨X, 2, none⟩ (.int .u64 y2)) = W3 at *
  clear c0 c1 c2 c3 c4 c5 c6 c7 cf cl
  obtain ⟨c0, c1, c2, c3, c4, c5, c6, c7, cf, cl⟩ := cl8 hX.out
  go_wp2_with fail
  refine (hc4.out _ hR.out).mono ?_
  rintro e v4 ⟨rfl, hR4, hk4⟩
  clear c0 c1 c2 c3 c4 c5 c6 c7 cf cl
  have hX4 := (hk4.block X (lt_of_blk hX.out) (by simpa using hXb.out)).trans hX.out
  have hZ4 := (hk4.block Z (lt_of_blk hZ.out) (by simpa using hZb.out)).trans hZ.out
  have hs4 : Keeps [X] v4 (v4.setCell ⟨X, 3, none⟩ (.int .i64 y3)) := (Keeps.refl _ _).setCell (.inr (by simp)) _
  have hY4 : (v4.setCell ⟨X, 3, none⟩ (.int .i64 y3)).heap[X]? = some (.cells #[.int .i64 y0, .int .i64 y1, .int .u64 y2, .int .i64 y3, .bool false, .bool false, .int .i64 0, .slice none 0 0] tA (0, 0)) := by simp [World.setCell, Array.getElem?_modify, hX4]
  have hR4b := hR4.other hs4 hX4 tA_r tA_b
  have hZ4b := (hs4.block Z (lt_of_blk hZ4) (by simpa using hZX.out)).trans hZ4
  have hkn := Lib.hid ((hkX.out.trans hk4).fresh hs4 (fun b hb => by simp only [List.mem_singleton] at hb; subst hb; exact .inr hwX.out))
  obtain ⟨c0, c1, c2, c3, c4, c5, c6, c7, cf, cl⟩ := cl8 hX4
  clear hX hR hkX hZ
  have hX := Lib.hid hY4
  have hZ := Lib.hid hZ4b
  have hR := Lib.hid hR4b
  have hkX := hkn
  clear hX4 hs4 hY4 hR4b hkn hR4 hk4 hZ4 hZ4b
  go_upto_region 5 with fail
  generalize (v4.setCell ⟨X, 3, none⟩ (.int .i64 y3)) = W4 at *
  clear c0 c1 c2 c3 c4 c5 c6 c7 cf cl
  obtain ⟨c0, c1, c2, c3, c4, c5, c6, c7, cf, cl⟩ := cl8 hX.out
  go_wp2_with fail
  refine (hc5.out _ hR.out).mono ?_
  rintro e v5 ⟨rfl, hR5, hk5⟩
  clear c0 c1 c2 c3 c4 c5 c6 c7 cf cl
  have hX5 := (hk5.block X (lt_of_blk hX.out) (by simpa using hXb.out)).trans hX.out
  have hZ5 := (hk5.block Z (lt_of_blk hZ.out) (by simpa using hZb.out)).trans hZ.out
  have hs5 : Keeps [X] v5 (v5.setCell ⟨X, 4, none⟩ (.bool y4)) := (Keeps.refl _ _).setCell (.inr (by simp)) _
  have hY5 : (v5.setCell ⟨X, 4, none⟩ (.bool y4)).heap[X]? = some (.cells #[.int .i64 y0, .int .i64 y1, .int .u64 y2, .int .i64 y3, .bool y4, .bool false, .int .i64 0, .slice none 0 0] tA (0, 0)) := by simp [World.setCell, Array.getElem?_modify, hX5]
  have hR5b := hR5.other hs5 hX5 tA_r tA_b
  have hZ5b := (hs5.block Z (lt_of_blk hZ5) (by simpa using hZX.out)).trans hZ5
  have hkn := Lib.hid ((hkX.out.trans hk5).fresh hs5 (fun b hb => by simp only [List.mem_singleton] at hb; subst hb; exact .inr hwX.out))
  obtain ⟨c0, c1, c2, c3, c4, c5, c6, c7, cf, cl⟩ := cl8 hX5
  clear hX hR hkX hZ
  have hX := Lib.hid hY5
  have hZ := Lib.hid hZ5b
  have hR := Lib.hid hR5b
  have hkX := hkn
  clear hX5 hs5 hY5 hR5b hkn hR5 hk5 hZ5 hZ5b
  go_upto_region 6 with fail
  generalize (v5.setCell ⟨X, 4, none⟩ (.bool y4)) = W5 at *
  clear c0 c1 c2 c3 c4 c5 c6 c7 cf cl
  obtain ⟨c0, c1, c2, c3, c4, c5, c6, c7, cf, cl⟩ := cl8 hX.out
  go_wp2_with fail
  refine (hc6.out _ hR.out).mono ?_
  rintro e v6 ⟨rfl, hR6, hk6⟩
  clear c0 c1 c2 c3 c4 c5 c6 c7 cf cl
  have hX6 := (hk6.block X (lt_of_blk hX.out) (by simpa using hXb.out)).trans hX.out
  have hZ6 := (hk6.block Z (lt_of_blk hZ.out) (by simpa using hZb.out)).trans hZ.out
  have hs6 : Keeps [X] v6 (v6.setCell ⟨X, 5, none⟩ (.bool y5)) := (Keeps.refl _ _).setCell (.inr (by simp)) _
  have hY6 : (v6.setCell ⟨X, 5, none⟩ (.bool y5)).heap[X]? = some (.cells #[.int .i64 y0, .int .i64 y1, .int .u64 y2, .int .i64 y3, .bool y4, .bool y5, .int .i64 0, .slice none 0 0] tA (0, 0)) := by simp [World.setCell, Array.getElem?_modify, hX6]
  have hR6b := hR6.other hs6 hX6 tA_r tA_b
  have hZ6b := (hs6.block Z (lt_of_blk hZ6) (by simpa using hZX.out)).trans hZ6
  have hkn := Lib.hid ((hkX.out.trans hk6).fresh hs6 (fun b hb => by simp only [List.mem_singleton] at hb; subst hb; exact .inr hwX.out))
  obtain ⟨c0, c1, c2, c3, c4, c5, c6, c7, cf, cl⟩ := cl8 hX6
  clear hX hR hkX hZ
  have hX := Lib.hid hY6
  have hZ := Lib.hid hZ6b
  have hR := Lib.hid hR6b
  have hkX := hkn
  clear hX6 hs6 hY6 hR6b hkn hR6 hk6 hZ6 hZ6b
  go_upto_region 7 with fail
  generalize (v6.setCell ⟨X, 5, none⟩ (.bool y5)) = W6 at *
  clear c0 c1 c2 c3 c4 c5 c6 c7 cf cl
  obtain ⟨c0, c1, c2, c3, c4, c5, c6, c7, cf, cl⟩ := cl8 hX.out
  go_wp2_with fail
  refine (hc7.out _ hR.out).mono ?_
  rintro e v7 ⟨rfl, hR7, hk7⟩
  clear c0 c1 c2 c3 c4 c5 c6 c7 cf cl
  have hX7 := (hk7.block X (lt_of_blk hX.out) (by simpa using hXb.out)).trans hX.out
  have hZ7 := (hk7.block Z (lt_of_blk hZ.out) (by simpa using hZb.out)).trans hZ.out
  have hs7 : Keeps [X] v7 (v7.setCell ⟨X, 6, none⟩ (.int .i64 y6)) := (Keeps.refl _ _).setCell (.inr (by simp)) _
  have hY7 : (v7.setCell ⟨X, 6, none⟩ (.int .i64 y6)).heap[X]? = some (.cells #[.int .i64 y0, .int .i64 y1, .int .u64 y2, .int .i64 y3, .bool y4, .bool y5, .int .i64 y6, .slice none 0 0] tA (0, 0)) := by simp [World.setCell, Array.getElem?_modify, hX7]
  have hR7b := hR7.other hs7 hX7 tA_r tA_b
  have hZ7b := (hs7.block Z (lt_of_blk hZ7) (by simpa using hZX.out)).trans hZ7
  have hkn := Lib.hid ((hkX.out.trans hk7).fresh hs7 (fun b hb => by simp only [List.mem_singleton] at hb; subst hb; exact .inr hwX.out))
  obtain ⟨c0, c1, c2, c3, c4, c5, c6, c7, cf, cl⟩ := cl8 hX7
  clear hX hR hkX hZ
  have hX := Lib.hid hY7
  have hZ := Lib.hid hZ7b
  have hR := Lib.hid hR7b
  have hkX := hkn
  clear hX7 hs7 hY7 hR7b hkn hR7 hk7 hZ7 hZ7b
  go_upto_region 8 with fail
  generalize (v7.setCell ⟨X, 6, none⟩ (.int .i64 y6)) = W7 at *
  clear c0 c1 c2 c3 c4 c5 c6 c7 cf cl
  go_wp2_with fail
  refine (hc8.out _ hR.out).mono ?_
  rintro e w8 ⟨rfl, hR8, hk8⟩
  have hX8 := (hk8.block X (lt_of_blk hX.out) (by simpa using hXb.out)).trans hX.out
  have hZ8 := (hk8.block Z (lt_of_blk hZ.out) (by simpa using hZb.out)).trans hZ.out
  have hkX8 := hkX.out.trans hk8
  have hZX1 : Z < X := by have h1 := hwX.out; have h2 := hZX.out; have h3 := hRe.out; omega
  clear hX hZ hR hkX hc1 hc2 hc3 hc4 hc5 hc6 hc7 hc8
  have hX := Lib.hid hX8
  have hZ := Lib.hid hZ8
  have hR := Lib.hid hR8
  have hkX := Lib.hid hkX8
  have hO0 : Hid (shT.O w8 (X + 1) tI (.slice none 0 0) []) := Lib.hid (Sh.O.nil _ _ _ _)
  clear hX8 hZ8 hR8 hkX8 hk8
  replace hZX1 := Lib.hid hZX1
  go_wp2
  go_loopw [5] (fun i wr => ∃ (k : Nat) (L : List T3) (sk : RS) (oa : Option Addr) (oc : Nat), i = .int .i64 k ∧ k ≤ M ∧ Hid (wr.heap[X]? = some (.cells #[.int .i64 y0, .int .i64 y1, .int .u64 y2, .int .i64 y3, .bool y4, .bool y5, .int .i64 y6, .slice oa L.length oc] tA (0, 0))) ∧ Hid (wr.heap[Z]? = some (.cells #[.int .i64 0, .int .i64 0, .int .u64 0, .int .i64 0, .bool false, .bool false, .int .i64 0, .slice none 0 0] tA (0, 0))) ∧ Hid (shT.O wr (X + 1) tI (.slice oa L.length oc) L) ∧ Hid (L.length ≤ k) ∧ Hid (rXc (M - k) sk L = r) ∧ Hid (RrS wr br sk) ∧ Hid (Keeps [br] w wr)) (fun i _ => M - (intOf i).toNat)
  case atStart => exact ⟨0, [], s8, none, 0, rfl, by omega, hX, hZ, hO0, Lib.hid (by simp), Lib.hid hr.out, hR, hkX⟩
  case round =>
    clear hX hZ hR hkX hO0
    obtain ⟨k, L, sk, oa, oc, rfl, hk, hX, hZ, hO, hLk, hrk, hR, hkw⟩ := hrel
    obtain ⟨vr, d0, d1, df0, df1, dl⟩ := hR.out.cell
    by_cases hlt2 : k < M
    · have hlt3 : (k : Int) < M := by omega
      obtain ⟨j, hj⟩ : ∃ j, M - k = j + 1 := ⟨M - k - 1, by omega⟩
      have hj2 : M - (k + 1) = j := by omega
      by_cases hs : sk.2 = 0
      · have hsb : (sk.2 == 0) = true := by simpa using hs
        have hstep : rXc (M - (k + 1)) (rX sk).2 (L ++ [(rX sk).1]) = r := by
          have := hrk.out
          rw [hj] at this
          rw [hj2]
          unfold rXc at this
          rw [if_pos hs] at this
          exact this
        obtain ⟨q1, hq1⟩ : ∃ p, rI sk = p := ⟨_, rfl⟩
        obtain ⟨n0, t1⟩ := q1
        obtain ⟨q2, hq2⟩ : ∃ p, rU t1 = p := ⟨_, rfl⟩
        obtain ⟨n1, t2⟩ := q2
        obtain ⟨q3, hq3⟩ : ∃ p, rI t2 = p := ⟨_, rfl⟩
        obtain ⟨n2, t3⟩ := q3
        have hrx : rX sk = ((n0, n1, n2), t3) := by unfold rX; rw [hq1, hq2, hq3]
        have hc1 := fun W h => intRS_c W br sk h
        have hc2 := fun W h => uintRS_c W br t1 h
        have hc3 := fun W h => intRS_c W br t2 h
        rw [hq1] at hc1
        rw [hq2] at hc2
        rw [hq3] at hc3
        rw [hrx] at hstep
        simp only at hc1 hc2 hc3 hstep
        obtain ⟨N, hN⟩ : ∃ N, L.length = N := ⟨_, rfl⟩
        rw [hN] at hLk hO hX
        have hN1 : N ≤ 1024 := by have := hLk.out; omega
        have hkp : Hid (Keeps [br] wr wr) := Lib.hid (Keeps.refl _ _)
        replace hs := Lib.hid hs
        replace hc1 := Lib.hid hc1
        replace hc2 := Lib.hid hc2
        replace hc3 := Lib.hid hc3
        replace hstep := Lib.hid hstep
        replace hN := Lib.hid hN
        replace hj := Lib.hid hj
        replace hj2 := Lib.hid hj2
        have hXlt : Hid (X < wr.heap.size) := Lib.hid (lt_of_blk hX.out)
        clear hq1 hq2 hq3 hrx
        go_upto_region 12 with fail
        go_wp2_with fail
        refine (hc1.out _ hR.out).mono ?_
        rintro e wi1 ⟨rfl, hR1, hk1⟩
        have hkA1 := (Keeps.refl [] wi1).alloc (.cells #[.int .i64 n0, .int .u64 0, .int .i64 0] tI)
        have hX1 := heap_alloc_new wi1 (.cells #[.int .i64 n0, .int .u64 0, .int .i64 0] tI)
        have hR2 := hR1.keeps hkA1
        have hXb1 := hR2.ne hX1 tI_r
        have hkX1 := (hkp.out.trans hk1).trans hkA1.of_nil
        have hwX1 : wr.heap.size ≤ wi1.heap.size := (hkp.out.trans hk1).size
        clear hR 
        go_upto_region 13 with fail
        generalize (wi1.alloc (.cells #[.int .i64 n0, .int .u64 0, .int .i64 0] tI)) = Wf0 at *
        obtain ⟨I, hIe⟩ : ∃ X, wi1.heap.size = X := ⟨_, rfl⟩
        rw [hIe] at hX1 hXb1 hwX1  ⊢
        replace hIe := Lib.hid hIe
        have hI := Lib.hid hX1
        have hIb := Lib.hid hXb1
        have hwI := Lib.hid hwX1
        have hkI := Lib.hid hkX1
        have hR := Lib.hid hR2
        clear hX1 hXb1 hwX1 hkX1 hR1 hR2 hk1 hkA1
        clear d0 d1 df0 df1 dl
        obtain ⟨c0, c1, c2, cf, cl⟩ := cl3 hI.out
        go_wp2_with fail
        refine (hc2.out _ hR.out).mono ?_
        rintro e vf1 ⟨rfl, hRf1, hkf1⟩
        clear c0 c1 c2 cf cl
        have hXf1 := (hkf1.block I (lt_of_blk hI.out) (by simpa using hIb.out)).trans hI.out
        have hsf1 : Keeps [I] vf1 (vf1.setCell ⟨I, 1, none⟩ (.int .u64 n1)) := (Keeps.refl _ _).setCell (.inr (by simp)) _
        have hYf1 : (vf1.setCell ⟨I, 1, none⟩ (.int .u64 n1)).heap[I]? = some (.cells #[.int .i64 n0, .int .u64 n1, .int .i64 0] tI (0, 0)) := by simp [World.setCell, Array.getElem?_modify, hXf1]
        have hRf1b := hRf1.other hsf1 hXf1 tI_r tI_b
        have hkn := Lib.hid ((hkI.out.trans hkf1).fresh hsf1 (fun b hb => by simp only [List.mem_singleton] at hb; subst hb; exact .inr hwI.out))
        obtain ⟨c0, c1, c2, cf, cl⟩ := cl3 hXf1
        clear hI hR hkI 
        have hI := Lib.hid hYf1
        have hR := Lib.hid hRf1b
        have hkI := hkn
        clear hXf1 hsf1 hYf1 hRf1b hkn hRf1 hkf1 
        go_upto_region 14 with fail
        generalize (vf1.setCell ⟨I, 1, none⟩ (.int .u64 n1)) = Wf1 at *
        clear c0 c1 c2 cf cl
        obtain ⟨c0, c1, c2, cf, cl⟩ := cl3 hI.out
        go_wp2_with fail
        refine (hc3.out _ hR.out).mono ?_
        rintro e vf2 ⟨rfl, hRf2, hkf2⟩
        clear c0 c1 c2 cf cl
        have hXf2 := (hkf2.block I (lt_of_blk hI.out) (by simpa using hIb.out)).trans hI.out
        have hsf2 : Keeps [I] vf2 (vf2.setCell ⟨I, 2, none⟩ (.int .i64 n2)) := (Keeps.refl _ _).setCell (.inr (by simp)) _
        have hYf2 : (vf2.setCell ⟨I, 2, none⟩ (.int .i64 n2)).heap[I]? = some (.cells #[.int .i64 n0, .int .u64 n1, .int .i64 n2] tI (0, 0)) := by simp [World.setCell, Array.getElem?_modify, hXf2]
        have hRf2b := hRf2.other hsf2 hXf2 tI_r tI_b
        have hkn := Lib.hid ((hkI.out.trans hkf2).fresh hsf2 (fun b hb => by simp only [List.mem_singleton] at hb; subst hb; exact .inr hwI.out))
        obtain ⟨c0, c1, c2, cf, cl⟩ := cl3 hXf2
        clear hI hR hkI 
        have hI := Lib.hid hYf2
        have hR := Lib.hid hRf2b
        have hkI := hkn
        clear hXf2 hsf2 hYf2 hRf2b hkn hRf2 hkf2 
        go_upto_region 15 with fail
        generalize (vf2.setCell ⟨I, 2, none⟩ (.int .i64 n2)) = Wf2 at *
        clear c0 c1 c2 cf cl
        obtain ⟨e0, e1, e2, ef, el⟩ := cl3 hI.out
        have hXI := (hkI.out.block X (lt_of_blk hX.out) (by simpa using hXb.out)).trans hX.out
        have hZI := (hkI.out.block Z (lt_of_blk hZ.out) (by simpa using hZb.out)).trans hZ.out
        have hOI := hO.out.keepS hkI.out (fun b hb e => by simp only [List.mem_singleton] at hb; subst hb; have h2 := hO.out.ge _ e; have h3 := hZX1.out; omega)
        obtain ⟨x0, x1, x2, x3, x4, x5, x6, x7, xf, xl⟩ := cl8 hXI
        have hmade := Sh.R.made shT Wf2 [(n0, n1, n2)] #[.int .i64 n0, .int .u64 n1, .int .i64 n2] tI rfl (by simp [maxLen]) 1 rfl
        have hkM := (Keeps.refl [] Wf2).alloc (.cells #[.int .i64 n0, .int .u64 n1, .int .i64 n2] tI)
        have hOM := hOI.keeps hkM
        have hRM := hR.out.keeps hkM
        have hXM := (hkM.block X (lt_of_blk hXI) (by simp)).trans hXI
        have hZM := (hkM.block Z (lt_of_blk hZI) (by simp)).trans hZI
        have hkwM := (hkw.out.trans hkI.out).trans hkM.of_nil
        have hsz : X + 1 ≤ (Wf2.alloc (.cells #[.int .i64 n0, .int .u64 n1, .int .i64 n2] tI)).heap.size := lt_of_blk hXM
        have hwz : w.heap.size ≤ X + 1 := by have h1 := hwX.out; omega
        replace hmade := Lib.hid hmade
        replace hOM := Lib.hid hOM
        replace hRM := Lib.hid hRM
        replace hXM := Lib.hid hXM
        replace hZM := Lib.hid hZM
        replace hkwM := Lib.hid hkwM
        clear hkM hOI hXI hZI hkI hkp
        go_wp2_with (first
          | (at_builtin; (refine Sh.wpl_app shT (X + 1) infoI rfl Tryz.underlying44 (.slice oa N oc) (.slice (some ⟨Wf2.heap.size, 0, none⟩) 1 1) L [(n0, n1, n2)] rfl _ _ rfl rfl rfl hOM.out hmade.out (by rw [hN.out]; simp only [List.length_singleton]; omega) hsz ?_; intro vz wz hOz hGz; have hRz := hRM.out.moved hGz.keepsO (fun hm => by have h2 := hOM.out.ge br (by simpa using hm); have h3 := hZX1.out; omega) (fun b hm cs e => by obtain ⟨cs', hc⟩ := hOM.out.tag b (by simpa using hm); rw [hc] at e; cases e); have hXz := (hGz.keepsO.block X (lt_of_blk hXM.out) (fun hm => by have h2 := hOM.out.ge X (by simpa using hm); omega)).trans hXM.out; have hZz := (hGz.keepsO.block Z (lt_of_blk hZM.out) (fun hm => by have h2 := hOM.out.ge Z (by simpa using hm); have h3 := hZX1.out; omega)).trans hZM.out; have hkz := hkwM.out.fresh hGz.keepsO (fun b hb => .inr (by have h2 := hOM.out.ge b (by simpa using hb); omega)); obtain ⟨za, zc, rfl⟩ := hOz.form; have hlz : (L ++ [(n0, n1, n2)]).length = N + 1 := (by simp [hN.out]); rw [hlz] at hOz ⊢; have hsz2 : Keeps [X] wz (wz.setCell ⟨X, 7, none⟩ (.slice za (N + 1) zc)) := (Keeps.refl _ _).setCell (.inr (by simp)) _; have hYz : (wz.setCell ⟨X, 7, none⟩ (.slice za (N + 1) zc)).heap[X]? = some (.cells #[.int .i64 y0, .int .i64 y1, .int .u64 y2, .int .i64 y3, .bool y4, .bool y5, .int .i64 y6, .slice za (N + 1) zc] tA (0, 0)) := (by simp [World.setCell, Array.getElem?_modify, hXz]); obtain ⟨b0, b1, b2, b3, b4, b5, b6, b7, bf, bl⟩ := cl8 hXz; have hRY := Lib.hid (hRz.other hsz2 hXz tA_r tA_b); have hZY := Lib.hid ((hsz2.block Z (lt_of_blk hZz) (by simpa using hZX.out)).trans hZz); have hOY := Lib.hid (hOz.keepS hsz2 (fun b hb e => by simp only [List.mem_singleton] at hb; subst hb; have h2 := hOz.ge _ e; omega)); have hkY := Lib.hid (hkz.fresh hsz2 (fun b hb => by simp only [List.mem_singleton] at hb; subst hb; exact .inr hwX.out)); replace hYz := Lib.hid hYz; replace hlz := Lib.hid hlz; clear hGz hRz hXz hZz hkz hOz hsz2))
          | fail)
        go_roundw
        case rel => exact ⟨k + 1, L ++ [(n0, n1, n2)], t3, za, zc, rfl, by omega, by rw [hlz.out]; exact hYz, hZY, by rw [hlz.out]; exact hOY, Lib.hid (by rw [hlz.out]; have := hLk.out; omega), hstep, hRY, hkY⟩
        case measure => simp [intOf]; omega
      · have hsb : (sk.2 == 0) = false := by simpa using hs
        have hend : r = (L, sk) := by
          have := hrk.out
          rw [hj] at this
          unfold rXc at this
          rw [if_neg hs] at this
          exact this.symm
        replace hs := Lib.hid hs
        replace hend := Lib.hid hend
        replace hj := Lib.hid hj
        replace hj2 := Lib.hid hj2
        obtain ⟨N, hN⟩ : ∃ N, L.length = N := ⟨_, rfl⟩
        rw [hN] at hO hX
        obtain ⟨x0, x1, x2, x3, x4, x5, x6, x7, xf, xl⟩ := cl8 hX.out
        obtain ⟨z0, z1, z2, z3, z4, z5, z6, z7, zf, zl⟩ := cl8 hZ.out
        replace hN := Lib.hid hN
        go_wp2
        obtain ⟨m1, m2⟩ := sc8 (.int .i64 y0) (.int .i64 y1) (.int .u64 y2) (.int .i64 y3) (.bool y4) (.bool y5) (.int .i64 y6) (.slice oa N oc) hZ.out
        have hOf := hO.out.keepS m2 (fun b hb e => by simp only [List.mem_singleton] at hb; subst hb; have h2 := hO.out.ge _ e; have h3 := hZX1.out; omega)
        have hOg := hOf.lowD (B' := w.heap.size) (by have h3 := hZX1.out; have h4 := hRe.out; omega)
        refine bodyPost_ret (results_a8 rfl _ _ _ _ _ _ _ _ _ _ _ _ _ rfl m1) rfl ?_
        refine ⟨⟨y0, y1, y2, y3, y4, y5, y6, oa, N, oc⟩, rfl, ?_, ?_, ?_, ?_⟩
        · rw [hend.out]; exact ⟨rfl, rfl, rfl, rfl, rfl, rfl, rfl, hOg.r⟩
        · rw [hend.out]; exact hOg
        · rw [hend.out]; exact hR.out.other m2 hZ.out tA_r tA_b
        · exact hkw.out.fresh m2 (fun b hb => by simp only [List.mem_singleton] at hb; subst hb; exact .inr (Nat.le_of_eq hRe.out))
    · have hlt3 : ¬ ((k : Int) < M) := by omega
      have hlt4 : decide ((k : Int) < (M : Int)) = false := by simp; omega
      have hend : r = (L, sk) := by
        have := hrk.out
        rw [show M - k = 0 by omega] at this
        exact this.symm
      replace hend := Lib.hid hend
      obtain ⟨N, hN⟩ : ∃ N, L.length = N := ⟨_, rfl⟩
      rw [hN] at hO hX
      obtain ⟨x0, x1, x2, x3, x4, x5, x6, x7, xf, xl⟩ := cl8 hX.out
      obtain ⟨z0, z1, z2, z3, z4, z5, z6, z7, zf, zl⟩ := cl8 hZ.out
      replace hN := Lib.hid hN
      go_wp2
      obtain ⟨m1, m2⟩ := sc8 (.int .i64 y0) (.int .i64 y1) (.int .u64 y2) (.int .i64 y3) (.bool y4) (.bool y5) (.int .i64 y6) (.slice oa N oc) hZ.out
      have hOf := hO.out.keepS m2 (fun b hb e => by simp only [List.mem_singleton] at hb; subst hb; have h2 := hO.out.ge _ e; have h3 := hZX1.out; omega)
      have hOg := hOf.lowD (B' := w.heap.size) (by have h3 := hZX1.out; have h4 := hRe.out; omega)
      refine bodyPost_ret (results_a8 rfl _ _ _ _ _ _ _ _ _ _ _ _ _ rfl m1) rfl ?_
      refine ⟨⟨y0, y1, y2, y3, y4, y5, y6, oa, N, oc⟩, rfl, ?_, ?_, ?_, ?_⟩
      · rw [hend.out]; exact ⟨rfl, rfl, rfl, rfl, rfl, rfl, rfl, hOg.r⟩
      · rw [hend.out]; exact hOg
      · rw [hend.out]; exact hR.out.other m2 hZ.out tA_r tA_b
      · exact hkw.out.fresh m2 (fun b hb => by simp only [List.mem_singleton] at hb; subst hb; exact .inr (Nat.le_of_eq hRe.out))
end Go.Proofs.YtiplgpefapeapaaGreat
