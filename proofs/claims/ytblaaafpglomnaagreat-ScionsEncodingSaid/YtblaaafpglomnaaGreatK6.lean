/- Texts that the laws lean on, in the order in which they build. Scion tables: Encode. (Printed by mksce.py.) Scion tables: what Decode gives, plain. Scion tables: Decode. (Printed by mkscd.py.) The comparisons of two lists: entries, numbers, clients. (Printed by mkscsame.py.) The specification of scion tables: validity, Index. (Printed by mkscra.py.) The specification of scion tables: Find, ForTarget, List. (Printed by mkscrb.py.) -/
import Derived.Test.YtblaaafpglomnaaGreatK5
set_option linter.unusedVariables false
set_option linter.unusedSimpArgs false
namespace Go.Proofs.YtblaaafpglomnaaGreat
open Go Go.RowKit

def encR (r : Rw) : List UInt8 := encU r.1.cl.toNat ++ encU r.1.n ++ (encU r.1.im.toNat ++ encU r.1.is.toNat) ++ encU r.1.o.toNat ++ encU r.1.i.toNat ++ encU r.1.d.toNat ++ encB r.1.tc ++ encB r.1.wk ++ encB r.1.gb ++ (encU r.1.lm.toNat ++ encU r.1.ls.toNat) ++ encU r.2.toNat
def encL (S : List Rw) : List UInt8 := (S.map encR).flatten
def encS (S : List Rw) : List UInt8 := encU S.length ++ encL S
theorem encL_snoc (S : List Rw) (r : Rw) : encL (S ++ [r]) = encL S ++ encR r := by simp [encL]
theorem encL_cons (S : List Rw) (r : Rw) : encL (r :: S) = encR r ++ encL S := by simp [encL]
/-- What a valid row's numbers are like. -/
structure RwN (r : Rw) : Prop where
  cl : 0 ≤ r.1.cl ∧ r.1.cl < 9223372036854775808
  n : r.1.n < 18446744073709551616
  im : 0 ≤ r.1.im ∧ r.1.im < 9223372036854775808
  is : 0 ≤ r.1.is ∧ r.1.is < 9223372036854775808
  o : 0 ≤ r.1.o ∧ r.1.o < 9223372036854775808
  i : 0 ≤ r.1.i ∧ r.1.i < 9223372036854775808
  d : 0 ≤ r.1.d ∧ r.1.d < 9223372036854775808
  lm : 0 ≤ r.1.lm ∧ r.1.lm < 9223372036854775808
  ls : 0 ≤ r.1.ls ∧ r.1.ls < 9223372036854775808
  h : 0 ≤ r.2 ∧ r.2 < 9223372036854775808
theorem oID_iff {m s : Int} : oID m s = true ↔ (m = 0 ∧ s = 0) ∨ (1 ≤ m ∧ m ≤ 8 ∧ 1 ≤ s ∧ s ≤ 1099511627775) := by
  unfold oID vID
  simp
theorem val_iff {e : En} : e.val = true ↔ (1 ≤ e.cl ∧ e.cl ≤ 8) ∧ oID e.im e.is = true ∧ 0 ≤ e.o ∧ 0 ≤ e.i ∧ 0 ≤ e.d ∧ oID e.lm e.ls = true := by
  unfold En.val
  simp only [Bool.and_eq_true, decide_eq_true_eq, and_assoc]
theorem Good.num {S : List Rw} (g : Good S) {r : Rw} (hr : r ∈ S) : RwN r := by
  obtain ⟨h1, h2, h3, h4⟩ := g.ok r hr
  obtain ⟨v1, v2, v3, v4, v5, v6⟩ := val_iff.1 h2
  rw [oID_iff] at v2 v6
  have h5 := w64_iff.1 h1.o
  have h6 := w64_iff.1 h1.i
  have h7 := w64_iff.1 h1.d
  have h8 := w64_iff.1 h4
  exact ⟨by omega, h1.n, by omega, by omega, by omega, by omega, by omega, by omega, by omega, by omega⟩
theorem encB_len (b : Bool) : (encB b).length = 1 := rfl
theorem encR_len {r : Rw} (h : RwN r) : (encR r).length ≤ 100 := by
  have h1 := encU_len (n := r.1.cl.toNat) (by have := h.cl; omega)
  have h2 := encU_len h.n
  have h3 := encU_len (n := r.1.im.toNat) (by have := h.im; omega)
  have h4 := encU_len (n := r.1.is.toNat) (by have := h.is; omega)
  have h5 := encU_len (n := r.1.o.toNat) (by have := h.o; omega)
  have h6 := encU_len (n := r.1.i.toNat) (by have := h.i; omega)
  have h7 := encU_len (n := r.1.d.toNat) (by have := h.d; omega)
  have h8 := encU_len (n := r.1.lm.toNat) (by have := h.lm; omega)
  have h9 := encU_len (n := r.1.ls.toNat) (by have := h.ls; omega)
  have h10 := encU_len (n := r.2.toNat) (by have := h.h; omega)
  simp only [encR, List.length_append, encB_len]
  omega
theorem encL_len : ∀ {S : List Rw}, (∀ r ∈ S, RwN r) → (encL S).length ≤ 100 * S.length
  | [], _ => by simp [encL]
  | r :: S, h => by
    have h1 := encR_len (h r (by simp))
    have h2 := encL_len (S := S) (fun q hq => h q (by simp [hq]))
    rw [encL_cons, List.length_append, List.length_cons]; omega
theorem GK.blk {a w : World} {v v' : Value} (g : GK a w v v') {X : Nat} (hv : v.ownBlock ≠ some X) (hX : X < a.heap.size) : w.heap[X]? = a.heap[X]? ∧ v'.ownBlock ≠ some X := by
  refine ⟨g.keeps.block X hX (by simpa using hv), ?_⟩
  rcases g.own with e | ⟨k, e, hk⟩
  · rw [e]; exact hv
  · rw [e]; intro h; cases h; omega
theorem GK.then2 {a b c : World} {v v' x : Value} (h : GK a b v v') (k : GK b c v' x) : GK a c v x := by
  refine ⟨h.keeps.fresh k.keeps (fun b hb => ?_), ?_⟩
  · rcases h.own with e | ⟨j, e, hj⟩
    · rw [e] at hb; exact .inl hb
    · rw [e] at hb; simp at hb; subst hb; exact .inr hj
  · rcases k.own with e | ⟨j, e, hj⟩
    · rw [e]; exact h.own
    · exact .inr ⟨j, e, Nat.le_trans h.keeps.size hj⟩
set_option maxRecDepth 100000 in
set_option maxHeartbeats 10000000 in
theorem encode_c (w : World) (bt bm : Nat) (T : List Rw) (t : TM w bt bm T) (g : Good T) :
    Calls Tryz.prog 12 #[.pointer (some ⟨bt, 0, none⟩)] w fun e w' => ∃ v, e = .returned v ∧ Buf w' w.heap.size v (encS T) ∧ Keeps [] w w' := by
  have hlen := g.len
  have d7 := t.cell
  have hlen0 := t.len 3 w rfl
  have hlt := t.lt
  obtain ⟨M, hM⟩ : ∃ M, T.length = M := ⟨_, rfl⟩
  rw [hM] at hlen hlen0
  have hkl : (keyL T).length = M := by rw [← hM]; simp [keyL]
  have hwM : IntKind.u64.wrap (M : Int) = M := by rw [IntKind.wrap_u64]; omega
  obtain ⟨B1, hB1⟩ : ∃ B, w.heap.size = B := ⟨_, rfl⟩
  rw [hB1] at hlt ⊢
  replace hM := Lib.hid hM
  replace hkl := Lib.hid hkl
  replace t := Lib.hid t
  replace g := Lib.hid g
  go_enter Tryz.func12, Tryz.ntmps12
  go_wp2_with fail
  refine (appU_c w B1 (.slice none 0 0) [] M (Buf.nil _ _) (by omega) (by simp) (by omega)).mono ?_
  rintro e w1 ⟨v1, rfl, hB, hG⟩
  have hk1 := Grw.keeps (Keeps.refl [] w) hG (fun b hb => by cases hb)
  obtain ⟨a1, c1, rfl⟩ := hB.form
  have hl0 : ([] ++ encU M).length ≤ 9 := by have := encU_len (n := M) (by omega); simpa using this
  have hgz : GK w w1 (.slice none 0 0) (.slice a1 ([] ++ encU M).length c1) := (GK.refl w _).grw hG
  have t1 := t.out.keeps hk1
  have hkc := keys_c w1 bt bm T t1 g.out.srt (by have := hM.out; omega)
  have hz1 : B1 ≤ w1.heap.size := by have := hk1.size; omega
  obtain ⟨E0, hE0⟩ : ∃ x, [] ++ encU M = x := ⟨_, rfl⟩
  rw [hE0] at hB hl0 hgz ⊢
  replace hE0 := Lib.hid hE0
  replace hB := Lib.hid hB
  replace hk1 := Lib.hid hk1
  replace t1 := Lib.hid t1
  replace hkc := Lib.hid hkc
  replace hgz := Lib.hid hgz
  clear hG d7 hlen0
  go_wp2_with fail
  refine hkc.out.mono ?_
  rintro e w2 ⟨v, rfl, hO1, hk2⟩
  obtain ⟨ka, kc, rfl⟩ := hO1.form
  rw [hkl.out]
  have hBb := hB.out.keep hk2
  obtain ⟨Z1, hZ1⟩ : ∃ z, w1.heap.size = z := ⟨_, rfl⟩
  obtain ⟨Z2, hZ2⟩ : ∃ z, w2.heap.size = z := ⟨_, rfl⟩
  have hkb : ∀ b, (Value.slice ka (keyL T).length kc).ownBlock = some b → Z1 ≤ b ∧ b < Z2 := fun b hb => ⟨by have := hO1.ge b hb; omega, by have := hO1.lt b hb; omega⟩
  have hbb : ∀ b, (Value.slice a1 E0.length c1).ownBlock = some b → b < Z1 ∨ Z2 ≤ b := fun b hb => .inl (by have := (World.ownsRow.lt hB.out b hb).2; omega)
  rw [hkl.out] at hkb
  replace hkb := Lib.hid hkb
  replace hbb := Lib.hid hbb
  replace hZ1 := Lib.hid hZ1
  have hZ3 := Lib.hid hZ2
  have hk02 := hk1.out.trans hk2
  have t2 := t1.out.keeps hk2
  have hg2 := hgz.out.then hk2
  have hz2 : B1 ≤ w2.heap.size := by have := hk2.size; omega
  replace hBb := Lib.hid hBb
  replace hk02 := Lib.hid hk02
  replace t2 := Lib.hid t2
  replace hO1 := Lib.hid hO1
  replace hg2 := Lib.hid hg2
  clear hB hk1 t1 hkc hk2 hgz hZ2
  go_wp2
  go_loopw [17, 3] (fun iv bv wr => ∃ k : Nat, iv = .int .i64 k ∧ k ≤ M ∧ Buf wr B1 bv (E0 ++ encL (T.take k)) ∧ Keeps [] w wr ∧ TM wr bt bm T ∧ shK.R wr (.slice ka M kc) (keyL T) ∧ B1 ≤ wr.heap.size ∧ Z2 ≤ wr.heap.size ∧ Hid (∀ b, bv.ownBlock = some b → b < Z1 ∨ Z2 ≤ b)) (fun iv _ _ => M - (intOf iv).toNat)
  case atStart => exact ⟨0, rfl, by omega, by simpa [encL] using hBb.out, hk02.out, t2.out, by rw [← hkl.out]; exact hO1.out.r, hz2, by have := hZ3.out; omega, hbb⟩
  case round =>
    obtain ⟨k, rfl, hk, hBr, hkw, tr, hkr, hzr, hZr, hsp⟩ := hrel
    obtain ⟨ba, bc, rfl⟩ := hBr.form
    by_cases hlt2 : k < M
    · have hkk : k < (keyL T).length := by rw [hkl.out]; exact hlt2
      have hkT : k < T.length := by rw [hM.out]; exact hlt2
      obtain ⟨g0, o0, c', hv, he⟩ := hkr.elem hkk
      rw [hkl.out] at hv
      cases hv
      obtain ⟨⟨⟨rcl, rn, rim, ris, ro, ri, rd, rtc, rwk, rgb, rlm, rls⟩, rh⟩, hr⟩ : ∃ r, T[k] = r := ⟨_, rfl⟩
      have hkey : (keyL T)[k] = (rcl, rn) := by simp [keyL, hr]
      rw [hkey] at he
      have e0 := he 0 _ rfl
      have e1 := he 1 _ rfl
      simp only [shK, Nat.add_zero] at e0 e1
      have hmem : ((⟨rcl, rn, rim, ris, ro, ri, rd, rtc, rwk, rgb, rlm, rls⟩, rh) : Rw) ∈ T := hr ▸ List.getElem_mem hkT
      have hfn : fnd (rcl, rn) T = some (⟨rcl, rn, rim, ris, ro, ri, rd, rtc, rwk, rgb, rlm, rls⟩, rh) := fnd_mem g.out.srt hmem
      obtain ⟨gcl, hnn, gim, gis, go, gi, gd, glm, gls, gh⟩ := g.out.num hmem
      simp only at gcl hnn gim gis go gi gd glm gls gh
      have hw0 : IntKind.u64.wrap rcl = rcl := by rw [IntKind.wrap_u64]; omega
      have hw1 : IntKind.u64.wrap ro = ro := by rw [IntKind.wrap_u64]; omega
      have hw2 : IntKind.u64.wrap ri = ri := by rw [IntKind.wrap_u64]; omega
      have hw3 : IntKind.u64.wrap rd = rd := by rw [IntKind.wrap_u64]; omega
      have hw4 : IntKind.u64.wrap rh = rh := by rw [IntKind.wrap_u64]; omega
      have hlk0 := tr.look1 (rcl, rn) (g.out.key hmem)
      rw [hfn] at hlk0
      simp only [rwV, kyV, Option.getD_some] at hlk0
      have hst : encL (T.take (k + 1)) = encL (T.take k) ++ encR (⟨rcl, rn, rim, ris, ro, ri, rd, rtc, rwk, rgb, rlm, rls⟩, rh) := by
        rw [List.take_succ_eq_append_getElem hkT, encL_snoc, hr]
      have hlD : (E0 ++ encL (T.take k)).length ≤ 9 + 100 * k := by
        have h1 := encL_len (S := T.take k) (fun r hr => g.out.num (List.mem_of_mem_take hr))
        rw [List.length_append]
        simp at h1
        omega
      have hkA : Keeps [] wr (wr.alloc (.cells #[.int .i64 rcl, .int .u64 rn] tK)) := (Keeps.refl _ _).alloc _
      have hbA := heap_alloc_new wr (.cells #[.int .i64 rcl, .int .u64 rn] tK)
      have hlk := fun (w' : World) (hb : w'.heap[bm]? = (wr.alloc (.cells #[.int .i64 rcl, .int .u64 rn] tK)).heap[bm]?) => hlk0 w' (hb.trans (hkA.block bm tr.lt.2 (by simp)))
      have d7 := (tr.keeps hkA).cell
      have hbl := (tr.keeps hkA).lt.2
      have hbt := (tr.keeps hkA).lt.1
      obtain ⟨q0, q1, _⟩ := cells2 hbA
      have hzA : (wr.alloc (.cells #[.int .i64 rcl, .int .u64 rn] tK)).heap.size = wr.heap.size + 1 := by simp
      have hblt : ∀ X, (Value.slice ba (E0 ++ encL (T.take k)).length bc).ownBlock = some X → X < wr.heap.size := fun X hX => (World.ownsRow.lt hBr X hX).2
      have hbge := ownBlock_ge hBr
      obtain ⟨D0, hD0⟩ : ∃ x, E0 ++ encL (T.take k) = x := ⟨_, rfl⟩
      rw [hD0] at hBr hlD hblt hbge hsp ⊢
      have hBr2 := hBr.keep hkA
      replace hlk := Lib.hid hlk
      replace hkw := Lib.hid hkw
      replace tr := Lib.hid tr
      replace hr := Lib.hid hr
      replace hst := Lib.hid hst
      replace hD0 := Lib.hid hD0
      replace hBr2 := Lib.hid hBr2
      replace hblt := Lib.hid hblt
      replace hkr := Lib.hid hkr
      replace hbge := Lib.hid hbge
      replace hkA := Lib.hid hkA
      clear he hlk0 hfn hmem hkey hbA hBr
      go_wp2
      obtain ⟨XK, hXK⟩ : ∃ X, wr.heap.size = X := ⟨_, rfl⟩
      try rw [hXK] at q0 q1 ⊢
      try rw [hXK] at hzA
      generalize hWA : wr.alloc (.cells #[.int .i64 rcl, .int .u64 rn] tK) = WA at *
      clear hWA
      refine Free.wp_region_chain (fun i => i == 6 || i == 7) (fun i => true) (fun j b => j = 7 ∧ WA.heap.size ≤ b) (by kernel_rfl) (by kernel_rfl) (by kernel_rfl) ?_
      (repeat (first | (apply Free.cw_pure rfl rfl; (intro w'; go_simp <;> exact rfl); go_frame) | (apply Free.cw_steady rfl rfl rfl; (intro w' hS2; have z0 := Free.sx_cell hS2 d7 (fun j hp hT => by have := hT.2; omega); have z1 := Free.sx_cell hS2 q0 (fun j hp hT => by obtain ⟨rfl, _⟩ := hT; exact absurd hp (by decide +kernel)); have z2 := Free.sx_cell hS2 q1 (fun j hp hT => by obtain ⟨rfl, _⟩ := hT; exact absurd hp (by decide +kernel)); have hlk2 := hlk.out w' (hS2.block bm hbl (fun ⟨_, _, _, hT⟩ => by omega)); go_simp <;> exact rfl); go_frame)))
      refine Free.cw_loud rfl rfl (fun K hK => ?_)
      go_wp2
      refine hK _ _ rfl (Free.KeepsP.alloc _ _ _) ?_
      clear hK K
      (repeat (apply Free.cw_pure rfl rfl; (intro w'; go_simp <;> exact rfl); go_frame))
      refine Free.cw_loud rfl rfl (fun K hK => ?_)
      go_wp2
      refine hK _ _ rfl (keepsP_remade (S := fun b => True ∧ WA.heap.size ≤ b) WA _ _ ⟨trivial, Nat.le_refl _⟩).drews ?_
      clear hK K
      refine Free.cw_nil ?_
      have hkB : Keeps [] WA ((WA.alloc (.cells #[.int .i64 rcl, .int .u64 rn, .int .i64 rim, .int .i64 ris, .int .i64 ro, .int .i64 ri, .int .i64 rd, .bool rtc, .bool rwk, .bool rgb, .int .i64 rlm, .int .i64 rls, .int .i64 rh] tRw)).drew) := ((Keeps.refl _ _).alloc _).drew
      have hbB := (drewHeap _ _).trans (heap_alloc_new WA (.cells #[.int .i64 rcl, .int .u64 rn, .int .i64 rim, .int .i64 ris, .int .i64 ro, .int .i64 ri, .int .i64 rd, .bool rtc, .bool rwk, .bool rgb, .int .i64 rlm, .int .i64 rls, .int .i64 rh] tRw))
      rw [hzA] at hbB
      have hB0 := Lib.hid (hBr2.out.keep hkB)
      have hg0 := Lib.hid (((GK.refl wr (.slice ba D0.length bc)).then hkA.out).then hkB)
      have hX0 := lt_of_blk hbB
      obtain ⟨XR, hXR⟩ : ∃ X, XK + 1 = X := ⟨_, rfl⟩
      rw [hXR] at hbB hX0
      have hz0 : B1 ≤ ((WA.alloc (.cells #[.int .i64 rcl, .int .u64 rn, .int .i64 rim, .int .i64 ris, .int .i64 ro, .int .i64 ri, .int .i64 rd, .bool rtc, .bool rwk, .bool rgb, .int .i64 rlm, .int .i64 rls, .int .i64 rh] tRw)).drew).heap.size := by have := hkB.size; omega
      have hne0 : (Value.slice ba D0.length bc).ownBlock ≠ some XR := fun e => by have := hblt.out XR e; omega
      try rw [hzA, hXR]
      try rw [hXR]
      generalize ((WA.alloc (.cells #[.int .i64 rcl, .int .u64 rn, .int .i64 rim, .int .i64 ris, .int .i64 ro, .int .i64 ri, .int .i64 rd, .bool rtc, .bool rwk, .bool rgb, .int .i64 rlm, .int .i64 rls, .int .i64 rh] tRw)).drew) = W0 at *
      have hrow0 := Lib.hid hbB
      obtain ⟨n0, n1, n2, n3, n4, n5, n6, n7, n8, n9, n10, n11, n12, _⟩ := cells13 hbB
      clear hlk q0 q1 d7 hbB hkB hBr2 hkA e0 e1 hbl hbt
      go_wp2_with fail
      refine (appU_i W0 B1 _ D0 rcl (by omega) (by omega) hB0.out (by omega) (by omega)).mono ?_
      rintro e W1 ⟨v1, rfl, hC, hG⟩
      replace hG := (GK.refl _ _).grw hG
      obtain ⟨hx, hne1⟩ := hG.blk hne0 hX0
      have hg1 := hg0.out.then2 hG
      have hX1 : XR < W1.heap.size := Nat.lt_of_lt_of_le hX0 hG.keeps.size
      have hz1 : B1 ≤ W1.heap.size := Nat.le_trans hz0 hG.keeps.size
      have hrow1 := Lib.hid (hx.trans hrow0.out)
      clear n0 n1 n2 n3 n4 n5 n6 n7 n8 n9 n10 n11 n12 hx hG hrow0
      obtain ⟨n0, n1, n2, n3, n4, n5, n6, n7, n8, n9, n10, n11, n12, _⟩ := cells13 hrow1.out
      obtain ⟨a1, c1, rfl⟩ := hC.form
      obtain ⟨D1, hD1⟩ : ∃ x, D0 ++ encU rcl.toNat = x := ⟨_, rfl⟩
      have hl1 : D1.length ≤ 9 + 100 * k + 18 := by rw [← hD1]; simp only [List.length_append]; have := encU_len (n := rcl.toNat) (by omega); omega
      rw [hD1] at hC hne1 hg1 ⊢
      have hB1 := Lib.hid hC
      replace hD1 := Lib.hid hD1
      replace hg1 := Lib.hid hg1
      clear hC hB0 hg0 hX0 hz0 hne0
      go_wp2_with fail
      refine (appU_c W1 B1 _ D1 rn hB1.out hnn (by omega) (by omega)).mono ?_
      rintro e W2 ⟨v2, rfl, hC, hG⟩
      replace hG := (GK.refl _ _).grw hG
      obtain ⟨hx, hne2⟩ := hG.blk hne1 hX1
      have hg2 := hg1.out.then2 hG
      have hX2 : XR < W2.heap.size := Nat.lt_of_lt_of_le hX1 hG.keeps.size
      have hz2 : B1 ≤ W2.heap.size := Nat.le_trans hz1 hG.keeps.size
      have hrow2 := Lib.hid (hx.trans hrow1.out)
      clear n0 n1 n2 n3 n4 n5 n6 n7 n8 n9 n10 n11 n12 hx hG hrow1
      obtain ⟨n0, n1, n2, n3, n4, n5, n6, n7, n8, n9, n10, n11, n12, _⟩ := cells13 hrow2.out
      obtain ⟨a2, c2, rfl⟩ := hC.form
      obtain ⟨D2, hD2⟩ : ∃ x, D1 ++ encU rn = x := ⟨_, rfl⟩
      have hl2 : D2.length ≤ 9 + 100 * k + 27 := by rw [← hD2]; simp only [List.length_append]; have := encU_len (n := rn) (by omega); omega
      rw [hD2] at hC hne2 hg2 ⊢
      have hB2 := Lib.hid hC
      replace hD2 := Lib.hid hD2
      replace hg2 := Lib.hid hg2
      clear hC hB1 hg1 hX1 hz1 hne1
      go_wp2_with fail
      refine (appID_c W2 B1 _ D2 rim ris (by omega) (by omega) hB2.out (by omega) (by omega)).mono ?_
      rintro e W3 ⟨v3, rfl, hC, hG⟩
      obtain ⟨hx, hne3⟩ := hG.blk hne2 hX2
      have hg3 := hg2.out.then2 hG
      have hX3 : XR < W3.heap.size := Nat.lt_of_lt_of_le hX2 hG.keeps.size
      have hz3 : B1 ≤ W3.heap.size := Nat.le_trans hz2 hG.keeps.size
      have hrow3 := Lib.hid (hx.trans hrow2.out)
      clear n0 n1 n2 n3 n4 n5 n6 n7 n8 n9 n10 n11 n12 hx hG hrow2
      obtain ⟨n0, n1, n2, n3, n4, n5, n6, n7, n8, n9, n10, n11, n12, _⟩ := cells13 hrow3.out
      obtain ⟨a3, c3, rfl⟩ := hC.form
      obtain ⟨D3, hD3⟩ : ∃ x, D2 ++ encU rim.toNat ++ encU ris.toNat = x := ⟨_, rfl⟩
      have hl3 : D3.length ≤ 9 + 100 * k + 45 := by rw [← hD3]; simp only [List.length_append]; have := encU_len (n := rim.toNat) (by omega); have := encU_len (n := ris.toNat) (by omega); omega
      rw [hD3] at hC hne3 hg3 ⊢
      have hB3 := Lib.hid hC
      replace hD3 := Lib.hid hD3
      replace hg3 := Lib.hid hg3
      clear hC hB2 hg2 hX2 hz2 hne2
      go_wp2_with fail
      refine (appU_i W3 B1 _ D3 ro (by omega) (by omega) hB3.out (by omega) (by omega)).mono ?_
      rintro e W4 ⟨v4, rfl, hC, hG⟩
      replace hG := (GK.refl _ _).grw hG
      obtain ⟨hx, hne4⟩ := hG.blk hne3 hX3
      have hg4 := hg3.out.then2 hG
      have hX4 : XR < W4.heap.size := Nat.lt_of_lt_of_le hX3 hG.keeps.size
      have hz4 : B1 ≤ W4.heap.size := Nat.le_trans hz3 hG.keeps.size
      have hrow4 := Lib.hid (hx.trans hrow3.out)
      clear n0 n1 n2 n3 n4 n5 n6 n7 n8 n9 n10 n11 n12 hx hG hrow3
      obtain ⟨n0, n1, n2, n3, n4, n5, n6, n7, n8, n9, n10, n11, n12, _⟩ := cells13 hrow4.out
      obtain ⟨a4, c4, rfl⟩ := hC.form
      obtain ⟨D4, hD4⟩ : ∃ x, D3 ++ encU ro.toNat = x := ⟨_, rfl⟩
      have hl4 : D4.length ≤ 9 + 100 * k + 54 := by rw [← hD4]; simp only [List.length_append]; have := encU_len (n := ro.toNat) (by omega); omega
      rw [hD4] at hC hne4 hg4 ⊢
      have hB4 := Lib.hid hC
      replace hD4 := Lib.hid hD4
      replace hg4 := Lib.hid hg4
      clear hC hB3 hg3 hX3 hz3 hne3
      go_wp2_with fail
      refine (appU_i W4 B1 _ D4 ri (by omega) (by omega) hB4.out (by omega) (by omega)).mono ?_
      rintro e W5 ⟨v5, rfl, hC, hG⟩
      replace hG := (GK.refl _ _).grw hG
      obtain ⟨hx, hne5⟩ := hG.blk hne4 hX4
      have hg5 := hg4.out.then2 hG
      have hX5 : XR < W5.heap.size := Nat.lt_of_lt_of_le hX4 hG.keeps.size
      have hz5 : B1 ≤ W5.heap.size := Nat.le_trans hz4 hG.keeps.size
      have hrow5 := Lib.hid (hx.trans hrow4.out)
      clear n0 n1 n2 n3 n4 n5 n6 n7 n8 n9 n10 n11 n12 hx hG hrow4
      obtain ⟨n0, n1, n2, n3, n4, n5, n6, n7, n8, n9, n10, n11, n12, _⟩ := cells13 hrow5.out
      obtain ⟨a5, c5, rfl⟩ := hC.form
      obtain ⟨D5, hD5⟩ : ∃ x, D4 ++ encU ri.toNat = x := ⟨_, rfl⟩
      have hl5 : D5.length ≤ 9 + 100 * k + 63 := by rw [← hD5]; simp only [List.length_append]; have := encU_len (n := ri.toNat) (by omega); omega
      rw [hD5] at hC hne5 hg5 ⊢
      have hB5 := Lib.hid hC
      replace hD5 := Lib.hid hD5
      replace hg5 := Lib.hid hg5
      clear hC hB4 hg4 hX4 hz4 hne4
      go_wp2_with fail
      refine (appU_i W5 B1 _ D5 rd (by omega) (by omega) hB5.out (by omega) (by omega)).mono ?_
      rintro e W6 ⟨v6, rfl, hC, hG⟩
      replace hG := (GK.refl _ _).grw hG
      obtain ⟨hx, hne6⟩ := hG.blk hne5 hX5
      have hg6 := hg5.out.then2 hG
      have hX6 : XR < W6.heap.size := Nat.lt_of_lt_of_le hX5 hG.keeps.size
      have hz6 : B1 ≤ W6.heap.size := Nat.le_trans hz5 hG.keeps.size
      have hrow6 := Lib.hid (hx.trans hrow5.out)
      clear n0 n1 n2 n3 n4 n5 n6 n7 n8 n9 n10 n11 n12 hx hG hrow5
      obtain ⟨n0, n1, n2, n3, n4, n5, n6, n7, n8, n9, n10, n11, n12, _⟩ := cells13 hrow6.out
      obtain ⟨a6, c6, rfl⟩ := hC.form
      obtain ⟨D6, hD6⟩ : ∃ x, D5 ++ encU rd.toNat = x := ⟨_, rfl⟩
      have hl6 : D6.length ≤ 9 + 100 * k + 72 := by rw [← hD6]; simp only [List.length_append]; have := encU_len (n := rd.toNat) (by omega); omega
      rw [hD6] at hC hne6 hg6 ⊢
      have hB6 := Lib.hid hC
      replace hD6 := Lib.hid hD6
      replace hg6 := Lib.hid hg6
      clear hC hB5 hg5 hX5 hz5 hne5
      go_wp2_with fail
      refine (appB_c W6 B1 _ D6 rtc hB6.out (by omega) (by omega)).mono ?_
      rintro e W7 ⟨v7, rfl, hC, hG⟩
      replace hG := (GK.refl _ _).grw hG
      obtain ⟨hx, hne7⟩ := hG.blk hne6 hX6
      have hg7 := hg6.out.then2 hG
      have hX7 : XR < W7.heap.size := Nat.lt_of_lt_of_le hX6 hG.keeps.size
      have hz7 : B1 ≤ W7.heap.size := Nat.le_trans hz6 hG.keeps.size
      have hrow7 := Lib.hid (hx.trans hrow6.out)
      clear n0 n1 n2 n3 n4 n5 n6 n7 n8 n9 n10 n11 n12 hx hG hrow6
      obtain ⟨n0, n1, n2, n3, n4, n5, n6, n7, n8, n9, n10, n11, n12, _⟩ := cells13 hrow7.out
      obtain ⟨a7, c7, rfl⟩ := hC.form
      obtain ⟨D7, hD7⟩ : ∃ x, D6 ++ encB rtc = x := ⟨_, rfl⟩
      have hl7 : D7.length ≤ 9 + 100 * k + 73 := by rw [← hD7]; simp only [List.length_append]; simp only [encB, List.length_singleton]; omega
      rw [hD7] at hC hne7 hg7 ⊢
      have hB7 := Lib.hid hC
      replace hD7 := Lib.hid hD7
      replace hg7 := Lib.hid hg7
      clear hC hB6 hg6 hX6 hz6 hne6
      go_wp2_with fail
      refine (appB_c W7 B1 _ D7 rwk hB7.out (by omega) (by omega)).mono ?_
      rintro e W8 ⟨v8, rfl, hC, hG⟩
      replace hG := (GK.refl _ _).grw hG
      obtain ⟨hx, hne8⟩ := hG.blk hne7 hX7
      have hg8 := hg7.out.then2 hG
      have hX8 : XR < W8.heap.size := Nat.lt_of_lt_of_le hX7 hG.keeps.size
      have hz8 : B1 ≤ W8.heap.size := Nat.le_trans hz7 hG.keeps.size
      have hrow8 := Lib.hid (hx.trans hrow7.out)
      clear n0 n1 n2 n3 n4 n5 n6 n7 n8 n9 n10 n11 n12 hx hG hrow7
      obtain ⟨n0, n1, n2, n3, n4, n5, n6, n7, n8, n9, n10, n11, n12, _⟩ := cells13 hrow8.out
      obtain ⟨a8, c8, rfl⟩ := hC.form
      obtain ⟨D8, hD8⟩ : ∃ x, D7 ++ encB rwk = x := ⟨_, rfl⟩
      have hl8 : D8.length ≤ 9 + 100 * k + 74 := by rw [← hD8]; simp only [List.length_append]; simp only [encB, List.length_singleton]; omega
      rw [hD8] at hC hne8 hg8 ⊢
      have hB8 := Lib.hid hC
      replace hD8 := Lib.hid hD8
      replace hg8 := Lib.hid hg8
      clear hC hB7 hg7 hX7 hz7 hne7
      go_wp2_with fail
      refine (appB_c W8 B1 _ D8 rgb hB8.out (by omega) (by omega)).mono ?_
      rintro e W9 ⟨v9, rfl, hC, hG⟩
      replace hG := (GK.refl _ _).grw hG
      obtain ⟨hx, hne9⟩ := hG.blk hne8 hX8
      have hg9 := hg8.out.then2 hG
      have hX9 : XR < W9.heap.size := Nat.lt_of_lt_of_le hX8 hG.keeps.size
      have hz9 : B1 ≤ W9.heap.size := Nat.le_trans hz8 hG.keeps.size
      have hrow9 := Lib.hid (hx.trans hrow8.out)
      clear n0 n1 n2 n3 n4 n5 n6 n7 n8 n9 n10 n11 n12 hx hG hrow8
      obtain ⟨n0, n1, n2, n3, n4, n5, n6, n7, n8, n9, n10, n11, n12, _⟩ := cells13 hrow9.out
      obtain ⟨a9, c9, rfl⟩ := hC.form
      obtain ⟨D9, hD9⟩ : ∃ x, D8 ++ encB rgb = x := ⟨_, rfl⟩
      have hl9 : D9.length ≤ 9 + 100 * k + 75 := by rw [← hD9]; simp only [List.length_append]; simp only [encB, List.length_singleton]; omega
      rw [hD9] at hC hne9 hg9 ⊢
      have hB9 := Lib.hid hC
      replace hD9 := Lib.hid hD9
      replace hg9 := Lib.hid hg9
      clear hC hB8 hg8 hX8 hz8 hne8
      go_wp2_with fail
      refine (appID_c W9 B1 _ D9 rlm rls (by omega) (by omega) hB9.out (by omega) (by omega)).mono ?_
      rintro e W10 ⟨v10, rfl, hC, hG⟩
      obtain ⟨hx, hne10⟩ := hG.blk hne9 hX9
      have hg10 := hg9.out.then2 hG
      have hX10 : XR < W10.heap.size := Nat.lt_of_lt_of_le hX9 hG.keeps.size
      have hz10 : B1 ≤ W10.heap.size := Nat.le_trans hz9 hG.keeps.size
      have hrow10 := Lib.hid (hx.trans hrow9.out)
      clear n0 n1 n2 n3 n4 n5 n6 n7 n8 n9 n10 n11 n12 hx hG hrow9
      obtain ⟨n0, n1, n2, n3, n4, n5, n6, n7, n8, n9, n10, n11, n12, _⟩ := cells13 hrow10.out
      obtain ⟨a10, c10, rfl⟩ := hC.form
      obtain ⟨D10, hD10⟩ : ∃ x, D9 ++ encU rlm.toNat ++ encU rls.toNat = x := ⟨_, rfl⟩
      have hl10 : D10.length ≤ 9 + 100 * k + 93 := by rw [← hD10]; simp only [List.length_append]; have := encU_len (n := rlm.toNat) (by omega); have := encU_len (n := rls.toNat) (by omega); omega
      rw [hD10] at hC hne10 hg10 ⊢
      have hB10 := Lib.hid hC
      replace hD10 := Lib.hid hD10
      replace hg10 := Lib.hid hg10
      clear hC hB9 hg9 hX9 hz9 hne9
      go_wp2_with fail
      refine (appU_i W10 B1 _ D10 rh (by omega) (by omega) hB10.out (by omega) (by omega)).mono ?_
      rintro e W11 ⟨v11, rfl, hC, hG⟩
      replace hG := (GK.refl _ _).grw hG
      obtain ⟨hx, hne11⟩ := hG.blk hne10 hX10
      have hg11 := hg10.out.then2 hG
      have hX11 : XR < W11.heap.size := Nat.lt_of_lt_of_le hX10 hG.keeps.size
      have hz11 : B1 ≤ W11.heap.size := Nat.le_trans hz10 hG.keeps.size
      have hrow11 := Lib.hid (hx.trans hrow10.out)
      clear n0 n1 n2 n3 n4 n5 n6 n7 n8 n9 n10 n11 n12 hx hG hrow10
      obtain ⟨n0, n1, n2, n3, n4, n5, n6, n7, n8, n9, n10, n11, n12, _⟩ := cells13 hrow11.out
      obtain ⟨a11, c11, rfl⟩ := hC.form
      obtain ⟨D11, hD11⟩ : ∃ x, D10 ++ encU rh.toNat = x := ⟨_, rfl⟩
      have hl11 : D11.length ≤ 9 + 100 * k + 102 := by rw [← hD11]; simp only [List.length_append]; have := encU_len (n := rh.toNat) (by omega); omega
      rw [hD11] at hC hne11 hg11 ⊢
      have hB11 := Lib.hid hC
      replace hD11 := Lib.hid hD11
      replace hg11 := Lib.hid hg11
      clear hC hB10 hg10 hX10 hz10 hne10
      have hEq : D11 = E0 ++ encL (T.take (k + 1)) := by
        rw [hst.out, ← List.append_assoc, hD0.out, ← hD11.out, ← hD10.out, ← hD9.out, ← hD8.out, ← hD7.out, ← hD6.out, ← hD5.out, ← hD4.out, ← hD3.out, ← hD2.out, ← hD1.out]
        simp only [encR, List.append_assoc]
      replace hEq := Lib.hid hEq
      have hsp9 : Hid (∀ b, (Value.slice a11 D11.length c11).ownBlock = some b → b < Z1 ∨ Z2 ≤ b) := by
        intro b hb
        rcases hg11.out.own with e | ⟨j, e, hj⟩
        · exact hsp.out b (by rw [← e]; exact hb)
        · rw [e] at hb; cases hb; exact .inr (by omega)
      have hk9 := hg11.out.nil hkw.out (fun b hb => by have := hbge.out b hb; omega)
      have hnb : ∀ b ∈ (Value.slice ba D0.length bc).ownBlock.toList, B1 ≤ b := fun b hb => hbge.out b (by simpa using hb)
      have t9 := tr.out.kept hg11.out.keeps (fun hm => by have := hnb _ hm; omega) (fun hm => by have := hnb _ hm; omega)
      have hr9 := hkr.out.keepS hg11.out.keeps (fun b hb e => by
        have h1 := hkb.out b e
        have h2 := hsp.out b (by simpa using hb)
        omega)
      have hz9 := hg11.out.keeps.size
      replace hk9 := Lib.hid hk9
      replace t9 := Lib.hid t9
      replace hr9 := Lib.hid hr9
      clear n0 n1 n2 n3 n4 n5 n6 n7 n8 n9 n10 n11 n12 hnb
      go_wp2
      go_roundw
      case rel => exact ⟨k + 1, rfl, by omega, by rw [← hEq.out]; exact hB11.out, hk9.out, t9.out, hr9.out, by omega, by omega, hsp9⟩
      case measure => simp [intOf]; omega
    · have hkM : k = M := by omega
      subst hkM
      rw [List.take_of_length_le (by have := hM.out; omega)] at hBr
      have hfin : E0 ++ encL T = encS T := by rw [← hE0.out]; unfold encS; rw [hM.out]; rfl
      replace hfin := Lib.hid hfin
      rw [List.take_of_length_le (by have := hM.out; omega)]
      replace hBr := Lib.hid hBr
      replace hkw := Lib.hid hkw
      replace tr := Lib.hid tr
      replace hkr := Lib.hid hkr
      obtain ⟨Df, hDf⟩ : ∃ x, E0 ++ encL T = x := ⟨_, rfl⟩
      rw [hDf] at hBr hfin ⊢
      clear hDf
      go_wp2
      go_ret
      exact ⟨_, rfl, by rw [← hfin.out]; exact hBr.out, hkw.out⟩
end Go.Proofs.YtblaaafpglomnaaGreat

namespace Go.Proofs.YtblaaafpglomnaaGreat
open Go Go.RowKit

abbrev wi (n : Nat) : Int := IntKind.i64.wrap (n : Int)
/-- A row is read. -/
structure RowRd (s0 : RS) (a b d e f k : Nat) (c j : Nat × Nat) (g h i : Bool) (s9 s : RS) : Prop where
  ex : ∃ s1 s2 s3 s4 s5 s6 s7 s8 s10, rU s0 = (a, s1) ∧ rU s1 = (b, s2) ∧ rI s2 = (c, s3) ∧ rU s3 = (d, s4) ∧ rU s4 = (e, s5) ∧ rU s5 = (f, s6) ∧ rB s6 = (g, s7) ∧ rB s7 = (h, s8) ∧ rB s8 = (i, s9) ∧ rI s9 = (j, s10) ∧ rU s10 = (k, s)
def rRow (s0 : RS) : Rw × RS :=
  ((⟨wi (rU s0).1, (rU (rU s0).2).1, (rI (rU (rU s0).2).2).1.1, (rI (rU (rU s0).2).2).1.2, wi (rU (rI (rU (rU s0).2).2).2).1, wi (rU (rU (rI (rU (rU s0).2).2).2).2).1, wi (rU (rU (rU (rI (rU (rU s0).2).2).2).2).2).1,
    (rB (rU (rU (rU (rI (rU (rU s0).2).2).2).2).2).2).1, (rB (rB (rU (rU (rU (rI (rU (rU s0).2).2).2).2).2).2).2).1, (rB (rB (rB (rU (rU (rU (rI (rU (rU s0).2).2).2).2).2).2).2).2).1,
    (rI (rB (rB (rB (rU (rU (rU (rI (rU (rU s0).2).2).2).2).2).2).2).2).2).1.1, (rI (rB (rB (rB (rU (rU (rU (rI (rU (rU s0).2).2).2).2).2).2).2).2).2).1.2⟩,
    wi (rU (rI (rB (rB (rB (rU (rU (rU (rI (rU (rU s0).2).2).2).2).2).2).2).2).2).2).1), (rU (rI (rB (rB (rB (rU (rU (rU (rI (rU (rU s0).2).2).2).2).2).2).2).2).2).2).2)
theorem rRow_eq {s0 s1 s2 s3 s4 s5 s6 s7 s8 s9 s10 s : RS} {a b d e f k : Nat} {c1 c2 j1 j2 : Nat} {g h i : Bool} (h1 : rU s0 = (a, s1)) (h2 : rU s1 = (b, s2)) (h3 : rI s2 = ((c1, c2), s3)) (h4 : rU s3 = (d, s4)) (h5 : rU s4 = (e, s5)) (h6 : rU s5 = (f, s6)) (h7 : rB s6 = (g, s7)) (h8 : rB s7 = (h, s8)) (h9 : rB s8 = (i, s9)) (h10 : rI s9 = ((j1, j2), s10)) (h11 : rU s10 = (k, s)) :
    rRow s0 = ((⟨wi a, b, c1, c2, wi d, wi e, wi f, g, h, i, j1, j2⟩, wi k), s) := by
  unfold rRow
  simp only [h1, h2, h3, h4, h5, h6, h7, h8, h9, h10, h11]
theorem rU_lt (s : RS) : (rU s).1 < 18446744073709551616 := by
  unfold rU
  split
  · split
    · rename_i x r h; exact readU_lt h
    · show (0 : Nat) < _; decide
  · show (0 : Nat) < _; decide
theorem rI_le (s : RS) : (rI s).1.1 ≤ 8 ∧ (rI s).1.2 ≤ 1099511627775 := by
  unfold rI
  split
  · split
    · rename_i h; unfold okID at h; have := of_decide_eq_true h; simp only; omega
    · simp
  · simp
theorem wi_w64 (n : Nat) : W64 (wi n) := by
  unfold W64 Lit.wf
  simp only [wi, IntKind.wrap, IntKind.min, IntKind.max, IntKind.signed, IntKind.bits]
  simp
  omega
theorem rRow_ok (s : RS) : (rRow s).1.1.ok ∧ W64 (rRow s).1.2 := by
  have h1 := fun s => rI_le s
  have h2 := fun s => rU_lt s
  have h3 := fun n => wi_w64 n
  refine ⟨⟨h3 _, h2 _, ?_, ?_, h3 _, h3 _, h3 _, ?_, ?_⟩, h3 _⟩ <;> (rw [w64_iff]; simp only [rRow])
  · have := (h1 (rU (rU s).2).2).1; omega
  · have := (h1 (rU (rU s).2).2).2; omega
  · have := (h1 (rB (rB (rB (rU (rU (rU (rI (rU (rU s).2).2).2).2).2).2).2).2).2).1; omega
  · have := (h1 (rB (rB (rB (rU (rU (rU (rI (rU (rU s).2).2).2).2).2).2).2).2).2).2; omega
def wd : Nat → Ky → RS → List Rw → Option (List Rw × RS)
  | 0, _, s, acc => some (acc, s)
  | n + 1, last, s, acc =>
    if acc ≠ [] ∧ ¬ klt last (rRow s).1.1.key then none
    else if (addS (rRow s).1.1 (rRow s).1.2 acc).1 ≠ 0 then none
    else wd n (rRow s).1.1.key (rRow s).2 (addS (rRow s).1.1 (rRow s).1.2 acc).2
theorem wd_succ (n : Nat) (last : Ky) (s : RS) (acc : List Rw) : wd (n + 1) last s acc = if acc ≠ [] ∧ ¬ klt last (rRow s).1.1.key then none
    else if (addS (rRow s).1.1 (rRow s).1.2 acc).1 ≠ 0 then none
    else wd n (rRow s).1.1.key (rRow s).2 (addS (rRow s).1.1 (rRow s).1.2 acc).2 := rfl
def outS : Option (List Rw × RS) → Option (List Rw)
  | none => none
  | some (L, s) => if doneE s.1 s.2 = 0 then some L else none
def sdec (l : List UInt8) : Option (List Rw) := outS (wd (rCK 1024 l).1 (0, 0) (rCK 1024 l).2 [])
/-- What has been read so far. -/
structure AccOk (last : Ky) (acc : List Rw) : Prop where
  good : Good acc
  lt : acc ≠ [] → ∀ r ∈ acc, r.1.key = last ∨ klt r.1.key last
theorem AccOk.nil : AccOk (0, 0) [] := ⟨Good.nil, fun h => absurd rfl h⟩
theorem addS_end {last : Ky} {acc : List Rw} (h : AccOk last acc) {e : En} {hd : Int} (hk : ¬ (acc ≠ [] ∧ ¬ klt last e.key)) (ha : (addS e hd acc).1 = 0) :
    (addS e hd acc).2 = acc ++ [(e, hd)] ∧ e.val = true ∧ 1 ≤ hd ∧ acc.length < 1024 := by
  unfold addS at ha ⊢
  split
  · rename_i h1; rw [if_pos h1] at ha; cases ha
  · rename_i h1
    rw [if_neg h1] at ha
    split
    · rename_i h2; rw [if_pos h2] at ha; cases ha
    · rename_i h2
      rw [if_neg h2] at ha
      split
      · rename_i h3; rw [if_pos h3] at ha; cases ha
      · rename_i h3
        refine ⟨ins_end _ _ (fun x hx => ?_), by cases hv : e.val <;> simp_all, by omega, by omega⟩
        have hne : acc ≠ [] := fun e => by rw [e] at hx; cases hx
        have hl : klt last e.key := Classical.byContradiction fun hh => hk ⟨hne, hh⟩
        rcases h.lt hne x hx with e1 | e1
        · show klt x.1.key e.key
          rw [e1]; exact hl
        · exact klt_trans e1 hl
theorem AccOk.step {last : Ky} {acc : List Rw} (h : AccOk last acc) {s : RS} (hk : ¬ (acc ≠ [] ∧ ¬ klt last (rRow s).1.1.key)) (ha : (addS (rRow s).1.1 (rRow s).1.2 acc).1 = 0) :
    AccOk (rRow s).1.1.key (addS (rRow s).1.1 (rRow s).1.2 acc).2 := by
  obtain ⟨h1, h2⟩ := rRow_ok s
  refine ⟨h.good.add h1 h2, fun _ r hr => ?_⟩
  rw [(addS_end h hk ha).1] at hr
  rcases List.mem_append.1 hr with hr | hr
  · have hne : acc ≠ [] := fun e => by rw [e] at hr; cases hr
    have hl : klt last (rRow s).1.1.key := Classical.byContradiction fun hh => hk ⟨hne, hh⟩
    rcases h.lt hne r hr with e1 | e1
    · rw [e1]; exact .inr hl
    · exact .inr (klt_trans e1 hl)
  · simp at hr; subst hr; exact .inl rfl
/-! ### the two round trips -/
theorem readU_encU' (n : Nat) (l : List UInt8) (h : n < 18446744073709551616) : readU (encU n ++ l) = some (n, l) := by
  have h8 := digs_len8 h
  have hk : (UInt8.ofNat (digs n).length).toNat = (digs n).length := by simp; omega
  have hd : ∀ n : Nat, 0 < n → ∃ b t, digs n = b :: t ∧ b ≠ 0 := fun n => by
    induction n using Nat.strongRecOn with
    | _ n ih =>
      intro h
      rw [digs_pos h]
      rcases Nat.eq_zero_or_pos (n / 256) with e | e
      · rw [e, digs_zero]
        refine ⟨UInt8.ofNat (n % 256), [], rfl, fun e0 => ?_⟩
        have := congrArg UInt8.toNat e0
        simp at this; omega
      · obtain ⟨b, t, h1, h2⟩ := ih (n / 256) (by omega) e
        exact ⟨b, t ++ [UInt8.ofNat (n % 256)], by rw [h1]; rfl, h2⟩
  have hhead : 0 < (digs n).length → (digs n ++ l).headD 1 ≠ 0 := fun hp => by
    rcases Nat.eq_zero_or_pos n with e | e
    · rw [e, digs_zero] at hp; simp at hp
    · obtain ⟨b, t, h1, h2⟩ := hd n e
      rw [h1]; simpa using h2
  simp only [encU, List.cons_append, readU, hk]
  rw [if_pos ⟨h8, by simp, hhead⟩]
  simp [valU_digs]
theorem rU_enc (n : Nat) (l : List UInt8) (h : n < 18446744073709551616) : rU (encU n ++ l, 0) = (n, (l, 0)) := by unfold rU; rw [if_pos rfl]; simp only [readU_encU' n l h]
theorem rB_enc (b : Bool) (l : List UInt8) : rB (encB b ++ l, 0) = (b, (l, 0)) := by
  have : readB (encB b ++ l) = some (b, l) := by
    cases b
    · show (if (0 : UInt8).toNat ≤ 1 then some ((0 : UInt8).toNat == 1, l) else none) = _
      rw [if_pos (by decide)]; rfl
    · show (if (1 : UInt8).toNat ≤ 1 then some ((1 : UInt8).toNat == 1, l) else none) = _
      rw [if_pos (by decide)]; rfl
  unfold rB; rw [if_pos rfl]; simp only [this]
theorem rI_enc (m s : Nat) (l : List UInt8) (h : okID m s = true) : rI (encU m ++ (encU s ++ l), 0) = ((m, s), (l, 0)) := by
  have hm : m < 18446744073709551616 ∧ s < 18446744073709551616 := by unfold okID at h; have := of_decide_eq_true h; omega
  unfold rI
  rw [rU_enc m _ hm.1]
  simp only
  rw [rU_enc s l hm.2]
  simp only [h, if_true]
theorem wi_in {n : Nat} (h : n < 9223372036854775808) : wi n = n := IntWalk.i64_in _ (by omega)
theorem okID_of {m s : Int} (h : oID m s = true) : okID m.toNat s.toNat = true := by
  rw [oID_iff] at h
  unfold okID
  exact decide_eq_true (by omega)
theorem row_enc {r : Rw} (hv : r.1.val = true) (hn : RwN r) (l : List UInt8) : rRow (encR r ++ l, 0) = (r, (l, 0)) := by
  obtain ⟨⟨cl, n, im, is, o, i, d, tc, wk, gb, lm, ls⟩, h⟩ := r
  obtain ⟨g1, g2, g3, g4, g5, g6, g7, g8, g9, g10⟩ := hn
  obtain ⟨v1, v2, v3, v4, v5, v6⟩ := val_iff.1 hv
  simp only at g1 g2 g3 g4 g5 g6 g7 g8 g9 g10 v1 v2 v3 v4 v5 v6
  have e0 : encR (⟨cl, n, im, is, o, i, d, tc, wk, gb, lm, ls⟩, h) ++ l = encU cl.toNat ++ (encU n ++ (encU im.toNat ++ (encU is.toNat ++ (encU o.toNat ++ (encU i.toNat ++ (encU d.toNat ++ (encB tc ++ (encB wk ++ (encB gb ++ (encU lm.toNat ++ (encU ls.toNat ++ (encU h.toNat ++ l)))))))))))) := by
    simp only [encR, List.append_assoc]
  rw [e0, rRow_eq (rU_enc _ _ (by omega)) (rU_enc _ _ g2) (rI_enc _ _ _ (okID_of v2)) (rU_enc _ _ (by omega)) (rU_enc _ _ (by omega)) (rU_enc _ _ (by omega)) (rB_enc _ _) (rB_enc _ _) (rB_enc _ _) (rI_enc _ _ _ (okID_of v6)) (rU_enc _ _ (by omega))]
  rw [wi_in (by omega), wi_in (by omega), wi_in (by omega), wi_in (by omega), wi_in (by omega)]
  simp only [Prod.mk.injEq, En.mk.injEq, and_true, true_and]
  omega
theorem addS_app {acc : List Rw} {e : En} {hd : Int} (hv : e.val = true) (hh : 1 ≤ hd) (hlt : ∀ x ∈ acc, klt x.1.key e.key) (hl : acc.length < 1024) : addS e hd acc = (0, acc ++ [(e, hd)]) := by
  unfold addS
  rw [if_neg (by rw [hv]; simp; omega), if_neg, if_neg (by omega), ins_end _ _ hlt]
  rw [show fnd e.key acc = none from fnd_none.2 (fun r hr => klt_ne (hlt r hr))]
  simp
theorem wd_enc : ∀ (T acc : List Rw) (last : Ky), (∀ r ∈ T, r.1.val = true ∧ 1 ≤ r.2 ∧ RwN r) → SortedS (acc ++ T) → acc.length + T.length ≤ 1024 → (acc ≠ [] → ∃ r ∈ acc, last = r.1.key) → wd T.length last (encL T, 0) acc = some (acc ++ T, ([], 0))
  | [], acc, last, _, _, _, _ => by simp [wd, encL]
  | r :: T, acc, last, hr, hs, hl, hla => by
    obtain ⟨h1, h2, h3⟩ := hr r (by simp)
    have hss := List.pairwise_append.1 hs
    have hlt : ∀ x ∈ acc, klt x.1.key r.1.key := fun x hx => hss.2.2 x hx r (by simp)
    have hadd := addS_app (acc := acc) h1 h2 hlt (by simp at hl; omega)
    rw [encL_cons, List.length_cons, wd_succ, row_enc h1 h3]
    simp only
    rw [if_neg (fun hh => hh.2 (by obtain ⟨x, hx, e⟩ := hla hh.1; rw [e]; exact hlt x hx))]
    have hadd' : addS r.1 r.2 acc = (0, acc ++ [r]) := hadd
    rw [hadd']
    simp only [ne_eq, not_true_eq_false, if_false]
    rw [wd_enc T (acc ++ [r]) _ (fun q hq => hr q (by simp [hq])) (by simpa using hs) (by simp at hl ⊢; omega) (fun _ => ⟨r, by simp, rfl⟩)]
    simp
theorem encR_pos (r : Rw) : 1 ≤ (encR r).length := by
  simp only [encR, List.length_append, encB_len]; omega
theorem encL_ge : ∀ (L : List Rw), L.length ≤ (encL L).length
  | [] => by simp
  | r :: t => by
    have := encL_ge t
    have := encR_pos r
    rw [encL_cons, List.length_append, List.length_cons]; omega
/-- What is encoded is decoded. -/
theorem enc_dec {S : List Rw} (g : Good S) : sdec (encS S) = some S := by
  have hl := g.len
  have hr : readU (encS S) = some (S.length, encL S) := readU_encU' _ _ (by omega)
  have hc : rCK 1024 (encS S) = (S.length, (encL S, 0)) := by
    have hcE : cEK 1024 S.length (encL S) = 0 := by
      unfold cEK
      rw [if_neg (by omega), if_neg (by have := encL_ge S; omega)]
    unfold rCK
    simp only [hr]
    rw [if_pos hcE]
  unfold sdec
  rw [hc]
  have := wd_enc S [] (0, 0) (fun r hr => ⟨(g.ok r hr).2.1, (g.ok r hr).2.2.1, g.num hr⟩) (by simpa using g.srt) (by simpa using hl) (fun h => absurd rfl h)
  show outS (wd S.length (0, 0) (encL S, 0) []) = _
  rw [this]; rfl
end Go.Proofs.YtblaaafpglomnaaGreat

namespace Go.Proofs.YtblaaafpglomnaaGreat
open Go Go.RowKit

theorem RdS.keepN {w w' : World} {br : Nat} {s : RS} {S : List Nat} (h : RdS w br s) (hk : Keeps S w w') (hbr : br ∉ S) (hS : ∀ b ∈ S, ∀ o, w.cell? ⟨b, o, none⟩ = none) : RdS w' br s := by
  obtain ⟨v, h⟩ := h
  refine ⟨v, (hk.block br (cell2_of h.1).2.2.2.2 hbr).trans h.1, ?_⟩
  exact Sl.keep h.2 fun b o hb => by
    by_cases e : b ∈ S
    · exact .inr (hS b e o)
    · exact .inl (hk.cell b o hb e)
theorem keeps_grow (w : World) (q : Nat) (os : Array Obj) : Keeps [] w (Sort.grow (w.drewN q) os) := by
  refine ⟨rfl, rfl, rfl, ?_, fun k hk _ => ?_⟩
  · simp [Sort.grow]
  · simp only [Sort.grow]
    rw [Array.getElem?_append_left (by simpa using hk)]
    rfl
theorem RdS.kb {w w' : World} {br : Nat} {s : RS} (h : RdS w br s) (hb : w'.heap[br]? = w.heap[br]?) (hk : KB w w') : RdS w' br s := by
  obtain ⟨v, h⟩ := h
  exact ⟨v, hb.trans h.1, h.2.kb hk⟩
def DecPost (w : World) (d : Option (List Rw)) (e : Ending) (w' : World) : Prop :=
  (d = none ∧ e = .returned (.tuple #[.pointer none, .int .i64 11]) ∧ Keeps [] w w') ∨
  (∃ S bt bm, d = some S ∧ e = .returned (.tuple #[.pointer (some ⟨bt, 0, none⟩), .int .i64 0]) ∧ TM w' bt bm S ∧ Good S ∧ Keeps [] w w' ∧ w.heap.size ≤ bt ∧ w.heap.size ≤ bm)
set_option maxRecDepth 100000 in
set_option maxHeartbeats 10000000 in
theorem decode_c (w : World) (v0 : Value) (l : List UInt8) (h : SlB w v0 l) (hl : l.length ≤ 140737488355328) :
    Calls Tryz.prog 7 #[v0] w (DecPost w (sdec l)) := by
  have hN := rCK_le 1024 l
  obtain ⟨a0, c0, rfl⟩ := h.form
  replace h := Lib.hid h
  go_enter Tryz.func7, Tryz.ntmps7
  go_wp2_with fail
  refine (new_c w).mono ?_
  rintro e w1 ⟨bt, bm, rfl, t1, hk1, hbt, hbm⟩
  have h1 := h.out.keeps hk1
  have hlt1 := t1.lt
  replace t1 := Lib.hid t1
  go_wp2_with fail
  refine (newReader_c w1 _ l h1 hl).mono ?_
  rintro e w2 ⟨br, v1, rfl, hbr, hR2, hk2⟩
  have hR2 : RdS w2 br (l, 0) := ⟨v1, hR2⟩
  have hbrl := hR2.lt
  have t2 := t1.out.keeps hk2
  replace hk2 := hk1.trans hk2
  have hne1 : br ≠ bt := by omega
  have hne2 : br ≠ bm := by omega
  -- the block of the last key
  have hkL : Keeps [] w2 (w2.alloc (.cells #[.int .i64 0, .int .u64 0] tK)) := (Keeps.refl _ _).alloc _
  have hbL := heap_alloc_new w2 (.cells #[.int .i64 0, .int .u64 0] tK)
  obtain ⟨X, hX⟩ : ∃ X, w2.heap.size = X := ⟨_, rfl⟩
  have hzL : (w2.alloc (.cells #[.int .i64 0, .int .u64 0] tK)).heap.size = X + 1 := by simp [hX]
  rw [hX] at hbL hbrl
  have hR2L := hR2.keeps hkL
  have t2L := t2.keeps hkL
  have hk2L := hk2.trans hkL
  have htX : bt < X ∧ bm < X := by have := t2.lt; omega
  replace hR2L := Lib.hid hR2L
  replace t2L := Lib.hid t2L
  replace hk2L := Lib.hid hk2L
  replace hbL := Lib.hid hbL
  clear hk1 h1 t1 hR2 t2 hk2 hkL
  go_wp2_with fail
  refine (countG_c 1024 (by omega) _ br l hR2L.out).mono ?_
  rintro e w3 ⟨rfl, hR3, hk3⟩
  have t3 := t2L.out.kept hk3 (by simp; omega) (by simp; omega)
  have hb3 := (hk3.block X (by omega) (by simp; omega)).trans hbL.out
  have hz3 := hk3.size
  replace hk3 := hk2L.out.fresh hk3 (fun b hb => .inr (by simp at hb; omega))
  obtain ⟨N, hNe⟩ : ∃ N, (rCK 1024 l).1 = N := ⟨_, rfl⟩
  obtain ⟨sI, hsI⟩ : ∃ s, (rCK 1024 l).2 = s := ⟨_, rfl⟩
  rw [hNe] at hN ⊢
  rw [hsI] at hR3
  have hwd : sdec l = outS (wd N (0, 0) sI []) := by unfold sdec; rw [hNe, hsI]
  rw [hzL] at hz3
  replace hwd := Lib.hid hwd
  replace hR3 := Lib.hid hR3
  replace t3 := Lib.hid t3
  replace hb3 := Lib.hid hb3
  replace hk3 := Lib.hid hk3
  clear hNe hsI hR2L t2L hk2L hbL hzL
  go_wp2
  go_loopw [16] (fun iv wr => ∃ (k : Nat) (last : Ky) (s : RS) (acc : List Rw), iv = .int .i64 k ∧ k ≤ N ∧ RdS wr br s ∧ TM wr bt bm acc ∧ Hid (wd N (0, 0) sI [] = wd (N - k) last s acc) ∧ Hid (AccOk last acc) ∧ wr.heap[X]? = some (.cells #[.int .i64 last.1, .int .u64 last.2] tK (0, 0)) ∧ Keeps [] w wr) (fun iv _ => N - (intOf iv).toNat)
  case atStart => exact ⟨0, (0, 0), sI, [], rfl, by omega, hR3.out, t3.out, rfl, AccOk.nil, hb3.out, hk3.out⟩
  case round =>
    obtain ⟨k, last, s0, acc, rfl, hk, hRr, tr, heq, hacc, hbX, hkr⟩ := hrel
    have hXl := lt_of_blk hbX
    by_cases hlt : k < N
    · have hsucc : N - k = (N - (k + 1)) + 1 := by omega
      rw [hsucc] at heq
      have hR0 := Lib.hid hRr
      have hK0 := Lib.hid (Keeps.refl [br] wr)
      replace tr := Lib.hid tr
      replace hbX := Lib.hid hbX
      replace hkr := Lib.hid hkr
      clear hRr hsucc
      generalize hV0 : wr = V0 at hR0
      subst hV0
      go_wp2_with fail
      refine (uintS_c wr br s0 hR0.out).mono ?_
      rintro e V1 ⟨rfl, hRn, hkn⟩
      have hK1 := Lib.hid (hK0.out.trans hkn)
      obtain ⟨xa, hxa⟩ : ∃ n, (rU s0).1 = n := ⟨_, rfl⟩
      obtain ⟨s1, hs1⟩ : ∃ n, (rU s0).2 = n := ⟨_, rfl⟩
      have hq0 : rU s0 = (xa, s1) := by rw [← hxa, ← hs1]
      rw [hxa]
      rw [hs1] at hRn
      have hR1 := Lib.hid hRn
      replace hq0 := Lib.hid hq0
      clear hRn hkn hR0 hK0 hxa hs1
      obtain ⟨ya, hva⟩ : ∃ z, IntKind.i64.wrap (xa : Int) = z := ⟨_, rfl⟩
      go_wp2_with fail
      refine (uintS_c V1 br s1 hR1.out).mono ?_
      rintro e V2 ⟨rfl, hRn, hkn⟩
      have hK2 := Lib.hid (hK1.out.trans hkn)
      obtain ⟨xb, hxb⟩ : ∃ n, (rU s1).1 = n := ⟨_, rfl⟩
      obtain ⟨s2, hs2⟩ : ∃ n, (rU s1).2 = n := ⟨_, rfl⟩
      have hq1 : rU s1 = (xb, s2) := by rw [← hxb, ← hs2]
      rw [hxb]
      rw [hs2] at hRn
      have hR2 := Lib.hid hRn
      replace hq1 := Lib.hid hq1
      clear hRn hkn hR1 hK1 hxb hs2
      go_wp2_with fail
      refine (id_c V2 br s2 hR2.out).mono ?_
      rintro e V3 ⟨rfl, hRn, hkn⟩
      have hK3 := Lib.hid (hK2.out.trans hkn)
      obtain ⟨⟨xc1, xc2⟩, hxc⟩ : ∃ n, (rI s2).1 = n := ⟨_, rfl⟩
      obtain ⟨s3, hs3⟩ : ∃ n, (rI s2).2 = n := ⟨_, rfl⟩
      have hq2 : rI s2 = ((xc1, xc2), s3) := by rw [← hxc, ← hs3]
      rw [hxc]
      rw [hs3] at hRn
      have hR3 := Lib.hid hRn
      replace hq2 := Lib.hid hq2
      clear hRn hkn hR2 hK2 hxc hs3
      simp only [idV]
      go_wp2_with fail
      refine (uintS_c V3 br s3 hR3.out).mono ?_
      rintro e V4 ⟨rfl, hRn, hkn⟩
      have hK4 := Lib.hid (hK3.out.trans hkn)
      obtain ⟨xd, hxd⟩ : ∃ n, (rU s3).1 = n := ⟨_, rfl⟩
      obtain ⟨s4, hs4⟩ : ∃ n, (rU s3).2 = n := ⟨_, rfl⟩
      have hq3 : rU s3 = (xd, s4) := by rw [← hxd, ← hs4]
      rw [hxd]
      rw [hs4] at hRn
      have hR4 := Lib.hid hRn
      replace hq3 := Lib.hid hq3
      clear hRn hkn hR3 hK3 hxd hs4
      obtain ⟨yd, hvd⟩ : ∃ z, IntKind.i64.wrap (xd : Int) = z := ⟨_, rfl⟩
      go_wp2_with fail
      refine (uintS_c V4 br s4 hR4.out).mono ?_
      rintro e V5 ⟨rfl, hRn, hkn⟩
      have hK5 := Lib.hid (hK4.out.trans hkn)
      obtain ⟨xe, hxe⟩ : ∃ n, (rU s4).1 = n := ⟨_, rfl⟩
      obtain ⟨s5, hs5⟩ : ∃ n, (rU s4).2 = n := ⟨_, rfl⟩
      have hq4 : rU s4 = (xe, s5) := by rw [← hxe, ← hs5]
      rw [hxe]
      rw [hs5] at hRn
      have hR5 := Lib.hid hRn
      replace hq4 := Lib.hid hq4
      clear hRn hkn hR4 hK4 hxe hs5
      obtain ⟨ye, hve⟩ : ∃ z, IntKind.i64.wrap (xe : Int) = z := ⟨_, rfl⟩
      go_wp2_with fail
      refine (uintS_c V5 br s5 hR5.out).mono ?_
      rintro e V6 ⟨rfl, hRn, hkn⟩
      have hK6 := Lib.hid (hK5.out.trans hkn)
      obtain ⟨xf, hxf⟩ : ∃ n, (rU s5).1 = n := ⟨_, rfl⟩
      obtain ⟨s6, hs6⟩ : ∃ n, (rU s5).2 = n := ⟨_, rfl⟩
      have hq5 : rU s5 = (xf, s6) := by rw [← hxf, ← hs6]
      rw [hxf]
      rw [hs6] at hRn
      have hR6 := Lib.hid hRn
      replace hq5 := Lib.hid hq5
      clear hRn hkn hR5 hK5 hxf hs6
      obtain ⟨yf, hvf⟩ : ∃ z, IntKind.i64.wrap (xf : Int) = z := ⟨_, rfl⟩
      go_wp2_with fail
      refine (boolS_c V6 br s6 hR6.out).mono ?_
      rintro e V7 ⟨rfl, hRn, hkn⟩
      have hK7 := Lib.hid (hK6.out.trans hkn)
      obtain ⟨xg, hxg⟩ : ∃ n, (rB s6).1 = n := ⟨_, rfl⟩
      obtain ⟨s7, hs7⟩ : ∃ n, (rB s6).2 = n := ⟨_, rfl⟩
      have hq6 : rB s6 = (xg, s7) := by rw [← hxg, ← hs7]
      rw [hxg]
      rw [hs7] at hRn
      have hR7 := Lib.hid hRn
      replace hq6 := Lib.hid hq6
      clear hRn hkn hR6 hK6 hxg hs7
      go_wp2_with fail
      refine (boolS_c V7 br s7 hR7.out).mono ?_
      rintro e V8 ⟨rfl, hRn, hkn⟩
      have hK8 := Lib.hid (hK7.out.trans hkn)
      obtain ⟨xh, hxh⟩ : ∃ n, (rB s7).1 = n := ⟨_, rfl⟩
      obtain ⟨s8, hs8⟩ : ∃ n, (rB s7).2 = n := ⟨_, rfl⟩
      have hq7 : rB s7 = (xh, s8) := by rw [← hxh, ← hs8]
      rw [hxh]
      rw [hs8] at hRn
      have hR8 := Lib.hid hRn
      replace hq7 := Lib.hid hq7
      clear hRn hkn hR7 hK7 hxh hs8
      go_wp2_with fail
      refine (boolS_c V8 br s8 hR8.out).mono ?_
      rintro e V9 ⟨rfl, hRn, hkn⟩
      have hK9 := Lib.hid (hK8.out.trans hkn)
      obtain ⟨xi, hxi⟩ : ∃ n, (rB s8).1 = n := ⟨_, rfl⟩
      obtain ⟨s9, hs9⟩ : ∃ n, (rB s8).2 = n := ⟨_, rfl⟩
      have hq8 : rB s8 = (xi, s9) := by rw [← hxi, ← hs9]
      rw [hxi]
      rw [hs9] at hRn
      have hR9 := Lib.hid hRn
      replace hq8 := Lib.hid hq8
      clear hRn hkn hR8 hK8 hxi hs9
      have hkE : Keeps [] V9 (V9.alloc (.cells #[.int .i64 ya, .int .u64 xb, .int .i64 xc1, .int .i64 xc2, .int .i64 yd, .int .i64 ye, .int .i64 yf, .bool xg, .bool xh, .bool xi, .int .i64 0, .int .i64 0] tE)) := (Keeps.refl _ _).alloc _
      have hbE0 := heap_alloc_new V9 (.cells #[.int .i64 ya, .int .u64 xb, .int .i64 xc1, .int .i64 xc2, .int .i64 yd, .int .i64 ye, .int .i64 yf, .bool xg, .bool xh, .bool xi, .int .i64 0, .int .i64 0] tE)
      obtain ⟨E, hE⟩ : ∃ E, V9.heap.size = E := ⟨_, rfl⟩
      have hzE : (V9.alloc (.cells #[.int .i64 ya, .int .u64 xb, .int .i64 xc1, .int .i64 xc2, .int .i64 yd, .int .i64 ye, .int .i64 yf, .bool xg, .bool xh, .bool xi, .int .i64 0, .int .i64 0] tE)).heap.size = E + 1 := by simp [hE]
      have hzr := hK9.out.size
      have hR9E := hR9.out.keeps hkE
      have hK9E := hK9.out.trans hkE.of_nil
      have hneE : br ≠ E ∧ X < E ∧ br < E := by omega
      rw [hE] at hbE0
      replace hR9E := Lib.hid hR9E
      replace hK9E := Lib.hid hK9E
      replace hbE0 := Lib.hid hbE0
      clear hkE hR9 hK9
      go_wp2_with fail
      refine (id_c _ br s9 hR9E.out).mono ?_
      rintro e V10 ⟨rfl, hRn, hkn⟩
      have hbE := (hkn.block E (by omega) (by simp; omega)).trans hbE0.out
      have hK10 := hK9E.out.trans hkn
      have hz10 := hkn.size
      rw [hzE] at hz10
      obtain ⟨⟨xj1, xj2⟩, hxj⟩ : ∃ n, (rI s9).1 = n := ⟨_, rfl⟩
      obtain ⟨s10, hs10⟩ : ∃ n, (rI s9).2 = n := ⟨_, rfl⟩
      have hq9 : rI s9 = ((xj1, xj2), s10) := by rw [← hxj, ← hs10]
      rw [hxj]
      rw [hs10] at hRn
      simp only [idV]
      obtain ⟨m0, m1, m2, m3, m4, m5, m6, m7, m8, m9, m10, m11, _⟩ := cells12 hbE
      have hfE := frz hbE
      replace hRn := Lib.hid hRn
      replace hK10 := Lib.hid hK10
      replace hbE := Lib.hid hbE
      replace hq9 := Lib.hid hq9
      clear hkn hxj hs10 hR9E hK9E hbE0 hzE
      have hbs : ((V10.setCell ⟨E, 10, none⟩ (.int .i64 xj1)).setCell ⟨E, 11, none⟩ (.int .i64 xj2)).heap[E]? = some (.cells #[.int .i64 ya, .int .u64 xb, .int .i64 xc1, .int .i64 xc2, .int .i64 yd, .int .i64 ye, .int .i64 yf, .bool xg, .bool xh, .bool xi, .int .i64 xj1, .int .i64 xj2] tE (0, 0)) := by
        have := setCs (setCs hbE.out 10 (.int .i64 xj1)) 11 (.int .i64 xj2)
        simpa using this
      have m11' : (V10.setCell ⟨E, 10, none⟩ (.int .i64 xj1)).cell? ⟨E, 11, none⟩ = some (.int .i64 0) := by
        have := setCs hbE.out 10 (.int .i64 xj1)
        have h2 : (V10.setCell ⟨E, 10, none⟩ (.int .i64 xj1)).heap[E]? = some (.cells #[.int .i64 ya, .int .u64 xb, .int .i64 xc1, .int .i64 xc2, .int .i64 yd, .int .i64 ye, .int .i64 yf, .bool xg, .bool xh, .bool xi, .int .i64 xj1, .int .i64 0] tE (0, 0)) := by simpa using this
        obtain ⟨_, _, _, _, _, _, _, _, _, _, _, h3, _⟩ := cells12 h2
        exact h3
      have hRs := hRn.out.kb (w' := (V10.setCell ⟨E, 10, none⟩ (.int .i64 xj1)).setCell ⟨E, 11, none⟩ (.int .i64 xj2)) ((setO hneE.1 11 _).trans (setO hneE.1 10 _)) ((KB.setCell V10 _ m10 (by simp)).trans (KB.setCell _ _ m11' (by simp)))
      have hKs := (hK10.out.setCell (p := ⟨E, 10, none⟩) (.inl (by show _ ≤ E; omega)) (.int .i64 xj1)).setCell (p := ⟨E, 11, none⟩) (.inl (by show _ ≤ E; omega)) (.int .i64 xj2)
      have hkl : Keeps [] ((V10.setCell ⟨E, 10, none⟩ (.int .i64 xj1)).setCell ⟨E, 11, none⟩ (.int .i64 xj2)) (((V10.setCell ⟨E, 10, none⟩ (.int .i64 xj1)).setCell ⟨E, 11, none⟩ (.int .i64 xj2)).alloc (.cells #[.int .i64 xj1, .int .i64 xj2] tID)) := (Keeps.refl _ _).alloc _
      have hR11 := hRs.keeps hkl
      have hK11 := hKs.trans hkl.of_nil
      have hbE11 := (hkl.block E (lt_of_blk hbs) (by simp)).trans hbs
      replace hR11 := Lib.hid hR11
      replace hK11 := Lib.hid hK11
      replace hbE11 := Lib.hid hbE11
      clear hbs m11' hRs hKs hkl hRn hK10 hbE
      go_wp2_with fail
      refine (uintS_c _ br s10 hR11.out).mono ?_
      rintro e V12 ⟨rfl, hR12, hkn⟩
      have hbE12 := (hkn.block E (lt_of_blk hbE11.out) (by simp; omega)).trans hbE11.out
      have hK12 := hK11.out.trans hkn
      obtain ⟨xk, hxk⟩ : ∃ n, (rU s10).1 = n := ⟨_, rfl⟩
      obtain ⟨s11, hs11⟩ : ∃ n, (rU s10).2 = n := ⟨_, rfl⟩
      have hq10 : rU s10 = (xk, s11) := by rw [← hxk, ← hs11]
      rw [hxk]
      rw [hs11] at hR12
      obtain ⟨yk, hvk⟩ : ∃ z, IntKind.i64.wrap (xk : Int) = z := ⟨_, rfl⟩
      have hrow : rRow s0 = (((⟨ya, xb, xc1, xc2, yd, ye, yf, xg, xh, xi, xj1, xj2⟩ : En), yk), s11) := by
        have := rRow_eq hq0.out hq1.out hq2.out hq3.out hq4.out hq5.out hq6.out hq7.out hq8.out hq9.out hq10
        rw [this]
        simp only [wi, hva, hvd, hve, hvf, hvk]
      have t12 := tr.out.kept hK12 (by simp; omega) (by simp; omega)
      have hbX12 := (hK12.block X (by omega) (by simp; omega)).trans hbX.out
      obtain ⟨rok1, rok2⟩ := rRow_ok s0
      rw [hrow] at rok1 rok2
      simp only at rok1 rok2
      have gl := hacc.out.good.len
      have d7 := t12.cell
      have hnb := t12.ne
      have hbl := t12.lt.2
      have hlen := fun (w' : World) (hb : w'.heap[bm]? = V12.heap[bm]?) => t12.len 3 w' hb
      obtain ⟨e0, e1, e2, e3, e4, e5, e6, e7, e8, e9, e10, e11, _⟩ := cells12 hbE12
      obtain ⟨x0, x1, _⟩ := cells2 hbX12
      have hEm : E ≠ bm := by omega
      have hXm : X ≠ bm := by omega
      obtain ⟨NA, hNA⟩ : ∃ n, acc.length = n := ⟨_, rfl⟩
      rw [hNA] at hlen
      replace hR12 := Lib.hid hR12
      replace hK12 := Lib.hid hK12
      replace hbE12 := Lib.hid hbE12
      replace hbX12 := Lib.hid hbX12
      replace t12 := Lib.hid t12
      replace hrow := Lib.hid hrow
      replace hlen := Lib.hid hlen
      clear hkn hxk hs11 hq0 hq1 hq2 hq3 hq4 hq5 hq6 hq7 hq8 hq9 hq10 hR11 hK11 hbE11 tr m0 m1 m2 m3 m4 m5 m6 m7 m8 m9 m10 m11 hfE hbX
      go_wp2
      clear hva hvd hve hvf hvk
      refine Free.wp_region_chain (fun i => i == 9 || i == 10 || i == 17) (fun i => true) (fun j b => j = 17 ∧ b = bm) (by kernel_rfl) (by kernel_rfl) (by kernel_rfl) ?_
      by_cases hemp : acc = []
      · -- the table is empty
        have hN0 : NA = 0 := by rw [← hNA, hemp]; rfl
        subst hN0
        have hcond : Hid (¬ (acc ≠ [] ∧ ¬ klt last (((⟨ya, xb, xc1, xc2, yd, ye, yf, xg, xh, xi, xj1, xj2⟩ : En)).key))) := Lib.hid (fun hh => hh.1 hemp)
        replace hemp := Lib.hid hemp
        replace hNA := Lib.hid hNA
        have hkZ : Keeps [] V12 V12.drew := (Keeps.refl _ _).drew

        (repeat (first | (apply Free.cw_pure rfl rfl; (intro w'; go_simp <;> exact rfl); go_frame) | (apply Free.cw_steady rfl rfl rfl; (intro w' hS2; have z0 := Free.sx_cell hS2 d7 (fun j hp hT => hnb hT.2); have z1 := Free.sx_cell hS2 e0 (fun j hp hT => hEm hT.2); have z2 := Free.sx_cell hS2 e1 (fun j hp hT => hEm hT.2); have z3 := Free.sx_cell hS2 e2 (fun j hp hT => hEm hT.2); have z4 := Free.sx_cell hS2 e3 (fun j hp hT => hEm hT.2); have z5 := Free.sx_cell hS2 e4 (fun j hp hT => hEm hT.2); have z6 := Free.sx_cell hS2 e5 (fun j hp hT => hEm hT.2); have z7 := Free.sx_cell hS2 e6 (fun j hp hT => hEm hT.2); have z8 := Free.sx_cell hS2 e7 (fun j hp hT => hEm hT.2); have z9 := Free.sx_cell hS2 e8 (fun j hp hT => hEm hT.2); have z10 := Free.sx_cell hS2 e9 (fun j hp hT => hEm hT.2); have z11 := Free.sx_cell hS2 e10 (fun j hp hT => hEm hT.2); have z12 := Free.sx_cell hS2 e11 (fun j hp hT => hEm hT.2); have z13 := Free.sx_cell hS2 x0 (fun j hp hT => hXm hT.2); have z14 := Free.sx_cell hS2 x1 (fun j hp hT => hXm hT.2); (try (have hlen2 := hlen.out w' (hS2.block bm hbl (fun ⟨_, _, hp, hT⟩ => by obtain ⟨rfl, _⟩ := hT; exact absurd hp (by decide +kernel))))); go_simp <;> exact rfl); go_frame) | (apply Free.cw_pureW rfl rfl; (intro w'; go_simp <;> exact rfl); go_frame) | (apply Free.cw_steadyW rfl rfl rfl; (intro w' hS2; have z0 := Free.sx_cell hS2 d7 (fun j hp hT => hnb hT.2); have z1 := Free.sx_cell hS2 e0 (fun j hp hT => hEm hT.2); have z2 := Free.sx_cell hS2 e1 (fun j hp hT => hEm hT.2); have z3 := Free.sx_cell hS2 e2 (fun j hp hT => hEm hT.2); have z4 := Free.sx_cell hS2 e3 (fun j hp hT => hEm hT.2); have z5 := Free.sx_cell hS2 e4 (fun j hp hT => hEm hT.2); have z6 := Free.sx_cell hS2 e5 (fun j hp hT => hEm hT.2); have z7 := Free.sx_cell hS2 e6 (fun j hp hT => hEm hT.2); have z8 := Free.sx_cell hS2 e7 (fun j hp hT => hEm hT.2); have z9 := Free.sx_cell hS2 e8 (fun j hp hT => hEm hT.2); have z10 := Free.sx_cell hS2 e9 (fun j hp hT => hEm hT.2); have z11 := Free.sx_cell hS2 e10 (fun j hp hT => hEm hT.2); have z12 := Free.sx_cell hS2 e11 (fun j hp hT => hEm hT.2); have z13 := Free.sx_cell hS2 x0 (fun j hp hT => hXm hT.2); have z14 := Free.sx_cell hS2 x1 (fun j hp hT => hXm hT.2); (try (have hlen2 := hlen.out w' (hS2.block bm hbl (fun ⟨_, _, hp, hT⟩ => by obtain ⟨rfl, _⟩ := hT; exact absurd hp (by decide +kernel))))); go_simp <;> exact rfl); go_frame) | (refine Free.cw_skip rfl ?_; go_frame)))
        refine Free.cw_loudW rfl rfl (fun K hK => ?_)
        go_wp2_with fail
        refine (add_c V12.drew bt bm acc (⟨ya, xb, xc1, xc2, yd, ye, yf, xg, xh, xi, xj1, xj2⟩ : En) yk (t12.out.keeps hkZ) rok1 rok2 gl).mono ?_
        rintro e W13 ⟨rfl, t13, hk13⟩
        have hk13p : Free.KeepsP (fun b => True ∧ b = bm) V12.drew W13 := Free.KeepsP.of hk13 (by simp)
        refine hK _ _ rfl hk13p ?_
        clear hK K
        obtain ⟨ra, hra⟩ : ∃ r, (addS (⟨ya, xb, xc1, xc2, yd, ye, yf, xg, xh, xi, xj1, xj2⟩ : En) yk acc).1 = r := ⟨_, rfl⟩
        obtain ⟨acc2, hacc2⟩ : ∃ r, (addS (⟨ya, xb, xc1, xc2, yd, ye, yf, xg, xh, xi, xj1, xj2⟩ : En) yk acc).2 = r := ⟨_, rfl⟩
        rw [hacc2] at t13
        rw [hra]
        by_cases hra0 : ra = 0
        · subst hra0
          have heq9 : wd N (0, 0) sI [] = wd (N - (k + 1)) (ya, xb) s11 acc2 := by
            rw [heq.out, wd_succ, hrow.out]
            simp only
            rw [if_neg hcond.out, hra, if_neg (by simp), hacc2]
          have hac9 : AccOk (ya, xb) acc2 := by
            have h1 := hacc.out.step (s := s0) (by rw [hrow.out]; exact hcond.out) (by rw [hrow.out]; exact hra)
            rw [hrow.out] at h1
            simp only at h1
            rw [hacc2] at h1
            exact h1
          have hkWZ : Keeps [bm] V12 W13 := (hkZ.of_nil).trans hk13
          have hR13 := hR12.out.keepN hkWZ (by simpa using hne2) (fun b hb o => by simp at hb; subst hb; exact t12.out.mp.noCells ktK o)
          have hbE13 := (hkWZ.block E (lt_of_blk hbE12.out) (by simpa using hEm)).trans hbE12.out
          have hbX13 := (hkWZ.block X (lt_of_blk hbX12.out) (by simpa using hXm)).trans hbX12.out
          have hk03 := (hkr.out.fresh hK12.out (fun b hb => .inr (by simp at hb; omega))).fresh hkWZ (fun b hb => .inr (by simp at hb; omega))
          replace heq9 := Lib.hid heq9
          replace hac9 := Lib.hid hac9
          replace hR13 := Lib.hid hR13
          replace hbE13 := Lib.hid hbE13
          replace hbX13 := Lib.hid hbX13
          replace hk03 := Lib.hid hk03
          replace t13 := Lib.hid t13
          clear hk13 hk13p hkWZ hra hacc2 e0 e1 e2 e3 e4 e5 e6 e7 e8 e9 e10 e11 x0 x1 d7
          (repeat (first | (apply Free.cw_pureW rfl rfl; (intro w'; go_simp <;> exact rfl); go_frame) | (refine Free.cw_skip rfl ?_; go_frame)))
          refine Free.cw_nil ?_
          obtain ⟨e0, e1, e2, e3, e4, e5, e6, e7, e8, e9, e10, e11, _⟩ := cells12 hbE13.out
          go_wp2_with fail
          refine (of_c W13 (⟨ya, xb, xc1, xc2, yd, ye, yf, xg, xh, xi, xj1, xj2⟩ : En)).mono ?_
          rintro e W14 ⟨rfl, hk14⟩
          have hbX14 := (hk14.block X (lt_of_blk hbX13.out) (by simp)).trans hbX13.out
          obtain ⟨x0, x1, _⟩ := cells2 hbX14
          have hfX := frz hbX14
          have hR14 := hR13.out.keeps hk14
          have t14 := t13.out.keeps hk14
          have hk04 := hk03.out.trans hk14
          have hbX15 := st2 (x0 := .int .i64 ya) (x1 := .int .u64 xb) hbX14
          have p1 : (W14.setCell ⟨X, 0, none⟩ (.int .i64 ya)).cell? ⟨X, 1, none⟩ = some (.int .u64 last.2) := by
            have h1 := setCs hbX14 0 (.int .i64 ya)
            exact (cells2 (by simpa using h1)).2.1
          have hR15 := hR14.kb (w' := (W14.setCell ⟨X, 0, none⟩ (.int .i64 ya)).setCell ⟨X, 1, none⟩ (.int .u64 xb)) ((setO (by omega) 1 _).trans (setO (by omega) 0 _)) ((KB.setCell W14 _ x0 (by simp)).trans (KB.setCell _ _ p1 (by simp)))
          have t15 := t14.kept hbX15.2 (by simp; omega) (by simp; omega)
          have hk05 := hk04.fresh hbX15.2 (fun b hb => .inr (by simp at hb; omega))
          replace hbX15 := Lib.hid hbX15.1
          replace hR15 := Lib.hid hR15
          replace t15 := Lib.hid t15
          replace hk05 := Lib.hid hk05
          clear hR14 t14 hk04 p1 hbX14 hk14 hk03 hbX13 hbE13 hR13 t13 e0 e1 e2 e3 e4 e5 e6 e7 e8 e9 e10 e11
          simp only [kyV, En.key]
          go_wp2
          go_roundw
          case rel => exact ⟨k + 1, (ya, xb), s11, acc2, rfl, by omega, hR15.out, t15.out, heq9, hac9, hbX15.out, hk05.out⟩
          case measure => simp [intOf]; omega
        · have hrb : (ra != 0) = true := by simpa using hra0
          have heq9 : outS (wd N (0, 0) sI []) = none := by
            rw [heq.out, wd_succ, hrow.out]
            simp only
            rw [if_neg hcond.out, hra, if_pos hra0]; rfl
          have hkWZ : Keeps [bm] V12 W13 := (hkZ.of_nil).trans hk13
          have hk03 := (hkr.out.fresh hK12.out (fun b hb => .inr (by simp at hb; omega))).fresh hkWZ (fun b hb => .inr (by simp at hb; omega))
          replace heq9 := Lib.hid heq9
          replace hk03 := Lib.hid hk03
          replace hra0 := Lib.hid hra0
          clear hk13 hk13p hkWZ hra hacc2 t13 e0 e1 e2 e3 e4 e5 e6 e7 e8 e9 e10 e11 x0 x1 d7
          (repeat (first | (apply Free.cw_pureW rfl rfl; (intro w'; go_simp <;> exact rfl); go_frame) | (refine Free.cw_skip rfl ?_; go_frame)))
          refine Free.cw_nil ?_
          go_wp2
          go_ret2
          rw [hwd.out, heq9.out]
          exact .inl ⟨rfl, rfl, hk03.out⟩
      · have hNp : (0 : Int) < NA := by
          have : 0 < acc.length := List.length_pos_iff.2 hemp
          omega
        have hNp2 : 0 < NA := by omega
        have hcmp := cfK_ge last (((⟨ya, xb, xc1, xc2, yd, ye, yf, xg, xh, xi, xj1, xj2⟩ : En)).key)
        obtain ⟨cc, hcc⟩ : ∃ c, cfK last (((⟨ya, xb, xc1, xc2, yd, ye, yf, xg, xh, xi, xj1, xj2⟩ : En)).key) = c := ⟨_, rfl⟩
        rw [hcc] at hcmp
        have hcomp := fun W => compare_c last (((⟨ya, xb, xc1, xc2, yd, ye, yf, xg, xh, xi, xj1, xj2⟩ : En)).key) W
        rw [hcc] at hcomp
        have hofc := fun W => of_c W (⟨ya, xb, xc1, xc2, yd, ye, yf, xg, xh, xi, xj1, xj2⟩ : En)
        simp only [En.key] at hcomp hofc
        replace hcomp := Lib.hid hcomp
        replace hofc := Lib.hid hofc
        (repeat (first | (apply Free.cw_pure rfl rfl; (intro w'; go_simp <;> exact rfl); go_frame) | (apply Free.cw_steady rfl rfl rfl; (intro w' hS2; have z0 := Free.sx_cell hS2 d7 (fun j hp hT => hnb hT.2); have z1 := Free.sx_cell hS2 e0 (fun j hp hT => hEm hT.2); have z2 := Free.sx_cell hS2 e1 (fun j hp hT => hEm hT.2); have z3 := Free.sx_cell hS2 e2 (fun j hp hT => hEm hT.2); have z4 := Free.sx_cell hS2 e3 (fun j hp hT => hEm hT.2); have z5 := Free.sx_cell hS2 e4 (fun j hp hT => hEm hT.2); have z6 := Free.sx_cell hS2 e5 (fun j hp hT => hEm hT.2); have z7 := Free.sx_cell hS2 e6 (fun j hp hT => hEm hT.2); have z8 := Free.sx_cell hS2 e7 (fun j hp hT => hEm hT.2); have z9 := Free.sx_cell hS2 e8 (fun j hp hT => hEm hT.2); have z10 := Free.sx_cell hS2 e9 (fun j hp hT => hEm hT.2); have z11 := Free.sx_cell hS2 e10 (fun j hp hT => hEm hT.2); have z12 := Free.sx_cell hS2 e11 (fun j hp hT => hEm hT.2); have z13 := Free.sx_cell hS2 x0 (fun j hp hT => hXm hT.2); have z14 := Free.sx_cell hS2 x1 (fun j hp hT => hXm hT.2); (try (have hlen2 := hlen.out w' (hS2.block bm hbl (fun ⟨_, _, hp, hT⟩ => by obtain ⟨rfl, _⟩ := hT; exact absurd hp (by decide +kernel))))); go_simp <;> exact rfl); go_frame) | (apply Free.cw_pureW rfl rfl; (intro w'; go_simp <;> exact rfl); go_frame) | (apply Free.cw_steadyW rfl rfl rfl; (intro w' hS2; have z0 := Free.sx_cell hS2 d7 (fun j hp hT => hnb hT.2); have z1 := Free.sx_cell hS2 e0 (fun j hp hT => hEm hT.2); have z2 := Free.sx_cell hS2 e1 (fun j hp hT => hEm hT.2); have z3 := Free.sx_cell hS2 e2 (fun j hp hT => hEm hT.2); have z4 := Free.sx_cell hS2 e3 (fun j hp hT => hEm hT.2); have z5 := Free.sx_cell hS2 e4 (fun j hp hT => hEm hT.2); have z6 := Free.sx_cell hS2 e5 (fun j hp hT => hEm hT.2); have z7 := Free.sx_cell hS2 e6 (fun j hp hT => hEm hT.2); have z8 := Free.sx_cell hS2 e7 (fun j hp hT => hEm hT.2); have z9 := Free.sx_cell hS2 e8 (fun j hp hT => hEm hT.2); have z10 := Free.sx_cell hS2 e9 (fun j hp hT => hEm hT.2); have z11 := Free.sx_cell hS2 e10 (fun j hp hT => hEm hT.2); have z12 := Free.sx_cell hS2 e11 (fun j hp hT => hEm hT.2); have z13 := Free.sx_cell hS2 x0 (fun j hp hT => hXm hT.2); have z14 := Free.sx_cell hS2 x1 (fun j hp hT => hXm hT.2); (try (have hlen2 := hlen.out w' (hS2.block bm hbl (fun ⟨_, _, hp, hT⟩ => by obtain ⟨rfl, _⟩ := hT; exact absurd hp (by decide +kernel))))); go_simp <;> exact rfl); go_frame) | (refine Free.cw_skip rfl ?_; go_frame)))
        refine Free.cw_loudW rfl rfl (fun K hK => ?_)
        go_wp2_with fail
        refine (hofc.out _).mono ?_
        rintro e WY ⟨rfl, hkY⟩
        refine hK _ _ rfl (Free.KeepsP.of hkY (by simp)) ?_
        clear hK K
        (repeat (first | (apply Free.cw_pure rfl rfl; (intro w'; go_simp <;> exact rfl); go_frame) | (apply Free.cw_steady rfl rfl rfl; (intro w' hS2; have z0 := Free.sx_cell hS2 d7 (fun j hp hT => hnb hT.2); have z1 := Free.sx_cell hS2 e0 (fun j hp hT => hEm hT.2); have z2 := Free.sx_cell hS2 e1 (fun j hp hT => hEm hT.2); have z3 := Free.sx_cell hS2 e2 (fun j hp hT => hEm hT.2); have z4 := Free.sx_cell hS2 e3 (fun j hp hT => hEm hT.2); have z5 := Free.sx_cell hS2 e4 (fun j hp hT => hEm hT.2); have z6 := Free.sx_cell hS2 e5 (fun j hp hT => hEm hT.2); have z7 := Free.sx_cell hS2 e6 (fun j hp hT => hEm hT.2); have z8 := Free.sx_cell hS2 e7 (fun j hp hT => hEm hT.2); have z9 := Free.sx_cell hS2 e8 (fun j hp hT => hEm hT.2); have z10 := Free.sx_cell hS2 e9 (fun j hp hT => hEm hT.2); have z11 := Free.sx_cell hS2 e10 (fun j hp hT => hEm hT.2); have z12 := Free.sx_cell hS2 e11 (fun j hp hT => hEm hT.2); have z13 := Free.sx_cell hS2 x0 (fun j hp hT => hXm hT.2); have z14 := Free.sx_cell hS2 x1 (fun j hp hT => hXm hT.2); (try (have hlen2 := hlen.out w' (hS2.block bm hbl (fun ⟨_, _, hp, hT⟩ => by obtain ⟨rfl, _⟩ := hT; exact absurd hp (by decide +kernel))))); go_simp <;> exact rfl); go_frame) | (apply Free.cw_pureW rfl rfl; (intro w'; go_simp <;> exact rfl); go_frame) | (apply Free.cw_steadyW rfl rfl rfl; (intro w' hS2; have z0 := Free.sx_cell hS2 d7 (fun j hp hT => hnb hT.2); have z1 := Free.sx_cell hS2 e0 (fun j hp hT => hEm hT.2); have z2 := Free.sx_cell hS2 e1 (fun j hp hT => hEm hT.2); have z3 := Free.sx_cell hS2 e2 (fun j hp hT => hEm hT.2); have z4 := Free.sx_cell hS2 e3 (fun j hp hT => hEm hT.2); have z5 := Free.sx_cell hS2 e4 (fun j hp hT => hEm hT.2); have z6 := Free.sx_cell hS2 e5 (fun j hp hT => hEm hT.2); have z7 := Free.sx_cell hS2 e6 (fun j hp hT => hEm hT.2); have z8 := Free.sx_cell hS2 e7 (fun j hp hT => hEm hT.2); have z9 := Free.sx_cell hS2 e8 (fun j hp hT => hEm hT.2); have z10 := Free.sx_cell hS2 e9 (fun j hp hT => hEm hT.2); have z11 := Free.sx_cell hS2 e10 (fun j hp hT => hEm hT.2); have z12 := Free.sx_cell hS2 e11 (fun j hp hT => hEm hT.2); have z13 := Free.sx_cell hS2 x0 (fun j hp hT => hXm hT.2); have z14 := Free.sx_cell hS2 x1 (fun j hp hT => hXm hT.2); (try (have hlen2 := hlen.out w' (hS2.block bm hbl (fun ⟨_, _, hp, hT⟩ => by obtain ⟨rfl, _⟩ := hT; exact absurd hp (by decide +kernel))))); go_simp <;> exact rfl); go_frame) | (refine Free.cw_skip rfl ?_; go_frame)))
        refine Free.cw_loudW rfl rfl (fun K hK => ?_)
        simp only [kyV]
        go_wp2_with fail
        refine (hcomp.out _).mono ?_
        rintro e WZ ⟨rfl, hkg⟩
        have hkZ0 : Keeps [] WY WZ := by
          obtain ⟨q, os, rfl⟩ := hkg
          exact keeps_grow WY q os
        refine hK _ _ rfl (Free.KeepsP.of hkZ0 (by simp)) ?_
        clear hK K
        have hkZ : Keeps [] V12 WZ := ((Keeps.refl [] V12).drew.trans hkY).trans hkZ0
        by_cases hkl : klt last (((⟨ya, xb, xc1, xc2, yd, ye, yf, xg, xh, xi, xj1, xj2⟩ : En)).key)
        · have hcn : decide (0 ≤ cc) = false := by simpa using (fun h => (hcmp.1 h) hkl)
          have hcond : Hid (¬ (acc ≠ [] ∧ ¬ klt last (((⟨ya, xb, xc1, xc2, yd, ye, yf, xg, xh, xi, xj1, xj2⟩ : En)).key))) := Lib.hid (fun hh => hh.2 hkl)
          replace hkl := Lib.hid hkl
          replace hcmp := Lib.hid hcmp
          replace hcc := Lib.hid hcc
          replace hemp := Lib.hid hemp
          replace hNA := Lib.hid hNA
          (repeat (first | (apply Free.cw_pure rfl rfl; (intro w'; go_simp <;> exact rfl); go_frame) | (apply Free.cw_steady rfl rfl rfl; (intro w' hS2; have z0 := Free.sx_cell hS2 d7 (fun j hp hT => hnb hT.2); have z1 := Free.sx_cell hS2 e0 (fun j hp hT => hEm hT.2); have z2 := Free.sx_cell hS2 e1 (fun j hp hT => hEm hT.2); have z3 := Free.sx_cell hS2 e2 (fun j hp hT => hEm hT.2); have z4 := Free.sx_cell hS2 e3 (fun j hp hT => hEm hT.2); have z5 := Free.sx_cell hS2 e4 (fun j hp hT => hEm hT.2); have z6 := Free.sx_cell hS2 e5 (fun j hp hT => hEm hT.2); have z7 := Free.sx_cell hS2 e6 (fun j hp hT => hEm hT.2); have z8 := Free.sx_cell hS2 e7 (fun j hp hT => hEm hT.2); have z9 := Free.sx_cell hS2 e8 (fun j hp hT => hEm hT.2); have z10 := Free.sx_cell hS2 e9 (fun j hp hT => hEm hT.2); have z11 := Free.sx_cell hS2 e10 (fun j hp hT => hEm hT.2); have z12 := Free.sx_cell hS2 e11 (fun j hp hT => hEm hT.2); have z13 := Free.sx_cell hS2 x0 (fun j hp hT => hXm hT.2); have z14 := Free.sx_cell hS2 x1 (fun j hp hT => hXm hT.2); (try (have hlen2 := hlen.out w' (hS2.block bm hbl (fun ⟨_, _, hp, hT⟩ => by obtain ⟨rfl, _⟩ := hT; exact absurd hp (by decide +kernel))))); go_simp <;> exact rfl); go_frame) | (apply Free.cw_pureW rfl rfl; (intro w'; go_simp <;> exact rfl); go_frame) | (apply Free.cw_steadyW rfl rfl rfl; (intro w' hS2; have z0 := Free.sx_cell hS2 d7 (fun j hp hT => hnb hT.2); have z1 := Free.sx_cell hS2 e0 (fun j hp hT => hEm hT.2); have z2 := Free.sx_cell hS2 e1 (fun j hp hT => hEm hT.2); have z3 := Free.sx_cell hS2 e2 (fun j hp hT => hEm hT.2); have z4 := Free.sx_cell hS2 e3 (fun j hp hT => hEm hT.2); have z5 := Free.sx_cell hS2 e4 (fun j hp hT => hEm hT.2); have z6 := Free.sx_cell hS2 e5 (fun j hp hT => hEm hT.2); have z7 := Free.sx_cell hS2 e6 (fun j hp hT => hEm hT.2); have z8 := Free.sx_cell hS2 e7 (fun j hp hT => hEm hT.2); have z9 := Free.sx_cell hS2 e8 (fun j hp hT => hEm hT.2); have z10 := Free.sx_cell hS2 e9 (fun j hp hT => hEm hT.2); have z11 := Free.sx_cell hS2 e10 (fun j hp hT => hEm hT.2); have z12 := Free.sx_cell hS2 e11 (fun j hp hT => hEm hT.2); have z13 := Free.sx_cell hS2 x0 (fun j hp hT => hXm hT.2); have z14 := Free.sx_cell hS2 x1 (fun j hp hT => hXm hT.2); (try (have hlen2 := hlen.out w' (hS2.block bm hbl (fun ⟨_, _, hp, hT⟩ => by obtain ⟨rfl, _⟩ := hT; exact absurd hp (by decide +kernel))))); go_simp <;> exact rfl); go_frame) | (refine Free.cw_skip rfl ?_; go_frame)))
          refine Free.cw_loudW rfl rfl (fun K hK => ?_)
          go_wp2_with fail
          refine (add_c WZ bt bm acc (⟨ya, xb, xc1, xc2, yd, ye, yf, xg, xh, xi, xj1, xj2⟩ : En) yk (t12.out.keeps hkZ) rok1 rok2 gl).mono ?_
          rintro e W13 ⟨rfl, t13, hk13⟩
          have hk13p : Free.KeepsP (fun b => True ∧ b = bm) WZ W13 := Free.KeepsP.of hk13 (by simp)
          refine hK _ _ rfl hk13p ?_
          clear hK K
          obtain ⟨ra, hra⟩ : ∃ r, (addS (⟨ya, xb, xc1, xc2, yd, ye, yf, xg, xh, xi, xj1, xj2⟩ : En) yk acc).1 = r := ⟨_, rfl⟩
          obtain ⟨acc2, hacc2⟩ : ∃ r, (addS (⟨ya, xb, xc1, xc2, yd, ye, yf, xg, xh, xi, xj1, xj2⟩ : En) yk acc).2 = r := ⟨_, rfl⟩
          rw [hacc2] at t13
          rw [hra]
          by_cases hra0 : ra = 0
          · subst hra0
            have heq9 : wd N (0, 0) sI [] = wd (N - (k + 1)) (ya, xb) s11 acc2 := by
              rw [heq.out, wd_succ, hrow.out]
              simp only
              rw [if_neg hcond.out, hra, if_neg (by simp), hacc2]
            have hac9 : AccOk (ya, xb) acc2 := by
              have h1 := hacc.out.step (s := s0) (by rw [hrow.out]; exact hcond.out) (by rw [hrow.out]; exact hra)
              rw [hrow.out] at h1
              simp only at h1
              rw [hacc2] at h1
              exact h1
            have hkWZ : Keeps [bm] V12 W13 := (hkZ.of_nil).trans hk13
            have hR13 := hR12.out.keepN hkWZ (by simpa using hne2) (fun b hb o => by simp at hb; subst hb; exact t12.out.mp.noCells ktK o)
            have hbE13 := (hkWZ.block E (lt_of_blk hbE12.out) (by simpa using hEm)).trans hbE12.out
            have hbX13 := (hkWZ.block X (lt_of_blk hbX12.out) (by simpa using hXm)).trans hbX12.out
            have hk03 := (hkr.out.fresh hK12.out (fun b hb => .inr (by simp at hb; omega))).fresh hkWZ (fun b hb => .inr (by simp at hb; omega))
            replace heq9 := Lib.hid heq9
            replace hac9 := Lib.hid hac9
            replace hR13 := Lib.hid hR13
            replace hbE13 := Lib.hid hbE13
            replace hbX13 := Lib.hid hbX13
            replace hk03 := Lib.hid hk03
            replace t13 := Lib.hid t13
            clear hk13 hk13p hkWZ hra hacc2 e0 e1 e2 e3 e4 e5 e6 e7 e8 e9 e10 e11 x0 x1 d7
            (repeat (first | (apply Free.cw_pureW rfl rfl; (intro w'; go_simp <;> exact rfl); go_frame) | (refine Free.cw_skip rfl ?_; go_frame)))
            refine Free.cw_nil ?_
            obtain ⟨e0, e1, e2, e3, e4, e5, e6, e7, e8, e9, e10, e11, _⟩ := cells12 hbE13.out
            go_wp2_with fail
            refine (of_c W13 (⟨ya, xb, xc1, xc2, yd, ye, yf, xg, xh, xi, xj1, xj2⟩ : En)).mono ?_
            rintro e W14 ⟨rfl, hk14⟩
            have hbX14 := (hk14.block X (lt_of_blk hbX13.out) (by simp)).trans hbX13.out
            obtain ⟨x0, x1, _⟩ := cells2 hbX14
            have hfX := frz hbX14
            have hR14 := hR13.out.keeps hk14
            have t14 := t13.out.keeps hk14
            have hk04 := hk03.out.trans hk14
            have hbX15 := st2 (x0 := .int .i64 ya) (x1 := .int .u64 xb) hbX14
            have p1 : (W14.setCell ⟨X, 0, none⟩ (.int .i64 ya)).cell? ⟨X, 1, none⟩ = some (.int .u64 last.2) := by
              have h1 := setCs hbX14 0 (.int .i64 ya)
              exact (cells2 (by simpa using h1)).2.1
            have hR15 := hR14.kb (w' := (W14.setCell ⟨X, 0, none⟩ (.int .i64 ya)).setCell ⟨X, 1, none⟩ (.int .u64 xb)) ((setO (by omega) 1 _).trans (setO (by omega) 0 _)) ((KB.setCell W14 _ x0 (by simp)).trans (KB.setCell _ _ p1 (by simp)))
            have t15 := t14.kept hbX15.2 (by simp; omega) (by simp; omega)
            have hk05 := hk04.fresh hbX15.2 (fun b hb => .inr (by simp at hb; omega))
            replace hbX15 := Lib.hid hbX15.1
            replace hR15 := Lib.hid hR15
            replace t15 := Lib.hid t15
            replace hk05 := Lib.hid hk05
            clear hR14 t14 hk04 p1 hbX14 hk14 hk03 hbX13 hbE13 hR13 t13 e0 e1 e2 e3 e4 e5 e6 e7 e8 e9 e10 e11
            simp only [kyV, En.key]
            go_wp2
            go_roundw
            case rel => exact ⟨k + 1, (ya, xb), s11, acc2, rfl, by omega, hR15.out, t15.out, heq9, hac9, hbX15.out, hk05.out⟩
            case measure => simp [intOf]; omega
          · have hrb : (ra != 0) = true := by simpa using hra0
            have heq9 : outS (wd N (0, 0) sI []) = none := by
              rw [heq.out, wd_succ, hrow.out]
              simp only
              rw [if_neg hcond.out, hra, if_pos hra0]; rfl
            have hkWZ : Keeps [bm] V12 W13 := (hkZ.of_nil).trans hk13
            have hk03 := (hkr.out.fresh hK12.out (fun b hb => .inr (by simp at hb; omega))).fresh hkWZ (fun b hb => .inr (by simp at hb; omega))
            replace heq9 := Lib.hid heq9
            replace hk03 := Lib.hid hk03
            replace hra0 := Lib.hid hra0
            clear hk13 hk13p hkWZ hra hacc2 t13 e0 e1 e2 e3 e4 e5 e6 e7 e8 e9 e10 e11 x0 x1 d7
            (repeat (first | (apply Free.cw_pureW rfl rfl; (intro w'; go_simp <;> exact rfl); go_frame) | (refine Free.cw_skip rfl ?_; go_frame)))
            refine Free.cw_nil ?_
            go_wp2
            go_ret2
            rw [hwd.out, heq9.out]
            exact .inl ⟨rfl, rfl, hk03.out⟩
        · have hcn : 0 ≤ cc := hcmp.2 hkl
          have heq9 : outS (wd N (0, 0) sI []) = none := by
            rw [heq.out, wd_succ, hrow.out]
            simp only
            rw [if_pos ⟨hemp, hkl⟩]; rfl
          have hk03 := (hkr.out.fresh hK12.out (fun b hb => .inr (by simp at hb; omega))).fresh hkZ (fun b hb => .inr (by simp at hb))
          replace heq9 := Lib.hid heq9
          replace hk03 := Lib.hid hk03
          replace hkl := Lib.hid hkl
          replace hcmp := Lib.hid hcmp
          replace hcc := Lib.hid hcc
          replace hemp := Lib.hid hemp
          replace hNA := Lib.hid hNA
          (repeat (first | (apply Free.cw_pure rfl rfl; (intro w'; go_simp <;> exact rfl); go_frame) | (apply Free.cw_pureW rfl rfl; (intro w'; go_simp <;> exact rfl); go_frame) | (refine Free.cw_skip rfl ?_; go_frame)))
          refine Free.cw_nil ?_
          go_wp2
          go_ret2
          rw [hwd.out, heq9.out]
          exact .inl ⟨rfl, rfl, hk03.out⟩
    · have hkN : k = N := by omega
      subst hkN
      have heq2 : outS (wd k (0, 0) sI []) = if doneE s0.1 s0.2 = 0 then some acc else none := by
        have := heq.out
        rw [Nat.sub_self] at this
        rw [this]; rfl
      obtain ⟨E, hE⟩ : ∃ E, doneE s0.1 s0.2 = E := ⟨_, rfl⟩
      obtain ⟨vR, hRR⟩ := hRr
      have hdn := done_c wr br vR s0.1 s0.2 hRR
      rw [hE] at heq2 hdn
      replace hdn := Lib.hid hdn
      replace heq2 := Lib.hid heq2
      replace tr := Lib.hid tr
      replace hkr := Lib.hid hkr
      clear hRR hE hbX heq
      go_wp2_with fail
      refine hdn.out.mono ?_
      rintro e w9 ⟨rfl, rfl⟩
      by_cases hE0 : E = 0
      · subst hE0
        have heq3 := heq2.out.trans (if_pos rfl)
        replace heq3 := Lib.hid heq3
        go_wp2
        go_ret2
        rw [hwd.out, heq3.out]
        exact .inr ⟨acc, bt, bm, rfl, rfl, tr.out, hacc.out.good, hkr.out, by omega, by omega⟩
      · have hEb : (E != 0) = true := by simpa using hE0
        have heq3 := heq2.out.trans (if_neg hE0)
        replace heq3 := Lib.hid heq3
        replace hE0 := Lib.hid hE0
        go_wp2
        go_ret2
        rw [hwd.out, heq3.out]
        exact .inl ⟨rfl, rfl, hkr.out⟩
end Go.Proofs.YtblaaafpglomnaaGreat

namespace Go.Proofs.YtblaaafpglomnaaGreat
open Go.RowKit Go

set_option maxRecDepth 100000 in
set_option maxHeartbeats 4000000 in
theorem sameE_c (w : World) (v1 v2 : Value) (L1 L2 : List En) (h1 : shE.R w v1 L1) (h2 : shE.R w v2 L2) :
    Calls Tryz.prog 9 #[v1, v2] w fun e w' => e = .returned (.bool (decide (L1 = L2))) ∧ Keeps [] w w' := by
  obtain ⟨a1, c1, rfl, hlc1, hcm1, _⟩ := h1.form
  obtain ⟨a2, c2, rfl, hlc2, hcm2, _⟩ := h2.form
  have hel1 := fun k hk => h1.elem (k := k) hk
  have hel2 := fun k hk => h2.elem (k := k) hk
  obtain ⟨M1, hM1⟩ : ∃ N, L1.length = N := ⟨_, rfl⟩
  obtain ⟨M2, hM2⟩ : ∃ N, L2.length = N := ⟨_, rfl⟩
  rw [hM1] at hlc1 ⊢
  rw [hM2] at hlc2 ⊢
  have hMm : M1 ≤ 9223372036854775807 := by unfold maxLen at hcm1; omega
  replace hel1 := Lib.hid hel1
  replace hel2 := Lib.hid hel2
  replace hM1 := Lib.hid hM1
  replace hM2 := Lib.hid hM2
  clear h1 h2 hcm1 hcm2
  obtain ⟨rb, hrb⟩ : ∃ b, decide (L1 = L2) = b := ⟨_, rfl⟩
  rw [hrb]
  replace hrb := Lib.hid hrb
  by_cases hne : M1 = M2
  · subst hne
    go_enter Tryz.func9, Tryz.ntmps9
    go_wp2
    go_loopw [5] (fun i wr => ∃ k : Nat, i = .int .i64 k ∧ k ≤ M1 ∧ Hid (∀ j (h1 : j < L1.length) (h2 : j < L2.length), j < k → L1[j] = L2[j]) ∧ Hid (Keeps [] w wr)) (fun i _ => M1 - (intOf i).toNat)
    case atStart => exact ⟨0, rfl, by omega, Lib.hid (fun _ _ _ h => by omega), Lib.hid (Keeps.refl _ _)⟩
    case round =>
      obtain ⟨k, rfl, hk, hno, hkw⟩ := hrel
      by_cases hlt : k < M1
      · have hk1 : k < L1.length := by rw [hM1.out]; exact hlt
        have hk2 : k < L2.length := by rw [hM2.out]; exact hlt
        obtain ⟨g, o, c', hv, he⟩ := hel1.out k hk1
        obtain ⟨g2, o2, c2', hv2, he2⟩ := hel2.out k hk2
        rw [hM1.out] at hv
        rw [hM2.out] at hv2
        cases hv
        cases hv2
        obtain ⟨⟨x0, x1, x2, x3, x4, x5, x6, x7, x8, x9, x10, x11⟩, hx⟩ : ∃ x, L1[k] = x := ⟨_, rfl⟩
        obtain ⟨⟨y0, y1, y2, y3, y4, y5, y6, y7, y8, y9, y10, y11⟩, hy⟩ : ∃ x, L2[k] = x := ⟨_, rfl⟩
        rw [hx] at he
        rw [hy] at he2
        have e0 := hkw.out.val (he 0 _ rfl)
        have e1 := hkw.out.val (he 1 _ rfl)
        have e2 := hkw.out.val (he 2 _ rfl)
        have e3 := hkw.out.val (he 3 _ rfl)
        have e4 := hkw.out.val (he 4 _ rfl)
        have e5 := hkw.out.val (he 5 _ rfl)
        have e6 := hkw.out.val (he 6 _ rfl)
        have e7 := hkw.out.val (he 7 _ rfl)
        have e8 := hkw.out.val (he 8 _ rfl)
        have e9 := hkw.out.val (he 9 _ rfl)
        have e10 := hkw.out.val (he 10 _ rfl)
        have e11 := hkw.out.val (he 11 _ rfl)
        have d0 := hkw.out.val (he2 0 _ rfl)
        have d1 := hkw.out.val (he2 1 _ rfl)
        have d2 := hkw.out.val (he2 2 _ rfl)
        have d3 := hkw.out.val (he2 3 _ rfl)
        have d4 := hkw.out.val (he2 4 _ rfl)
        have d5 := hkw.out.val (he2 5 _ rfl)
        have d6 := hkw.out.val (he2 6 _ rfl)
        have d7 := hkw.out.val (he2 7 _ rfl)
        have d8 := hkw.out.val (he2 8 _ rfl)
        have d9 := hkw.out.val (he2 9 _ rfl)
        have d10 := hkw.out.val (he2 10 _ rfl)
        have d11 := hkw.out.val (he2 11 _ rfl)
        simp only [shE, En.cs, Nat.add_zero] at e0 e1 e2 e3 e4 e5 e6 e7 e8 e9 e10 e11 d0 d1 d2 d3 d4 d5 d6 d7 d8 d9 d10 d11
        replace hx := Lib.hid hx
        replace hy := Lib.hid hy
        clear he he2
        have hq := fun w => neE w ⟨x0, x1, x2, x3, x4, x5, x6, x7, x8, x9, x10, x11⟩ ⟨y0, y1, y2, y3, y4, y5, y6, y7, y8, y9, y10, y11⟩
        simp only [enV] at hq
        by_cases h1 : (⟨x0, x1, x2, x3, x4, x5, x6, x7, x8, x9, x10, x11⟩ : En) = (⟨y0, y1, y2, y3, y4, y5, y6, y7, y8, y9, y10, y11⟩ : En)
        · rw [decide_eq_false (fun h => h h1)] at hq
          replace h1 := Lib.hid h1
          go_wp2
          (refine wp_region_quiet_lit (by kernel_rfl) (by kernel_rfl) ?_; (repeat (first | go_big_quiet_step (fail) | quiet_step (fail))); with_reducible refine wpQuiet_nil ?_; intro _ hw'; obtain ⟨nq, hw''⟩ := hw'; subst hw'')
          go_wp2
          go_roundw
          case rel => exact ⟨k + 1, rfl, by omega, Lib.hid (fun j hj1 hj2 hjk => by
              by_cases e : j = k
              · subst e; rw [hx.out, hy.out]; exact h1.out
              · exact hno.out j hj1 hj2 (by omega)), Lib.hid (hkw.out.drewN _)⟩
          case measure => simp [intOf]; omega
        · rw [decide_eq_true h1] at hq
          have hr : decide (L1 = L2) = false := decide_eq_false (fun e => h1 (by rw [← hx.out, ← hy.out]; simp only [e]))
          rw [hrb.out] at hr
          replace hr := Lib.hid hr
          replace h1 := Lib.hid h1
          go_wp2
          (refine wp_region_quiet_lit (by kernel_rfl) (by kernel_rfl) ?_; (repeat (first | go_big_quiet_step (fail) | quiet_step (fail))); with_reducible refine wpQuiet_nil ?_; intro _ hw'; obtain ⟨nq, hw''⟩ := hw'; subst hw'')
          go_wp2
          go_ret
          exact ⟨by rw [hr.out]; rfl, hkw.out.drewN _⟩
      · have hr : decide (L1 = L2) = true := decide_eq_true (List.ext_getElem (by rw [hM1.out, hM2.out]) (fun j h1 h2 => hno.out j h1 h2 (by rw [hM1.out] at h1; omega)))
        rw [hrb.out] at hr
        replace hr := Lib.hid hr
        go_wp2
        go_ret
        exact ⟨by rw [hr.out]; rfl, hkw.out⟩
  · have hne1 : ((M1 : Int) != M2) = true := by simp; omega
    have hr : decide (L1 = L2) = false := decide_eq_false (fun e => hne (by rw [← hM1.out, ← hM2.out, e]))
    rw [hrb.out] at hr
    replace hr := Lib.hid hr
    go_enter Tryz.func9, Tryz.ntmps9
    go_wp2
    go_ret
    exact ⟨by rw [hr.out]; rfl, Keeps.refl _ _⟩
set_option maxRecDepth 100000 in
set_option maxHeartbeats 4000000 in
theorem sameU_c (w : World) (v1 v2 : Value) (L1 L2 : List Nat) (h1 : shU.R w v1 L1) (h2 : shU.R w v2 L2) :
    Calls Tryz.prog 19 #[v1, v2] w fun e w' => e = .returned (.bool (decide (L1 = L2))) ∧ Keeps [] w w' := by
  obtain ⟨a1, c1, rfl, hlc1, hcm1, _⟩ := h1.form
  obtain ⟨a2, c2, rfl, hlc2, hcm2, _⟩ := h2.form
  have hel1 := fun k hk => h1.elem (k := k) hk
  have hel2 := fun k hk => h2.elem (k := k) hk
  obtain ⟨M1, hM1⟩ : ∃ N, L1.length = N := ⟨_, rfl⟩
  obtain ⟨M2, hM2⟩ : ∃ N, L2.length = N := ⟨_, rfl⟩
  rw [hM1] at hlc1 ⊢
  rw [hM2] at hlc2 ⊢
  have hMm : M1 ≤ 9223372036854775807 := by unfold maxLen at hcm1; omega
  replace hel1 := Lib.hid hel1
  replace hel2 := Lib.hid hel2
  replace hM1 := Lib.hid hM1
  replace hM2 := Lib.hid hM2
  clear h1 h2 hcm1 hcm2
  obtain ⟨rb, hrb⟩ : ∃ b, decide (L1 = L2) = b := ⟨_, rfl⟩
  rw [hrb]
  replace hrb := Lib.hid hrb
  by_cases hne : M1 = M2
  · subst hne
    go_enter Tryz.func19, Tryz.ntmps19
    go_wp2
    go_loopw [5] (fun i wr => ∃ k : Nat, i = .int .i64 k ∧ k ≤ M1 ∧ Hid (∀ j (h1 : j < L1.length) (h2 : j < L2.length), j < k → L1[j] = L2[j]) ∧ Hid (Keeps [] w wr)) (fun i _ => M1 - (intOf i).toNat)
    case atStart => exact ⟨0, rfl, by omega, Lib.hid (fun _ _ _ h => by omega), Lib.hid (Keeps.refl _ _)⟩
    case round =>
      obtain ⟨k, rfl, hk, hno, hkw⟩ := hrel
      by_cases hlt : k < M1
      · have hk1 : k < L1.length := by rw [hM1.out]; exact hlt
        have hk2 : k < L2.length := by rw [hM2.out]; exact hlt
        obtain ⟨g, o, c', hv, he⟩ := hel1.out k hk1
        obtain ⟨g2, o2, c2', hv2, he2⟩ := hel2.out k hk2
        rw [hM1.out] at hv
        rw [hM2.out] at hv2
        cases hv
        cases hv2
        obtain ⟨x, hx⟩ : ∃ x, L1[k] = x := ⟨_, rfl⟩
        obtain ⟨y, hy⟩ : ∃ x, L2[k] = x := ⟨_, rfl⟩
        rw [hx] at he
        rw [hy] at he2
        have e0 := hkw.out.val (he 0 _ rfl)
        have d0 := hkw.out.val (he2 0 _ rfl)
        simp only [shU, Nat.add_zero, Nat.mul_one] at e0 d0
        replace hx := Lib.hid hx
        replace hy := Lib.hid hy
        clear he he2
        have hq : ((x : Int) != (y : Int)) = decide (x ≠ y) := by rw [Bool.eq_iff_iff]; simp; omega
        by_cases h1 : x = y
        · rw [decide_eq_false (fun h => h h1)] at hq
          replace h1 := Lib.hid h1
          go_wp2
          (refine wp_region_quiet_lit (by kernel_rfl) (by kernel_rfl) ?_; (repeat (first | go_big_quiet_step (fail) | quiet_step (fail))); with_reducible refine wpQuiet_nil ?_; intro _ hw'; obtain ⟨nq, hw''⟩ := hw'; subst hw'')
          go_wp2
          go_roundw
          case rel => exact ⟨k + 1, rfl, by omega, Lib.hid (fun j hj1 hj2 hjk => by
              by_cases e : j = k
              · subst e; rw [hx.out, hy.out]; exact h1.out
              · exact hno.out j hj1 hj2 (by omega)), Lib.hid (hkw.out.drewN _)⟩
          case measure => simp [intOf]; omega
        · rw [decide_eq_true h1] at hq
          have hr : decide (L1 = L2) = false := decide_eq_false (fun e => h1 (by rw [← hx.out, ← hy.out]; simp only [e]))
          rw [hrb.out] at hr
          replace hr := Lib.hid hr
          replace h1 := Lib.hid h1
          go_wp2
          (refine wp_region_quiet_lit (by kernel_rfl) (by kernel_rfl) ?_; (repeat (first | go_big_quiet_step (fail) | quiet_step (fail))); with_reducible refine wpQuiet_nil ?_; intro _ hw'; obtain ⟨nq, hw''⟩ := hw'; subst hw'')
          go_wp2
          go_ret
          exact ⟨by rw [hr.out]; rfl, hkw.out.drewN _⟩
      · have hr : decide (L1 = L2) = true := decide_eq_true (List.ext_getElem (by rw [hM1.out, hM2.out]) (fun j h1 h2 => hno.out j h1 h2 (by rw [hM1.out] at h1; omega)))
        rw [hrb.out] at hr
        replace hr := Lib.hid hr
        go_wp2
        go_ret
        exact ⟨by rw [hr.out]; rfl, hkw.out⟩
  · have hne1 : ((M1 : Int) != M2) = true := by simp; omega
    have hr : decide (L1 = L2) = false := decide_eq_false (fun e => hne (by rw [← hM1.out, ← hM2.out, e]))
    rw [hrb.out] at hr
    replace hr := Lib.hid hr
    go_enter Tryz.func19, Tryz.ntmps19
    go_wp2
    go_ret
    exact ⟨by rw [hr.out]; rfl, Keeps.refl _ _⟩
end Go.Proofs.YtblaaafpglomnaaGreat

namespace Go.Proofs.YtblaaafpglomnaaGreat
open Go Go.RowKit

set_option maxRecDepth 100000 in
set_option maxHeartbeats 2000000 in
theorem validID_c (w : World) (m s : Int) : Calls Tryz.prog 99 #[idV m s] w fun e w' => e = .returned (.bool (vID m s)) ∧ Keeps [] w w' := by
  have hk : Keeps [] w (w.alloc (.cells #[.int .i64 m, .int .i64 s] tID)) := (Keeps.refl _ _).alloc _
  obtain ⟨r, hr⟩ : ∃ r, vID m s = r := ⟨_, rfl⟩
  rw [hr]
  replace hk := Lib.hid hk
  by_cases h1 : 1 ≤ m
  case neg =>
    have d1 : decide (1 ≤ m) = false := by simp; omega
    have e : r = false := by rw [← hr]; exact decide_eq_false (by omega)
    subst e
    replace hr := Lib.hid hr
    go_enter Tryz.func99, Tryz.ntmps99
    go_wp2
    go_ret
    exact ⟨rfl, hk.out⟩
  by_cases h2 : m ≤ 8
  case neg =>
    have d1 : decide (m ≤ 8) = false := by simp; omega
    have e : r = false := by rw [← hr]; exact decide_eq_false (by omega)
    subst e
    replace hr := Lib.hid hr
    go_enter Tryz.func99, Tryz.ntmps99
    go_wp2
    go_ret
    exact ⟨rfl, hk.out⟩
  by_cases h3 : 1 ≤ s
  case neg =>
    have d1 : decide (1 ≤ s) = false := by simp; omega
    have e : r = false := by rw [← hr]; exact decide_eq_false (by omega)
    subst e
    replace hr := Lib.hid hr
    go_enter Tryz.func99, Tryz.ntmps99
    go_wp2
    go_ret
    exact ⟨rfl, hk.out⟩
  by_cases h4 : s ≤ 1099511627775
  case neg =>
    have d1 : decide (s ≤ 1099511627775) = false := by simp; omega
    have e : r = false := by rw [← hr]; exact decide_eq_false (by omega)
    subst e
    replace hr := Lib.hid hr
    go_enter Tryz.func99, Tryz.ntmps99
    go_wp2
    go_ret
    exact ⟨rfl, hk.out⟩
  have e : r = true := by rw [← hr]; exact decide_eq_true ⟨h1, h2, h3, h4⟩
  subst e
  replace hr := Lib.hid hr
  go_enter Tryz.func99, Tryz.ntmps99
  go_wp2
  go_ret
  exact ⟨rfl, hk.out⟩
set_option maxRecDepth 100000 in
set_option maxHeartbeats 2000000 in
theorem valid21_c (w : World) (m s : Int) : Calls Tryz.prog 79 #[idV m s] w fun e w' => e = .returned (.bool (vID m s)) ∧ Keeps [] w w' := by
  have hk : Keeps [] w (w.alloc (.cells #[.int .i64 m, .int .i64 s] tID)) := (Keeps.refl _ _).alloc _
  have hc := fun W => validID_c W m s
  obtain ⟨b, hb⟩ : ∃ b, vID m s = b := ⟨_, rfl⟩
  rw [hb] at hc ⊢
  simp only [idV] at hc ⊢
  replace hc := Lib.hid hc
  replace hk := Lib.hid hk
  go_enter Tryz.func79, Tryz.ntmps79
  go_wp2_with fail
  refine (hc.out _).mono ?_
  rintro e w1 ⟨rfl, hk1⟩
  have hk2 := hk.out.trans hk1
  replace hk2 := Lib.hid hk2
  clear hk1
  go_wp2
  go_ret
  exact ⟨rfl, hk2.out⟩
set_option maxRecDepth 100000 in
set_option maxHeartbeats 2000000 in
theorem lock_c (w : World) (m s : Int) : Calls Tryz.prog 80 #[idV m s] w fun e w' => e = .returned (.bool (oID m s)) ∧ Keeps [] w w' := by
  have hk : Keeps [] w (w.alloc (.cells #[.int .i64 m, .int .i64 s] tTID)) := (Keeps.refl _ _).alloc _
  have hc := fun W => valid21_c W m s
  have q1 := fun w => eqTI w m s 0 0
  obtain ⟨b, hb⟩ : ∃ b, vID m s = b := ⟨_, rfl⟩
  obtain ⟨z, hz⟩ : ∃ b, (m == 0 && s == 0) = b := ⟨_, rfl⟩
  have ho : oID m s = (z || b) := by unfold oID; rw [hz, hb]
  rw [ho]
  rw [hb] at hc
  rw [hz] at q1
  simp only [idV] at hc q1 ⊢
  replace hc := Lib.hid hc
  replace hk := Lib.hid hk
  clear hb hz ho
  cases z with
  | true =>
    go_enter Tryz.func80, Tryz.ntmps80
    go_wp2
    go_ret
    exact ⟨rfl, hk.out⟩
  | false =>
    go_enter Tryz.func80, Tryz.ntmps80
    go_wp2_with fail
    refine (hc.out _).mono ?_
    rintro e w1 ⟨rfl, hk1⟩
    have hk2 := hk.out.trans hk1
    replace hk2 := Lib.hid hk2
    clear hk1
    go_wp2
    go_ret
    exact ⟨rfl, hk2.out⟩
set_option maxRecDepth 100000 in
set_option maxHeartbeats 4000000 in
theorem validR_c (w : World) (x : En) : Calls Tryz.prog 64 #[enV x] w fun e w' => e = .returned (.bool x.val) ∧ Keeps [] w w' := by
  obtain ⟨cl, n, im, is, o, i, d, tc, wk, gb, lm, ls⟩ := x
  have hkA : Keeps [] w (w.alloc (.cells #[.int .i64 cl, .int .u64 n, .int .i64 im, .int .i64 is, .int .i64 o, .int .i64 i, .int .i64 d, .bool tc, .bool wk, .bool gb, .int .i64 lm, .int .i64 ls] tE)) := (Keeps.refl _ _).alloc _
  have hbA := heap_alloc_new w (.cells #[.int .i64 cl, .int .u64 n, .int .i64 im, .int .i64 is, .int .i64 o, .int .i64 i, .int .i64 d, .bool tc, .bool wk, .bool gb, .int .i64 lm, .int .i64 ls] tE)
  obtain ⟨r, hr⟩ : ∃ r, En.val ⟨cl, n, im, is, o, i, d, tc, wk, gb, lm, ls⟩ = r := ⟨_, rfl⟩
  rw [hr]
  simp only [En.val] at hr
  have q1 := fun w => eqI w im is 0 0
  simp only [idV] at q1
  obtain ⟨z1, hz1⟩ : ∃ b, (im == 0 && is == 0) = b := ⟨_, rfl⟩
  obtain ⟨v1, hv1⟩ : ∃ b, vID im is = b := ⟨_, rfl⟩
  obtain ⟨v2, hv2⟩ : ∃ b, oID lm ls = b := ⟨_, rfl⟩
  have cv1 := fun W => valid21_c W im is
  have cv2 := fun W => lock_c W lm ls
  rw [hz1] at q1
  rw [hv2, show oID im is = (z1 || v1) by unfold oID; rw [hz1, hv1]] at hr
  rw [hv1] at cv1
  rw [hv2] at cv2
  replace hkA := Lib.hid hkA
  replace hbA := Lib.hid hbA
  replace hr := Lib.hid hr
  replace cv1 := Lib.hid cv1
  replace cv2 := Lib.hid cv2
  clear hz1 hv1 hv2
  by_cases h1 : 1 ≤ cl
  case neg =>
    have dh1 : decide (1 ≤ cl) = false := by simp; omega
    have er : r = false := by rw [← hr.out]; simp [dh1]
    subst er
    go_enter Tryz.func64, Tryz.ntmps64
    go_wp2
    go_ret
    exact ⟨rfl, hkA.out⟩
  by_cases h2 : cl ≤ 8
  case neg =>
    have dh2 : decide (cl ≤ 8) = false := by simp; omega
    have er : r = false := by rw [← hr.out]; simp [h1, dh2]
    subst er
    go_enter Tryz.func64, Tryz.ntmps64
    go_wp2
    go_ret
    exact ⟨rfl, hkA.out⟩
  cases z1
  case true =>
    by_cases h3 : 0 ≤ o
    case neg =>
      have dh3 : decide (0 ≤ o) = false := by simp; omega
      have er : r = false := by rw [← hr.out]; simp [h1, h2, dh3]
      subst er
      go_enter Tryz.func64, Tryz.ntmps64
      go_wp2
      go_ret
      exact ⟨rfl, hkA.out⟩
    by_cases h4 : 0 ≤ i
    case neg =>
      have dh4 : decide (0 ≤ i) = false := by simp; omega
      have er : r = false := by rw [← hr.out]; simp [h1, h2, h3, dh4]
      subst er
      go_enter Tryz.func64, Tryz.ntmps64
      go_wp2
      go_ret
      exact ⟨rfl, hkA.out⟩
    by_cases h5 : 0 ≤ d
    case neg =>
      have dh5 : decide (0 ≤ d) = false := by simp; omega
      have er : r = false := by rw [← hr.out]; simp [h1, h2, h3, h4, dh5]
      subst er
      go_enter Tryz.func64, Tryz.ntmps64
      go_wp2
      go_ret
      exact ⟨rfl, hkA.out⟩
    cases v2
    case false => 
      have er : r = false := by rw [← hr.out]; simp [h1, h2, h3, h4, h5]
      subst er
      go_enter Tryz.func64, Tryz.ntmps64
      go_wp2_with fail
      refine (cv2.out _).mono ?_
      rintro e w3 ⟨rfl, hk3⟩
      have hkf1 := Lib.hid (hkA.out.trans hk3)
      clear hk3
      go_wp2
      go_ret
      exact ⟨rfl, hkf1.out⟩
    have er : r = true := by rw [← hr.out]; simp [h1, h2, h3, h4, h5]
    subst er
    go_enter Tryz.func64, Tryz.ntmps64
    go_wp2_with fail
    refine (cv2.out _).mono ?_
    rintro e w3 ⟨rfl, hk3⟩
    have hkf1 := Lib.hid (hkA.out.trans hk3)
    clear hk3
    go_wp2
    go_ret
    exact ⟨rfl, hkf1.out⟩
  cases v1
  case false =>
    have er : r = false := by rw [← hr.out]; simp [h1, h2]
    subst er
    go_enter Tryz.func64, Tryz.ntmps64
    go_wp2_with fail
    refine (cv1.out _).mono ?_
    rintro e w3 ⟨rfl, hk3⟩
    have hkf1 := Lib.hid (hkA.out.trans hk3)
    obtain ⟨y0, y1, y2, y3, y4, y5, y6, y7, y8, y9, y10, y11, _⟩ := cells12 ((hk3.block w.heap.size (by simp) (by simp)).trans hbA.out)
    clear hk3
    go_wp2
    go_ret
    exact ⟨rfl, hkf1.out⟩
  by_cases h3 : 0 ≤ o
  case neg =>
    have dh3 : decide (0 ≤ o) = false := by simp; omega
    have er : r = false := by rw [← hr.out]; simp [h1, h2, dh3]
    subst er
    go_enter Tryz.func64, Tryz.ntmps64
    go_wp2_with fail
    refine (cv1.out _).mono ?_
    rintro e w3 ⟨rfl, hk3⟩
    have hkf1 := Lib.hid (hkA.out.trans hk3)
    obtain ⟨y0, y1, y2, y3, y4, y5, y6, y7, y8, y9, y10, y11, _⟩ := cells12 ((hk3.block w.heap.size (by simp) (by simp)).trans hbA.out)
    clear hk3
    go_wp2
    go_ret
    exact ⟨rfl, hkf1.out⟩
  by_cases h4 : 0 ≤ i
  case neg =>
    have dh4 : decide (0 ≤ i) = false := by simp; omega
    have er : r = false := by rw [← hr.out]; simp [h1, h2, h3, dh4]
    subst er
    go_enter Tryz.func64, Tryz.ntmps64
    go_wp2_with fail
    refine (cv1.out _).mono ?_
    rintro e w3 ⟨rfl, hk3⟩
    have hkf1 := Lib.hid (hkA.out.trans hk3)
    obtain ⟨y0, y1, y2, y3, y4, y5, y6, y7, y8, y9, y10, y11, _⟩ := cells12 ((hk3.block w.heap.size (by simp) (by simp)).trans hbA.out)
    clear hk3
    go_wp2
    go_ret
    exact ⟨rfl, hkf1.out⟩
  by_cases h5 : 0 ≤ d
  case neg =>
    have dh5 : decide (0 ≤ d) = false := by simp; omega
    have er : r = false := by rw [← hr.out]; simp [h1, h2, h3, h4, dh5]
    subst er
    go_enter Tryz.func64, Tryz.ntmps64
    go_wp2_with fail
    refine (cv1.out _).mono ?_
    rintro e w3 ⟨rfl, hk3⟩
    have hkf1 := Lib.hid (hkA.out.trans hk3)
    obtain ⟨y0, y1, y2, y3, y4, y5, y6, y7, y8, y9, y10, y11, _⟩ := cells12 ((hk3.block w.heap.size (by simp) (by simp)).trans hbA.out)
    clear hk3
    go_wp2
    go_ret
    exact ⟨rfl, hkf1.out⟩
  cases v2
  case false => 
    have er : r = false := by rw [← hr.out]; simp [h1, h2, h3, h4, h5]
    subst er
    go_enter Tryz.func64, Tryz.ntmps64
    go_wp2_with fail
    refine (cv1.out _).mono ?_
    rintro e w3 ⟨rfl, hk3⟩
    have hkf1 := Lib.hid (hkA.out.trans hk3)
    obtain ⟨y0, y1, y2, y3, y4, y5, y6, y7, y8, y9, y10, y11, _⟩ := cells12 ((hk3.block w.heap.size (by simp) (by simp)).trans hbA.out)
    clear hk3
    go_wp2_with fail
    refine (cv2.out _).mono ?_
    rintro e w4 ⟨rfl, hk4⟩
    have hkf2 := Lib.hid (hkf1.out.trans hk4)
    clear hk4
    go_wp2
    go_ret
    exact ⟨rfl, hkf2.out⟩
  have er : r = true := by rw [← hr.out]; simp [h1, h2, h3, h4, h5]
  subst er
  go_enter Tryz.func64, Tryz.ntmps64
  go_wp2_with fail
  refine (cv1.out _).mono ?_
  rintro e w3 ⟨rfl, hk3⟩
  have hkf1 := Lib.hid (hkA.out.trans hk3)
  obtain ⟨y0, y1, y2, y3, y4, y5, y6, y7, y8, y9, y10, y11, _⟩ := cells12 ((hk3.block w.heap.size (by simp) (by simp)).trans hbA.out)
  clear hk3
  go_wp2_with fail
  refine (cv2.out _).mono ?_
  rintro e w4 ⟨rfl, hk4⟩
  have hkf2 := Lib.hid (hkf1.out.trans hk4)
  clear hk4
  go_wp2
  go_ret
  exact ⟨rfl, hkf2.out⟩
abbrev tbV (v : Value) : Value := .agg #[v]
/-- The index, as the specification gives it. -/
def idxI (k : Ky) (S : List Rw) : Int := match idx k S with | none => -1 | some j => j
set_option maxRecDepth 100000 in
set_option maxHeartbeats 4000000 in
theorem index_c (w : World) (v : Value) (S : List Rw) (c : Int) (m : Nat) (h : shR.R w v S) :
    Calls Tryz.prog 65 #[tbV v, .int .i64 c, .int .u64 m] w fun e w' => e = .returned (.int .i64 (idxI (c, m) S)) ∧ Keeps [] w w' := by
  obtain ⟨a, cp, rfl, hlc, hcm, _⟩ := h.form
  have hel := fun k hk => h.elem (k := k) hk
  obtain ⟨M, hM⟩ : ∃ N, S.length = N := ⟨_, rfl⟩
  rw [hM] at hlc ⊢
  have hMm : M ≤ 9223372036854775807 := by unfold maxLen at hcm; omega
  have hkA : Keeps [] w (w.alloc (.cells #[.slice a M cp] tTb)) := (Keeps.refl _ _).alloc _
  obtain ⟨r, hr⟩ : ∃ r, idxI (c, m) S = r := ⟨_, rfl⟩
  rw [hr]
  unfold idxI at hr
  replace hkA := Lib.hid hkA
  replace hel := Lib.hid hel
  replace hM := Lib.hid hM
  replace hr := Lib.hid hr
  clear h hcm
  go_enter Tryz.func65, Tryz.ntmps65
  go_wp2
  go_loop [7] (fun i => ∃ k : Nat, i = .int .i64 k ∧ k ≤ M ∧ Hid (∀ i (h : i < S.length), i < k → S[i].1.key ≠ (c, m))) (fun i => M - (intOf i).toNat)
  case atStart => exact ⟨0, rfl, by omega, Lib.hid (fun _ _ h => by omega)⟩
  case round =>
    obtain ⟨k, rfl, hk, hno⟩ := hrel
    by_cases hlt : k < M
    · have hkS : k < S.length := by rw [hM.out]; exact hlt
      obtain ⟨g, o, c', hv, he⟩ := hel.out k hkS
      rw [hM.out] at hv
      cases hv
      obtain ⟨x, hx⟩ : ∃ x, S[k] = x := ⟨_, rfl⟩
      rw [hx] at he
      have e0 := he 0 _ rfl
      have e1 := he 1 _ rfl
      simp only [shR, Nat.add_zero] at e0 e1
      have hgl := lt_of_cell e0
      obtain ⟨x0, hx0⟩ : ∃ z, x.1.cl = z := ⟨_, rfl⟩
      obtain ⟨x1, hx1⟩ : ∃ z, x.1.n = z := ⟨_, rfl⟩
      rw [hx0] at e0
      rw [hx1] at e1
      have hkey : S[k].1.key = (x0, x1) := by rw [hx, ← hx0, ← hx1]
      replace hkey := Lib.hid hkey
      clear he hx hx0 hx1
      by_cases h0 : x0 = c
      · subst h0
        by_cases h1 : x1 = m
        · subst h1
          have e : r = k := by
            rw [← hr.out, idx_step hkS (fun i hi => hno.out i (by omega) hi) hkey.out]
          subst e
          go_wp2
          go_ret
          exact ⟨rfl, hkA.out⟩
        · have hb : ((x1 : Int) == m) = false := by simp; omega
          replace h1 := Lib.hid h1
          go_wp2
          go_round
          case rel => exact ⟨k + 1, rfl, by omega, Lib.hid (fun i hi hik => by
            by_cases e : i = k
            · subst e; rw [hkey.out]; exact fun e => h1.out (congrArg Prod.snd e)
            · exact hno.out i hi (by omega))⟩
          case measure => simp [intOf]; omega
      · have hb : (x0 == c) = false := by simpa using h0
        replace h0 := Lib.hid h0
        go_wp2
        go_round
        case rel => exact ⟨k + 1, rfl, by omega, Lib.hid (fun i hi hik => by
            by_cases e : i = k
            · subst e; rw [hkey.out]; exact fun e => h0.out (congrArg Prod.fst e)
            · exact hno.out i hi (by omega))⟩
        case measure => simp [intOf]; omega
    · have e : r = -1 := by rw [← hr.out, idx_all (fun i hi => hno.out i hi (by have := hM.out; omega))]
      subst e
      go_wp2
      go_ret
      exact ⟨rfl, hkA.out⟩
end Go.Proofs.YtblaaafpglomnaaGreat

namespace Go.Proofs.YtblaaafpglomnaaGreat
open Go Go.RowKit

theorem idxI_none {k : Ky} {S : List Rw} (h : idx k S = none) : idxI k S = -1 := by unfold idxI; rw [h]
theorem idxI_some {k : Ky} {S : List Rw} {j : Nat} (h : idx k S = some j) : idxI k S = j := by unfold idxI; rw [h]
set_option maxRecDepth 100000 in
set_option maxHeartbeats 4000000 in
theorem findR_c (w : World) (v : Value) (S : List Rw) (c : Int) (m : Nat) (h : shR.R w v S) :
    Calls Tryz.prog 87 #[tbV v, .int .i64 c, .int .u64 m] w fun e w' => e = .returned (.tuple #[enV ((fnd (c, m) S).getD (.zero, 0)).1, .int .i64 ((fnd (c, m) S).getD (.zero, 0)).2, .bool (fnd (c, m) S).isSome]) ∧ Keeps [] w w' := by
  obtain ⟨a, cp, rfl, hlc, hcm, _⟩ := h.form
  have hkA : Keeps [] w ((w.alloc (.cells #[.slice a S.length cp] tTb)).alloc (.cells #[.int .i64 0, .int .u64 0, .int .i64 0, .int .i64 0, .int .i64 0, .int .i64 0, .int .i64 0, .bool false, .bool false, .bool false, .int .i64 0, .int .i64 0] tE)) := ((Keeps.refl _ _).alloc _).alloc _
  have hbX := two_a w (.cells #[.slice a S.length cp] tTb) (.cells #[.int .i64 0, .int .u64 0, .int .i64 0, .int .i64 0, .int .i64 0, .int .i64 0, .int .i64 0, .bool false, .bool false, .bool false, .int .i64 0, .int .i64 0] tE)
  have hbZ := two_b w (.cells #[.slice a S.length cp] tTb) (.cells #[.int .i64 0, .int .u64 0, .int .i64 0, .int .i64 0, .int .i64 0, .int .i64 0, .int .i64 0, .bool false, .bool false, .bool false, .int .i64 0, .int .i64 0] tE)
  have hix := fun W (hk : Keeps [] w W) => index_c W _ S c m (h.keeps hk)
  obtain ⟨M, hM⟩ : ∃ N, S.length = N := ⟨_, rfl⟩
  have hMm : M ≤ 9223372036854775807 := by unfold maxLen at hcm; omega
  obtain ⟨X, hX⟩ : ∃ X, w.heap.size = X := ⟨_, rfl⟩
  have hlX := lt_of_blk hbX
  have hlZ := lt_of_blk hbZ
  rw [hM] at hbX hbZ hkA hlX hlZ hix hlc ⊢
  rw [hX] at hbX hbZ hlX hlZ
  cases hi : idx (c, m) S with
  | none =>
    have hfn := idx_none.1 hi
    rw [hfn]
    rw [idxI_none hi] at hix
    replace hix := Lib.hid hix
    replace hkA := Lib.hid hkA
    replace hbX := Lib.hid hbX
    replace hbZ := Lib.hid hbZ
    replace hM := Lib.hid hM
    clear h hi hfn
    simp only [tbV] at hix ⊢
    go_enter Tryz.func87, Tryz.ntmps87
    go_wp2_with fail
    refine (hix.out _ hkA.out).mono ?_
    rintro e w1 ⟨rfl, hk1⟩
    have hk2 := hkA.out.trans hk1
    have hbz := (hk1.block (X + 1) hlZ (by simp)).trans hbZ.out
    obtain ⟨z0, z1, z2, z3, z4, z5, z6, z7, z8, z9, z10, z11, _⟩ := cells12 hbz
    have hfz := frz hbz
    replace hk2 := Lib.hid hk2
    replace hbz := Lib.hid hbz
    clear hk1
    go_wp2
    obtain ⟨hs1, hs2⟩ := st12 (x0 := .int .i64 0) (x1 := .int .u64 0) (x2 := .int .i64 0) (x3 := .int .i64 0) (x4 := .int .i64 0) (x5 := .int .i64 0) (x6 := .int .i64 0) (x7 := .bool false) (x8 := .bool false) (x9 := .bool false) (x10 := .int .i64 0) (x11 := .int .i64 0) hbz.out
    refine bodyPost_ret (results_e3 rfl _ _ _ _ .zero _ rfl hs1) rfl ?_
    exact ⟨rfl, hk2.out.fresh hs2 (fun b hb => .inr (by simp at hb; omega))⟩
  | some j =>
    obtain ⟨hj, hfn⟩ := idx_some hi
    rw [hfn]
    rw [idxI_some hi] at hix
    have hel := fun W (hk : Keeps [] w W) => (h.keeps hk).elem hj
    obtain ⟨⟨⟨rcl, rn, rim, ris, ro, ri, rd, rtc, rwk, rgb, rlm, rls⟩, rh⟩, hr⟩ : ∃ r, S[j] = r := ⟨_, rfl⟩
    rw [hr]
    simp only [hr] at hel
    have hjM : j < M := by omega
    have hjM2 : (j : Int) < M := by omega
    replace hix := Lib.hid hix
    replace hel := Lib.hid hel
    replace hkA := Lib.hid hkA
    replace hbX := Lib.hid hbX
    replace hbZ := Lib.hid hbZ
    replace hr := Lib.hid hr
    replace h := Lib.hid h
    clear hi hfn
    simp only [tbV] at hix ⊢
    go_enter Tryz.func87, Tryz.ntmps87
    go_wp2_with fail
    refine (hix.out _ hkA.out).mono ?_
    rintro e w1 ⟨rfl, hk1⟩
    have hk2 := hkA.out.trans hk1
    have hbz := (hk1.block (X + 1) hlZ (by simp)).trans hbZ.out
    have b0 := cells1 ((hk1.block X hlX (by simp)).trans hbX.out)
    obtain ⟨g, o, c', hv, he⟩ := hel.out w1 hk2
    rw [hM] at hv
    cases hv
    have e0 := he 0 _ rfl
    have e1 := he 1 _ rfl
    have e2 := he 2 _ rfl
    have e3 := he 3 _ rfl
    have e4 := he 4 _ rfl
    have e5 := he 5 _ rfl
    have e6 := he 6 _ rfl
    have e7 := he 7 _ rfl
    have e8 := he 8 _ rfl
    have e9 := he 9 _ rfl
    have e10 := he 10 _ rfl
    have e11 := he 11 _ rfl
    have e12 := he 12 _ rfl
    simp only [shR, rwCs, Nat.add_zero] at e0 e1 e2 e3 e4 e5 e6 e7 e8 e9 e10 e11 e12
    obtain ⟨z0, z1, z2, z3, z4, z5, z6, z7, z8, z9, z10, z11, _⟩ := cells12 hbz
    have hfz := frz hbz
    have hgZ : g ≠ X + 1 := fun e => by
      subst e
      obtain ⟨_, _, _, hv0, he0⟩ := h.out.elem hj
      rw [hM] at hv0
      cases hv0
      have h9 := lt_of_cell (he0 0 _ (by rw [hr.out]; rfl))
      omega
    have hXZ : X ≠ X + 1 := by omega
    replace hk2 := Lib.hid hk2
    replace hbz := Lib.hid hbz
    clear hk1 he
    go_wp2
    refine Free.wp_region_chain (fun i => i == 12) (fun i => true) (fun j b => j = 12 ∧ b = X + 1) (by kernel_rfl) (by kernel_rfl) (by kernel_rfl) ?_
    (repeat (first | (apply Free.cw_pure rfl rfl; (intro w'; go_simp <;> exact rfl); go_frame) | (apply Free.cw_steady rfl rfl rfl; (intro w' hS2; have z0 := Free.sx_cell hS2 b0 (fun _ _ hT => hXZ hT.2); have z1 := Free.sx_cell hS2 e0 (fun _ _ hT => hgZ hT.2); have z2 := Free.sx_cell hS2 e1 (fun _ _ hT => hgZ hT.2); have z3 := Free.sx_cell hS2 e2 (fun _ _ hT => hgZ hT.2); have z4 := Free.sx_cell hS2 e3 (fun _ _ hT => hgZ hT.2); have z5 := Free.sx_cell hS2 e4 (fun _ _ hT => hgZ hT.2); have z6 := Free.sx_cell hS2 e5 (fun _ _ hT => hgZ hT.2); have z7 := Free.sx_cell hS2 e6 (fun _ _ hT => hgZ hT.2); have z8 := Free.sx_cell hS2 e7 (fun _ _ hT => hgZ hT.2); have z9 := Free.sx_cell hS2 e8 (fun _ _ hT => hgZ hT.2); have z10 := Free.sx_cell hS2 e9 (fun _ _ hT => hgZ hT.2); have z11 := Free.sx_cell hS2 e10 (fun _ _ hT => hgZ hT.2); have z12 := Free.sx_cell hS2 e11 (fun _ _ hT => hgZ hT.2); have z13 := Free.sx_cell hS2 e12 (fun _ _ hT => hgZ hT.2); go_simp <;> exact rfl); go_frame)))
    refine Free.cw_loud rfl rfl (fun K hK => ?_)
    go_wp2
    apply hK
    · rfl
    · refine Free.KeepsP.drews ?_
      (repeat (refine Free.KeepsP.trans ?_ (Free.KeepsP.setCell _ (p := ⟨X + 1, _, none⟩) ⟨trivial, rfl⟩ _)))
      exact Free.KeepsP.refl _ _
    clear hK K
    (repeat (apply Free.cw_pure rfl rfl; (intro w'; go_simp <;> exact rfl); go_frame))
    refine Free.cw_nil ?_
    clear e0 e1 e2 e3 e4 e5 e6 e7 e8 e9 e10 e11 e12 z0 z1 z2 z3 z4 z5 z6 z7 z8 z9 z10 z11
    go_wp2
    obtain ⟨hs1, hs2⟩ := st12 (x0 := .int .i64 rcl) (x1 := .int .u64 rn) (x2 := .int .i64 rim) (x3 := .int .i64 ris) (x4 := .int .i64 ro) (x5 := .int .i64 ri) (x6 := .int .i64 rd) (x7 := .bool rtc) (x8 := .bool rwk) (x9 := .bool rgb) (x10 := .int .i64 rlm) (x11 := .int .i64 rls) hbz.out
    refine bodyPost_ret (results_e3 rfl _ _ _ _ ⟨rcl, rn, rim, ris, ro, ri, rd, rtc, rwk, rgb, rlm, rls⟩ _ rfl ((drewHeap _ _).trans hs1)) rfl ?_
    exact ⟨rfl, (hk2.out.fresh hs2 (fun b hb => .inr (by simp at hb; omega))).drew⟩
end Go.Proofs.YtblaaafpglomnaaGreat
