/- Texts that the laws lean on, in the order in which they build. What is encoded is decoded. Plain. The contract of the reference's encoding of a number. The reference's Encode. The law's run, with a bound for the numbers. The walk of the law Encoding. -/
import Derived.Test.YtmamlipgfkmcjaaK10
set_option linter.unusedVariables false
set_option linter.unusedSimpArgs false
namespace Go.Proofs.Ytmamlipgfkmcjaa
open Go.RowKit

theorem digs_head {n : Nat} (h : 0 < n) : ∃ b t, digs n = b :: t ∧ b ≠ 0 := by
  induction n using Nat.strongRecOn with
  | _ n ih =>
    rw [digs_pos h]
    rcases Nat.eq_zero_or_pos (n / 256) with e | e
    · rw [e, digs_zero]
      refine ⟨UInt8.ofNat (n % 256), [], rfl, fun e0 => ?_⟩
      have := congrArg UInt8.toNat e0
      simp at this; omega
    · obtain ⟨b, t, h1, h2⟩ := ih (n / 256) (by omega) e
      exact ⟨b, t ++ [UInt8.ofNat (n % 256)], by rw [h1]; rfl, h2⟩
theorem readU_encU (n : Nat) (l : List UInt8) (h : n < 18446744073709551616) : readU (encU n ++ l) = some (n, l) := by
  have h8 := digs_len8 h
  have hk : (UInt8.ofNat (digs n).length).toNat = (digs n).length := by simp; omega
  have hhead : 0 < (digs n).length → (digs n ++ l).headD 1 ≠ 0 := fun hp => by
    rcases Nat.eq_zero_or_pos n with e | e
    · rw [e, digs_zero] at hp; simp at hp
    · obtain ⟨b, t, h1, h2⟩ := digs_head e
      rw [h1]; simpa using h2
  simp only [encU, List.cons_append, readU, hk]
  rw [if_pos ⟨h8, by simp, hhead⟩]
  simp [valU_digs]
theorem readB_encB (b : Bool) (l : List UInt8) : readB (encB b ++ l) = some (b, l) := by
  cases b
  · show (if (0 : UInt8).toNat ≤ 1 then some ((0 : UInt8).toNat == 1, l) else none) = _
    rw [if_pos (by decide)]; rfl
  · show (if (1 : UInt8).toNat ≤ 1 then some ((1 : UInt8).toNat == 1, l) else none) = _
    rw [if_pos (by decide)]; rfl
theorem wd_enc : ∀ (L : List Hn) (last : Nat) (acc : List Hn), MapL.Asc L → (∀ p ∈ L, (last : Int) < p.1 ∧ p.1 ≤ 4294967296 ∧ p.2.1 < 18446744073709551616) → wd L.length last (encL L, 0) acc = some (acc ++ L, ([], 0))
  | [], last, acc, _, _ => by simp [wd, encL]
  | (h, x, b) :: t, last, acc, ha, hp => by
    obtain ⟨h1, h2⟩ := List.pairwise_cons.1 ha
    obtain ⟨p1, p2, p3⟩ := hp (h, x, b) (by simp)
    simp only at p1 p2 p3
    obtain ⟨n, rfl⟩ : ∃ n : Nat, h = n := ⟨h.toNat, by omega⟩
    have e0 : encL (((n : Int), x, b) :: t) = encU n ++ (encB b ++ (encU x ++ encL t)) := by simp [encL, encH]
    rw [e0, List.length_cons, wd_step (rU_some (readU_encU n _ (by omega))) (rB_some (readB_encB b _)) (rU_some (readU_encU x _ p3)), if_neg (by omega)]
    rw [wd_enc t n _ h2 (fun q hq => ⟨by have := h1 q hq; exact this, (hp q (by simp [hq])).2⟩)]
    simp
theorem encL_ge : ∀ (L : List Hn), L.length ≤ (encL L).length
  | [] => by simp
  | p :: t => by
    have := encL_ge t
    have e : encL (p :: t) = encH p ++ encL t := by simp [encL]
    have : 1 ≤ (encH p).length := by simp [encH, encU]
    rw [e, List.length_append, List.length_cons]; omega
theorem enc_dec {L : List Hn} (ha : MapL.Asc L) (hp : ∀ p ∈ L, 1 ≤ p.1 ∧ p.1 ≤ 4294967296 ∧ p.2.1 < 18446744073709551616) (hl : L.length ≤ 65536) : wdec (encT L) = (0, L) := by
  have hr : readU (encT L) = some (L.length, encL L) := readU_encU _ _ (by omega)
  have hc : rC (encT L) = (L.length, (encL L, 0)) := by
    have hcE : cE L.length (encL L) = 0 := by
      unfold cE
      rw [if_neg (by omega), if_neg (by have := encL_ge L; omega)]
    unfold rC
    simp only [hr]
    rw [if_pos hcE]
  unfold wdec
  rw [hc]
  show out (wd L.length 0 (encL L, 0) []) = _
  rw [wd_enc L 0 [] ha (fun p hm => ⟨by have := (hp p hm).1; omega, (hp p hm).2⟩)]
  rfl
end Go.Proofs.Ytmamlipgfkmcjaa

namespace Go.Proofs.Ytmamlipgfkmcjaa
open Go.RowKit

theorem Buf.mono {w : World} {b b' : Nat} {v : Value} {l : List UInt8} (h : Buf w b v l) (hb : b' ≤ b) : Buf w b' v l := by
  refine ⟨h.1, ?_⟩
  rcases h.2 with hn | ⟨g, cap, cur, rfl, hg, rest⟩
  · exact .inl hn
  · exact .inr ⟨g, cap, cur, rfl, by omega, rest⟩
set_option maxRecDepth 100000 in
set_option maxHeartbeats 2000000 in
theorem refU_c (w : World) (v0 : Value) (l : List UInt8) (n : Nat) (h : SlB w v0 l) (hn : n < 18446744073709551616) (hl : l.length ≤ 140737488355000) :
    Calls Try.prog 49 #[v0, .int .u64 n] w fun e w' => ∃ v', e = .returned v' ∧ Buf w' w.heap.size v' (l ++ encU n) ∧ Keeps [] w w' := by
  obtain ⟨a0, c0, rfl⟩ := h.form
  replace h := Lib.hid h
  go_enter Try.func49, Try.ntmps49
  go_wp2_with fail
  go_loopw [1, 5] (fun n' d wr => ∃ (m : Nat) (L : List UInt8), m ≤ n ∧ n' = .int .u64 m ∧ Hid (digs n = digs m ++ L) ∧ Buf wr w.heap.size d L ∧ Keeps [] w wr) (fun n' _ _ => (intOf n').toNat)
  case atStart => exact ⟨n, [], by omega, rfl, by show _ = _; simp, Buf.fresh w, (Keeps.refl [] w).alloc _⟩
  case round =>
    obtain ⟨m, L, hm, rfl, hL, hB, hk⟩ := hrel
    obtain ⟨aL, cL, rfl⟩ := hB.form
    have hsz := hk.size
    have hLl : L.length ≤ 8 := by
      have h1 := congrArg List.length hL.out
      have h2 := digs_len8 (n := n) (by omega)
      simp at h1; omega
    replace hB := Lib.hid hB
    replace hk := Lib.hid hk
    by_cases hp : 0 < m
    · have hd : Hid (digs n = digs (m / 256) ++ (UInt8.ofNat (m % 256) :: L)) := by show _ = _; rw [hL.out, digs_pos hp]; simp
      clear hL
      go_wp2_with (at_builtin; (refine wpl_appB _ w.heap.size (.slice (some ⟨_, 0, none⟩) 1 1) [UInt8.ofNat (m % 256)] rfl _ _ rfl rfl _ L rfl ((Buf.one _ (UInt8.ofNat (m % 256)) (by simp)).mono (by omega)) (hB.out.slB.keeps ((Keeps.refl [] _).alloc _)) (by simp; omega) (by simp; omega) ?_; intro v2 w2 hB2 hG2))
      go_roundw
      case rel => exact ⟨m / 256, _, by omega, by go_num, hd, hB2, hG2.keeps (hk.out.alloc _) (by simp [Value.ownBlock]; omega)⟩
      case measure => simp [intOf]; omega
    · have hm0 : m = 0 := by omega
      have hdL : Hid (digs n = L) := by show _ = _; rw [hL.out, hm0, digs_zero]; simp
      clear hL hm
      subst hm0
      go_wp2_with (first
        | (at_builtin; (refine wpl_appB _ wr.heap.size (.slice (some ⟨wr.heap.size, 0, none⟩) 0 0) [] rfl (.tmp 17) (.tmp 18) rfl rfl _ l rfl (Buf.fresh wr) ((h.out.keeps hk.out).keeps ((Keeps.refl [] _).alloc _)) (by simp; omega) (by simp) ?_; intro v2 w2 hB2 hG2; have hkk2 := Lib.hid (hG2.keeps ((Keeps.refl [] wr).alloc _) (by simp [Value.ownBlock])); have hB2' := Lib.hid hB2; clear hB2 hG2))
        | (at_builtin; (refine wpl_pushB _ wr.heap.size v2 _ _ rfl (.tmp 19) (.tmp 23) rfl rfl rfl hB2'.out (UInt8.ofNat L.length) (by simp; omega) (by simp; omega) (by have := hkk2.out.size; omega) ?_; intro v3 w3 hB3 hG3; have hkk3 := Lib.hid (hG3.keeps hkk2.out (fun b hb => ownBlock_ge hB2'.out b hb)); have hB3' := Lib.hid hB3; clear hB3 hG3))
        | (at_builtin; (refine wpl_appB _ wr.heap.size v3 _ rfl (.tmp 24) (.tmp 25) rfl rfl _ L rfl hB3'.out (hB.out.slB.keeps hkk3.out) (by simp; omega) (by have := hkk3.out.size; omega) ?_; intro v4 w4 hB4 hG4; have hkk4 := Lib.hid (hG4.keeps hkk3.out (fun b hb => ownBlock_ge hB3'.out b hb)); have hB4' := Lib.hid hB4; clear hB4 hG4)))
      go_ret
      refine ⟨_, rfl, ?_, hk.out.trans hkk4.out⟩
      have := hB4'.out.mono hsz
      rw [← hdL.out] at this
      simpa [encU] using this
end Go.Proofs.Ytmamlipgfkmcjaa

namespace Go.Proofs.Ytmamlipgfkmcjaa
open Go.RowKit

set_option maxRecDepth 100000 in
set_option maxHeartbeats 2000000 in
theorem refB_c (w : World) (v0 : Value) (l : List UInt8) (b : Bool) (h : SlB w v0 l) (hl : l.length ≤ 140737488355000) :
    Calls Try.prog 50 #[v0, .bool b] w fun e w' => ∃ v', e = .returned v' ∧ SlB w' v' (l ++ encB b) ∧ Keeps [] w w' := by
  obtain ⟨a0, c0, rfl⟩ := h.form
  replace h := Lib.hid h
  cases b
  · go_enter Try.func50, Try.ntmps50
    go_wp2_with (first
      | (at_builtin; (refine wpl_appB _ w.heap.size (.slice (some ⟨w.heap.size, 0, none⟩) 0 0) [] rfl (.tmp 11) (.tmp 12) rfl rfl _ l rfl (Buf.fresh w) (h.out.keeps ((Keeps.refl [] w).alloc _)) (by simp; omega) (by simp) ?_; intro v2 w2 hB2 hG2; have hkk2 := Lib.hid (hG2.keeps ((Keeps.refl [] w).alloc _) (by simp [Value.ownBlock])); have hB2' := Lib.hid hB2; clear hB2 hG2))
      | (at_builtin; (refine wpl_pushB _ w.heap.size v2 _ _ rfl (.tmp 13) (.tmp 14) rfl rfl rfl hB2'.out (0 : UInt8) (by rfl) (by simp; omega) (by have := hkk2.out.size; omega) ?_; intro v3 w3 hB3 hG3; have hkk3 := Lib.hid (hG3.keeps hkk2.out (fun b hb => ownBlock_ge hB2'.out b hb)); have hB3' := Lib.hid hB3; clear hB3 hG3)))
    go_ret
    exact ⟨_, rfl, by have := hB3'.out.slB; simpa [encB] using this, hkk3.out⟩
  · go_enter Try.func50, Try.ntmps50
    go_wp2_with (first
      | (at_builtin; (refine wpl_appB _ w.heap.size (.slice (some ⟨w.heap.size, 0, none⟩) 0 0) [] rfl (.tmp 6) (.tmp 7) rfl rfl _ l rfl (Buf.fresh w) (h.out.keeps ((Keeps.refl [] w).alloc _)) (by simp; omega) (by simp) ?_; intro v2 w2 hB2 hG2; have hkk2 := Lib.hid (hG2.keeps ((Keeps.refl [] w).alloc _) (by simp [Value.ownBlock])); have hB2' := Lib.hid hB2; clear hB2 hG2))
      | (at_builtin; (refine wpl_pushB _ w.heap.size v2 _ _ rfl (.tmp 8) (.tmp 9) rfl rfl rfl hB2'.out (1 : UInt8) (by rfl) (by simp; omega) (by have := hkk2.out.size; omega) ?_; intro v3 w3 hB3 hG3; have hkk3 := Lib.hid (hG3.keeps hkk2.out (fun b hb => ownBlock_ge hB2'.out b hb)); have hB3' := Lib.hid hB3; clear hB3 hG3)))
    go_ret
    exact ⟨_, rfl, by have := hB3'.out.slB; simpa [encB] using this, hkk3.out⟩
set_option maxRecDepth 100000 in
set_option maxHeartbeats 4000000 in
theorem encodeR_c (w : World) (v0 : Value) (L : List Hn) (h : shE.R w v0 L) (hG : Good L) (hp : ∀ p ∈ L, 1 ≤ p.1) (hL : L.length < 1000000) :
    Calls Try.prog 29 #[v0] w fun e w' => ∃ v, e = .returned v ∧ SlB w' v (encT L) ∧ Keeps [] w w' := by
  obtain ⟨a0, c0, rfl, hlc, hcm, _⟩ := h.form
  obtain ⟨M, hM⟩ : ∃ M, L.length = M := ⟨_, rfl⟩
  rw [hM] at hlc h hL ⊢
  have hlu : ∀ p ∈ L, p.1.toNat < 18446744073709551616 ∧ p.2.1 < 18446744073709551616 := fun p hm => ⟨by have := w64_le (hG.w p hm); omega, hG.u p hm⟩
  replace hlu := Lib.hid hlu
  replace hM := Lib.hid hM
  replace hG := Lib.hid hG
  replace hp := Lib.hid hp
  replace h := Lib.hid h
  go_enter Try.func29, Try.ntmps29
  go_wp2_with fail
  refine (refU_c w (.slice none 0 0) [] M (SlB.nil _) (by omega) (by simp)).mono ?_
  rintro e w1 ⟨v1, rfl, hB1, hk1⟩
  rw [List.nil_append] at hB1
  have hS1 := hB1.slB
  replace hS1 := Lib.hid hS1
  replace hk1 := Lib.hid hk1
  clear hB1
  go_wp2
  go_loopw [3, 4] (fun bv iv wr => ∃ k : Nat, iv = .int .i64 k ∧ k ≤ M ∧ SlB wr bv (encU M ++ encL (L.take k)) ∧ Keeps [] w wr) (fun _ iv _ => M - (intOf iv).toNat)
  case atStart => exact ⟨0, rfl, by omega, by simpa [encL] using hS1.out, hk1.out⟩
  case round =>
    obtain ⟨k, rfl, hk, hB, hkr⟩ := hrel
    by_cases hlt : k < M
    · have hkl : k < L.length := by rw [hM.out]; exact hlt
      obtain ⟨g, o, c', hv, e0, e1, e2⟩ := elemE (h.out.keeps hkr) hkl
      rw [hM.out] at hv
      cases hv
      have hx64 := hG.out.w _ (List.getElem_mem hkl)
      have hx1 := hp.out _ (List.getElem_mem hkl)
      have hlub := hlu.out _ (List.getElem_mem hkl)
      have hsn : encL (L.take (k + 1)) = encL (L.take k) ++ encH L[k] := by rw [List.take_add_one, List.getElem?_eq_getElem hkl]; exact encL_snoc _ _
      have hel := encL_len (L := L.take k) (fun p hm => hlu.out p (List.mem_of_mem_take hm))
      rw [List.length_take, hM.out] at hel
      have hem := encU_len (n := M) (by omega)
      obtain ⟨y, hy⟩ : ∃ y, L[k] = y := ⟨_, rfl⟩
      rw [hy] at e0 e1 e2 hx64 hx1 hlub hsn
      obtain ⟨y1, y2, y3⟩ := y
      simp only at e0 e1 e2 hx64 hx1 hlub hsn
      obtain ⟨n1, rfl⟩ : ∃ n : Nat, y1 = n := ⟨y1.toNat, by omega⟩
      rw [Int.toNat_natCast] at hlub
      obtain ⟨hn1, hn2⟩ := hlub
      have hen1 := encU_len hn1
      have hen2 := encU_len hn2
      have hn63 := w64_le hx64
      obtain ⟨D, hD⟩ : ∃ D, encU M ++ encL (L.take k) = D := ⟨_, rfl⟩
      have hDl : D.length ≤ 9 + 19 * k := by rw [← hD, List.length_append]; omega
      have hfin : encU M ++ encL (L.take (k + 1)) = D ++ encU n1 ++ encB y3 ++ encU y2 := by rw [hsn, ← hD]; simp [encH]
      rw [hD] at hB
      replace hy := Lib.hid hy
      replace hD := Lib.hid hD
      replace hfin := Lib.hid hfin
      replace hB := Lib.hid hB
      replace hkr := Lib.hid hkr
      clear hsn hel hem
      go_wp2
      refine Free.wp_region_chain (fun i => i == 7 || i == 13 || i == 19) (fun i => true) (fun _ b => False) (by kernel_rfl) (by kernel_rfl) (by kernel_rfl) ?_
      (repeat (first | (apply Free.cw_pure rfl rfl; (intro w'; go_simp <;> exact rfl); go_frame) | (apply Free.cw_steady rfl rfl rfl; (intro w' hS; have q0 := Free.sx_cell hS e0 (fun _ _ hT => hT); have q1 := Free.sx_cell hS e1 (fun _ _ hT => hT); have q2 := Free.sx_cell hS e2 (fun _ _ hT => hT); go_simp <;> exact rfl); go_frame) | (refine Free.cw_skip rfl ?_; go_frame)))
      refine Free.cw_loud rfl rfl (fun K hK => ?_)
      go_wp2_with fail
      refine (refU_c _ _ D n1 (hB.out.keeps (Keeps.refl [] _).drew) hn1 (by omega)).mono ?_
      rintro e w5 ⟨v5, rfl, hB5, hk5⟩
      refine hK _ _ rfl (Free.KeepsP.of hk5 (by simp)) ?_
      clear hK K
      have hS5 := hB5.slB
      have hk05 := (hkr.out.trans (Keeps.refl [] wr).drew).trans hk5
      obtain ⟨D5, hD5⟩ : ∃ x, D ++ encU n1 = x := ⟨_, rfl⟩
      have hl5 : D5.length ≤ 9 + 19 * k + 9 := by rw [← hD5]; simp; omega
      rw [hD5] at hS5
      replace hD5 := Lib.hid hD5
      replace hS5 := Lib.hid hS5
      replace hk05 := Lib.hid hk05
      clear hB5 hk5 hkr hB
      (repeat (first | (apply Free.cw_pure rfl rfl; (intro w'; go_simp <;> exact rfl); go_frame) | (apply Free.cw_steady rfl rfl rfl; (intro w' hS; have q0 := Free.sx_cell hS e0 (fun _ _ hT => hT); have q1 := Free.sx_cell hS e1 (fun _ _ hT => hT); have q2 := Free.sx_cell hS e2 (fun _ _ hT => hT); go_simp <;> exact rfl); go_frame) | (refine Free.cw_skip rfl ?_; go_frame)))
      refine Free.cw_loud rfl rfl (fun K hK => ?_)
      go_wp2_with fail
      refine (refB_c _ _ D5 y3 hS5.out (by omega)).mono ?_
      rintro e w6 ⟨v6, rfl, hS6, hk6⟩
      refine hK _ _ rfl (Free.KeepsP.of hk6 (by simp)) ?_
      clear hK K
      have hk06 := hk05.out.trans hk6
      obtain ⟨D6, hD6⟩ : ∃ x, D5 ++ encB y3 = x := ⟨_, rfl⟩
      have hl6 : D6.length ≤ 9 + 19 * k + 10 := by rw [← hD6]; simp [encB]; omega
      rw [hD6] at hS6
      replace hD6 := Lib.hid hD6
      replace hS6 := Lib.hid hS6
      replace hk06 := Lib.hid hk06
      clear hk6 hk05 hS5
      (repeat (first | (apply Free.cw_pure rfl rfl; (intro w'; go_simp <;> exact rfl); go_frame) | (apply Free.cw_steady rfl rfl rfl; (intro w' hS; have q0 := Free.sx_cell hS e0 (fun _ _ hT => hT); have q1 := Free.sx_cell hS e1 (fun _ _ hT => hT); have q2 := Free.sx_cell hS e2 (fun _ _ hT => hT); go_simp <;> exact rfl); go_frame) | (refine Free.cw_skip rfl ?_; go_frame)))
      refine Free.cw_loud rfl rfl (fun K hK => ?_)
      go_wp2_with fail
      refine (refU_c _ _ D6 y2 hS6.out hn2 (by omega)).mono ?_
      rintro e w7 ⟨v7, rfl, hB7, hk7⟩
      refine hK _ _ rfl (Free.KeepsP.of hk7 (by simp)) ?_
      clear hK K
      have hS7 := hB7.slB
      have hk07 := hk06.out.trans hk7
      rw [← hD6.out, ← hD5.out, ← hfin.out] at hS7
      replace hS7 := Lib.hid hS7
      replace hk07 := Lib.hid hk07
      clear hk7 hk06 hS6 hB7
      (repeat (first | (apply Free.cw_pure rfl rfl; (intro w'; go_simp <;> exact rfl); go_frame) | (apply Free.cw_steady rfl rfl rfl; (intro w' hS; have q0 := Free.sx_cell hS e0 (fun _ _ hT => hT); have q1 := Free.sx_cell hS e1 (fun _ _ hT => hT); have q2 := Free.sx_cell hS e2 (fun _ _ hT => hT); go_simp <;> exact rfl); go_frame) | (refine Free.cw_skip rfl ?_; go_frame)))
      refine Free.cw_nil ?_
      go_wp2
      go_roundw
      case rel => exact ⟨k + 1, rfl, by omega, hS7.out, hk07.out⟩
      case measure => simp [intOf]; omega
    · have hkM := Lib.hid (show k = M by omega)
      have hall : L.take k = L := List.take_of_length_le (by rw [hM.out]; omega)
      rw [hall] at hB
      replace hall := Lib.hid hall
      replace hB := Lib.hid hB
      replace hkr := Lib.hid hkr
      go_wp2
      go_ret
      exact ⟨_, rfl, by unfold encT; rw [hM.out]; exact hB.out, hkr.out⟩
end Go.Proofs.Ytmamlipgfkmcjaa

namespace Go.Proofs.Ytmamlipgfkmcjaa
open Go.RowKit

def RunPost2 (w : World) (l : List OpV) (e : Ending) (w' : World) : Prop :=
  ∃ bt bm v L, e = .returned (.tuple #[.pointer (some ⟨bt, 0, none⟩), v, .bool true]) ∧ Good L ∧ L.length ≤ l.length ∧ (∀ p ∈ L, 1 ≤ p.1 ∧ p.1 ≤ (l.length : Int)) ∧ TM w' bt bm L ∧ shE.R w' v L ∧ Keeps [] w w' ∧ w.heap.size ≤ bt ∧ w.heap.size ≤ bm
theorem StepR.pos2 {k x : Nat} {h : Int} {L L' : List Hn} {m : Nat} (s : StepR k h x L L') (hp : ∀ p ∈ L, 1 ≤ p.1 ∧ p.1 ≤ (m : Int)) (hl : L.length ≤ m) : ∀ p ∈ L', 1 ≤ p.1 ∧ p.1 ≤ ((m + 1 : Nat) : Int) := by
  have hp' : ∀ p ∈ L, 1 ≤ p.1 ∧ p.1 ≤ ((m + 1 : Nat) : Int) := fun p hm => ⟨(hp p hm).1, by have := (hp p hm).2; omega⟩
  rcases s with ⟨_, n, hf, rfl⟩ | ⟨_, rfl⟩ | ⟨_, rfl⟩ | ⟨_, rfl⟩
  · intro p hm
    rcases MapL.mem_ins hm with rfl | hm
    · have := hf.le
      exact ⟨hf.pos, by show n ≤ _; omega⟩
    · exact hp' p hm
  · unfold setL
    split
    · rename_i hs
      intro p hm
      rcases MapL.mem_ins hm with rfl | hm
      · obtain ⟨q, hq⟩ := Option.isSome_iff_exists.1 hs
        exact (show (1 : Int) ≤ h ∧ h ≤ ((m + 1 : Nat) : Int) from hp' (h, q) (MapL.get_mem hq))
      · exact hp' p hm
    · exact hp'
  · unfold dropL
    split
    · exact fun p hm => hp' p (List.mem_filter.1 hm).1
    · exact hp'
  · exact hp'
set_option maxRecDepth 100000 in
set_option maxHeartbeats 4000000 in
theorem run2_c (w : World) (v0 : Value) (l : List OpV) (h : shO.R w v0 l) (hok : ∀ o ∈ l, o.ok) (hl : l.length ≤ 400) :
    Calls Try.prog 11 #[v0] w (RunPost2 w l) := by
  obtain ⟨a0, c0, rfl, hlc, hcm, _⟩ := h.form
  obtain ⟨M, hM⟩ : ∃ N, l.length = N := ⟨_, rfl⟩
  rw [hM] at hlc hl h ⊢
  replace hM := Lib.hid hM
  replace h := Lib.hid h
  replace hok := Lib.hid hok
  go_enter Try.func11, Try.ntmps11
  go_wp2_with fail
  refine (new_c w).mono ?_
  rintro e w1 ⟨bt, bm, rfl, ht, hk1, hbt, hbm⟩
  have hka := (Keeps.refl [] w1).alloc (.cells #[] 34)
  have hO := Sh.O.fresh shE w1 w1.heap.size 34 (Nat.le_refl _)
  have ht1 := ht.keeps hka
  have hk1a := hk1.trans hka
  replace hO := Lib.hid hO
  replace ht1 := Lib.hid ht1
  replace hk1a := Lib.hid hk1a
  clear ht hka hk1
  go_wp2
  generalize w1.alloc (.cells #[] 34) = W at *
  go_loopw [6, 7, 8] (fun vv okv iv wr => ∃ (k : Nat) (L : List Hn), iv = .int .i64 k ∧ okv = .bool true ∧ k ≤ M ∧ Good L ∧ L.length ≤ k ∧ (∀ p ∈ L, 1 ≤ p.1 ∧ p.1 ≤ (k : Int)) ∧ TM wr bt bm L ∧ shE.R wr vv L ∧ Keeps [] w wr) (fun _ _ iv _ => M - (intOf iv).toNat)
  case atStart => exact ⟨0, [], rfl, rfl, by omega, ⟨List.Pairwise.nil, by simp, by simp⟩, by simp, by simp, ht1.out, hO.out.r, hk1a.out⟩
  case round =>
    obtain ⟨k, L, rfl, rfl, hk, hG, hLk, hp, htr, hrr, hkr⟩ := hrel
    by_cases hlt : k < M
    · have hkl : k < l.length := by rw [hM.out]; exact hlt
      obtain ⟨g, o, c', hv, e0, e1, e2⟩ := elemO (h.out.keeps hkr) hkl
      rw [hM.out] at hv
      cases hv
      obtain ⟨y1, y2, y3⟩ := hok.out _ (List.getElem_mem hkl)
      obtain ⟨x, hx⟩ : ∃ x, l[k] = x := ⟨_, rfl⟩
      rw [hx] at e0 e1 e2 y1 y2 y3
      obtain ⟨xk, xh, xx⟩ := x
      simp only at e0 e1 e2 y1 y2 y3
      replace hx := Lib.hid hx
      replace hG := Lib.hid hG
      replace hp := Lib.hid hp
      replace htr := Lib.hid htr
      replace hrr := Lib.hid hrr
      replace hkr := Lib.hid hkr
      go_wp2_with fail
      refine (step_c wr bt bm L _ xk xh xx htr.out hrr.out hG.out (by omega) y1 y2 y3).mono ?_
      rintro e w2 ⟨v', L', rfl, hs, ht2, hr2, hk2⟩
      obtain ⟨hG2, hl2⟩ := hs.good hG.out y2 y3 (by omega)
      have hp2 := hs.pos2 hp.out (by omega)
      have hkf := hkr.out.fresh hk2 (fun b hb => .inr (by simp at hb; omega))
      replace hG2 := Lib.hid hG2
      replace hp2 := Lib.hid hp2
      replace ht2 := Lib.hid ht2
      replace hr2 := Lib.hid hr2
      replace hkf := Lib.hid hkf
      clear hk2 hs e0 e1 e2
      go_wp2
      go_roundw
      case rel => exact ⟨k + 1, L', rfl, rfl, by omega, hG2.out, by omega, hp2.out, ht2.out, hr2.out, hkf.out⟩
      case measure => simp [intOf]; omega
    · have hkM := Lib.hid (show k = M by omega)
      replace hG := Lib.hid hG
      replace hp := Lib.hid hp
      replace htr := Lib.hid htr
      replace hrr := Lib.hid hrr
      replace hkr := Lib.hid hkr
      go_wp2
      refine bodyPost_ret (results_tmp3 rfl _ _ _) ?_ ?_
      · rfl
      · exact ⟨bt, bm, _, L, rfl, hG.out, by rw [hM.out]; omega, fun p hm => ⟨(hp.out p hm).1, by have := (hp.out p hm).2; rw [hM.out, ← hkM.out]; exact this⟩, htr.out, hrr.out, hkr.out, hbt, hbm⟩
end Go.Proofs.Ytmamlipgfkmcjaa

namespace Go.Proofs.Ytmamlipgfkmcjaa
open Go.RowKit Go.Maps
attribute [local go_sem] Oper.semAt_some

set_option maxRecDepth 100000 in
set_option maxHeartbeats 4000000 in
theorem encoding_c (w : World) (v : Value) (l : List OpV) (v' : Value) (l' : List OpV) (h0 : shO.R w v l) (hok : ∀ o ∈ l, o.ok) (h0' : shO.R w v' l') (hok' : ∀ o ∈ l', o.ok) :
    Calls Try.prog 9 #[v, v'] w fun e w' => e = .returned (.bool true) ∧ Keeps [] w w' := by
  obtain ⟨a0, c0, rfl, hlc, hcm, _⟩ := h0.form
  obtain ⟨a1, c1, rfl, hlc1, hcm1, _⟩ := h0'.form
  obtain ⟨M, hM⟩ : ∃ N, l.length = N := ⟨_, rfl⟩
  obtain ⟨W, hW⟩ : ∃ N, l'.length = N := ⟨_, rfl⟩
  rw [hM] at hlc h0 ⊢
  rw [hW] at hlc1 h0' ⊢
  have hMx : M ≤ 9223372036854775807 := by unfold Go.maxLen at hcm; omega
  have hWx : W ≤ 9223372036854775807 := by unfold Go.maxLen at hcm1; omega
  replace hM := Lib.hid hM
  replace hW := Lib.hid hW
  replace h0 := Lib.hid h0
  replace h0' := Lib.hid h0'
  replace hok := Lib.hid hok
  replace hok' := Lib.hid hok'
  go_enter Try.func9, Try.ntmps9
  go_wp2_with fail
  refine (awake_c w).mono ?_
  rintro e w1 ⟨rfl, hk1⟩
  have h1 := h0.out.keeps hk1
  have hz1 := hk1.size
  replace hk1 := Lib.hid hk1
  replace h1 := Lib.hid h1
  by_cases hbig : 40 < M
  · go_wp2
    go_ret
    exact ⟨rfl, hk1.out⟩
  by_cases hbig2 : 40 < W
  · go_wp2
    go_ret
    exact ⟨rfl, hk1.out⟩
  go_wp2_with fail
  refine (run2_c w1 _ l h1.out hok.out (by rw [hM.out]; omega)).mono ?_
  rintro e w2 ⟨bt, bm, v2, L, rfl, hG, hL, hp, t2, hr2, hk2, _, _⟩
  rw [hM.out] at hL hp
  replace hk2 := hk1.out.trans hk2
  have hdec : wdec (encT L) = (0, L) := enc_dec hG.asc (fun p hm => ⟨(hp p hm).1, by have := (hp p hm).2; omega, hG.u p hm⟩) (by omega)
  have hp1 : ∀ p ∈ L, 1 ≤ p.1 := fun p hm => (hp p hm).1
  replace hk2 := Lib.hid hk2
  replace hG := Lib.hid hG
  replace t2 := Lib.hid t2
  replace hr2 := Lib.hid hr2
  replace hdec := Lib.hid hdec
  replace hp1 := Lib.hid hp1
  clear hp h1
  go_wp2_with fail
  refine (encode_c w2 bt bm L t2.out hG.out hp1.out (by omega)).mono ?_
  rintro e w3 ⟨v3, rfl, hB3, hk3⟩
  have hs3 := hB3.slB
  have t3 := t2.out.keeps hk3
  have hr3 := hr2.out.keeps hk3
  replace hk3 := hk2.out.trans hk3
  have hen : (encT L).length ≤ 1000000 := by
    have h1 := encU_len (n := L.length) (by omega)
    have h2 := encL_len (L := L) (fun p hm => ⟨by have := w64_le (hG.out.w p hm); omega, hG.out.u p hm⟩)
    unfold encT; rw [List.length_append]; omega
  obtain ⟨a3, c3, rfl⟩ := hs3.form
  replace hs3 := Lib.hid hs3
  replace t3 := Lib.hid t3
  replace hr3 := Lib.hid hr3
  replace hk3 := Lib.hid hk3
  clear t2 hr2 hk2 hB3
  go_wp2_with fail
  refine (decode_c w3 _ (encT L) hs3.out (by omega)).mono ?_
  rintro e w4 hpost
  rw [hdec.out] at hpost
  rcases hpost with ⟨_, bu, mu, rfl, u4, _, _, _, hk4, hbu, hmu⟩ | ⟨hbad, _⟩
  rotate_left
  · exact absurd rfl hbad
  have t4 := t3.out.keeps hk4
  have hr4 := hr3.out.keeps hk4
  have hs4 := hs3.out.keeps hk4
  have hbt := lt_of_block t3.out.blk
  have hbm := t3.out.mp.lt
  have hw3 := hk3.out.size
  replace hk4 := hk3.out.trans hk4
  replace u4 : TM w4 bu mu L := u4
  obtain ⟨EN, hEN⟩ : ∃ EN, (encT L).length = EN := ⟨_, rfl⟩
  rw [hEN] at hs4 ⊢
  replace hEN := Lib.hid hEN
  replace t4 := Lib.hid t4
  replace u4 := Lib.hid u4
  replace hr4 := Lib.hid hr4
  replace hs4 := Lib.hid hs4
  replace hk4 := Lib.hid hk4
  clear t3 hr3 hs3 hk3
  go_wp2_with fail
  refine (encodeR_c w4 v2 L hr4.out hG.out hp1.out (by omega)).mono ?_
  rintro e w5 ⟨v5, rfl, hs5, hk5⟩
  have t5 := t4.out.keeps hk5
  have u5 := u4.out.keeps hk5
  have hr5 := hr4.out.keeps hk5
  have hs45 := hs4.out.keeps hk5
  replace hk5 := hk4.out.trans hk5
  replace t5 := Lib.hid t5
  replace u5 := Lib.hid u5
  replace hr5 := Lib.hid hr5
  replace hs5 := Lib.hid hs5
  replace hs45 := Lib.hid hs45
  replace hk5 := Lib.hid hk5
  clear t4 u4 hr4 hs4 hk4
  go_wp2_with fail
  refine (same_c w5 _ _ (encT L) (encT L) hs45.out hs5.out).mono ?_
  rintro e w6 ⟨rfl, rfl⟩
  rw [show decide (encT L = encT L) = true by simp]
  clear hs45 hs5
  go_wp2_with fail
  refine (tsame_c w5 bu mu L v2 u5.out hr5.out hG.out (by omega)).mono ?_
  rintro e w7 ⟨rfl, hk7⟩
  have t7 := t5.out.keeps hk7
  have u7 := u5.out.keeps hk7
  have hr7 := hr5.out.keeps hk7
  replace hk7 := hk5.out.trans hk7
  replace t7 := Lib.hid t7
  replace u7 := Lib.hid u7
  replace hr7 := Lib.hid hr7
  replace hk7 := Lib.hid hk7
  clear t5 u5 hr5 hk5
  have hbtm : bt ≠ mu ∧ bm ≠ mu := ⟨by omega, by omega⟩
  have hL40 : L.length ≤ 40 := by omega
  go_wp2
  go_loopw [11, 12] (fun kv iv wr => ∃ (i : Nat) (Lk : List Hn), iv = .int .i64 i ∧ i ≤ W ∧ TM wr bt bm L ∧ shE.R wr v2 L ∧ TM wr bu mu Lk ∧ shE.R wr kv Lk ∧ Good Lk ∧ Lk.length ≤ 40 + i ∧ Keeps [] w wr) (fun _ iv _ => W - (intOf iv).toNat)
  case atStart => exact ⟨0, L, rfl, by omega, t7.out, hr7.out, u7.out, hr7.out, hG.out, by omega, hk7.out⟩
  case round =>
    obtain ⟨i, Lk, rfl, hi, htr, hrr, hur, hkr', hGk, hLk, hkr⟩ := hrel
    clear t7 u7 hr7 hk7
    by_cases hlt : i < W
    · have hil : i < l'.length := by rw [hW.out]; exact hlt
      obtain ⟨g, o, c', hv, e0, e1, e2⟩ := elemO (h0'.out.keeps hkr) hil
      rw [hW.out] at hv
      cases hv
      obtain ⟨y1, y2, y3⟩ := hok'.out _ (List.getElem_mem hil)
      obtain ⟨x, hx⟩ : ∃ x, l'[i] = x := ⟨_, rfl⟩
      rw [hx] at e0 e1 e2 y1 y2 y3
      obtain ⟨xk, xh, xx⟩ := x
      simp only at e0 e1 e2 y1 y2 y3
      replace hx := Lib.hid hx
      replace htr := Lib.hid htr
      replace hrr := Lib.hid hrr
      replace hur := Lib.hid hur
      replace hkr' := Lib.hid hkr'
      replace hGk := Lib.hid hGk
      replace hkr := Lib.hid hkr
      go_wp2_with fail
      refine (step_c wr bu mu Lk _ xk xh xx hur.out hkr'.out hGk.out (by omega) y1 y2 y3).mono ?_
      rintro e wa ⟨va, La, rfl, hs, hua, hra, hka⟩
      obtain ⟨hGa, hLa⟩ := hs.good hGk.out y2 y3 (by omega)
      have hta := htr.out.keep hka (by simpa using hbtm.1) (by simpa using hbtm.2)
      have hra2 := hrr.out.keepN hka (fun b hb o => by simp at hb; subst hb; exact hur.out.mp.noCells o)
      have hkf := hkr.out.fresh hka (fun b hb => .inr (by simp at hb; omega))
      replace hGa := Lib.hid hGa
      replace hua := Lib.hid hua
      replace hra := Lib.hid hra
      replace hta := Lib.hid hta
      replace hra2 := Lib.hid hra2
      replace hkf := Lib.hid hkf
      clear hka hs e0 e1 e2 htr hrr hur hkr' hGk hkr
      go_wp2
      go_roundw
      case rel => exact ⟨i + 1, La, rfl, by omega, hta.out, hra2.out, hua.out, hra.out, hGa.out, by omega, hkf.out⟩
      case measure => simp [intOf]; omega
    · replace htr := Lib.hid htr
      replace hrr := Lib.hid hrr
      replace hur := Lib.hid hur
      replace hkr' := Lib.hid hkr'
      replace hGk := Lib.hid hGk
      replace hkr := Lib.hid hkr
      go_wp2_with fail
      refine (tsame_c wr bu mu Lk _ hur.out hkr'.out hGk.out (by omega)).mono ?_
      rintro e wa ⟨rfl, hka⟩
      have hta := htr.out.keeps hka
      have hra := hrr.out.keeps hka
      replace hka := hkr.out.trans hka
      replace hta := Lib.hid hta
      replace hra := Lib.hid hra
      replace hka := Lib.hid hka
      clear htr hrr hur hkr' hkr
      go_wp2_with fail
      refine (tsame_c wa bt bm L v2 hta.out hra.out hG.out (by omega)).mono ?_
      rintro e wb ⟨rfl, hkb⟩
      replace hkb := hka.out.trans hkb
      replace hkb := Lib.hid hkb
      go_wp2
      go_ret
      exact ⟨rfl, hkb.out⟩
end Go.Proofs.Ytmamlipgfkmcjaa
