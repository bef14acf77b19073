/- Texts that the laws lean on, in the order in which they build. The specification of scion tables: ForTarget, List. (Printed by mkscrl.py.) Stores into an owned list of rows. (Printed by mkscst.py.) A slice that reads as something keeps what it reads as. The specification of scion tables: Put. (Printed by mkscre.py.) The specification of scion tables: Touch. (Printed by mkscrt.py.) The specification of scion tables: Add. (Printed by mkscrd.py.) The specification of scion tables: Remove. (Printed by mkscrv.py.) The specification of scion tables: Clear. (Printed by mkscrk.py.) The law's operations. -/
import Derived.Test.YtblaaafpglomnaaGreatK6
set_option linter.unusedVariables false
set_option linter.unusedSimpArgs false
namespace Go.Proofs.YtblaaafpglomnaaGreat
open Go Go.RowKit

set_option maxRecDepth 100000 in
set_option maxHeartbeats 4000000 in
theorem listR_c (w : World) (v : Value) (S : List Rw) (h : shR.R w v S) (hl : S.length ≤ 100000) :
    Calls Tryz.prog 11 #[tbV v] w fun e w' => ∃ v', e = .returned v' ∧ shE.O w' w.heap.size tE v' (lst S) ∧ Keeps [] w w' := by
  obtain ⟨a, cp, rfl, hlc, hcm, _⟩ := h.form
  have hkA : Keeps [] w ((w.alloc (.cells #[.slice a S.length cp] tTb)).alloc (.cells #[] tE)) := ((Keeps.refl _ _).alloc _).alloc _
  have hbX := two_a w (.cells #[.slice a S.length cp] tTb) (.cells #[] tE)
  have hO0 := Sh.O.fresh shE (w.alloc (.cells #[.slice a S.length cp] tTb)) w.heap.size tE (by simp)
  obtain ⟨M, hM⟩ : ∃ N, S.length = N := ⟨_, rfl⟩
  rw [hM] at hbX hkA hO0 hlc hl ⊢
  rw [show (w.alloc (.cells #[.slice a M cp] tTb)).heap.size = w.heap.size + 1 by simp] at hO0
  obtain ⟨X, hX⟩ : ∃ X, w.heap.size = X := ⟨_, rfl⟩
  have hlX := lt_of_blk hbX
  rw [hX] at hbX hlX hO0 ⊢
  replace hkA := Lib.hid hkA
  replace hbX := Lib.hid hbX
  replace hM := Lib.hid hM
  replace h := Lib.hid h
  replace hO0 := Lib.hid hO0
  simp only [tbV]
  go_enter Tryz.func11, Tryz.ntmps11
  go_wp2
  obtain ⟨W1, hW1⟩ : ∃ W, ((w.alloc (.cells #[.slice a M cp] tTb)).alloc (.cells #[] tE)) = W := ⟨_, rfl⟩
  rw [hW1] at hkA hbX hO0 hlX
  rw [hW1]
  clear hW1
  go_loopw [4, 3] (fun iv ov wr => ∃ k : Nat, iv = .int .i64 k ∧ k ≤ M ∧ shE.O wr X tE ov ((lst S).take k) ∧ Keeps [] w wr ∧ wr.heap[X]? = some (.cells #[.slice a M cp] tTb (0, 0)) ∧ (∀ b, ov.ownBlock = some b → b ≠ X)) (fun iv _ _ => M - (intOf iv).toNat)
  case atStart => exact ⟨0, rfl, by omega, hO0.out, hkA.out, hbX.out, fun b hb => by simp [Value.ownBlock] at hb; omega⟩
  case round =>
    obtain ⟨k, rfl, hk, hO, hkw, hbx, hnx⟩ := hrel
    obtain ⟨oa, oc, rfl⟩ := hO.form
    obtain ⟨NN, hNN⟩ : ∃ n, ((lst S).take k).length = n := ⟨_, rfl⟩
    have hNk : NN = k := by rw [← hNN]; simp [lst]; have := hM.out; omega
    subst hNk
    rw [hNN] at hO hnx ⊢
    have b0 := cells1 hbx
    by_cases hlt2 : NN < M
    · have hkS : NN < S.length := by rw [hM.out]; exact hlt2
      obtain ⟨g, o, c', hv, he⟩ := (h.out.keeps hkw).elem hkS
      rw [hM.out] at hv
      cases hv
      obtain ⟨⟨⟨rcl, rn, rim, ris, ro, ri, rd, rtc, rwk, rgb, rlm, rls⟩, rh⟩, hr⟩ : ∃ r, S[NN] = r := ⟨_, rfl⟩
      rw [hr] at he
      have e0 := he 0 _ rfl
      have e1 := he 1 _ rfl
      have e2 := he 2 _ rfl
      have e3 := he 3 _ rfl
      have e4 := he 4 _ rfl
      have e5 := he 5 _ rfl
      have e6 := he 6 _ rfl
      have e7 := he 7 _ rfl
      have e8 := he 8 _ rfl
      have e9 := he 9 _ rfl
      have e10 := he 10 _ rfl
      have e11 := he 11 _ rfl
      simp only [shR, rwCs, Nat.add_zero] at e0 e1 e2 e3 e4 e5 e6 e7 e8 e9 e10 e11
      have hgl := lt_of_cell e0
      have hst : (lst S).take (NN + 1) = (lst S).take NN ++ [⟨rcl, rn, rim, ris, ro, ri, rd, rtc, rwk, rgb, rlm, rls⟩] := by
        rw [List.take_succ_eq_append_getElem (by simpa [lst] using hkS)]
        simp [lst, hr]
      have hwX : X ≤ wr.heap.size := by have := hkw.size; omega
      have hmade := Sh.O.one shE wr (⟨rcl, rn, rim, ris, ro, ri, rd, rtc, rwk, rgb, rlm, rls⟩ : En) #[.int .i64 rcl, .int .u64 rn, .int .i64 rim, .int .i64 ris, .int .i64 ro, .int .i64 ri, .int .i64 rd, .bool rtc, .bool rwk, .bool rgb, .int .i64 rlm, .int .i64 rls] tE 0 rfl (by omega)
      have hkC : Keeps [] wr (wr.alloc (.cells #[.int .i64 rcl, .int .u64 rn, .int .i64 rim, .int .i64 ris, .int .i64 ro, .int .i64 ri, .int .i64 rd, .bool rtc, .bool rwk, .bool rgb, .int .i64 rlm, .int .i64 rls] tE)) := (Keeps.refl _ _).alloc _
      have hOC := hO.keeps hkC
      have hkwC := hkw.trans hkC
      have hbxC := (hkC.block X (lt_of_blk hbx) (by simp)).trans hbx
      replace hmade := Lib.hid hmade
      replace hOC := Lib.hid hOC
      replace hkwC := Lib.hid hkwC
      replace hst := Lib.hid hst
      replace hNN := Lib.hid hNN
      replace hnx := Lib.hid hnx
      replace hbxC := Lib.hid hbxC
      clear he hO hkw hr hkC hbx
      go_wp2_with (at_builtin; go_loud (refine Sh.wpl_app shE X infoE rfl Tryz.underlying34 (.slice oa NN oc) (.slice (some ⟨wr.heap.size, 0, none⟩) 1 1) _ [(⟨rcl, rn, rim, ris, ro, ri, rd, rtc, rwk, rgb, rlm, rls⟩ : En)] rfl _ _ rfl rfl rfl hOC.out hmade.out.r (by rw [hNN.out]; simp; omega) (by simp; omega) ?_; intro v5 w5 hO5 hG5; have hk5 := Grw.keeps hkwC.out hG5 (fun b hb => by have := hOC.out.ge b hb; omega); have hb5 := (hG5.keepsO.block X (lt_of_blk hbxC.out) (fun hm => hnx.out X (by simpa using hm) rfl)).trans hbxC.out; have hn5 : ∀ b, v5.ownBlock = some b → b ≠ X := (fun b hb e => by subst e; exact absurd hb (hG5.ne (fun h9 => hnx.out b h9 rfl) (by simp; omega))); rw [← hst.out] at hO5; replace hO5 := Lib.hid hO5; replace hk5 := Lib.hid hk5; replace hb5 := Lib.hid hb5; replace hn5 := Lib.hid hn5; clear hG5))
      go_roundw
      case rel => exact ⟨NN + 1, rfl, by omega, hO5.out, hk5.out, hb5.out, hn5.out⟩
      case measure => simp [intOf]; omega
    · have hkM : NN = M := by omega
      subst hkM
      rw [List.take_of_length_le (by simp [lst]; have := hM.out; omega)] at hO
      replace hO := Lib.hid hO
      replace hkw := Lib.hid hkw
      replace hnx := Lib.hid hnx
      replace hNN := Lib.hid hNN
      go_wp2
      go_ret
      exact ⟨_, rfl, hO.out, hkw.out⟩
end Go.Proofs.YtblaaafpglomnaaGreat

namespace Go.Proofs.YtblaaafpglomnaaGreat
open Go Go.RowKit

theorem ownsRow_set {w : World} {base e size n : Nat} {ys : List Value} {g cap : Nat} (h : w.ownsRow base e size (.slice (some ⟨g, 0, none⟩) n cap) n ys) (i : Nat) (c : Value) :
    (w.setCell ⟨g, i, none⟩ c).ownsRow base e size (.slice (some ⟨g, 0, none⟩) n cap) n (ys.set i c) := by
  obtain ⟨hl, h2⟩ := h
  rcases h2 with ⟨e, _⟩ | ⟨g', cap', cur, e, hb, hg, hle, hm, hsz, ht⟩
  · cases e
  · cases e
    refine ⟨by simpa using hl, .inr ⟨g, cap, cur.setIfInBounds i c, rfl, hb, setCs hg i c, hle, hm, by simpa using hsz, ?_⟩⟩
    rw [Array.toList_setIfInBounds, List.take_set, ht]
theorem set12_list {A C : List Value} {x0 x1 x2 x3 x4 x5 x6 x7 x8 x9 x10 x11 z y0 y1 y2 y3 y4 y5 y6 y7 y8 y9 y10 y11 : Value} {m : Nat} (hm : A.length = m) :
    (((((((((((((A ++ ([x0, x1, x2, x3, x4, x5, x6, x7, x8, x9, x10, x11, z] ++ C)).set (m) y0).set (m + 1) y1).set (m + 2) y2).set (m + 3) y3).set (m + 4) y4).set (m + 5) y5).set (m + 6) y6).set (m + 7) y7).set (m + 8) y8).set (m + 9) y9).set (m + 10) y10).set (m + 11) y11) = A ++ ([y0, y1, y2, y3, y4, y5, y6, y7, y8, y9, y10, y11, z] ++ C) := by
  subst hm
  repeat rw [List.set_append_right (by omega)]
  simp
theorem set7_list {A C : List Value} {x0 x1 x2 x3 x4 x5 x6 x7 x8 x9 x10 x11 z y : Value} {m : Nat} (hm : A.length = m) :
    (A ++ ([x0, x1, x2, x3, x4, x5, x6, x7, x8, x9, x10, x11, z] ++ C)).set (m + 7) y = A ++ ([x0, x1, x2, x3, x4, x5, x6, y, x8, x9, x10, x11, z] ++ C) := by
  subst hm
  repeat rw [List.set_append_right (by omega)]
  simp
theorem cs_split (L : List Rw) (k : Nat) (hk : k < L.length) (y : Rw) : shR.cs L = shR.cs (L.take k) ++ (shR.cf L[k] ++ shR.cs (L.drop (k + 1))) ∧ shR.cs (L.set k y) = shR.cs (L.take k) ++ (shR.cf y ++ shR.cs (L.drop (k + 1))) := by
  refine ⟨?_, ?_⟩
  · have h : L = L.take k ++ (L[k] :: L.drop (k + 1)) := by rw [List.getElem_cons_drop, List.take_append_drop]
    rw [congrArg shR.cs h, Sh.cs_append]
    rfl
  · rw [List.set_eq_take_append_cons_drop, if_pos hk, Sh.cs_append]
    rfl
theorem O_set12 {w : World} {B ee n c g : Nat} {L : List Rw} (h : shR.O w B ee (.slice (some ⟨g, 0, none⟩) n c) L) (hn : L.length = n) (k : Nat) (hk : k < L.length) (e : En) :
    shR.O ((((((((((((w.setCell ⟨g, k * 13, none⟩ (.int .i64 e.cl)).setCell ⟨g, k * 13 + 1, none⟩ (.int .u64 e.n)).setCell ⟨g, k * 13 + 2, none⟩ (.int .i64 e.im)).setCell ⟨g, k * 13 + 3, none⟩ (.int .i64 e.is)).setCell ⟨g, k * 13 + 4, none⟩ (.int .i64 e.o)).setCell ⟨g, k * 13 + 5, none⟩ (.int .i64 e.i)).setCell ⟨g, k * 13 + 6, none⟩ (.int .i64 e.d)).setCell ⟨g, k * 13 + 7, none⟩ (.bool e.tc)).setCell ⟨g, k * 13 + 8, none⟩ (.bool e.wk)).setCell ⟨g, k * 13 + 9, none⟩ (.bool e.gb)).setCell ⟨g, k * 13 + 10, none⟩ (.int .i64 e.lm)).setCell ⟨g, k * 13 + 11, none⟩ (.int .i64 e.ls)) B ee (.slice (some ⟨g, 0, none⟩) n c) (L.set k (e, L[k].2)) := by
  unfold Sh.O at h ⊢
  rw [hn] at h
  rw [List.length_set, hn]
  have h8 := (ownsRow_set (ownsRow_set (ownsRow_set (ownsRow_set (ownsRow_set (ownsRow_set (ownsRow_set (ownsRow_set (ownsRow_set (ownsRow_set (ownsRow_set (ownsRow_set h (k * 13) (.int .i64 e.cl)) (k * 13 + 1) (.int .u64 e.n)) (k * 13 + 2) (.int .i64 e.im)) (k * 13 + 3) (.int .i64 e.is)) (k * 13 + 4) (.int .i64 e.o)) (k * 13 + 5) (.int .i64 e.i)) (k * 13 + 6) (.int .i64 e.d)) (k * 13 + 7) (.bool e.tc)) (k * 13 + 8) (.bool e.wk)) (k * 13 + 9) (.bool e.gb)) (k * 13 + 10) (.int .i64 e.lm)) (k * 13 + 11) (.int .i64 e.ls))
  obtain ⟨e1, e2⟩ := cs_split L k hk (e, L[k].2)
  have hA : (shR.cs (L.take k)).length = k * 13 := by
    rw [Sh.cs_len, List.length_take, Nat.min_eq_left (by omega)]
    rfl
  rw [e1, show shR.cf L[k] = [.int .i64 L[k].1.cl, .int .u64 L[k].1.n, .int .i64 L[k].1.im, .int .i64 L[k].1.is, .int .i64 L[k].1.o, .int .i64 L[k].1.i, .int .i64 L[k].1.d, .bool L[k].1.tc, .bool L[k].1.wk, .bool L[k].1.gb, .int .i64 L[k].1.lm, .int .i64 L[k].1.ls, .int .i64 L[k].2] from rfl, set12_list hA] at h8
  rw [e2]
  exact h8
/-- The mark of a row is put out. -/
theorem O_clr {w : World} {B ee n c g : Nat} {L : List Rw} (h : shR.O w B ee (.slice (some ⟨g, 0, none⟩) n c) L) (hn : L.length = n) (k : Nat) (hk : k < L.length) :
    shR.O (w.setCell ⟨g, k * 13 + 7, none⟩ (.bool false)) B ee (.slice (some ⟨g, 0, none⟩) n c) (L.set k (clrE L[k].1, L[k].2)) := by
  unfold Sh.O at h ⊢
  rw [hn] at h
  rw [List.length_set, hn]
  have h8 := ownsRow_set h (k * 13 + 7) (.bool false)
  obtain ⟨e1, e2⟩ := cs_split L k hk (clrE L[k].1, L[k].2)
  have hA : (shR.cs (L.take k)).length = k * 13 := by
    rw [Sh.cs_len, List.length_take, Nat.min_eq_left (by omega)]
    rfl
  rw [e1, show shR.cf L[k] = [.int .i64 L[k].1.cl, .int .u64 L[k].1.n, .int .i64 L[k].1.im, .int .i64 L[k].1.is, .int .i64 L[k].1.o, .int .i64 L[k].1.i, .int .i64 L[k].1.d, .bool L[k].1.tc, .bool L[k].1.wk, .bool L[k].1.gb, .int .i64 L[k].1.lm, .int .i64 L[k].1.ls, .int .i64 L[k].2] from rfl, set7_list hA] at h8
  rw [e2]
  exact h8
theorem keeps12 (w : World) (g m : Nat) (x0 x1 x2 x3 x4 x5 x6 x7 x8 x9 x10 x11 : Value) : Keeps [g] w ((((((((((((w.setCell ⟨g, m, none⟩ x0).setCell ⟨g, m + 1, none⟩ x1).setCell ⟨g, m + 2, none⟩ x2).setCell ⟨g, m + 3, none⟩ x3).setCell ⟨g, m + 4, none⟩ x4).setCell ⟨g, m + 5, none⟩ x5).setCell ⟨g, m + 6, none⟩ x6).setCell ⟨g, m + 7, none⟩ x7).setCell ⟨g, m + 8, none⟩ x8).setCell ⟨g, m + 9, none⟩ x9).setCell ⟨g, m + 10, none⟩ x10).setCell ⟨g, m + 11, none⟩ x11) := by
  refine (((((((((((((Keeps.refl _ w).setCell ?_ _).setCell ?_ _).setCell ?_ _).setCell ?_ _).setCell ?_ _).setCell ?_ _).setCell ?_ _).setCell ?_ _).setCell ?_ _).setCell ?_ _).setCell ?_ _).setCell ?_ _) <;> exact .inr (by simp)
/-- The block of an owned list that is not empty. -/
theorem O_blk {w : World} {B ee n : Nat} {v : Value} {L : List Rw} (h : shR.O w B ee v L) (hn : L.length = n) (hp : 0 < n) : ∃ g c, v = .slice (some ⟨g, 0, none⟩) n c ∧ B ≤ g ∧ n ≤ c ∧ c ≤ maxLen ∧ g < w.heap.size ∧ (∀ o, w.frozen? ⟨g, o, none⟩ = false) ∧ (∀ k < n, ∀ i < 13, ∃ u, w.cell? ⟨g, k * 13 + i, none⟩ = some u) := by
  unfold Sh.O at h
  rw [hn] at h
  obtain ⟨hl, h2⟩ := h
  rcases h2 with ⟨_, e⟩ | ⟨g, cap, cur, e, hb, hg, hle, hm, hsz, ht⟩
  · exfalso
    omega
  · refine ⟨g, cap, e, hb, hle, hm, lt_of_blk hg, frz hg, fun k hk i hi => ?_⟩
    have hs : cur.size = cap * 13 := hsz
    have h5 : (k + 1) * 13 ≤ cap * 13 := Nat.mul_le_mul_right _ (by omega)
    have : k * 13 + i < cur.size := by omega
    exact ⟨cur[k * 13 + i], by simp [World.cell?, hg, this]⟩
end Go.Proofs.YtblaaafpglomnaaGreat

namespace Go.Proofs.YtblaaafpglomnaaGreat
open Go Go.RowKit

/-- A slice that reads as something does not lie in a block behind the world. -/
theorem Sh.R.old {α : Type} {s : Sh α} {w : World} {v : Value} {L : List α} (h : s.R w v L) : ∀ b, v.ownBlock = some b → L ≠ [] → b < w.heap.size := by
  intro b hb hne
  obtain ⟨_, a, c, rfl, _, _, _, h5⟩ := h
  have hp := s.pos
  have : 0 < L.length := List.length_pos_iff.2 hne
  have h6 : 1 * s.sz ≤ L.length * s.sz := Nat.mul_le_mul_right _ (by omega)
  obtain ⟨g, o, rfl, hc⟩ := h5 (by rw [Sh.cs_len]; omega)
  have hl : 0 < (s.cs L).length := by rw [Sh.cs_len]; omega
  have h7 := lt_of_cell (hc 0 _ (List.getElem?_eq_getElem hl))
  cases hb' : (Value.slice (some ⟨g, o, none⟩) L.length c).ownBlock with
  | none => rw [hb'] at hb; cases hb
  | some x =>
    rw [hb'] at hb; cases hb
    simp [Value.ownBlock] at hb'
    omega
theorem Sh.R.keepE {α : Type} {s : Sh α} {w w' : World} {v : Value} {L : List α} {S : List Nat} (h : s.R w v L) (hk : Keeps S w w') (hS : ∀ b ∈ S, L ≠ [] → v.ownBlock ≠ some b) : s.R w' v L := by
  by_cases e : L = []
  · subst e
    obtain ⟨h1, a, cap, rfl, h2, h3, h0, _⟩ := h
    exact ⟨h1, a, cap, rfl, h2, h3, h0, fun hp => by simp [Sh.cs] at hp⟩
  · exact h.keepS hk (fun b hb => hS b hb e)
/-- Rows do not lie in a box that holds a slice. -/
theorem R_box {w : World} {v : Value} {L : List Rw} (h : shR.R w v L) {b : Nat} {p : Option Addr} {q r : Nat} {t : TypeId} (hb : w.heap[b]? = some (.cells #[.slice p q r] t (0, 0))) (hne : L ≠ []) : v.ownBlock ≠ some b := by
  intro e
  obtain ⟨_, a, c, rfl, _, _, _, h5⟩ := h
  obtain ⟨x, t', rfl⟩ : ∃ x t', L = x :: t' := by cases L with | nil => exact absurd rfl hne | cons x t' => exact ⟨x, t', rfl⟩
  have h6 : (shR.cs (x :: t'))[0]? = some (.int .i64 x.1.cl) := rfl
  obtain ⟨g, o, rfl, hc⟩ := h5 (by have := List.getElem?_eq_some_iff.1 h6; exact this.1)
  have h7 := hc 0 _ h6
  simp [Value.ownBlock] at e
  subst e
  simp [World.cell?, hb] at h7
  cases h8 : o with
  | zero => rw [h8] at h7; simp at h7
  | succ n => rw [h8] at h7; simp at h7
end Go.Proofs.YtblaaafpglomnaaGreat

namespace Go.Proofs.YtblaaafpglomnaaGreat
open Go Go.RowKit

theorem putS_bad {x : En} {S : List Rw} (h : x.val = false) : putS x S = (1, S) := by unfold putS; rw [if_pos h]
theorem putS_none {x : En} {S : List Rw} (h : x.val = true) (hf : fnd x.key S = none) : putS x S = (6, S) := by unfold putS; rw [if_neg (by simp [h]), hf]
theorem putS_some {x : En} {S : List Rw} {r : Rw} (h : x.val = true) (hf : fnd x.key S = some r) : putS x S = (0, upd (x, r.2) S) := by unfold putS; rw [if_neg (by simp [h]), hf]
set_option maxRecDepth 100000 in
set_option maxHeartbeats 8000000 in
theorem putR_c (w : World) (v : Value) (S : List Rw) (x : En) (hS : shR.R w v S) (hs : SortedS S) (hl : S.length ≤ 1024) :
    Calls Tryz.prog 69 #[tbV v, enV x] w fun e w' => ∃ v', e = .returned (.tuple #[tbV v', .int .i64 (putS x S).1]) ∧ shR.R w' v' (putS x S).2 ∧ Keeps [] w w' := by
  obtain ⟨a, cp, rfl, hlc, hcm, _⟩ := hS.form
  obtain ⟨cl, n, im, is, o, i, d, tc, wk, gb, lm, ls⟩ := x
  have hk2 : Keeps [] w ((w.alloc (.cells #[.slice a S.length cp] tTb)).alloc (.cells #[.int .i64 cl, .int .u64 n, .int .i64 im, .int .i64 is, .int .i64 o, .int .i64 i, .int .i64 d, .bool tc, .bool wk, .bool gb, .int .i64 lm, .int .i64 ls] tE)) := ((Keeps.refl _ _).alloc _).alloc _
  have hkz : Keeps [] ((w.alloc (.cells #[.slice a S.length cp] tTb)).alloc (.cells #[.int .i64 cl, .int .u64 n, .int .i64 im, .int .i64 is, .int .i64 o, .int .i64 i, .int .i64 d, .bool tc, .bool wk, .bool gb, .int .i64 lm, .int .i64 ls] tE)) (((w.alloc (.cells #[.slice a S.length cp] tTb)).alloc (.cells #[.int .i64 cl, .int .u64 n, .int .i64 im, .int .i64 is, .int .i64 o, .int .i64 i, .int .i64 d, .bool tc, .bool wk, .bool gb, .int .i64 lm, .int .i64 ls] tE)).alloc (.cells #[.slice none 0 0] tTb)) := (Keeps.refl _ _).alloc _
  have hk3 := hk2.trans hkz
  have hbX := (hkz.block w.heap.size (by simp; omega) (by simp)).trans (two_a w (.cells #[.slice a S.length cp] tTb) (.cells #[.int .i64 cl, .int .u64 n, .int .i64 im, .int .i64 is, .int .i64 o, .int .i64 i, .int .i64 d, .bool tc, .bool wk, .bool gb, .int .i64 lm, .int .i64 ls] tE))
  have hbE := (hkz.block (w.heap.size + 1) (by simp) (by simp)).trans (two_b w (.cells #[.slice a S.length cp] tTb) (.cells #[.int .i64 cl, .int .u64 n, .int .i64 im, .int .i64 is, .int .i64 o, .int .i64 i, .int .i64 d, .bool tc, .bool wk, .bool gb, .int .i64 lm, .int .i64 ls] tE))
  have hbZ := heap_alloc_new ((w.alloc (.cells #[.slice a S.length cp] tTb)).alloc (.cells #[.int .i64 cl, .int .u64 n, .int .i64 im, .int .i64 is, .int .i64 o, .int .i64 i, .int .i64 d, .bool tc, .bool wk, .bool gb, .int .i64 lm, .int .i64 ls] tE)) (.cells #[.slice none 0 0] tTb)
  rw [show ((w.alloc (.cells #[.slice a S.length cp] tTb)).alloc (.cells #[.int .i64 cl, .int .u64 n, .int .i64 im, .int .i64 is, .int .i64 o, .int .i64 i, .int .i64 d, .bool tc, .bool wk, .bool gb, .int .i64 lm, .int .i64 ls] tE)).heap.size = w.heap.size + 2 by simp] at hbZ
  have hcv := fun W => validR_c W ⟨cl, n, im, is, o, i, d, tc, wk, gb, lm, ls⟩
  have hix := fun W (hk : Keeps [] w W) => index_c W _ S cl n (hS.keeps hk)
  have hp1 := putS_bad (x := (⟨cl, n, im, is, o, i, d, tc, wk, gb, lm, ls⟩ : En)) (S := S)
  have hp2 := putS_none (x := (⟨cl, n, im, is, o, i, d, tc, wk, gb, lm, ls⟩ : En)) (S := S)
  have hp3 := fun r => putS_some (x := (⟨cl, n, im, is, o, i, d, tc, wk, gb, lm, ls⟩ : En)) (S := S) (r := r)
  have hold := hS.old
  obtain ⟨vv, hvv⟩ : ∃ b, En.val ⟨cl, n, im, is, o, i, d, tc, wk, gb, lm, ls⟩ = b := ⟨_, rfl⟩
  obtain ⟨R, hR⟩ : ∃ R, putS ⟨cl, n, im, is, o, i, d, tc, wk, gb, lm, ls⟩ S = R := ⟨_, rfl⟩
  simp only [hvv, hR, En.key] at hcv hp1 hp2 hp3
  rw [hR]
  obtain ⟨M, hM⟩ : ∃ N, S.length = N := ⟨_, rfl⟩
  obtain ⟨X, hX⟩ : ∃ X, w.heap.size = X := ⟨_, rfl⟩
  rw [hM] at hbX hbE hbZ hk3 hlc hold hix hl hS ⊢
  rw [hX] at hbX hbE hbZ hold
  have hnZ : ∀ b, S ≠ [] → X ≤ b → (Value.slice a M cp).ownBlock ≠ some b := fun b hne hb e => by have := hold b e hne; omega
  have hk0 := Lib.hid hk3
  replace hbX := Lib.hid hbX
  replace hbE := Lib.hid hbE
  replace hbz := Lib.hid hbZ
  replace hM := Lib.hid hM
  replace hS := Lib.hid hS
  replace hs := Lib.hid hs
  replace hcv := Lib.hid hcv
  replace hix := Lib.hid hix
  replace hp1 := Lib.hid hp1
  replace hp2 := Lib.hid hp2
  replace hp3 := Lib.hid hp3
  replace hnZ := Lib.hid hnZ
  clear hvv hR hk2 hkz hk3 hold hcm hbZ
  simp only [tbV] at hix ⊢
  go_enter Tryz.func69, Tryz.ntmps69
  go_wp2_with fail
  refine (hcv.out _).mono ?_
  rintro e w1 ⟨rfl, hk1⟩
  have hbX1 := (hk1.block X (lt_of_blk hbX.out) (by simp)).trans hbX.out
  have hbE1 := (hk1.block (X + 1) (lt_of_blk hbE.out) (by simp)).trans hbE.out
  have hbZ1 := (hk1.block (X + 2) (lt_of_blk hbz.out) (by simp)).trans hbz.out
  have hk01 := hk0.out.trans hk1
  have hR1 := hS.out.keeps hk01
  have b0 := cells1 hbX1
  obtain ⟨y0, y1, y2, y3, y4, y5, y6, y7, y8, y9, y10, y11, _⟩ := cells12 hbE1
  have z0 := cells1 hbZ1
  have hfz := frz hbZ1
  replace hk01 := Lib.hid hk01
  replace hR1 := Lib.hid hR1
  replace hbX1 := Lib.hid hbX1
  replace hbE1 := Lib.hid hbE1
  replace hbZ1 := Lib.hid hbZ1
  clear hk1 hbX hbE hbz hk0 hcv
  cases vv with
  | false =>
    have hr := hp1.out rfl
    subst hr
    go_wp2
    have hsz := setCs hbZ1.out 0 (.slice a M cp)
    refine bodyPost_ret (results_t2 rfl _ _ _ _ (.slice a M cp) _ rfl (by simpa using hsz)) rfl ?_
    exact ⟨_, rfl, hR1.out.keepE ((Keeps.refl [X + 2] _).setCell (p := ⟨X + 2, 0, none⟩) (.inr (by simp)) _) (fun b hb hne e => by simp at hb; subst hb; exact hnZ.out _ hne (by omega) e), (hk01.out.fresh ((Keeps.refl [X + 2] _).setCell (p := ⟨X + 2, 0, none⟩) (.inr (by simp)) (.slice a M cp)) (fun b hb => .inr (by simp at hb; omega)))⟩
  | true =>
  go_wp2_with fail
  refine (hix.out _ hk01.out).mono ?_
  rintro e w2 ⟨rfl, hk2⟩
  have hbX2 := (hk2.block X (lt_of_blk hbX1.out) (by simp)).trans hbX1.out
  have hbE2 := (hk2.block (X + 1) (lt_of_blk hbE1.out) (by simp)).trans hbE1.out
  have hbZ2 := (hk2.block (X + 2) (lt_of_blk hbZ1.out) (by simp)).trans hbZ1.out
  have hk02 := hk01.out.trans hk2
  have hR2 := hS.out.keeps hk02
  clear b0 y0 y1 y2 y3 y4 y5 y6 y7 y8 y9 y10 y11 z0 hfz
  have b0 := cells1 hbX2
  have z0 := cells1 hbZ2
  have hfz := frz hbZ2
  replace hk02 := Lib.hid hk02
  replace hR2 := Lib.hid hR2
  replace hbX2 := Lib.hid hbX2
  replace hbE2 := Lib.hid hbE2
  replace hbZ2 := Lib.hid hbZ2
  clear hk2 hbX1 hbE1 hbZ1 hk01 hR1
  cases hi : idx (cl, n) S with
  | none =>
    have hfn := idx_none.1 hi
    rw [idxI_none hi]
    have hr := hp2.out trivial hfn
    subst hr
    clear hfn hp1 hp2 hp3
    replace hi := Lib.hid hi
    go_wp2
    have hsz := setCs hbZ2.out 0 (.slice a M cp)
    refine bodyPost_ret (results_t2 rfl _ _ _ _ (.slice a M cp) _ rfl (by simpa using hsz)) rfl ?_
    exact ⟨_, rfl, hR2.out.keepE ((Keeps.refl [X + 2] _).setCell (p := ⟨X + 2, 0, none⟩) (.inr (by simp)) _) (fun b hb hne e => by simp at hb; subst hb; exact hnZ.out _ hne (by omega) e), (hk02.out.fresh ((Keeps.refl [X + 2] _).setCell (p := ⟨X + 2, 0, none⟩) (.inr (by simp)) (.slice a M cp)) (fun b hb => .inr (by simp at hb; omega)))⟩
  | some j =>
    obtain ⟨hj, hfn⟩ := idx_some hi
    rw [idxI_some hi]
    have hr := hp3.out _ trivial hfn
    have hkey : S[j].1.key = (cl, n) := (fnd_some hfn).2
    have hup := upd_set (r := ((⟨cl, n, im, is, o, i, d, tc, wk, gb, lm, ls⟩, S[j].2) : Rw)) hj hs.out hkey
    simp only [hup] at hr
    subst hr
    replace hup := Lib.hid hup
    clear hfn hp1 hp2 hp3 hkey
    replace hi := Lib.hid hi
    have hjM : j < M := by have := hM.out; omega
    have hjn : decide ((j : Int) < 0) = false := by simp
    have hkD : Keeps [] w2 (w2.alloc (.cells #[] tOne)) := (Keeps.refl [] w2).alloc _
    have hO0 := Sh.O.fresh shR w2 w2.heap.size tOne (Nat.le_refl _)
    have hRkd := hR2.out.keeps hkD
    have hlX := lt_of_blk hbZ2.out
    have hbXd := (hkD.block X (lt_of_blk hbX2.out) (by simp)).trans hbX2.out
    obtain ⟨B, hB⟩ : ∃ B, w2.heap.size = B := ⟨_, rfl⟩
    rw [hB] at hO0 hlX
    have hlX0 : X < B := by omega
    have hB1 : (w2.alloc (.cells #[] tOne)).heap.size = B + 1 := by simp [hB]
    replace hO0 := Lib.hid hO0
    replace hRkd := Lib.hid hRkd
    replace hkD := Lib.hid hkD
    replace hbXd := Lib.hid hbXd
    go_upto_region 7 with (at_builtin; go_loud (refine Sh.wpl_app shR B infoOne rfl Tryz.underlying28 (.slice (some ⟨B, 0, none⟩) 0 0) (.slice a M cp) [] S rfl _ _ rfl rfl rfl hO0.out hRkd.out (by rw [hM.out]; simp; omega) (by simp; omega) ?_; intro v5 w5 hO5 hG5; rw [List.nil_append] at hO5; have hk5 := Lib.hid (Grw.keeps ((Keeps.refl [] w2).trans hkD.out) hG5 (fun b hb => by have := hO0.out.ge b hb; omega)); obtain ⟨g5, c5, rfl, hg5, hle5, hm5, hl5, cf, hce⟩ := O_blk hO5 hM.out (by omega); obtain ⟨q0, c0⟩ := hce j hjM 0 (by omega); obtain ⟨q1, c1⟩ := hce j hjM 1 (by omega); obtain ⟨q2, c2⟩ := hce j hjM 2 (by omega); obtain ⟨q3, c3⟩ := hce j hjM 3 (by omega); obtain ⟨q4, c4⟩ := hce j hjM 4 (by omega); obtain ⟨q5, c5'⟩ := hce j hjM 5 (by omega); obtain ⟨q6, c6⟩ := hce j hjM 6 (by omega); obtain ⟨q7, c7⟩ := hce j hjM 7 (by omega); obtain ⟨q8, c8⟩ := hce j hjM 8 (by omega); obtain ⟨q9, c9⟩ := hce j hjM 9 (by omega); obtain ⟨q10, c10⟩ := hce j hjM 10 (by omega); obtain ⟨q11, c11⟩ := hce j hjM 11 (by omega); simp only [Nat.add_zero] at c0; replace hO5 := Lib.hid hO5; replace hce := Lib.hid hce; have hbE5 := (hk5.out.block (X + 1) (lt_of_blk hbE2.out) (by simp)).trans hbE2.out; obtain ⟨y0, y1, y2, y3, y4, y5, y6, y7, y8, y9, y10, y11, _⟩ := cells12 hbE5; have hbZ5 := (hk5.out.block (X + 2) (lt_of_blk hbZ2.out) (by simp)).trans hbZ2.out; replace hbZ5 := Lib.hid hbZ5; replace hbE5 := Lib.hid hbE5; clear hG5 b0 z0 hfz))
    go_upto_region 8 with fail
    have hset := O_set12 hO5.out hM.out j hj ⟨cl, n, im, is, o, i, d, tc, wk, gb, lm, ls⟩
    have hk9 := keeps12 w5 g5 (j * 13) (.int .i64 cl) (.int .u64 n) (.int .i64 im) (.int .i64 is) (.int .i64 o) (.int .i64 i) (.int .i64 d) (.bool tc) (.bool wk) (.bool gb) (.int .i64 lm) (.int .i64 ls)
    clear c0 c1 c2 c3 c4 c5' c6 c7 c8 c9 c10 c11 cf hce hO5 y0 y1 y2 y3 y4 y5 y6 y7 y8 y9 y10 y11
    generalize ((((((((((((w5.setCell ⟨g5, j * 13, none⟩ (.int .i64 cl)).setCell ⟨g5, j * 13 + 1, none⟩ (.int .u64 n)).setCell ⟨g5, j * 13 + 2, none⟩ (.int .i64 im)).setCell ⟨g5, j * 13 + 3, none⟩ (.int .i64 is)).setCell ⟨g5, j * 13 + 4, none⟩ (.int .i64 o)).setCell ⟨g5, j * 13 + 5, none⟩ (.int .i64 i)).setCell ⟨g5, j * 13 + 6, none⟩ (.int .i64 d)).setCell ⟨g5, j * 13 + 7, none⟩ (.bool tc)).setCell ⟨g5, j * 13 + 8, none⟩ (.bool wk)).setCell ⟨g5, j * 13 + 9, none⟩ (.bool gb)).setCell ⟨g5, j * 13 + 10, none⟩ (.int .i64 lm)).setCell ⟨g5, j * 13 + 11, none⟩ (.int .i64 ls)) = w9 at *
    have hbZ9 := (hk9.block _ (lt_of_blk hbZ5.out) (by simp; omega)).trans hbZ5.out
    have hk59 := hk5.out.fresh hk9 (fun b hb => by simp at hb; subst hb; exact .inr (by omega))
    have z0 := cells1 hbZ9
    have hfz := frz hbZ9
    replace hset := Lib.hid hset
    replace hbZ9 := Lib.hid hbZ9
    replace hk59 := Lib.hid hk59
    clear hbZ5 hk5 hk9
    go_wp2
    have hkZ : Keeps [X + 2] w9 (w9.setCell ⟨X + 2, 0, none⟩ (.slice (some ⟨g5, 0, none⟩) M c5)) := (Keeps.refl _ _).setCell (p := ⟨X + 2, 0, none⟩) (.inr (by simp)) _
    refine bodyPost_ret (results_t2 rfl _ _ _ _ (.slice (some ⟨g5, 0, none⟩) M c5) _ rfl (by have := setCs hbZ9.out 0 (.slice (some ⟨g5, 0, none⟩) M c5); simpa using this)) rfl ?_
    exact ⟨_, rfl, (hset.out.keepS hkZ (fun b hb e => by simp at hb; subst hb; have := hset.out.ge _ e; omega)).r, (hk02.out.trans hk59.out).fresh hkZ (fun b hb => .inr (by simp at hb; omega))⟩
end Go.Proofs.YtblaaafpglomnaaGreat

namespace Go.Proofs.YtblaaafpglomnaaGreat
open Go Go.RowKit

set_option maxRecDepth 100000 in
set_option maxHeartbeats 8000000 in
theorem touchR_c (w : World) (v : Value) (S : List Rw) (c : Int) (m : Nat) (hS : shR.R w v S) (hg : Good S) :
    Calls Tryz.prog 71 #[tbV v, .int .i64 c, .int .u64 m] w fun e w' => ∃ v', e = .returned (.tuple #[tbV v', .int .i64 (touchS (c, m) S).1]) ∧ shR.R w' v' (touchS (c, m) S).2 ∧ Keeps [] w w' := by
  obtain ⟨a, cp, rfl, hlc, hcm, _⟩ := hS.form
  have hk0 : Keeps [] w ((w.alloc (.cells #[.slice a S.length cp] tTb)).alloc (.cells #[.slice none 0 0] tTb)) := ((Keeps.refl _ _).alloc _).alloc _
  have hbX := two_a w (.cells #[.slice a S.length cp] tTb) (.cells #[.slice none 0 0] tTb)
  have hbZ := two_b w (.cells #[.slice a S.length cp] tTb) (.cells #[.slice none 0 0] tTb)
  have hfi := fun W (hk : Keeps [] w W) => findR_c W _ S c m (hS.keeps hk)
  have hpu := fun W (hk : Keeps [] w W) x => putR_c W _ S x (hS.keeps hk) hg.srt hg.len
  have hold := hS.old
  obtain ⟨M, hM⟩ : ∃ N, S.length = N := ⟨_, rfl⟩
  obtain ⟨X, hX⟩ : ∃ X, w.heap.size = X := ⟨_, rfl⟩
  rw [hM] at hbX hbZ hk0 hlc hold hfi hpu hS ⊢
  rw [hX] at hbX hbZ hold
  have hnZ : ∀ b, S ≠ [] → X ≤ b → (Value.slice a M cp).ownBlock ≠ some b := fun b hne hb e => by have := hold b e hne; omega
  have hlX := lt_of_blk hbX
  have hlZ := lt_of_blk hbZ
  replace hk0 := Lib.hid hk0
  replace hbX := Lib.hid hbX
  replace hbZ := Lib.hid hbZ
  replace hM := Lib.hid hM
  replace hS := Lib.hid hS
  replace hg := Lib.hid hg
  replace hfi := Lib.hid hfi
  replace hpu := Lib.hid hpu
  replace hnZ := Lib.hid hnZ
  clear hold hcm
  cases hfn : fnd (c, m) S with
  | none =>
    have htS : touchS (c, m) S = (6, S) := by unfold touchS; rw [hfn]
    rw [htS]
    simp only [hfn, Option.getD_none, Option.isSome_none, En.zero, enV] at hfi
    clear htS hfn hpu
    simp only [tbV] at hfi ⊢
    go_enter Tryz.func71, Tryz.ntmps71
    go_wp2_with fail
    refine (hfi.out _ hk0.out).mono ?_
    rintro e w1 ⟨rfl, hk1⟩
    have hk01 := hk0.out.trans hk1
    have hbX1 := (hk1.block X hlX (by simp)).trans hbX.out
    have hbZ1 := (hk1.block (X + 1) hlZ (by simp)).trans hbZ.out
    have hlX1 := lt_of_blk hbX1
    have hlZ1 := lt_of_blk hbZ1
    obtain ⟨Y, hY⟩ : ∃ Y, w1.heap.size = Y := ⟨_, rfl⟩
    rw [hY] at hlX1 hlZ1
    replace hk01 := Lib.hid hk01
    replace hbX1 := Lib.hid hbX1
    replace hbZ1 := Lib.hid hbZ1
    clear hk1 hbX hbZ hk0 hfi
    have b0 := cells1 hbX1.out
    have z0 := cells1 hbZ1.out
    have hfz := frz hbZ1.out
    have hR1 := hS.out.keeps hk01.out
    replace hR1 := Lib.hid hR1
    go_wp2
    have hkE : Keeps [X + 1] w1 ((w1.setCell ⟨X + 1, 0, none⟩ (.slice a M cp)).alloc (.cells #[.int .i64 0, .int .u64 0, .int .i64 0, .int .i64 0, .int .i64 0, .int .i64 0, .int .i64 0, .bool false, .bool false, .bool false, .int .i64 0, .int .i64 0] tE)) := ((Keeps.refl [X + 1] _).setCell (p := ⟨X + 1, 0, none⟩) (.inr (by simp)) _).alloc _
    have hsz := (Below.heap_alloc (w1.setCell ⟨X + 1, 0, none⟩ (.slice a M cp)) (.cells #[.int .i64 0, .int .u64 0, .int .i64 0, .int .i64 0, .int .i64 0, .int .i64 0, .int .i64 0, .bool false, .bool false, .bool false, .int .i64 0, .int .i64 0] tE) (X + 1) (by simp; omega)).trans (setCs hbZ1.out 0 (.slice a M cp))
    refine bodyPost_ret (results_t2 rfl _ _ _ _ (.slice a M cp) _ rfl (by simpa using hsz)) rfl ?_
    exact ⟨_, rfl, hR1.out.keepE hkE (fun b hb hne e => by simp at hb; subst hb; exact hnZ.out _ hne (by omega) e), hk01.out.fresh hkE (fun b hb => .inr (by simp at hb; omega))⟩
  | some r =>
    obtain ⟨⟨⟨rcl, rn, rim, ris, ro, ri, rd, rtc, rwk, rgb, rlm, rls⟩, rh⟩, hr⟩ : ∃ r', r = r' := ⟨_, rfl⟩
    subst hr
    obtain ⟨hmem, hkey⟩ := fnd_some hfn
    have hok := hg.out.ok _ hmem
    have htS : touchS (c, m) S = (0, upd (⟨rcl, rn, rim, ris, ro, ri, rd, true, rwk, rgb, rlm, rls⟩, rh) S) := by unfold touchS; rw [hfn]; rfl
    have hpS : putS ⟨rcl, rn, rim, ris, ro, ri, rd, true, rwk, rgb, rlm, rls⟩ S = (0, upd (⟨rcl, rn, rim, ris, ro, ri, rd, true, rwk, rgb, rlm, rls⟩, rh) S) := putS_some (r := (⟨rcl, rn, rim, ris, ro, ri, rd, rtc, rwk, rgb, rlm, rls⟩, rh)) hok.2.1 (by rw [show En.key ⟨rcl, rn, rim, ris, ro, ri, rd, true, rwk, rgb, rlm, rls⟩ = (c, m) from hkey]; exact hfn)
    have hp2 := fun W hk => hpu.out W hk (⟨rcl, rn, rim, ris, ro, ri, rd, true, rwk, rgb, rlm, rls⟩ : En)
    simp only [hpS] at hp2
    rw [htS]
    simp only [hfn, Option.getD_some, Option.isSome_some, enV] at hfi
    obtain ⟨UU, hUU⟩ : ∃ UU, upd ((⟨rcl, rn, rim, ris, ro, ri, rd, true, rwk, rgb, rlm, rls⟩, rh) : Rw) S = UU := ⟨_, rfl⟩
    rw [hUU] at hp2 ⊢
    replace hp2 := Lib.hid hp2
    clear htS hfn hpu hok hmem hkey hpS hUU
    simp only [tbV] at hfi hp2 ⊢
    go_enter Tryz.func71, Tryz.ntmps71
    go_wp2_with fail
    refine (hfi.out _ hk0.out).mono ?_
    rintro e w1 ⟨rfl, hk1⟩
    have hk01 := hk0.out.trans hk1
    have hbX1 := (hk1.block X hlX (by simp)).trans hbX.out
    have hbZ1 := (hk1.block (X + 1) hlZ (by simp)).trans hbZ.out
    have hlX1 := lt_of_blk hbX1
    have hlZ1 := lt_of_blk hbZ1
    obtain ⟨Y, hY⟩ : ∃ Y, w1.heap.size = Y := ⟨_, rfl⟩
    rw [hY] at hlX1 hlZ1
    replace hk01 := Lib.hid hk01
    replace hbX1 := Lib.hid hbX1
    replace hbZ1 := Lib.hid hbZ1
    clear hk1 hbX hbZ hk0 hfi
    have b0 := cells1 hbX1.out
    have z0 := cells1 hbZ1.out
    have hfz := frz hbZ1.out
    have hs3 : Keeps [] w1 (w1.alloc (.cells #[.int .i64 rcl, .int .u64 rn, .int .i64 rim, .int .i64 ris, .int .i64 ro, .int .i64 ri, .int .i64 rd, .bool true, .bool rwk, .bool rgb, .int .i64 rlm, .int .i64 rls] tE)) := (Keeps.refl [] w1).alloc _
    have hk03 := hk01.out.trans hs3
    have hbZ3 := (hs3.block (X + 1) (by omega) (by simp)).trans hbZ1.out
    replace hk03 := Lib.hid hk03
    replace hbZ3 := Lib.hid hbZ3
    clear hs3
    go_wp2_with fail
    refine (hp2.out _ hk03.out).mono ?_
    rintro e w4 ⟨v4, rfl, hR4, hk4⟩
    obtain ⟨a4, cp4, rfl, _⟩ := hR4.form
    clear b0 z0 hfz
    have hbZ4 := (hk4.block (X + 1) (lt_of_blk hbZ3.out) (by simp)).trans hbZ3.out
    have z0 := cells1 hbZ4
    have hfz := frz hbZ4
    obtain ⟨M4, hM4⟩ : ∃ N, UU.length = N := ⟨_, rfl⟩
    rw [hM4] at hR4 ⊢
    replace hbZ4 := Lib.hid hbZ4
    replace hR4 := Lib.hid hR4
    replace hk4 := Lib.hid hk4
    go_wp2
    have hsz := setCs hbZ4.out 0 (.slice a4 M4 cp4)
    refine bodyPost_ret (results_t2 rfl _ _ _ _ (.slice a4 M4 cp4) _ rfl (by simpa using hsz)) rfl ?_
    exact ⟨_, rfl, hR4.out.keepE ((Keeps.refl [X + 1] _).setCell (p := ⟨X + 1, 0, none⟩) (.inr (by simp)) _) (fun b hb hne => by simp at hb; subst hb; exact R_box hR4.out hbZ4.out hne), ((hk03.out.trans hk4.out).fresh ((Keeps.refl [X + 1] _).setCell (p := ⟨X + 1, 0, none⟩) (.inr (by simp)) (.slice a4 M4 cp4)) (fun b hb => .inr (by simp at hb; omega)))⟩
end Go.Proofs.YtblaaafpglomnaaGreat

namespace Go.Proofs.YtblaaafpglomnaaGreat
open Go Go.RowKit

set_option maxRecDepth 100000 in
set_option maxHeartbeats 8000000 in
theorem addR_c (w : World) (v : Value) (S : List Rw) (x : En) (h : Int) (hS : shR.R w v S) (hl : S.length ≤ 1024) :
    Calls Tryz.prog 39 #[tbV v, enV x, .int .i64 h] w fun e w' => ∃ v', e = .returned (.tuple #[tbV v', .int .i64 (addS x h S).1]) ∧ shR.R w' v' (addS x h S).2 ∧ Keeps [] w w' := by
  obtain ⟨a, cp, rfl, hlc, hcm, _⟩ := hS.form
  obtain ⟨cl, n, im, is, o, i, d, tc, wk, gb, lm, ls⟩ := x
  have hk2 : Keeps [] w ((w.alloc (.cells #[.slice a S.length cp] tTb)).alloc (.cells #[.int .i64 cl, .int .u64 n, .int .i64 im, .int .i64 is, .int .i64 o, .int .i64 i, .int .i64 d, .bool tc, .bool wk, .bool gb, .int .i64 lm, .int .i64 ls] tE)) := ((Keeps.refl _ _).alloc _).alloc _
  have hkz : Keeps [] ((w.alloc (.cells #[.slice a S.length cp] tTb)).alloc (.cells #[.int .i64 cl, .int .u64 n, .int .i64 im, .int .i64 is, .int .i64 o, .int .i64 i, .int .i64 d, .bool tc, .bool wk, .bool gb, .int .i64 lm, .int .i64 ls] tE)) (((w.alloc (.cells #[.slice a S.length cp] tTb)).alloc (.cells #[.int .i64 cl, .int .u64 n, .int .i64 im, .int .i64 is, .int .i64 o, .int .i64 i, .int .i64 d, .bool tc, .bool wk, .bool gb, .int .i64 lm, .int .i64 ls] tE)).alloc (.cells #[.slice none 0 0] tTb)) := (Keeps.refl _ _).alloc _
  have hk3 := hk2.trans hkz
  have hbX := (hkz.block w.heap.size (by simp; omega) (by simp)).trans (two_a w (.cells #[.slice a S.length cp] tTb) (.cells #[.int .i64 cl, .int .u64 n, .int .i64 im, .int .i64 is, .int .i64 o, .int .i64 i, .int .i64 d, .bool tc, .bool wk, .bool gb, .int .i64 lm, .int .i64 ls] tE))
  have hbE := (hkz.block (w.heap.size + 1) (by simp) (by simp)).trans (two_b w (.cells #[.slice a S.length cp] tTb) (.cells #[.int .i64 cl, .int .u64 n, .int .i64 im, .int .i64 is, .int .i64 o, .int .i64 i, .int .i64 d, .bool tc, .bool wk, .bool gb, .int .i64 lm, .int .i64 ls] tE))
  have hbZ := heap_alloc_new ((w.alloc (.cells #[.slice a S.length cp] tTb)).alloc (.cells #[.int .i64 cl, .int .u64 n, .int .i64 im, .int .i64 is, .int .i64 o, .int .i64 i, .int .i64 d, .bool tc, .bool wk, .bool gb, .int .i64 lm, .int .i64 ls] tE)) (.cells #[.slice none 0 0] tTb)
  rw [show ((w.alloc (.cells #[.slice a S.length cp] tTb)).alloc (.cells #[.int .i64 cl, .int .u64 n, .int .i64 im, .int .i64 is, .int .i64 o, .int .i64 i, .int .i64 d, .bool tc, .bool wk, .bool gb, .int .i64 lm, .int .i64 ls] tE)).heap.size = w.heap.size + 2 by simp] at hbZ
  have hcv := fun W => validR_c W ⟨cl, n, im, is, o, i, d, tc, wk, gb, lm, ls⟩
  have hix := fun W (hk : Keeps [] w W) => index_c W _ S cl n (hS.keeps hk)
  have hadd : addS ⟨cl, n, im, is, o, i, d, tc, wk, gb, lm, ls⟩ h S = if En.val ⟨cl, n, im, is, o, i, d, tc, wk, gb, lm, ls⟩ = false ∨ h < 1 then (1, S) else if (fnd (cl, n) S).isSome = true then (5, S) else if 1024 ≤ S.length then (8, S) else (0, ins (⟨cl, n, im, is, o, i, d, tc, wk, gb, lm, ls⟩, h) S) := rfl
  have hold := hS.old
  obtain ⟨vv, hvv⟩ : ∃ b, En.val ⟨cl, n, im, is, o, i, d, tc, wk, gb, lm, ls⟩ = b := ⟨_, rfl⟩
  obtain ⟨R, hR⟩ : ∃ R, addS ⟨cl, n, im, is, o, i, d, tc, wk, gb, lm, ls⟩ h S = R := ⟨_, rfl⟩
  simp only [hvv] at hcv hadd
  rw [hR] at hadd ⊢
  obtain ⟨M, hM⟩ : ∃ N, S.length = N := ⟨_, rfl⟩
  obtain ⟨X, hX⟩ : ∃ X, w.heap.size = X := ⟨_, rfl⟩
  rw [hM] at hbX hbE hbZ hk3 hlc hold hix hadd hl hS ⊢
  rw [hX] at hbX hbE hbZ hold
  have hnZ : ∀ b, S ≠ [] → X ≤ b → (Value.slice a M cp).ownBlock ≠ some b := fun b hne hb e => by have := hold b e hne; omega
  have hk0 := Lib.hid hk3
  replace hbX := Lib.hid hbX
  replace hbE := Lib.hid hbE
  replace hbz := Lib.hid hbZ
  replace hM := Lib.hid hM
  replace hS := Lib.hid hS
  replace hcv := Lib.hid hcv
  replace hix := Lib.hid hix
  replace hadd := Lib.hid hadd
  replace hnZ := Lib.hid hnZ
  clear hvv hR hk2 hkz hk3 hold hcm hbZ
  simp only [tbV] at hix ⊢
  go_enter Tryz.func39, Tryz.ntmps39
  go_wp2_with fail
  refine (hcv.out _).mono ?_
  rintro e w1 ⟨rfl, hk1⟩
  have hbX1 := (hk1.block X (lt_of_blk hbX.out) (by simp)).trans hbX.out
  have hbE1 := (hk1.block (X + 1) (lt_of_blk hbE.out) (by simp)).trans hbE.out
  have hbZ1 := (hk1.block (X + 2) (lt_of_blk hbz.out) (by simp)).trans hbz.out
  have hk01 := hk0.out.trans hk1
  have hR1 := hS.out.keeps hk01
  have b0 := cells1 hbX1
  obtain ⟨y0, y1, y2, y3, y4, y5, y6, y7, y8, y9, y10, y11, _⟩ := cells12 hbE1
  have z0 := cells1 hbZ1
  have hfz := frz hbZ1
  replace hk01 := Lib.hid hk01
  replace hR1 := Lib.hid hR1
  replace hbX1 := Lib.hid hbX1
  replace hbE1 := Lib.hid hbE1
  replace hbZ1 := Lib.hid hbZ1
  clear hk1 hbX hbE hbz hk0 hcv
  cases vv with
  | false =>
    have hr := hadd.out.trans (if_pos (.inl rfl))
    subst hr
    go_wp2
    have hsz := setCs hbZ1.out 0 (.slice a M cp)
    refine bodyPost_ret (results_t2 rfl _ _ _ _ (.slice a M cp) _ rfl (by simpa using hsz)) rfl ?_
    exact ⟨_, rfl, hR1.out.keepE ((Keeps.refl [X + 2] _).setCell (p := ⟨X + 2, 0, none⟩) (.inr (by simp)) _) (fun b hb hne e => by simp at hb; subst hb; exact hnZ.out _ hne (by omega) e), (hk01.out.fresh ((Keeps.refl [X + 2] _).setCell (p := ⟨X + 2, 0, none⟩) (.inr (by simp)) (.slice a M cp)) (fun b hb => .inr (by simp at hb; omega)))⟩
  | true =>
  by_cases h1 : 1 ≤ h
  case neg =>
    have d1 : h < 1 := by omega
    have hr := hadd.out.trans (if_pos (.inr d1))
    subst hr
    go_wp2
    have hsz := setCs hbZ1.out 0 (.slice a M cp)
    refine bodyPost_ret (results_t2 rfl _ _ _ _ (.slice a M cp) _ rfl (by simpa using hsz)) rfl ?_
    exact ⟨_, rfl, hR1.out.keepE ((Keeps.refl [X + 2] _).setCell (p := ⟨X + 2, 0, none⟩) (.inr (by simp)) _) (fun b hb hne e => by simp at hb; subst hb; exact hnZ.out _ hne (by omega) e), (hk01.out.fresh ((Keeps.refl [X + 2] _).setCell (p := ⟨X + 2, 0, none⟩) (.inr (by simp)) (.slice a M cp)) (fun b hb => .inr (by simp at hb; omega)))⟩
  have d1 : decide (h < 1) = false := by simp; omega
  have hadd2 := hadd.out.trans (if_neg (fun hh => Or.elim hh (fun e => by cases e) (fun e => by omega)))
  replace hadd2 := Lib.hid hadd2
  clear hadd
  go_wp2_with fail
  refine (hix.out _ hk01.out).mono ?_
  rintro e w2 ⟨rfl, hk2⟩
  have hbX2 := (hk2.block X (lt_of_blk hbX1.out) (by simp)).trans hbX1.out
  have hbE2 := (hk2.block (X + 1) (lt_of_blk hbE1.out) (by simp)).trans hbE1.out
  have hbZ2 := (hk2.block (X + 2) (lt_of_blk hbZ1.out) (by simp)).trans hbZ1.out
  have hk02 := hk01.out.trans hk2
  have hR2 := hS.out.keeps hk02
  clear b0 y0 y1 y2 y3 y4 y5 y6 y7 y8 y9 y10 y11 z0 hfz
  have b0 := cells1 hbX2
  obtain ⟨y0, y1, y2, y3, y4, y5, y6, y7, y8, y9, y10, y11, _⟩ := cells12 hbE2
  have z0 := cells1 hbZ2
  have hfz := frz hbZ2
  replace hk02 := Lib.hid hk02
  replace hR2 := Lib.hid hR2
  replace hbX2 := Lib.hid hbX2
  replace hbE2 := Lib.hid hbE2
  replace hbZ2 := Lib.hid hbZ2
  clear hk2 hbX1 hbE1 hbZ1 hk01 hR1
  cases hi : idx (cl, n) S with
  | some j =>
    obtain ⟨hj, hfn⟩ := idx_some hi
    rw [idxI_some hi]
    have hr := hadd2.out.trans (if_pos (by rw [hfn]; rfl))
    subst hr
    replace hi := Lib.hid hi
    replace hfn := Lib.hid hfn
    go_wp2
    have hsz := setCs hbZ2.out 0 (.slice a M cp)
    refine bodyPost_ret (results_t2 rfl _ _ _ _ (.slice a M cp) _ rfl (by simpa using hsz)) rfl ?_
    exact ⟨_, rfl, hR2.out.keepE ((Keeps.refl [X + 2] _).setCell (p := ⟨X + 2, 0, none⟩) (.inr (by simp)) _) (fun b hb hne e => by simp at hb; subst hb; exact hnZ.out _ hne (by omega) e), (hk02.out.fresh ((Keeps.refl [X + 2] _).setCell (p := ⟨X + 2, 0, none⟩) (.inr (by simp)) (.slice a M cp)) (fun b hb => .inr (by simp at hb; omega)))⟩
  | none =>
  have hfn := idx_none.1 hi
  rw [idxI_none hi]
  have hadd3 := hadd2.out.trans (if_neg (by rw [hfn]; simp))
  replace hadd3 := Lib.hid hadd3
  replace hi := Lib.hid hi
  replace hfn := Lib.hid hfn
  clear hadd2
  by_cases h2 : 1024 ≤ M
  case pos =>
    have hr := hadd3.out.trans (if_pos h2)
    subst hr
    have h3 : (1024 : Int) ≤ M := by omega
    go_wp2
    have hsz := setCs hbZ2.out 0 (.slice a M cp)
    refine bodyPost_ret (results_t2 rfl _ _ _ _ (.slice a M cp) _ rfl (by simpa using hsz)) rfl ?_
    exact ⟨_, rfl, hR2.out.keepE ((Keeps.refl [X + 2] _).setCell (p := ⟨X + 2, 0, none⟩) (.inr (by simp)) _) (fun b hb hne e => by simp at hb; subst hb; exact hnZ.out _ hne (by omega) e), (hk02.out.fresh ((Keeps.refl [X + 2] _).setCell (p := ⟨X + 2, 0, none⟩) (.inr (by simp)) (.slice a M cp)) (fun b hb => .inr (by simp at hb; omega)))⟩
  have hr := hadd3.out.trans (if_neg h2)
  subst hr
  have h3 : decide ((1024 : Int) ≤ M) = false := by simp; omega
  clear hadd3
  go_wp2
  go_loopw [8] (fun iv wr => ∃ k : Nat, iv = .int .i64 k ∧ k ≤ M ∧ Hid (∀ i (h : i < S.length), i < k → klt S[i].1.key (cl, n)) ∧ Keeps [] w2 wr) (fun iv _ => M - (intOf iv).toNat)
  case atStart => exact ⟨0, rfl, by omega, Lib.hid (fun _ _ h => by omega), Keeps.refl _ _⟩
  case round =>
    obtain ⟨k, rfl, hk, hno, hkw⟩ := hrel
    have hbXr := (hkw.block X (lt_of_blk hbX2.out) (by simp)).trans hbX2.out
    have hbEr := (hkw.block (X + 1) (lt_of_blk hbE2.out) (by simp)).trans hbE2.out
    have hbZr := (hkw.block (X + 2) (lt_of_blk hbZ2.out) (by simp)).trans hbZ2.out
    clear b0 y0 y1 y2 y3 y4 y5 y6 y7 y8 y9 y10 y11 z0 hfz
    have b0 := cells1 hbXr
    obtain ⟨y0, y1, y2, y3, y4, y5, y6, y7, y8, y9, y10, y11, _⟩ := cells12 hbEr
    have z0 := cells1 hbZr
    have hfz := frz hbZr
    by_cases hgo : ∃ hh : k < S.length, klt S[k].1.key (cl, n)
    · obtain ⟨hkS, hklt⟩ := hgo
      have hkM : k < M := by rw [← hM.out]; exact hkS
      have hkM2 : (k : Int) < M := by omega
      obtain ⟨g, o', c', hv, he⟩ := (hR2.out.keeps hkw).elem hkS
      rw [hM.out] at hv
      cases hv
      obtain ⟨r, hr⟩ : ∃ r, S[k] = r := ⟨_, rfl⟩
      rw [hr] at he hklt
      have e0 := he 0 _ rfl
      have e1 := he 1 _ rfl
      simp only [shR, Nat.add_zero] at e0 e1
      obtain ⟨x0, hx0⟩ : ∃ z, r.1.cl = z := ⟨_, rfl⟩
      obtain ⟨x1, hx1⟩ : ∃ z, r.1.n = z := ⟨_, rfl⟩
      rw [hx0] at e0
      rw [hx1] at e1
      have hlt2 : x0 < cl ∨ (x0 = cl ∧ x1 < n) := by
        rw [← hx0, ← hx1]; exact hklt
      have hno2 : Hid (∀ i (h : i < S.length), i < k + 1 → klt S[i].1.key (cl, n)) := Lib.hid (fun i hi hik => by
        by_cases e : i = k
        · subst e; rw [hr]; exact hklt
        · exact hno.out i hi (by omega))
      have hkwd := Lib.hid (hkw.drew)
      clear he hklt hr hx0 hx1 hno hbXr hbEr hbZr hkw z0 hfz
      rcases hlt2 with hlt2 | ⟨hx, hlt2⟩
      · go_wp2
        refine Free.wp_region_chain (fun i => false) (fun i => true) (fun _ _ => False) (by kernel_rfl) (by kernel_rfl) (by kernel_rfl) ?_
        (repeat (first | (apply Free.cw_pure rfl rfl; (intro w'; go_simp <;> exact rfl); go_frame) | (apply Free.cw_steady rfl rfl rfl; (intro w' hS2; have z0 := Free.sx_cell hS2 b0 (fun _ _ hT => hT); have z1 := Free.sx_cell hS2 y0 (fun _ _ hT => hT); have z2 := Free.sx_cell hS2 y1 (fun _ _ hT => hT); have z3 := Free.sx_cell hS2 e0 (fun _ _ hT => hT); have z4 := Free.sx_cell hS2 e1 (fun _ _ hT => hT); go_simp <;> exact rfl); go_frame) | (apply Free.cw_pureW rfl rfl; (intro w'; go_simp <;> exact rfl); go_frame) | (apply Free.cw_steadyW rfl rfl rfl; (intro w' hS2; have z0 := Free.sx_cell hS2 b0 (fun _ _ hT => hT); have z1 := Free.sx_cell hS2 y0 (fun _ _ hT => hT); have z2 := Free.sx_cell hS2 y1 (fun _ _ hT => hT); have z3 := Free.sx_cell hS2 e0 (fun _ _ hT => hT); have z4 := Free.sx_cell hS2 e1 (fun _ _ hT => hT); go_simp <;> exact rfl); go_frame) | (refine Free.cw_skip rfl ?_; go_frame)))
        refine Free.cw_nil ?_
        go_wp2
        go_roundw
        case rel => exact ⟨k + 1, rfl, by omega, hno2, hkwd.out⟩
        case measure => simp [intOf]; omega
      · subst hx
        have hxx : decide (x0 < x0) = false := by simp
        have hlt3 : (x1 : Int) < n := by omega
        go_wp2
        refine Free.wp_region_chain (fun i => false) (fun i => true) (fun _ _ => False) (by kernel_rfl) (by kernel_rfl) (by kernel_rfl) ?_
        (repeat (first | (apply Free.cw_pure rfl rfl; (intro w'; go_simp <;> exact rfl); go_frame) | (apply Free.cw_steady rfl rfl rfl; (intro w' hS2; have z0 := Free.sx_cell hS2 b0 (fun _ _ hT => hT); have z1 := Free.sx_cell hS2 y0 (fun _ _ hT => hT); have z2 := Free.sx_cell hS2 y1 (fun _ _ hT => hT); have z3 := Free.sx_cell hS2 e0 (fun _ _ hT => hT); have z4 := Free.sx_cell hS2 e1 (fun _ _ hT => hT); go_simp <;> exact rfl); go_frame) | (apply Free.cw_pureW rfl rfl; (intro w'; go_simp <;> exact rfl); go_frame) | (apply Free.cw_steadyW rfl rfl rfl; (intro w' hS2; have z0 := Free.sx_cell hS2 b0 (fun _ _ hT => hT); have z1 := Free.sx_cell hS2 y0 (fun _ _ hT => hT); have z2 := Free.sx_cell hS2 y1 (fun _ _ hT => hT); have z3 := Free.sx_cell hS2 e0 (fun _ _ hT => hT); have z4 := Free.sx_cell hS2 e1 (fun _ _ hT => hT); go_simp <;> exact rfl); go_frame) | (refine Free.cw_skip rfl ?_; go_frame)))
        refine Free.cw_nil ?_
        go_wp2
        go_roundw
        case rel => exact ⟨k + 1, rfl, by omega, hno2, hkwd.out⟩
        case measure => simp [intOf]; omega
    · -- the place is found
      have hpos : pos (cl, n) S = k := by
        by_cases hkS : k < S.length
        · exact pos_step hkS (fun i hi => hno.out i (by omega) hi) (fun hh => hgo ⟨hkS, hh⟩)
        · have hkl : k = S.length := by have := hM.out; omega
          rw [pos_all (fun i hi => hno.out i hi (by omega)), hkl]
      have hins := ins_pos ((⟨cl, n, im, is, o, i, d, tc, wk, gb, lm, ls⟩, h) : Rw) S
      rw [show ((⟨cl, n, im, is, o, i, d, tc, wk, gb, lm, ls⟩, h) : Rw).1.key = (cl, n) from rfl, hpos] at hins
      have hRr := hR2.out.keeps hkw
      have hk0r := hk02.out.trans hkw
      replace hins := Lib.hid hins
      replace hRr := Lib.hid hRr
      replace hk0r := Lib.hid hk0r
      replace hbXr := Lib.hid hbXr
      replace hbEr := Lib.hid hbEr
      replace hbZr := Lib.hid hbZr
      have hkcp : k ≤ cp := by omega
      have hRk : shR.R wr (.slice a k cp) (S.take k) := by rw [← hM.out] at hRr; exact hRr.out.init' k (by have := hM.out; omega)
      have hRt : shR.R wr (.slice (if cp = k then a else a.map (fun x => x.add (k * 13))) (M - k) (cp - k)) (S.drop k) := by
        have := hRr.out
        rw [← hM.out] at this ⊢
        exact this.tail' k (by have := hM.out; omega)
      have hlr := hk0r.out.size
      have hlX := lt_of_blk hbZr.out
      have hkD : Keeps [] wr ((wr.alloc (.cells #[] tOne)).drew) := ((Keeps.refl [] wr).alloc _).drew
      have hO0 := (Sh.O.fresh shR wr wr.heap.size tOne (Nat.le_refl _)).keeps ((Keeps.refl [] _).drew)
      have hbXd := (hkD.block X (lt_of_blk hbXr.out) (by simp)).trans hbXr.out
      have hbEd := (hkD.block (X + 1) (lt_of_blk hbEr.out) (by simp)).trans hbEr.out
      have hbZd := (hkD.block (X + 2) (lt_of_blk hbZr.out) (by simp)).trans hbZr.out
      have hRkd := hRk.keeps hkD
      have hRtd := hRt.keeps hkD
      have hRt0 := Lib.hid hRt
      obtain ⟨B, hB⟩ : ∃ B, wr.heap.size = B := ⟨_, rfl⟩
      rw [hB] at hO0 hlr hlX
      have hlX0 : X < B := by omega
      replace hRkd := Lib.hid hRkd
      replace hRtd := Lib.hid hRtd
      replace hO0 := Lib.hid hO0
      replace hbXd := Lib.hid hbXd
      replace hbEd := Lib.hid hbEd
      replace hbZd := Lib.hid hbZd
      have hkD2 := Lib.hid hkD
      clear hno hpos hRk hRt hkD
      have hRt := hRt0
      by_cases hkM : k < M
      · have hkS : k < S.length := by rw [hM.out]; exact hkM
        have hkM2 : (k : Int) < M := by omega
        obtain ⟨g, o', c', hv, he⟩ := hRr.out.elem hkS
        rw [hM.out] at hv
        cases hv
        have hnk : ¬ klt S[k].1.key (cl, n) := fun hh => hgo ⟨hkS, hh⟩
        obtain ⟨r, hr⟩ : ∃ r, S[k] = r := ⟨_, rfl⟩
        rw [hr] at he hnk
        have e0 := he 0 _ rfl
        have e1 := he 1 _ rfl
        simp only [shR, Nat.add_zero] at e0 e1
        obtain ⟨x0, hx0⟩ : ∃ z, r.1.cl = z := ⟨_, rfl⟩
        obtain ⟨x1, hx1⟩ : ∃ z, r.1.n = z := ⟨_, rfl⟩
        rw [hx0] at e0
        rw [hx1] at e1
        have hnk2 : ¬ (x0 < cl ∨ (x0 = cl ∧ x1 < n)) := by rw [← hx0, ← hx1]; exact hnk
        have d0 : decide (x0 < cl) = false := by simp; omega
        clear he hr hx0 hx1 hnk
        replace hgo := Lib.hid hgo
        by_cases hxe : x0 = cl
        · have hxe' := hxe.symm
          clear hxe
          subst hxe'
          have d2 : decide ((x1 : Int) < n) = false := by simp; omega
          have d3 : decide (x1 < n) = false := by simp; omega
          replace hnk2 := Lib.hid hnk2
          go_wp2
          refine Free.wp_region_chain (fun i => false) (fun i => true) (fun _ _ => False) (by kernel_rfl) (by kernel_rfl) (by kernel_rfl) ?_
          (repeat (first | (apply Free.cw_pure rfl rfl; (intro w'; go_simp <;> exact rfl); go_frame) | (apply Free.cw_steady rfl rfl rfl; (intro w' hS2; have z0 := Free.sx_cell hS2 b0 (fun _ _ hT => hT); have z1 := Free.sx_cell hS2 y0 (fun _ _ hT => hT); have z2 := Free.sx_cell hS2 y1 (fun _ _ hT => hT); have z3 := Free.sx_cell hS2 e0 (fun _ _ hT => hT); have z4 := Free.sx_cell hS2 e1 (fun _ _ hT => hT); go_simp <;> exact rfl); go_frame) | (apply Free.cw_pureW rfl rfl; (intro w'; go_simp <;> exact rfl); go_frame) | (apply Free.cw_steadyW rfl rfl rfl; (intro w' hS2; have z0 := Free.sx_cell hS2 b0 (fun _ _ hT => hT); have z1 := Free.sx_cell hS2 y0 (fun _ _ hT => hT); have z2 := Free.sx_cell hS2 y1 (fun _ _ hT => hT); have z3 := Free.sx_cell hS2 e0 (fun _ _ hT => hT); have z4 := Free.sx_cell hS2 e1 (fun _ _ hT => hT); go_simp <;> exact rfl); go_frame) | (refine Free.cw_skip rfl ?_; go_frame)))
          refine Free.cw_nil ?_
          clear e0 e1
          obtain ⟨a, ha⟩ : ∃ a, some (⟨g, o', none⟩ : Addr) = a := ⟨_, rfl⟩
          rw [ha]
          rw [ha] at hRt hRkd hbXd hbXr
          clear ha
          clear b0 y0 y1 y2 y3 y4 y5 y6 y7 y8 y9 y10 y11 z0 hfz
          have b0 := cells1 hbXr.out
          go_wp2_with (at_builtin; go_loud (refine Sh.wpl_app shR B infoOne rfl Tryz.underlying28 (.slice (some ⟨B, 0, none⟩) 0 0) _ [] (S.take k) rfl _ _ rfl rfl rfl hO0.out hRkd.out (by simp; omega) (by simp; omega) ?_; intro v5 w5 hO5 hG5; have hk5 := Lib.hid (Grw.keeps ((Keeps.refl [] wr).trans hkD2.out) hG5 (fun b hb => by have := hO0.out.ge b hb; omega)); rw [List.nil_append] at hO5; obtain ⟨a5, c5, rfl⟩ := hO5.form; rw [show (S.take k).length = k by simp; have := hM.out; omega] at hO5 ⊢; replace hO5 := Lib.hid hO5; clear hG5))
          have hz5 : B ≤ w5.heap.size := by have := hk5.out.size; omega
          have hbX5 := (hk5.out.block X (by omega) (by simp)).trans hbXr.out
          have hbE5 := (hk5.out.block (X + 1) (by omega) (by simp)).trans hbEr.out
          have hbZ5 := (hk5.out.block (X + 2) (by omega) (by simp)).trans hbZr.out
          have hRt5 := hRt.out.keeps hk5.out
          clear b0
          have b0 := cells1 hbX5
          obtain ⟨y0, y1, y2, y3, y4, y5, y6, y7, y8, y9, y10, y11, _⟩ := cells12 hbE5
          replace hbX5 := Lib.hid hbX5
          replace hbE5 := Lib.hid hbE5
          replace hbZ5 := Lib.hid hbZ5
          replace hRt5 := Lib.hid hRt5
          refine Free.wp_region_chain (fun i => i == 4 || i == 5 || i == 10 || i == 12) (fun i => true) (fun j b => ((j = 5 ∨ j = 10) ∧ B ≤ b) ∨ (j = 12 ∧ b = X + 2)) (by kernel_rfl) (by kernel_rfl) (by kernel_rfl) ?_
          (repeat (first | (apply Free.cw_pure rfl rfl; (intro w'; go_simp <;> exact rfl); go_frame) | (apply Free.cw_steady rfl rfl rfl; (intro w' hS2; have z0 := Free.sx_cell hS2 b0 (fun j hp hT => by rcases hT with ⟨_, h⟩ | ⟨_, h⟩ <;> omega); have z1 := Free.sx_cell hS2 y0 (fun j hp hT => by rcases hT with ⟨_, h⟩ | ⟨_, h⟩ <;> omega); have z2 := Free.sx_cell hS2 y1 (fun j hp hT => by rcases hT with ⟨_, h⟩ | ⟨_, h⟩ <;> omega); have z3 := Free.sx_cell hS2 y2 (fun j hp hT => by rcases hT with ⟨_, h⟩ | ⟨_, h⟩ <;> omega); have z4 := Free.sx_cell hS2 y3 (fun j hp hT => by rcases hT with ⟨_, h⟩ | ⟨_, h⟩ <;> omega); have z5 := Free.sx_cell hS2 y4 (fun j hp hT => by rcases hT with ⟨_, h⟩ | ⟨_, h⟩ <;> omega); have z6 := Free.sx_cell hS2 y5 (fun j hp hT => by rcases hT with ⟨_, h⟩ | ⟨_, h⟩ <;> omega); have z7 := Free.sx_cell hS2 y6 (fun j hp hT => by rcases hT with ⟨_, h⟩ | ⟨_, h⟩ <;> omega); have z8 := Free.sx_cell hS2 y7 (fun j hp hT => by rcases hT with ⟨_, h⟩ | ⟨_, h⟩ <;> omega); have z9 := Free.sx_cell hS2 y8 (fun j hp hT => by rcases hT with ⟨_, h⟩ | ⟨_, h⟩ <;> omega); have z10 := Free.sx_cell hS2 y9 (fun j hp hT => by rcases hT with ⟨_, h⟩ | ⟨_, h⟩ <;> omega); have z11 := Free.sx_cell hS2 y10 (fun j hp hT => by rcases hT with ⟨_, h⟩ | ⟨_, h⟩ <;> omega); have z12 := Free.sx_cell hS2 y11 (fun j hp hT => by rcases hT with ⟨_, h⟩ | ⟨_, h⟩ <;> omega); go_simp <;> exact rfl); go_frame)))
          refine Free.cw_loud rfl rfl (fun K hK => ?_)
          go_wp2
          refine hK _ _ rfl (Free.KeepsP.alloc _ _ _) ?_
          clear hK K
          (repeat (apply Free.cw_pure rfl rfl; (intro w'; go_simp <;> exact rfl); go_frame))
          refine Free.cw_loud rfl rfl (fun K hK => ?_)
          have hmade := (Sh.O.one shR w5 ((⟨cl, n, im, is, o, i, d, tc, wk, gb, lm, ls⟩, h) : Rw) #[.int .i64 cl, .int .u64 n, .int .i64 im, .int .i64 is, .int .i64 o, .int .i64 i, .int .i64 d, .bool tc, .bool wk, .bool gb, .int .i64 lm, .int .i64 ls, .int .i64 h] tOne 0 rfl (by omega)).keeps ((Keeps.refl [] _).drew)
          have hk56 : Keeps [] w5 ((w5.alloc (.cells #[.int .i64 cl, .int .u64 n, .int .i64 im, .int .i64 is, .int .i64 o, .int .i64 i, .int .i64 d, .bool tc, .bool wk, .bool gb, .int .i64 lm, .int .i64 ls, .int .i64 h] tOne)).drew) := ((Keeps.refl [] w5).alloc _).drew
          have hO6 := hO5.out.keeps hk56
          have hb6 : B ≤ ((w5.alloc (.cells #[.int .i64 cl, .int .u64 n, .int .i64 im, .int .i64 is, .int .i64 o, .int .i64 i, .int .i64 d, .bool tc, .bool wk, .bool gb, .int .i64 lm, .int .i64 ls, .int .i64 h] tOne)).drew).heap.size := Nat.le_trans hz5 hk56.size
          refine Sh.wp_app shR B infoOne rfl Tryz.underlying28 (.slice a5 k c5) (.slice (some ⟨w5.heap.size, 0, none⟩) 1 1) _ _ _ _ rfl rfl rfl hO6 hmade.r (by rw [List.length_take, List.length_singleton]; have := Nat.min_le_left k S.length; omega) hb6 ?_
          intro v7 w7 hO7 hG7
          refine hK _ _ rfl (Free.KeepsP.of hG7.keepsO (fun b hb => .inl ⟨.inl rfl, hO6.ge b (by simpa using hb)⟩)) ?_
          clear hK K
          have hk77 := Lib.hid (Grw.keeps (hk5.out.trans hk56) hG7 (fun b hb => by have := hO6.ge b hb; omega))
          have hge7 := hO7.ge
          obtain ⟨a7, c7, rfl⟩ := hO7.form
          have hn7 : (S.take k ++ [((⟨cl, n, im, is, o, i, d, tc, wk, gb, lm, ls⟩, h) : Rw)]).length = k + 1 := by simp; have := hM.out; omega
          rw [hn7] at hO7 hge7 ⊢
          have hz7 : B ≤ w7.heap.size := Nat.le_trans hb6 hG7.grown.size
          have hRt7 := hRt.out.keeps hk77.out
          have hbZ7 := (hk77.out.block (X + 2) (by omega) (by simp)).trans hbZr.out
          replace hO7 := Lib.hid hO7
          replace hRt7 := Lib.hid hRt7
          replace hbZ7 := Lib.hid hbZ7
          replace hge7 := Lib.hid hge7
          clear hmade hO6 hG7
          (repeat (first | (apply Free.cw_pure rfl rfl; (intro w'; go_simp <;> exact rfl); go_frame) | (apply Free.cw_steady rfl rfl rfl; (intro w' hS2; have z0 := Free.sx_cell hS2 b0 (fun j hp hT => by rcases hT with ⟨_, h⟩ | ⟨_, h⟩ <;> omega); have z1 := Free.sx_cell hS2 y0 (fun j hp hT => by rcases hT with ⟨_, h⟩ | ⟨_, h⟩ <;> omega); have z2 := Free.sx_cell hS2 y1 (fun j hp hT => by rcases hT with ⟨_, h⟩ | ⟨_, h⟩ <;> omega); have z3 := Free.sx_cell hS2 y2 (fun j hp hT => by rcases hT with ⟨_, h⟩ | ⟨_, h⟩ <;> omega); have z4 := Free.sx_cell hS2 y3 (fun j hp hT => by rcases hT with ⟨_, h⟩ | ⟨_, h⟩ <;> omega); have z5 := Free.sx_cell hS2 y4 (fun j hp hT => by rcases hT with ⟨_, h⟩ | ⟨_, h⟩ <;> omega); have z6 := Free.sx_cell hS2 y5 (fun j hp hT => by rcases hT with ⟨_, h⟩ | ⟨_, h⟩ <;> omega); have z7 := Free.sx_cell hS2 y6 (fun j hp hT => by rcases hT with ⟨_, h⟩ | ⟨_, h⟩ <;> omega); have z8 := Free.sx_cell hS2 y7 (fun j hp hT => by rcases hT with ⟨_, h⟩ | ⟨_, h⟩ <;> omega); have z9 := Free.sx_cell hS2 y8 (fun j hp hT => by rcases hT with ⟨_, h⟩ | ⟨_, h⟩ <;> omega); have z10 := Free.sx_cell hS2 y9 (fun j hp hT => by rcases hT with ⟨_, h⟩ | ⟨_, h⟩ <;> omega); have z11 := Free.sx_cell hS2 y10 (fun j hp hT => by rcases hT with ⟨_, h⟩ | ⟨_, h⟩ <;> omega); have z12 := Free.sx_cell hS2 y11 (fun j hp hT => by rcases hT with ⟨_, h⟩ | ⟨_, h⟩ <;> omega); go_simp <;> exact rfl); go_frame)))
          refine Free.cw_loud rfl rfl (fun K hK => ?_)
          refine Sh.wp_app shR B infoOne rfl Tryz.underlying28 (.slice a7 (k + 1) c7) _ _ _ _ _ rfl rfl rfl hO7.out hRt7.out (by rw [hn7, List.length_drop]; have := hM.out; omega) hz7 ?_
          intro v8 w8 hO8 hG8
          refine hK _ _ rfl (Free.KeepsP.of hG8.keepsO (fun b hb => .inl ⟨.inr rfl, hge7.out b (by simpa using hb)⟩)) ?_
          clear hK K
          have hk88 := Lib.hid (Grw.keeps hk77.out hG8 (fun b hb => by have := hge7.out b hb; omega))
          have hge8 := hO8.ge
          rw [show S.take k ++ [((⟨cl, n, im, is, o, i, d, tc, wk, gb, lm, ls⟩, h) : Rw)] ++ S.drop k = S.take k ++ ((⟨cl, n, im, is, o, i, d, tc, wk, gb, lm, ls⟩, h) : Rw) :: S.drop k by simp, ← hins.out] at hO8
          obtain ⟨a8, c8, hv8⟩ := hO8.form
          subst hv8
          have hbZ8 := (hk88.out.block (X + 2) (by omega) (by simp)).trans hbZr.out
          have z0 := cells1 hbZ8
          have hfz := frz hbZ8
          obtain ⟨n8, hn8⟩ : ∃ zz, (ins ((⟨cl, n, im, is, o, i, d, tc, wk, gb, lm, ls⟩, h) : Rw) S).length = zz := ⟨_, rfl⟩
          rw [hn8] at hO8 hge8 ⊢
          replace hO8 := Lib.hid hO8
          replace hbZ8 := Lib.hid hbZ8
          replace hge8 := Lib.hid hge8
          replace hn8 := Lib.hid hn8
          clear hG8 hn7
          (repeat (apply Free.cw_pure rfl rfl; (intro w'; go_simp <;> exact rfl); go_frame))
          refine Free.cw_loud rfl rfl (fun K hK => ?_)
          go_wp2
          all_goals
            refine hK _ _ rfl (Free.KeepsP.setCell _ (p := ⟨X + 2, 0, none⟩) (.inr ⟨trivial, rfl⟩) _) ?_
            clear hK K
            (repeat (apply Free.cw_pure rfl rfl; (intro w'; go_simp <;> exact rfl); go_frame))
            refine Free.cw_nil ?_
            go_wp2
            have hkZ : Keeps [X + 2] w8 (w8.setCell ⟨X + 2, 0, none⟩ (.slice a8 n8 c8)) := (Keeps.refl _ _).setCell (p := ⟨X + 2, 0, none⟩) (.inr (by simp)) _
            refine bodyPost_ret (results_t2 rfl _ _ _ _ (.slice a8 n8 c8) _ rfl (by have := setCs hbZ8.out 0 (.slice a8 n8 c8); simpa using this)) rfl ?_
            exact ⟨_, rfl, (hO8.out.keepS hkZ (fun b hb e => by simp at hb; subst hb; have := hge8.out _ e; omega)).r, (hk0r.out.trans hk88.out).fresh hkZ (fun b hb => .inr (by simp at hb; omega))⟩
        · have d2 : (x0 == cl) = false := by simpa using hxe
          replace hnk2 := Lib.hid hnk2
          replace hxe := Lib.hid hxe
          go_wp2
          refine Free.wp_region_chain (fun i => false) (fun i => true) (fun _ _ => False) (by kernel_rfl) (by kernel_rfl) (by kernel_rfl) ?_
          (repeat (first | (apply Free.cw_pure rfl rfl; (intro w'; go_simp <;> exact rfl); go_frame) | (apply Free.cw_steady rfl rfl rfl; (intro w' hS2; have z0 := Free.sx_cell hS2 b0 (fun _ _ hT => hT); have z1 := Free.sx_cell hS2 y0 (fun _ _ hT => hT); have z2 := Free.sx_cell hS2 y1 (fun _ _ hT => hT); have z3 := Free.sx_cell hS2 e0 (fun _ _ hT => hT); have z4 := Free.sx_cell hS2 e1 (fun _ _ hT => hT); go_simp <;> exact rfl); go_frame) | (apply Free.cw_pureW rfl rfl; (intro w'; go_simp <;> exact rfl); go_frame) | (apply Free.cw_steadyW rfl rfl rfl; (intro w' hS2; have z0 := Free.sx_cell hS2 b0 (fun _ _ hT => hT); have z1 := Free.sx_cell hS2 y0 (fun _ _ hT => hT); have z2 := Free.sx_cell hS2 y1 (fun _ _ hT => hT); have z3 := Free.sx_cell hS2 e0 (fun _ _ hT => hT); have z4 := Free.sx_cell hS2 e1 (fun _ _ hT => hT); go_simp <;> exact rfl); go_frame) | (refine Free.cw_skip rfl ?_; go_frame)))
          refine Free.cw_nil ?_
          clear e0 e1
          obtain ⟨a, ha⟩ : ∃ a, some (⟨g, o', none⟩ : Addr) = a := ⟨_, rfl⟩
          rw [ha]
          rw [ha] at hRt hRkd hbXd hbXr
          clear ha
          clear b0 y0 y1 y2 y3 y4 y5 y6 y7 y8 y9 y10 y11 z0 hfz
          have b0 := cells1 hbXr.out
          go_wp2_with (at_builtin; go_loud (refine Sh.wpl_app shR B infoOne rfl Tryz.underlying28 (.slice (some ⟨B, 0, none⟩) 0 0) _ [] (S.take k) rfl _ _ rfl rfl rfl hO0.out hRkd.out (by simp; omega) (by simp; omega) ?_; intro v5 w5 hO5 hG5; have hk5 := Lib.hid (Grw.keeps ((Keeps.refl [] wr).trans hkD2.out) hG5 (fun b hb => by have := hO0.out.ge b hb; omega)); rw [List.nil_append] at hO5; obtain ⟨a5, c5, rfl⟩ := hO5.form; rw [show (S.take k).length = k by simp; have := hM.out; omega] at hO5 ⊢; replace hO5 := Lib.hid hO5; clear hG5))
          have hz5 : B ≤ w5.heap.size := by have := hk5.out.size; omega
          have hbX5 := (hk5.out.block X (by omega) (by simp)).trans hbXr.out
          have hbE5 := (hk5.out.block (X + 1) (by omega) (by simp)).trans hbEr.out
          have hbZ5 := (hk5.out.block (X + 2) (by omega) (by simp)).trans hbZr.out
          have hRt5 := hRt.out.keeps hk5.out
          clear b0
          have b0 := cells1 hbX5
          obtain ⟨y0, y1, y2, y3, y4, y5, y6, y7, y8, y9, y10, y11, _⟩ := cells12 hbE5
          replace hbX5 := Lib.hid hbX5
          replace hbE5 := Lib.hid hbE5
          replace hbZ5 := Lib.hid hbZ5
          replace hRt5 := Lib.hid hRt5
          refine Free.wp_region_chain (fun i => i == 4 || i == 5 || i == 10 || i == 12) (fun i => true) (fun j b => ((j = 5 ∨ j = 10) ∧ B ≤ b) ∨ (j = 12 ∧ b = X + 2)) (by kernel_rfl) (by kernel_rfl) (by kernel_rfl) ?_
          (repeat (first | (apply Free.cw_pure rfl rfl; (intro w'; go_simp <;> exact rfl); go_frame) | (apply Free.cw_steady rfl rfl rfl; (intro w' hS2; have z0 := Free.sx_cell hS2 b0 (fun j hp hT => by rcases hT with ⟨_, h⟩ | ⟨_, h⟩ <;> omega); have z1 := Free.sx_cell hS2 y0 (fun j hp hT => by rcases hT with ⟨_, h⟩ | ⟨_, h⟩ <;> omega); have z2 := Free.sx_cell hS2 y1 (fun j hp hT => by rcases hT with ⟨_, h⟩ | ⟨_, h⟩ <;> omega); have z3 := Free.sx_cell hS2 y2 (fun j hp hT => by rcases hT with ⟨_, h⟩ | ⟨_, h⟩ <;> omega); have z4 := Free.sx_cell hS2 y3 (fun j hp hT => by rcases hT with ⟨_, h⟩ | ⟨_, h⟩ <;> omega); have z5 := Free.sx_cell hS2 y4 (fun j hp hT => by rcases hT with ⟨_, h⟩ | ⟨_, h⟩ <;> omega); have z6 := Free.sx_cell hS2 y5 (fun j hp hT => by rcases hT with ⟨_, h⟩ | ⟨_, h⟩ <;> omega); have z7 := Free.sx_cell hS2 y6 (fun j hp hT => by rcases hT with ⟨_, h⟩ | ⟨_, h⟩ <;> omega); have z8 := Free.sx_cell hS2 y7 (fun j hp hT => by rcases hT with ⟨_, h⟩ | ⟨_, h⟩ <;> omega); have z9 := Free.sx_cell hS2 y8 (fun j hp hT => by rcases hT with ⟨_, h⟩ | ⟨_, h⟩ <;> omega); have z10 := Free.sx_cell hS2 y9 (fun j hp hT => by rcases hT with ⟨_, h⟩ | ⟨_, h⟩ <;> omega); have z11 := Free.sx_cell hS2 y10 (fun j hp hT => by rcases hT with ⟨_, h⟩ | ⟨_, h⟩ <;> omega); have z12 := Free.sx_cell hS2 y11 (fun j hp hT => by rcases hT with ⟨_, h⟩ | ⟨_, h⟩ <;> omega); go_simp <;> exact rfl); go_frame)))
          refine Free.cw_loud rfl rfl (fun K hK => ?_)
          go_wp2
          refine hK _ _ rfl (Free.KeepsP.alloc _ _ _) ?_
          clear hK K
          (repeat (apply Free.cw_pure rfl rfl; (intro w'; go_simp <;> exact rfl); go_frame))
          refine Free.cw_loud rfl rfl (fun K hK => ?_)
          have hmade := (Sh.O.one shR w5 ((⟨cl, n, im, is, o, i, d, tc, wk, gb, lm, ls⟩, h) : Rw) #[.int .i64 cl, .int .u64 n, .int .i64 im, .int .i64 is, .int .i64 o, .int .i64 i, .int .i64 d, .bool tc, .bool wk, .bool gb, .int .i64 lm, .int .i64 ls, .int .i64 h] tOne 0 rfl (by omega)).keeps ((Keeps.refl [] _).drew)
          have hk56 : Keeps [] w5 ((w5.alloc (.cells #[.int .i64 cl, .int .u64 n, .int .i64 im, .int .i64 is, .int .i64 o, .int .i64 i, .int .i64 d, .bool tc, .bool wk, .bool gb, .int .i64 lm, .int .i64 ls, .int .i64 h] tOne)).drew) := ((Keeps.refl [] w5).alloc _).drew
          have hO6 := hO5.out.keeps hk56
          have hb6 : B ≤ ((w5.alloc (.cells #[.int .i64 cl, .int .u64 n, .int .i64 im, .int .i64 is, .int .i64 o, .int .i64 i, .int .i64 d, .bool tc, .bool wk, .bool gb, .int .i64 lm, .int .i64 ls, .int .i64 h] tOne)).drew).heap.size := Nat.le_trans hz5 hk56.size
          refine Sh.wp_app shR B infoOne rfl Tryz.underlying28 (.slice a5 k c5) (.slice (some ⟨w5.heap.size, 0, none⟩) 1 1) _ _ _ _ rfl rfl rfl hO6 hmade.r (by rw [List.length_take, List.length_singleton]; have := Nat.min_le_left k S.length; omega) hb6 ?_
          intro v7 w7 hO7 hG7
          refine hK _ _ rfl (Free.KeepsP.of hG7.keepsO (fun b hb => .inl ⟨.inl rfl, hO6.ge b (by simpa using hb)⟩)) ?_
          clear hK K
          have hk77 := Lib.hid (Grw.keeps (hk5.out.trans hk56) hG7 (fun b hb => by have := hO6.ge b hb; omega))
          have hge7 := hO7.ge
          obtain ⟨a7, c7, rfl⟩ := hO7.form
          have hn7 : (S.take k ++ [((⟨cl, n, im, is, o, i, d, tc, wk, gb, lm, ls⟩, h) : Rw)]).length = k + 1 := by simp; have := hM.out; omega
          rw [hn7] at hO7 hge7 ⊢
          have hz7 : B ≤ w7.heap.size := Nat.le_trans hb6 hG7.grown.size
          have hRt7 := hRt.out.keeps hk77.out
          have hbZ7 := (hk77.out.block (X + 2) (by omega) (by simp)).trans hbZr.out
          replace hO7 := Lib.hid hO7
          replace hRt7 := Lib.hid hRt7
          replace hbZ7 := Lib.hid hbZ7
          replace hge7 := Lib.hid hge7
          clear hmade hO6 hG7
          (repeat (first | (apply Free.cw_pure rfl rfl; (intro w'; go_simp <;> exact rfl); go_frame) | (apply Free.cw_steady rfl rfl rfl; (intro w' hS2; have z0 := Free.sx_cell hS2 b0 (fun j hp hT => by rcases hT with ⟨_, h⟩ | ⟨_, h⟩ <;> omega); have z1 := Free.sx_cell hS2 y0 (fun j hp hT => by rcases hT with ⟨_, h⟩ | ⟨_, h⟩ <;> omega); have z2 := Free.sx_cell hS2 y1 (fun j hp hT => by rcases hT with ⟨_, h⟩ | ⟨_, h⟩ <;> omega); have z3 := Free.sx_cell hS2 y2 (fun j hp hT => by rcases hT with ⟨_, h⟩ | ⟨_, h⟩ <;> omega); have z4 := Free.sx_cell hS2 y3 (fun j hp hT => by rcases hT with ⟨_, h⟩ | ⟨_, h⟩ <;> omega); have z5 := Free.sx_cell hS2 y4 (fun j hp hT => by rcases hT with ⟨_, h⟩ | ⟨_, h⟩ <;> omega); have z6 := Free.sx_cell hS2 y5 (fun j hp hT => by rcases hT with ⟨_, h⟩ | ⟨_, h⟩ <;> omega); have z7 := Free.sx_cell hS2 y6 (fun j hp hT => by rcases hT with ⟨_, h⟩ | ⟨_, h⟩ <;> omega); have z8 := Free.sx_cell hS2 y7 (fun j hp hT => by rcases hT with ⟨_, h⟩ | ⟨_, h⟩ <;> omega); have z9 := Free.sx_cell hS2 y8 (fun j hp hT => by rcases hT with ⟨_, h⟩ | ⟨_, h⟩ <;> omega); have z10 := Free.sx_cell hS2 y9 (fun j hp hT => by rcases hT with ⟨_, h⟩ | ⟨_, h⟩ <;> omega); have z11 := Free.sx_cell hS2 y10 (fun j hp hT => by rcases hT with ⟨_, h⟩ | ⟨_, h⟩ <;> omega); have z12 := Free.sx_cell hS2 y11 (fun j hp hT => by rcases hT with ⟨_, h⟩ | ⟨_, h⟩ <;> omega); go_simp <;> exact rfl); go_frame)))
          refine Free.cw_loud rfl rfl (fun K hK => ?_)
          refine Sh.wp_app shR B infoOne rfl Tryz.underlying28 (.slice a7 (k + 1) c7) _ _ _ _ _ rfl rfl rfl hO7.out hRt7.out (by rw [hn7, List.length_drop]; have := hM.out; omega) hz7 ?_
          intro v8 w8 hO8 hG8
          refine hK _ _ rfl (Free.KeepsP.of hG8.keepsO (fun b hb => .inl ⟨.inr rfl, hge7.out b (by simpa using hb)⟩)) ?_
          clear hK K
          have hk88 := Lib.hid (Grw.keeps hk77.out hG8 (fun b hb => by have := hge7.out b hb; omega))
          have hge8 := hO8.ge
          rw [show S.take k ++ [((⟨cl, n, im, is, o, i, d, tc, wk, gb, lm, ls⟩, h) : Rw)] ++ S.drop k = S.take k ++ ((⟨cl, n, im, is, o, i, d, tc, wk, gb, lm, ls⟩, h) : Rw) :: S.drop k by simp, ← hins.out] at hO8
          obtain ⟨a8, c8, hv8⟩ := hO8.form
          subst hv8
          have hbZ8 := (hk88.out.block (X + 2) (by omega) (by simp)).trans hbZr.out
          have z0 := cells1 hbZ8
          have hfz := frz hbZ8
          obtain ⟨n8, hn8⟩ : ∃ zz, (ins ((⟨cl, n, im, is, o, i, d, tc, wk, gb, lm, ls⟩, h) : Rw) S).length = zz := ⟨_, rfl⟩
          rw [hn8] at hO8 hge8 ⊢
          replace hO8 := Lib.hid hO8
          replace hbZ8 := Lib.hid hbZ8
          replace hge8 := Lib.hid hge8
          replace hn8 := Lib.hid hn8
          clear hG8 hn7
          (repeat (apply Free.cw_pure rfl rfl; (intro w'; go_simp <;> exact rfl); go_frame))
          refine Free.cw_loud rfl rfl (fun K hK => ?_)
          go_wp2
          all_goals
            refine hK _ _ rfl (Free.KeepsP.setCell _ (p := ⟨X + 2, 0, none⟩) (.inr ⟨trivial, rfl⟩) _) ?_
            clear hK K
            (repeat (apply Free.cw_pure rfl rfl; (intro w'; go_simp <;> exact rfl); go_frame))
            refine Free.cw_nil ?_
            go_wp2
            have hkZ : Keeps [X + 2] w8 (w8.setCell ⟨X + 2, 0, none⟩ (.slice a8 n8 c8)) := (Keeps.refl _ _).setCell (p := ⟨X + 2, 0, none⟩) (.inr (by simp)) _
            refine bodyPost_ret (results_t2 rfl _ _ _ _ (.slice a8 n8 c8) _ rfl (by have := setCs hbZ8.out 0 (.slice a8 n8 c8); simpa using this)) rfl ?_
            exact ⟨_, rfl, (hO8.out.keepS hkZ (fun b hb e => by simp at hb; subst hb; have := hge8.out _ e; omega)).r, (hk0r.out.trans hk88.out).fresh hkZ (fun b hb => .inr (by simp at hb; omega))⟩
      · have hkM2 : decide ((k : Int) < M) = false := by simp; omega
        have hkM3 : decide (k < M) = false := by simp; omega
        have hkMe : k = M := by omega
        replace hgo := Lib.hid hgo
        replace hkMe := Lib.hid hkMe
        go_wp2
        refine Free.wp_region_chain (fun i => false) (fun i => true) (fun _ _ => False) (by kernel_rfl) (by kernel_rfl) (by kernel_rfl) ?_
        (repeat (first | (apply Free.cw_pure rfl rfl; (intro w'; go_simp <;> exact rfl); go_frame) | (apply Free.cw_steady rfl rfl rfl; (intro w' hS2; have z0 := Free.sx_cell hS2 b0 (fun _ _ hT => hT); have z1 := Free.sx_cell hS2 y0 (fun _ _ hT => hT); have z2 := Free.sx_cell hS2 y1 (fun _ _ hT => hT); go_simp <;> exact rfl); go_frame) | (apply Free.cw_pureW rfl rfl; (intro w'; go_simp <;> exact rfl); go_frame) | (apply Free.cw_steadyW rfl rfl rfl; (intro w' hS2; have z0 := Free.sx_cell hS2 b0 (fun _ _ hT => hT); have z1 := Free.sx_cell hS2 y0 (fun _ _ hT => hT); have z2 := Free.sx_cell hS2 y1 (fun _ _ hT => hT); go_simp <;> exact rfl); go_frame) | (refine Free.cw_skip rfl ?_; go_frame)))
        refine Free.cw_nil ?_
        clear b0 y0 y1 y2 y3 y4 y5 y6 y7 y8 y9 y10 y11 z0 hfz
        have b0 := cells1 hbXr.out
        go_wp2_with (at_builtin; go_loud (refine Sh.wpl_app shR B infoOne rfl Tryz.underlying28 (.slice (some ⟨B, 0, none⟩) 0 0) _ [] (S.take k) rfl _ _ rfl rfl rfl hO0.out hRkd.out (by simp; omega) (by simp; omega) ?_; intro v5 w5 hO5 hG5; have hk5 := Lib.hid (Grw.keeps ((Keeps.refl [] wr).trans hkD2.out) hG5 (fun b hb => by have := hO0.out.ge b hb; omega)); rw [List.nil_append] at hO5; obtain ⟨a5, c5, rfl⟩ := hO5.form; rw [show (S.take k).length = k by simp; have := hM.out; omega] at hO5 ⊢; replace hO5 := Lib.hid hO5; clear hG5))
        have hz5 : B ≤ w5.heap.size := by have := hk5.out.size; omega
        have hbX5 := (hk5.out.block X (by omega) (by simp)).trans hbXr.out
        have hbE5 := (hk5.out.block (X + 1) (by omega) (by simp)).trans hbEr.out
        have hbZ5 := (hk5.out.block (X + 2) (by omega) (by simp)).trans hbZr.out
        have hRt5 := hRt.out.keeps hk5.out
        clear b0
        have b0 := cells1 hbX5
        obtain ⟨y0, y1, y2, y3, y4, y5, y6, y7, y8, y9, y10, y11, _⟩ := cells12 hbE5
        replace hbX5 := Lib.hid hbX5
        replace hbE5 := Lib.hid hbE5
        replace hbZ5 := Lib.hid hbZ5
        replace hRt5 := Lib.hid hRt5
        refine Free.wp_region_chain (fun i => i == 4 || i == 5 || i == 10 || i == 12) (fun i => true) (fun j b => ((j = 5 ∨ j = 10) ∧ B ≤ b) ∨ (j = 12 ∧ b = X + 2)) (by kernel_rfl) (by kernel_rfl) (by kernel_rfl) ?_
        (repeat (first | (apply Free.cw_pure rfl rfl; (intro w'; go_simp <;> exact rfl); go_frame) | (apply Free.cw_steady rfl rfl rfl; (intro w' hS2; have z0 := Free.sx_cell hS2 b0 (fun j hp hT => by rcases hT with ⟨_, h⟩ | ⟨_, h⟩ <;> omega); have z1 := Free.sx_cell hS2 y0 (fun j hp hT => by rcases hT with ⟨_, h⟩ | ⟨_, h⟩ <;> omega); have z2 := Free.sx_cell hS2 y1 (fun j hp hT => by rcases hT with ⟨_, h⟩ | ⟨_, h⟩ <;> omega); have z3 := Free.sx_cell hS2 y2 (fun j hp hT => by rcases hT with ⟨_, h⟩ | ⟨_, h⟩ <;> omega); have z4 := Free.sx_cell hS2 y3 (fun j hp hT => by rcases hT with ⟨_, h⟩ | ⟨_, h⟩ <;> omega); have z5 := Free.sx_cell hS2 y4 (fun j hp hT => by rcases hT with ⟨_, h⟩ | ⟨_, h⟩ <;> omega); have z6 := Free.sx_cell hS2 y5 (fun j hp hT => by rcases hT with ⟨_, h⟩ | ⟨_, h⟩ <;> omega); have z7 := Free.sx_cell hS2 y6 (fun j hp hT => by rcases hT with ⟨_, h⟩ | ⟨_, h⟩ <;> omega); have z8 := Free.sx_cell hS2 y7 (fun j hp hT => by rcases hT with ⟨_, h⟩ | ⟨_, h⟩ <;> omega); have z9 := Free.sx_cell hS2 y8 (fun j hp hT => by rcases hT with ⟨_, h⟩ | ⟨_, h⟩ <;> omega); have z10 := Free.sx_cell hS2 y9 (fun j hp hT => by rcases hT with ⟨_, h⟩ | ⟨_, h⟩ <;> omega); have z11 := Free.sx_cell hS2 y10 (fun j hp hT => by rcases hT with ⟨_, h⟩ | ⟨_, h⟩ <;> omega); have z12 := Free.sx_cell hS2 y11 (fun j hp hT => by rcases hT with ⟨_, h⟩ | ⟨_, h⟩ <;> omega); go_simp <;> exact rfl); go_frame)))
        refine Free.cw_loud rfl rfl (fun K hK => ?_)
        go_wp2
        refine hK _ _ rfl (Free.KeepsP.alloc _ _ _) ?_
        clear hK K
        (repeat (apply Free.cw_pure rfl rfl; (intro w'; go_simp <;> exact rfl); go_frame))
        refine Free.cw_loud rfl rfl (fun K hK => ?_)
        have hmade := (Sh.O.one shR w5 ((⟨cl, n, im, is, o, i, d, tc, wk, gb, lm, ls⟩, h) : Rw) #[.int .i64 cl, .int .u64 n, .int .i64 im, .int .i64 is, .int .i64 o, .int .i64 i, .int .i64 d, .bool tc, .bool wk, .bool gb, .int .i64 lm, .int .i64 ls, .int .i64 h] tOne 0 rfl (by omega)).keeps ((Keeps.refl [] _).drew)
        have hk56 : Keeps [] w5 ((w5.alloc (.cells #[.int .i64 cl, .int .u64 n, .int .i64 im, .int .i64 is, .int .i64 o, .int .i64 i, .int .i64 d, .bool tc, .bool wk, .bool gb, .int .i64 lm, .int .i64 ls, .int .i64 h] tOne)).drew) := ((Keeps.refl [] w5).alloc _).drew
        have hO6 := hO5.out.keeps hk56
        have hb6 : B ≤ ((w5.alloc (.cells #[.int .i64 cl, .int .u64 n, .int .i64 im, .int .i64 is, .int .i64 o, .int .i64 i, .int .i64 d, .bool tc, .bool wk, .bool gb, .int .i64 lm, .int .i64 ls, .int .i64 h] tOne)).drew).heap.size := Nat.le_trans hz5 hk56.size
        refine Sh.wp_app shR B infoOne rfl Tryz.underlying28 (.slice a5 k c5) (.slice (some ⟨w5.heap.size, 0, none⟩) 1 1) _ _ _ _ rfl rfl rfl hO6 hmade.r (by rw [List.length_take, List.length_singleton]; have := Nat.min_le_left k S.length; omega) hb6 ?_
        intro v7 w7 hO7 hG7
        refine hK _ _ rfl (Free.KeepsP.of hG7.keepsO (fun b hb => .inl ⟨.inl rfl, hO6.ge b (by simpa using hb)⟩)) ?_
        clear hK K
        have hk77 := Lib.hid (Grw.keeps (hk5.out.trans hk56) hG7 (fun b hb => by have := hO6.ge b hb; omega))
        have hge7 := hO7.ge
        obtain ⟨a7, c7, rfl⟩ := hO7.form
        have hn7 : (S.take k ++ [((⟨cl, n, im, is, o, i, d, tc, wk, gb, lm, ls⟩, h) : Rw)]).length = k + 1 := by simp; have := hM.out; omega
        rw [hn7] at hO7 hge7 ⊢
        have hz7 : B ≤ w7.heap.size := Nat.le_trans hb6 hG7.grown.size
        have hRt7 := hRt.out.keeps hk77.out
        have hbZ7 := (hk77.out.block (X + 2) (by omega) (by simp)).trans hbZr.out
        replace hO7 := Lib.hid hO7
        replace hRt7 := Lib.hid hRt7
        replace hbZ7 := Lib.hid hbZ7
        replace hge7 := Lib.hid hge7
        clear hmade hO6 hG7
        (repeat (first | (apply Free.cw_pure rfl rfl; (intro w'; go_simp <;> exact rfl); go_frame) | (apply Free.cw_steady rfl rfl rfl; (intro w' hS2; have z0 := Free.sx_cell hS2 b0 (fun j hp hT => by rcases hT with ⟨_, h⟩ | ⟨_, h⟩ <;> omega); have z1 := Free.sx_cell hS2 y0 (fun j hp hT => by rcases hT with ⟨_, h⟩ | ⟨_, h⟩ <;> omega); have z2 := Free.sx_cell hS2 y1 (fun j hp hT => by rcases hT with ⟨_, h⟩ | ⟨_, h⟩ <;> omega); have z3 := Free.sx_cell hS2 y2 (fun j hp hT => by rcases hT with ⟨_, h⟩ | ⟨_, h⟩ <;> omega); have z4 := Free.sx_cell hS2 y3 (fun j hp hT => by rcases hT with ⟨_, h⟩ | ⟨_, h⟩ <;> omega); have z5 := Free.sx_cell hS2 y4 (fun j hp hT => by rcases hT with ⟨_, h⟩ | ⟨_, h⟩ <;> omega); have z6 := Free.sx_cell hS2 y5 (fun j hp hT => by rcases hT with ⟨_, h⟩ | ⟨_, h⟩ <;> omega); have z7 := Free.sx_cell hS2 y6 (fun j hp hT => by rcases hT with ⟨_, h⟩ | ⟨_, h⟩ <;> omega); have z8 := Free.sx_cell hS2 y7 (fun j hp hT => by rcases hT with ⟨_, h⟩ | ⟨_, h⟩ <;> omega); have z9 := Free.sx_cell hS2 y8 (fun j hp hT => by rcases hT with ⟨_, h⟩ | ⟨_, h⟩ <;> omega); have z10 := Free.sx_cell hS2 y9 (fun j hp hT => by rcases hT with ⟨_, h⟩ | ⟨_, h⟩ <;> omega); have z11 := Free.sx_cell hS2 y10 (fun j hp hT => by rcases hT with ⟨_, h⟩ | ⟨_, h⟩ <;> omega); have z12 := Free.sx_cell hS2 y11 (fun j hp hT => by rcases hT with ⟨_, h⟩ | ⟨_, h⟩ <;> omega); go_simp <;> exact rfl); go_frame)))
        refine Free.cw_loud rfl rfl (fun K hK => ?_)
        refine Sh.wp_app shR B infoOne rfl Tryz.underlying28 (.slice a7 (k + 1) c7) _ _ _ _ _ rfl rfl rfl hO7.out hRt7.out (by rw [hn7, List.length_drop]; have := hM.out; omega) hz7 ?_
        intro v8 w8 hO8 hG8
        refine hK _ _ rfl (Free.KeepsP.of hG8.keepsO (fun b hb => .inl ⟨.inr rfl, hge7.out b (by simpa using hb)⟩)) ?_
        clear hK K
        have hk88 := Lib.hid (Grw.keeps hk77.out hG8 (fun b hb => by have := hge7.out b hb; omega))
        have hge8 := hO8.ge
        rw [show S.take k ++ [((⟨cl, n, im, is, o, i, d, tc, wk, gb, lm, ls⟩, h) : Rw)] ++ S.drop k = S.take k ++ ((⟨cl, n, im, is, o, i, d, tc, wk, gb, lm, ls⟩, h) : Rw) :: S.drop k by simp, ← hins.out] at hO8
        obtain ⟨a8, c8, hv8⟩ := hO8.form
        subst hv8
        have hbZ8 := (hk88.out.block (X + 2) (by omega) (by simp)).trans hbZr.out
        have z0 := cells1 hbZ8
        have hfz := frz hbZ8
        obtain ⟨n8, hn8⟩ : ∃ zz, (ins ((⟨cl, n, im, is, o, i, d, tc, wk, gb, lm, ls⟩, h) : Rw) S).length = zz := ⟨_, rfl⟩
        rw [hn8] at hO8 hge8 ⊢
        replace hO8 := Lib.hid hO8
        replace hbZ8 := Lib.hid hbZ8
        replace hge8 := Lib.hid hge8
        replace hn8 := Lib.hid hn8
        clear hG8 hn7
        (repeat (apply Free.cw_pure rfl rfl; (intro w'; go_simp <;> exact rfl); go_frame))
        refine Free.cw_loud rfl rfl (fun K hK => ?_)
        go_wp2
        all_goals
          refine hK _ _ rfl (Free.KeepsP.setCell _ (p := ⟨X + 2, 0, none⟩) (.inr ⟨trivial, rfl⟩) _) ?_
          clear hK K
          (repeat (apply Free.cw_pure rfl rfl; (intro w'; go_simp <;> exact rfl); go_frame))
          refine Free.cw_nil ?_
          go_wp2
          have hkZ : Keeps [X + 2] w8 (w8.setCell ⟨X + 2, 0, none⟩ (.slice a8 n8 c8)) := (Keeps.refl _ _).setCell (p := ⟨X + 2, 0, none⟩) (.inr (by simp)) _
          refine bodyPost_ret (results_t2 rfl _ _ _ _ (.slice a8 n8 c8) _ rfl (by have := setCs hbZ8.out 0 (.slice a8 n8 c8); simpa using this)) rfl ?_
          exact ⟨_, rfl, (hO8.out.keepS hkZ (fun b hb e => by simp at hb; subst hb; have := hge8.out _ e; omega)).r, (hk0r.out.trans hk88.out).fresh hkZ (fun b hb => .inr (by simp at hb; omega))⟩
end Go.Proofs.YtblaaafpglomnaaGreat

namespace Go.Proofs.YtblaaafpglomnaaGreat
open Go Go.RowKit

set_option maxRecDepth 100000 in
set_option maxHeartbeats 8000000 in
theorem removeR_c (w : World) (v : Value) (S : List Rw) (c : Int) (m : Nat) (hS : shR.R w v S) (hs : SortedS S) (hl : S.length ≤ 1024) :
    Calls Tryz.prog 72 #[tbV v, .int .i64 c, .int .u64 m] w fun e w' => ∃ v', e = .returned (.tuple #[tbV v', .int .i64 (remS (c, m) S).1, .int .i64 (remS (c, m) S).2.1]) ∧ shR.R w' v' (remS (c, m) S).2.2 ∧ Keeps [] w w' := by
  obtain ⟨a, cp, rfl, hlc, hcm, _⟩ := hS.form
  have hk0 : Keeps [] w ((w.alloc (.cells #[.slice a S.length cp] tTb)).alloc (.cells #[.slice none 0 0] tTb)) := ((Keeps.refl _ _).alloc _).alloc _
  have hbX := two_a w (.cells #[.slice a S.length cp] tTb) (.cells #[.slice none 0 0] tTb)
  have hbZ := two_b w (.cells #[.slice a S.length cp] tTb) (.cells #[.slice none 0 0] tTb)
  have hix := fun W (hk : Keeps [] w W) => index_c W _ S c m (hS.keeps hk)
  obtain ⟨R, hR⟩ : ∃ R, remS (c, m) S = R := ⟨_, rfl⟩
  rw [hR]
  replace hR := Lib.hid hR
  obtain ⟨M, hM⟩ : ∃ N, S.length = N := ⟨_, rfl⟩
  obtain ⟨X, hX⟩ : ∃ X, w.heap.size = X := ⟨_, rfl⟩
  rw [hM] at hbX hbZ hk0 hlc hix hl hS ⊢
  rw [hX] at hbX hbZ
  have hlX := lt_of_blk hbX
  have hlZ := lt_of_blk hbZ
  replace hk0 := Lib.hid hk0
  replace hbX := Lib.hid hbX
  replace hbZ := Lib.hid hbZ
  replace hM := Lib.hid hM
  replace hS := Lib.hid hS
  replace hs := Lib.hid hs
  replace hix := Lib.hid hix
  simp only [tbV] at hix ⊢
  go_enter Tryz.func72, Tryz.ntmps72
  go_wp2_with fail
  refine (hix.out _ hk0.out).mono ?_
  rintro e w1 ⟨rfl, hk1⟩
  have hk01 := hk0.out.trans hk1
  have hbX1 := (hk1.block X hlX (by simp)).trans hbX.out
  have hbZ1 := (hk1.block (X + 1) hlZ (by simp)).trans hbZ.out
  have hR1 := hS.out.keeps hk01
  have b0 := cells1 hbX1
  have z0 := cells1 hbZ1
  have hfz := frz hbZ1
  replace hk01 := Lib.hid hk01
  replace hbX1 := Lib.hid hbX1
  replace hbZ1 := Lib.hid hbZ1
  replace hR1 := Lib.hid hR1
  clear hk1 hbX hbZ hk0 hix
  cases hi : idx (c, m) S with
  | none =>
    have hfn := idx_none.1 hi
    rw [idxI_none hi]
    have htS : R = (0, 6, S) := by rw [← hR.out]; unfold remS; rw [hfn]
    subst htS
    replace hi := Lib.hid hi
    clear hfn hR
    go_wp2
    have hkE : Keeps [X + 1] w1 (w1.setCell ⟨X + 1, 0, none⟩ (.slice a M cp)) := (Keeps.refl [X + 1] _).setCell (p := ⟨X + 1, 0, none⟩) (.inr (by simp)) _
    have hsz := setCs hbZ1.out 0 (.slice a M cp)
    refine bodyPost_ret (results_t3 rfl _ _ _ _ (.slice a M cp) _ rfl (by simpa using hsz)) rfl ?_
    exact ⟨_, rfl, hR1.out.keepE hkE (fun b hb hne => by simp at hb; subst hb; exact R_box hR1.out hbZ1.out hne), hk01.out.fresh hkE (fun b hb => .inr (by simp at hb; omega))⟩
  | some j =>
    obtain ⟨hj, hfn⟩ := idx_some hi
    rw [idxI_some hi]
    have hkey : S[j].1.key = (c, m) := (fnd_some hfn).2
    have hdl := dele_drop hj hs.out hkey
    have htS : R = (S[j].2, 0, S.take j ++ S.drop (j + 1)) := by rw [← hR.out, ← hdl]; unfold remS; rw [hfn]
    obtain ⟨rh, hrh⟩ : ∃ rh, S[j].2 = rh := ⟨_, rfl⟩
    rw [hrh] at htS
    subst htS
    clear hfn hkey hdl hR
    replace hi := Lib.hid hi
    have hjM : j < M := by have := hM.out; omega
    have hjM2 : (j : Int) < M := by omega
    have hwr : Hid (IntKind.i64.wrap ((j : Int) + 1) = ((j + 1 : Nat) : Int)) := Lib.hid (by rw [IntKind.wrap_i64]; omega)
    have hjn : decide ((j : Int) < 0) = false := by simp
    have hjc : j ≤ cp := by omega
    have hjc1 : j + 1 ≤ cp := by omega
    have hnbx := fun b (hb : w1.heap[b]? = some (.cells #[.slice a M cp] tTb (0, 0)) ∨ w1.heap[b]? = some (.cells #[.slice none 0 0] tTb (0, 0))) => show (Value.slice a M cp).ownBlock ≠ some b from by
      have hne : S ≠ [] := fun e => by subst e; simp at hj
      rcases hb with hb | hb
      · exact R_box hR1.out hb hne
      · exact R_box hR1.out hb hne
    have hnX := hnbx X (.inl hbX1.out)
    have hnZ := hnbx (X + 1) (.inr hbZ1.out)
    obtain ⟨g, o, c', hv, he⟩ := hR1.out.elem hj
    rw [hM.out] at hv
    cases hv
    have e12 := he 12 _ rfl
    simp only [shR] at e12
    rw [hrh] at e12
    have hgl := lt_of_cell e12
    simp [Value.ownBlock] at hnX hnZ
    have hlX1 := lt_of_blk hbX1.out
    have hlZ1 := lt_of_blk hbZ1.out
    have hkD : Keeps [] w1 ((w1.alloc (.cells #[] tOne)).drew) := ((Keeps.refl [] w1).alloc _).drew
    have hO0 := (Sh.O.fresh shR w1 w1.heap.size tOne (Nat.le_refl _)).keeps ((Keeps.refl [] _).drew)
    have hRk : shR.R w1 (.slice (some ⟨g, o, none⟩) j cp) (S.take j) := hR1.out.init j (by omega)
    have hRt : shR.R w1 (.slice (if cp = j + 1 then some ⟨g, o, none⟩ else some ⟨g, o + (j + 1) * 13, none⟩) (M - (j + 1)) (cp - (j + 1))) (S.drop (j + 1)) := by
      have := hR1.out
      rw [← hM.out] at this ⊢
      exact this.tail (j + 1) (by have := hM.out; omega)
    obtain ⟨B, hB⟩ : ∃ B, w1.heap.size = B := ⟨_, rfl⟩
    rw [hB] at hO0 hlX1 hlZ1 hgl
    have hRkd := Lib.hid (hRk.keeps hkD)
    have hbXd := (hkD.block X (by rw [hB]; exact hlX1) (by simp)).trans hbX1.out
    have hbZd := (hkD.block (X + 1) (by rw [hB]; exact hlZ1) (by simp)).trans hbZ1.out
    have e12d := (hkD.cell g (o + j * 13 + 12) (by rw [hB]; exact hgl) (by simp)).trans e12
    have e12o := Lib.hid e12
    have hgl1 : g < w1.heap.size := by rw [hB]; exact hgl
    have hkD2 := Lib.hid hkD
    have bz0 := cells1 hbXd
    have hgX : g ≠ X + 1 := hnZ
    replace hbXd := Lib.hid hbXd
    replace hbZd := Lib.hid hbZd
    replace hO0 := Lib.hid hO0
    replace hRt := Lib.hid hRt
    replace hrh := Lib.hid hrh
    clear he hnbx hRk hkD
    go_wp2
    refine Free.wp_region_chain (fun i => i == 0 || i == 5 || i == 11 || i == 19) (fun i => true) (fun jj b => ((jj = 5 ∨ jj = 11) ∧ B ≤ b) ∨ (jj = 19 ∧ b = X + 1)) (by kernel_rfl) (by kernel_rfl) (by kernel_rfl) ?_
    (repeat (first | (apply Free.cw_pure rfl rfl; (intro w'; go_simp <;> exact rfl); go_frame) | (apply Free.cw_steady rfl rfl rfl; (intro w' hS2; have z0 := Free.sx_cell hS2 b0 (fun jj hp hT => by rcases hT with ⟨_, h⟩ | ⟨_, h⟩ <;> omega); go_simp <;> exact rfl); go_frame)))
    refine Free.cw_loud rfl rfl (fun K hK => ?_)
    go_wp2
    refine hK _ _ rfl (Free.KeepsP.alloc _ _ _) ?_
    clear hK K
    clear z0 hfz bz0 e12d
    (repeat (first | (apply Free.cw_pure rfl rfl; (intro w'; go_simp <;> exact rfl); go_frame) | (apply Free.cw_steady rfl rfl rfl; (intro w' hS2; have z0 := Free.sx_cell hS2 b0 (fun jj hp hT => by rcases hT with ⟨_, h⟩ | ⟨_, h⟩ <;> omega); have z1 := Free.sx_cell hS2 e12 (fun jj hp hT => by rcases hT with ⟨_, h⟩ | ⟨_, h⟩ <;> omega); go_simp <;> exact rfl); go_frame)))
    refine Free.cw_loud rfl rfl (fun K hK => ?_)
    refine Sh.wp_app shR B infoOne rfl Tryz.underlying28 (.slice (some ⟨B, 0, none⟩) 0 0) (.slice (some ⟨g, o, none⟩) j cp) [] (S.take j) _ _ rfl rfl rfl hO0.out hRkd.out (by simp; omega) (by simp; omega) ?_
    intro v5 w5 hO5 hG5
    refine hK _ _ rfl (Free.KeepsP.of hG5.keepsO (fun b hb => .inl ⟨.inl rfl, hO0.out.ge b (by simpa using hb)⟩)) ?_
    clear hK K
    rw [List.nil_append] at hO5
    have hk5 := Lib.hid (Grw.keeps ((Keeps.refl [] w1).trans hkD2.out) hG5 (fun b hb => by have := hO0.out.ge b hb; omega))
    obtain ⟨a5, c5, rfl⟩ := hO5.form
    have hlj : (S.take j).length = j := by simp; have := hM.out; omega
    rw [hlj] at hO5 ⊢
    have hz5 : B ≤ w5.heap.size := by have := hk5.out.size; omega
    have hge5 := hO5.ge
    have hRt5 := hRt.out.keeps hk5.out
    have hbX5 := (hk5.out.block X (by rw [hB]; exact hlX1) (by simp)).trans hbX1.out
    have hbZ5 := (hk5.out.block (X + 1) (by rw [hB]; exact hlZ1) (by simp)).trans hbZ1.out
    replace hO5 := Lib.hid hO5
    replace hRt5 := Lib.hid hRt5
    replace hbZ5 := Lib.hid hbZ5
    clear hG5 hbX5
    (repeat (first | (apply Free.cw_pure rfl rfl; (intro w'; go_simp <;> exact rfl); go_frame) | (apply Free.cw_steady rfl rfl rfl; (intro w' hS2; have z0 := Free.sx_cell hS2 b0 (fun jj hp hT => by rcases hT with ⟨_, h⟩ | ⟨_, h⟩ <;> omega); have z1 := Free.sx_cell hS2 e12 (fun jj hp hT => by rcases hT with ⟨_, h⟩ | ⟨_, h⟩ <;> omega); go_simp <;> exact rfl); go_frame)))
    apply Free.cw_pure rfl rfl
    · intro w'
      go_simp
      rw [hwr.out, if_pos ⟨by omega, by omega⟩, Int.toNat_natCast]
      exact ⟨rfl, rfl⟩
    go_frame
    refine Free.cw_loud rfl rfl (fun K hK => ?_)
    refine Sh.wp_app shR B infoOne rfl Tryz.underlying28 (.slice a5 j c5) _ _ _ _ _ rfl rfl rfl hO5.out hRt5.out (by rw [hlj, List.length_drop]; have := hM.out; omega) hz5 ?_
    intro v8 w8 hO8 hG8
    refine hK _ _ rfl (Free.KeepsP.of hG8.keepsO (fun b hb => .inl ⟨.inr rfl, hge5 b (by simpa using hb)⟩)) ?_
    clear hK K
    have hk8 := Lib.hid (Grw.keeps hk5.out hG8 (fun b hb => by have := hge5 b hb; omega))
    have hge8 := hO8.ge
    obtain ⟨a8, c8, rfl⟩ := hO8.form
    obtain ⟨M8, hM8⟩ : ∃ N, (S.take j ++ S.drop (j + 1)).length = N := ⟨_, rfl⟩
    rw [hM8] at hO8 hge8 ⊢
    have hbX8 := (hk8.out.block X (by rw [hB]; exact hlX1) (by simp)).trans hbX1.out
    have hbZ8 := (hk8.out.block (X + 1) (by rw [hB]; exact hlZ1) (by simp)).trans hbZ1.out
    have z0 := cells1 hbZ8
    have hfz := frz hbZ8
    replace hO8 := Lib.hid hO8
    replace hbZ8 := Lib.hid hbZ8
    replace hM8 := Lib.hid hM8
    clear hG8 hbX8
    (repeat (first | (apply Free.cw_pure rfl rfl; (intro w'; go_simp <;> exact rfl); go_frame) | (apply Free.cw_steady rfl rfl rfl; (intro w' hS2; have z0 := Free.sx_cell hS2 b0 (fun jj hp hT => by rcases hT with ⟨_, h⟩ | ⟨_, h⟩ <;> omega); have z1 := Free.sx_cell hS2 e12 (fun jj hp hT => by rcases hT with ⟨_, h⟩ | ⟨_, h⟩ <;> omega); go_simp <;> exact rfl); go_frame)))
    refine Free.cw_loud rfl rfl (fun K hK => ?_)
    go_wp2
    all_goals
      refine hK _ _ rfl (Free.KeepsP.setCell _ (p := ⟨X + 1, 0, none⟩) (.inr ⟨trivial, rfl⟩) _) ?_
      clear hK K
      (repeat (apply Free.cw_pure rfl rfl; (intro w'; go_simp <;> exact rfl); go_frame))
      refine Free.cw_nil ?_
      go_wp2
      have hkZ : Keeps [X + 1] w8 (w8.setCell ⟨X + 1, 0, none⟩ (.slice a8 M8 c8)) := (Keeps.refl _ _).setCell (p := ⟨X + 1, 0, none⟩) (.inr (by simp)) _
      refine bodyPost_ret (results_t3 rfl _ _ _ _ (.slice a8 M8 c8) _ rfl (by have := setCs hbZ8.out 0 (.slice a8 M8 c8); simpa using this)) rfl ?_
      exact ⟨_, rfl, (hO8.out.keepS hkZ (fun b hb e => by simp at hb; subst hb; have := hge8 _ e; omega)).r, (hk01.out.trans hk8.out).fresh hkZ (fun b hb => .inr (by simp at hb; omega))⟩
end Go.Proofs.YtblaaafpglomnaaGreat

namespace Go.Proofs.YtblaaafpglomnaaGreat
open Go Go.RowKit

/-- The first rows are cleared. -/
def clrN (k : Nat) (S : List Rw) : List Rw := clrS (S.take k) ++ S.drop k
theorem clrN_zero (S : List Rw) : clrN 0 S = S := rfl
theorem clrN_len (k : Nat) (S : List Rw) : (clrN k S).length = S.length := by simp [clrN, clrS]; omega
theorem clrN_all {k : Nat} {S : List Rw} (h : S.length ≤ k) : clrN k S = clrS S := by simp [clrN, List.take_of_length_le h, List.drop_of_length_le h]
theorem clrN_at {k : Nat} {S : List Rw} (h : k < S.length) : (clrN k S)[k]'(by rw [clrN_len]; exact h) = S[k] := by
  have : (clrS (S.take k)).length = k := by simp [clrS]; omega
  simp only [clrN]
  rw [List.getElem_append_right (by omega)]
  simp [this]
theorem clrN_succ {k : Nat} {S : List Rw} (h : k < S.length) : clrN (k + 1) S = (clrN k S).set k (clrE S[k].1, S[k].2) := by
  have : (clrS (S.take k)).length = k := by simp [clrS]; omega
  simp only [clrN]
  rw [List.set_append_right _ _ (by omega), this, Nat.sub_self, List.take_succ_eq_append_getElem h, ← List.getElem_cons_drop (h := h)]
  unfold clrS
  rw [List.map_append, List.append_assoc, List.set_cons_zero]
  rfl
theorem results_t1 {fn : Func} {p : Tmp} (h : fn.results = #[.cell p tTb]) (tmps : Array Value) (w : World) (g : Nat) (t : TypeId) (x : Value) (f : Nat × Nat) (hp : tmps.getD p undef = .pointer (some ⟨g, 0, none⟩))
    (hg : w.heap[g]? = some (.cells #[x] t f)) : (results fn tmps).run Tryz.prog w = .ok (.agg #[x]) w := by
  have hp' : tmps[p]?.getD undef = .pointer (some ⟨g, 0, none⟩) := by simpa using hp
  simp [results, h, hp', asAddr, run_loadVar_row w g t tTb #[x] f _ hg Tryz.underlying30 rfl (by kernel_rfl)]
set_option maxRecDepth 100000 in
set_option maxHeartbeats 8000000 in
theorem clearR_c (w : World) (v : Value) (S : List Rw) (hS : shR.R w v S) (hl : S.length ≤ 1024) :
    Calls Tryz.prog 74 #[tbV v] w fun e w' => ∃ v', e = .returned (tbV v') ∧ shR.R w' v' (clrS S) ∧ Keeps [] w w' := by
  obtain ⟨a, cp, rfl, hlc, hcm, _⟩ := hS.form
  have hk0 : Keeps [] w (((w.alloc (.cells #[.slice a S.length cp] tTb)).alloc (.cells #[.slice none 0 0] tTb)).alloc (.cells #[] tOne)) := (((Keeps.refl _ _).alloc _).alloc _).alloc _
  have hkz : Keeps [] ((w.alloc (.cells #[.slice a S.length cp] tTb)).alloc (.cells #[.slice none 0 0] tTb)) (((w.alloc (.cells #[.slice a S.length cp] tTb)).alloc (.cells #[.slice none 0 0] tTb)).alloc (.cells #[] tOne)) := (Keeps.refl _ _).alloc _
  have hbZ := (hkz.block (w.heap.size + 1) (by simp) (by simp)).trans (two_b w (.cells #[.slice a S.length cp] tTb) (.cells #[.slice none 0 0] tTb))
  have hO0 := Sh.O.fresh shR ((w.alloc (.cells #[.slice a S.length cp] tTb)).alloc (.cells #[.slice none 0 0] tTb)) (w.heap.size + 2) tOne (by simp)
  rw [show ((w.alloc (.cells #[.slice a S.length cp] tTb)).alloc (.cells #[.slice none 0 0] tTb)).heap.size = w.heap.size + 2 by simp] at hO0
  have hR0 := hS.keeps hk0
  obtain ⟨M, hM⟩ : ∃ N, S.length = N := ⟨_, rfl⟩
  obtain ⟨X, hX⟩ : ∃ X, w.heap.size = X := ⟨_, rfl⟩
  rw [hM] at hbZ hk0 hlc hl hS hO0 hR0
  rw [hX] at hbZ hO0
  have hlZ := lt_of_blk hbZ
  rw [hM]
  replace hk0 := Lib.hid hk0
  replace hbZ := Lib.hid hbZ
  replace hM := Lib.hid hM
  replace hO0 := Lib.hid hO0
  replace hR0 := Lib.hid hR0
  clear hkz hS
  simp only [tbV]
  go_enter Tryz.func74, Tryz.ntmps74
  go_upto_region 3 with (at_builtin; go_loud (refine Sh.wpl_app shR (X + 2) infoOne rfl Tryz.underlying28 (.slice (some ⟨X + 2, 0, none⟩) 0 0) (.slice a M cp) [] S rfl _ _ rfl rfl rfl hO0.out hR0.out (by rw [hM.out]; simp; omega) (by simp; omega) ?_; intro v5 w5 hO5 hG5; rw [List.nil_append] at hO5; have hk5 := Lib.hid (Grw.keeps hk0.out hG5 (fun b hb => by have := hO0.out.ge b hb; omega)); have hbZ5 := Lib.hid ((hG5.keepsO.block (X + 1) hlZ (fun hm => by have := hO0.out.ge _ (by simpa using hm); omega)).trans hbZ.out); obtain ⟨a5, c5, rfl⟩ := hO5.form; rw [hM.out] at hO5 ⊢; replace hO5 := Lib.hid hO5; clear hG5))
  go_loopw [4] (fun iv wr => ∃ k : Nat, iv = .int .i64 k ∧ k ≤ M ∧ shR.O wr (X + 2) tOne (.slice a5 M c5) (clrN k S) ∧ Keeps [] w wr ∧ wr.heap[X + 1]? = some (.cells #[.slice none 0 0] tTb (0, 0))) (fun iv _ => M - (intOf iv).toNat)
  case atStart => exact ⟨0, rfl, by omega, hO5.out, hk5.out, hbZ5.out⟩
  case round =>
    obtain ⟨k, rfl, hk, hO, hkw, hbz⟩ := hrel
    clear hO5 hk5 hbZ5
    have hnn : (clrN k S).length = M := by rw [clrN_len]; exact hM.out
    by_cases hlt : k < M
    · obtain ⟨g5, c5', hv, hg5, hle5, hm5, hl5, cf, hce⟩ := O_blk hO hnn (by omega)
      cases hv
      obtain ⟨q7, c7⟩ := hce k hlt 7 (by omega)
      have hkS : k < S.length := by rw [hM.out]; exact hlt
      have hO2 := O_clr hO hnn k (by rw [hnn]; exact hlt)
      rw [clrN_at hkS, ← clrN_succ hkS] at hO2
      have hkE : Keeps [g5] wr (wr.setCell ⟨g5, k * 13 + 7, none⟩ (.bool false)) := (Keeps.refl _ _).setCell (p := ⟨g5, k * 13 + 7, none⟩) (.inr (by simp)) _
      have hkw2 := hkw.fresh hkE (fun b hb => .inr (by simp at hb; omega))
      have hbz2 := (hkE.block (X + 1) (lt_of_blk hbz) (by simp; omega)).trans hbz
      have hlt2 : (k : Int) < M := by omega
      replace hO2 := Lib.hid hO2
      replace hkw2 := Lib.hid hkw2
      replace hbz2 := Lib.hid hbz2
      replace hnn := Lib.hid hnn
      clear hO hce hkE hkw hbz
      go_wp2
      go_roundw
      case rel => exact ⟨k + 1, rfl, by omega, hO2.out, hkw2.out, hbz2.out⟩
      case measure => simp [intOf]; omega
    · have hkM : k = M := by omega
      subst hkM
      rw [clrN_all (by rw [hM.out]; exact Nat.le_refl _)] at hO
      have z0 := cells1 hbz
      have hfz := frz hbz
      have hge := hO.ge
      replace hO := Lib.hid hO
      replace hkw := Lib.hid hkw
      replace hbz := Lib.hid hbz
      replace hge := Lib.hid hge
      clear hnn
      have hlt2 : decide ((k : Int) < k) = false := by simp
      go_wp2
      have hkE : Keeps [X + 1] wr (wr.setCell ⟨X + 1, 0, none⟩ (.slice a5 k c5)) := (Keeps.refl _ _).setCell (p := ⟨X + 1, 0, none⟩) (.inr (by simp)) _
      refine bodyPost_ret (results_t1 rfl _ _ _ _ (.slice a5 k c5) _ rfl (by have := setCs hbz.out 0 (.slice a5 k c5); simpa using this)) rfl ?_
      exact ⟨_, rfl, (hO.out.keepS hkE (fun b hb e => by simp at hb; subst hb; have := hge.out _ e; omega)).r, hkw.out.fresh hkE (fun b hb => .inr (by simp at hb; omega))⟩
end Go.Proofs.YtblaaafpglomnaaGreat

namespace Go.Proofs.YtblaaafpglomnaaGreat
open Go Go.RowKit

abbrev tOp : Nat := 61
structure OpT where
  k : Nat
  e : En
  h : Int
structure OpT.ok (x : OpT) : Prop where
  k : x.k < 256
  e : x.e.ok
  h : W64 x.h
def shO : Sh OpT := ⟨14, fun x => [.int .u8 x.k, .int .i64 x.e.cl, .int .u64 x.e.n, .int .i64 x.e.im, .int .i64 x.e.is, .int .i64 x.e.o, .int .i64 x.e.i, .int .i64 x.e.d, .bool x.e.tc, .bool x.e.wk, .bool x.e.gb, .int .i64 x.e.lm, .int .i64 x.e.ls, .int .i64 x.h], fun _ => rfl, by decide, fun x u hu => by simp at hu; rcases hu with rfl | rfl | rfl | rfl | rfl | rfl | rfl | rfl | rfl | rfl | rfl | rfl | rfl | rfl <;> rfl⟩
abbrev opV (x : OpT) : Value := .agg #[.int .u8 x.k, .int .i64 x.e.cl, .int .u64 x.e.n, .int .i64 x.e.im, .int .i64 x.e.is, .int .i64 x.e.o, .int .i64 x.e.i, .int .i64 x.e.d, .bool x.e.tc, .bool x.e.wk, .bool x.e.gb, .int .i64 x.e.lm, .int .i64 x.e.ls, .int .i64 x.h]
def stepS (x : OpT) (S : List Rw) : List Rw :=
  if x.k % 6 = 0 then (addS x.e x.h S).2 else if x.k % 6 = 1 then (putS x.e S).2 else if x.k % 6 = 2 then (touchS x.e.key S).2 else if x.k % 6 = 3 then (remS x.e.key S).2.2 else if x.k % 6 = 4 then clrS S else S
theorem Good.step {S : List Rw} (g : Good S) {x : OpT} (hx : x.ok) : Good (stepS x S) := by
  unfold stepS
  split
  · exact g.add hx.e hx.h
  · split
    · exact g.put hx.e
    · split
      · exact g.touch
      · split
        · exact g.rem
        · split
          · exact g.clr
          · exact g
theorem len_step (x : OpT) (S : List Rw) : (stepS x S).length ≤ S.length + 1 := by
  unfold stepS
  split
  · unfold addS
    split
    · exact Nat.le_succ _
    · split
      · exact Nat.le_succ _
      · split
        · exact Nat.le_succ _
        · rw [len_ins]; exact Nat.le_refl _
  · split
    · unfold putS
      split
      · exact Nat.le_succ _
      · split
        · exact Nat.le_succ _
        · rw [len_upd]; exact Nat.le_succ _
    · split
      · unfold touchS
        split
        · exact Nat.le_succ _
        · rw [len_upd]; exact Nat.le_succ _
      · split
        · unfold remS
          split
          · exact Nat.le_succ _
          · exact Nat.le_trans (len_dele _ _) (Nat.le_succ _)
        · split
          · rw [len_clr]; exact Nat.le_succ _
          · exact Nat.le_succ _
def ApplyPost (w : World) (bt bm : Nat) (S' : List Rw) (e : Ending) (w' : World) : Prop :=
  ∃ bt' bm' v', e = .returned (.tuple #[.pointer (some ⟨bt', 0, none⟩), tbV v', .bool true]) ∧ TM w' bt' bm' S' ∧ shR.R w' v' S' ∧ Keeps [bm] w w' ∧ ((bt' = bt ∧ bm' = bm) ∨ (w.heap.size ≤ bt' ∧ w.heap.size ≤ bm'))
theorem four_b (w : World) (A B C D : Obj) : ((((w.alloc A).alloc B).alloc C).alloc D).heap[w.heap.size]? = some A ∧ ((((w.alloc A).alloc B).alloc C).alloc D).heap[w.heap.size + 1]? = some B ∧ ((((w.alloc A).alloc B).alloc C).alloc D).heap[w.heap.size + 2]? = some C ∧ ((((w.alloc A).alloc B).alloc C).alloc D).heap[w.heap.size + 3]? = some D ∧ Keeps [] w ((((w.alloc A).alloc B).alloc C).alloc D) := by
  have kC : Keeps [] ((w.alloc A).alloc B) (((w.alloc A).alloc B).alloc C) := (Keeps.refl _ _).alloc _
  have kD : Keeps [] (((w.alloc A).alloc B).alloc C) ((((w.alloc A).alloc B).alloc C).alloc D) := (Keeps.refl _ _).alloc _
  have kAB : Keeps [] w ((w.alloc A).alloc B) := ((Keeps.refl _ _).alloc _).alloc _
  have hC := heap_alloc_new ((w.alloc A).alloc B) C
  have hD := heap_alloc_new (((w.alloc A).alloc B).alloc C) D
  rw [show ((w.alloc A).alloc B).heap.size = w.heap.size + 2 by simp] at hC
  rw [show (((w.alloc A).alloc B).alloc C).heap.size = w.heap.size + 3 by simp] at hD
  have kCD := kC.trans kD
  exact ⟨(kCD.block _ (by simp; omega) (by simp)).trans (two_a w A B), (kCD.block _ (by simp) (by simp)).trans (two_b w A B), (kD.block _ (by simp) (by simp)).trans hC, hD, kAB.trans kCD⟩
theorem cells14 {w : World} {b : Nat} {x0 x1 x2 x3 x4 x5 x6 x7 x8 x9 x10 x11 x12 x13 : Value} {t : TypeId} {f : Nat × Nat} (h : w.heap[b]? = some (.cells #[x0, x1, x2, x3, x4, x5, x6, x7, x8, x9, x10, x11, x12, x13] t f)) : w.cell? ⟨b, 0, none⟩ = some x0 ∧ w.cell? ⟨b, 1, none⟩ = some x1 ∧ w.cell? ⟨b, 2, none⟩ = some x2 ∧ w.cell? ⟨b, 3, none⟩ = some x3 ∧ w.cell? ⟨b, 4, none⟩ = some x4 ∧ w.cell? ⟨b, 5, none⟩ = some x5 ∧ w.cell? ⟨b, 6, none⟩ = some x6 ∧ w.cell? ⟨b, 7, none⟩ = some x7 ∧ w.cell? ⟨b, 8, none⟩ = some x8 ∧ w.cell? ⟨b, 9, none⟩ = some x9 ∧ w.cell? ⟨b, 10, none⟩ = some x10 ∧ w.cell? ⟨b, 11, none⟩ = some x11 ∧ w.cell? ⟨b, 12, none⟩ = some x12 ∧ w.cell? ⟨b, 13, none⟩ = some x13 := by
  refine ⟨?_, ?_, ?_, ?_, ?_, ?_, ?_, ?_, ?_, ?_, ?_, ?_, ?_, ?_⟩ <;> simp [World.cell?, h]
theorem results_utv {fn : Func} {p u v : Tmp} (h : fn.results = #[.tmp u, .cell p tTb, .tmp v]) (tmps : Array Value) (w : World) (g : Nat) (t : TypeId) (x : Value) (f : Nat × Nat) (hp : tmps.getD p undef = .pointer (some ⟨g, 0, none⟩))
    (hg : w.heap[g]? = some (.cells #[x] t f)) : (results fn tmps).run Tryz.prog w = .ok (.tuple #[tmps.getD u undef, .agg #[x], tmps.getD v undef]) w := by
  have hp' : tmps[p]?.getD undef = .pointer (some ⟨g, 0, none⟩) := by simpa using hp
  simp [results, h, hp', asAddr, run_loadVar_row w g t tTb #[x] f _ hg Tryz.underlying30 rfl (by kernel_rfl)]
end Go.Proofs.YtblaaafpglomnaaGreat
