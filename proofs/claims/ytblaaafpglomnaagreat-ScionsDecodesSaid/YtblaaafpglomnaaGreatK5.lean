/- Texts that the laws lean on, in the order in which they build. Scion tables: List. (Printed by mkscl.py.) Scion tables: ForTarget. (Printed by mksct2.py.) The digits of a number to the base 256, and its encoding on the wire. No program. (XWire, of a program without bytes.Clone.) The contracts of package wire's writers of bytes. The contracts of package wire's reader of bytes. The closure that reads a number, where it fails. The closure that reads a number, where it succeeds. The contracts of package wire's reader of numbers, and the reference's. wire's reader in whatever state: Uint, Bool. wire's reader: Count with whatever bound. AppendBool; what the growth of a buffer leaves, draws between. wire: AppendID, Reader.ID. -/
import Derived.Test.YtblaaafpglomnaaGreatK4
import Derived.Test.YtblaaafpglomnaaGreatRows
set_option linter.unusedVariables false
set_option linter.unusedSimpArgs false
namespace Go.Proofs.YtblaaafpglomnaaGreat
open Go Go.RowKit

theorem fieldE (w : World) (a0 a1 a2 a3 a4 a5 a6 a7 a8 a9 : Int) (b7 b8 b9 : Bool) : (Instr.field tRw (.agg #[.int .i64 a0, .int .u64 a1, .int .i64 a2, .int .i64 a3, .int .i64 a4, .int .i64 a5, .int .i64 a6, .bool b7, .bool b8, .bool b9, .int .i64 a7, .int .i64 a8, .int .i64 a9]) 0).run Tryz.prog w = .ok (.agg #[.int .i64 a0, .int .u64 a1, .int .i64 a2, .int .i64 a3, .int .i64 a4, .int .i64 a5, .int .i64 a6, .bool b7, .bool b8, .bool b9, .int .i64 a7, .int .i64 a8]) w := by kernel_rfl
theorem Sh.O.one {α : Type} (s : Sh α) (w : World) (x : α) (xs : Array Value) (e B : Nat) (hx : xs.toList = s.cf x) (hB : B ≤ w.heap.size) : s.O (w.alloc (.cells xs e)) B e (.slice (some ⟨w.heap.size, 0, none⟩) 1 1) [x] := by
  have hl : xs.size = s.sz := by rw [← Array.length_toList, hx]; exact s.len x
  refine ⟨by simp [Sh.cs, s.len], .inr ⟨w.heap.size, 1, xs, rfl, hB, heap_alloc_new w _, Nat.le_refl _, by simp [maxLen], by simpa using hl, ?_⟩⟩
  rw [List.take_of_length_le (by simp [hl]), hx]
  simp [Sh.cs]
theorem Sh.O.low {α : Type} {s : Sh α} {w : World} {B B' : Nat} {e : TypeId} {v : Value} {L : List α} (h : s.O w B e v L) (hB : B' ≤ B) : s.O w B' e v L := by
  refine ⟨h.1, ?_⟩
  rcases h.2 with hn | ⟨g, cap, cur, e, hb, rest⟩
  · exact .inl hn
  · exact .inr ⟨g, cap, cur, e, by omega, rest⟩
theorem Good.key {S : List Rw} (g : Good S) {r : Rw} (hr : r ∈ S) : kOk r.1.key := ⟨(g.ok r hr).1.cl, (g.ok r hr).1.n⟩
set_option maxRecDepth 100000 in
set_option maxHeartbeats 4000000 in
theorem list_c (w : World) (bt bm : Nat) (T : List Rw) (t : TM w bt bm T) (g : Good T) :
    Calls Tryz.prog 10 #[.pointer (some ⟨bt, 0, none⟩)] w fun e w' => ∃ v, e = .returned v ∧ shE.O w' w.heap.size 48 v (lst T) ∧ Keeps [] w w' := by
  have hkc := keys_c w bt bm T t g.srt (by have := g.len; omega)
  have hlen := g.len
  obtain ⟨M, hM⟩ : ∃ M, T.length = M := ⟨_, rfl⟩
  rw [hM] at hlen
  have hkl : (keyL T).length = M := by rw [← hM]; simp [keyL]
  obtain ⟨B, hB⟩ : ∃ B, w.heap.size = B := ⟨_, rfl⟩
  rw [hB] at hkc ⊢
  have hlt := t.lt
  replace hM := Lib.hid hM
  replace hkl := Lib.hid hkl
  replace hkc := Lib.hid hkc
  replace t := Lib.hid t
  replace g := Lib.hid g
  go_enter Tryz.func10, Tryz.ntmps10
  go_wp2_with fail
  refine hkc.out.mono ?_
  rintro e w1 ⟨v, rfl, hO1, hk1⟩
  obtain ⟨ka, kc, rfl⟩ := hO1.form
  rw [hkl.out]
  replace hO1 := Lib.hid hO1
  replace hk1 := Lib.hid hk1
  obtain ⟨B1, hB1⟩ : ∃ B, w1.heap.size = B := ⟨_, rfl⟩
  have hbt : bt < B1 ∧ bm < B1 := by have := hk1.out.size; omega
  replace hB1 := Lib.hid hB1
  go_wp2
  go_loopw [9, 3] (fun iv ov wr => ∃ k : Nat, iv = .int .i64 k ∧ k ≤ M ∧ shE.O wr B1 tE ov ((lst T).take k) ∧ Keeps [] w1 wr) (fun iv _ _ => M - (intOf iv).toNat)
  case atStart => exact ⟨0, rfl, by omega, Sh.O.nil _ _ _ _, Keeps.refl _ _⟩
  case round =>
    obtain ⟨k, rfl, hk, hO, hkw⟩ := hrel
    obtain ⟨oa, oc, rfl⟩ := hO.form
    obtain ⟨NN, hNN⟩ : ∃ n, ((lst T).take k).length = n := ⟨_, rfl⟩
    have hNk : NN = k := by rw [← hNN]; simp [lst]; have := hM.out; omega
    subst hNk
    rw [hNN] at hO ⊢
    by_cases hlt2 : NN < M
    · have hkk : NN < (keyL T).length := by rw [hkl.out]; exact hlt2
      have hkT : NN < T.length := by rw [hM.out]; exact hlt2
      obtain ⟨g0, o0, c', hv, he⟩ := (hO1.out.r.keeps hkw).elem hkk
      rw [hkl.out] at hv
      cases hv
      obtain ⟨⟨⟨rcl, rn, rim, ris, ro, ri, rd, rtc, rwk, rgb, rlm, rls⟩, rh⟩, hr⟩ : ∃ r, T[NN] = r := ⟨_, rfl⟩
      have hkey : (keyL T)[NN] = (rcl, rn) := by simp [keyL, hr]
      rw [hkey] at he
      have e0 := he 0 _ rfl
      have e1 := he 1 _ rfl
      simp only [shK, Nat.add_zero] at e0 e1
      have hmem : ((⟨rcl, rn, rim, ris, ro, ri, rd, rtc, rwk, rgb, rlm, rls⟩, rh) : Rw) ∈ T := hr ▸ List.getElem_mem hkT
      have hfn : fnd (rcl, rn) T = some (⟨rcl, rn, rim, ris, ro, ri, rd, rtc, rwk, rgb, rlm, rls⟩, rh) := fnd_mem g.out.srt hmem
      have tr := t.out.keeps (hk1.out.trans hkw)
      have hlk0 := tr.look1 (rcl, rn) (g.out.key hmem)
      rw [hfn] at hlk0
      simp only [rwV, kyV, Option.getD_some] at hlk0
      have hst : (lst T).take (NN + 1) = (lst T).take NN ++ [⟨rcl, rn, rim, ris, ro, ri, rd, rtc, rwk, rgb, rlm, rls⟩] := by
        rw [List.take_succ_eq_append_getElem (by simpa [lst] using hkT)]
        simp [lst, hr]
      have hkA : Keeps [] wr (wr.alloc (.cells #[.int .i64 rcl, .int .u64 rn] tK)) := (Keeps.refl _ _).alloc _
      have hbA := heap_alloc_new wr (.cells #[.int .i64 rcl, .int .u64 rn] tK)
      have hlk := fun (w' : World) (hb : w'.heap[bm]? = (wr.alloc (.cells #[.int .i64 rcl, .int .u64 rn] tK)).heap[bm]?) => hlk0 w' (hb.trans (hkA.block bm tr.lt.2 (by simp)))
      have hOA := hO.keeps hkA
      have d7 := (tr.keeps hkA).cell
      have hkwA := hkw.trans hkA
      have hbl := (tr.keeps hkA).lt.2
      have hwB : B1 ≤ wr.heap.size := by have := hkw.size; have := hB1.out; omega
      obtain ⟨q0, q1, _⟩ := cells2 hbA
      replace hlk := Lib.hid hlk
      replace hOA := Lib.hid hOA
      replace hkwA := Lib.hid hkwA
      replace hst := Lib.hid hst
      replace hNN := Lib.hid hNN
      replace hkw := Lib.hid hkw
      clear hO he hkA hlk0 tr hfn hr hmem hkey hbA
      go_wp2
      have hszA : B1 ≤ (wr.alloc (.cells #[.int .i64 rcl, .int .u64 rn] tK)).heap.size := by simp; omega
      obtain ⟨XK, hXK⟩ : ∃ X, wr.heap.size = X := ⟨_, rfl⟩
      try rw [hXK] at q0 q1 ⊢
      generalize hWA : wr.alloc (.cells #[.int .i64 rcl, .int .u64 rn] tK) = WA at *
      clear hWA
      refine Free.wp_region_chain (fun i => i == 8 || i == 9) (fun i => true) (fun j b => j = 9 ∧ B1 ≤ b) (by kernel_rfl) (by kernel_rfl) (by kernel_rfl) ?_
      (repeat (first | (apply Free.cw_pure rfl rfl; (intro w'; go_simp <;> exact rfl); go_frame) | (apply Free.cw_steady rfl rfl rfl; (intro w' hS2; have z0 := Free.sx_cell hS2 d7 (fun j hp hT => by have := hT.2; omega); have z1 := Free.sx_cell hS2 q0 (fun j hp hT => by obtain ⟨rfl, _⟩ := hT; exact absurd hp (by decide +kernel)); have z2 := Free.sx_cell hS2 q1 (fun j hp hT => by obtain ⟨rfl, _⟩ := hT; exact absurd hp (by decide +kernel)); have hlk2 := hlk.out w' (hS2.block bm hbl (fun ⟨_, _, _, hT⟩ => by omega)); have hfd := fieldE; go_simp <;> exact rfl); go_frame)))
      refine Free.cw_loud rfl rfl (fun K hK => ?_)
      go_wp2
      refine hK _ _ rfl (Free.KeepsP.alloc _ _ _) ?_
      clear hK K
      (repeat (apply Free.cw_pure rfl rfl; (intro w'; go_simp <;> exact rfl); go_frame))
      refine Free.cw_loud rfl rfl (fun K hK => ?_)
      have hmade := Sh.O.one shE WA.drew (⟨rcl, rn, rim, ris, ro, ri, rd, rtc, rwk, rgb, rlm, rls⟩ : En) #[.int .i64 rcl, .int .u64 rn, .int .i64 rim, .int .i64 ris, .int .i64 ro, .int .i64 ri, .int .i64 rd, .bool rtc, .bool rwk, .bool rgb, .int .i64 rlm, .int .i64 rls] tE 0 rfl (by omega)
      have hkC : Keeps [] WA (WA.drew.alloc (.cells #[.int .i64 rcl, .int .u64 rn, .int .i64 rim, .int .i64 ris, .int .i64 ro, .int .i64 ri, .int .i64 rd, .bool rtc, .bool rwk, .bool rgb, .int .i64 rlm, .int .i64 rls] tE)) := ((Keeps.refl [] WA).drew).alloc _
      have hOC := hOA.out.keeps hkC
      have hkwC := hkwA.out.trans hkC
      have hNN2 := hNN.out
      have hb1 : (((lst T).take NN).length + [(⟨rcl, rn, rim, ris, ro, ri, rd, rtc, rwk, rgb, rlm, rls⟩ : En)].length) * (80 + 1) ≤ 140737488355328 := by rw [hNN2, List.length_singleton]; omega
      have hb2 : B1 ≤ (WA.drew.alloc (.cells #[.int .i64 rcl, .int .u64 rn, .int .i64 rim, .int .i64 ris, .int .i64 ro, .int .i64 ri, .int .i64 rd, .bool rtc, .bool rwk, .bool rgb, .int .i64 rlm, .int .i64 rls] tE)).heap.size := Nat.le_trans hszA hkC.size
      refine Sh.wp_app shE B1 infoE rfl Tryz.underlying34 (.slice oa NN oc) (.slice (some ⟨WA.heap.size, 0, none⟩) 1 1) _ [(⟨rcl, rn, rim, ris, ro, ri, rd, rtc, rwk, rgb, rlm, rls⟩ : En)] _ _ rfl rfl rfl hOC hmade.r hb1 hb2 ?_
      intro v5 w5 hO5 hG5
      rw [← hst.out] at hO5
      refine hK _ _ rfl (Free.KeepsP.of hG5.keepsO (fun b hb => ⟨rfl, hOC.ge b (by simpa using hb)⟩)) ?_
      clear hK K
      have hk5 := (Grw.keeps hkwC hG5 (fun b hb => by have := hOC.ge b hb; have := hB1.out; omega))
      obtain ⟨a5, c5, rfl⟩ := hO5.form
      obtain ⟨N5, hN5⟩ : ∃ n, ((lst T).take (NN + 1)).length = n := ⟨_, rfl⟩
      rw [hN5] at hO5 ⊢
      replace hN5 := Lib.hid hN5
      replace hO5 := Lib.hid hO5
      replace hk5 := Lib.hid hk5
      clear hG5 hOC hkwC hkC hmade
      (repeat (apply Free.cw_pure rfl rfl; (intro w'; go_simp <;> exact rfl); go_frame))
      refine Free.cw_nil ?_
      go_wp2
      go_roundw
      case rel => exact ⟨NN + 1, rfl, by omega, hO5.out, hk5.out⟩
      case measure => simp [intOf]; omega
    · have hkM : NN = M := by omega
      subst hkM
      rw [List.take_of_length_le (by simp [lst]; have := hM.out; omega)] at hO
      have hO2 := hO.low (B' := B) (by have := hk1.out.size; have := hB1.out; omega)
      have hk9 := hk1.out.trans hkw
      replace hO2 := Lib.hid hO2
      replace hk9 := Lib.hid hk9
      clear hO
      go_wp2
      go_ret
      exact ⟨_, rfl, hO2.out, hk9.out⟩
end Go.Proofs.YtblaaafpglomnaaGreat

namespace Go.Proofs.YtblaaafpglomnaaGreat
open Go Go.RowKit

def isT (c m s : Int) (e : En) : Bool := e.cl == c && ((e.im == m && e.is == s) && !e.gb)
def forT (c m s : Int) (T : List Rw) : Option En := if vID m s = true then (lst T).find? (isT c m s) else none
set_option maxRecDepth 100000 in
set_option maxHeartbeats 4000000 in
theorem forTarget_c (w : World) (bt bm : Nat) (T : List Rw) (c m s : Int) (t : TM w bt bm T) (g : Good T) :
    Calls Tryz.prog 22 #[.pointer (some ⟨bt, 0, none⟩), .int .i64 c, idV m s] w fun e w' => e = .returned (.tuple #[enV ((forT c m s T).getD .zero), .bool (forT c m s T).isSome]) ∧ Keeps [] w w' := by
  obtain ⟨F, hF⟩ : ∃ F, forT c m s T = F := ⟨_, rfl⟩
  rw [hF]
  have hF2 : F = if vID m s = true then (lst T).find? (isT c m s) else none := hF.symm
  have hlen := g.len
  obtain ⟨M, hM⟩ : ∃ M, T.length = M := ⟨_, rfl⟩
  rw [hM] at hlen
  have hkl : (keyL T).length = M := by rw [← hM]; simp [keyL]
  have hk1 : Keeps [] w ((w.alloc (.cells #[.int .i64 m, .int .i64 s] tID)).alloc (.cells #[.int .i64 0, .int .u64 0, .int .i64 0, .int .i64 0, .int .i64 0, .int .i64 0, .int .i64 0, .bool false, .bool false, .bool false, .int .i64 0, .int .i64 0] tE)) := ((Keeps.refl _ _).alloc _).alloc _
  have hbi := two_a w (.cells #[.int .i64 m, .int .i64 s] tID) (.cells #[.int .i64 0, .int .u64 0, .int .i64 0, .int .i64 0, .int .i64 0, .int .i64 0, .int .i64 0, .bool false, .bool false, .bool false, .int .i64 0, .int .i64 0] tE)
  have hbz := two_b w (.cells #[.int .i64 m, .int .i64 s] tID) (.cells #[.int .i64 0, .int .u64 0, .int .i64 0, .int .i64 0, .int .i64 0, .int .i64 0, .int .i64 0, .bool false, .bool false, .bool false, .int .i64 0, .int .i64 0] tE)
  have hcv := fun W => valid_id_c W m s
  have t1 := t.keeps hk1
  have hlt := t.lt
  have hli := lt_of_blk hbi
  have hlz := lt_of_blk hbz
  obtain ⟨vv, hvv⟩ : ∃ b, vID m s = b := ⟨_, rfl⟩
  rw [hvv] at hF2
  simp only [hvv] at hcv
  obtain ⟨B, hB⟩ : ∃ B, w.heap.size = B := ⟨_, rfl⟩
  rw [hB] at hbi hbz hlt hli hlz
  replace hcv := Lib.hid hcv
  replace hF2 := Lib.hid hF2
  replace hM := Lib.hid hM
  replace hkl := Lib.hid hkl
  replace hk1 := Lib.hid hk1
  replace hbi := Lib.hid hbi
  replace hbz := Lib.hid hbz
  replace t1 := Lib.hid t1
  replace g := Lib.hid g
  clear hF hvv t
  simp only [idV]
  go_enter Tryz.func22, Tryz.ntmps22
  go_wp2_with fail
  refine (hcv.out _).mono ?_
  rintro e w1 ⟨rfl, hk⟩
  have hk01 := hk1.out.trans hk
  have hbi1 := (hk.block B hli (by simp)).trans hbi.out
  have hbz1 := (hk.block (B + 1) hlz (by simp)).trans hbz.out
  have t2 := t1.out.keeps hk
  have hz1 : B + 1 < w1.heap.size := Nat.lt_of_lt_of_le hlz hk.size
  have hfz := frz hbz1
  obtain ⟨z0, z1, z2, z3, z4, z5, z6, z7, z8, z9, z10, z11, _⟩ := cells12 hbz1
  replace hk01 := Lib.hid hk01
  replace hbi1 := Lib.hid hbi1
  replace hbz1 := Lib.hid hbz1
  replace t2 := Lib.hid t2
  clear hk hk1 hbi hbz t1 hcv hli hlz
  cases vv with
  | false =>
    have hr := hF2.out.trans (if_neg (by simp))
    subst hr
    go_wp2
    obtain ⟨hs1, hs2⟩ := st12 (x0 := .int .i64 0) (x1 := .int .u64 0) (x2 := .int .i64 0) (x3 := .int .i64 0) (x4 := .int .i64 0) (x5 := .int .i64 0) (x6 := .int .i64 0) (x7 := .bool false) (x8 := .bool false) (x9 := .bool false) (x10 := .int .i64 0) (x11 := .int .i64 0) hbz1.out
    refine bodyPost_ret (results_e2 rfl _ _ _ _ .zero _ rfl hs1) rfl ?_
    exact ⟨rfl, hk01.out.fresh hs2 (fun b hb => .inr (by simp at hb; omega))⟩
  | true =>
  have hF3 := hF2.out.trans (if_pos rfl)
  replace hF3 := Lib.hid hF3
  clear hF2
  have hkc := keys_c w1 bt bm T t2.out g.out.srt (by have := hM.out; omega)
  replace hkc := Lib.hid hkc
  clear hfz z0 z1 z2 z3 z4 z5 z6 z7 z8 z9 z10 z11
  go_wp2_with fail
  refine hkc.out.mono ?_
  rintro e w2 ⟨v, rfl, hO1, hk2⟩
  obtain ⟨ka, kc, rfl⟩ := hO1.form
  rw [hkl.out]
  have hk02 := hk01.out.trans hk2
  have hbi2 := (hk2.block B (by omega) (by simp)).trans hbi1.out
  have hbz2 := (hk2.block (B + 1) hz1 (by simp)).trans hbz1.out
  have t3 := t2.out.keeps hk2
  have hz2 : B + 1 < w2.heap.size := Nat.lt_of_lt_of_le hz1 hk2.size
  replace hk02 := Lib.hid hk02
  replace hbi2 := Lib.hid hbi2
  replace hbz2 := Lib.hid hbz2
  replace t3 := Lib.hid t3
  replace hO1 := Lib.hid hO1
  clear hk2 hk01 hbi1 hbz1 t2 hkc
  go_wp2
  go_loopw [18] (fun iv wr => ∃ k : Nat, iv = .int .i64 k ∧ k ≤ M ∧ Hid (∀ j (h : j < T.length), j < k → isT c m s T[j].1 = false) ∧ Keeps [] w2 wr) (fun iv _ => M - (intOf iv).toNat)
  case atStart => exact ⟨0, rfl, by omega, Lib.hid (fun _ _ h => by omega), Keeps.refl _ _⟩
  case round =>
    obtain ⟨k, rfl, hk, hno, hkw⟩ := hrel
    by_cases hlt2 : k < M
    · have hkk : k < (keyL T).length := by rw [hkl.out]; exact hlt2
      have hkT : k < T.length := by rw [hM.out]; exact hlt2
      obtain ⟨g0, o0, c', hv, he⟩ := (hO1.out.r.keeps hkw).elem hkk
      rw [hkl.out] at hv
      cases hv
      obtain ⟨⟨⟨rcl, rn, rim, ris, ro, ri, rd, rtc, rwk, rgb, rlm, rls⟩, rh⟩, hr⟩ : ∃ r, T[k] = r := ⟨_, rfl⟩
      have hkey : (keyL T)[k] = (rcl, rn) := by simp [keyL, hr]
      rw [hkey] at he
      have e0 := he 0 _ rfl
      have e1 := he 1 _ rfl
      simp only [shK, Nat.add_zero] at e0 e1
      have hmem : ((⟨rcl, rn, rim, ris, ro, ri, rd, rtc, rwk, rgb, rlm, rls⟩, rh) : Rw) ∈ T := hr ▸ List.getElem_mem hkT
      have hfn : fnd (rcl, rn) T = some (⟨rcl, rn, rim, ris, ro, ri, rd, rtc, rwk, rgb, rlm, rls⟩, rh) := fnd_mem g.out.srt hmem
      have tr := t3.out.keeps hkw
      have hlk0 := tr.look1 (rcl, rn) (g.out.key hmem)
      rw [hfn] at hlk0
      simp only [rwV, kyV, Option.getD_some] at hlk0
      have hkA : Keeps [] wr (wr.alloc (.cells #[.int .i64 rcl, .int .u64 rn] tK)) := (Keeps.refl _ _).alloc _
      have hbA := heap_alloc_new wr (.cells #[.int .i64 rcl, .int .u64 rn] tK)
      have hlk := fun (w' : World) (hb : w'.heap[bm]? = (wr.alloc (.cells #[.int .i64 rcl, .int .u64 rn] tK)).heap[bm]?) => hlk0 w' (hb.trans (hkA.block bm tr.lt.2 (by simp)))
      have d7 := (tr.keeps hkA).cell
      have hkwA := hkw.trans hkA
      have hbl := (tr.keeps hkA).lt.2
      have hbt := (tr.keeps hkA).lt.1
      have hzr : B + 1 < wr.heap.size := Nat.lt_of_lt_of_le hz2 hkw.size
      obtain ⟨q0, q1, _⟩ := cells2 hbA
      have hzA : (wr.alloc (.cells #[.int .i64 rcl, .int .u64 rn] tK)).heap.size = wr.heap.size + 1 := by simp
      replace hlk := Lib.hid hlk
      replace hkwA := Lib.hid hkwA
      replace hkw := Lib.hid hkw
      replace hr := Lib.hid hr
      clear he hkA hlk0 tr hfn hmem hkey hbA
      go_wp2
      obtain ⟨XK, hXK⟩ : ∃ X, wr.heap.size = X := ⟨_, rfl⟩
      try rw [hXK] at q0 q1 ⊢
      try rw [hXK] at hzA
      generalize hWA : wr.alloc (.cells #[.int .i64 rcl, .int .u64 rn] tK) = WA at *
      clear hWA
      refine Free.wp_region_chain (fun i => i == 7 || i == 8) (fun i => true) (fun j b => j = 8 ∧ WA.heap.size ≤ b) (by kernel_rfl) (by kernel_rfl) (by kernel_rfl) ?_
      (repeat (first | (apply Free.cw_pure rfl rfl; (intro w'; go_simp <;> exact rfl); go_frame) | (apply Free.cw_steady rfl rfl rfl; (intro w' hS2; have z0 := Free.sx_cell hS2 d7 (fun j hp hT => by have := hT.2; omega); have z1 := Free.sx_cell hS2 q0 (fun j hp hT => by obtain ⟨rfl, _⟩ := hT; exact absurd hp (by decide +kernel)); have z2 := Free.sx_cell hS2 q1 (fun j hp hT => by obtain ⟨rfl, _⟩ := hT; exact absurd hp (by decide +kernel)); have hlk2 := hlk.out w' (hS2.block bm hbl (fun ⟨_, _, _, hT⟩ => by omega)); have hfd := fieldE; go_simp <;> exact rfl); go_frame)))
      refine Free.cw_loud rfl rfl (fun K hK => ?_)
      go_wp2
      refine hK _ _ rfl (Free.KeepsP.alloc _ _ _) ?_
      clear hK K
      (repeat (apply Free.cw_pure rfl rfl; (intro w'; go_simp <;> exact rfl); go_frame))
      refine Free.cw_loud rfl rfl (fun K hK => ?_)
      go_wp2
      refine hK _ _ rfl (keepsP_remade (S := fun b => True ∧ WA.heap.size ≤ b) WA _ _ ⟨trivial, Nat.le_refl _⟩).drews ?_
      clear hK K
      refine Free.cw_nil ?_
      have hkB : Keeps [] WA ((WA.alloc (.cells #[.int .i64 rcl, .int .u64 rn, .int .i64 rim, .int .i64 ris, .int .i64 ro, .int .i64 ri, .int .i64 rd, .bool rtc, .bool rwk, .bool rgb, .int .i64 rlm, .int .i64 rls] tE)).drew) := ((Keeps.refl _ _).alloc _).drew
      have hbB := (drewHeap _ _).trans (heap_alloc_new WA (.cells #[.int .i64 rcl, .int .u64 rn, .int .i64 rim, .int .i64 ris, .int .i64 ro, .int .i64 ri, .int .i64 rd, .bool rtc, .bool rwk, .bool rgb, .int .i64 rlm, .int .i64 rls] tE))
      have hkwB := hkwA.out.trans hkB
      have hbi3 := (hkwB.block B (by omega) (by simp)).trans hbi2.out
      have hbz3 := (hkwB.block (B + 1) hz2 (by simp)).trans hbz2.out
      rw [hzA] at hbB
      generalize ((WA.alloc (.cells #[.int .i64 rcl, .int .u64 rn, .int .i64 rim, .int .i64 ris, .int .i64 ro, .int .i64 ri, .int .i64 rd, .bool rtc, .bool rwk, .bool rgb, .int .i64 rlm, .int .i64 rls] tE)).drew) = WB at *
      obtain ⟨y0, y1, y2, y3, y4, y5, y6, y7, y8, y9, y10, y11, _⟩ := cells12 hbB
      obtain ⟨u0, u1, _⟩ := cells2 hbi3
      obtain ⟨z0, z1, z2, z3, z4, z5, z6, z7, z8, z9, z10, z11, _⟩ := cells12 hbz3
      have hfz := frz hbz3
      have hq := fun w => eqI w rim ris m s
      simp only [idV] at hq
      obtain ⟨ib, hib⟩ : ∃ b, (rim == m && ris == s) = b := ⟨_, rfl⟩
      rw [hib] at hq
      obtain ⟨cb, hcb⟩ : ∃ b, (rcl == c) = b := ⟨_, rfl⟩
      have hist : isT c m s ⟨rcl, rn, rim, ris, ro, ri, rd, rtc, rwk, rgb, rlm, rls⟩ = (cb && (ib && !rgb)) := by simp only [isT, hcb, hib]
      have hst0 : T[k].1 = ⟨rcl, rn, rim, ris, ro, ri, rd, rtc, rwk, rgb, rlm, rls⟩ := by rw [hr.out]
      replace hist := Lib.hid hist
      replace hst0 := Lib.hid hst0
      replace hkwB := Lib.hid hkwB
      replace hbz3 := Lib.hid hbz3
      clear hkB hkwA hlk q0 q1 d7 hbB hbi3 hib e0 e1 hkw
      by_cases hyes : (cb && (ib && !rgb)) = true
      · have hcb1 : cb = true := by revert hyes; cases cb <;> simp
        have hib1 : ib = true := by revert hyes; cases cb <;> cases ib <;> simp
        have hgb1 : rgb = false := by revert hyes; cases cb <;> cases ib <;> cases rgb <;> simp
        subst hcb1 hib1 hgb1
        have hfin : F = some (⟨rcl, rn, rim, ris, ro, ri, rd, rtc, rwk, false, rlm, rls⟩ : En) := by
          rw [hF3.out]
          refine List.find?_eq_some_iff_append.2 ⟨hist.out, (lst T).take k, (lst T).drop (k + 1), ?_, ?_⟩
          · have h1 : k < (lst T).length := by simpa [lst] using hkT
            have h2 := List.drop_eq_getElem_cons h1
            have h3 : (lst T)[k] = (⟨rcl, rn, rim, ris, ro, ri, rd, rtc, rwk, false, rlm, rls⟩ : En) := by simp only [lst, List.getElem_map]; exact hst0.out
            rw [← h3, ← h2, List.take_append_drop]
          · intro a ha
            obtain ⟨j, hj, rfl⟩ := List.mem_iff_getElem.1 ha
            have hj2 : j < k := by simp at hj; omega
            simp only [List.getElem_take, lst, List.getElem_map]
            rw [hno.out j (by omega) hj2]; rfl
        subst hfin
        clear hyes hF3
        go_wp2
        obtain ⟨hs1, hs2⟩ := st12 (x0 := .int .i64 rcl) (x1 := .int .u64 rn) (x2 := .int .i64 rim) (x3 := .int .i64 ris) (x4 := .int .i64 ro) (x5 := .int .i64 ri) (x6 := .int .i64 rd) (x7 := .bool rtc) (x8 := .bool rwk) (x9 := .bool false) (x10 := .int .i64 rlm) (x11 := .int .i64 rls) hbz3.out
        refine bodyPost_ret (results_e2 rfl _ _ _ _ (⟨rcl, rn, rim, ris, ro, ri, rd, rtc, rwk, false, rlm, rls⟩ : En) _ rfl hs1) rfl ?_
        exact ⟨rfl, (hk02.out.trans hkwB.out).fresh hs2 (fun b hb => .inr (by simp at hb; omega))⟩
      · have hno2 : ∀ j (h : j < T.length), j < k + 1 → isT c m s T[j].1 = false := fun j h hj => by
          by_cases e : j = k
          · subst e; rw [hst0.out, hist.out]; simpa using hyes
          · exact hno.out j h (by omega)
        replace hno2 := Lib.hid hno2
        clear hbz3 hfz z0 z1 z2 z3 z4 z5 z6 z7 z8 z9 z10 z11
        cases cb with
        | false =>
          clear hyes
          go_wp2
          go_roundw
          case rel => exact ⟨k + 1, rfl, by omega, hno2, hkwB.out⟩
          case measure => simp [intOf]; omega
        | true =>
          cases ib with
          | false =>
            clear hyes
            go_wp2
            go_roundw
            case rel => exact ⟨k + 1, rfl, by omega, hno2, hkwB.out⟩
            case measure => simp [intOf]; omega
          | true =>
            have hgb1 : rgb = true := by revert hyes; cases rgb <;> simp
            subst hgb1
            clear hyes
            go_wp2
            go_roundw
            case rel => exact ⟨k + 1, rfl, by omega, hno2, hkwB.out⟩
            case measure => simp [intOf]; omega
    · have hkM : k = M := by omega
      subst hkM
      have hfin : F = none := by
        rw [hF3.out]
        refine List.find?_eq_none.2 fun a ha => ?_
        obtain ⟨j, hj, rfl⟩ := List.mem_iff_getElem.1 ha
        have hj2 : j < T.length := by simpa [lst] using hj
        simp only [lst, List.getElem_map]
        rw [hno.out j hj2 (by have := hM.out; omega)]; simp
      subst hfin
      have hbz3 := (hkw.block (B + 1) hz2 (by simp)).trans hbz2.out
      obtain ⟨z0, z1, z2, z3, z4, z5, z6, z7, z8, z9, z10, z11, _⟩ := cells12 hbz3
      have hfz := frz hbz3
      replace hkw := Lib.hid hkw
      replace hbz3 := Lib.hid hbz3
      go_wp2
      obtain ⟨hs1, hs2⟩ := st12 (x0 := .int .i64 0) (x1 := .int .u64 0) (x2 := .int .i64 0) (x3 := .int .i64 0) (x4 := .int .i64 0) (x5 := .int .i64 0) (x6 := .int .i64 0) (x7 := .bool false) (x8 := .bool false) (x9 := .bool false) (x10 := .int .i64 0) (x11 := .int .i64 0) hbz3.out
      refine bodyPost_ret (results_e2 rfl _ _ _ _ .zero _ rfl hs1) rfl ?_
      exact ⟨rfl, (hk02.out.trans hkw.out).fresh hs2 (fun b hb => .inr (by simp at hb; omega))⟩
end Go.Proofs.YtblaaafpglomnaaGreat

namespace Go.Proofs.YtblaaafpglomnaaGreat

/-- The digits of a number, the most significant one first. -/
def digs (n : Nat) : List UInt8 := if h : n = 0 then [] else digs (n / 256) ++ [UInt8.ofNat (n % 256)]
termination_by n
decreasing_by omega
theorem digs_zero : digs 0 = [] := by rw [digs]; simp
theorem digs_pos {n : Nat} (h : 0 < n) : digs n = digs (n / 256) ++ [UInt8.ofNat (n % 256)] := by rw [digs]; simp [show n ≠ 0 by omega]
theorem digs_len_pos {n : Nat} (h : 0 < n) : (digs n).length = (digs (n / 256)).length + 1 := by rw [digs_pos h]; simp
theorem digs_len_lt : ∀ (k n : Nat), n < 256 ^ k → (digs n).length ≤ k
  | 0, n, h => by have : n = 0 := by simpa using h
                  subst this; simp [digs_zero]
  | k + 1, n, h => by
    rcases Nat.eq_zero_or_pos n with rfl | hp
    · simp [digs_zero]
    · rw [digs_len_pos hp]
      have := digs_len_lt k (n / 256) (by rw [Nat.pow_succ] at h; omega)
      omega
theorem digs_len8 {n : Nat} (h : n < 18446744073709551616) : (digs n).length ≤ 8 := digs_len_lt 8 n (by simpa using h)
theorem digs_lt : ∀ (k n : Nat), (digs n).length = k → n < 256 ^ k
  | 0, n, h => by
    rcases Nat.eq_zero_or_pos n with rfl | hp
    · simp
    · rw [digs_len_pos hp] at h; omega
  | k + 1, n, h => by
    rcases Nat.eq_zero_or_pos n with rfl | hp
    · exact Nat.pow_pos (by omega)
    · rw [digs_len_pos hp] at h
      have := digs_lt k (n / 256) (by omega)
      rw [Nat.pow_succ]; omega
/-- The digit with `i` digits behind it. -/
theorem digs_get : ∀ (k n i : Nat), (digs n).length = k → i < k → (digs n)[k - 1 - i]? = some (UInt8.ofNat (n / 256 ^ i % 256))
  | 0, n, i, _, hi => by omega
  | k + 1, n, i, h, hi => by
    rcases Nat.eq_zero_or_pos n with rfl | hp
    · simp [digs_zero] at h
    · have h2 := digs_len_pos hp
      rw [digs_pos hp]
      cases i with
      | zero => rw [List.getElem?_append_right (by omega), show k + 1 - 1 - 0 - (digs (n / 256)).length = 0 from by omega]; simp
      | succ i =>
        rw [List.getElem?_append_left (by omega)]
        have := digs_get k (n / 256) i (by omega) (by omega)
        rw [show k + 1 - 1 - (i + 1) = k - 1 - i by omega, this, Nat.div_div_eq_div_mul, Nat.pow_succ, Nat.mul_comm 256]
/-- The encoding of a number. -/
def encU (n : Nat) : List UInt8 := UInt8.ofNat (digs n).length :: digs n
theorem encU_len {n : Nat} (h : n < 18446744073709551616) : (encU n).length ≤ 9 := by have := digs_len8 h; simp [encU]; omega
/-- A data datagram, an acknowledgement. -/
def dataB (n : Nat) (l : List UInt8) : List UInt8 := [1] ++ encU n ++ l
def ackB (n : Nat) : List UInt8 := [2] ++ encU n
/-- The number that digits stand for. -/
def valU (l : List UInt8) : Nat := l.foldl (fun n b => n * 256 + b.toNat) 0
theorem valU_snoc (l : List UInt8) (b : UInt8) : valU (l ++ [b]) = valU l * 256 + b.toNat := by simp [valU]
theorem valU_lt : ∀ (k : Nat) (l : List UInt8), l.length = k → valU l < 256 ^ k
  | 0, l, h => by rw [List.length_eq_zero_iff.1 h]; simp [valU]
  | k + 1, l, h => by
    obtain ⟨m, b, rfl⟩ : ∃ m b, l = m ++ [b] := ⟨l.dropLast, l.getLast (by intro e; subst e; simp at h), (List.dropLast_concat_getLast _).symm⟩
    have := valU_lt k m (by simpa using h)
    have hb := b.toNat_lt
    rw [valU_snoc, Nat.pow_succ]; omega
theorem valU_digs (n : Nat) : valU (digs n) = n := by
  induction n using Nat.strongRecOn with
  | _ n ih =>
    rcases Nat.eq_zero_or_pos n with rfl | hp
    · simp [digs_zero, valU]
    · rw [digs_pos hp, valU_snoc, ih (n / 256) (by omega)]
      simp; omega
theorem digs_valU : ∀ (k : Nat) (l : List UInt8), l.length = k → (∀ b, l[0]? = some b → b ≠ 0) → digs (valU l) = l
  | 0, l, h, _ => by rw [List.length_eq_zero_iff.1 h]; simp [valU, digs_zero]
  | k + 1, l, h, h0 => by
    obtain ⟨m, b, rfl⟩ : ∃ m b, l = m ++ [b] := ⟨l.dropLast, l.getLast (by intro e; subst e; simp at h), (List.dropLast_concat_getLast _).symm⟩
    have hm : m.length = k := by simpa using h
    have hb := b.toNat_lt
    rcases Nat.eq_zero_or_pos k with rfl | hk
    · have : m = [] := List.length_eq_zero_iff.1 hm
      subst this
      have hb0 : b ≠ 0 := h0 b (by simp)
      have hp : 0 < b.toNat := by
        rcases Nat.eq_zero_or_pos b.toNat with e | e
        · exact absurd (UInt8.toNat_inj.1 (by simpa using e)) hb0
        · exact e
      simp only [valU, List.nil_append, List.foldl_cons, List.foldl_nil, Nat.zero_mul, Nat.zero_add]
      rw [digs_pos hp, show b.toNat / 256 = 0 by omega, digs_zero, show b.toNat % 256 = b.toNat by omega]; simp
    · have h0' : ∀ c, m[0]? = some c → c ≠ 0 := fun c hc => h0 c (by rw [List.getElem?_append_left (by omega)]; exact hc)
      have ih := digs_valU k m hm h0'
      have hpos : 0 < valU m := by
        rcases Nat.eq_zero_or_pos (valU m) with e | e
        · rw [e, digs_zero] at ih; subst ih; simp at hm; omega
        · exact e
      rw [valU_snoc, digs_pos (by omega), show (valU m * 256 + b.toNat) / 256 = valU m by omega, ih, show (valU m * 256 + b.toNat) % 256 = b.toNat by omega]; simp
end Go.Proofs.YtblaaafpglomnaaGreat

namespace Go.Proofs.YtblaaafpglomnaaGreat
open Go.RowKit

theorem infoB : (Tryz.prog.info? 5).map (fun i => (i.zero, i.size, i.bytes)) = some (some (.int .u8 0), 1, 1) := by kernel_rfl
/-- The slice `v` reads as the bytes `l`, and is the call's own: it lies in a block from `base` on, at its head. -/
def Buf (w : World) (base : Nat) (v : Value) (l : List UInt8) : Prop := w.ownsRow base 5 1 v l.length (bys l)
theorem Buf.slB {w : World} {base : Nat} {v : Value} {l : List UInt8} (h : Buf w base v l) : SlB w v l := Sl.of_owns h
theorem Buf.nil (w : World) (base : Nat) : Buf w base (.slice none 0 0) [] := World.ownsRow_nil _ _ _ _
theorem Buf.form {w : World} {base : Nat} {v : Value} {l : List UInt8} (h : Buf w base v l) : ∃ a cap, v = .slice a l.length cap := h.slB.form
theorem Buf.of {w : World} {base n : Nat} {v : Value} {l m : List UInt8} (h : w.ownsRow base 5 1 v n (bys l ++ bys m)) : Buf w base v (l ++ m) := by
  have h1 := h.1
  unfold Buf
  rw [bys_append]
  have : (l ++ m).length = n := by simpa using h1
  rw [this]
  exact h
theorem byte_of {x : Int} (h0 : 0 ≤ x) : Value.int .u8 (x % 256) = .int .u8 ((UInt8.ofNat x.toNat).toNat : Int) := by
  congr 1; simp; omega

theorem wpl_pushB {ops : Array Oper} {rest : List Oper} {o : Oper} {a : Act} {Q : Exit → Act → World → Prop} (w : World) (base : Nat) (v : Value) (l : List UInt8) (x : Int) (hg : o.guard = none) (s t : Operand)
    (ho : o.op = .call { callee := .builtin .append, args := #[s, t], argTypes := #[22, 22] }) (hs : a.eval s = v) (ht : a.eval t = .slice (some ⟨w.heap.size, 0, none⟩) 1 1)
    (h : Buf w base v l) (b : UInt8) (hb : x = (b.toNat : Int)) (hl : l.length ≤ 140737488355300) (hbase : base ≤ w.heap.size)
    (K : ∀ v' w', Buf w' base v' (l ++ [b]) → Grw w w' v v' → wpList Tryz.prog ops Q rest (a.put o.dst v') w') : wpList Tryz.prog ops Q (o :: rest) a (w.alloc (.cells #[.int .u8 x] 5)) := by
  obtain ⟨i0, hi, hz0, hz1, hz2⟩ := info_parts infoB
  subst hb
  refine wpl_append_x hg s t _ ho base 5 i0 (.int .u8 0) 1 1 Tryz.underlying22 hi hz0 hz1 hz2 rfl (by decide) v l.length (bys l) hs (h.alloc _) _ 1 (bys [b]) ht (SlB.one w b _) (bys_one _) (by unfold maxLen; omega) (by omega) (by simp; omega) ?_
  intro v' w' h1 h2 _
  exact K v' w' (Buf.of h1) h2.alloc_left

theorem shr_byte (n k : Nat) : (n : Int) / 2 ^ (8 * k) % 256 = ((UInt8.ofNat (n / 256 ^ k % 256)).toNat : Int) := by
  have e : (256 : Nat) ^ k = 2 ^ (8 * k) := by rw [Nat.pow_mul]
  rw [e]
  simp
  
set_option maxRecDepth 100000 in
set_option maxHeartbeats 1000000 in
theorem appU_c (w : World) (base : Nat) (v0 : Value) (l : List UInt8) (n : Nat) (h : Buf w base v0 l) (hn : n < 18446744073709551616) (hl : l.length ≤ 140737488355000) (hb : base ≤ w.heap.size) :
    Calls Tryz.prog 41 #[v0, .int .u64 n] w fun e w' => ∃ v', e = .returned v' ∧ Buf w' base v' (l ++ encU n) ∧ Grw w w' v0 v' := by
  obtain ⟨i0, hi, hz0, hz1, hz2⟩ := info_parts infoB
  obtain ⟨K, hK⟩ : ∃ K, K = (digs n).length := ⟨_, rfl⟩
  have hK8 : K ≤ 8 := by rw [hK]; exact digs_len8 hn
  replace hK := Lib.hid hK
  go_enter Tryz.func41, Tryz.ntmps41
  go_wp2
  go_loop [5, 6] (fun k r => ∃ (j : Nat) (x : Nat), j ≤ K ∧ x < 18446744073709551616 ∧ k = .int .i64 j ∧ r = .int .u64 x ∧ Hid (j + (digs x).length = K)) (fun _ r => (intOf r).toNat)
  case atStart => exact ⟨0, n, by omega, hn, rfl, rfl, by show _ = _; rw [hK.out]; simp⟩
  case round =>
    obtain ⟨j, x, hj, hx, rfl, rfl, hjx⟩ := hrel
    by_cases hp : 0 < x
    · have hd := digs_len_pos hp
      have hj2 : Hid (j + 1 + (digs (x / 256)).length = K) := by have := hjx.out; show _ = _; omega
      have hj3 : j + 1 ≤ K := by have := hj2.out; omega
      clear hd hjx
      go_wp2
      go_round
      case rel => exact ⟨j + 1, x / 256, hj3, by omega, by go_num, by go_num, hj2⟩
      case measure => simp [intOf]; omega
    · have hx0 : x = 0 := by omega
      have hjK : j = K := by have := hjx.out; rw [hx0, digs_zero] at this; simpa using this
      subst hjK
      have h0 := h
      obtain ⟨a0, c0, rfl⟩ := h.form
      replace h0 := Lib.hid h0
      clear h hjx hx0
      go_wp2_with (at_builtin; (refine wpl_pushB _ base _ l _ rfl _ _ rfl rfl rfl h0.out (UInt8.ofNat j) (by simp; omega) (by omega) hb ?_; intro v1 w1 hB1 hG1))
      go_loopw [0, 7] (fun v i wr => ∃ (m : Nat) (L : List UInt8), m ≤ j ∧ i = .int .i64 ((j : Int) - 1 - m) ∧ Hid (L = l ++ [UInt8.ofNat j] ++ (digs n).take m) ∧ Buf wr base v L ∧ Grw w wr (.slice a0 l.length c0) v) (fun _ i _ => (intOf i + 1).toNat)
      case atStart => exact ⟨0, _, by omega, by simp, by show _ = _; simp, hB1, hG1⟩
      case round =>
        obtain ⟨m, L, hm, rfl, hL, hB, hG⟩ := hrel
        obtain ⟨am, cm, rfl⟩ := hB.form
        clear hB1 hG1
        have hsz := hG.grown.size
        have hlen : L.length ≤ 140737488355300 := by
          rw [hL.out]; simp only [List.length_append, List.length_take, List.length_cons, List.length_nil]; omega
        replace hB := Lib.hid hB
        replace hG := Lib.hid hG
        by_cases hmj : m < j
        · have hdg := digs_get j n (j - 1 - m) hK.out.symm (by omega)
          have hdg2 : Hid ((digs n)[m]? = some (UInt8.ofNat (n / 256 ^ (j - 1 - m) % 256))) := by rw [show j - 1 - (j - 1 - m) = m by omega] at hdg; exact hdg
          clear hdg
          go_wp2_with (at_builtin; (refine wpl_pushB _ base _ _ _ rfl _ _ rfl rfl rfl hB.out (UInt8.ofNat (n / 256 ^ (j - 1 - m) % 256)) (shr_byte _ _) hlen (by omega) ?_; intro v2 w2 hB2 hG2))
          go_roundw
          case rel => exact ⟨m + 1, _, by omega, by go_num, by show _ = _; rw [hL.out, List.take_add_one, hdg2.out]; simp, hB2, hG.out.trans hG2⟩
          case measure => simp [intOf]; omega
        · have hmj : m = j := by omega
          have hfin : Hid (L = l ++ encU n) := by
            show _ = _
            rw [hL.out, hmj]; unfold encU; rw [← hK.out, List.take_of_length_le (by rw [← hK.out]; omega)]; simp
          clear hL
          go_wp2
          go_ret
          exact ⟨_, rfl, by rw [← hfin.out]; exact hB.out, hG.out⟩

/-- `append(v, v2...)` of bytes, `v` the call's own. -/
theorem wpl_appB {ops : Array Oper} {rest : List Oper} {o : Oper} {a : Act} {Q : Exit → Act → World → Prop} (w : World) (base : Nat) (v : Value) (l : List UInt8) (hg : o.guard = none) (s t : Operand)
    (ho : o.op = .call { callee := .builtin .append, args := #[s, t], argTypes := #[22, 22] }) (hs : a.eval s = v) (v2 : Value) (m : List UInt8) (ht : a.eval t = v2)
    (h : Buf w base v l) (h2 : SlB w v2 m) (hl : l.length + m.length ≤ 140737488355328) (hbase : base ≤ w.heap.size)
    (K : ∀ v' w', Buf w' base v' (l ++ m) → Grw w w' v v' → wpList Tryz.prog ops Q rest (a.put o.dst v') w') : wpList Tryz.prog ops Q (o :: rest) a w := by
  obtain ⟨i0, hi, hz0, hz1, hz2⟩ := info_parts infoB
  refine wpl_append_x hg s t _ ho base 5 i0 (.int .u8 0) 1 1 Tryz.underlying22 hi hz0 hz1 hz2 rfl (by decide) v l.length (bys l) hs h _ m.length (bys m) ht h2 (bys_one _) (by unfold maxLen; omega) (by omega) hbase ?_
  intro v' w' h1 h2 _
  exact K v' w' (Buf.of h1) h2
theorem Buf.fresh (w : World) : Buf (w.alloc (.cells #[] 5)) w.heap.size (.slice (some ⟨w.heap.size, 0, none⟩) 0 0) [] := ownsRow_empty w _ _ _ (Nat.le_refl _)
theorem Buf.one (w : World) (b : UInt8) {x : Int} (hx : x = (b.toNat : Int)) : Buf (w.alloc (.cells #[.int .u8 x] 5)) w.heap.size (.slice (some ⟨w.heap.size, 0, none⟩) 1 1) [b] := by
  subst hx
  exact ⟨rfl, .inr ⟨_, 1, _, rfl, Nat.le_refl _, heap_alloc_new _ _, Nat.le_refl _, by simp [maxLen], rfl, rfl⟩⟩
theorem Buf.keep {w w' : World} {base : Nat} {v : Value} {l : List UInt8} (h : Buf w base v l) (hk : Keeps [] w w') : Buf w' base v l := ownsRow_block h (fun b _ hb => hk.block b hb (by simp))
theorem SlB.cap {w : World} {v : Value} {l : List UInt8} (h : SlB w v l) : l.length ≤ maxLen := by obtain ⟨_, a, c, rfl, h1, h2, _⟩ := h; omega

set_option maxRecDepth 100000 in
set_option maxHeartbeats 1000000 in
theorem clone_c (w : World) (v0 : Value) (l : List UInt8) (h : SlB w v0 l) (hl : l.length ≤ 140737488355328) :
    Calls Tryz.prog 52 #[v0] w fun e w' => ∃ v', e = .returned v' ∧ Buf w' w.heap.size v' l ∧ Keeps [] w w' := by
  have q22 : ∀ (w : World) (a : Option Addr) (n c n' c' : Nat), (binOp .eql 22 (.slice a n c) (.slice none n' c')).run Tryz.prog w = .ok (.bool a.isNone) w := fun w a n c n' c' => Lib.run_eql_slice_nil w _ _ a n c n' c' Tryz.underlying22
  obtain ⟨a0, c0, rfl⟩ := h.form
  cases a0 with
  | none =>
    have hl0 : l = [] := by
      rcases h.cases with ⟨e, _⟩ | ⟨g, o, cap, e, _⟩
      · exact e
      · cases e
    subst hl0
    replace h := Lib.hid h
    all_goals
      go_enter Tryz.func52, Tryz.ntmps52
      go_wp2
      go_ret
      exact ⟨_, rfl, Buf.nil _ _, Keeps.refl _ _⟩
  | some ad =>
    replace h := Lib.hid h
    all_goals
      go_enter Tryz.func52, Tryz.ntmps52
      go_wp2_with (at_builtin; (refine wpl_appB _ w.heap.size (.slice (some ⟨w.heap.size, 0, none⟩) 0 0) [] rfl _ _ rfl rfl _ l rfl (Buf.fresh w) (h.out.keeps ((Keeps.refl [] w).alloc _)) (by simp; omega) (by simp) ?_; intro v1 w1 hB1 hG1))
      go_ret
      exact ⟨_, rfl, hB1, hG1.keeps ((Keeps.refl [] w).alloc _) (by simp [Value.ownBlock])⟩

/-- Bytes as a string. -/
def str (l : List UInt8) : ByteArray := ⟨l.toArray⟩
theorem run_str {w : World} {v : Value} {l : List UInt8} (h : SlB w v l) : (convert 22 9 v).run Tryz.prog w = .ok (.string (str l)) w := by
  rcases h.cases with ⟨rfl, a, c, rfl, _, _⟩ | ⟨g, o, c, rfl, _, _, _, _, hc⟩
  · cases a with
    | none => exact run_convert_bytes_nil w _ _ Tryz.underlying22 Tryz.underlying5 _ _ _ Tryz.underlying9
    | some a =>
      have := run_convert_bytes_arg (P := Tryz.prog) w 22 5 Tryz.underlying22 Tryz.underlying5 a.block a.off 0 c [] rfl (fun i hi => by omega) 9 Tryz.underlying9
      rw [run_convert_bytes_string w _ _ 5 _ _ _ Tryz.underlying22 Tryz.underlying5 Tryz.underlying9] at this ⊢
      simp [Conv.bytesToString, loadCells, loadCellsFrom] at this ⊢
      rfl
  · have := run_convert_bytes_arg (P := Tryz.prog) w 22 5 Tryz.underlying22 Tryz.underlying5 g o l.length c (l.map fun b => (b.toNat : Int)) (by simp) (fun i hi => by rw [hc i hi]; simp [hi]) 9 Tryz.underlying9
    rw [this]
    simp [strOfNums, str, Function.comp_def]
theorem str_inj {l m : List UInt8} (h : str l = str m) : l = m := by simpa [str] using h

end Go.Proofs.YtblaaafpglomnaaGreat

namespace Go.Proofs.YtblaaafpglomnaaGreat
open Go.RowKit

/-- What a number's encoding at the head of `l` gives: the number and the rest. -/
def readU : List UInt8 → Option (Nat × List UInt8)
  | [] => none
  | k :: t => if k.toNat ≤ 8 ∧ k.toNat ≤ t.length ∧ (0 < k.toNat → t.headD 1 ≠ 0) then some (valU (t.take k.toNat), t.drop k.toNat) else none
/-- The reader at block `br`: what is left is the slice `v`, which reads as `l`; its error is `e`. -/
def Rd (w : World) (br : Nat) (v : Value) (l : List UInt8) (e : Int) : Prop := w.heap[br]? = some (.cells #[v, .int .i64 e] 104 (0, 0)) ∧ SlB w v l

theorem cell2_of {w : World} {b : Nat} {u v : Value} {t : TypeId} (h : w.heap[b]? = some (.cells #[u, v] t (0, 0))) : w.cell? ⟨b, 0, none⟩ = some u ∧ w.cell? ⟨b, 1, none⟩ = some v ∧ w.frozen? ⟨b, 0, none⟩ = false ∧ w.frozen? ⟨b, 1, none⟩ = false ∧ b < w.heap.size := by
  refine ⟨by simp [World.cell?, h], by simp [World.cell?, h], by simp [World.frozen?, h], by simp [World.frozen?, h], (Array.getElem?_eq_some_iff.1 h).1⟩

set_option maxRecDepth 100000 in
set_option maxHeartbeats 1000000 in
theorem newReader_c (w : World) (v0 : Value) (l : List UInt8) (h : SlB w v0 l) (hl : l.length ≤ 140737488355328) :
    Calls Tryz.prog 25 #[v0] w fun e w' => ∃ br v', e = .returned (.pointer (some ⟨br, 0, none⟩)) ∧ w.heap.size ≤ br ∧ Rd w' br v' l 0 ∧ Keeps [] w w' := by
  obtain ⟨a0, c0, rfl⟩ := h.form
  replace h := Lib.hid h
  go_enter Tryz.func25, Tryz.ntmps25
  go_wp2_with fail
  refine (clone_c _ _ l h.out hl).mono ?_
  rintro e w1 ⟨v1, rfl, hB1, hk1⟩
  obtain ⟨a1, c1, rfl⟩ := hB1.form
  have hsz := hk1.size
  replace hB1 := Lib.hid hB1
  replace hk1 := Lib.hid hk1
  go_wp2
  go_ret
  refine ⟨w1.heap.size, .slice a1 l.length c1, rfl, hsz, ⟨heap_alloc_new _ _, (hB1.out.keep ((Keeps.refl [] w1).alloc _)).slB⟩, hk1.out.alloc _⟩

/-- The error of a reader at the end. -/
def doneE (l : List UInt8) (e : Int) : Int := if e = 0 ∧ l ≠ [] then 11 else e
set_option maxRecDepth 100000 in
set_option maxHeartbeats 1000000 in
theorem done_c (w : World) (br : Nat) (v : Value) (l : List UInt8) (e : Int) (h : Rd w br v l e) :
    Calls Tryz.prog 33 #[.pointer (some ⟨br, 0, none⟩)] w fun en w' => en = .returned (.int .i64 (doneE l e)) ∧ w = w' := by
  obtain ⟨c0, c1, f0, f1, hlt⟩ := cell2_of h.1
  obtain ⟨a0, cap0, rfl⟩ := h.2.form
  clear h
  by_cases he : e = 0
  · subst he
    by_cases hl : l = []
    · subst hl
      go_enter Tryz.func33, Tryz.ntmps33
      go_wp2
      go_ret
      exact ⟨by simp [doneE], rfl⟩
    · have hp : 0 < l.length := List.length_pos_iff.2 hl
      replace hl := Lib.hid hl
      go_enter Tryz.func33, Tryz.ntmps33
      go_wp2
      go_ret
      exact ⟨by simp [doneE, hl.out], rfl⟩
  · have he2 : (e == 0) = false := by simp [he]
    replace he := Lib.hid he
    go_enter Tryz.func33, Tryz.ntmps33
    go_wp2
    go_ret
    exact ⟨by simp [doneE, he.out], rfl⟩

theorem cell1_of {w : World} {b : Nat} {u : Value} {t : TypeId} (h : w.heap[b]? = some (.cells #[u] t (0, 0))) : w.cell? ⟨b, 0, none⟩ = some u ∧ w.frozen? ⟨b, 0, none⟩ = false ∧ b < w.heap.size := by
  refine ⟨by simp [World.cell?, h], by simp [World.frozen?, h], (Array.getElem?_eq_some_iff.1 h).1⟩

end Go.Proofs.YtblaaafpglomnaaGreat

namespace Go.Proofs.YtblaaafpglomnaaGreat
open Go.RowKit

set_option maxRecDepth 100000 in
set_option maxHeartbeats 2000000 in
theorem uint1_bad (w : World) (br b1 b2 : Nat) (v : Value) (l : List UInt8) (h : Rd w br v l 0) (h1 : w.cell? ⟨b1, 0, none⟩ = some (.pointer (some ⟨br, 0, none⟩))) (hr : readU l = none) :
    Calls Tryz.prog 55 #[.pointer (some ⟨b1, 0, none⟩), .pointer (some ⟨b2, 0, none⟩)] w fun en w' => en = .returned (.int .i64 11) ∧ Keeps [] w w' := by
  obtain ⟨c0, c1, f0, f1, hlt⟩ := cell2_of h.1
  rcases h.2.cases with ⟨rfl, a, cp, rfl, _, _⟩ | ⟨g, o, cp, rfl, hn, hm, hp, hg, hc⟩
  · clear h hr
    go_enter Tryz.func55, Tryz.ntmps55
    go_wp2
    (refine wp_region_quiet_lit (by kernel_rfl) (by kernel_rfl) ?_; (repeat (first | go_big_quiet_step (fail) | quiet_step (fail))); with_reducible refine wpQuiet_nil ?_; intro _ hw'; obtain ⟨nq, hw''⟩ := hw'; subst hw'')
    go_wp2
    go_ret
    exact ⟨rfl, (Keeps.refl _ _).drewN _⟩
  · obtain ⟨k, t, rfl⟩ : ∃ k t, l = k :: t := by cases l with | nil => simp at hp | cons k t => exact ⟨k, t, rfl⟩
    have k0 := hc 0 (by simp)
    have k1 : 0 < t.length → w.cell? ⟨g, o + 1, none⟩ = some (.int .u8 ((t.headD 1).toNat : Int)) := fun ht => by
      have := hc 1 (by simp; omega)
      rw [this]; cases t with | nil => simp at ht | cons a b => rfl
    simp only [Nat.add_zero, List.getElem_cons_zero] at k0
    clear hc h hp
    have hcond : ¬ (k.toNat ≤ 8 ∧ k.toNat ≤ t.length ∧ (0 < k.toNat → t.headD 1 ≠ 0)) := fun hh => by
      rw [readU, if_pos hh] at hr; cases hr
    clear hr
    have hk := k.toNat_lt
    simp only [List.length_cons] at *
    generalize (t.headD 1) = t0 at *
    generalize k.toNat = kk at *
    generalize t.length = N at *
    have hNN : (N : Int) + 1 ≤ 9223372036854775807 := by unfold maxLen at hm; omega
    by_cases h8 : kk ≤ 8
    · have d8 : decide ((8 : Int) < (kk : Int)) = false := by simp; omega
      by_cases hN : kk ≤ N
      · have dN : decide ((N : Int) + 1 ≤ (kk : Int)) = false := by simp; omega
        have hk0 : 0 < kk := by
          rcases Nat.eq_zero_or_pos kk with e | e
          · exact absurd ⟨h8, hN, fun h => by omega⟩ hcond
          · exact e
        have dk : (0 : Int) < (kk : Int) := by omega
        have ht0 : t0 = 0 := by
          rcases Classical.em (t0 = 0) with e | e
          · exact e
          · exact absurd ⟨h8, hN, fun _ => e⟩ hcond
        subst ht0
        have k1' := k1 (by omega)
        simp at k1'
        clear hcond k1
        go_enter Tryz.func55, Tryz.ntmps55
        go_wp2
        (refine wp_region_quiet_lit (by kernel_rfl) (by kernel_rfl) ?_; (repeat (first | go_big_quiet_step (fail) | quiet_step (fail))); with_reducible refine wpQuiet_nil ?_; intro _ hw'; obtain ⟨nq, hw''⟩ := hw'; subst hw'')
        go_wp2
        go_ret
        exact ⟨rfl, (Keeps.refl _ _).drewN _⟩
      · have dN : (N : Int) + 1 ≤ (kk : Int) := by omega
        clear hcond k1
        go_enter Tryz.func55, Tryz.ntmps55
        go_wp2
        (refine wp_region_quiet_lit (by kernel_rfl) (by kernel_rfl) ?_; (repeat (first | go_big_quiet_step (fail) | quiet_step (fail))); with_reducible refine wpQuiet_nil ?_; intro _ hw'; obtain ⟨nq, hw''⟩ := hw'; subst hw'')
        go_wp2
        go_ret
        exact ⟨rfl, (Keeps.refl _ _).drewN _⟩
    · have d8 : (8 : Int) < (kk : Int) := by omega
      clear hcond k1
      go_enter Tryz.func55, Tryz.ntmps55
      go_wp2
      (refine wp_region_quiet_lit (by kernel_rfl) (by kernel_rfl) ?_; (repeat (first | go_big_quiet_step (fail) | quiet_step (fail))); with_reducible refine wpQuiet_nil ?_; intro _ hw'; obtain ⟨nq, hw''⟩ := hw'; subst hw'')
      go_wp2
      go_ret
      exact ⟨rfl, (Keeps.refl _ _).drewN _⟩

end Go.Proofs.YtblaaafpglomnaaGreat

namespace Go.Proofs.YtblaaafpglomnaaGreat
open Go.RowKit

theorem set2_0 {w : World} {b : Nat} {u v : Value} {t : TypeId} (h : w.heap[b]? = some (.cells #[u, v] t (0, 0))) (u' : Value) : (w.setCell ⟨b, 0, none⟩ u').heap[b]? = some (.cells #[u', v] t (0, 0)) := by
  obtain ⟨hlt, hk⟩ := Array.getElem?_eq_some_iff.1 h
  simp [World.setCell, Array.getElem?_modify, h]
theorem set2_1 {w : World} {b : Nat} {u v : Value} {t : TypeId} (h : w.heap[b]? = some (.cells #[u, v] t (0, 0))) (v' : Value) : (w.setCell ⟨b, 1, none⟩ v').heap[b]? = some (.cells #[u, v'] t (0, 0)) := by
  obtain ⟨hlt, hk⟩ := Array.getElem?_eq_some_iff.1 h
  simp [World.setCell, Array.getElem?_modify, h]
/-- One byte more, as the machine reckons it. -/
theorem or_byte (x y : Nat) (hx : (x : Int) < 72057594037927936) (hy : (y : Int) ≤ 255) : bits .or .u64 ((x : Int) * 256) (y : Int) = ((x * 256 + y : Nat) : Int) := by
  have h := u64_or_nat (x * 256) y (by omega) (by omega)
  have h2 : x * 256 + y = x * 256 ||| y := by
    have := Nat.shiftLeft_add_eq_or_of_lt (i := 8) (b := y) (by omega) x
    simpa [Nat.shiftLeft_eq] using this
  rw [h2, ← h]; simp

theorem rd_nobyte {w : World} {br : Nat} {v : Value} {l : List UInt8} {e : Int} (h : Rd w br v l e) : ∀ o x, w.cell? ⟨br, o, none⟩ ≠ some (.int .u8 x) := by
  obtain ⟨a, c, rfl⟩ := h.2.form
  exact no_byte h.1 (by simp)
theorem rd_tail (w wr : World) (br b2 g o N cp : Nat) (k : UInt8) (t : List UInt8) (j : Nat) (h : Rd w br (.slice (some ⟨g, o, none⟩) (t.length + 1) cp) (k :: t) 0) (hk : Keeps [b2] w wr)
    (hb : wr.heap[b2]? = some (.cells #[.int .u64 (valU (t.take j))] 43 (0, 0))) (hb0 : w.heap[b2]? = some (.cells #[.int .u64 0] 43 (0, 0))) (hN : t.length = N) (hj : j ≤ N) (hbr : br ≠ b2) :
    (wr.setCell ⟨br, 0, none⟩ (.slice (if cp = 1 + j then some ⟨g, o, none⟩ else some ⟨g, o + (1 + j), none⟩) (N + 1 - (1 + j)) (cp - (1 + j)))).drew.heap[b2]? = some (.cells #[.int .u64 (valU (t.take j))] 43 (0, 0)) ∧
    (∃ v', Rd (wr.setCell ⟨br, 0, none⟩ (.slice (if cp = 1 + j then some ⟨g, o, none⟩ else some ⟨g, o + (1 + j), none⟩) (N + 1 - (1 + j)) (cp - (1 + j)))).drew br v' (t.drop j) 0) ∧
    Keeps [br, b2] w (wr.setCell ⟨br, 0, none⟩ (.slice (if cp = 1 + j then some ⟨g, o, none⟩ else some ⟨g, o + (1 + j), none⟩) (N + 1 - (1 + j)) (cp - (1 + j)))).drew := by
  subst hN
  obtain ⟨q0, _, _, _, hlt⟩ := cell2_of h.1
  have hbr' := (hk.block br hlt (by simp; omega)).trans h.1
  have htl := SlB.tail h.2 (1 + j) (by simp; omega)
  have hk2 : Keeps [br, b2] w wr := hk.mono (fun x hx => by simp at hx; simp [hx])
  have hkb : KB w wr := hk.kb (by intro b hb; simp at hb; subst hb; exact no_byte hb0 (by simp))
  refine ⟨?_, ⟨_, ⟨set2_0 hbr' _, ?_⟩⟩, (hk2.setCell (.inr (by simp)) _).drew⟩
  · exact (Below.heap_setCell _ _ _ _ (by simp; omega)).trans hb
  · simp only [List.length_cons, Nat.add_comm 1 j, List.drop_succ_cons] at htl ⊢
    exact htl.kb (hkb.trans ((KB.setCell wr _ (cell2_of hbr').1 (by simp)).trans (KB.drew _)))

set_option maxRecDepth 100000 in
set_option maxHeartbeats 2000000 in
theorem uint1_ok (w : World) (br b1 b2 : Nat) (v : Value) (l rest : List UInt8) (x : Nat) (h : Rd w br v l 0) (h1 : w.cell? ⟨b1, 0, none⟩ = some (.pointer (some ⟨br, 0, none⟩))) (h2 : w.heap[b2]? = some (.cells #[.int .u64 0] 43 (0, 0)))
    (hne : b1 ≠ b2 ∧ br ≠ b2) (hr : readU l = some (x, rest)) :
    Calls Tryz.prog 55 #[.pointer (some ⟨b1, 0, none⟩), .pointer (some ⟨b2, 0, none⟩)] w fun en w' => en = .returned (.int .i64 0) ∧ w'.heap[b2]? = some (.cells #[.int .u64 x] 43 (0, 0)) ∧ (∃ v', Rd w' br v' rest 0) ∧ Keeps [br, b2] w w' := by
  obtain ⟨c0, c1, f0, f1, hlt⟩ := cell2_of h.1
  obtain ⟨e0, fe0, hlt2⟩ := cell1_of h2
  rcases h.2.cases with ⟨rfl, a, cp, rfl, _, _⟩ | ⟨g, o, cp, rfl, hn, hm, hp, hg, hc⟩
  · cases hr
  · obtain ⟨k, t, rfl⟩ : ∃ k t, l = k :: t := by cases l with | nil => simp at hp | cons k t => exact ⟨k, t, rfl⟩
    have k0 := hc 0 (by simp)
    have hgb : g ≠ b2 := fun e => by subst e; exact no_byte h2 (by simp) _ _ k0
    have k1 : 0 < t.length → w.cell? ⟨g, o + 1, none⟩ = some (.int .u8 ((t.headD 1).toNat : Int)) := fun ht => by
      have := hc 1 (by simp; omega)
      rw [this]; cases t with | nil => simp at ht | cons a b => rfl
    have kj : ∀ j (hj : j < t.length), w.cell? ⟨g, o + 1 + j, none⟩ = some (.int .u8 (t[j].toNat : Int)) := fun j hj => by
      have := hc (j + 1) (by simp; omega)
      rw [show o + 1 + j = o + (j + 1) by omega, this]; rfl
    simp only [Nat.add_zero, List.getElem_cons_zero] at k0
    clear hc hp
    have hcond : k.toNat ≤ 8 ∧ k.toNat ≤ t.length ∧ (0 < k.toNat → t.headD 1 ≠ 0) := by
      rcases Classical.em (k.toNat ≤ 8 ∧ k.toNat ≤ t.length ∧ (0 < k.toNat → t.headD 1 ≠ 0)) with e | e
      · exact e
      · rw [readU, if_neg e] at hr; cases hr
    rw [readU, if_pos hcond] at hr
    simp only [Option.some.injEq, Prod.mk.injEq] at hr
    obtain ⟨h8, hN, ht0⟩ := hcond
    obtain ⟨hx, hrest⟩ := hr
    have hk : k.toNat ≤ 255 := by have := k.toNat_lt; omega
    have hh := Lib.hid h
    have hh2 := Lib.hid h2
    replace hx := Lib.hid hx
    replace hrest := Lib.hid hrest
    replace kj := Lib.hid kj
    clear h h2
    simp only [List.length_cons] at *
    obtain ⟨t0, htt0⟩ : ∃ t0, t.headD 1 = t0 := ⟨_, rfl⟩
    rw [htt0] at k1 ht0
    clear htt0
    obtain ⟨kk, hkk⟩ : ∃ kk, k.toNat = kk := ⟨_, rfl⟩
    rw [hkk] at k0 h8 hN ht0 hk hx hrest
    clear hkk
    obtain ⟨N, hNt⟩ : ∃ N, t.length = N := ⟨_, rfl⟩
    rw [hNt] at hN k1 hn c0
    replace hNt := Lib.hid hNt
    have hNN : (N : Int) + 1 ≤ 9223372036854775807 := by unfold maxLen at hm; omega
    have d8 : decide ((8 : Int) < (kk : Int)) = false := by simp; omega
    have nz : ((N : Int) + 1 == 0) = false := by simp; omega
    have wk : IntKind.i64.wrap (kk : Int) = kk := IntWalk.i64_in _ (by omega)
    have dN : decide ((N : Int) + 1 ≤ (kk : Int)) = false := by simp; omega
    have hfacts : (∃ _ : (0 : Int) < (kk : Int), 0 < kk ∧ w.cell? ⟨g, o + 1, none⟩ = some (.int .u8 (t0.toNat : Int)) ∧ ((t0.toNat : Int) == 0) = false) ∨ (decide ((0 : Int) < (kk : Int)) = false ∧ decide (0 < kk) = false) := by
      by_cases hk0 : 0 < kk
      · refine .inl ⟨by omega, hk0, k1 (by omega), ?_⟩
        have := ht0 hk0
        have h9 : t0.toNat ≠ 0 := fun e => this (UInt8.toNat_inj.1 (by simpa using e))
        simp; omega
      · exact .inr ⟨by simp; omega, by simp; omega⟩
    clear ht0 k1
    have hcp : 1 < cp ∨ (cp = 1 ∧ N = 0 ∧ kk = 0) := by omega
    rcases hcp with hcp | ⟨hcp1, hcp2, hcp3⟩
    · rcases hfacts with ⟨dk, hk0, k1', t0n⟩ | ⟨dk, dk2⟩
      all_goals
        go_enter Tryz.func55, Tryz.ntmps55
        go_wp2
        (refine wp_region_quiet_lit (by kernel_rfl) (by kernel_rfl) ?_; (repeat (first | go_big_quiet_step (fail) | quiet_step (fail))); with_reducible refine wpQuiet_nil ?_; intro _ hw'; obtain ⟨nq, hw''⟩ := hw'; subst hw'')
        go_wp2
        go_loopw [5, 69] (fun _ i wr => ∃ j : Nat, j ≤ kk ∧ i = .int .i64 j ∧ wr.heap[b2]? = some (.cells #[.int .u64 (valU (t.take j))] 43 (0, 0)) ∧ Keeps [b2] w wr) (fun _ i _ => kk - (intOf i).toNat)
        case atStart => exact ⟨0, by omega, rfl, hh2.out, (Keeps.refl _ w).drewN _⟩
        case round =>
          obtain ⟨j, hj, rfl, hb2, hkw⟩ := hrel
          obtain ⟨eb, fb, lb⟩ := cell1_of hb2
          have q0 := (hkw.cell br 0 hlt (by simp; omega)).trans c0
          have q1 := (hkw.frozen br 0 hlt (by simp; omega)).trans f0
          have q2 := (hkw.cell b1 0 (lt_of_cell h1) (by simp; omega)).trans h1
          have hvl := valU_lt j (t.take j) (by rw [List.length_take]; have := hNt.out; omega)
          by_cases hlt3 : j < kk
          · have hjt : j < t.length := by have := hNt.out; omega
            have hcj := (hkw.cell g (o + 1 + j) hg (by simp; omega)).trans (kj.out j hjt)
            have hb8 : (t[j].toNat : Int) ≤ 255 := by have := t[j].toNat_lt; omega
            have hstep : Hid (valU (t.take (j + 1)) = valU (t.take j) * 256 + t[j].toNat) := by show _ = _; rw [List.take_succ_eq_append_getElem hjt, valU_snoc]
            have hvb : (valU (t.take j) : Int) < 72057594037927936 := by
              have : (256 : Nat) ^ j ≤ 256 ^ 7 := Nat.pow_le_pow_right (by omega) (by omega)
              omega
            clear hvl
            generalize t[j].toNat = y at *
            generalize hvv : valU (t.take j) = vv at *
            replace hb2 := Lib.hid hb2
            replace hkw := Lib.hid hkw
            replace hvv := Lib.hid hvv
            go_wp2
            go_roundw
            case rel => exact ⟨j + 1, by omega, by go_num, by rw [or_byte _ _ hvb hb8, hstep.out]; exact one_setCell hb2.out, hkw.out.setCell (.inr (by simp)) _⟩
            case measure => simp [intOf]; omega
          · have hjk : j = kk := by omega
            subst hjk
            replace hb2 := Lib.hid hb2
            replace hkw := Lib.hid hkw
            clear hvl
            go_wp2
            go_region
            have hfin := rd_tail w wr br b2 g o N cp k t j hh.out hkw.out hb2.out hh2.out hNt.out hN (by omega)
            rw [hx.out, hrest.out] at hfin
            generalize hW : (wr.setCell ⟨br, 0, none⟩ (.slice (if cp = 1 + j then some ⟨g, o, none⟩ else some ⟨g, o + (1 + j), none⟩) (N + 1 - (1 + j)) (cp - (1 + j)))).drew = W at *
            replace hfin := Lib.hid hfin
            clear hW
            (repeat go_step)
            go_ret
            exact ⟨rfl, hfin.out⟩
    · clear hfacts
      subst hcp1 hcp2 hcp3
      have k0' : w.cell? ⟨g, o, none⟩ = some (.int .u8 0) := by simpa using k0
      simp only [Nat.zero_add] at c0
      have c0' : w.cell? ⟨br, 0, none⟩ = some (.slice (some ⟨g, o, none⟩) 1 1) := c0
      clear hk h8 k0 d8 dN wk c0 nz hm hn hN hNN
      go_enter Tryz.func55, Tryz.ntmps55
      go_wp2
      (refine wp_region_quiet_lit (by kernel_rfl) (by kernel_rfl) ?_; (repeat (first | go_big_quiet_step (fail) | quiet_step (fail))); with_reducible refine wpQuiet_nil ?_; intro _ hw'; obtain ⟨nq, hw''⟩ := hw'; subst hw'')
      go_wp2
      go_loopw [5, 69] (fun _ i wr => i = .int .i64 0 ∧ ∃ n, wr = w.drewN n) (fun _ i _ => 0)
      case atStart => exact ⟨rfl, _, rfl⟩
      case round =>
        obtain ⟨rfl, n, rfl⟩ := hrel
        have hkw : Keeps [b2] w (w.drewN n) := (Keeps.refl _ w).drewN n
        have hfin := rd_tail w (w.drewN n) br b2 g o 0 1 k t 0 hh.out hkw (by simpa [valU] using hh2.out) hh2.out hNt.out (by omega) hne.2
        rw [hx.out, hrest.out] at hfin
        simp only [Nat.add_zero, if_true, Nat.zero_add, Nat.sub_self] at hfin
        clear hkw
        replace hfin := Lib.hid hfin
        go_wp2
        go_region
        (repeat go_step)
        go_ret
        exact ⟨rfl, hfin.out⟩
end Go.Proofs.YtblaaafpglomnaaGreat

namespace Go.Proofs.YtblaaafpglomnaaGreat
open Go.RowKit

theorem Rd.keeps {w w' : World} {br : Nat} {v : Value} {l : List UInt8} {e : Int} (h : Rd w br v l e) (hk : Keeps [] w w') : Rd w' br v l e :=
  ⟨(hk.block br (cell2_of h.1).2.2.2.2 (by simp)).trans h.1, h.2.keeps hk⟩

theorem two_boxes (w : World) (p : Value) : ((w.alloc (.cells #[p] 67)).alloc (.cells #[.int .u64 0] 43)).heap[w.heap.size + 1]? = some (.cells #[.int .u64 0] 43 (0, 0)) := by
  have := heap_alloc_new (w.alloc (.cells #[p] 67)) (.cells #[.int .u64 0] 43)
  simpa using this
theorem Keeps.back {S : List Nat} {a b c : World} (h : Keeps [] a b) (k : Keeps S b c) {T : List Nat} (hT : ∀ x ∈ S, x ∈ T ∨ a.heap.size ≤ x) : Keeps T a c :=
  (h.of_nil (T := T)).trans' k hT
theorem rd_set_ok {w : World} {br : Nat} {v : Value} {l : List UInt8} {e : Int} (h : Rd w br v l e) (e' : Int) : Rd (w.setCell ⟨br, 1, none⟩ (.int .i64 e')) br v l e' :=
  ⟨set2_1 h.1 _, h.2.kb (KB.setCell w _ (cell2_of h.1).2.1 (by simp))⟩
theorem rd_set_bad {w : World} {br : Nat} {v : Value} {l : List UInt8} {e : Int} (h : Rd w br v l e) (e' : Int) : Rd ((w.setCell ⟨br, 1, none⟩ (.int .i64 e')).setCell ⟨br, 0, none⟩ (.slice none 0 0)) br (.slice none 0 0) [] e' :=
  ⟨set2_0 (set2_1 h.1 _) _, SlB.nil _⟩
set_option maxRecDepth 100000 in
set_option maxHeartbeats 2000000 in
theorem uint_ok (w : World) (br : Nat) (v : Value) (l rest : List UInt8) (x : Nat) (h : Rd w br v l 0) (hr : readU l = some (x, rest)) :
    Calls Tryz.prog 27 #[.pointer (some ⟨br, 0, none⟩)] w fun en w' => en = .returned (.int .u64 x) ∧ (∃ v', Rd w' br v' rest 0) ∧ Keeps [br] w w' := by
  obtain ⟨c0, c1, f0, f1, hlt⟩ := cell2_of h.1
  have hne : ¬ w.heap.size = br := by omega
  have hne2 : ¬ w.heap.size + 1 = br := by omega
  obtain ⟨a0, cp0, rfl⟩ := h.2.form
  have hkA : Keeps [] w ((w.alloc (.cells #[.pointer (some ⟨br, 0, none⟩)] 67)).alloc (.cells #[.int .u64 0] 43)) := ((Keeps.refl [] w).alloc _).alloc _
  have hc := uint1_ok _ br w.heap.size (w.heap.size + 1) _ l rest x (h.keeps hkA) (by simp) (two_boxes w _) ⟨by omega, by omega⟩ hr
  replace h := Lib.hid h
  replace hkA := Lib.hid hkA
  replace hc := Lib.hid hc
  replace hr := Lib.hid hr
  clear c0
  go_enter Tryz.func27, Tryz.ntmps27
  go_wp2_with (first
    | (go_at_call 55; refine hc.out.mono ?_; rintro e w3 ⟨rfl, hb2, ⟨v3, hR3⟩, hk3⟩; obtain ⟨d0, d1, g0, g1, hlt3⟩ := cell2_of hR3.1; obtain ⟨e0, _, hlt4⟩ := cell1_of hb2; have hk4 := Lib.hid hk3; have hR4 := Lib.hid hR3; clear hk3 hR3 hb2)
    | go_in)
  go_ret
  exact ⟨rfl, ⟨v3, rd_set_ok hR4.out 0⟩, (hkA.out.of_nil.trans' hk4.out (by simp)).setCell (.inr (by simp)) _⟩

set_option maxRecDepth 100000 in
set_option maxHeartbeats 2000000 in
theorem uint_bad (w : World) (br : Nat) (v : Value) (l : List UInt8) (h : Rd w br v l 0) (hr : readU l = none) :
    Calls Tryz.prog 27 #[.pointer (some ⟨br, 0, none⟩)] w fun en w' => en = .returned (.int .u64 0) ∧ Rd w' br (.slice none 0 0) [] 11 ∧ Keeps [br] w w' := by
  obtain ⟨c0, c1, f0, f1, hlt⟩ := cell2_of h.1
  have hne : ¬ w.heap.size = br := by omega
  have hne2 : ¬ w.heap.size + 1 = br := by omega
  obtain ⟨a0, cp0, rfl⟩ := h.2.form
  have hkA : Keeps [] w ((w.alloc (.cells #[.pointer (some ⟨br, 0, none⟩)] 67)).alloc (.cells #[.int .u64 0] 43)) := ((Keeps.refl [] w).alloc _).alloc _
  have hc := uint1_bad _ br w.heap.size (w.heap.size + 1) _ l (h.keeps hkA) (by simp) hr
  have h2 := two_boxes w (.pointer (some ⟨br, 0, none⟩))
  replace h2 := Lib.hid h2
  replace h := Lib.hid h
  replace hkA := Lib.hid hkA
  replace hc := Lib.hid hc
  replace hr := Lib.hid hr
  clear c0
  go_enter Tryz.func27, Tryz.ntmps27
  go_wp2_with (first
    | (go_at_call 55; refine hc.out.mono ?_; rintro e w3 ⟨rfl, hk3⟩; have hR3 := (h.out.keeps hkA.out).keeps hk3; obtain ⟨d0, d1, g0, g1, hlt3⟩ := cell2_of hR3.1; have hk4 := Lib.hid hk3; have hR4 := Lib.hid hR3; have h22 := Lib.hid ((hk3.block _ (by simp) (by simp)).trans h2.out); obtain ⟨e0, _, hlt4⟩ := cell1_of h22.out; clear hk3 hR3)
    | go_in)
  go_ret
  exact ⟨rfl, rd_set_bad hR4.out 11, (((hkA.out.trans hk4.out).of_nil).setCell (.inr (by simp)) _).setCell (.inr (by simp)) _⟩

/-- Both in one: what a number's reading gives and leaves. -/
def rdU (l : List UInt8) : Nat × List UInt8 × Int := match readU l with | some (x, r) => (x, r, 0) | none => (0, [], 11)
theorem uint_c (w : World) (br : Nat) (v : Value) (l : List UInt8) (h : Rd w br v l 0) :
    Calls Tryz.prog 27 #[.pointer (some ⟨br, 0, none⟩)] w fun en w' => en = .returned (.int .u64 (rdU l).1) ∧ (∃ v', Rd w' br v' (rdU l).2.1 (rdU l).2.2) ∧ Keeps [br] w w' := by
  cases hr : readU l with
  | none =>
    have e : rdU l = (0, [], 11) := by simp [rdU, hr]
    rw [e]
    exact (uint_bad w br v l h hr).mono fun _ _ ⟨h1, h2, h3⟩ => ⟨h1, ⟨_, h2⟩, h3⟩
  | some p =>
    obtain ⟨x, r⟩ := p
    have e : rdU l = (x, r, 0) := by simp [rdU, hr]
    rw [e]
    exact uint_ok w br v l r x h hr
end Go.Proofs.YtblaaafpglomnaaGreat

namespace Go.Proofs.YtblaaafpglomnaaGreat
open Go.RowKit

/-- A reader's state: what is left, and the error. -/
abbrev RS := List UInt8 × Int
def rU (s : RS) : Nat × RS := if s.2 = 0 then (match readU s.1 with | some (x, r) => (x, (r, 0)) | none => (0, ([], 11))) else (0, s)
def readB : List UInt8 → Option (Bool × List UInt8)
  | [] => none
  | k :: t => if k.toNat ≤ 1 then some (k.toNat == 1, t) else none
def rB (s : RS) : Bool × RS := if s.2 = 0 then (match readB s.1 with | some (x, r) => (x, (r, 0)) | none => (false, ([], 11))) else (false, s)
/-- The reader in memory, in a state. -/
def RdS (w : World) (br : Nat) (s : RS) : Prop := ∃ v, Rd w br v s.1 s.2
theorem RdS.keeps {w w' : World} {br : Nat} {s : RS} (h : RdS w br s) (hk : Keeps [] w w') : RdS w' br s := by obtain ⟨v, h⟩ := h; exact ⟨v, h.keeps hk⟩
theorem RdS.lt {w : World} {br : Nat} {s : RS} (h : RdS w br s) : br < w.heap.size := by obtain ⟨v, h⟩ := h; exact (cell2_of h.1).2.2.2.2
set_option maxRecDepth 100000 in
set_option maxHeartbeats 2000000 in
theorem uint_err (w : World) (br : Nat) (v : Value) (l : List UInt8) (e : Int) (h : Rd w br v l e) (he : e ≠ 0) :
    Calls Tryz.prog 27 #[.pointer (some ⟨br, 0, none⟩)] w fun en w' => en = .returned (.int .u64 0) ∧ Keeps [] w w' := by
  obtain ⟨c0, c1, f0, f1, hlt⟩ := cell2_of h.1
  have hne : ¬ w.heap.size = br := by omega
  have hne2 : ¬ w.heap.size + 1 = br := by omega
  have he2 : (e == 0) = false := by simp [he]
  obtain ⟨a0, cp0, rfl⟩ := h.2.form
  have hkA : Keeps [] w ((w.alloc (.cells #[.pointer (some ⟨br, 0, none⟩)] 67)).alloc (.cells #[.int .u64 0] 43)) := ((Keeps.refl [] w).alloc _).alloc _
  clear h c0 he
  go_enter Tryz.func27, Tryz.ntmps27
  go_wp2_with (first | go_in)
  go_ret
  exact ⟨rfl, hkA⟩
theorem uintS_c (w : World) (br : Nat) (s : RS) (h : RdS w br s) :
    Calls Tryz.prog 27 #[.pointer (some ⟨br, 0, none⟩)] w fun en w' => en = .returned (.int .u64 (rU s).1) ∧ RdS w' br (rU s).2 ∧ Keeps [br] w w' := by
  obtain ⟨l, e⟩ := s
  obtain ⟨v, h⟩ := h
  by_cases he : e = 0
  · subst he
    refine (uint_c w br v l h).mono fun en w' ⟨h1, h2, h3⟩ => ?_
    have : rU (l, 0) = ((rdU l).1, ((rdU l).2.1, (rdU l).2.2)) := by
      cases hx : readU l with
      | none => simp [rU, rdU, hx]
      | some p => obtain ⟨x, r⟩ := p; simp [rU, rdU, hx]
    rw [this]
    exact ⟨h1, h2, h3⟩
  · refine (uint_err w br v l e h he).mono fun en w' ⟨h1, h2⟩ => ?_
    rw [show rU (l, e) = (0, (l, e)) by unfold rU; rw [if_neg he]]
    exact ⟨h1, ⟨v, h.keeps h2⟩, h2.of_nil⟩
theorem two_boxesB (w : World) (p : Value) : ((w.alloc (.cells #[p] 67)).alloc (.cells #[.bool false] 4)).heap[w.heap.size + 1]? = some (.cells #[.bool false] 4 (0, 0)) := by
  have := heap_alloc_new (w.alloc (.cells #[p] 67)) (.cells #[.bool false] 4)
  simpa using this
set_option maxRecDepth 100000 in
set_option maxHeartbeats 2000000 in
theorem bool1_bad (w : World) (br b1 b2 : Nat) (v : Value) (l : List UInt8) (h : Rd w br v l 0) (h1 : w.cell? ⟨b1, 0, none⟩ = some (.pointer (some ⟨br, 0, none⟩))) (hr : readB l = none) :
    Calls Tryz.prog 57 #[.pointer (some ⟨b1, 0, none⟩), .pointer (some ⟨b2, 0, none⟩)] w fun en w' => en = .returned (.int .i64 11) ∧ Keeps [] w w' := by
  obtain ⟨c0, c1, f0, f1, hlt⟩ := cell2_of h.1
  rcases h.2.cases with ⟨rfl, a, cp, rfl, _, _⟩ | ⟨g, o, cp, rfl, hn, hm, hp, hg, hc⟩
  · clear h hr
    go_enter Tryz.func57, Tryz.ntmps57
    go_wp2
    go_ret
    exact ⟨rfl, Keeps.refl _ _⟩
  · obtain ⟨k, t, rfl⟩ : ∃ k t, l = k :: t := by cases l with | nil => simp at hp | cons k t => exact ⟨k, t, rfl⟩
    have k0 := hc 0 (by simp)
    simp only [Nat.add_zero, List.getElem_cons_zero] at k0
    have hk1 : 1 < k.toNat := by
      rcases Nat.lt_or_ge 1 k.toNat with e | e
      · exact e
      · rw [readB, if_pos e] at hr; cases hr
    clear h hc hp hr
    have hk := k.toNat_lt
    simp only [List.length_cons] at *
    generalize k.toNat = kk at *
    generalize t.length = N at *
    have hNN : (N : Int) + 1 ≤ 9223372036854775807 := by unfold maxLen at hm; omega
    have nz : ((N : Int) + 1 == 0) = false := by simp; omega
    have d1 : (1 : Int) < (kk : Int) := by omega
    go_enter Tryz.func57, Tryz.ntmps57
    go_wp2
    go_ret
    exact ⟨rfl, Keeps.refl _ _⟩
set_option maxRecDepth 100000 in
set_option maxHeartbeats 2000000 in
theorem bool1_ok (w : World) (br b1 b2 : Nat) (v : Value) (l rest : List UInt8) (x : Bool) (h : Rd w br v l 0) (h1 : w.cell? ⟨b1, 0, none⟩ = some (.pointer (some ⟨br, 0, none⟩))) (h2 : w.heap[b2]? = some (.cells #[.bool false] 4 (0, 0)))
    (hne : b1 ≠ b2 ∧ br ≠ b2 ∧ b1 ≠ br) (hr : readB l = some (x, rest)) :
    Calls Tryz.prog 57 #[.pointer (some ⟨b1, 0, none⟩), .pointer (some ⟨b2, 0, none⟩)] w fun en w' => en = .returned (.int .i64 0) ∧ w'.heap[b2]? = some (.cells #[.bool x] 4 (0, 0)) ∧ (∃ v', Rd w' br v' rest 0) ∧ Keeps [br, b2] w w' := by
  obtain ⟨c0, c1, f0, f1, hlt⟩ := cell2_of h.1
  obtain ⟨e0, fe0, hlt2⟩ := cell1_of h2
  rcases h.2.cases with ⟨rfl, a, cp, rfl, _, _⟩ | ⟨g, o, cp, rfl, hn, hm, hp, hg, hc⟩
  · cases hr
  · obtain ⟨k, t, rfl⟩ : ∃ k t, l = k :: t := by cases l with | nil => simp at hp | cons k t => exact ⟨k, t, rfl⟩
    have k0 := hc 0 (by simp)
    simp only [Nat.add_zero, List.getElem_cons_zero] at k0
    have hgb : g ≠ b2 := fun e => by subst e; exact no_byte h2 (by simp) _ _ k0
    have hgr : g ≠ br := fun e => by subst e; exact no_byte h.1 (by simp) _ _ k0
    have hk1 : k.toNat ≤ 1 := by
      rcases Nat.lt_or_ge 1 k.toNat with e | e
      · rw [readB, if_neg (by omega)] at hr; cases hr
      · exact e
    rw [readB, if_pos hk1] at hr
    simp only [Option.some.injEq, Prod.mk.injEq] at hr
    obtain ⟨hx, rfl⟩ := hr
    have htl := SlB.tail h.2 1 (by simp)
    simp only [List.length_cons, List.drop_succ_cons, List.drop_zero, Nat.add_sub_cancel] at htl
    simp only [List.length_cons] at *
    have hh := Lib.hid h
    have hh2 := Lib.hid h2
    clear h h2 hc hp
    generalize hkk : k.toNat = kk at *
    obtain ⟨N, hNt⟩ : ∃ N, t.length = N := ⟨_, rfl⟩
    rw [hNt] at hn c0 htl
    have hhN : Hid (Rd w br (.slice (some ⟨g, o, none⟩) (N + 1) cp) (k :: t) 0) := by rw [← hNt]; exact hh
    clear hNt hh
    have hNN : (N : Int) + 1 ≤ 9223372036854775807 := by unfold maxLen at hm; omega
    have nz : ((N : Int) + 1 == 0) = false := by simp; omega
    have d1 : decide ((1 : Int) < (kk : Int)) = false := by simp; omega
    have h1N : (1 : Int) ≤ (N : Int) + 1 := by omega
    have hxx : ((kk : Int) == 1) = x := by rw [← hx, Bool.eq_iff_iff]; simp; omega
    obtain ⟨vt, hvt⟩ : ∃ vt, (if cp = 1 then some (⟨g, o, none⟩ : Addr) else some ⟨g, o + 1, none⟩) = vt := ⟨_, rfl⟩
    rw [hvt] at htl
    replace htl := Lib.hid htl
    replace hvt := Lib.hid hvt
    replace hkk := Lib.hid hkk
    clear hx
    go_enter Tryz.func57, Tryz.ntmps57
    go_wp2
    refine Free.wp_region_chain (fun i => i == 13 || i == 16) (fun i => true) (fun j b => (j = 13 ∧ b = b2) ∨ (j = 16 ∧ b = br)) (by kernel_rfl) (by kernel_rfl) (by kernel_rfl) ?_
    (repeat (first | (apply Free.cw_pure rfl rfl; (intro w'; go_simp <;> exact rfl); go_frame) | (apply Free.cw_steady rfl rfl rfl; (intro w' hS; have q0 := Free.sx_cell hS h1 (fun _ _ hT => Or.elim hT (fun h => hne.1 h.2) (fun h => hne.2.2 h.2)); have q1 := Free.sx_cell hS k0 (fun _ _ hT => Or.elim hT (fun h => hgb h.2) (fun h => hgr h.2)); have q2 := Free.sx_cell hS c0 (fun j hp hT => Or.elim hT (fun h => hne.2.1 h.2) (fun h => by obtain ⟨rfl, _⟩ := h; exact absurd hp (by decide +kernel))); go_simp <;> exact rfl); go_frame) | (refine Free.cw_skip rfl ?_; go_frame)))
    clear hxx d1 nz hk1
    rw [hvt.out]
    refine Free.cw_loud rfl rfl (fun K hK => ?_)
    go_wp2
    refine hK _ _ rfl (Free.KeepsP.setCell _ (.inl ⟨trivial, rfl⟩) _) ?_
    clear hK K
    (repeat (first | (apply Free.cw_pure rfl rfl; (intro w'; go_simp <;> exact rfl); go_frame) | (apply Free.cw_steady rfl rfl rfl; (intro w' hS; have q0 := Free.sx_cell hS h1 (fun _ _ hT => Or.elim hT (fun h => hne.1 h.2) (fun h => hne.2.2 h.2)); have q1 := Free.sx_cell hS k0 (fun _ _ hT => Or.elim hT (fun h => hgb h.2) (fun h => hgr h.2)); have q2 := Free.sx_cell hS c0 (fun j hp hT => Or.elim hT (fun h => hne.2.1 h.2) (fun h => by obtain ⟨rfl, _⟩ := h; exact absurd hp (by decide +kernel))); go_simp <;> exact rfl); go_frame) | (refine Free.cw_skip rfl ?_; go_frame)))
    refine Free.cw_loud rfl rfl (fun K hK => ?_)
    go_wp2
    refine hK _ _ rfl (Free.KeepsP.setCell _ (.inr ⟨trivial, rfl⟩) _) ?_
    clear hK K
    (repeat (first | (apply Free.cw_pure rfl rfl; (intro w'; go_simp <;> exact rfl); go_frame) | (apply Free.cw_steady rfl rfl rfl; (intro w' hS; have q0 := Free.sx_cell hS h1 (fun _ _ hT => Or.elim hT (fun h => hne.1 h.2) (fun h => hne.2.2 h.2)); go_simp <;> exact rfl); go_frame) | (refine Free.cw_skip rfl ?_; go_frame)))
    refine Free.cw_nil ?_
    go_wp2
    go_ret
    have hbr1 : (w.setCell ⟨b2, 0, none⟩ (.bool x)).heap[br]? = some (.cells #[.slice (some ⟨g, o, none⟩) (N + 1) cp, .int .i64 0] 104 (0, 0)) := (Below.heap_setCell _ _ _ _ (by simp; omega)).trans hhN.out.1
    have hb21 : (w.setCell ⟨b2, 0, none⟩ (.bool x)).heap[b2]? = some (.cells #[.bool x] 4 (0, 0)) := one_setCell hh2.out
    refine ⟨rfl, (Below.heap_setCell _ _ _ _ (by simp; omega)).trans hb21, ⟨_, set2_0 hbr1 _, htl.out.kb ((KB.setCell w _ e0 (by simp)).trans ((KB.setCell _ _ (cell2_of hbr1).1 (by simp)).trans (KB.drew _)))⟩, (((Keeps.refl _ w).setCell (.inr (by simp)) _).setCell (.inr (by simp)) _).drew⟩
set_option maxRecDepth 100000 in
set_option maxHeartbeats 2000000 in
theorem bool_ok (w : World) (br : Nat) (v : Value) (l rest : List UInt8) (x : Bool) (h : Rd w br v l 0) (hr : readB l = some (x, rest)) :
    Calls Tryz.prog 29 #[.pointer (some ⟨br, 0, none⟩)] w fun en w' => en = .returned (.bool x) ∧ (∃ v', Rd w' br v' rest 0) ∧ Keeps [br] w w' := by
  obtain ⟨c0, c1, f0, f1, hlt⟩ := cell2_of h.1
  have hne : ¬ w.heap.size = br := by omega
  have hne2 : ¬ w.heap.size + 1 = br := by omega
  obtain ⟨a0, cp0, rfl⟩ := h.2.form
  have hkA : Keeps [] w ((w.alloc (.cells #[.pointer (some ⟨br, 0, none⟩)] 67)).alloc (.cells #[.bool false] 4)) := ((Keeps.refl [] w).alloc _).alloc _
  have hc := bool1_ok _ br w.heap.size (w.heap.size + 1) _ l rest x (h.keeps hkA) (by simp) (two_boxesB w _) ⟨by omega, by omega, by omega⟩ hr
  replace h := Lib.hid h
  replace hkA := Lib.hid hkA
  replace hc := Lib.hid hc
  replace hr := Lib.hid hr
  clear c0
  go_enter Tryz.func29, Tryz.ntmps29
  go_wp2_with (first
    | (go_at_call 57; refine hc.out.mono ?_; rintro e w3 ⟨rfl, hb2, ⟨v3, hR3⟩, hk3⟩; obtain ⟨d0, d1, g0, g1, hlt3⟩ := cell2_of hR3.1; obtain ⟨e0, _, hlt4⟩ := cell1_of hb2; have hk4 := Lib.hid hk3; have hR4 := Lib.hid hR3; clear hk3 hR3 hb2)
    | go_in)
  go_ret
  exact ⟨rfl, ⟨v3, rd_set_ok hR4.out 0⟩, (hkA.out.of_nil.trans' hk4.out (by simp)).setCell (.inr (by simp)) _⟩
set_option maxRecDepth 100000 in
set_option maxHeartbeats 2000000 in
theorem bool_bad (w : World) (br : Nat) (v : Value) (l : List UInt8) (h : Rd w br v l 0) (hr : readB l = none) :
    Calls Tryz.prog 29 #[.pointer (some ⟨br, 0, none⟩)] w fun en w' => en = .returned (.bool false) ∧ Rd w' br (.slice none 0 0) [] 11 ∧ Keeps [br] w w' := by
  obtain ⟨c0, c1, f0, f1, hlt⟩ := cell2_of h.1
  have hne : ¬ w.heap.size = br := by omega
  have hne2 : ¬ w.heap.size + 1 = br := by omega
  obtain ⟨a0, cp0, rfl⟩ := h.2.form
  have hkA : Keeps [] w ((w.alloc (.cells #[.pointer (some ⟨br, 0, none⟩)] 67)).alloc (.cells #[.bool false] 4)) := ((Keeps.refl [] w).alloc _).alloc _
  have hc := bool1_bad _ br w.heap.size (w.heap.size + 1) _ l (h.keeps hkA) (by simp) hr
  have h2 := two_boxesB w (.pointer (some ⟨br, 0, none⟩))
  replace h2 := Lib.hid h2
  replace h := Lib.hid h
  replace hkA := Lib.hid hkA
  replace hc := Lib.hid hc
  replace hr := Lib.hid hr
  clear c0
  go_enter Tryz.func29, Tryz.ntmps29
  go_wp2_with (first
    | (go_at_call 57; refine hc.out.mono ?_; rintro e w3 ⟨rfl, hk3⟩; have hR3 := (h.out.keeps hkA.out).keeps hk3; obtain ⟨d0, d1, g0, g1, hlt3⟩ := cell2_of hR3.1; have hk4 := Lib.hid hk3; have hR4 := Lib.hid hR3; have h22 := Lib.hid ((hk3.block _ (by simp) (by simp)).trans h2.out); obtain ⟨e0, _, hlt4⟩ := cell1_of h22.out; clear hk3 hR3)
    | go_in)
  go_ret
  exact ⟨rfl, rd_set_bad hR4.out 11, (((hkA.out.trans hk4.out).of_nil).setCell (.inr (by simp)) _).setCell (.inr (by simp)) _⟩
set_option maxRecDepth 100000 in
set_option maxHeartbeats 2000000 in
theorem bool_err (w : World) (br : Nat) (v : Value) (l : List UInt8) (e : Int) (h : Rd w br v l e) (he : e ≠ 0) :
    Calls Tryz.prog 29 #[.pointer (some ⟨br, 0, none⟩)] w fun en w' => en = .returned (.bool false) ∧ Keeps [] w w' := by
  obtain ⟨c0, c1, f0, f1, hlt⟩ := cell2_of h.1
  have hne : ¬ w.heap.size = br := by omega
  have hne2 : ¬ w.heap.size + 1 = br := by omega
  have he2 : (e == 0) = false := by simp [he]
  obtain ⟨a0, cp0, rfl⟩ := h.2.form
  have hkA : Keeps [] w ((w.alloc (.cells #[.pointer (some ⟨br, 0, none⟩)] 67)).alloc (.cells #[.bool false] 4)) := ((Keeps.refl [] w).alloc _).alloc _
  clear h c0 he
  go_enter Tryz.func29, Tryz.ntmps29
  go_wp2_with (first | go_in)
  go_ret
  exact ⟨rfl, hkA⟩
theorem boolS_c (w : World) (br : Nat) (s : RS) (h : RdS w br s) :
    Calls Tryz.prog 29 #[.pointer (some ⟨br, 0, none⟩)] w fun en w' => en = .returned (.bool (rB s).1) ∧ RdS w' br (rB s).2 ∧ Keeps [br] w w' := by
  obtain ⟨l, e⟩ := s
  obtain ⟨v, h⟩ := h
  by_cases he : e = 0
  · subst he
    cases hr : readB l with
    | none =>
      rw [show rB (l, 0) = (false, ([], 11)) by unfold rB; rw [if_pos rfl]; simp only [hr]]
      exact (bool_bad w br v l h hr).mono fun _ _ ⟨h1, h2, h3⟩ => ⟨h1, ⟨_, h2⟩, h3⟩
    | some p =>
      obtain ⟨x, r⟩ := p
      rw [show rB (l, 0) = (x, (r, 0)) by unfold rB; rw [if_pos rfl]; simp only [hr]]
      exact bool_ok w br v l r x h hr
  · refine (bool_err w br v l e h he).mono fun en w' ⟨h1, h2⟩ => ?_
    rw [show rB (l, e) = (false, (l, e)) by unfold rB; rw [if_neg he]]
    exact ⟨h1, ⟨v, h.keeps h2⟩, h2.of_nil⟩
end Go.Proofs.YtblaaafpglomnaaGreat

namespace Go.Proofs.YtblaaafpglomnaaGreat
open Go.RowKit

def cEK (K n : Nat) (l : List UInt8) : Int := if K < n then 8 else if l.length < n then 11 else 0
def rCK (K : Nat) (l : List UInt8) : Nat × RS := match readU l with | some (n, r) => if cEK K n r = 0 then (n, (r, 0)) else (0, ([], cEK K n r)) | none => (0, ([], 11))
theorem rCK_le (K : Nat) (l : List UInt8) : (rCK K l).1 ≤ K := by
  unfold rCK
  split
  · rename_i n r _
    split
    · rename_i h
      unfold cEK at h
      split at h
      · cases h
      · show n ≤ K
        omega
    · simp
  · simp
set_option maxRecDepth 100000 in
set_option maxHeartbeats 2000000 in
theorem countG1_c (K : Nat) (hK : K ≤ 1099511627776) (w : World) (br b1 b2 b3 : Nat) (v : Value) (l : List UInt8) (n : Nat) (h : Rd w br v l 0) (h1 : w.cell? ⟨b1, 0, none⟩ = some (.int .i64 (K : Nat))) (h2 : w.cell? ⟨b2, 0, none⟩ = some (.int .u64 n)) (h3 : w.cell? ⟨b3, 0, none⟩ = some (.pointer (some ⟨br, 0, none⟩))) :
    Calls Tryz.prog 54 #[.pointer (some ⟨b1, 0, none⟩), .pointer (some ⟨b2, 0, none⟩), .pointer (some ⟨b3, 0, none⟩)] w fun en w' => en = .returned (.int .i64 (cEK K n l)) ∧ Keeps [] w w' := by
  obtain ⟨c0, c1, f0, f1, hlt⟩ := cell2_of h.1
  obtain ⟨a0, cp0, rfl⟩ := h.2.form
  have hmx := h.2.cap
  clear h
  obtain ⟨N, hN⟩ : ∃ N, l.length = N := ⟨_, rfl⟩
  rw [hN] at c0 hmx
  have hNN : (N : Int) ≤ 9223372036854775807 := by unfold maxLen at hmx; omega
  replace hN := Lib.hid hN
  have hKw : IntKind.u64.wrap (K : Int) = K := by rw [IntKind.wrap_u64]; omega
  have hK0 : decide ((K : Int) < 0) = false := by simp
  have hwr : IntKind.u64.wrap (N : Int) = N := by rw [IntKind.wrap_u64]; omega
  by_cases hbig : K < n
  · have hd : (K : Int) < (n : Int) := by omega
    go_enter Tryz.func54, Tryz.ntmps54
    go_wp2
    go_ret
    exact ⟨by unfold cEK; rw [if_pos hbig]; rfl, Keeps.refl _ _⟩
  · have hd : decide ((K : Int) < (n : Int)) = false := by simp; omega
    by_cases hb2 : N < n
    · have hd2 : (N : Int) < (n : Int) := by omega
      go_enter Tryz.func54, Tryz.ntmps54
      go_wp2
      (refine wp_region_quiet_lit (by kernel_rfl) (by kernel_rfl) ?_; (repeat (first | go_big_quiet_step (fail) | quiet_step (fail))); with_reducible refine wpQuiet_nil ?_; intro _ hw'; obtain ⟨nq, hw''⟩ := hw'; subst hw'')
      go_wp2
      go_ret
      exact ⟨by unfold cEK; rw [if_neg hbig, hN.out, if_pos hb2]; rfl, (Keeps.refl _ _).drewN _⟩
    · have hd2 : decide ((N : Int) < (n : Int)) = false := by simp; omega
      go_enter Tryz.func54, Tryz.ntmps54
      go_wp2
      (refine wp_region_quiet_lit (by kernel_rfl) (by kernel_rfl) ?_; (repeat (first | go_big_quiet_step (fail) | quiet_step (fail))); with_reducible refine wpQuiet_nil ?_; intro _ hw'; obtain ⟨nq, hw''⟩ := hw'; subst hw'')
      go_wp2
      go_ret
      exact ⟨by unfold cEK; rw [if_neg hbig, hN.out, if_neg hb2]; rfl, (Keeps.refl _ _).drewN _⟩
set_option maxRecDepth 100000 in
set_option maxHeartbeats 2000000 in
theorem countG_bad (K : Nat) (hK : K ≤ 1099511627776) (w : World) (br : Nat) (v : Value) (l : List UInt8) (h : Rd w br v l 0) (hr : readU l = none) :
    Calls Tryz.prog 26 #[.pointer (some ⟨br, 0, none⟩), .int .i64 (K : Nat)] w fun en w' => en = .returned (.int .i64 0) ∧ Rd w' br (.slice none 0 0) [] 11 ∧ Keeps [br] w w' := by
  have hlt := (cell2_of h.1).2.2.2.2
  have hne : ¬ w.heap.size = br := by omega
  have hne2 : ¬ w.heap.size + 1 = br := by omega
  have hkA : Keeps [] w ((w.alloc (.cells #[.pointer (some ⟨br, 0, none⟩)] 67)).alloc (.cells #[.int .i64 (K : Nat)] 3)) := ((Keeps.refl [] w).alloc _).alloc _
  have hx1 := heap_alloc_new w (.cells #[.pointer (some ⟨br, 0, none⟩)] 67)
  have hx2 := (((Keeps.refl [] (w.alloc (.cells #[.pointer (some ⟨br, 0, none⟩)] 67))).alloc (.cells #[.int .i64 (K : Nat)] 3)).block _ (lt_of_block hx1) (by simp)).trans hx1
  have hRA := h.keeps hkA
  replace hRA := Lib.hid hRA
  replace hkA := Lib.hid hkA
  replace hr := Lib.hid hr
  clear h hx1
  go_enter Tryz.func26, Tryz.ntmps26
  go_wp2_with fail
  refine (uint_bad _ br v l hRA.out hr.out).mono ?_
  rintro e w1 ⟨rfl, hR1, hk1⟩
  have hx3 := (hk1.block _ (lt_of_block hx2) (by simpa using hne)).trans hx2
  obtain ⟨z0, zf, zlt⟩ := cell1_of hx3
  have hk01 := Lib.hid (hkA.out.of_nil.trans hk1)
  obtain ⟨c0, c1, f0, f1, hlt1⟩ := cell2_of hR1.1
  have hkB : Keeps [] w1 (w1.alloc (.cells #[.int .u64 0] 43)) := (Keeps.refl [] w1).alloc _
  have hne3 : ¬ w1.heap.size = br := by omega
  have hne4 : ¬ w1.heap.size = w.heap.size := by omega
  replace hR1 := Lib.hid hR1
  replace hkB := Lib.hid hkB
  clear hk1 hx2 hx3
  go_wp2_with (first | go_in)
  go_ret
  exact ⟨rfl, hR1.out.keeps hkB.out, hk01.out.trans hkB.out.of_nil⟩
set_option maxRecDepth 100000 in
set_option maxHeartbeats 4000000 in
theorem countG_ok (K : Nat) (hK : K ≤ 1099511627776) (w : World) (br : Nat) (v : Value) (l r : List UInt8) (n : Nat) (h : Rd w br v l 0) (hr : readU l = some (n, r)) (hn : n < 18446744073709551616) :
    Calls Tryz.prog 26 #[.pointer (some ⟨br, 0, none⟩), .int .i64 (K : Nat)] w fun en w' => en = .returned (.int .i64 (rCK K l).1) ∧ RdS w' br (rCK K l).2 ∧ Keeps [br] w w' := by
  have hrc : rCK K l = if cEK K n r = 0 then (n, (r, 0)) else (0, ([], cEK K n r)) := by unfold rCK; simp only [hr]
  have hlt := (cell2_of h.1).2.2.2.2
  have hne : ¬ w.heap.size = br := by omega
  have hne2 : ¬ w.heap.size + 1 = br := by omega
  have hkA : Keeps [] w ((w.alloc (.cells #[.pointer (some ⟨br, 0, none⟩)] 67)).alloc (.cells #[.int .i64 (K : Nat)] 3)) := ((Keeps.refl [] w).alloc _).alloc _
  have hx1 := heap_alloc_new w (.cells #[.pointer (some ⟨br, 0, none⟩)] 67)
  have hx2 := (((Keeps.refl [] (w.alloc (.cells #[.pointer (some ⟨br, 0, none⟩)] 67))).alloc (.cells #[.int .i64 (K : Nat)] 3)).block _ (lt_of_block hx1) (by simp)).trans hx1
  have hm2 := heap_alloc_new (w.alloc (.cells #[.pointer (some ⟨br, 0, none⟩)] 67)) (.cells #[.int .i64 (K : Nat)] 3)
  rw [show (w.alloc (.cells #[.pointer (some ⟨br, 0, none⟩)] 67)).heap.size = w.heap.size + 1 by simp] at hm2
  have hRA := h.keeps hkA
  replace hRA := Lib.hid hRA
  replace hkA := Lib.hid hkA
  replace hr := Lib.hid hr
  replace hrc := Lib.hid hrc
  clear h hx1
  go_enter Tryz.func26, Tryz.ntmps26
  go_wp2_with fail
  refine (uint_ok _ br v l r n hRA.out hr.out).mono ?_
  rintro e w1 ⟨rfl, ⟨v1, hR1⟩, hk1⟩
  have hx3 := (hk1.block _ (lt_of_block hx2) (by simpa using hne)).trans hx2
  have hm3 := (hk1.block _ (lt_of_block hm2) (by simpa using hne2)).trans hm2
  have hkB : Keeps [] w1 (w1.alloc (.cells #[.int .u64 n] 43)) := (Keeps.refl [] w1).alloc _
  have hx4 := (hkB.block _ (lt_of_block hx3) (by simp)).trans hx3
  have hm4 := (hkB.block _ (lt_of_block hm3) (by simp)).trans hm3
  have hn4 := heap_alloc_new w1 (.cells #[.int .u64 n] 43)
  have hR2 := hR1.keeps hkB
  have hk02 := hkA.out.of_nil.trans (hk1.trans hkB.of_nil)
  obtain ⟨z0, zf, zlt⟩ := cell1_of hx3
  obtain ⟨q0, qf, qlt⟩ := cell1_of hn4
  obtain ⟨c0, c1, f0, f1, hlt1⟩ := cell2_of hR1.1
  have hne3 : ¬ w1.heap.size = br := by omega
  have hne4 : ¬ w1.heap.size = w.heap.size := by omega
  have hc := countG1_c K hK _ br (w.heap.size + 1) w1.heap.size w.heap.size v1 r n hR2 (cell1_of hm4).1 q0 (cell1_of hx4).1
  obtain ⟨E, hE⟩ : ∃ E, cEK K n r = E := ⟨_, rfl⟩
  obtain ⟨a1, cp1, rfl⟩ := hR1.2.form
  rw [hE] at hc
  by_cases hE0 : E = 0
  · subst hE0
    have hn63 : (n : Int) ≤ K := by
      unfold cEK at hE
      split at hE
      · cases hE
      · omega
    replace hE := Lib.hid hE
    replace hR1 := Lib.hid hR1
    replace hR2 := Lib.hid hR2
    replace hkB := Lib.hid hkB
    replace hk02 := Lib.hid hk02
    replace hc := Lib.hid hc
    replace hn4 := Lib.hid hn4
    clear hk1 hx2 hx3 hx4 hm2 hm3 hm4 c0 q0 qf qlt
    go_wp2_with (first
      | (go_at_call 54; refine hc.out.mono ?_; rintro e w3 ⟨rfl, hk3⟩; have hR3 := hR2.out.keeps hk3; obtain ⟨d0, d1, g0, g1, hlt3⟩ := cell2_of hR3.1; have hk4 := Lib.hid hk3; have hR4 := Lib.hid hR3; have hn5 := Lib.hid ((hk3.block _ (lt_of_block hn4.out) (by simp)).trans hn4.out); obtain ⟨e0, _, hlt4⟩ := cell1_of hn5.out; clear hk3 hR3)
      | go_in)
    go_ret
    rw [hrc.out, if_pos hE.out]
    exact ⟨rfl, ⟨_, rd_set_ok hR4.out 0⟩, (hk02.out.trans hk4.out.of_nil).setCell (.inr (by simp)) _⟩
  · have hEb : (E == 0) = false := by simp [hE0]
    replace hE0 := Lib.hid hE0
    replace hE := Lib.hid hE
    replace hR1 := Lib.hid hR1
    replace hR2 := Lib.hid hR2
    replace hkB := Lib.hid hkB
    replace hk02 := Lib.hid hk02
    replace hc := Lib.hid hc
    replace hn4 := Lib.hid hn4
    clear hk1 hx2 hx3 hx4 hm2 hm3 hm4 c0 q0 qf qlt
    go_wp2_with (first
      | (go_at_call 54; refine hc.out.mono ?_; rintro e w3 ⟨rfl, hk3⟩; have hR3 := hR2.out.keeps hk3; obtain ⟨d0, d1, g0, g1, hlt3⟩ := cell2_of hR3.1; have hk4 := Lib.hid hk3; have hR4 := Lib.hid hR3; have hn5 := Lib.hid ((hk3.block _ (lt_of_block hn4.out) (by simp)).trans hn4.out); obtain ⟨e0, _, hlt4⟩ := cell1_of hn5.out; clear hk3 hR3)
      | go_in)
    go_ret
    rw [hrc.out, if_neg (by rw [hE.out]; exact hE0.out)]
    refine ⟨rfl, ⟨.slice none 0 0, ?_⟩, ((hk02.out.trans hk4.out.of_nil).setCell (.inr (by simp)) _).setCell (.inr (by simp)) _⟩
    rw [hE.out]
    exact rd_set_bad hR4.out E
theorem readU_lt {l r : List UInt8} {n : Nat} (h : readU l = some (n, r)) : n < 18446744073709551616 := by
  cases l with
  | nil => cases h
  | cons k t =>
    rcases Classical.em (k.toNat ≤ 8 ∧ k.toNat ≤ t.length ∧ (0 < k.toNat → t.headD 1 ≠ 0)) with hc | hc
    · rw [readU, if_pos hc] at h
      simp only [Option.some.injEq, Prod.mk.injEq] at h
      rw [← h.1]
      have := valU_lt k.toNat (t.take k.toNat) (by rw [List.length_take]; omega)
      have h2 : (256 : Nat) ^ k.toNat ≤ 256 ^ 8 := Nat.pow_le_pow_right (by omega) hc.1
      omega
    · rw [readU, if_neg hc] at h; cases h
theorem countG_c (K : Nat) (hK : K ≤ 1099511627776) (w : World) (br : Nat) (l : List UInt8) (h : RdS w br (l, 0)) :
    Calls Tryz.prog 26 #[.pointer (some ⟨br, 0, none⟩), .int .i64 (K : Nat)] w fun en w' => en = .returned (.int .i64 (rCK K l).1) ∧ RdS w' br (rCK K l).2 ∧ Keeps [br] w w' := by
  obtain ⟨v, h⟩ := h
  cases hr : readU l with
  | none =>
    rw [show rCK K l = (0, ([], 11)) by unfold rCK; simp only [hr]]
    exact (countG_bad K hK w br v l h hr).mono fun _ _ ⟨h1, h2, h3⟩ => ⟨h1, ⟨_, h2⟩, h3⟩
  | some p =>
    obtain ⟨n, r⟩ := p
    exact countG_ok K hK w br v l r n h hr (readU_lt hr)
theorem doneS_c (w : World) (br : Nat) (s : RS) (h : RdS w br s) :
    Calls Tryz.prog 33 #[.pointer (some ⟨br, 0, none⟩)] w fun en w' => en = .returned (.int .i64 (doneE s.1 s.2)) ∧ w = w' := by
  obtain ⟨v, h⟩ := h
  exact done_c w br v s.1 s.2 h
end Go.Proofs.YtblaaafpglomnaaGreat

namespace Go.Proofs.YtblaaafpglomnaaGreat
open Go.RowKit

def encB (b : Bool) : List UInt8 := [if b then 1 else 0]
set_option maxRecDepth 100000 in
set_option maxHeartbeats 1000000 in
theorem appB_c (w : World) (base : Nat) (v0 : Value) (l : List UInt8) (b : Bool) (h : Buf w base v0 l) (hl : l.length ≤ 140737488355000) (hb : base ≤ w.heap.size) :
    Calls Tryz.prog 43 #[v0, .bool b] w fun e w' => ∃ v', e = .returned v' ∧ Buf w' base v' (l ++ encB b) ∧ Grw w w' v0 v' := by
  obtain ⟨a0, c0, rfl⟩ := h.form
  replace h := Lib.hid h
  cases b
  · go_enter Tryz.func43, Tryz.ntmps43
    go_wp2_with (at_builtin; (refine wpl_pushB _ base _ l _ rfl _ _ rfl rfl rfl h.out (0 : UInt8) (by rfl) (by omega) hb ?_; intro v1 w1 hB1 hG1))
    go_ret
    exact ⟨_, rfl, hB1, hG1⟩
  · go_enter Tryz.func43, Tryz.ntmps43
    go_wp2_with (at_builtin; (refine wpl_pushB _ base _ l _ rfl _ _ rfl rfl rfl h.out (1 : UInt8) (by rfl) (by omega) hb ?_; intro v1 w1 hB1 hG1))
    go_ret
    exact ⟨_, rfl, hB1, hG1⟩
theorem Grw.ne {w w' : World} {v v' : Value} (g : Grw w w' v v') {X : Nat} (hv : v.ownBlock ≠ some X) (hX : X < w.heap.size) : v'.ownBlock ≠ some X := by
  rcases g.own with e | ⟨k, e, hk⟩
  · rw [e]; exact hv
  · rw [e]; intro h; cases h; omega
/-- What the growth of a buffer leaves, draws and other makings between. -/
structure GK (a w : World) (v v' : Value) : Prop where
  keeps : Keeps v.ownBlock.toList a w
  own : v'.ownBlock = v.ownBlock ∨ ∃ k, v'.ownBlock = some k ∧ a.heap.size ≤ k
theorem GK.refl (a : World) (v : Value) : GK a a v v := ⟨Keeps.refl _ _, .inl rfl⟩
theorem GK.then {a w w' : World} {v v' : Value} (h : GK a w v v') (k : Keeps [] w w') : GK a w' v v' := ⟨h.keeps.trans k.of_nil, h.own⟩
theorem GK.grw {a w w' : World} {v v' x : Value} (h : GK a w v v') (k : Grw w w' v' x) : GK a w' v x := by
  refine ⟨h.keeps.fresh k.keepsO (fun b hb => ?_), ?_⟩
  · rcases h.own with e | ⟨j, e, hj⟩
    · rw [e] at hb; exact .inl hb
    · rw [e] at hb; simp at hb; subst hb; exact .inr hj
  · rcases k.own with e | ⟨j, e, hj⟩
    · rw [e]; exact h.own
    · exact .inr ⟨j, e, Nat.le_trans h.keeps.size hj⟩
theorem GK.nil {w0 a w : World} {v v' : Value} (h : GK a w v v') (hk : Keeps [] w0 a) (hv : ∀ b, v.ownBlock = some b → w0.heap.size ≤ b) : Keeps [] w0 w :=
  hk.fresh h.keeps (fun b hb => .inr (hv b (by simpa using hb)))
theorem Grw.keepsP {w w' : World} {v v' : Value} (g : Grw w w' v v') {X : Nat} (hv : v.ownBlock ≠ some X) : Free.KeepsP (fun b => b ≠ X) w w' :=
  Free.KeepsP.grown g.grown (fun k e h => hv (by rw [e, h]))
end Go.Proofs.YtblaaafpglomnaaGreat

namespace Go.Proofs.YtblaaafpglomnaaGreat
open Go Go.RowKit

theorem appU_i (w : World) (base : Nat) (v0 : Value) (l : List UInt8) (n : Int) (h0 : 0 ≤ n) (hn : n < 18446744073709551616) (h : Buf w base v0 l) (hl : l.length ≤ 140737488355000) (hb : base ≤ w.heap.size) :
    Calls Tryz.prog 41 #[v0, .int .u64 n] w fun e w' => ∃ v', e = .returned v' ∧ Buf w' base v' (l ++ encU n.toNat) ∧ Grw w w' v0 v' := by
  have h1 := appU_c w base v0 l n.toNat h (by omega) hl hb
  rw [show ((n.toNat : Nat) : Int) = n by omega] at h1
  exact h1
set_option maxRecDepth 100000 in
set_option maxHeartbeats 2000000 in
theorem appID_c (w : World) (base : Nat) (v0 : Value) (l : List UInt8) (m s : Int) (hm : 0 ≤ m ∧ m < 9223372036854775808) (hs : 0 ≤ s ∧ s < 9223372036854775808) (h : Buf w base v0 l) (hl : l.length ≤ 140737488354000) (hb : base ≤ w.heap.size) :
    Calls Tryz.prog 42 #[v0, idV m s] w fun e w' => ∃ v', e = .returned v' ∧ Buf w' base v' (l ++ encU m.toNat ++ encU s.toNat) ∧ GK w w' v0 v' := by
  obtain ⟨a0, c0, rfl⟩ := h.form
  have hkA : Keeps [] w (w.alloc (.cells #[.int .i64 m, .int .i64 s] tID)) := (Keeps.refl _ _).alloc _
  have hbA := heap_alloc_new w (.cells #[.int .i64 m, .int .i64 s] tID)
  have hwm : IntKind.u64.wrap m = m := by rw [IntKind.wrap_u64]; omega
  have hws : IntKind.u64.wrap s = s := by rw [IntKind.wrap_u64]; omega
  have hge := ownBlock_ge h
  have hbA2 := h.keep hkA
  obtain ⟨q0, q1, _⟩ := cells2 hbA
  have hne : (Value.slice a0 l.length c0).ownBlock ≠ some w.heap.size := fun e => by have := (World.ownsRow.lt h _ e).2; omega
  replace hbA2 := Lib.hid hbA2
  replace hkA := Lib.hid hkA
  obtain ⟨N, hN⟩ : ∃ N, l.length = N := ⟨_, rfl⟩
  rw [hN] at hbA2 hne hl ⊢
  replace hN := Lib.hid hN
  clear h hbA hge
  simp only [idV]
  go_enter Tryz.func42, Tryz.ntmps42
  go_wp2
  have hzA : (w.alloc (.cells #[.int .i64 m, .int .i64 s] tID)).heap.size = w.heap.size + 1 := by simp
  generalize hWA : w.alloc (.cells #[.int .i64 m, .int .i64 s] tID) = WA at *
  refine Free.wp_region_chain (fun i => i == 4 || i == 8) (fun i => true) (fun j b => (Value.slice a0 N c0).ownBlock = some b ∨ (j = 8 ∧ WA.heap.size ≤ b)) (by kernel_rfl) (by kernel_rfl) (by kernel_rfl) ?_
  (repeat (first | (apply Free.cw_pure rfl rfl; (intro w'; go_simp <;> exact rfl); go_frame) | (apply Free.cw_steady rfl rfl rfl; (intro w' hS; have q0 := Free.sx_cell hS q0 (fun _ _ hT => Or.elim hT (fun h => hne h) (fun h => by have := h.2; omega)); have q1 := Free.sx_cell hS q1 (fun _ _ hT => Or.elim hT (fun h => hne h) (fun h => by have := h.2; omega)); go_simp <;> exact rfl); go_frame) | (refine Free.cw_skip rfl ?_; go_frame)))
  refine Free.cw_loud rfl rfl (fun K hK => ?_)
  go_wp2_with fail
  refine (appU_i WA.drew base _ l m hm.1 (by omega) (hbA2.out.keep ((Keeps.refl [] WA).drew)) (by rw [hN.out]; omega) (by simp; omega)).mono ?_
  rintro e w1 ⟨v1, rfl, hB1, hG1⟩
  have hg1 := ((GK.refl w (Value.slice a0 N c0)).then (hkA.out.drew)).grw hG1
  have hx1 := hG1.own
  obtain ⟨a1, c1, rfl⟩ := hB1.form
  refine hK _ _ rfl (Free.KeepsP.of hG1.keepsO (fun b hb => .inl (by simpa using hb))) ?_
  clear hK K
  obtain ⟨N1, hN1⟩ : ∃ N, (l ++ encU m.toNat).length = N := ⟨_, rfl⟩
  have hl1 : N1 ≤ N + 9 := by rw [← hN1, List.length_append, hN.out]; have := encU_len (n := m.toNat) (by omega); omega
  rw [hN1] at hB1 hg1 hG1 hx1 ⊢
  replace hN1 := Lib.hid hN1
  have hw1 : WA.heap.size ≤ w1.heap.size := by have := hG1.grown.size; simpa using this
  (repeat (first | (apply Free.cw_pure rfl rfl; (intro w'; go_simp <;> exact rfl); go_frame) | (apply Free.cw_steady rfl rfl rfl; (intro w' hS; have q0 := Free.sx_cell hS q0 (fun _ _ hT => Or.elim hT (fun h => hne h) (fun h => by have := h.2; omega)); have q1 := Free.sx_cell hS q1 (fun _ _ hT => Or.elim hT (fun h => hne h) (fun h => by have := h.2; omega)); go_simp <;> exact rfl); go_frame) | (refine Free.cw_skip rfl ?_; go_frame)))
  refine Free.cw_loud rfl rfl (fun K hK => ?_)
  go_wp2_with fail
  refine (appU_i w1 base _ (l ++ encU m.toNat) s hs.1 (by omega) hB1 (by rw [hN1.out]; omega) (by omega)).mono ?_
  rintro e w2 ⟨v2, rfl, hB2, hG2⟩
  have hg2 := hg1.grw hG2
  refine hK _ _ rfl (Free.KeepsP.of hG2.keepsO (fun b hb => ?_)) ?_
  · rcases hx1 with e | ⟨k, e, hk⟩
    · exact .inl (by rw [e] at hb; simpa using hb)
    · exact .inr ⟨trivial, by rw [e] at hb; simp at hb; subst hb; simpa using hk⟩
  clear hK K
  (repeat (apply Free.cw_pure rfl rfl; (intro w'; go_simp <;> exact rfl); go_frame))
  refine Free.cw_nil ?_
  go_wp2
  go_ret
  exact ⟨_, rfl, hB2, hg2⟩
/-- An identity is read. -/
def okID (m s : Nat) : Bool := decide ((m = 0 ∧ s = 0) ∨ (1 ≤ m ∧ m ≤ 8 ∧ 1 ≤ s ∧ s ≤ 1099511627775))
def rI (s : RS) : (Nat × Nat) × RS :=
  if (rU (rU s).2).2.2 = 0 then (if okID (rU s).1 (rU (rU s).2).1 = true then (((rU s).1, (rU (rU s).2).1), (rU (rU s).2).2) else ((0, 0), ([], 11))) else ((0, 0), (rU (rU s).2).2)
set_option maxRecDepth 100000 in
set_option maxHeartbeats 4000000 in
theorem id1_c (w : World) (b1 b2 n m : Nat) (h1 : w.cell? ⟨b1, 0, none⟩ = some (.int .u64 n)) (h2 : w.cell? ⟨b2, 0, none⟩ = some (.int .u64 m)) :
    Calls Tryz.prog 56 #[.pointer (some ⟨b1, 0, none⟩), .pointer (some ⟨b2, 0, none⟩)] w fun e w' => e = .returned (.int .i64 (if okID n m = true then 0 else 11)) ∧ w = w' := by
  obtain ⟨r, hr⟩ : ∃ r, (if okID n m = true then (0 : Int) else 11) = r := ⟨_, rfl⟩
  rw [hr]
  unfold okID at hr
  by_cases hn0 : n = 0
  · subst hn0
    have hd1 : decide ((1 : Int) ≤ ((0 : Nat) : Int)) = false := by simp
    by_cases hm0 : m = 0
    · subst hm0
      have e : r = 0 := by rw [← hr, if_pos (by simp)]
      subst e
      clear hr
      go_enter Tryz.func56, Tryz.ntmps56
      go_wp2
      go_ret
      exact ⟨rfl, rfl⟩
    · have hmz : ((m : Int) == 0) = false := by simp; omega
      have e : r = 11 := by rw [← hr, if_neg (by simp; omega)]
      subst e
      clear hr
      go_enter Tryz.func56, Tryz.ntmps56
      go_wp2
      go_ret
      exact ⟨rfl, rfl⟩
  · have hnz : ((n : Int) == 0) = false := by simp; omega
    have hn1 : (1 : Int) ≤ n := by omega
    by_cases hn8 : n ≤ 8
    case neg =>
      have e : r = 11 := by rw [← hr, if_neg (by simp; omega)]
      subst e
      clear hr
      have hd1 : decide ((n : Int) ≤ 8) = false := by simp; omega
      go_enter Tryz.func56, Tryz.ntmps56
      go_wp2
      go_ret
      exact ⟨rfl, rfl⟩
    have hd8 : (n : Int) ≤ 8 := by omega
    by_cases hm1 : 1 ≤ m
    case neg =>
      have e : r = 11 := by rw [← hr, if_neg (by simp; omega)]
      subst e
      clear hr
      have hd1 : decide ((1 : Int) ≤ (m : Int)) = false := by simp; omega
      go_enter Tryz.func56, Tryz.ntmps56
      go_wp2
      go_ret
      exact ⟨rfl, rfl⟩
    have hdm : (1 : Int) ≤ m := by omega
    by_cases hm2 : m ≤ 1099511627775
    case neg =>
      have e : r = 11 := by rw [← hr, if_neg (by simp; omega)]
      subst e
      clear hr
      have hd1 : decide ((m : Int) ≤ 1099511627775) = false := by simp; omega
      go_enter Tryz.func56, Tryz.ntmps56
      go_wp2
      go_ret
      exact ⟨rfl, rfl⟩
    have hdm2 : (m : Int) ≤ 1099511627775 := by omega
    have e : r = 0 := by rw [← hr, if_pos (by simp; omega)]
    subst e
    clear hr
    go_enter Tryz.func56, Tryz.ntmps56
    go_wp2
    go_ret
    exact ⟨rfl, rfl⟩
theorem st2 {w : World} {X : Nat} {t : TypeId} {x0 x1 u0 u1 : Value} (h2 : w.heap[X]? = some (.cells #[u0, u1] t (0, 0))) : ((w.setCell ⟨X, 0, none⟩ x0).setCell ⟨X, 1, none⟩ x1).heap[X]? = some (.cells #[x0, x1] t (0, 0)) ∧ Keeps [X] w ((w.setCell ⟨X, 0, none⟩ x0).setCell ⟨X, 1, none⟩ x1) :=
  ⟨by have := setCs (setCs h2 0 x0) 1 x1; simpa using this, (((Keeps.refl _ w).setCell (.inr (by simp)) _).setCell (.inr (by simp)) _)⟩
theorem Rd.setX {w : World} {br X : Nat} {v : Value} {l : List UInt8} {e a b : Int} {t : TypeId} (h : Rd w br v l e) (hX : w.heap[X]? = some (.cells #[.int .i64 a, .int .i64 b] t (0, 0))) (hne : X ≠ br) (x y : Int) :
    Rd ((w.setCell ⟨X, 0, none⟩ (.int .i64 x)).setCell ⟨X, 1, none⟩ (.int .i64 y)) br v l e := by
  obtain ⟨p0, p1, _⟩ := cells2 hX
  have h1 := setCs hX 0 (.int .i64 x)
  have p1' : (w.setCell ⟨X, 0, none⟩ (.int .i64 x)).cell? ⟨X, 1, none⟩ = some (.int .i64 b) := (cells2 (by simpa using h1)).2.1
  exact ⟨(setO hne.symm 1 _).trans ((setO hne.symm 0 _).trans h.1), h.2.kb ((KB.setCell w _ p0 (by simp)).trans (KB.setCell _ _ p1' (by simp)))⟩
set_option maxRecDepth 100000 in
set_option maxHeartbeats 4000000 in
theorem id_c (w : World) (br : Nat) (s : RS) (h : RdS w br s) :
    Calls Tryz.prog 28 #[.pointer (some ⟨br, 0, none⟩)] w fun en w' => en = .returned (idV (rI s).1.1 (rI s).1.2) ∧ RdS w' br (rI s).2 ∧ Keeps [br] w w' := by
  have hlt := h.lt
  have hkA : Keeps [] w (w.alloc (.cells #[.int .i64 0, .int .i64 0] tID)) := (Keeps.refl _ _).alloc _
  have hbA := heap_alloc_new w (.cells #[.int .i64 0, .int .i64 0] tID)
  have hRA := h.keeps hkA
  obtain ⟨X, hX⟩ : ∃ X, w.heap.size = X := ⟨_, rfl⟩
  have hzA : (w.alloc (.cells #[.int .i64 0, .int .i64 0] tID)).heap.size = X + 1 := by simp [hX]
  rw [hX] at hlt hbA
  have hrI : rI s = if (rU (rU s).2).2.2 = 0 then (if okID (rU s).1 (rU (rU s).2).1 = true then (((rU s).1, (rU (rU s).2).1), (rU (rU s).2).2) else ((0, 0), ([], 11))) else ((0, 0), (rU (rU s).2).2) := rfl
  obtain ⟨R, hR⟩ : ∃ R, rI s = R := ⟨_, rfl⟩
  rw [hR] at hrI ⊢
  replace hkA := Lib.hid hkA
  replace hbA := Lib.hid hbA
  replace hRA := Lib.hid hRA
  replace hrI := Lib.hid hrI
  clear h hR
  go_enter Tryz.func28, Tryz.ntmps28
  go_wp2_with fail
  refine (uintS_c _ br s hRA.out).mono ?_
  rintro e w1 ⟨rfl, hR1, hk1⟩
  have hk01 := hkA.out.of_nil.trans hk1
  have hb1 := (hk1.block X (by omega) (by simp; omega)).trans hbA.out
  have hz1 := hk1.size
  rw [hzA] at hz1
  obtain ⟨n, hn⟩ : ∃ n, (rU s).1 = n := ⟨_, rfl⟩
  have hrI2 := hrI.out
  rw [hn] at hrI2 ⊢
  replace hR1 := Lib.hid hR1
  replace hk01 := Lib.hid hk01
  replace hb1 := Lib.hid hb1
  clear hk1 hbA hRA hkA hrI hn
  go_wp2_with fail
  refine (uintS_c _ br _ hR1.out).mono ?_
  rintro e w2 ⟨rfl, hR2, hk2⟩
  have hk02 := hk01.out.trans hk2
  have hb2 := (hk2.block X (by omega) (by simp; omega)).trans hb1.out
  have hz2 := hk2.size
  obtain ⟨m, hm⟩ : ∃ n, (rU (rU s).2).1 = n := ⟨_, rfl⟩
  obtain ⟨⟨l2, e2⟩, hs2⟩ : ∃ n, (rU (rU s).2).2 = n := ⟨_, rfl⟩
  rw [hm, hs2] at hrI2
  rw [hs2] at hR2
  rw [hm]
  simp only at hrI2
  obtain ⟨v2, hR2⟩ : ∃ v, Rd w2 br v l2 e2 := hR2
  obtain ⟨c0, c1, f0, f1, hlt2⟩ := cell2_of hR2.1
  obtain ⟨a2, k2, rfl⟩ := hR2.2.form
  obtain ⟨L2, hL2⟩ : ∃ n, l2.length = n := ⟨_, rfl⟩
  obtain ⟨Y, hY⟩ : ∃ Y, w2.heap.size = Y := ⟨_, rfl⟩
  have hXY : X < Y := by omega
  have hbrY : br < Y := by omega
  have hkC : Keeps [] w2 ((w2.alloc (.cells #[.int .u64 n] 43)).alloc (.cells #[.int .u64 m] 43)) := ((Keeps.refl _ _).alloc _).alloc _
  have hbn := two_a w2 (.cells #[.int .u64 n] 43) (.cells #[.int .u64 m] 43)
  have hbm := two_b w2 (.cells #[.int .u64 n] 43) (.cells #[.int .u64 m] 43)
  have hRC := hR2.keeps hkC
  have hk03 := hk02.trans hkC.of_nil
  have hb3 := (hkC.block X (by omega) (by simp)).trans hb2
  rw [hY] at hbn hbm
  have hid1 := id1_c _ Y (Y + 1) n m (cells1 hbn) (cells1 hbm)
  replace hid1 := Lib.hid hid1
  replace hRC := Lib.hid hRC
  replace hk03 := Lib.hid hk03
  replace hb3 := Lib.hid hb3
  have hfX := frz hb2
  obtain ⟨p0, p1, _⟩ := cells2 hb2
  have hXb : X ≠ br := by omega
  replace hR2 := Lib.hid hR2
  replace hb2 := Lib.hid hb2
  replace hk02 := Lib.hid hk02
  clear hk2 hb1 hR1 hk01 hm hs2 hkC hbn hbm hRC hk03 hb3
  by_cases he : e2 = 0
  · subst he
    rw [if_pos rfl] at hrI2
    obtain ⟨ok, hok⟩ : ∃ b, okID n m = b := ⟨_, rfl⟩
    have hid2 := hid1.out
    rw [hok] at hid2 hrI2
    cases ok with
    | false =>
      simp only [Bool.false_eq_true, if_false] at hid2 hrI2
      subst hrI2
      replace hid2 := Lib.hid hid2
      clear hid1
      go_wp2_with (first
        | (go_at_call 56; refine hid2.out.mono ?_; rintro e w3 ⟨rfl, rfl⟩)
        | go_in)
      have hbr := rd_set_bad hR2.out 11
      have hbx := ((setO hXb 0 (.slice none 0 0)).trans ((setO hXb 1 (.int .i64 11)).trans hb2.out))
      have hR5 := hbr.setX hbx hXb 0 0
      have hb5 := st2 (x0 := .int .i64 0) (x1 := .int .i64 0) hbx
      have hkE := ((Keeps.refl [] (((((w2.setCell ⟨br, 1, none⟩ (.int .i64 11)).setCell ⟨br, 0, none⟩ (.slice none 0 0)).setCell ⟨X, 0, none⟩ (.int .i64 0)).setCell ⟨X, 1, none⟩ (.int .i64 0)))).alloc (.cells #[.int .u64 n] 43)).alloc (.cells #[.int .u64 m] 43)
      refine bodyPost_ret (results_cell_row rfl _ _ _ _ _ _ _ rfl ((hkE.block X (lt_of_blk hb5.1) (by simp)).trans hb5.1) Tryz.underlying45 rfl (by kernel_rfl)) rfl ?_
      refine ⟨rfl, ⟨_, hR5.keeps hkE⟩, ?_⟩
      have h1 := ((hk02.out.setCell (p := ⟨br, 1, none⟩) (.inr (by simp)) (.int .i64 11)).setCell (p := ⟨br, 0, none⟩) (.inr (by simp)) (.slice none 0 0))
      exact (h1.fresh hb5.2 (fun b hb => .inr (by simp at hb; omega))).trans hkE.of_nil
    | true =>
      simp only [if_true] at hid2 hrI2
      subst hrI2
      replace hid2 := Lib.hid hid2
      clear hid1
      have hnm : n ≤ 8 ∧ m ≤ 1099511627775 := by unfold okID at hok; have := of_decide_eq_true hok; omega
      have hwn : IntKind.i64.wrap (n : Int) = n := IntWalk.i64_in _ (by omega)
      have hwm : IntKind.i64.wrap (m : Int) = m := IntWalk.i64_in _ (by omega)
      go_wp2_with (first
        | (go_at_call 56; refine hid2.out.mono ?_; rintro e w3 ⟨rfl, rfl⟩)
        | go_in)
      have hbr := rd_set_ok hR2.out 0
      have hbx := ((setO hXb 1 (.int .i64 0)).trans hb2.out)
      have hR5 := hbr.setX hbx hXb n m
      have hb5 := st2 (x0 := .int .i64 n) (x1 := .int .i64 m) hbx
      have hkE := ((Keeps.refl [] ((((w2.setCell ⟨br, 1, none⟩ (.int .i64 0)).setCell ⟨X, 0, none⟩ (.int .i64 n)).setCell ⟨X, 1, none⟩ (.int .i64 m)))).alloc (.cells #[.int .u64 n] 43)).alloc (.cells #[.int .u64 m] 43)
      refine bodyPost_ret (results_cell_row rfl _ _ _ _ _ _ _ rfl ((hkE.block X (lt_of_blk hb5.1) (by simp)).trans hb5.1) Tryz.underlying45 rfl (by kernel_rfl)) rfl ?_
      refine ⟨rfl, ⟨_, hR5.keeps hkE⟩, ?_⟩
      have h1 := (hk02.out.setCell (p := ⟨br, 1, none⟩) (.inr (by simp)) (.int .i64 0))
      exact (h1.fresh hb5.2 (fun b hb => .inr (by simp at hb; omega))).trans hkE.of_nil
  · rw [if_neg he] at hrI2
    subst hrI2
    have heb : (e2 == 0) = false := by simp [he]
    replace he := Lib.hid he
    clear hid1
    go_wp2_with (first | go_in)
    have hbx := hb2.out
    have hR5 := hR2.out.setX hbx hXb 0 0
    have hb5 := st2 (x0 := .int .i64 0) (x1 := .int .i64 0) hbx
    have hkE := ((Keeps.refl [] ((w2.setCell ⟨X, 0, none⟩ (.int .i64 0)).setCell ⟨X, 1, none⟩ (.int .i64 0))).alloc (.cells #[.int .u64 n] 43)).alloc (.cells #[.int .u64 m] 43)
    refine bodyPost_ret (results_cell_row rfl _ _ _ _ _ _ _ rfl ((hkE.block X (lt_of_blk hb5.1) (by simp)).trans hb5.1) Tryz.underlying45 rfl (by kernel_rfl)) rfl ?_
    refine ⟨rfl, ⟨_, hR5.keeps hkE⟩, ?_⟩
    exact (hk02.out.fresh hb5.2 (fun b hb => .inr (by simp at hb; omega))).trans hkE.of_nil
end Go.Proofs.YtblaaafpglomnaaGreat
