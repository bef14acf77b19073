/- Texts that the laws lean on, in the order in which they build. Scion tables in memory; identity.Valid, valid, of, New. (Printed by mkscm.py.) scions.valid. (Printed by mkscv.py.) A region that draws its order, parted in two by which of two operations comes first; each part is a chain. Of whatever program. Scion tables: Add. (Printed by mksca.py.) Stores of whole entries and rows; results that lie in a block. (Printed by mkscr.py.) Scion tables: Find. (Printed by mkscf.py.) -/
import Derived.Test.YtblaaafpglomnaaGreatK2
import Derived.Laws.Rows
set_option linter.unusedVariables false
set_option linter.unusedSimpArgs false
namespace Go.Proofs.YtblaaafpglomnaaGreat
open Go.RowKit Go

theorem lt_of_blk {w : World} {b : Nat} {o : Obj} (h : w.heap[b]? = some o) : b < w.heap.size := (Array.getElem?_eq_some_iff.1 h).1
theorem cells1 {w : World} {b : Nat} {x : Value} {t : TypeId} {f : Nat × Nat} (h : w.heap[b]? = some (.cells #[x] t f)) : w.cell? ⟨b, 0, none⟩ = some x := by simp [World.cell?, h]
theorem cells2 {w : World} {b : Nat} {x0 x1 : Value} {t : TypeId} {f : Nat × Nat} (h : w.heap[b]? = some (.cells #[x0, x1] t f)) : w.cell? ⟨b, 0, none⟩ = some x0 ∧ w.cell? ⟨b, 1, none⟩ = some x1 ∧ b < w.heap.size := by
  refine ⟨?_, ?_, lt_of_blk h⟩ <;> simp [World.cell?, h]
theorem cells12 {w : World} {b : Nat} {x0 x1 x2 x3 x4 x5 x6 x7 x8 x9 x10 x11 : Value} {t : TypeId} {f : Nat × Nat} (h : w.heap[b]? = some (.cells #[x0, x1, x2, x3, x4, x5, x6, x7, x8, x9, x10, x11] t f)) : w.cell? ⟨b, 0, none⟩ = some x0 ∧ w.cell? ⟨b, 1, none⟩ = some x1 ∧ w.cell? ⟨b, 2, none⟩ = some x2 ∧ w.cell? ⟨b, 3, none⟩ = some x3 ∧ w.cell? ⟨b, 4, none⟩ = some x4 ∧ w.cell? ⟨b, 5, none⟩ = some x5 ∧ w.cell? ⟨b, 6, none⟩ = some x6 ∧ w.cell? ⟨b, 7, none⟩ = some x7 ∧ w.cell? ⟨b, 8, none⟩ = some x8 ∧ w.cell? ⟨b, 9, none⟩ = some x9 ∧ w.cell? ⟨b, 10, none⟩ = some x10 ∧ w.cell? ⟨b, 11, none⟩ = some x11 ∧ b < w.heap.size := by
  refine ⟨?_, ?_, ?_, ?_, ?_, ?_, ?_, ?_, ?_, ?_, ?_, ?_, lt_of_blk h⟩ <;> simp [World.cell?, h]
theorem cells13 {w : World} {b : Nat} {x0 x1 x2 x3 x4 x5 x6 x7 x8 x9 x10 x11 x12 : Value} {t : TypeId} {f : Nat × Nat} (h : w.heap[b]? = some (.cells #[x0, x1, x2, x3, x4, x5, x6, x7, x8, x9, x10, x11, x12] t f)) : w.cell? ⟨b, 0, none⟩ = some x0 ∧ w.cell? ⟨b, 1, none⟩ = some x1 ∧ w.cell? ⟨b, 2, none⟩ = some x2 ∧ w.cell? ⟨b, 3, none⟩ = some x3 ∧ w.cell? ⟨b, 4, none⟩ = some x4 ∧ w.cell? ⟨b, 5, none⟩ = some x5 ∧ w.cell? ⟨b, 6, none⟩ = some x6 ∧ w.cell? ⟨b, 7, none⟩ = some x7 ∧ w.cell? ⟨b, 8, none⟩ = some x8 ∧ w.cell? ⟨b, 9, none⟩ = some x9 ∧ w.cell? ⟨b, 10, none⟩ = some x10 ∧ w.cell? ⟨b, 11, none⟩ = some x11 ∧ w.cell? ⟨b, 12, none⟩ = some x12 ∧ b < w.heap.size := by
  refine ⟨?_, ?_, ?_, ?_, ?_, ?_, ?_, ?_, ?_, ?_, ?_, ?_, ?_, lt_of_blk h⟩ <;> simp [World.cell?, h]
/-- The table in memory. -/
structure TM (w : World) (bt bm : Nat) (S : List Rw) : Prop where
  blk : w.heap[bt]? = some (.cells #[.map (some bm)] tTab (0, 0))
  mp : MapS.M ktK (fun r : Rw => rwV r) w bm (kr S)
section
variable {w w' : World} {bt bm : Nat} {S : List Rw}
theorem TM.lt (h : TM w bt bm S) : bt < w.heap.size ∧ bm < w.heap.size := ⟨lt_of_blk h.blk, h.mp.lt⟩
theorem TM.cell (h : TM w bt bm S) : w.cell? ⟨bt, 0, none⟩ = some (.map (some bm)) := cells1 h.blk
theorem TM.kept {T : List Nat} (h : TM w bt bm S) (hk : Keeps T w w') (h1 : bt ∉ T) (h2 : bm ∉ T) : TM w' bt bm S :=
  ⟨(hk.block bt h.lt.1 h1).trans h.blk, h.mp.kept ktK hk h2⟩
theorem TM.keeps (h : TM w bt bm S) (hk : Keeps [] w w') : TM w' bt bm S := h.kept hk (by simp) (by simp)
theorem TM.ne (h : TM w bt bm S) : bt ≠ bm := fun e => by
  have h1 := h.mp.noCells ktK 0
  rw [← e, h.cell] at h1; cases h1
theorem TM.turn {S' : List Rw} (h : TM w bt bm S) (hm : MapS.M ktK (fun r : Rw => rwV r) w' bm (kr S')) (hk : Keeps [bm] w w') : TM w' bt bm S' :=
  ⟨(hk.block bt h.lt.1 (by simpa using h.ne)).trans h.blk, hm⟩
theorem M_at {L : MapS.Es Ky Rw} (h : MapS.M ktK (fun r : Rw => rwV r) w bm L) (hb : w'.heap[bm]? = w.heap[bm]?) : MapS.M ktK (fun r : Rw => rwV r) w' bm L := by
  obtain ⟨⟨D, ⟨es, clock, hb', F, hs, hD⟩, h2, h3⟩, ha, hw⟩ := h
  exact ⟨⟨D, ⟨es, clock, hb.trans hb', F, hs, hD⟩, h2, h3⟩, ha, hw⟩
theorem getD_rw (o : Option Rw) : (o.map (fun r : Rw => rwV r)).getD (rwV (.zero, 0)) = rwV (o.getD (.zero, 0)) := by cases o <;> rfl
theorem TM.look (h : TM w bt bm S) (k : Ky) (hk : kOk k) : ∀ w' : World, w'.heap[bm]? = w.heap[bm]? → (Instr.lookup tMap (.map (some bm)) (kyV k) true).run Tryz.prog w' = .ok (.tuple #[rwV ((fnd k S).getD (.zero, 0)), .bool (fnd k S).isSome]) w' :=
  fun w' hb => by rw [← getD_rw]; exact MapS.M.look_ok ktK (k := k) Tryz.underlying74 (rwV (.zero, 0)) zeroR (M_at h.mp hb) hk
theorem TM.look1 (h : TM w bt bm S) (k : Ky) (hk : kOk k) : ∀ w' : World, w'.heap[bm]? = w.heap[bm]? → (Instr.lookup tMap (.map (some bm)) (kyV k) false).run Tryz.prog w' = .ok (rwV ((fnd k S).getD (.zero, 0))) w' :=
  fun w' hb => by rw [← getD_rw]; exact MapS.M.look ktK (k := k) Tryz.underlying74 (rwV (.zero, 0)) zeroR (M_at h.mp hb) hk
theorem TM.len (h : TM w bt bm S) (ty : TypeId) : ∀ w' : World, w'.heap[bm]? = w.heap[bm]? → (Builtin.len_ #[tMap] ty #[.map (some bm)]).run Tryz.prog w' = .ok (.int .i64 S.length) w' :=
  fun w' hb => by have := MapS.M.len ktK (vf := fun r : Rw => rwV r) (t := tMap) Tryz.underlying74 (M_at h.mp hb) ty; rwa [kr_len] at this
theorem TM.putNew (h : TM w bt bm S) (e : En) (hd : Int) (hk : kOk e.key) (hn : fnd e.key S = none) (hl : S.length < 1000000) :
    ∃ w', (Instr.mapUpdate tMap (.map (some bm)) (kyV e.key) (rwV (e, hd))).run Tryz.prog w = .ok () w' ∧ TM w' bt bm (ins (e, hd) S) ∧ Keeps [bm] w w' := by
  obtain ⟨w', h1, h2, h3⟩ := MapS.M.putNew ktK (k := e.key) (vf := fun r : Rw => rwV r) (t := tMap) Tryz.underlying74 h.mp hk hn (by rw [kr_len]; unfold maxLen; omega) (e, hd)
  refine ⟨w', h1, h.turn ?_ h3, h3⟩
  refine h2.perm ktK ?_
  have h4 : kr S ++ [(e.key, ((e, hd) : Rw))] = kr (S ++ [(e, hd)]) := by rw [kr_append]; rfl
  rw [h4]
  exact ((ins_perm (e, hd) S).trans (List.perm_append_singleton (e, hd) S).symm).symm.map _
theorem TM.putOld (h : TM w bt bm S) (e : En) (hd : Int) (hk : kOk e.key) (hn : (fnd e.key S).isSome = true) (hl : S.length < 1000000) :
    ∃ w', (Instr.mapUpdate tMap (.map (some bm)) (kyV e.key) (rwV (e, hd))).run Tryz.prog w = .ok () w' ∧ TM w' bt bm (upd (e, hd) S) ∧ Keeps [bm] w w' := by
  obtain ⟨w', h1, h2, h3⟩ := MapS.M.putOld ktK (k := e.key) (vf := fun r : Rw => rwV r) (t := tMap) Tryz.underlying74 h.mp hk hn (by rw [kr_len]; unfold maxLen; omega) (e, hd)
  exact ⟨w', h1, h.turn (by rw [kr_upd]; exact h2) h3, h3⟩
theorem TM.drop (h : TM w bt bm S) (k : Ky) (hk : kOk k) (ty : TypeId) :
    ∃ w', (Builtin.delete_ #[tMap, tK] ty #[.map (some bm), kyV k]).run Tryz.prog w = .ok (.tuple #[]) w' ∧ TM w' bt bm (dele k S) ∧ Keeps [bm] w w' := by
  obtain ⟨w', h1, h2, h3⟩ := MapS.M.drop ktK (k := k) (vf := fun r : Rw => rwV r) (t := tMap) Tryz.underlying74 h.mp hk ty
  exact ⟨w', h1, h.turn (by rw [kr_dele]; exact h2) h3, h3⟩
end
theorem keepsP_remade {S : Nat → Prop} (w : World) (A B : Obj) (hS : S w.heap.size) : Free.KeepsP S (w.alloc A) (w.alloc B) :=
  ⟨rfl, rfl, rfl, by simp, fun k hk hn => by
    have hk' : k < w.heap.size + 1 := by simpa using hk
    have hne : k ≠ w.heap.size := fun e => hn (e ▸ hS)
    rw [Below.heap_alloc _ _ _ (by omega), Below.heap_alloc _ _ _ (by omega)]⟩
theorem Free.KeepsP.drews {S : Nat → Prop} {a b : World} (h : Free.KeepsP S a b) : Free.KeepsP S a.drew b.drew := ⟨h.os, h.tape, h.output, h.size, h.block⟩
set_option maxRecDepth 100000 in
set_option maxHeartbeats 2000000 in
theorem new_c (w : World) : Calls Tryz.prog 24 #[] w fun e w' => ∃ bt bm, e = .returned (.pointer (some ⟨bt, 0, none⟩)) ∧ TM w' bt bm [] ∧ Keeps [] w w' ∧ w.heap.size ≤ bt ∧ w.heap.size ≤ bm := by
  have hmm := @run_makeMap Tryz.prog
  go_enter Tryz.func24, Tryz.ntmps24
  go_wp2
  go_ret
  have hM := MapS.M.made ktK (vf := fun r : Rw => rwV r) w
  have hkM : Keeps [] w (w.alloc (.map #[] 0)) := (Keeps.refl _ _).alloc _
  obtain ⟨w3, hw3⟩ : ∃ w3, w.alloc (.map #[] 0) = w3 := ⟨_, rfl⟩
  have hz3 : w3.heap.size = w.heap.size + 1 := by rw [← hw3]; simp
  rw [hw3] at hM hkM ⊢
  rw [← hz3]
  have hk4 : Keeps [] w3 (w3.alloc (.cells #[.map (some w.heap.size)] tTab)) := (Keeps.refl _ _).alloc _
  exact ⟨w3.heap.size, w.heap.size, rfl, ⟨heap_alloc_new w3 _, hM.keeps ktK hk4⟩, hkM.trans hk4, by omega, Nat.le_refl _⟩
set_option maxRecDepth 100000 in
set_option maxHeartbeats 2000000 in
theorem valid_id_c (w : World) (m s : Int) : Calls Tryz.prog 51 #[idV m s] w fun e w' => e = .returned (.bool (vID m s)) ∧ Keeps [] w w' := by
  have hk : Keeps [] w (w.alloc (.cells #[.int .i64 m, .int .i64 s] tID)) := (Keeps.refl _ _).alloc _
  obtain ⟨r, hr⟩ : ∃ r, vID m s = r := ⟨_, rfl⟩
  rw [hr]
  replace hk := Lib.hid hk
  by_cases h1 : 1 ≤ m
  case neg =>
    have d1 : decide (1 ≤ m) = false := by simp; omega
    have e : r = false := by rw [← hr]; exact decide_eq_false (by omega)
    subst e
    replace hr := Lib.hid hr
    go_enter Tryz.func51, Tryz.ntmps51
    go_wp2
    go_ret
    exact ⟨rfl, hk.out⟩
  by_cases h2 : m ≤ 8
  case neg =>
    have d1 : decide (m ≤ 8) = false := by simp; omega
    have e : r = false := by rw [← hr]; exact decide_eq_false (by omega)
    subst e
    replace hr := Lib.hid hr
    go_enter Tryz.func51, Tryz.ntmps51
    go_wp2
    go_ret
    exact ⟨rfl, hk.out⟩
  by_cases h3 : 1 ≤ s
  case neg =>
    have d1 : decide (1 ≤ s) = false := by simp; omega
    have e : r = false := by rw [← hr]; exact decide_eq_false (by omega)
    subst e
    replace hr := Lib.hid hr
    go_enter Tryz.func51, Tryz.ntmps51
    go_wp2
    go_ret
    exact ⟨rfl, hk.out⟩
  by_cases h4 : s ≤ 1099511627775
  case neg =>
    have d1 : decide (s ≤ 1099511627775) = false := by simp; omega
    have e : r = false := by rw [← hr]; exact decide_eq_false (by omega)
    subst e
    replace hr := Lib.hid hr
    go_enter Tryz.func51, Tryz.ntmps51
    go_wp2
    go_ret
    exact ⟨rfl, hk.out⟩
  have e : r = true := by rw [← hr]; exact decide_eq_true ⟨h1, h2, h3, h4⟩
  subst e
  replace hr := Lib.hid hr
  go_enter Tryz.func51, Tryz.ntmps51
  go_wp2
  go_ret
  exact ⟨rfl, hk.out⟩
set_option maxRecDepth 100000 in
set_option maxHeartbeats 2000000 in
theorem of_c (w : World) (x : En) : Calls Tryz.prog 31 #[enV x] w fun e w' => e = .returned (kyV x.key) ∧ Keeps [] w w' := by
  obtain ⟨cl, n, im, is, o, i, d, tc, wk, gb, lm, ls⟩ := x
  have hb := heap_alloc_new (w.alloc (.cells #[.int .i64 cl, .int .u64 n, .int .i64 im, .int .i64 is, .int .i64 o, .int .i64 i, .int .i64 d, .bool tc, .bool wk, .bool gb, .int .i64 lm, .int .i64 ls] tE)) (.cells #[.int .i64 cl, .int .u64 n] tK)
  rw [show (w.alloc (.cells #[.int .i64 cl, .int .u64 n, .int .i64 im, .int .i64 is, .int .i64 o, .int .i64 i, .int .i64 d, .bool tc, .bool wk, .bool gb, .int .i64 lm, .int .i64 ls] tE)).heap.size = w.heap.size + 1 by simp] at hb
  replace hb := Lib.hid hb
  go_enter Tryz.func31, Tryz.ntmps31
  go_wp2
  refine bodyPost_ret (results_cell_row rfl _ _ _ _ _ _ _ rfl hb.out Tryz.underlying70 rfl (by kernel_rfl)) rfl ?_
  exact ⟨rfl, ((Keeps.refl _ _).alloc _).alloc _⟩
end Go.Proofs.YtblaaafpglomnaaGreat

namespace Go.Proofs.YtblaaafpglomnaaGreat
open Go.RowKit Go

theorem two_a (w : World) (A B : Obj) : ((w.alloc A).alloc B).heap[w.heap.size]? = some A := (Below.heap_alloc _ _ _ (by simp)).trans (heap_alloc_new w A)
theorem two_b (w : World) (A B : Obj) : ((w.alloc A).alloc B).heap[w.heap.size + 1]? = some B := by have := heap_alloc_new (w.alloc A) B; simpa using this
set_option maxRecDepth 100000 in
set_option maxHeartbeats 4000000 in
theorem valid_c (w : World) (x : En) : Calls Tryz.prog 61 #[enV x] w fun e w' => e = .returned (.bool x.val) ∧ Keeps [] w w' := by
  obtain ⟨cl, n, im, is, o, i, d, tc, wk, gb, lm, ls⟩ := x
  have hk2 : Keeps [] w ((w.alloc (.cells #[.int .i64 cl, .int .u64 n, .int .i64 im, .int .i64 is, .int .i64 o, .int .i64 i, .int .i64 d, .bool tc, .bool wk, .bool gb, .int .i64 lm, .int .i64 ls] tE)).alloc (.cells #[.int .i64 lm, .int .i64 ls] tID)) := ((Keeps.refl _ _).alloc _).alloc _
  obtain ⟨r, hr⟩ : ∃ r, En.val ⟨cl, n, im, is, o, i, d, tc, wk, gb, lm, ls⟩ = r := ⟨_, rfl⟩
  rw [hr]
  simp only [En.val, oID] at hr
  have q1 := fun w => eqI w im is 0 0
  have q2 := fun w => eqI w lm ls 0 0
  simp only [idV] at q1 q2
  obtain ⟨z1, hz1⟩ : ∃ b, (im == 0 && is == 0) = b := ⟨_, rfl⟩
  obtain ⟨z2, hz2⟩ : ∃ b, (lm == 0 && ls == 0) = b := ⟨_, rfl⟩
  obtain ⟨v1, hv1⟩ : ∃ b, vID im is = b := ⟨_, rfl⟩
  obtain ⟨v2, hv2⟩ : ∃ b, vID lm ls = b := ⟨_, rfl⟩
  have cv1 := fun W => valid_id_c W im is
  have cv2 := fun W => valid_id_c W lm ls
  rw [hz1] at q1
  rw [hz2] at q2
  rw [hz1, hz2, hv1, hv2] at hr
  rw [hv1] at cv1
  rw [hv2] at cv2
  replace hk2 := Lib.hid hk2
  replace hr := Lib.hid hr
  replace cv1 := Lib.hid cv1
  replace cv2 := Lib.hid cv2
  clear hz1 hz2 hv1 hv2
  by_cases h1 : 1 ≤ cl
  case neg =>
    have dh1 : decide (1 ≤ cl) = false := by simp; omega
    have er : r = false := by rw [← hr.out]; simp [dh1]
    subst er
    go_enter Tryz.func61, Tryz.ntmps61
    go_wp2
    go_ret
    exact ⟨rfl, hk2.out⟩
  by_cases h2 : cl ≤ 8
  case neg =>
    have dh2 : decide (cl ≤ 8) = false := by simp; omega
    have er : r = false := by rw [← hr.out]; simp [h1, dh2]
    subst er
    go_enter Tryz.func61, Tryz.ntmps61
    go_wp2
    go_ret
    exact ⟨rfl, hk2.out⟩
  cases z1
  case true =>
    by_cases h3 : 0 ≤ o
    case neg =>
      have dh3 : decide (0 ≤ o) = false := by simp; omega
      have er : r = false := by rw [← hr.out]; simp [h1, h2, dh3]
      subst er
      go_enter Tryz.func61, Tryz.ntmps61
      go_wp2
      go_ret
      exact ⟨rfl, hk2.out⟩
    by_cases h4 : 0 ≤ i
    case neg =>
      have dh4 : decide (0 ≤ i) = false := by simp; omega
      have er : r = false := by rw [← hr.out]; simp [h1, h2, h3, dh4]
      subst er
      go_enter Tryz.func61, Tryz.ntmps61
      go_wp2
      go_ret
      exact ⟨rfl, hk2.out⟩
    by_cases h5 : 0 ≤ d
    case neg =>
      have dh5 : decide (0 ≤ d) = false := by simp; omega
      have er : r = false := by rw [← hr.out]; simp [h1, h2, h3, h4, dh5]
      subst er
      go_enter Tryz.func61, Tryz.ntmps61
      go_wp2
      go_ret
      exact ⟨rfl, hk2.out⟩
    cases z2
    case true => 
      have er : r = true := by rw [← hr.out]; simp [h1, h2, h3, h4, h5]
      subst er
      go_enter Tryz.func61, Tryz.ntmps61
      go_wp2
      go_ret
      exact ⟨rfl, hk2.out⟩
    cases v2
    case false => 
      have er : r = false := by rw [← hr.out]; simp [h1, h2, h3, h4, h5]
      subst er
      go_enter Tryz.func61, Tryz.ntmps61
      go_wp2_with fail
      refine (cv2.out _).mono ?_
      rintro e w3 ⟨rfl, hk3⟩
      have hkf1 := Lib.hid (hk2.out.trans hk3)
      clear hk3
      go_wp2
      go_ret
      exact ⟨rfl, hkf1.out⟩
    have er : r = true := by rw [← hr.out]; simp [h1, h2, h3, h4, h5]
    subst er
    go_enter Tryz.func61, Tryz.ntmps61
    go_wp2_with fail
    refine (cv2.out _).mono ?_
    rintro e w3 ⟨rfl, hk3⟩
    have hkf1 := Lib.hid (hk2.out.trans hk3)
    clear hk3
    go_wp2
    go_ret
    exact ⟨rfl, hkf1.out⟩
  cases v1
  case false =>
    have er : r = false := by rw [← hr.out]; simp [h1, h2]
    subst er
    go_enter Tryz.func61, Tryz.ntmps61
    go_wp2_with fail
    refine (cv1.out _).mono ?_
    rintro e w3 ⟨rfl, hk3⟩
    have hkf1 := Lib.hid (hk2.out.trans hk3)
    have hlw := hk3.size
    have hrd := fun b o (h : b < w.heap.size + 2) => hk3.cell0 b o (by simp; omega)
    obtain ⟨y0, y1, y2, y3, y4, y5, y6, y7, y8, y9, y10, y11, _⟩ := cells12 ((hk3.block w.heap.size (by simp; omega) (by simp)).trans (two_a w _ _))
    obtain ⟨u0, u1, _⟩ := cells2 ((hk3.block (w.heap.size + 1) (by simp) (by simp)).trans (two_b w _ _))
    clear hlw hrd
    clear hk3
    go_wp2
    go_ret
    exact ⟨rfl, hkf1.out⟩
  by_cases h3 : 0 ≤ o
  case neg =>
    have dh3 : decide (0 ≤ o) = false := by simp; omega
    have er : r = false := by rw [← hr.out]; simp [h1, h2, dh3]
    subst er
    go_enter Tryz.func61, Tryz.ntmps61
    go_wp2_with fail
    refine (cv1.out _).mono ?_
    rintro e w3 ⟨rfl, hk3⟩
    have hkf1 := Lib.hid (hk2.out.trans hk3)
    have hlw := hk3.size
    have hrd := fun b o (h : b < w.heap.size + 2) => hk3.cell0 b o (by simp; omega)
    obtain ⟨y0, y1, y2, y3, y4, y5, y6, y7, y8, y9, y10, y11, _⟩ := cells12 ((hk3.block w.heap.size (by simp; omega) (by simp)).trans (two_a w _ _))
    obtain ⟨u0, u1, _⟩ := cells2 ((hk3.block (w.heap.size + 1) (by simp) (by simp)).trans (two_b w _ _))
    clear hlw hrd
    clear hk3
    go_wp2
    go_ret
    exact ⟨rfl, hkf1.out⟩
  by_cases h4 : 0 ≤ i
  case neg =>
    have dh4 : decide (0 ≤ i) = false := by simp; omega
    have er : r = false := by rw [← hr.out]; simp [h1, h2, h3, dh4]
    subst er
    go_enter Tryz.func61, Tryz.ntmps61
    go_wp2_with fail
    refine (cv1.out _).mono ?_
    rintro e w3 ⟨rfl, hk3⟩
    have hkf1 := Lib.hid (hk2.out.trans hk3)
    have hlw := hk3.size
    have hrd := fun b o (h : b < w.heap.size + 2) => hk3.cell0 b o (by simp; omega)
    obtain ⟨y0, y1, y2, y3, y4, y5, y6, y7, y8, y9, y10, y11, _⟩ := cells12 ((hk3.block w.heap.size (by simp; omega) (by simp)).trans (two_a w _ _))
    obtain ⟨u0, u1, _⟩ := cells2 ((hk3.block (w.heap.size + 1) (by simp) (by simp)).trans (two_b w _ _))
    clear hlw hrd
    clear hk3
    go_wp2
    go_ret
    exact ⟨rfl, hkf1.out⟩
  by_cases h5 : 0 ≤ d
  case neg =>
    have dh5 : decide (0 ≤ d) = false := by simp; omega
    have er : r = false := by rw [← hr.out]; simp [h1, h2, h3, h4, dh5]
    subst er
    go_enter Tryz.func61, Tryz.ntmps61
    go_wp2_with fail
    refine (cv1.out _).mono ?_
    rintro e w3 ⟨rfl, hk3⟩
    have hkf1 := Lib.hid (hk2.out.trans hk3)
    have hlw := hk3.size
    have hrd := fun b o (h : b < w.heap.size + 2) => hk3.cell0 b o (by simp; omega)
    obtain ⟨y0, y1, y2, y3, y4, y5, y6, y7, y8, y9, y10, y11, _⟩ := cells12 ((hk3.block w.heap.size (by simp; omega) (by simp)).trans (two_a w _ _))
    obtain ⟨u0, u1, _⟩ := cells2 ((hk3.block (w.heap.size + 1) (by simp) (by simp)).trans (two_b w _ _))
    clear hlw hrd
    clear hk3
    go_wp2
    go_ret
    exact ⟨rfl, hkf1.out⟩
  cases z2
  case true => 
    have er : r = true := by rw [← hr.out]; simp [h1, h2, h3, h4, h5]
    subst er
    go_enter Tryz.func61, Tryz.ntmps61
    go_wp2_with fail
    refine (cv1.out _).mono ?_
    rintro e w3 ⟨rfl, hk3⟩
    have hkf1 := Lib.hid (hk2.out.trans hk3)
    have hlw := hk3.size
    have hrd := fun b o (h : b < w.heap.size + 2) => hk3.cell0 b o (by simp; omega)
    obtain ⟨y0, y1, y2, y3, y4, y5, y6, y7, y8, y9, y10, y11, _⟩ := cells12 ((hk3.block w.heap.size (by simp; omega) (by simp)).trans (two_a w _ _))
    obtain ⟨u0, u1, _⟩ := cells2 ((hk3.block (w.heap.size + 1) (by simp) (by simp)).trans (two_b w _ _))
    clear hlw hrd
    clear hk3
    go_wp2
    go_ret
    exact ⟨rfl, hkf1.out⟩
  cases v2
  case false => 
    have er : r = false := by rw [← hr.out]; simp [h1, h2, h3, h4, h5]
    subst er
    go_enter Tryz.func61, Tryz.ntmps61
    go_wp2_with fail
    refine (cv1.out _).mono ?_
    rintro e w3 ⟨rfl, hk3⟩
    have hkf1 := Lib.hid (hk2.out.trans hk3)
    have hlw := hk3.size
    have hrd := fun b o (h : b < w.heap.size + 2) => hk3.cell0 b o (by simp; omega)
    obtain ⟨y0, y1, y2, y3, y4, y5, y6, y7, y8, y9, y10, y11, _⟩ := cells12 ((hk3.block w.heap.size (by simp; omega) (by simp)).trans (two_a w _ _))
    obtain ⟨u0, u1, _⟩ := cells2 ((hk3.block (w.heap.size + 1) (by simp) (by simp)).trans (two_b w _ _))
    clear hlw hrd
    clear hk3
    go_wp2_with fail
    refine (cv2.out _).mono ?_
    rintro e w4 ⟨rfl, hk4⟩
    have hkf2 := Lib.hid (hkf1.out.trans hk4)
    clear hk4
    go_wp2
    go_ret
    exact ⟨rfl, hkf2.out⟩
  have er : r = true := by rw [← hr.out]; simp [h1, h2, h3, h4, h5]
  subst er
  go_enter Tryz.func61, Tryz.ntmps61
  go_wp2_with fail
  refine (cv1.out _).mono ?_
  rintro e w3 ⟨rfl, hk3⟩
  have hkf1 := Lib.hid (hk2.out.trans hk3)
  have hlw := hk3.size
  have hrd := fun b o (h : b < w.heap.size + 2) => hk3.cell0 b o (by simp; omega)
  obtain ⟨y0, y1, y2, y3, y4, y5, y6, y7, y8, y9, y10, y11, _⟩ := cells12 ((hk3.block w.heap.size (by simp; omega) (by simp)).trans (two_a w _ _))
  obtain ⟨u0, u1, _⟩ := cells2 ((hk3.block (w.heap.size + 1) (by simp) (by simp)).trans (two_b w _ _))
  clear hlw hrd
  clear hk3
  go_wp2_with fail
  refine (cv2.out _).mono ?_
  rintro e w4 ⟨rfl, hk4⟩
  have hkf2 := Lib.hid (hkf1.out.trans hk4)
  clear hk4
  go_wp2
  go_ret
  exact ⟨rfl, hkf2.out⟩
end Go.Proofs.YtblaaafpglomnaaGreat

namespace Go.Proofs.YtblaaafpglomnaaGreat
namespace Free
open Go Go.RowKit

/-- What stays of an operation if only its edges, and the numbers of operations, are changed. -/
structure Like (o o' : Oper) : Prop where
  op : o'.op = o.op
  dst : o'.dst = o.dst
  type : o'.type = o.type
theorem Like.refl (o : Oper) : Like o o := ⟨rfl, rfl, rfl⟩
theorem Like.wp {P : Program} {o o' : Oper} (h : Like o o') {a : Act} {w : World} {K : Act → World → Prop} {Q : Exit → Act → World → Prop} (hw : o'.wp P a w K Q) : o.wp P a w K Q := by
  obtain ⟨d, op, t, p, af, g⟩ := o
  obtain ⟨d', op', t', p', af', g'⟩ := o'
  obtain ⟨h1, h2, h3⟩ := h
  simp only at h1 h2 h3
  subst h1 h2 h3
  exact hw
theorem Like.asks {P : Program} {o o' : Oper} (h : Like o o') {a : Act} {w : World} (hw : o'.asks P a w) : o.asks P a w := by
  obtain ⟨d, op, t, p, af, g⟩ := o
  obtain ⟨d', op', t', p', af', g'⟩ := o'
  obtain ⟨h1, h2, h3⟩ := h
  simp only at h1 h2 h3
  subst h1 h2 h3
  exact hw
variable {P : Program} {Q : Exit → Act → World → Prop}
theorem wpOp_like {ops ops' : Array Oper} {i i' : Nat} {o o' : Oper} {K : Act → World → Prop} {a : Act} {w : World} (ho : ops[i]? = some o) (ho' : ops'[i']? = some o') (hl : Like o o') (hw : Region.wanted o' (yielded ops' a.tmps) = Region.wanted o (yielded ops a.tmps))
    (h : wpOp P ops' Q i' K a w) : wpOp P ops Q i K a w := by
  unfold wpOp at *
  rw [ho]
  rw [ho'] at h
  simp only at h ⊢
  rw [hw, hl.dst] at h
  split
  · rename_i hh
    rw [if_pos hh] at h
    rcases h with h | ⟨h1, h2⟩
    · exact .inl (hl.wp h)
    · exact .inr ⟨hl.asks h1, h2⟩
  · rename_i hh
    rw [if_neg hh] at h
    exact h
/-- The operations of a region under other numbers. -/
structure Ren (ops ops' : Array Oper) (p : Nat → Nat) : Prop where
  size : ops'.size = ops.size
  lt : ∀ i, p i < ops.size ↔ i < ops.size
  inj : ∀ i j, p i = p j → i = j
  sur : ∀ j, ∃ i, p i = j
  like : ∀ i o, ops[i]? = some o → ∃ o', ops'[p i]? = some o' ∧ Like o o' ∧ ∀ tmps, Region.wanted o' (yielded ops' tmps) = Region.wanted o (yielded ops tmps)
def RelL (n : Nat) (p : Nat → Nat) (L L' : Array Bool) : Prop := L.size = n ∧ L'.size = n ∧ ∀ i, L'.getD (p i) false = L.getD i false
theorem RelL.set {n : Nat} {p : Nat → Nat} {L L' : Array Bool} (h : RelL n p L L') (hp : ∀ i, p i < n ↔ i < n) (hi : ∀ i j, p i = p j → i = j) (i : Nat) : RelL n p (L.setIfInBounds i true) (L'.setIfInBounds (p i) true) := by
  obtain ⟨h1, h2, h3⟩ := h
  refine ⟨by simp [h1], by simp [h2], fun j => ?_⟩
  have h4 := h3 j
  have h5 := hp i
  simp only [Array.getD_eq_getD_getElem?, Array.getElem?_setIfInBounds, h1, h2] at h4 ⊢
  by_cases e : i = j
  · subst e
    simp only [if_true]
    by_cases hn : i < n
    · rw [if_pos hn, if_pos (h5.2 hn)]
    · rw [if_neg hn, if_neg (fun hh => hn (h5.1 hh))]
  · rw [if_neg e, if_neg (fun hh => e (hi _ _ hh))]
    exact h4
theorem getD_true {L : Array Bool} {i : Nat} : L.getD i true = false ↔ i < L.size ∧ L.getD i false = false := by
  by_cases h : i < L.size
  · simp [Array.getD, h]
  · simp [Array.getD, h]
/-- Which operations are ready. -/
def Go1 (ops : Array Oper) (L : Array Bool) (o : Oper) : Prop := ∀ e ∈ o.after, Region.binds .any e = true → L.getD e.on false = true
theorem ready_iff {ops : Array Oper} {L : Array Bool} {i : Nat} {o : Oper} (hL : L.size = ops.size) (ho : ops[i]? = some o) : i ∈ Region.ready .any ops L ↔ L.getD i false = false ∧ Go1 ops L o := by
  have hi := (Array.getElem?_eq_some_iff.1 ho).1
  rw [mem_ready, getD_true]
  constructor
  · rintro ⟨⟨_, h1⟩, o2, h2, h3⟩
    rw [ho] at h2; cases h2
    exact ⟨h1, h3⟩
  · rintro ⟨h1, h2⟩
    exact ⟨⟨by omega, h1⟩, o, ho, h2⟩
theorem ready_some {ops : Array Oper} {L : Array Bool} {i : Nat} (h : i ∈ Region.ready .any ops L) : ∃ o, ops[i]? = some o := by
  obtain ⟨_, o, ho, _⟩ := mem_ready.1 h; exact ⟨o, ho⟩
/-- As long as the same operations are ready, the numbers do not matter. -/
theorem wpAny_ren {ops ops' : Array Oper} {p : Nat → Nat} (hr : Ren ops ops' p) (Inv : Array Bool → Prop) (hInv : ∀ L i, Inv L → Inv (L.setIfInBounds i true))
    (hgo : ∀ L L', RelL ops.size p L L' → Inv L → ∀ i o o', ops[i]? = some o → ops'[p i]? = some o' → (Go1 ops L o ↔ Go1 ops' L' o')) :
    ∀ (fuel : Nat) (L L' : Array Bool) (a : Act) (w : World), RelL ops.size p L L' → Inv L → wpAny P .any ops' Q fuel L' a w → wpAny P .any ops Q fuel L a w := by
  have key : ∀ L L', RelL ops.size p L L' → Inv L → ∀ i, i ∈ Region.ready .any ops L → p i ∈ Region.ready .any ops' L' := by
    intro L L' hL hI i hi
    obtain ⟨o, ho⟩ := ready_some hi
    obtain ⟨o', ho', _, _⟩ := hr.like i o ho
    rw [ready_iff hL.1 ho] at hi
    rw [ready_iff (by rw [hL.2.1, hr.size]) ho', hL.2.2]
    exact ⟨hi.1, (hgo L L' hL hI i o o' ho ho').1 hi.2⟩
  have back : ∀ L L', RelL ops.size p L L' → Inv L → Region.ready .any ops L = [] → Region.ready .any ops' L' = [] := by
    intro L L' hL hI h
    refine List.eq_nil_iff_forall_not_mem.2 fun j hj => ?_
    obtain ⟨i, rfl⟩ := hr.sur j
    obtain ⟨o', ho'⟩ := ready_some hj
    have hlt : i < ops.size := (hr.lt i).1 (by rw [← hr.size]; exact (Array.getElem?_eq_some_iff.1 ho').1)
    obtain ⟨o2, ho2, _, _⟩ := hr.like i ops[i] (by simp [hlt])
    rw [ho'] at ho2; cases ho2
    rw [ready_iff (by rw [hL.2.1, hr.size]) ho', hL.2.2] at hj
    have : i ∈ Region.ready .any ops L := (ready_iff (o := ops[i]) hL.1 (by simp [hlt])).2 ⟨hj.1, (hgo L L' hL hI i _ _ (by simp [hlt]) ho').2 hj.2⟩
    rw [h] at this; cases this
  intro fuel
  induction fuel with
  | zero =>
    intro L L' a w hL hI h
    unfold wpAny at *
    refine ⟨List.eq_nil_iff_forall_not_mem.2 fun i hi => ?_, h.2⟩
    have := key L L' hL hI i hi
    rw [h.1] at this; cases this
  | succ n ih =>
    intro L L' a w hL hI h
    unfold wpAny at h ⊢
    refine ⟨fun h0 => h.1 (back L L' hL hI h0), fun i hi => ?_⟩
    obtain ⟨o, ho⟩ := ready_some hi
    obtain ⟨o', ho', hl, hw⟩ := hr.like i o ho
    exact wpOp_like ho ho' hl (hw _) (wpOp_mono (fun a w => ih _ _ a w (hL.set hr.lt hr.inj i) (hInv L i hI)) (h.2 _ (key L L' hL hI i hi)))
theorem wp_both {o : Oper} (hp : plainOp o.op = true) {a : Act} {w : World} {K1 K2 : Act → World → Prop} (h1 : o.wp P a w K1 Q) (h2 : o.wp P a w K2 Q) : o.wp P a w (fun a w => K1 a w ∧ K2 a w) Q := by
  have hpl := plain_exec P o hp a.eval w
  unfold Oper.wp at *
  generalize (execOp a.eval o).run P w = r at *
  cases r with
  | halt x w' => cases x <;> simp only [Oper.upon] at h1 ⊢ <;> exact h1
  | ok n w' =>
    cases n <;> simp only [plainRes] at hpl <;> simp only [Oper.upon] at h1 h2 ⊢
    · exact ⟨h1, h2⟩
    · exact ⟨h1, h2⟩
theorem wpOp_both {ops : Array Oper} {i : Nat} {o : Oper} (ho : ops[i]? = some o) (hp : plainOp o.op = true) {a : Act} {w : World} {K1 K2 : Act → World → Prop} (h1 : wpOp P ops Q i K1 a w) (h2 : wpOp P ops Q i K2 a w) : wpOp P ops Q i (fun a w => K1 a w ∧ K2 a w) a w := by
  unfold wpOp at *
  rw [ho] at h1 h2 ⊢
  simp only at h1 h2 ⊢
  split
  · rename_i hh
    rw [if_pos hh] at h1 h2
    rcases h1 with h1 | h1
    · rcases h2 with h2 | h2
      · exact .inl (wp_both hp h1 h2)
      · exact .inr h2
    · exact .inr h1
  · rename_i hh
    rw [if_neg hh] at h1 h2
    exact ⟨h1, h2⟩
/-- A region whose orders are those of two others: in the one `f` waits for `c`, in the other `c` for `f`. -/
theorem wpAny_two {ops ops1 ops2 : Array Oper} {p1 p2 : Nat → Nat} {c f : Nat} (hr1 : Ren ops ops1 p1) (hr2 : Ren ops ops2 p2) (hcf : c ≠ f)
    (e1 : ∀ L L', RelL ops.size p1 L L' → ∀ i o o', ops[i]? = some o → ops1[p1 i]? = some o' → (Go1 ops1 L' o' ↔ Go1 ops L o ∧ (i = f → L.getD c false = true)))
    (e2 : ∀ L L', RelL ops.size p2 L L' → ∀ i o o', ops[i]? = some o → ops2[p2 i]? = some o' → (Go1 ops2 L' o' ↔ Go1 ops L o ∧ (i = c → L.getD f false = true)))
    (hpl : ∀ i o, ops[i]? = some o → i ≠ c → i ≠ f → plainOp o.op = true ∨ ∃ e ∈ o.after, Region.binds .any e = true ∧ (e.on = c ∨ e.on = f)) :
    ∀ (fuel : Nat) (L L1 L2 : Array Bool) (a : Act) (w : World), RelL ops.size p1 L L1 → RelL ops.size p2 L L2 → L.getD c false = false → L.getD f false = false → wpAny P .any ops1 Q fuel L1 a w → wpAny P .any ops2 Q fuel L2 a w → wpAny P .any ops Q fuel L a w := by
  have r1 : ∀ L L', RelL ops.size p1 L L' → ∀ i, i ∈ Region.ready .any ops L → (i = f → L.getD c false = true) → p1 i ∈ Region.ready .any ops1 L' := by
    intro L L' hL i hi hx
    obtain ⟨o, ho⟩ := ready_some hi
    obtain ⟨o', ho', _, _⟩ := hr1.like i o ho
    rw [ready_iff hL.1 ho] at hi
    rw [ready_iff (by rw [hL.2.1, hr1.size]) ho', hL.2.2]
    exact ⟨hi.1, (e1 L L' hL i o o' ho ho').2 ⟨hi.2, hx⟩⟩
  have r2 : ∀ L L', RelL ops.size p2 L L' → ∀ i, i ∈ Region.ready .any ops L → (i = c → L.getD f false = true) → p2 i ∈ Region.ready .any ops2 L' := by
    intro L L' hL i hi hx
    obtain ⟨o, ho⟩ := ready_some hi
    obtain ⟨o', ho', _, _⟩ := hr2.like i o ho
    rw [ready_iff hL.1 ho] at hi
    rw [ready_iff (by rw [hL.2.1, hr2.size]) ho', hL.2.2]
    exact ⟨hi.1, (e2 L L' hL i o o' ho ho').2 ⟨hi.2, hx⟩⟩
  have b1 : ∀ L L', RelL ops.size p1 L L' → Region.ready .any ops L = [] → Region.ready .any ops1 L' = [] := by
    intro L L' hL h
    refine List.eq_nil_iff_forall_not_mem.2 fun j hj => ?_
    obtain ⟨i, rfl⟩ := hr1.sur j
    obtain ⟨o', ho'⟩ := ready_some hj
    have hlt : i < ops.size := (hr1.lt i).1 (by rw [← hr1.size]; exact (Array.getElem?_eq_some_iff.1 ho').1)
    rw [ready_iff (by rw [hL.2.1, hr1.size]) ho', hL.2.2] at hj
    have : i ∈ Region.ready .any ops L := (ready_iff (o := ops[i]) hL.1 (by simp [hlt])).2 ⟨hj.1, ((e1 L L' hL i _ _ (by simp [hlt]) ho').1 hj.2).1⟩
    rw [h] at this; cases this
  intro fuel
  induction fuel with
  | zero =>
    intro L L1 L2 a w hL1 hL2 hc hf h1 h2
    unfold wpAny at *
    refine ⟨List.eq_nil_iff_forall_not_mem.2 fun i hi => ?_, h1.2⟩
    by_cases e : i = f
    · have := r2 L L2 hL2 i hi (fun e2 => absurd (e2.symm.trans e) hcf)
      rw [h2.1] at this; cases this
    · have := r1 L L1 hL1 i hi (fun e2 => absurd e2 e)
      rw [h1.1] at this; cases this
  | succ n ih =>
    intro L L1 L2 a w hL1 hL2 hc hf h1 h2
    unfold wpAny at h1 h2 ⊢
    refine ⟨fun h0 => h1.1 (b1 L L1 hL1 h0), fun i hi => ?_⟩
    obtain ⟨o, ho⟩ := ready_some hi
    have hlt := (Array.getElem?_eq_some_iff.1 ho).1
    have hset : (L.setIfInBounds i true).getD i false = true := by
      have := hL1.1
      simp [Array.getD_eq_getD_getElem?, Array.getElem?_setIfInBounds, this, hlt]
    by_cases ec : i = c
    · subst ec
      obtain ⟨o', ho', hl, hw⟩ := hr1.like i o ho
      refine wpOp_like ho ho' hl (hw _) (wpOp_mono (fun a w => wpAny_ren hr1 (fun L => L.getD i false = true) (fun L j hh => ?_) (fun L L' hL hI j o o' hj hj' => ?_) _ _ _ a w (hL1.set hr1.lt hr1.inj i) hset) (h1.2 _ (r1 L L1 hL1 i hi (fun e2 => absurd e2 hcf))))
      · by_cases hj : j = i
        · subst hj
          have hi2 : j < L.size := by
            rcases Nat.lt_or_ge j L.size with h | h
            · exact h
            · simp [Array.getD, Nat.not_lt.2 h] at hh
          simp [Array.getD_eq_getD_getElem?, Array.getElem?_setIfInBounds, hi2]
        · rw [Array.getD_eq_getD_getElem?, Array.getElem?_setIfInBounds_ne hj, ← Array.getD_eq_getD_getElem?]; exact hh
      · rw [e1 L L' hL j o o' hj hj']
        exact ⟨fun h => ⟨h, fun _ => hI⟩, fun h => h.1⟩
    · by_cases ef : i = f
      · subst ef
        obtain ⟨o', ho', hl, hw⟩ := hr2.like i o ho
        refine wpOp_like ho ho' hl (hw _) (wpOp_mono (fun a w => wpAny_ren hr2 (fun L => L.getD i false = true) (fun L j hh => ?_) (fun L L' hL hI j o o' hj hj' => ?_) _ _ _ a w (hL2.set hr2.lt hr2.inj i) hset) (h2.2 _ (r2 L L2 hL2 i hi (fun e2 => absurd e2 ec))))
        · by_cases hj : j = i
          · subst hj
            have hi2 : j < L.size := by
              rcases Nat.lt_or_ge j L.size with h | h
              · exact h
              · simp [Array.getD, Nat.not_lt.2 h] at hh
            simp [Array.getD_eq_getD_getElem?, Array.getElem?_setIfInBounds, hi2]
          · rw [Array.getD_eq_getD_getElem?, Array.getElem?_setIfInBounds_ne hj, ← Array.getD_eq_getD_getElem?]; exact hh
        · rw [e2 L L' hL j o o' hj hj']
          exact ⟨fun h => ⟨h, fun _ => hI⟩, fun h => h.1⟩
      · have hg := ((ready_iff hL1.1 ho).1 hi).2
        have hp : plainOp o.op = true := by
          rcases hpl i o ho ec ef with h | ⟨e, he, hb, h⟩
          · exact h
          · have := hg e he hb
            rcases h with h | h
            · rw [h, hc] at this; cases this
            · rw [h, hf] at this; cases this
        obtain ⟨o1, ho1, hl1, hw1⟩ := hr1.like i o ho
        obtain ⟨o2, ho2, hl2, hw2⟩ := hr2.like i o ho
        have k1 := wpOp_like ho ho1 hl1 (hw1 _) (h1.2 _ (r1 L L1 hL1 i hi (fun e2 => absurd e2 ef)))
        have k2 := wpOp_like ho ho2 hl2 (hw2 _) (h2.2 _ (r2 L L2 hL2 i hi (fun e2 => absurd e2 ec)))
        refine wpOp_mono (fun a w hh => ih _ _ _ a w (hL1.set hr1.lt hr1.inj i) (hL2.set hr2.lt hr2.inj i) ?_ ?_ hh.1 hh.2) (wpOp_both ho hp k1 k2)
        · rw [Array.getD_eq_getD_getElem?, Array.getElem?_setIfInBounds_ne ec, ← Array.getD_eq_getD_getElem?]; exact hc
        · rw [Array.getD_eq_getD_getElem?, Array.getElem?_setIfInBounds_ne ef, ← Array.getD_eq_getD_getElem?]; exact hf
def renI (c f i : Nat) : Nat := if i = f then c else if c ≤ i ∧ i < f then i + 1 else i
def addA (o : Oper) (on : Nat) : Oper := { o with after := o.after.push ⟨on, .data⟩ }
def renO (c f : Nat) (o : Oper) : Oper := { o with after := o.after.map (fun e => { e with on := renI c f e.on }), guard := o.guard.map fun g => (renI c f g.1, g.2) }
def ops1L (l : List Oper) (c f : Nat) : List Oper := l.mapIdx fun i o => if i = f then addA o c else o
/-- `f` ahead of `c`. -/
def order2 (l : List Oper) (c f : Nat) : List Oper := l.take c ++ ((l.drop f).take 1 ++ ((l.drop c).take (f - c) ++ l.drop (f + 1)))
def ops2L (l : List Oper) (c f : Nat) : List Oper := (order2 l c f).mapIdx fun k o => renO c f (if k = c + 1 then addA o f else o)
def splitB (l : List Oper) (c f : Nat) : Bool := decide (c < f) && decide (f < l.length) && (List.range l.length).all fun i => match l[i]? with
  | none => true
  | some o => (i == c || i == f || plainOp o.op || o.after.toList.any fun e => Region.binds .any e && (e.on == c || e.on == f)) && (match o.guard with | none => true | some g => decide (g.1 < c))

theorem addA_like (o : Oper) (on : Nat) : Like o (addA o on) := ⟨rfl, rfl, rfl⟩
theorem renO_like (c f : Nat) (o : Oper) : Like o (renO c f o) := ⟨rfl, rfl, rfl⟩
theorem ite_like {o : Oper} {q : Prop} [Decidable q] {x : Oper} (h : Like o x) : Like o (if q then x else o) := by split; exact h; exact Like.refl o
theorem Like.trans {a b c : Oper} (h : Like a b) (k : Like b c) : Like a c := ⟨k.op.trans h.op, k.dst.trans h.dst, k.type.trans h.type⟩
theorem go_addA {ops : Array Oper} {L : Array Bool} {o : Oper} {on : Nat} : Go1 ops L (addA o on) ↔ Go1 ops L o ∧ L.getD on false = true := by
  unfold Go1 addA
  simp only [Array.mem_push]
  constructor
  · exact fun h => ⟨fun e he => h e (.inl he), h ⟨on, .data⟩ (.inr rfl) rfl⟩
  · rintro ⟨h1, h2⟩ e (he | rfl) hb
    · exact h1 e he hb
    · exact h2
section
variable {l : List Oper} {c f : Nat}
theorem ops1_get (i : Nat) : (ops1L l c f)[i]? = (l[i]?).map fun o => if i = f then addA o c else o := by
  simp [ops1L, List.getElem?_mapIdx]
theorem ops1_dst (i : Nat) : ((ops1L l c f).toArray[i]?).bind (·.dst) = (l.toArray[i]?).bind (·.dst) := by
  simp only [List.getElem?_toArray, ops1_get]
  cases l[i]? with
  | none => rfl
  | some o => simp only [Option.map_some, Option.bind_some]; split <;> rfl
theorem ren1 : Ren l.toArray (ops1L l c f).toArray (fun i => i) := by
  refine ⟨by simp [ops1L], fun i => Iff.rfl, fun _ _ h => h, fun j => ⟨j, rfl⟩, fun i o ho => ?_⟩
  refine ⟨if i = f then addA o c else o, by simp only [List.getElem?_toArray] at ho ⊢; rw [ops1_get, ho]; rfl, ite_like (addA_like o c), fun tmps => ?_⟩
  have hy : ∀ j, yielded (ops1L l c f).toArray tmps j = yielded l.toArray tmps j := fun j => by unfold yielded; rw [ops1_dst]
  have hg : (if i = f then addA o c else o).guard = o.guard := by split <;> rfl
  unfold Region.wanted
  rw [hg]
  cases o.guard with
  | none => rfl
  | some g => simp only [hy]
theorem e1 (L L' : Array Bool) (hL : RelL l.toArray.size (fun i => i) L L') (i : Nat) (o o' : Oper) (ho : l.toArray[i]? = some o) (ho' : (ops1L l c f).toArray[i]? = some o') :
    Go1 (ops1L l c f).toArray L' o' ↔ Go1 l.toArray L o ∧ (i = f → L.getD c false = true) := by
  simp only [List.getElem?_toArray] at ho ho'
  rw [ops1_get, ho] at ho'
  simp only [Option.map_some, Option.some.injEq] at ho'
  subst ho'
  have hs : ∀ x, Go1 (ops1L l c f).toArray L' x ↔ Go1 l.toArray L x := fun x => by
    unfold Go1
    exact ⟨fun h e he hb => (hL.2.2 e.on) ▸ h e he hb, fun h e he hb => (hL.2.2 e.on).symm ▸ h e he hb⟩
  rw [hs]
  by_cases e : i = f
  · rw [if_pos e, go_addA]; exact ⟨fun h => ⟨h.1, fun _ => h.2⟩, fun h => ⟨h.1, h.2 e⟩⟩
  · rw [if_neg e]; exact ⟨fun h => ⟨h, fun h2 => absurd h2 e⟩, fun h => h.1⟩
theorem renI_lt (hc : c < f) (hf : f < l.length) (i : Nat) : renI c f i < l.length ↔ i < l.length := by unfold renI; split <;> (try split) <;> omega
theorem renI_inj (hc : c < f) (i j : Nat) (h : renI c f i = renI c f j) : i = j := by
  unfold renI at h
  split at h <;> split at h <;> (try split at h) <;> (try split at h) <;> omega
theorem renI_sur (hc : c < f) (j : Nat) : ∃ i, renI c f i = j := by
  by_cases h1 : j = c
  · exact ⟨f, by unfold renI; simp [h1]⟩
  · by_cases h2 : c < j ∧ j ≤ f
    · exact ⟨j - 1, by unfold renI; rw [if_neg (by omega), if_pos (by omega)]; omega⟩
    · exact ⟨j, by unfold renI; rw [if_neg (by omega), if_neg (by omega)]⟩
theorem order2_len (hc : c < f) (hf : f < l.length) : (order2 l c f).length = l.length := by
  simp [order2]; omega
theorem order2_get (hc : c < f) (hf : f < l.length) (i : Nat) : (order2 l c f)[renI c f i]? = l[i]? := by
  have hl1 : (l.take c).length = c := by simp; omega
  have hl2 : ((l.drop f).take 1).length = 1 := by simp; omega
  have hl3 : ((l.drop c).take (f - c)).length = f - c := by simp; omega
  unfold order2 renI
  by_cases h1 : i = f
  · subst h1
    rw [if_pos rfl, List.getElem?_append_right (by omega), hl1, Nat.sub_self, List.getElem?_append_left (by omega), List.getElem?_take_of_lt (by omega), List.getElem?_drop]; rfl
  · rw [if_neg h1]
    by_cases h2 : c ≤ i ∧ i < f
    · rw [if_pos h2, List.getElem?_append_right (by omega), hl1, List.getElem?_append_right (by omega), hl2, List.getElem?_append_left (by omega), List.getElem?_take_of_lt (by omega), List.getElem?_drop]
      congr 1; omega
    · rw [if_neg h2]
      rcases Nat.lt_or_ge i c with h3 | h3
      · rw [List.getElem?_append_left (by omega), List.getElem?_take_of_lt h3]
      · rw [List.getElem?_append_right (by omega), hl1, List.getElem?_append_right (by omega), hl2, List.getElem?_append_right (by omega), hl3, List.getElem?_drop]
        congr 1; omega
theorem ops2_get (hc : c < f) (hf : f < l.length) (i : Nat) : (ops2L l c f)[renI c f i]? = (l[i]?).map fun o => renO c f (if i = c then addA o f else o) := by
  unfold ops2L
  rw [List.getElem?_mapIdx, order2_get hc hf]
  have : renI c f i = c + 1 ↔ i = c := by
    unfold renI
    split
    · omega
    · split <;> omega
  simp only [this]
theorem ops2_dst (hc : c < f) (hf : f < l.length) (i : Nat) : ((ops2L l c f).toArray[renI c f i]?).bind (·.dst) = (l.toArray[i]?).bind (·.dst) := by
  simp only [List.getElem?_toArray, ops2_get hc hf]
  cases l[i]? with
  | none => rfl
  | some o => simp only [Option.map_some, Option.bind_some]; split <;> rfl
theorem ren2 (hc : c < f) (hf : f < l.length) : Ren l.toArray (ops2L l c f).toArray (renI c f) := by
  refine ⟨by simp [ops2L, order2_len hc hf], fun i => by simpa using renI_lt hc hf i, renI_inj hc, renI_sur hc, fun i o ho => ?_⟩
  refine ⟨renO c f (if i = c then addA o f else o), by simp only [List.getElem?_toArray] at ho ⊢; rw [ops2_get hc hf, ho]; rfl, (ite_like (addA_like o f)).trans (renO_like c f _), fun tmps => ?_⟩
  have hy : ∀ j, yielded (ops2L l c f).toArray tmps (renI c f j) = yielded l.toArray tmps j := fun j => by unfold yielded; rw [ops2_dst hc hf]
  have hg : (renO c f (if i = c then addA o f else o)).guard = o.guard.map fun g => (renI c f g.1, g.2) := by split <;> rfl
  unfold Region.wanted
  rw [hg]
  cases o.guard with
  | none => rfl
  | some g => simp only [Option.map_some, hy]
theorem e2 (hc : c < f) (hf : f < l.length) (L L' : Array Bool) (hL : RelL l.toArray.size (renI c f) L L') (i : Nat) (o o' : Oper) (ho : l.toArray[i]? = some o) (ho' : (ops2L l c f).toArray[renI c f i]? = some o') :
    Go1 (ops2L l c f).toArray L' o' ↔ Go1 l.toArray L o ∧ (i = c → L.getD f false = true) := by
  simp only [List.getElem?_toArray] at ho ho'
  rw [ops2_get hc hf, ho] at ho'
  simp only [Option.map_some, Option.some.injEq] at ho'
  subst ho'
  have hs : ∀ x, Go1 (ops2L l c f).toArray L' (renO c f x) ↔ Go1 l.toArray L x := fun x => by
    unfold Go1 renO
    simp only [Array.mem_map, forall_exists_index, and_imp, forall_apply_eq_imp_iff₂]
    exact ⟨fun h e he hb => (hL.2.2 e.on) ▸ h e he hb, fun h e he hb => (hL.2.2 e.on).symm ▸ h e he hb⟩
  rw [hs]
  by_cases e : i = c
  · rw [if_pos e, go_addA]; exact ⟨fun h => ⟨h.1, fun _ => h.2⟩, fun h => ⟨h.1, h.2 e⟩⟩
  · rw [if_neg e]; exact ⟨fun h => ⟨h, fun h2 => absurd h2 e⟩, fun h => h.1⟩
end
theorem wpAny_chain {l : List Oper} {a : Act} {w : World} (lo st : Nat → Bool) (T : Nat → Nat → Prop) (hB : okB l.toArray = true) (hC : chainB l.toArray lo st = true)
    (h : cwalk P l.toArray lo st T w (fun a' w' => Q .normal a' w') l 0 a w) : wpAny P .any l.toArray Q l.toArray.size (Array.replicate l.toArray.size false) a w := by
  have hok := ok_of hB
  have hch := chain_of hC
  have hlex0 : ∀ u, lex l.toArray a u 0 = a := fun u => (fill_congr (v' := u) (S' := fun _ => false) _ 0 _ (fun j _ _ => ⟨by simp, fun _ => rfl⟩)).trans (fill_none _ 0 _)
  obtain ⟨u, _, e2, e3, e4, e5⟩ := unroll (P := P) (lo := lo) (st := st) (T := T) (w0 := w) (Q := fun a' w' => Q .normal a' w') (a0 := a) hok l 0 (fun _ => undef) w (by simp) (by rw [hlex0]; exact h)
  have hno : ∀ j, (Array.replicate l.toArray.size false).getD j false = false := fun j => by
    simp only [Array.getD_eq_getD_getElem?, Array.getElem?_replicate]
    split <;> rfl
  refine chain_any (Q := fun a' w' => Q .normal a' w') (a0 := a) hok hch (fun _ _ h => h) _ _ _ _ 0 u ⟨by simp, fun i o _ hi => ?_, KeepsP.refl _ _, ?_, fun j _ _ => ?_, fun j hj => by omega, fun j h1 h2 => e2 j (by omega) h1 h2, e3, e4, e5⟩ ?_
  · rw [hno] at hi; cases hi
  · refine ((fill_congr (v' := u) (S' := fun _ => false) _ 0 _ (fun j _ _ => ⟨by simp only [hno], fun _ => rfl⟩)).trans (fill_none _ 0 _)).symm
  · rw [hno]; simp
  · unfold count
    rw [List.countP_eq_length.2 (fun i hi => ?_)]
    · simp
    · rw [hno]; rfl
theorem Like.quiet {o o' : Oper} (h : Like o o') {a : Act} {w : World} {v : Value} (hq : Quiet P o a w v) : Quiet P o' a w v := by
  unfold Quiet at *
  obtain ⟨d, op, t, p, af, g⟩ := o
  obtain ⟨d', op', t', p', af', g'⟩ := o'
  obtain ⟨h1, h2, h3⟩ := h
  simp only at h1 h2 h3
  subst h1 h2 h3
  exact hq
theorem Like.symm {o o' : Oper} (h : Like o o') : Like o' o := ⟨h.op.symm, h.dst.symm, h.type.symm⟩
theorem cwalk_like {ops : Array Oper} {lo st : Nat → Bool} {T : Nat → Nat → Prop} {w0 : World} {R : Act → World → Prop} : ∀ (r r' : List Oper) (i : Nat) (a : Act) (w : World), r.length = r'.length →
    (∀ (j : Nat) (o o' : Oper), r[j]? = some o → r'[j]? = some o' → Like o o' ∧ ∀ tmps, Region.wanted o' (yielded ops tmps) = Region.wanted o (yielded ops tmps)) → cwalk P ops lo st T w0 R r i a w → cwalk P ops lo st T w0 R r' i a w
  | [], [], _, _, _, _, _, h => h
  | [], _ :: _, _, _, _, hl, _, _ => by cases hl
  | _ :: _, [], _, _, _, hl, _, _ => by cases hl
  | o :: r, o' :: r', i, a, w, hl, hr, h => by
    obtain ⟨h1, h2⟩ := hr 0 o o' rfl rfl
    have ih := fun (a : Act) (w : World) => cwalk_like (ops := ops) (lo := lo) (st := st) (T := T) (w0 := w0) (R := R) r r' (i + 1) a w (by simpa using hl) (fun j x y hx hy => hr (j + 1) x y (by simpa using hx) (by simpa using hy))
    unfold cwalk at h ⊢
    rw [h2]
    split
    · rename_i hh
      rw [if_pos hh] at h
      split
      · rename_i h3
        rw [if_pos h3] at h
        exact h1.symm.wp (Oper.wp_mono (fun a w hw => ⟨hw.1, hw.2.1, ih _ _ hw.2.2⟩) h)
      · rename_i h3
        rw [if_neg h3] at h
        rw [h1.dst]
        split
        · rename_i h4
          rw [if_pos h4] at h
          obtain ⟨c, h5, h6⟩ := h
          exact ⟨c, fun w' hw => h1.quiet (h5 w' hw), ih _ _ h6⟩
        · rename_i h4
          rw [if_neg h4] at h
          obtain ⟨c, h5, h6⟩ := h
          exact ⟨c, h1.quiet h5, ih _ _ h6⟩
    · rename_i hh
      rw [if_neg hh] at h
      rw [h1.dst]
      exact ih _ _ h
/-- A region with two acting operations `c` and `f` (in the text `c` is first) that no edge orders: once in the order of the text, once with `f` ahead of `c`. -/
theorem wp_region_float {id : Nat} {l : List Oper} {a : Act} {w : World} {Q' : Exit → Act → World → Prop} (c f : Nat) (lo st : Nat → Bool) (T : Nat → Nat → Prop) (lo2 st2 : Nat → Bool) (T2 : Nat → Nat → Prop) (hm : P.follows .mixedOrders = true) (hS : splitB l c f = true)
    (hB1 : okB (ops1L l c f).toArray = true) (hC1 : chainB (ops1L l c f).toArray lo st = true) (hB2 : okB (ops2L l c f).toArray = true) (hC2 : chainB (ops2L l c f).toArray lo2 st2 = true)
    (h1 : cwalk P (ops1L l c f).toArray lo st T w.drew (fun a' w' => Q' .normal a' w') l 0 a w.drew)
    (h2 : cwalk P (ops2L l c f).toArray lo2 st2 T2 w.drew (fun a' w' => Q' .normal a' w') (order2 l c f) 0 a w.drew) : (Code.region id l.toArray true).wp P Q' a w := by
  refine wp_region_any hm ?_
  unfold splitB at hS
  simp only [Bool.and_eq_true, decide_eq_true_eq] at hS
  obtain ⟨⟨hc, hf⟩, hall⟩ := hS
  have hop : ∀ (i : Nat) (o : Oper), l[i]? = some o → (i = c ∨ i = f ∨ plainOp o.op = true ∨ ∃ e ∈ o.after, Region.binds .any e = true ∧ (e.on = c ∨ e.on = f)) ∧ ∀ g, o.guard = some g → g.1 < c := by
    intro i o ho
    have := List.all_eq_true.1 hall i (List.mem_range.2 (List.getElem?_eq_some_iff.1 ho).1)
    rw [ho] at this
    simp only [Bool.and_eq_true, Bool.or_eq_true, beq_iff_eq, List.any_eq_true] at this
    refine ⟨?_, fun g hg => ?_⟩
    · rcases this.1 with ((h | h) | h) | ⟨e, he, h⟩
      · exact .inl h
      · exact .inr (.inl h)
      · exact .inr (.inr (.inl h))
      · exact .inr (.inr (.inr ⟨e, by simpa using he, h.1, h.2⟩))
    · have h2 := this.2
      rw [hg] at h2
      simpa using h2
  have hn1 : (ops1L l c f).toArray.size = l.toArray.size := (ren1 (l := l) (c := c) (f := f)).size
  have hn2 : (ops2L l c f).toArray.size = l.toArray.size := (ren2 hc hf).size
  have hren : ∀ g, g < c → renI c f g = g := fun g hg => by unfold renI; rw [if_neg (by omega), if_neg (by omega)]
  have g1 : cwalk P (ops1L l c f).toArray lo st T w.drew (fun a' w' => Q' .normal a' w') (ops1L l c f) 0 a w.drew := by
    refine cwalk_like l _ 0 a w.drew (by simp [ops1L]) (fun j o o' ho ho' => ?_) h1
    rw [ops1_get, ho] at ho'
    simp only [Option.map_some, Option.some.injEq] at ho'
    subst ho'
    refine ⟨ite_like (addA_like o c), fun tmps => ?_⟩
    have hg : (if j = f then addA o c else o).guard = o.guard := by split <;> rfl
    unfold Region.wanted
    rw [hg]
  have g2 : cwalk P (ops2L l c f).toArray lo2 st2 T2 w.drew (fun a' w' => Q' .normal a' w') (ops2L l c f) 0 a w.drew := by
    refine cwalk_like (order2 l c f) _ 0 a w.drew (by simp [ops2L]) (fun j o o' ho ho' => ?_) h2
    unfold ops2L at ho'
    rw [List.getElem?_mapIdx, ho] at ho'
    simp only [Option.map_some, Option.some.injEq] at ho'
    subst ho'
    refine ⟨(ite_like (addA_like o f)).trans (renO_like c f _), fun tmps => ?_⟩
    obtain ⟨i, rfl⟩ := renI_sur hc j
    rw [order2_get hc hf] at ho
    have hgd := (hop i o ho).2
    have hg : (renO c f (if renI c f i = c + 1 then addA o f else o)).guard = o.guard := by
      have : (renO c f (if renI c f i = c + 1 then addA o f else o)).guard = o.guard.map fun g => (renI c f g.1, g.2) := by split <;> rfl
      rw [this]
      cases hh : o.guard with
      | none => rfl
      | some g => simp only [Option.map_some]; rw [hren _ (hgd g hh)]
    unfold Region.wanted
    rw [hg]
  have k1 := wpAny_chain lo st T hB1 hC1 g1
  have k2 := wpAny_chain lo2 st2 T2 hB2 hC2 g2
  rw [hn1] at k1
  rw [hn2] at k2
  have hno : ∀ n j, (Array.replicate n false).getD j false = false := fun n j => by
    simp only [Array.getD_eq_getD_getElem?, Array.getElem?_replicate]
    split <;> rfl
  refine wpAny_two (ren1 (l := l) (c := c) (f := f)) (ren2 hc hf) (by omega) e1 (e2 hc hf) (fun i o ho h3 h4 => ?_) _ _ _ _ a _ ⟨by simp, by simp, fun i => rfl⟩ ⟨by simp, by simp, fun i => (hno _ _).trans (hno _ _).symm⟩ (hno _ _) (hno _ _) k1 k2
  rcases (hop i o (by simpa using ho)).1 with h | h | h | h
  · exact absurd h h3
  · exact absurd h h4
  · exact .inl h
  · exact .inr h
end Free
end Go.Proofs.YtblaaafpglomnaaGreat

namespace Go.Proofs.YtblaaafpglomnaaGreat
open Go.RowKit Go

theorem frz {w : World} {b : Nat} {xs : Array Value} {t : TypeId} (h : w.heap[b]? = some (.cells xs t (0, 0))) : ∀ o, w.frozen? ⟨b, o, none⟩ = false := fun o => by simp [World.frozen?, h]
set_option maxRecDepth 100000 in
set_option maxHeartbeats 4000000 in
theorem add_c (w : World) (bt bm : Nat) (S : List Rw) (x : En) (h : Int) (t : TM w bt bm S) (hx : x.ok) (hw : W64 h) (hl : S.length ≤ 1024) :
    Calls Tryz.prog 32 #[.pointer (some ⟨bt, 0, none⟩), enV x, .int .i64 h] w fun e w' => e = .returned (.int .i64 (addS x h S).1) ∧ TM w' bt bm (addS x h S).2 ∧ Keeps [bm] w w' := by
  have hky : kOk x.key := ⟨hx.cl, hx.n⟩
  obtain ⟨cl, n, im, is, o, i, d, tc, wk, gb, lm, ls⟩ := x
  have hkA : Keeps [] w (w.alloc (.cells #[.int .i64 cl, .int .u64 n, .int .i64 im, .int .i64 is, .int .i64 o, .int .i64 i, .int .i64 d, .bool tc, .bool wk, .bool gb, .int .i64 lm, .int .i64 ls] tE)) := (Keeps.refl _ _).alloc _
  have hbA := heap_alloc_new w (.cells #[.int .i64 cl, .int .u64 n, .int .i64 im, .int .i64 is, .int .i64 o, .int .i64 i, .int .i64 d, .bool tc, .bool wk, .bool gb, .int .i64 lm, .int .i64 ls] tE)
  have hltA := lt_of_blk hbA
  have hcv := fun W => valid_c W ⟨cl, n, im, is, o, i, d, tc, wk, gb, lm, ls⟩
  have hof := fun W => of_c W ⟨cl, n, im, is, o, i, d, tc, wk, gb, lm, ls⟩
  have hadd : addS ⟨cl, n, im, is, o, i, d, tc, wk, gb, lm, ls⟩ h S = if En.val ⟨cl, n, im, is, o, i, d, tc, wk, gb, lm, ls⟩ = false ∨ h < 1 then (1, S) else if (fnd (cl, n) S).isSome = true then (5, S) else if 1024 ≤ S.length then (8, S) else (0, ins (⟨cl, n, im, is, o, i, d, tc, wk, gb, lm, ls⟩, h) S) := rfl
  obtain ⟨vv, hvv⟩ : ∃ b, En.val ⟨cl, n, im, is, o, i, d, tc, wk, gb, lm, ls⟩ = b := ⟨_, rfl⟩
  obtain ⟨X, hX⟩ : ∃ X, w.heap.size = X := ⟨_, rfl⟩
  obtain ⟨R, hR⟩ : ∃ R, addS ⟨cl, n, im, is, o, i, d, tc, wk, gb, lm, ls⟩ h S = R := ⟨_, rfl⟩
  simp only [hvv] at hcv hadd
  rw [hX] at hbA hltA
  rw [hR] at hadd ⊢
  have hxl : ∀ b, b < X → b < w.heap.size := fun b hb => by omega
  have hlt0 := t.lt
  rw [hX] at hlt0
  replace hcv := Lib.hid hcv
  replace hof := Lib.hid hof
  replace hadd := Lib.hid hadd
  replace hkA := Lib.hid hkA
  replace hbA := Lib.hid hbA
  replace t := Lib.hid t
  replace hky := Lib.hid hky
  clear hvv hR hx
  simp only [En.key] at hof hky
  go_enter Tryz.func32, Tryz.ntmps32
  go_wp2_with fail
  refine (hcv.out _).mono ?_
  rintro e w1 ⟨rfl, hk1⟩
  have hb1 := (hk1.block X hltA (by simp)).trans hbA.out
  have hk01 := hkA.out.trans hk1
  have hz1 : X < w1.heap.size := Nat.lt_of_lt_of_le hltA hk1.size
  have t1 := t.out.keeps hk01
  obtain ⟨y0, y1, y2, y3, y4, y5, y6, y7, y8, y9, y10, y11, _⟩ := cells12 hb1
  have d7 := t1.cell
  have hlk := fun (w' : World) (hb : w'.heap[bm]? = w1.heap[bm]?) => t1.look (cl, n) hky.out w' hb
  have hlen := fun (w' : World) (hb : w'.heap[bm]? = w1.heap[bm]?) ty => t1.len ty w' hb
  have hlt := t1.lt
  replace hk01 := Lib.hid hk01
  replace t1 := Lib.hid t1
  replace hlk := Lib.hid hlk
  replace hlen := Lib.hid hlen
  replace hb1 := Lib.hid hb1
  clear hk1 hkA hbA hcv t hltA hxl
  cases vv with
  | false =>
    have hr := hadd.out.trans (if_pos (.inl rfl))
    subst hr
    go_wp2
    go_ret
    exact ⟨rfl, t1.out, hk01.out.of_nil⟩
  | true =>
  by_cases h1 : 1 ≤ h
  case neg =>
    have d1 : h < 1 := by omega
    have hr := hadd.out.trans (if_pos (.inr d1))
    subst hr
    go_wp2
    go_ret
    exact ⟨rfl, t1.out, hk01.out.of_nil⟩
  have d1 : decide (h < 1) = false := by simp; omega
  have hadd2 := hadd.out.trans (if_neg (fun hh => Or.elim hh (fun e => by cases e) (fun e => by omega)))
  replace hadd2 := Lib.hid hadd2
  clear hadd
  obtain ⟨fr, hfr⟩ : ∃ r, (fnd (cl, n) S).getD (.zero, 0) = r := ⟨_, rfl⟩
  obtain ⟨fb, hfb⟩ : ∃ b, (fnd (cl, n) S).isSome = b := ⟨_, rfl⟩
  have hlk := hlk.out
  have hadd3 := hadd2.out
  rw [hfr, hfb] at hlk
  rw [hfb] at hadd3
  obtain ⟨⟨rcl, rn, rim, ris, ro, ri, rd, rtc, rwk, rgb, rlm, rls⟩, rh⟩ := fr
  simp only [rwV, kyV] at hlk
  replace hlk := Lib.hid hlk
  replace hadd3 := Lib.hid hadd3
  replace hfb := Lib.hid hfb
  clear hfr hadd2
  go_wp2
  refine Free.wp_region_float 5 10 (fun i => i == 5 || i == 10 || i == 11) (fun i => true) (fun j b => j = 11 ∧ w1.heap.size ≤ b) (fun i => i == 5 || i == 6 || i == 11) (fun i => true) (fun j b => j = 11 ∧ w1.heap.size ≤ b) (by kernel_rfl) (by kernel_rfl) (by kernel_rfl) (by kernel_rfl) (by kernel_rfl) (by kernel_rfl) ?_ ?_
  · skip
    (repeat (first | (apply Free.cw_pure rfl rfl; (intro w'; go_simp <;> exact rfl); go_frame) | (apply Free.cw_steady rfl rfl rfl; (intro w' hS2; have z0 := Free.sx_cell hS2 d7 (fun _ _ hT => by omega); have z1 := Free.sx_cell hS2 y0 (fun _ _ hT => by omega); have z2 := Free.sx_cell hS2 y1 (fun _ _ hT => by omega); have z3 := Free.sx_cell hS2 y2 (fun _ _ hT => by omega); have z4 := Free.sx_cell hS2 y3 (fun _ _ hT => by omega); have z5 := Free.sx_cell hS2 y4 (fun _ _ hT => by omega); have z6 := Free.sx_cell hS2 y5 (fun _ _ hT => by omega); have z7 := Free.sx_cell hS2 y6 (fun _ _ hT => by omega); have z8 := Free.sx_cell hS2 y7 (fun _ _ hT => by omega); have z9 := Free.sx_cell hS2 y8 (fun _ _ hT => by omega); have z10 := Free.sx_cell hS2 y9 (fun _ _ hT => by omega); have z11 := Free.sx_cell hS2 y10 (fun _ _ hT => by omega); have z12 := Free.sx_cell hS2 y11 (fun _ _ hT => by omega); have hlk2 := hlk.out w' (hS2.block bm hlt.2 (fun ⟨_, _, hT⟩ => by omega)); go_simp <;> exact rfl); go_frame)))
    refine Free.cw_loud rfl rfl (fun K hK => ?_)
    go_wp2_with fail
    refine (hof.out _).mono ?_
    rintro e w2 ⟨rfl, hk2⟩
    refine hK _ _ rfl (Free.KeepsP.of hk2 (by simp)) ?_
    clear hK K
    (repeat (first | (apply Free.cw_pure rfl rfl; (intro w'; go_simp <;> exact rfl); go_frame) | (apply Free.cw_steady rfl rfl rfl; (intro w' hS2; have z0 := Free.sx_cell hS2 d7 (fun _ _ hT => by omega); have z1 := Free.sx_cell hS2 y0 (fun _ _ hT => by omega); have z2 := Free.sx_cell hS2 y1 (fun _ _ hT => by omega); have z3 := Free.sx_cell hS2 y2 (fun _ _ hT => by omega); have z4 := Free.sx_cell hS2 y3 (fun _ _ hT => by omega); have z5 := Free.sx_cell hS2 y4 (fun _ _ hT => by omega); have z6 := Free.sx_cell hS2 y5 (fun _ _ hT => by omega); have z7 := Free.sx_cell hS2 y6 (fun _ _ hT => by omega); have z8 := Free.sx_cell hS2 y7 (fun _ _ hT => by omega); have z9 := Free.sx_cell hS2 y8 (fun _ _ hT => by omega); have z10 := Free.sx_cell hS2 y9 (fun _ _ hT => by omega); have z11 := Free.sx_cell hS2 y10 (fun _ _ hT => by omega); have z12 := Free.sx_cell hS2 y11 (fun _ _ hT => by omega); have hlk2 := hlk.out w' (hS2.block bm hlt.2 (fun ⟨_, _, hT⟩ => by omega)); go_simp <;> exact rfl); go_frame)))
    refine Free.cw_loud rfl rfl (fun K hK => ?_)
    go_wp2
    refine hK _ _ rfl (Free.KeepsP.alloc _ _ _) ?_
    clear hK K
    (repeat (apply Free.cw_pure rfl rfl; (intro w'; go_simp <;> exact rfl); go_frame))
    refine Free.cw_loud rfl rfl (fun K hK => ?_)
    go_wp2
    refine hK _ _ rfl (keepsP_remade (S := fun b => True ∧ w1.heap.size ≤ b) w2 _ _ ⟨trivial, by have := hk2.size; simpa using this⟩) ?_
    clear hK K
    (repeat (apply Free.cw_pure rfl rfl; (intro w'; go_simp <;> exact rfl); go_frame))
    refine Free.cw_nil ?_
    have hk13 : Keeps [] w1 (w2.alloc (.cells #[.int .i64 rcl, .int .u64 rn, .int .i64 rim, .int .i64 ris, .int .i64 ro, .int .i64 ri, .int .i64 rd, .bool rtc, .bool rwk, .bool rgb, .int .i64 rlm, .int .i64 rls, .int .i64 rh] tRw)) := (((Keeps.refl [] w1).drew).trans hk2).alloc _
    generalize w2.alloc (.cells #[.int .i64 rcl, .int .u64 rn, .int .i64 rim, .int .i64 ris, .int .i64 ro, .int .i64 ri, .int .i64 rd, .bool rtc, .bool rwk, .bool rgb, .int .i64 rlm, .int .i64 rls, .int .i64 rh] tRw) = w3 at *
    have hb3 := (hk13.block X hz1 (by simp)).trans hb1.out
    have hk03 := hk01.out.trans hk13
    have hz3 : X < w3.heap.size := Nat.lt_of_lt_of_le hz1 hk13.size
    have t3 := t1.out.keeps hk13
    have hlen3 := fun (w' : World) (hb : w'.heap[bm]? = w3.heap[bm]?) ty => t3.len ty w' hb
    have hlen4 := hlen3 w3 rfl
    clear y0 y1 y2 y3 y4 y5 y6 y7 y8 y9 y10 y11 d7 hlen hlk hb1 hk01 t1 hlt hz1
    obtain ⟨y0, y1, y2, y3, y4, y5, y6, y7, y8, y9, y10, y11, _⟩ := cells12 hb3
    have d7 := t3.cell
    have hlt := t3.lt
    have hput := fun (hn : fnd (cl, n) S = none) => fun (W : World) (t : TM W bt bm S) => t.putNew ⟨cl, n, im, is, o, i, d, tc, wk, gb, lm, ls⟩ h hky.out hn (by omega)
    replace hk03 := Lib.hid hk03
    replace t3 := Lib.hid t3
    replace hlen3 := Lib.hid hlen3
    replace hb3 := Lib.hid hb3
    replace hput := Lib.hid hput
    clear hk13 hk2
    cases fb with
    | true =>
      have hr := hadd3.out.trans (if_pos rfl)
      subst hr
      go_wp2
      go_ret
      exact ⟨rfl, t3.out, hk03.out.of_nil⟩
    | false =>
    have hadd4 := hadd3.out.trans (if_neg (by simp))
    have hnone : fnd (cl, n) S = none := by have := hfb.out; simpa using this
    replace hput := Lib.hid (hput.out hnone)
    obtain ⟨N, hN⟩ : ∃ N, S.length = N := ⟨_, rfl⟩
    rw [hN] at hlen4 hadd4 hl
    replace hadd4 := Lib.hid hadd4
    replace hN := Lib.hid hN
    clear hadd3
    by_cases h2 : 1024 ≤ N
    case pos =>
      have hr := hadd4.out.trans (if_pos h2)
      subst hr
      have h3 : (1024 : Int) ≤ N := by omega
      go_wp2
      go_ret
      exact ⟨rfl, t3.out, hk03.out.of_nil⟩
    have hr := hadd4.out.trans (if_neg h2)
    subst hr
    have h3 : decide ((1024 : Int) ≤ N) = false := by simp; omega
    clear hadd4
    go_wp2
    refine Free.wp_region_chain (fun i => i == 5 || i == 9) (fun i => true) (fun j b => j = 9 ∧ b = bm) (by kernel_rfl) (by kernel_rfl) (by kernel_rfl) ?_
    have hne := t3.out.ne
    (repeat (first | (apply Free.cw_pure rfl rfl; (intro w'; go_simp <;> exact rfl); go_frame) | (apply Free.cw_steady rfl rfl rfl; (intro w' hS2; have z0 := Free.sx_cell hS2 d7 (fun _ _ hT => by have := hT.2; omega); have z1 := Free.sx_cell hS2 y0 (fun _ _ hT => by have := hT.2; omega); have z2 := Free.sx_cell hS2 y1 (fun _ _ hT => by have := hT.2; omega); have z3 := Free.sx_cell hS2 y2 (fun _ _ hT => by have := hT.2; omega); have z4 := Free.sx_cell hS2 y3 (fun _ _ hT => by have := hT.2; omega); have z5 := Free.sx_cell hS2 y4 (fun _ _ hT => by have := hT.2; omega); have z6 := Free.sx_cell hS2 y5 (fun _ _ hT => by have := hT.2; omega); have z7 := Free.sx_cell hS2 y6 (fun _ _ hT => by have := hT.2; omega); have z8 := Free.sx_cell hS2 y7 (fun _ _ hT => by have := hT.2; omega); have z9 := Free.sx_cell hS2 y8 (fun _ _ hT => by have := hT.2; omega); have z10 := Free.sx_cell hS2 y9 (fun _ _ hT => by have := hT.2; omega); have z11 := Free.sx_cell hS2 y10 (fun _ _ hT => by have := hT.2; omega); have z12 := Free.sx_cell hS2 y11 (fun _ _ hT => by have := hT.2; omega); go_simp <;> exact rfl); go_frame)))
    refine Free.cw_loud rfl rfl (fun K hK => ?_)
    go_wp2_with fail
    refine (hof.out _).mono ?_
    rintro e w5 ⟨rfl, hk5⟩
    refine hK _ _ rfl (Free.KeepsP.of hk5 (by simp)) ?_
    clear hK K
    (repeat (first | (apply Free.cw_pure rfl rfl; (intro w'; go_simp <;> exact rfl); go_frame) | (apply Free.cw_steady rfl rfl rfl; (intro w' hS2; have z0 := Free.sx_cell hS2 d7 (fun _ _ hT => by have := hT.2; omega); have z1 := Free.sx_cell hS2 y0 (fun _ _ hT => by have := hT.2; omega); have z2 := Free.sx_cell hS2 y1 (fun _ _ hT => by have := hT.2; omega); have z3 := Free.sx_cell hS2 y2 (fun _ _ hT => by have := hT.2; omega); have z4 := Free.sx_cell hS2 y3 (fun _ _ hT => by have := hT.2; omega); have z5 := Free.sx_cell hS2 y4 (fun _ _ hT => by have := hT.2; omega); have z6 := Free.sx_cell hS2 y5 (fun _ _ hT => by have := hT.2; omega); have z7 := Free.sx_cell hS2 y6 (fun _ _ hT => by have := hT.2; omega); have z8 := Free.sx_cell hS2 y7 (fun _ _ hT => by have := hT.2; omega); have z9 := Free.sx_cell hS2 y8 (fun _ _ hT => by have := hT.2; omega); have z10 := Free.sx_cell hS2 y9 (fun _ _ hT => by have := hT.2; omega); have z11 := Free.sx_cell hS2 y10 (fun _ _ hT => by have := hT.2; omega); have z12 := Free.sx_cell hS2 y11 (fun _ _ hT => by have := hT.2; omega); go_simp <;> exact rfl); go_frame)))
    refine Free.cw_loud rfl rfl (fun K hK => ?_)
    have hk35 : Keeps [] w3 w5 := ((Keeps.refl [] w3).drew).trans hk5
    have hk05 := hk03.out.trans hk35
    obtain ⟨w9, hrun, t9, hk9⟩ := hput.out w5 (t3.out.keeps hk35)
    replace hk05 := Lib.hid hk05
    replace t9 := Lib.hid t9
    have hk99 := Lib.hid hk9
    clear hk5 hk35 hk9
    simp only [kyV, rwV, En.key] at hrun ⊢
    go_wp2
    refine hK _ _ rfl (Free.KeepsP.of hk99.out (by simp)) ?_
    clear hK K
    (repeat (apply Free.cw_pure rfl rfl; (intro w'; go_simp <;> exact rfl); go_frame))
    refine Free.cw_nil ?_
    go_wp2
    go_ret
    exact ⟨rfl, t9.out, (hk05.out.of_nil).trans hk99.out⟩
  · skip
    (repeat (first | (apply Free.cw_pure rfl rfl; (intro w'; go_simp <;> exact rfl); go_frame) | (apply Free.cw_steady rfl rfl rfl; (intro w' hS2; have z0 := Free.sx_cell hS2 d7 (fun _ _ hT => by omega); have z1 := Free.sx_cell hS2 y0 (fun _ _ hT => by omega); have z2 := Free.sx_cell hS2 y1 (fun _ _ hT => by omega); have z3 := Free.sx_cell hS2 y2 (fun _ _ hT => by omega); have z4 := Free.sx_cell hS2 y3 (fun _ _ hT => by omega); have z5 := Free.sx_cell hS2 y4 (fun _ _ hT => by omega); have z6 := Free.sx_cell hS2 y5 (fun _ _ hT => by omega); have z7 := Free.sx_cell hS2 y6 (fun _ _ hT => by omega); have z8 := Free.sx_cell hS2 y7 (fun _ _ hT => by omega); have z9 := Free.sx_cell hS2 y8 (fun _ _ hT => by omega); have z10 := Free.sx_cell hS2 y9 (fun _ _ hT => by omega); have z11 := Free.sx_cell hS2 y10 (fun _ _ hT => by omega); have z12 := Free.sx_cell hS2 y11 (fun _ _ hT => by omega); have hlk2 := hlk.out w' (hS2.block bm hlt.2 (fun ⟨_, _, hT⟩ => by omega)); go_simp <;> exact rfl); go_frame)))
    refine Free.cw_loud rfl rfl (fun K hK => ?_)
    go_wp2
    refine hK _ _ rfl (Free.KeepsP.alloc _ _ _) ?_
    clear hK K
    (repeat (first | (apply Free.cw_pure rfl rfl; (intro w'; go_simp <;> exact rfl); go_frame) | (apply Free.cw_steady rfl rfl rfl; (intro w' hS2; have z0 := Free.sx_cell hS2 d7 (fun _ _ hT => by omega); have z1 := Free.sx_cell hS2 y0 (fun _ _ hT => by omega); have z2 := Free.sx_cell hS2 y1 (fun _ _ hT => by omega); have z3 := Free.sx_cell hS2 y2 (fun _ _ hT => by omega); have z4 := Free.sx_cell hS2 y3 (fun _ _ hT => by omega); have z5 := Free.sx_cell hS2 y4 (fun _ _ hT => by omega); have z6 := Free.sx_cell hS2 y5 (fun _ _ hT => by omega); have z7 := Free.sx_cell hS2 y6 (fun _ _ hT => by omega); have z8 := Free.sx_cell hS2 y7 (fun _ _ hT => by omega); have z9 := Free.sx_cell hS2 y8 (fun _ _ hT => by omega); have z10 := Free.sx_cell hS2 y9 (fun _ _ hT => by omega); have z11 := Free.sx_cell hS2 y10 (fun _ _ hT => by omega); have z12 := Free.sx_cell hS2 y11 (fun _ _ hT => by omega); have hlk2 := hlk.out w' (hS2.block bm hlt.2 (fun ⟨_, _, hT⟩ => by omega)); go_simp <;> exact rfl); go_frame)))
    refine Free.cw_loud rfl rfl (fun K hK => ?_)
    go_wp2_with fail
    refine (hof.out _).mono ?_
    rintro e w2 ⟨rfl, hk2⟩
    refine hK _ _ rfl (Free.KeepsP.of hk2 (by simp)) ?_
    clear hK K
    (repeat (first | (apply Free.cw_pure rfl rfl; (intro w'; go_simp <;> exact rfl); go_frame) | (apply Free.cw_steady rfl rfl rfl; (intro w' hS2; have z0 := Free.sx_cell hS2 d7 (fun _ _ hT => by omega); have z1 := Free.sx_cell hS2 y0 (fun _ _ hT => by omega); have z2 := Free.sx_cell hS2 y1 (fun _ _ hT => by omega); have z3 := Free.sx_cell hS2 y2 (fun _ _ hT => by omega); have z4 := Free.sx_cell hS2 y3 (fun _ _ hT => by omega); have z5 := Free.sx_cell hS2 y4 (fun _ _ hT => by omega); have z6 := Free.sx_cell hS2 y5 (fun _ _ hT => by omega); have z7 := Free.sx_cell hS2 y6 (fun _ _ hT => by omega); have z8 := Free.sx_cell hS2 y7 (fun _ _ hT => by omega); have z9 := Free.sx_cell hS2 y8 (fun _ _ hT => by omega); have z10 := Free.sx_cell hS2 y9 (fun _ _ hT => by omega); have z11 := Free.sx_cell hS2 y10 (fun _ _ hT => by omega); have z12 := Free.sx_cell hS2 y11 (fun _ _ hT => by omega); have hlk2 := hlk.out w' (hS2.block bm hlt.2 (fun ⟨_, _, hT⟩ => by omega)); go_simp <;> exact rfl); go_frame)))
    refine Free.cw_loud rfl rfl (fun K hK => ?_)
    have hnb := (hk2.block w1.heap.size (by simp) (by simp)).trans (heap_alloc_new w1.drew _)
    obtain ⟨n0, n1, n2, n3, n4, n5, n6, n7, n8, n9, n10, n11, n12, hnl⟩ := cells13 hnb
    have hfz := frz hnb
    replace hnb := Lib.hid hnb
    go_wp2
    apply hK
    · rfl
    · (repeat (refine Free.KeepsP.trans ?_ (Free.KeepsP.setCell _ (p := ⟨w1.heap.size, _, none⟩) ⟨trivial, Nat.le_refl _⟩ _)))
      exact Free.KeepsP.refl _ _
    clear hK K
    (repeat (apply Free.cw_pure rfl rfl; (intro w'; go_simp <;> exact rfl); go_frame))
    refine Free.cw_nil ?_
    have hk12 : Keeps [] w1 w2 := (((Keeps.refl [] w1).drew).alloc _).trans hk2
    generalize hWW : ((((((((((((((w2.setCell ⟨w1.heap.size, 0, none⟩ (.int .i64 rcl)).setCell ⟨w1.heap.size, 1, none⟩ (.int .u64 rn)).setCell ⟨w1.heap.size, 2, none⟩ (.int .i64 rim)).setCell ⟨w1.heap.size, 3, none⟩ (.int .i64 ris)).setCell ⟨w1.heap.size, 4, none⟩ (.int .i64 ro)).setCell ⟨w1.heap.size, 5, none⟩ (.int .i64 ri)).setCell ⟨w1.heap.size, 6, none⟩ (.int .i64 rd)).setCell ⟨w1.heap.size, 7, none⟩ (.bool rtc)).setCell ⟨w1.heap.size, 8, none⟩ (.bool rwk)).setCell ⟨w1.heap.size, 9, none⟩ (.bool rgb)).setCell ⟨w1.heap.size, 10, none⟩ (.int .i64 rlm)).setCell ⟨w1.heap.size, 11, none⟩ (.int .i64 rls)).setCell ⟨w1.heap.size, 12, none⟩ (.int .i64 rh))) = w3 at *
    have hk13 : Keeps [] w1 w3 := by
      rw [← hWW]
      (repeat (refine Keeps.setCell ?_ (p := ⟨w1.heap.size, _, none⟩) (.inl (Nat.le_refl _)) _))
      exact hk12
    clear hWW hk12 hnb n0 n1 n2 n3 n4 n5 n6 n7 n8 n9 n10 n11 n12 hnl hfz
    have hb3 := (hk13.block X hz1 (by simp)).trans hb1.out
    have hk03 := hk01.out.trans hk13
    have hz3 : X < w3.heap.size := Nat.lt_of_lt_of_le hz1 hk13.size
    have t3 := t1.out.keeps hk13
    have hlen3 := fun (w' : World) (hb : w'.heap[bm]? = w3.heap[bm]?) ty => t3.len ty w' hb
    have hlen4 := hlen3 w3 rfl
    clear y0 y1 y2 y3 y4 y5 y6 y7 y8 y9 y10 y11 d7 hlen hlk hb1 hk01 t1 hlt hz1
    obtain ⟨y0, y1, y2, y3, y4, y5, y6, y7, y8, y9, y10, y11, _⟩ := cells12 hb3
    have d7 := t3.cell
    have hlt := t3.lt
    have hput := fun (hn : fnd (cl, n) S = none) => fun (W : World) (t : TM W bt bm S) => t.putNew ⟨cl, n, im, is, o, i, d, tc, wk, gb, lm, ls⟩ h hky.out hn (by omega)
    replace hk03 := Lib.hid hk03
    replace t3 := Lib.hid t3
    replace hlen3 := Lib.hid hlen3
    replace hb3 := Lib.hid hb3
    replace hput := Lib.hid hput
    clear hk13
    cases fb with
    | true =>
      have hr := hadd3.out.trans (if_pos rfl)
      subst hr
      go_wp2
      go_ret
      exact ⟨rfl, t3.out, hk03.out.of_nil⟩
    | false =>
    have hadd4 := hadd3.out.trans (if_neg (by simp))
    have hnone : fnd (cl, n) S = none := by have := hfb.out; simpa using this
    replace hput := Lib.hid (hput.out hnone)
    obtain ⟨N, hN⟩ : ∃ N, S.length = N := ⟨_, rfl⟩
    rw [hN] at hlen4 hadd4 hl
    replace hadd4 := Lib.hid hadd4
    replace hN := Lib.hid hN
    clear hadd3
    by_cases h2 : 1024 ≤ N
    case pos =>
      have hr := hadd4.out.trans (if_pos h2)
      subst hr
      have h3 : (1024 : Int) ≤ N := by omega
      go_wp2
      go_ret
      exact ⟨rfl, t3.out, hk03.out.of_nil⟩
    have hr := hadd4.out.trans (if_neg h2)
    subst hr
    have h3 : decide ((1024 : Int) ≤ N) = false := by simp; omega
    clear hadd4
    go_wp2
    refine Free.wp_region_chain (fun i => i == 5 || i == 9) (fun i => true) (fun j b => j = 9 ∧ b = bm) (by kernel_rfl) (by kernel_rfl) (by kernel_rfl) ?_
    have hne := t3.out.ne
    (repeat (first | (apply Free.cw_pure rfl rfl; (intro w'; go_simp <;> exact rfl); go_frame) | (apply Free.cw_steady rfl rfl rfl; (intro w' hS2; have z0 := Free.sx_cell hS2 d7 (fun _ _ hT => by have := hT.2; omega); have z1 := Free.sx_cell hS2 y0 (fun _ _ hT => by have := hT.2; omega); have z2 := Free.sx_cell hS2 y1 (fun _ _ hT => by have := hT.2; omega); have z3 := Free.sx_cell hS2 y2 (fun _ _ hT => by have := hT.2; omega); have z4 := Free.sx_cell hS2 y3 (fun _ _ hT => by have := hT.2; omega); have z5 := Free.sx_cell hS2 y4 (fun _ _ hT => by have := hT.2; omega); have z6 := Free.sx_cell hS2 y5 (fun _ _ hT => by have := hT.2; omega); have z7 := Free.sx_cell hS2 y6 (fun _ _ hT => by have := hT.2; omega); have z8 := Free.sx_cell hS2 y7 (fun _ _ hT => by have := hT.2; omega); have z9 := Free.sx_cell hS2 y8 (fun _ _ hT => by have := hT.2; omega); have z10 := Free.sx_cell hS2 y9 (fun _ _ hT => by have := hT.2; omega); have z11 := Free.sx_cell hS2 y10 (fun _ _ hT => by have := hT.2; omega); have z12 := Free.sx_cell hS2 y11 (fun _ _ hT => by have := hT.2; omega); go_simp <;> exact rfl); go_frame)))
    refine Free.cw_loud rfl rfl (fun K hK => ?_)
    go_wp2_with fail
    refine (hof.out _).mono ?_
    rintro e w5 ⟨rfl, hk5⟩
    refine hK _ _ rfl (Free.KeepsP.of hk5 (by simp)) ?_
    clear hK K
    (repeat (first | (apply Free.cw_pure rfl rfl; (intro w'; go_simp <;> exact rfl); go_frame) | (apply Free.cw_steady rfl rfl rfl; (intro w' hS2; have z0 := Free.sx_cell hS2 d7 (fun _ _ hT => by have := hT.2; omega); have z1 := Free.sx_cell hS2 y0 (fun _ _ hT => by have := hT.2; omega); have z2 := Free.sx_cell hS2 y1 (fun _ _ hT => by have := hT.2; omega); have z3 := Free.sx_cell hS2 y2 (fun _ _ hT => by have := hT.2; omega); have z4 := Free.sx_cell hS2 y3 (fun _ _ hT => by have := hT.2; omega); have z5 := Free.sx_cell hS2 y4 (fun _ _ hT => by have := hT.2; omega); have z6 := Free.sx_cell hS2 y5 (fun _ _ hT => by have := hT.2; omega); have z7 := Free.sx_cell hS2 y6 (fun _ _ hT => by have := hT.2; omega); have z8 := Free.sx_cell hS2 y7 (fun _ _ hT => by have := hT.2; omega); have z9 := Free.sx_cell hS2 y8 (fun _ _ hT => by have := hT.2; omega); have z10 := Free.sx_cell hS2 y9 (fun _ _ hT => by have := hT.2; omega); have z11 := Free.sx_cell hS2 y10 (fun _ _ hT => by have := hT.2; omega); have z12 := Free.sx_cell hS2 y11 (fun _ _ hT => by have := hT.2; omega); go_simp <;> exact rfl); go_frame)))
    refine Free.cw_loud rfl rfl (fun K hK => ?_)
    have hk35 : Keeps [] w3 w5 := ((Keeps.refl [] w3).drew).trans hk5
    have hk05 := hk03.out.trans hk35
    obtain ⟨w9, hrun, t9, hk9⟩ := hput.out w5 (t3.out.keeps hk35)
    replace hk05 := Lib.hid hk05
    replace t9 := Lib.hid t9
    have hk99 := Lib.hid hk9
    clear hk5 hk35 hk9
    simp only [kyV, rwV, En.key] at hrun ⊢
    go_wp2
    refine hK _ _ rfl (Free.KeepsP.of hk99.out (by simp)) ?_
    clear hK K
    (repeat (apply Free.cw_pure rfl rfl; (intro w'; go_simp <;> exact rfl); go_frame))
    refine Free.cw_nil ?_
    go_wp2
    go_ret
    exact ⟨rfl, t9.out, (hk05.out.of_nil).trans hk99.out⟩
end Go.Proofs.YtblaaafpglomnaaGreat

namespace Go.Proofs.YtblaaafpglomnaaGreat
open Go Go.RowKit

theorem setCs {w : World} {b : Nat} {cs : Array Value} {t : TypeId} {f : Nat × Nat} (h : w.heap[b]? = some (.cells cs t f)) (o : Nat) (v : Value) : (w.setCell ⟨b, o, none⟩ v).heap[b]? = some (.cells (cs.setIfInBounds o v) t f) := by
  simp [World.setCell, Array.getElem?_modify, h]
theorem drewHeap (w : World) (b : Nat) : w.drew.heap[b]? = w.heap[b]? := rfl
theorem setO {w : World} {b b' : Nat} (hb : b ≠ b') (o : Nat) (v : Value) : (w.setCell ⟨b', o, none⟩ v).heap[b]? = w.heap[b]? := Below.heap_setCell _ _ _ _ (by simpa using hb)
set_option maxRecDepth 100000 in
set_option maxHeartbeats 2000000 in
theorem st12 {w : World} {X : Nat} {t : TypeId} {x0 x1 x2 x3 x4 x5 x6 x7 x8 x9 x10 x11 u0 u1 u2 u3 u4 u5 u6 u7 u8 u9 u10 u11 : Value} (h2 : w.heap[X]? = some (.cells #[u0, u1, u2, u3, u4, u5, u6, u7, u8, u9, u10, u11] t (0, 0))) :
    (((((((((((((w.setCell ⟨X, 0, none⟩ (x0)).setCell ⟨X, 1, none⟩ (x1)).setCell ⟨X, 2, none⟩ (x2)).setCell ⟨X, 3, none⟩ (x3)).setCell ⟨X, 4, none⟩ (x4)).setCell ⟨X, 5, none⟩ (x5)).setCell ⟨X, 6, none⟩ (x6)).setCell ⟨X, 7, none⟩ (x7)).setCell ⟨X, 8, none⟩ (x8)).setCell ⟨X, 9, none⟩ (x9)).setCell ⟨X, 10, none⟩ (x10)).setCell ⟨X, 11, none⟩ (x11))).heap[X]? = some (.cells #[x0, x1, x2, x3, x4, x5, x6, x7, x8, x9, x10, x11] t (0, 0)) ∧ Keeps [X] w ((((((((((((w.setCell ⟨X, 0, none⟩ (x0)).setCell ⟨X, 1, none⟩ (x1)).setCell ⟨X, 2, none⟩ (x2)).setCell ⟨X, 3, none⟩ (x3)).setCell ⟨X, 4, none⟩ (x4)).setCell ⟨X, 5, none⟩ (x5)).setCell ⟨X, 6, none⟩ (x6)).setCell ⟨X, 7, none⟩ (x7)).setCell ⟨X, 8, none⟩ (x8)).setCell ⟨X, 9, none⟩ (x9)).setCell ⟨X, 10, none⟩ (x10)).setCell ⟨X, 11, none⟩ (x11)) := by
  have hk : Keeps [X] w ((((((((((((w.setCell ⟨X, 0, none⟩ (x0)).setCell ⟨X, 1, none⟩ (x1)).setCell ⟨X, 2, none⟩ (x2)).setCell ⟨X, 3, none⟩ (x3)).setCell ⟨X, 4, none⟩ (x4)).setCell ⟨X, 5, none⟩ (x5)).setCell ⟨X, 6, none⟩ (x6)).setCell ⟨X, 7, none⟩ (x7)).setCell ⟨X, 8, none⟩ (x8)).setCell ⟨X, 9, none⟩ (x9)).setCell ⟨X, 10, none⟩ (x10)).setCell ⟨X, 11, none⟩ (x11)) := by
    refine (((((((((((((Keeps.refl _ w).setCell ?_ _).setCell ?_ _).setCell ?_ _).setCell ?_ _).setCell ?_ _).setCell ?_ _).setCell ?_ _).setCell ?_ _).setCell ?_ _).setCell ?_ _).setCell ?_ _).setCell ?_ _) <;> exact .inr (by simp)
  refine ⟨?_, hk⟩
  clear hk
  have s1 := setCs h2 0 x0
  generalize w.setCell ⟨X, 0, none⟩ x0 = w1 at s1 ⊢
  have s2 := setCs s1 1 x1
  generalize w1.setCell ⟨X, 1, none⟩ x1 = w2 at s2 ⊢
  have s3 := setCs s2 2 x2
  generalize w2.setCell ⟨X, 2, none⟩ x2 = w3 at s3 ⊢
  have s4 := setCs s3 3 x3
  generalize w3.setCell ⟨X, 3, none⟩ x3 = w4 at s4 ⊢
  have s5 := setCs s4 4 x4
  generalize w4.setCell ⟨X, 4, none⟩ x4 = w5 at s5 ⊢
  have s6 := setCs s5 5 x5
  generalize w5.setCell ⟨X, 5, none⟩ x5 = w6 at s6 ⊢
  have s7 := setCs s6 6 x6
  generalize w6.setCell ⟨X, 6, none⟩ x6 = w7 at s7 ⊢
  have s8 := setCs s7 7 x7
  generalize w7.setCell ⟨X, 7, none⟩ x7 = w8 at s8 ⊢
  have s9 := setCs s8 8 x8
  generalize w8.setCell ⟨X, 8, none⟩ x8 = w9 at s9 ⊢
  have s10 := setCs s9 9 x9
  generalize w9.setCell ⟨X, 9, none⟩ x9 = w10 at s10 ⊢
  have s11 := setCs s10 10 x10
  generalize w10.setCell ⟨X, 10, none⟩ x10 = w11 at s11 ⊢
  have s12 := setCs s11 11 x11
  simpa using s12
set_option maxRecDepth 100000 in
set_option maxHeartbeats 2000000 in
theorem st13 {w : World} {X : Nat} {t : TypeId} {x0 x1 x2 x3 x4 x5 x6 x7 x8 x9 x10 x11 x12 u0 u1 u2 u3 u4 u5 u6 u7 u8 u9 u10 u11 u12 : Value} (h2 : w.heap[X]? = some (.cells #[u0, u1, u2, u3, u4, u5, u6, u7, u8, u9, u10, u11, u12] t (0, 0))) :
    ((((((((((((((w.setCell ⟨X, 0, none⟩ (x0)).setCell ⟨X, 1, none⟩ (x1)).setCell ⟨X, 2, none⟩ (x2)).setCell ⟨X, 3, none⟩ (x3)).setCell ⟨X, 4, none⟩ (x4)).setCell ⟨X, 5, none⟩ (x5)).setCell ⟨X, 6, none⟩ (x6)).setCell ⟨X, 7, none⟩ (x7)).setCell ⟨X, 8, none⟩ (x8)).setCell ⟨X, 9, none⟩ (x9)).setCell ⟨X, 10, none⟩ (x10)).setCell ⟨X, 11, none⟩ (x11)).setCell ⟨X, 12, none⟩ (x12))).heap[X]? = some (.cells #[x0, x1, x2, x3, x4, x5, x6, x7, x8, x9, x10, x11, x12] t (0, 0)) ∧ Keeps [X] w (((((((((((((w.setCell ⟨X, 0, none⟩ (x0)).setCell ⟨X, 1, none⟩ (x1)).setCell ⟨X, 2, none⟩ (x2)).setCell ⟨X, 3, none⟩ (x3)).setCell ⟨X, 4, none⟩ (x4)).setCell ⟨X, 5, none⟩ (x5)).setCell ⟨X, 6, none⟩ (x6)).setCell ⟨X, 7, none⟩ (x7)).setCell ⟨X, 8, none⟩ (x8)).setCell ⟨X, 9, none⟩ (x9)).setCell ⟨X, 10, none⟩ (x10)).setCell ⟨X, 11, none⟩ (x11)).setCell ⟨X, 12, none⟩ (x12)) := by
  have hk : Keeps [X] w (((((((((((((w.setCell ⟨X, 0, none⟩ (x0)).setCell ⟨X, 1, none⟩ (x1)).setCell ⟨X, 2, none⟩ (x2)).setCell ⟨X, 3, none⟩ (x3)).setCell ⟨X, 4, none⟩ (x4)).setCell ⟨X, 5, none⟩ (x5)).setCell ⟨X, 6, none⟩ (x6)).setCell ⟨X, 7, none⟩ (x7)).setCell ⟨X, 8, none⟩ (x8)).setCell ⟨X, 9, none⟩ (x9)).setCell ⟨X, 10, none⟩ (x10)).setCell ⟨X, 11, none⟩ (x11)).setCell ⟨X, 12, none⟩ (x12)) := by
    refine ((((((((((((((Keeps.refl _ w).setCell ?_ _).setCell ?_ _).setCell ?_ _).setCell ?_ _).setCell ?_ _).setCell ?_ _).setCell ?_ _).setCell ?_ _).setCell ?_ _).setCell ?_ _).setCell ?_ _).setCell ?_ _).setCell ?_ _) <;> exact .inr (by simp)
  refine ⟨?_, hk⟩
  clear hk
  have s1 := setCs h2 0 x0
  generalize w.setCell ⟨X, 0, none⟩ x0 = w1 at s1 ⊢
  have s2 := setCs s1 1 x1
  generalize w1.setCell ⟨X, 1, none⟩ x1 = w2 at s2 ⊢
  have s3 := setCs s2 2 x2
  generalize w2.setCell ⟨X, 2, none⟩ x2 = w3 at s3 ⊢
  have s4 := setCs s3 3 x3
  generalize w3.setCell ⟨X, 3, none⟩ x3 = w4 at s4 ⊢
  have s5 := setCs s4 4 x4
  generalize w4.setCell ⟨X, 4, none⟩ x4 = w5 at s5 ⊢
  have s6 := setCs s5 5 x5
  generalize w5.setCell ⟨X, 5, none⟩ x5 = w6 at s6 ⊢
  have s7 := setCs s6 6 x6
  generalize w6.setCell ⟨X, 6, none⟩ x6 = w7 at s7 ⊢
  have s8 := setCs s7 7 x7
  generalize w7.setCell ⟨X, 7, none⟩ x7 = w8 at s8 ⊢
  have s9 := setCs s8 8 x8
  generalize w8.setCell ⟨X, 8, none⟩ x8 = w9 at s9 ⊢
  have s10 := setCs s9 9 x9
  generalize w9.setCell ⟨X, 9, none⟩ x9 = w10 at s10 ⊢
  have s11 := setCs s10 10 x10
  generalize w10.setCell ⟨X, 10, none⟩ x10 = w11 at s11 ⊢
  have s12 := setCs s11 11 x11
  generalize w11.setCell ⟨X, 11, none⟩ x11 = w12 at s12 ⊢
  have s13 := setCs s12 12 x12
  simpa using s13
set_option maxRecDepth 100000 in
set_option maxHeartbeats 2000000 in
theorem st12r {w : World} {X : Nat} {t : TypeId} {x0 x1 x2 x3 x4 x5 x6 x7 x8 x9 x10 x11 u0 u1 u2 u3 u4 u5 u6 u7 u8 u9 u10 u11 u12 : Value} (h2 : w.heap[X]? = some (.cells #[u0, u1, u2, u3, u4, u5, u6, u7, u8, u9, u10, u11, u12] t (0, 0))) :
    (((((((((((((w.setCell ⟨X, 0, none⟩ (x0)).setCell ⟨X, 1, none⟩ (x1)).setCell ⟨X, 2, none⟩ (x2)).setCell ⟨X, 3, none⟩ (x3)).setCell ⟨X, 4, none⟩ (x4)).setCell ⟨X, 5, none⟩ (x5)).setCell ⟨X, 6, none⟩ (x6)).setCell ⟨X, 7, none⟩ (x7)).setCell ⟨X, 8, none⟩ (x8)).setCell ⟨X, 9, none⟩ (x9)).setCell ⟨X, 10, none⟩ (x10)).setCell ⟨X, 11, none⟩ (x11))).heap[X]? = some (.cells #[x0, x1, x2, x3, x4, x5, x6, x7, x8, x9, x10, x11, u12] t (0, 0)) ∧ Keeps [X] w ((((((((((((w.setCell ⟨X, 0, none⟩ (x0)).setCell ⟨X, 1, none⟩ (x1)).setCell ⟨X, 2, none⟩ (x2)).setCell ⟨X, 3, none⟩ (x3)).setCell ⟨X, 4, none⟩ (x4)).setCell ⟨X, 5, none⟩ (x5)).setCell ⟨X, 6, none⟩ (x6)).setCell ⟨X, 7, none⟩ (x7)).setCell ⟨X, 8, none⟩ (x8)).setCell ⟨X, 9, none⟩ (x9)).setCell ⟨X, 10, none⟩ (x10)).setCell ⟨X, 11, none⟩ (x11)) := by
  have hk : Keeps [X] w ((((((((((((w.setCell ⟨X, 0, none⟩ (x0)).setCell ⟨X, 1, none⟩ (x1)).setCell ⟨X, 2, none⟩ (x2)).setCell ⟨X, 3, none⟩ (x3)).setCell ⟨X, 4, none⟩ (x4)).setCell ⟨X, 5, none⟩ (x5)).setCell ⟨X, 6, none⟩ (x6)).setCell ⟨X, 7, none⟩ (x7)).setCell ⟨X, 8, none⟩ (x8)).setCell ⟨X, 9, none⟩ (x9)).setCell ⟨X, 10, none⟩ (x10)).setCell ⟨X, 11, none⟩ (x11)) := by
    refine (((((((((((((Keeps.refl _ w).setCell ?_ _).setCell ?_ _).setCell ?_ _).setCell ?_ _).setCell ?_ _).setCell ?_ _).setCell ?_ _).setCell ?_ _).setCell ?_ _).setCell ?_ _).setCell ?_ _).setCell ?_ _) <;> exact .inr (by simp)
  refine ⟨?_, hk⟩
  clear hk
  have s1 := setCs h2 0 x0
  generalize w.setCell ⟨X, 0, none⟩ x0 = w1 at s1 ⊢
  have s2 := setCs s1 1 x1
  generalize w1.setCell ⟨X, 1, none⟩ x1 = w2 at s2 ⊢
  have s3 := setCs s2 2 x2
  generalize w2.setCell ⟨X, 2, none⟩ x2 = w3 at s3 ⊢
  have s4 := setCs s3 3 x3
  generalize w3.setCell ⟨X, 3, none⟩ x3 = w4 at s4 ⊢
  have s5 := setCs s4 4 x4
  generalize w4.setCell ⟨X, 4, none⟩ x4 = w5 at s5 ⊢
  have s6 := setCs s5 5 x5
  generalize w5.setCell ⟨X, 5, none⟩ x5 = w6 at s6 ⊢
  have s7 := setCs s6 6 x6
  generalize w6.setCell ⟨X, 6, none⟩ x6 = w7 at s7 ⊢
  have s8 := setCs s7 7 x7
  generalize w7.setCell ⟨X, 7, none⟩ x7 = w8 at s8 ⊢
  have s9 := setCs s8 8 x8
  generalize w8.setCell ⟨X, 8, none⟩ x8 = w9 at s9 ⊢
  have s10 := setCs s9 9 x9
  generalize w9.setCell ⟨X, 9, none⟩ x9 = w10 at s10 ⊢
  have s11 := setCs s10 10 x10
  generalize w10.setCell ⟨X, 10, none⟩ x10 = w11 at s11 ⊢
  have s12 := setCs s11 11 x11
  simpa using s12
theorem results_e3 {fn : Func} {p u v : Tmp} (h : fn.results = #[.cell p tE, .tmp u, .tmp v]) (tmps : Array Value) (w : World) (g : Nat) (t : TypeId) (x : En) (f : Nat × Nat) (hp : tmps.getD p undef = .pointer (some ⟨g, 0, none⟩))
    (hg : w.heap[g]? = some (.cells #[.int .i64 x.cl, .int .u64 x.n, .int .i64 x.im, .int .i64 x.is, .int .i64 x.o, .int .i64 x.i, .int .i64 x.d, .bool x.tc, .bool x.wk, .bool x.gb, .int .i64 x.lm, .int .i64 x.ls] t f)) : (results fn tmps).run Tryz.prog w = .ok (.tuple #[enV x, tmps.getD u undef, tmps.getD v undef]) w := by
  have hp' : tmps[p]?.getD undef = .pointer (some ⟨g, 0, none⟩) := by simpa using hp
  simp [results, h, hp', asAddr, run_loadVar_row w g t tE #[.int .i64 x.cl, .int .u64 x.n, .int .i64 x.im, .int .i64 x.is, .int .i64 x.o, .int .i64 x.i, .int .i64 x.d, .bool x.tc, .bool x.wk, .bool x.gb, .int .i64 x.lm, .int .i64 x.ls] f _ hg Tryz.underlying48 rfl (by kernel_rfl)]
theorem results_e2 {fn : Func} {p u : Tmp} (h : fn.results = #[.cell p tE, .tmp u]) (tmps : Array Value) (w : World) (g : Nat) (t : TypeId) (x : En) (f : Nat × Nat) (hp : tmps.getD p undef = .pointer (some ⟨g, 0, none⟩))
    (hg : w.heap[g]? = some (.cells #[.int .i64 x.cl, .int .u64 x.n, .int .i64 x.im, .int .i64 x.is, .int .i64 x.o, .int .i64 x.i, .int .i64 x.d, .bool x.tc, .bool x.wk, .bool x.gb, .int .i64 x.lm, .int .i64 x.ls] t f)) : (results fn tmps).run Tryz.prog w = .ok (.tuple #[enV x, tmps.getD u undef]) w := by
  have hp' : tmps[p]?.getD undef = .pointer (some ⟨g, 0, none⟩) := by simpa using hp
  simp [results, h, hp', asAddr, run_loadVar_row w g t tE #[.int .i64 x.cl, .int .u64 x.n, .int .i64 x.im, .int .i64 x.is, .int .i64 x.o, .int .i64 x.i, .int .i64 x.d, .bool x.tc, .bool x.wk, .bool x.gb, .int .i64 x.lm, .int .i64 x.ls] f _ hg Tryz.underlying48 rfl (by kernel_rfl)]
abbrev tTb : Nat := 30
theorem results_t2 {fn : Func} {p u : Tmp} (h : fn.results = #[.cell p tTb, .tmp u]) (tmps : Array Value) (w : World) (g : Nat) (t : TypeId) (x : Value) (f : Nat × Nat) (hp : tmps.getD p undef = .pointer (some ⟨g, 0, none⟩))
    (hg : w.heap[g]? = some (.cells #[x] t f)) : (results fn tmps).run Tryz.prog w = .ok (.tuple #[.agg #[x], tmps.getD u undef]) w := by
  have hp' : tmps[p]?.getD undef = .pointer (some ⟨g, 0, none⟩) := by simpa using hp
  simp [results, h, hp', asAddr, run_loadVar_row w g t tTb #[x] f _ hg Tryz.underlying30 rfl (by kernel_rfl)]
theorem results_t3 {fn : Func} {p u v : Tmp} (h : fn.results = #[.cell p tTb, .tmp u, .tmp v]) (tmps : Array Value) (w : World) (g : Nat) (t : TypeId) (x : Value) (f : Nat × Nat) (hp : tmps.getD p undef = .pointer (some ⟨g, 0, none⟩))
    (hg : w.heap[g]? = some (.cells #[x] t f)) : (results fn tmps).run Tryz.prog w = .ok (.tuple #[.agg #[x], tmps.getD u undef, tmps.getD v undef]) w := by
  have hp' : tmps[p]?.getD undef = .pointer (some ⟨g, 0, none⟩) := by simpa using hp
  simp [results, h, hp', asAddr, run_loadVar_row w g t tTb #[x] f _ hg Tryz.underlying30 rfl (by kernel_rfl)]
end Go.Proofs.YtblaaafpglomnaaGreat

namespace Go.Proofs.YtblaaafpglomnaaGreat
open Go Go.RowKit

set_option maxRecDepth 100000 in
set_option maxHeartbeats 4000000 in
theorem find_c (w : World) (bt bm : Nat) (S : List Rw) (c : Int) (m : Nat) (t : TM w bt bm S) (hk : kOk (c, m)) :
    Calls Tryz.prog 15 #[.pointer (some ⟨bt, 0, none⟩), .int .i64 c, .int .u64 m] w fun e w' => e = .returned (.tuple #[enV ((fnd (c, m) S).getD (.zero, 0)).1, .int .i64 ((fnd (c, m) S).getD (.zero, 0)).2, .bool (fnd (c, m) S).isSome]) ∧ Keeps [] w w' := by
  have d7 := t.cell
  have hlk := fun (w' : World) (hb : w'.heap[bm]? = w.heap[bm]?) => t.look (c, m) hk w' hb
  have hlt := t.lt
  obtain ⟨fr, hfr⟩ : ∃ r, (fnd (c, m) S).getD (.zero, 0) = r := ⟨_, rfl⟩
  obtain ⟨fb, hfb⟩ : ∃ b, (fnd (c, m) S).isSome = b := ⟨_, rfl⟩
  rw [hfr, hfb] at hlk ⊢
  obtain ⟨⟨rcl, rn, rim, ris, ro, ri, rd, rtc, rwk, rgb, rlm, rls⟩, rh⟩ := fr
  simp only [rwV, kyV] at hlk
  have hkz : Keeps [] w (w.alloc (.cells #[.int .i64 0, .int .u64 0, .int .i64 0, .int .i64 0, .int .i64 0, .int .i64 0, .int .i64 0, .bool false, .bool false, .bool false, .int .i64 0, .int .i64 0] tE)) := (Keeps.refl _ _).alloc _
  have hbz := heap_alloc_new w (.cells #[.int .i64 0, .int .u64 0, .int .i64 0, .int .i64 0, .int .i64 0, .int .i64 0, .int .i64 0, .bool false, .bool false, .bool false, .int .i64 0, .int .i64 0] tE)
  obtain ⟨X, hX⟩ : ∃ X, w.heap.size = X := ⟨_, rfl⟩
  rw [hX] at hbz hlt
  have hlk2 := hlk (w.alloc (.cells #[.int .i64 0, .int .u64 0, .int .i64 0, .int .i64 0, .int .i64 0, .int .i64 0, .int .i64 0, .bool false, .bool false, .bool false, .int .i64 0, .int .i64 0] tE)) (hkz.block bm (by omega) (by simp))
  clear hlk hfr hfb
  replace hkz := Lib.hid hkz
  replace hbz := Lib.hid hbz
  clear t
  go_enter Tryz.func15, Tryz.ntmps15
  go_wp2
  have hkr : Keeps [] (w.alloc (.cells #[.int .i64 0, .int .u64 0, .int .i64 0, .int .i64 0, .int .i64 0, .int .i64 0, .int .i64 0, .bool false, .bool false, .bool false, .int .i64 0, .int .i64 0] tE)) ((w.alloc (.cells #[.int .i64 0, .int .u64 0, .int .i64 0, .int .i64 0, .int .i64 0, .int .i64 0, .int .i64 0, .bool false, .bool false, .bool false, .int .i64 0, .int .i64 0] tE)).alloc (.cells #[.int .i64 rcl, .int .u64 rn, .int .i64 rim, .int .i64 ris, .int .i64 ro, .int .i64 ri, .int .i64 rd, .bool rtc, .bool rwk, .bool rgb, .int .i64 rlm, .int .i64 rls, .int .i64 rh] tRw)) := (Keeps.refl _ _).alloc _
  have hbr := heap_alloc_new (w.alloc (.cells #[.int .i64 0, .int .u64 0, .int .i64 0, .int .i64 0, .int .i64 0, .int .i64 0, .int .i64 0, .bool false, .bool false, .bool false, .int .i64 0, .int .i64 0] tE)) (.cells #[.int .i64 rcl, .int .u64 rn, .int .i64 rim, .int .i64 ris, .int .i64 ro, .int .i64 ri, .int .i64 rd, .bool rtc, .bool rwk, .bool rgb, .int .i64 rlm, .int .i64 rls, .int .i64 rh] tRw)
  have hbz2 := (hkr.block _ (lt_of_blk hbz.out) (by simp)).trans hbz.out
  have hk2 := hkz.out.trans hkr
  rw [show (w.alloc (.cells #[.int .i64 0, .int .u64 0, .int .i64 0, .int .i64 0, .int .i64 0, .int .i64 0, .int .i64 0, .bool false, .bool false, .bool false, .int .i64 0, .int .i64 0] tE)).heap.size = X + 1 by simp [hX]] at hbr
  generalize ((w.alloc (.cells #[.int .i64 0, .int .u64 0, .int .i64 0, .int .i64 0, .int .i64 0, .int .i64 0, .int .i64 0, .bool false, .bool false, .bool false, .int .i64 0, .int .i64 0] tE)).alloc (.cells #[.int .i64 rcl, .int .u64 rn, .int .i64 rim, .int .i64 ris, .int .i64 ro, .int .i64 ri, .int .i64 rd, .bool rtc, .bool rwk, .bool rgb, .int .i64 rlm, .int .i64 rls, .int .i64 rh] tRw)) = W at *
  obtain ⟨n0, n1, n2, n3, n4, n5, n6, n7, n8, n9, n10, n11, n12, _⟩ := cells13 hbr
  obtain ⟨m0, m1, m2, m3, m4, m5, m6, m7, m8, m9, m10, m11, _⟩ := cells12 hbz2
  have hfz := frz hbz2
  replace hbz2 := Lib.hid hbz2
  replace hk2 := Lib.hid hk2
  clear hbr hbz hkr hkz hlk2
  refine Free.wp_region_chain (fun i => i == 5) (fun i => true) (fun j b => j = 5 ∧ b = X) (by kernel_rfl) (by kernel_rfl) (by kernel_rfl) ?_
  (repeat (first | (apply Free.cw_pure rfl rfl; (intro w'; go_simp <;> exact rfl); go_frame) | (apply Free.cw_steady rfl rfl rfl; (intro w' hS2; have z0 := Free.sx_cell hS2 n0 (fun _ _ hT => by have := hT.2; omega); have z1 := Free.sx_cell hS2 n1 (fun _ _ hT => by have := hT.2; omega); have z2 := Free.sx_cell hS2 n2 (fun _ _ hT => by have := hT.2; omega); have z3 := Free.sx_cell hS2 n3 (fun _ _ hT => by have := hT.2; omega); have z4 := Free.sx_cell hS2 n4 (fun _ _ hT => by have := hT.2; omega); have z5 := Free.sx_cell hS2 n5 (fun _ _ hT => by have := hT.2; omega); have z6 := Free.sx_cell hS2 n6 (fun _ _ hT => by have := hT.2; omega); have z7 := Free.sx_cell hS2 n7 (fun _ _ hT => by have := hT.2; omega); have z8 := Free.sx_cell hS2 n8 (fun _ _ hT => by have := hT.2; omega); have z9 := Free.sx_cell hS2 n9 (fun _ _ hT => by have := hT.2; omega); have z10 := Free.sx_cell hS2 n10 (fun _ _ hT => by have := hT.2; omega); have z11 := Free.sx_cell hS2 n11 (fun _ _ hT => by have := hT.2; omega); have z12 := Free.sx_cell hS2 n12 (fun _ _ hT => by have := hT.2; omega); go_simp <;> exact rfl); go_frame)))
  refine Free.cw_loud rfl rfl (fun K hK => ?_)
  go_wp2
  apply hK
  · rfl
  · refine Free.KeepsP.drews ?_
    (repeat (refine Free.KeepsP.trans ?_ (Free.KeepsP.setCell _ (p := ⟨X, _, none⟩) ⟨trivial, rfl⟩ _)))
    exact Free.KeepsP.refl _ _
  clear hK K
  (repeat (apply Free.cw_pure rfl rfl; (intro w'; go_simp <;> exact rfl); go_frame))
  refine Free.cw_nil ?_
  clear n0 n1 n2 n3 n4 n5 n6 n7 n8 n9 n10 n11 n12 m0 m1 m2 m3 m4 m5 m6 m7 m8 m9 m10 m11
  go_wp2
  obtain ⟨hs1, hs2⟩ := st12 (x0 := .int .i64 rcl) (x1 := .int .u64 rn) (x2 := .int .i64 rim) (x3 := .int .i64 ris) (x4 := .int .i64 ro) (x5 := .int .i64 ri) (x6 := .int .i64 rd) (x7 := .bool rtc) (x8 := .bool rwk) (x9 := .bool rgb) (x10 := .int .i64 rlm) (x11 := .int .i64 rls) hbz2.out
  refine bodyPost_ret (results_e3 rfl _ _ _ _ ⟨rcl, rn, rim, ris, ro, ri, rd, rtc, rwk, rgb, rlm, rls⟩ _ rfl ((drewHeap _ _).trans hs1)) rfl ?_
  exact ⟨rfl, ((hk2.out).fresh hs2 (fun b hb => .inr (by simp at hb; omega))).drew⟩
end Go.Proofs.YtblaaafpglomnaaGreat
