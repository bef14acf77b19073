/- Texts that the laws lean on, in the order in which they build. Scion tables: Put, Touch and what they call. (Printed by mkscg.py.) Scion tables: Put, Touch, Remove. (Printed by mksch.py.) Ranging over a map inside a fence: of whatever program. (Printed by mkmapsin.py out of XMapS.) slices.SortFunc over a flat slice of the call's own. Of whatever program. DERIVED: THE SHELF's CONTRACTS AT THIS DUMP, IN PLAIN WORDS (tools/lay-plain.mjs out of 'YtblaaafpglomnaaGreatSortSrc24.lean', which tools/lay-shelf.mjs wrote): THE SAME DECLARATIONS UNDER THE SAME NAMES: 'import', 'namespace', 'open', 'def', 'theorem' AND NOTHING ELSE: no command of the shelf's: FOR A HAND-IN. Each laying: the table of numbers ('.._ren') and one theorem, a field a fact of the dump's own or the kernel's comparison; each contract: ONE APPLICATION. cmp's functions, the comparison of keys, slices.SortFunc over keys. (Printed by mksccmp.py.) maps.Keys over the table, slices.SortedFunc, Table.keys. (Printed by mkscks.py.) A store at a key that is there while the map is ranged over. Of whatever program. Scion tables: Clear. (Printed by mkscc.py.) -/
import Derived.Test.YtblaaafpglomnaaGreatK3
import Derived.Test.YtblaaafpglomnaaGreatProg
import Derived.Sort.MapsRangeIn
import Derived.RangeFuncNested
import Derived.RangeFuncBound
import Derived.RangeFuncCalls
import Derived.RangeFuncLeaves
import Derived.RangeFuncFrom
import Derived.RangeFuncBox
import Derived.Maps.AppendAt
import Derived.Shelf.Abstract
import Derived.WalkKit
import Derived.OwnWalkIn
import Derived.TacticsInMore
import Derived.LoopNIn
import Derived.LoopIn
import Derived.Shelf.SlSortCmp.WholeK
import Derived.Ground.SlsfProg
import Derived.Shelf.SlSortCmp.NoneTotal
import Derived.Deep.LoopGhost
set_option linter.unusedVariables false
set_option linter.unusedSimpArgs false
namespace Go.Proofs.YtblaaafpglomnaaGreat
open Go Go.RowKit

abbrev rwA (r : Rw) : Array Value := #[.int .i64 r.1.cl, .int .u64 r.1.n, .int .i64 r.1.im, .int .i64 r.1.is, .int .i64 r.1.o, .int .i64 r.1.i, .int .i64 r.1.d, .bool r.1.tc, .bool r.1.wk, .bool r.1.gb, .int .i64 r.1.lm, .int .i64 r.1.ls, .int .i64 r.2]
set_option maxRecDepth 100000 in
set_option maxHeartbeats 2000000 in
theorem touch1_c (w : World) (X : Nat) (r : Rw) (h : w.heap[X]? = some (.cells (rwA r) tRw (0, 0))) :
    Calls Tryz.prog 86 #[.pointer (some ⟨X, 0, none⟩)] w fun e w' => e = .returned (.tuple #[]) ∧ w'.heap[X]? = some (.cells (rwA (tch r.1, r.2)) tRw (0, 0)) ∧ Keeps [X] w w' := by
  obtain ⟨⟨rcl, rn, rim, ris, ro, ri, rd, rtc, rwk, rgb, rlm, rls⟩, rh⟩ := r
  simp only [rwA] at h
  obtain ⟨n0, n1, n2, n3, n4, n5, n6, n7, _⟩ := cells13 h
  have hfz := frz h
  have hs := setCs h 7 (.bool true)
  replace h := Lib.hid h
  replace hs := Lib.hid hs
  go_enter Tryz.func86, Tryz.ntmps86
  go_wp2
  go_end0
  exact ⟨rfl, by simpa [tch] using hs.out, (Keeps.refl _ _).setCell (.inr (by simp)) _⟩
set_option maxRecDepth 100000 in
set_option maxHeartbeats 2000000 in
theorem put1_c (w : World) (X Z : Nat) (r : Rw) (x : En) (h : w.heap[X]? = some (.cells (rwA r) tRw (0, 0))) (hz : w.heap[Z]? = some (.cells #[.int .i64 x.cl, .int .u64 x.n, .int .i64 x.im, .int .i64 x.is, .int .i64 x.o, .int .i64 x.i, .int .i64 x.d, .bool x.tc, .bool x.wk, .bool x.gb, .int .i64 x.lm, .int .i64 x.ls] tE (0, 0))) :
    Calls Tryz.prog 85 #[.pointer (some ⟨X, 0, none⟩), .pointer (some ⟨Z, 0, none⟩)] w fun e w' => e = .returned (.tuple #[]) ∧ w'.heap[X]? = some (.cells (rwA (x, r.2)) tRw (0, 0)) ∧ Keeps [X] w w' := by
  obtain ⟨⟨rcl, rn, rim, ris, ro, ri, rd, rtc, rwk, rgb, rlm, rls⟩, rh⟩ := r
  obtain ⟨cl, n, im, is, o, i, d, tc, wk, gb, lm, ls⟩ := x
  simp only [rwA] at h hz
  obtain ⟨n0, n1, n2, n3, n4, n5, n6, n7, n8, n9, n10, n11, n12, _⟩ := cells13 h
  obtain ⟨m0, m1, m2, m3, m4, m5, m6, m7, m8, m9, m10, m11, _⟩ := cells12 hz
  have hfz := frz h
  replace h := Lib.hid h
  clear hz
  go_enter Tryz.func85, Tryz.ntmps85
  go_wp2
  go_end0
  obtain ⟨hs1, hs2⟩ := st12r h.out (x0 := .int .i64 cl) (x1 := .int .u64 n) (x2 := .int .i64 im) (x3 := .int .i64 is) (x4 := .int .i64 o) (x5 := .int .i64 i) (x6 := .int .i64 d) (x7 := .bool tc) (x8 := .bool wk) (x9 := .bool gb) (x10 := .int .i64 lm) (x11 := .int .i64 ls)
  exact ⟨rfl, hs1, hs2⟩
set_option maxRecDepth 100000 in
set_option maxHeartbeats 4000000 in
theorem changeT_c (w : World) (bt bm : Nat) (S : List Rw) (k : Ky) (t : TM w bt bm S) (hk : kOk k) (hl : S.length ≤ 100000) :
    Calls Tryz.prog 84 #[.pointer (some ⟨bt, 0, none⟩), kyV k, .func (.func 86) #[] #[]] w fun e w' => e = .returned (.int .i64 (touchS k S).1) ∧ TM w' bt bm (touchS k S).2 ∧ Keeps [bm] w w' := by
  obtain ⟨R, hR⟩ : ∃ R, touchS k S = R := ⟨_, rfl⟩
  rw [hR]
  have hR2 := hR
  unfold touchS at hR2
  cases hfn : fnd k S with
  | none =>
    rw [hfn] at hR2
    simp only at hR2
    subst hR2
    obtain ⟨k0, k1⟩ := k
    have hkA : Keeps [] w (w.alloc (.cells #[.int .i64 k0, .int .u64 k1] tK)) := (Keeps.refl _ _).alloc _
    have hbA := heap_alloc_new w (.cells #[.int .i64 k0, .int .u64 k1] tK)
    have hlk0 := t.look (k0, k1) hk
    have tA := t.keeps hkA
    have hlt := t.lt
    obtain ⟨X, hX⟩ : ∃ X, w.heap.size = X := ⟨_, rfl⟩
    have hlk := fun (w' : World) (hb : w'.heap[bm]? = (w.alloc (.cells #[.int .i64 k0, .int .u64 k1] tK)).heap[bm]?) => hlk0 w' (hb.trans (hkA.block bm hlt.2 (by simp)))
    rw [hfn] at hlk
    simp only [rwV, kyV, Option.getD_none, Option.getD_some, Option.isSome_none, Option.isSome_some, En.zero] at hlk
    have hzA : (w.alloc (.cells #[.int .i64 k0, .int .u64 k1] tK)).heap.size = X + 1 := by simp [hX]
    rw [hX] at hbA hlt
    obtain ⟨q0, q1, _⟩ := cells2 hbA
    have d7 := tA.cell
    replace hlk := Lib.hid hlk
    replace tA := Lib.hid tA
    replace hkA := Lib.hid hkA
    replace hbA := Lib.hid hbA
    clear hlk0 t
    simp only [kyV, En.key]
    go_enter Tryz.func84, Tryz.ntmps84
    go_wp2
    generalize hWA : w.alloc (.cells #[.int .i64 k0, .int .u64 k1] tK) = WA at *
    have hbl : bm < WA.heap.size := by omega
    clear hWA
    refine Free.wp_region_chain (fun i => i == 9 || i == 10) (fun i => true) (fun j b => j = 10 ∧ WA.heap.size ≤ b) (by kernel_rfl) (by kernel_rfl) (by kernel_rfl) ?_
    (repeat (first | (apply Free.cw_pure rfl rfl; (intro w'; go_simp <;> exact rfl); go_frame) | (apply Free.cw_steady rfl rfl rfl; (intro w' hS2; have z0 := Free.sx_cell hS2 d7 (fun _ _ hT => by omega); have z1 := Free.sx_cell hS2 q0 (fun _ _ hT => by omega); have z2 := Free.sx_cell hS2 q1 (fun _ _ hT => by omega); have hlk2 := hlk.out w' (hS2.block bm hbl (fun ⟨_, _, _, hT⟩ => by omega)); go_simp <;> exact rfl); go_frame)))
    refine Free.cw_loud rfl rfl (fun K hK => ?_)
    go_wp2
    refine hK _ _ rfl (Free.KeepsP.alloc _ _ _) ?_
    clear hK K
    (repeat (apply Free.cw_pure rfl rfl; (intro w'; go_simp <;> exact rfl); go_frame))
    refine Free.cw_loud rfl rfl (fun K hK => ?_)
    go_wp2
    refine hK _ _ rfl (keepsP_remade (S := fun b => True ∧ WA.heap.size ≤ b) WA _ _ ⟨trivial, Nat.le_refl _⟩).drews ?_
    clear hK K
    (repeat (apply Free.cw_pure rfl rfl; (intro w'; go_simp <;> exact rfl); go_frame))
    refine Free.cw_nil ?_
    have hkB : Keeps [] WA ((WA.alloc (.cells #[.int .i64 0, .int .u64 0, .int .i64 0, .int .i64 0, .int .i64 0, .int .i64 0, .int .i64 0, .bool false, .bool false, .bool false, .int .i64 0, .int .i64 0, .int .i64 0] tRw)).drew) := ((Keeps.refl _ _).alloc _).drew
    have hbB := (drewHeap _ _).trans (heap_alloc_new WA (.cells #[.int .i64 0, .int .u64 0, .int .i64 0, .int .i64 0, .int .i64 0, .int .i64 0, .int .i64 0, .bool false, .bool false, .bool false, .int .i64 0, .int .i64 0, .int .i64 0] tRw))
    have tB := tA.out.keeps hkB
    have hbA2 := (hkB.block X (by omega) (by simp)).trans hbA.out
    have hk02 := hkA.out.trans hkB
    have hzB : ((WA.alloc (.cells #[.int .i64 0, .int .u64 0, .int .i64 0, .int .i64 0, .int .i64 0, .int .i64 0, .int .i64 0, .bool false, .bool false, .bool false, .int .i64 0, .int .i64 0, .int .i64 0] tRw)).drew).heap.size = X + 2 := by simp [hzA]
    rw [hzA] at hbB
    generalize ((WA.alloc (.cells #[.int .i64 0, .int .u64 0, .int .i64 0, .int .i64 0, .int .i64 0, .int .i64 0, .int .i64 0, .bool false, .bool false, .bool false, .int .i64 0, .int .i64 0, .int .i64 0] tRw)).drew) = WB at *
    clear hkB hbA tA hlk q0 q1 d7 hkA
    replace tB := Lib.hid tB
    replace hk02 := Lib.hid hk02
    clear hbB hbA2
    go_wp2
    go_ret
    exact ⟨rfl, tB.out, hk02.out.of_nil⟩
  | some fr =>
    rw [hfn] at hR2
    simp only at hR2
    subst hR2
    obtain ⟨hfm, hfk⟩ := fnd_some hfn
    obtain ⟨⟨rcl, rn, rim, ris, ro, ri, rd, rtc, rwk, rgb, rlm, rls⟩, rh⟩ := fr
    simp only at hfk
    subst hfk
    have hkA : Keeps [] w (w.alloc (.cells #[.int .i64 rcl, .int .u64 rn] tK)) := (Keeps.refl _ _).alloc _
    have hbA := heap_alloc_new w (.cells #[.int .i64 rcl, .int .u64 rn] tK)
    have hlk0 := t.look (rcl, rn) hk
    have tA := t.keeps hkA
    have hlt := t.lt
    obtain ⟨X, hX⟩ : ∃ X, w.heap.size = X := ⟨_, rfl⟩
    have hlk := fun (w' : World) (hb : w'.heap[bm]? = (w.alloc (.cells #[.int .i64 rcl, .int .u64 rn] tK)).heap[bm]?) => hlk0 w' (hb.trans (hkA.block bm hlt.2 (by simp)))
    have hfn2 : fnd (rcl, rn) S = some (⟨rcl, rn, rim, ris, ro, ri, rd, rtc, rwk, rgb, rlm, rls⟩, rh) := hfn
    rw [hfn2] at hlk
    simp only [rwV, kyV, Option.getD_none, Option.getD_some, Option.isSome_none, Option.isSome_some, En.zero] at hlk
    have hzA : (w.alloc (.cells #[.int .i64 rcl, .int .u64 rn] tK)).heap.size = X + 1 := by simp [hX]
    rw [hX] at hbA hlt
    obtain ⟨q0, q1, _⟩ := cells2 hbA
    have d7 := tA.cell
    replace hlk := Lib.hid hlk
    replace tA := Lib.hid tA
    replace hkA := Lib.hid hkA
    replace hbA := Lib.hid hbA
    clear hlk0 t
    simp only [kyV, En.key]
    go_enter Tryz.func84, Tryz.ntmps84
    go_wp2
    generalize hWA : w.alloc (.cells #[.int .i64 rcl, .int .u64 rn] tK) = WA at *
    have hbl : bm < WA.heap.size := by omega
    clear hWA
    refine Free.wp_region_chain (fun i => i == 9 || i == 10) (fun i => true) (fun j b => j = 10 ∧ WA.heap.size ≤ b) (by kernel_rfl) (by kernel_rfl) (by kernel_rfl) ?_
    (repeat (first | (apply Free.cw_pure rfl rfl; (intro w'; go_simp <;> exact rfl); go_frame) | (apply Free.cw_steady rfl rfl rfl; (intro w' hS2; have z0 := Free.sx_cell hS2 d7 (fun _ _ hT => by omega); have z1 := Free.sx_cell hS2 q0 (fun _ _ hT => by omega); have z2 := Free.sx_cell hS2 q1 (fun _ _ hT => by omega); have hlk2 := hlk.out w' (hS2.block bm hbl (fun ⟨_, _, _, hT⟩ => by omega)); go_simp <;> exact rfl); go_frame)))
    refine Free.cw_loud rfl rfl (fun K hK => ?_)
    go_wp2
    refine hK _ _ rfl (Free.KeepsP.alloc _ _ _) ?_
    clear hK K
    (repeat (apply Free.cw_pure rfl rfl; (intro w'; go_simp <;> exact rfl); go_frame))
    refine Free.cw_loud rfl rfl (fun K hK => ?_)
    go_wp2
    refine hK _ _ rfl (keepsP_remade (S := fun b => True ∧ WA.heap.size ≤ b) WA _ _ ⟨trivial, Nat.le_refl _⟩).drews ?_
    clear hK K
    (repeat (apply Free.cw_pure rfl rfl; (intro w'; go_simp <;> exact rfl); go_frame))
    refine Free.cw_nil ?_
    have hkB : Keeps [] WA ((WA.alloc (.cells #[.int .i64 rcl, .int .u64 rn, .int .i64 rim, .int .i64 ris, .int .i64 ro, .int .i64 ri, .int .i64 rd, .bool rtc, .bool rwk, .bool rgb, .int .i64 rlm, .int .i64 rls, .int .i64 rh] tRw)).drew) := ((Keeps.refl _ _).alloc _).drew
    have hbB := (drewHeap _ _).trans (heap_alloc_new WA (.cells #[.int .i64 rcl, .int .u64 rn, .int .i64 rim, .int .i64 ris, .int .i64 ro, .int .i64 ri, .int .i64 rd, .bool rtc, .bool rwk, .bool rgb, .int .i64 rlm, .int .i64 rls, .int .i64 rh] tRw))
    have tB := tA.out.keeps hkB
    have hbA2 := (hkB.block X (by omega) (by simp)).trans hbA.out
    have hk02 := hkA.out.trans hkB
    have hzB : ((WA.alloc (.cells #[.int .i64 rcl, .int .u64 rn, .int .i64 rim, .int .i64 ris, .int .i64 ro, .int .i64 ri, .int .i64 rd, .bool rtc, .bool rwk, .bool rgb, .int .i64 rlm, .int .i64 rls, .int .i64 rh] tRw)).drew).heap.size = X + 2 := by simp [hzA]
    rw [hzA] at hbB
    generalize ((WA.alloc (.cells #[.int .i64 rcl, .int .u64 rn, .int .i64 rim, .int .i64 ris, .int .i64 ro, .int .i64 ri, .int .i64 rd, .bool rtc, .bool rwk, .bool rgb, .int .i64 rlm, .int .i64 rls, .int .i64 rh] tRw)).drew) = WB at *
    clear hkB hbA tA hlk q0 q1 d7 hkA
    have hcl := touch1_c WB (X + 1) (⟨rcl, rn, rim, ris, ro, ri, rd, rtc, rwk, rgb, rlm, rls⟩, rh) hbB
    obtain ⟨q0, q1, _⟩ := cells2 hbA2
    have d7 := tB.cell
    replace hcl := Lib.hid hcl
    replace tB := Lib.hid tB
    replace hk02 := Lib.hid hk02
    replace hbA2 := Lib.hid hbA2
    replace hbB := Lib.hid hbB
    go_wp2_with fail
    refine hcl.out.mono ?_
    rintro e WC ⟨rfl, hbC, hkC⟩
    have hne : bt ≠ X + 1 ∧ bm ≠ X + 1 := by omega
    have tC := tB.out.kept hkC (by simpa using hne.1) (by simpa using hne.2)
    have hbA3 := (hkC.block X (by omega) (by simp)).trans hbA2.out
    have hk03 := hk02.out.fresh hkC (fun b hb => .inr (by simp at hb; omega))
    have hfS : (fnd ((tch ⟨rcl, rn, rim, ris, ro, ri, rd, rtc, rwk, rgb, rlm, rls⟩)).key S).isSome = true := by show (fnd (rcl, rn) S).isSome = true; rw [hfn2]; rfl
    have hkk : kOk ((tch ⟨rcl, rn, rim, ris, ro, ri, rd, rtc, rwk, rgb, rlm, rls⟩)).key := hk
    obtain ⟨w9, hrun, t9, hk9⟩ := (tC.keeps ((Keeps.refl [] WC).drew)).putOld (tch ⟨rcl, rn, rim, ris, ro, ri, rd, rtc, rwk, rgb, rlm, rls⟩) rh hkk hfS (by omega)
    simp only [rwA, tch] at hbC
    clear q0 q1 d7 hcl hbB
    obtain ⟨q0, q1, _⟩ := cells2 hbA3
    obtain ⟨n0, n1, n2, n3, n4, n5, n6, n7, n8, n9, n10, n11, n12, _⟩ := cells13 hbC
    have d7 := tC.cell
    have hnb := tC.ne
    have hkf := (hk03.drew.of_nil (T := [bm])).trans hk9
    simp only [kyV, rwV, En.key, tch] at hrun
    have hk9p : Free.KeepsP (fun b => True ∧ b = bm) WC.drew w9 := Free.KeepsP.of hk9 (by simp)
    replace t9 := Lib.hid t9
    replace hkf := Lib.hid hkf
    replace hk9p := Lib.hid hk9p
    clear tB hk02 hbA2 hkC tC hbA3 hbC hk9 hk03
    go_wp2
    refine Free.wp_region_chain (fun i => i == 6) (fun i => true) (fun j b => j = 6 ∧ b = bm) (by kernel_rfl) (by kernel_rfl) (by kernel_rfl) ?_
    (repeat (first | (apply Free.cw_pure rfl rfl; (intro w'; go_simp <;> exact rfl); go_frame) | (apply Free.cw_steady rfl rfl rfl; (intro w' hS2; have z0 := Free.sx_cell hS2 d7 (fun _ _ hT => hnb hT.2); have z1 := Free.sx_cell hS2 q0 (fun _ _ hT => by have := hT.2; omega); have z2 := Free.sx_cell hS2 q1 (fun _ _ hT => by have := hT.2; omega); have z3 := Free.sx_cell hS2 n0 (fun _ _ hT => by have := hT.2; omega); have z4 := Free.sx_cell hS2 n1 (fun _ _ hT => by have := hT.2; omega); have z5 := Free.sx_cell hS2 n2 (fun _ _ hT => by have := hT.2; omega); have z6 := Free.sx_cell hS2 n3 (fun _ _ hT => by have := hT.2; omega); have z7 := Free.sx_cell hS2 n4 (fun _ _ hT => by have := hT.2; omega); have z8 := Free.sx_cell hS2 n5 (fun _ _ hT => by have := hT.2; omega); have z9 := Free.sx_cell hS2 n6 (fun _ _ hT => by have := hT.2; omega); have z10 := Free.sx_cell hS2 n7 (fun _ _ hT => by have := hT.2; omega); have z11 := Free.sx_cell hS2 n8 (fun _ _ hT => by have := hT.2; omega); have z12 := Free.sx_cell hS2 n9 (fun _ _ hT => by have := hT.2; omega); have z13 := Free.sx_cell hS2 n10 (fun _ _ hT => by have := hT.2; omega); have z14 := Free.sx_cell hS2 n11 (fun _ _ hT => by have := hT.2; omega); have z15 := Free.sx_cell hS2 n12 (fun _ _ hT => by have := hT.2; omega); go_simp <;> exact rfl); go_frame)))
    refine Free.cw_loud rfl rfl (fun K hK => ?_)
    go_wp2
    refine hK _ _ rfl hk9p.out ?_
    clear hK K
    (repeat (apply Free.cw_pure rfl rfl; (intro w'; go_simp <;> exact rfl); go_frame))
    refine Free.cw_nil ?_
    go_wp2
    go_ret
    exact ⟨rfl, t9.out, hkf.out⟩
def putF (k : Ky) (x : En) (S : List Rw) : Int × List Rw := match fnd k S with | none => (6, S) | some r => (0, upd (x, r.2) S)
set_option maxRecDepth 100000 in
set_option maxHeartbeats 4000000 in
theorem changeP_c (w : World) (bt bm : Nat) (S : List Rw) (k : Ky) (t : TM w bt bm S) (hk : kOk k) (hl : S.length ≤ 100000) (Z : Nat) (x : En) (hz : w.heap[Z]? = some (.cells #[.int .i64 x.cl, .int .u64 x.n, .int .i64 x.im, .int .i64 x.is, .int .i64 x.o, .int .i64 x.i, .int .i64 x.d, .bool x.tc, .bool x.wk, .bool x.gb, .int .i64 x.lm, .int .i64 x.ls] tE (0, 0))) (hxk : x.key = k) :
    Calls Tryz.prog 84 #[.pointer (some ⟨bt, 0, none⟩), kyV k, .func (.func 85) #[] #[.pointer (some ⟨Z, 0, none⟩)]] w fun e w' => e = .returned (.int .i64 (putF k x S).1) ∧ TM w' bt bm (putF k x S).2 ∧ Keeps [bm] w w' := by
  obtain ⟨R, hR⟩ : ∃ R, putF k x S = R := ⟨_, rfl⟩
  rw [hR]
  have hR2 := hR
  unfold putF at hR2
  cases hfn : fnd k S with
  | none =>
    rw [hfn] at hR2
    simp only at hR2
    subst hR2
    obtain ⟨k0, k1⟩ := k
    have hkA : Keeps [] w (w.alloc (.cells #[.int .i64 k0, .int .u64 k1] tK)) := (Keeps.refl _ _).alloc _
    have hbA := heap_alloc_new w (.cells #[.int .i64 k0, .int .u64 k1] tK)
    have hlk0 := t.look (k0, k1) hk
    have tA := t.keeps hkA
    have hlt := t.lt
    obtain ⟨X, hX⟩ : ∃ X, w.heap.size = X := ⟨_, rfl⟩
    have hlk := fun (w' : World) (hb : w'.heap[bm]? = (w.alloc (.cells #[.int .i64 k0, .int .u64 k1] tK)).heap[bm]?) => hlk0 w' (hb.trans (hkA.block bm hlt.2 (by simp)))
    rw [hfn] at hlk
    simp only [rwV, kyV, Option.getD_none, Option.getD_some, Option.isSome_none, Option.isSome_some, En.zero] at hlk
    have hzA : (w.alloc (.cells #[.int .i64 k0, .int .u64 k1] tK)).heap.size = X + 1 := by simp [hX]
    rw [hX] at hbA hlt
    obtain ⟨q0, q1, _⟩ := cells2 hbA
    have d7 := tA.cell
    replace hlk := Lib.hid hlk
    replace tA := Lib.hid tA
    replace hkA := Lib.hid hkA
    replace hbA := Lib.hid hbA
    clear hlk0 t
    simp only [kyV, En.key]
    go_enter Tryz.func84, Tryz.ntmps84
    go_wp2
    generalize hWA : w.alloc (.cells #[.int .i64 k0, .int .u64 k1] tK) = WA at *
    have hbl : bm < WA.heap.size := by omega
    clear hWA
    refine Free.wp_region_chain (fun i => i == 9 || i == 10) (fun i => true) (fun j b => j = 10 ∧ WA.heap.size ≤ b) (by kernel_rfl) (by kernel_rfl) (by kernel_rfl) ?_
    (repeat (first | (apply Free.cw_pure rfl rfl; (intro w'; go_simp <;> exact rfl); go_frame) | (apply Free.cw_steady rfl rfl rfl; (intro w' hS2; have z0 := Free.sx_cell hS2 d7 (fun _ _ hT => by omega); have z1 := Free.sx_cell hS2 q0 (fun _ _ hT => by omega); have z2 := Free.sx_cell hS2 q1 (fun _ _ hT => by omega); have hlk2 := hlk.out w' (hS2.block bm hbl (fun ⟨_, _, _, hT⟩ => by omega)); go_simp <;> exact rfl); go_frame)))
    refine Free.cw_loud rfl rfl (fun K hK => ?_)
    go_wp2
    refine hK _ _ rfl (Free.KeepsP.alloc _ _ _) ?_
    clear hK K
    (repeat (apply Free.cw_pure rfl rfl; (intro w'; go_simp <;> exact rfl); go_frame))
    refine Free.cw_loud rfl rfl (fun K hK => ?_)
    go_wp2
    refine hK _ _ rfl (keepsP_remade (S := fun b => True ∧ WA.heap.size ≤ b) WA _ _ ⟨trivial, Nat.le_refl _⟩).drews ?_
    clear hK K
    (repeat (apply Free.cw_pure rfl rfl; (intro w'; go_simp <;> exact rfl); go_frame))
    refine Free.cw_nil ?_
    have hkB : Keeps [] WA ((WA.alloc (.cells #[.int .i64 0, .int .u64 0, .int .i64 0, .int .i64 0, .int .i64 0, .int .i64 0, .int .i64 0, .bool false, .bool false, .bool false, .int .i64 0, .int .i64 0, .int .i64 0] tRw)).drew) := ((Keeps.refl _ _).alloc _).drew
    have hbB := (drewHeap _ _).trans (heap_alloc_new WA (.cells #[.int .i64 0, .int .u64 0, .int .i64 0, .int .i64 0, .int .i64 0, .int .i64 0, .int .i64 0, .bool false, .bool false, .bool false, .int .i64 0, .int .i64 0, .int .i64 0] tRw))
    have tB := tA.out.keeps hkB
    have hbA2 := (hkB.block X (by omega) (by simp)).trans hbA.out
    have hk02 := hkA.out.trans hkB
    have hzB : ((WA.alloc (.cells #[.int .i64 0, .int .u64 0, .int .i64 0, .int .i64 0, .int .i64 0, .int .i64 0, .int .i64 0, .bool false, .bool false, .bool false, .int .i64 0, .int .i64 0, .int .i64 0] tRw)).drew).heap.size = X + 2 := by simp [hzA]
    rw [hzA] at hbB
    generalize ((WA.alloc (.cells #[.int .i64 0, .int .u64 0, .int .i64 0, .int .i64 0, .int .i64 0, .int .i64 0, .int .i64 0, .bool false, .bool false, .bool false, .int .i64 0, .int .i64 0, .int .i64 0] tRw)).drew) = WB at *
    clear hkB hbA tA hlk q0 q1 d7 hkA
    replace tB := Lib.hid tB
    replace hk02 := Lib.hid hk02
    clear hbB hbA2
    go_wp2
    go_ret
    exact ⟨rfl, tB.out, hk02.out.of_nil⟩
  | some fr =>
    rw [hfn] at hR2
    simp only at hR2
    subst hR2
    obtain ⟨hfm, hfk⟩ := fnd_some hfn
    obtain ⟨⟨rcl, rn, rim, ris, ro, ri, rd, rtc, rwk, rgb, rlm, rls⟩, rh⟩ := fr
    simp only at hfk
    subst hfk
    obtain ⟨cl, n, im, is, o, i, d, tc, wk, gb, lm, ls⟩ := x
    simp only [En.key, Prod.mk.injEq] at hxk
    obtain ⟨rfl, rfl⟩ := hxk
    have hkA : Keeps [] w (w.alloc (.cells #[.int .i64 cl, .int .u64 n] tK)) := (Keeps.refl _ _).alloc _
    have hbA := heap_alloc_new w (.cells #[.int .i64 cl, .int .u64 n] tK)
    have hlk0 := t.look (cl, n) hk
    have tA := t.keeps hkA
    have hlt := t.lt
    obtain ⟨X, hX⟩ : ∃ X, w.heap.size = X := ⟨_, rfl⟩
    have hlk := fun (w' : World) (hb : w'.heap[bm]? = (w.alloc (.cells #[.int .i64 cl, .int .u64 n] tK)).heap[bm]?) => hlk0 w' (hb.trans (hkA.block bm hlt.2 (by simp)))
    have hfn2 : fnd (cl, n) S = some (⟨cl, n, rim, ris, ro, ri, rd, rtc, rwk, rgb, rlm, rls⟩, rh) := hfn
    rw [hfn2] at hlk
    simp only [rwV, kyV, Option.getD_none, Option.getD_some, Option.isSome_none, Option.isSome_some, En.zero] at hlk
    have hzA : (w.alloc (.cells #[.int .i64 cl, .int .u64 n] tK)).heap.size = X + 1 := by simp [hX]
    rw [hX] at hbA hlt
    obtain ⟨q0, q1, _⟩ := cells2 hbA
    have d7 := tA.cell
    replace hlk := Lib.hid hlk
    replace tA := Lib.hid tA
    replace hkA := Lib.hid hkA
    replace hbA := Lib.hid hbA
    clear hlk0 t
    simp only [kyV, En.key]
    go_enter Tryz.func84, Tryz.ntmps84
    go_wp2
    generalize hWA : w.alloc (.cells #[.int .i64 cl, .int .u64 n] tK) = WA at *
    have hbl : bm < WA.heap.size := by omega
    clear hWA
    refine Free.wp_region_chain (fun i => i == 9 || i == 10) (fun i => true) (fun j b => j = 10 ∧ WA.heap.size ≤ b) (by kernel_rfl) (by kernel_rfl) (by kernel_rfl) ?_
    (repeat (first | (apply Free.cw_pure rfl rfl; (intro w'; go_simp <;> exact rfl); go_frame) | (apply Free.cw_steady rfl rfl rfl; (intro w' hS2; have z0 := Free.sx_cell hS2 d7 (fun _ _ hT => by omega); have z1 := Free.sx_cell hS2 q0 (fun _ _ hT => by omega); have z2 := Free.sx_cell hS2 q1 (fun _ _ hT => by omega); have hlk2 := hlk.out w' (hS2.block bm hbl (fun ⟨_, _, _, hT⟩ => by omega)); go_simp <;> exact rfl); go_frame)))
    refine Free.cw_loud rfl rfl (fun K hK => ?_)
    go_wp2
    refine hK _ _ rfl (Free.KeepsP.alloc _ _ _) ?_
    clear hK K
    (repeat (apply Free.cw_pure rfl rfl; (intro w'; go_simp <;> exact rfl); go_frame))
    refine Free.cw_loud rfl rfl (fun K hK => ?_)
    go_wp2
    refine hK _ _ rfl (keepsP_remade (S := fun b => True ∧ WA.heap.size ≤ b) WA _ _ ⟨trivial, Nat.le_refl _⟩).drews ?_
    clear hK K
    (repeat (apply Free.cw_pure rfl rfl; (intro w'; go_simp <;> exact rfl); go_frame))
    refine Free.cw_nil ?_
    have hkB : Keeps [] WA ((WA.alloc (.cells #[.int .i64 cl, .int .u64 n, .int .i64 rim, .int .i64 ris, .int .i64 ro, .int .i64 ri, .int .i64 rd, .bool rtc, .bool rwk, .bool rgb, .int .i64 rlm, .int .i64 rls, .int .i64 rh] tRw)).drew) := ((Keeps.refl _ _).alloc _).drew
    have hbB := (drewHeap _ _).trans (heap_alloc_new WA (.cells #[.int .i64 cl, .int .u64 n, .int .i64 rim, .int .i64 ris, .int .i64 ro, .int .i64 ri, .int .i64 rd, .bool rtc, .bool rwk, .bool rgb, .int .i64 rlm, .int .i64 rls, .int .i64 rh] tRw))
    have tB := tA.out.keeps hkB
    have hbA2 := (hkB.block X (by omega) (by simp)).trans hbA.out
    have hk02 := hkA.out.trans hkB
    have hzB : ((WA.alloc (.cells #[.int .i64 cl, .int .u64 n, .int .i64 rim, .int .i64 ris, .int .i64 ro, .int .i64 ri, .int .i64 rd, .bool rtc, .bool rwk, .bool rgb, .int .i64 rlm, .int .i64 rls, .int .i64 rh] tRw)).drew).heap.size = X + 2 := by simp [hzA]
    rw [hzA] at hbB
    generalize ((WA.alloc (.cells #[.int .i64 cl, .int .u64 n, .int .i64 rim, .int .i64 ris, .int .i64 ro, .int .i64 ri, .int .i64 rd, .bool rtc, .bool rwk, .bool rgb, .int .i64 rlm, .int .i64 rls, .int .i64 rh] tRw)).drew) = WB at *
    clear hkB hbA tA hlk q0 q1 d7 hkA
    have hcl := put1_c WB (X + 1) Z (⟨cl, n, rim, ris, ro, ri, rd, rtc, rwk, rgb, rlm, rls⟩, rh) ⟨cl, n, im, is, o, i, d, tc, wk, gb, lm, ls⟩ hbB ((hk02.block Z (lt_of_blk hz) (by simp)).trans hz)
    obtain ⟨q0, q1, _⟩ := cells2 hbA2
    have d7 := tB.cell
    replace hcl := Lib.hid hcl
    replace tB := Lib.hid tB
    replace hk02 := Lib.hid hk02
    replace hbA2 := Lib.hid hbA2
    replace hbB := Lib.hid hbB
    go_wp2_with fail
    refine hcl.out.mono ?_
    rintro e WC ⟨rfl, hbC, hkC⟩
    have hne : bt ≠ X + 1 ∧ bm ≠ X + 1 := by omega
    have tC := tB.out.kept hkC (by simpa using hne.1) (by simpa using hne.2)
    have hbA3 := (hkC.block X (by omega) (by simp)).trans hbA2.out
    have hk03 := hk02.out.fresh hkC (fun b hb => .inr (by simp at hb; omega))
    have hfS : (fnd ((⟨cl, n, im, is, o, i, d, tc, wk, gb, lm, ls⟩ : En)).key S).isSome = true := by show (fnd (cl, n) S).isSome = true; rw [hfn2]; rfl
    have hkk : kOk ((⟨cl, n, im, is, o, i, d, tc, wk, gb, lm, ls⟩ : En)).key := hk
    obtain ⟨w9, hrun, t9, hk9⟩ := (tC.keeps ((Keeps.refl [] WC).drew)).putOld (⟨cl, n, im, is, o, i, d, tc, wk, gb, lm, ls⟩ : En) rh hkk hfS (by omega)
    simp only [rwA, tch] at hbC
    clear q0 q1 d7 hcl hbB
    obtain ⟨q0, q1, _⟩ := cells2 hbA3
    obtain ⟨n0, n1, n2, n3, n4, n5, n6, n7, n8, n9, n10, n11, n12, _⟩ := cells13 hbC
    have d7 := tC.cell
    have hnb := tC.ne
    have hkf := (hk03.drew.of_nil (T := [bm])).trans hk9
    simp only [kyV, rwV, En.key, tch] at hrun
    have hk9p : Free.KeepsP (fun b => True ∧ b = bm) WC.drew w9 := Free.KeepsP.of hk9 (by simp)
    replace t9 := Lib.hid t9
    replace hkf := Lib.hid hkf
    replace hk9p := Lib.hid hk9p
    clear tB hk02 hbA2 hkC tC hbA3 hbC hk9 hk03
    go_wp2
    refine Free.wp_region_chain (fun i => i == 6) (fun i => true) (fun j b => j = 6 ∧ b = bm) (by kernel_rfl) (by kernel_rfl) (by kernel_rfl) ?_
    (repeat (first | (apply Free.cw_pure rfl rfl; (intro w'; go_simp <;> exact rfl); go_frame) | (apply Free.cw_steady rfl rfl rfl; (intro w' hS2; have z0 := Free.sx_cell hS2 d7 (fun _ _ hT => hnb hT.2); have z1 := Free.sx_cell hS2 q0 (fun _ _ hT => by have := hT.2; omega); have z2 := Free.sx_cell hS2 q1 (fun _ _ hT => by have := hT.2; omega); have z3 := Free.sx_cell hS2 n0 (fun _ _ hT => by have := hT.2; omega); have z4 := Free.sx_cell hS2 n1 (fun _ _ hT => by have := hT.2; omega); have z5 := Free.sx_cell hS2 n2 (fun _ _ hT => by have := hT.2; omega); have z6 := Free.sx_cell hS2 n3 (fun _ _ hT => by have := hT.2; omega); have z7 := Free.sx_cell hS2 n4 (fun _ _ hT => by have := hT.2; omega); have z8 := Free.sx_cell hS2 n5 (fun _ _ hT => by have := hT.2; omega); have z9 := Free.sx_cell hS2 n6 (fun _ _ hT => by have := hT.2; omega); have z10 := Free.sx_cell hS2 n7 (fun _ _ hT => by have := hT.2; omega); have z11 := Free.sx_cell hS2 n8 (fun _ _ hT => by have := hT.2; omega); have z12 := Free.sx_cell hS2 n9 (fun _ _ hT => by have := hT.2; omega); have z13 := Free.sx_cell hS2 n10 (fun _ _ hT => by have := hT.2; omega); have z14 := Free.sx_cell hS2 n11 (fun _ _ hT => by have := hT.2; omega); have z15 := Free.sx_cell hS2 n12 (fun _ _ hT => by have := hT.2; omega); go_simp <;> exact rfl); go_frame)))
    refine Free.cw_loud rfl rfl (fun K hK => ?_)
    go_wp2
    refine hK _ _ rfl hk9p.out ?_
    clear hK K
    (repeat (apply Free.cw_pure rfl rfl; (intro w'; go_simp <;> exact rfl); go_frame))
    refine Free.cw_nil ?_
    go_wp2
    go_ret
    exact ⟨rfl, t9.out, hkf.out⟩
end Go.Proofs.YtblaaafpglomnaaGreat

namespace Go.Proofs.YtblaaafpglomnaaGreat
open Go Go.RowKit

set_option maxRecDepth 100000 in
set_option maxHeartbeats 2000000 in
theorem touch_c (w : World) (bt bm : Nat) (S : List Rw) (c : Int) (m : Nat) (t : TM w bt bm S) (hk : kOk (c, m)) (hl : S.length ≤ 100000) :
    Calls Tryz.prog 70 #[.pointer (some ⟨bt, 0, none⟩), .int .i64 c, .int .u64 m] w fun e w' => e = .returned (.int .i64 (touchS (c, m) S).1) ∧ TM w' bt bm (touchS (c, m) S).2 ∧ Keeps [bm] w w' := by
  have hc := changeT_c w bt bm S (c, m) t hk hl
  obtain ⟨R, hR⟩ : ∃ R, touchS (c, m) S = R := ⟨_, rfl⟩
  rw [hR] at hc ⊢
  simp only [kyV] at hc
  replace hc := Lib.hid hc
  clear t
  go_enter Tryz.func70, Tryz.ntmps70
  go_wp2_with fail
  refine hc.out.mono ?_
  rintro e w1 ⟨rfl, t1, hk1⟩
  replace t1 := Lib.hid t1
  replace hk1 := Lib.hid hk1
  go_wp2
  go_ret
  exact ⟨rfl, t1.out, hk1.out⟩
set_option maxRecDepth 100000 in
set_option maxHeartbeats 4000000 in
theorem put_c (w : World) (bt bm : Nat) (S : List Rw) (x : En) (t : TM w bt bm S) (hx : x.ok) (hl : S.length ≤ 100000) :
    Calls Tryz.prog 68 #[.pointer (some ⟨bt, 0, none⟩), enV x] w fun e w' => e = .returned (.int .i64 (putS x S).1) ∧ TM w' bt bm (putS x S).2 ∧ Keeps [bm] w w' := by
  have hky : kOk x.key := ⟨hx.cl, hx.n⟩
  have hcv := fun W => valid_c W x
  have hof := fun W => of_c W x
  have hP : putS x S = if x.val = false then (1, S) else putF x.key x S := rfl
  obtain ⟨vv, hvv⟩ : ∃ b, x.val = b := ⟨_, rfl⟩
  obtain ⟨R, hR⟩ : ∃ R, putS x S = R := ⟨_, rfl⟩
  rw [hR] at hP ⊢
  rw [hvv] at hP
  simp only [hvv] at hcv
  clear hvv hR hx
  have hcg := fun (W : World) (tW : TM W bt bm S) (hZ : W.heap[w.heap.size]? = some (.cells #[.int .i64 x.cl, .int .u64 x.n, .int .i64 x.im, .int .i64 x.is, .int .i64 x.o, .int .i64 x.i, .int .i64 x.d, .bool x.tc, .bool x.wk, .bool x.gb, .int .i64 x.lm, .int .i64 x.ls] tE (0, 0))) => changeP_c W bt bm S x.key tW hky hl w.heap.size x hZ rfl
  obtain ⟨cl, n, im, is, o, i, d, tc, wk, gb, lm, ls⟩ := x
  have hkA : Keeps [] w (w.alloc (.cells #[.int .i64 cl, .int .u64 n, .int .i64 im, .int .i64 is, .int .i64 o, .int .i64 i, .int .i64 d, .bool tc, .bool wk, .bool gb, .int .i64 lm, .int .i64 ls] tE)) := (Keeps.refl _ _).alloc _
  have hbA := heap_alloc_new w (.cells #[.int .i64 cl, .int .u64 n, .int .i64 im, .int .i64 is, .int .i64 o, .int .i64 i, .int .i64 d, .bool tc, .bool wk, .bool gb, .int .i64 lm, .int .i64 ls] tE)
  have hltA := lt_of_blk hbA
  have hlt0 := t.lt
  simp only [En.key, kyV] at hcg hof
  simp only [En.key] at hP
  obtain ⟨X, hX⟩ : ∃ X, w.heap.size = X := ⟨_, rfl⟩
  rw [hX] at hbA hltA hlt0
  simp only [hX] at hcg
  replace hcv := Lib.hid hcv
  replace hof := Lib.hid hof
  replace hcg := Lib.hid hcg
  replace hP := Lib.hid hP
  replace hkA := Lib.hid hkA
  replace hbA := Lib.hid hbA
  replace t := Lib.hid t
  replace hky := Lib.hid hky
  go_enter Tryz.func68, Tryz.ntmps68
  go_wp2_with fail
  refine (hcv.out _).mono ?_
  rintro e w1 ⟨rfl, hk1⟩
  have hb1 := (hk1.block X hltA (by simp)).trans hbA.out
  have hk01 := hkA.out.trans hk1
  have hz1 : X < w1.heap.size := Nat.lt_of_lt_of_le hltA hk1.size
  have t1 := t.out.keeps hk01
  obtain ⟨y0, y1, y2, y3, y4, y5, y6, y7, y8, y9, y10, y11, _⟩ := cells12 hb1
  replace hk01 := Lib.hid hk01
  replace t1 := Lib.hid t1
  replace hb1 := Lib.hid hb1
  clear hk1 hkA hbA hcv t hltA
  cases vv with
  | false =>
    have hr := hP.out.trans (if_pos rfl)
    subst hr
    go_wp2
    go_ret
    exact ⟨rfl, t1.out, hk01.out.of_nil⟩
  | true =>
    have hr := hP.out.trans (if_neg (by simp))
    subst hr
    clear hP
    go_wp2_with fail
    refine (hof.out _).mono ?_
    rintro e w2 ⟨rfl, hk2⟩
    have t2 := t1.out.keeps hk2
    have hb2 := (hk2.block X hz1 (by simp)).trans hb1.out
    have hk02 := hk01.out.trans hk2
    have hcc := hcg.out w2 t2 hb2
    replace hcc := Lib.hid hcc
    replace hk02 := Lib.hid hk02
    clear t2 hb2 hk2 t1 hb1 hcg y0 y1 y2 y3 y4 y5 y6 y7 y8 y9 y10 y11
    go_wp2_with fail
    refine hcc.out.mono ?_
    rintro e w3 ⟨rfl, t3, hk3⟩
    have hk03 := (hk02.out.of_nil (T := [bm])).trans hk3
    replace t3 := Lib.hid t3
    replace hk03 := Lib.hid hk03
    clear hk3
    go_wp2
    go_ret
    exact ⟨rfl, t3.out, hk03.out⟩
set_option maxRecDepth 100000 in
set_option maxHeartbeats 4000000 in
theorem remove_c (w : World) (bt bm : Nat) (S : List Rw) (k : Ky) (t : TM w bt bm S) (hk : kOk k) :
    Calls Tryz.prog 23 #[.pointer (some ⟨bt, 0, none⟩), .int .i64 k.1, .int .u64 k.2] w fun e w' => e = .returned (.tuple #[.int .i64 (remS k S).1, .int .i64 (remS k S).2.1]) ∧ TM w' bt bm (remS k S).2.2 ∧ Keeps [bm] w w' := by
  obtain ⟨R, hR⟩ : ∃ R, remS k S = R := ⟨_, rfl⟩
  rw [hR]
  have hR2 := hR
  unfold remS at hR2
  cases hfn : fnd k S with
  | none =>
    rw [hfn] at hR2
    simp only at hR2
    subst hR2
    obtain ⟨k0, k1⟩ := k
    have hkA : Keeps [] w (w.alloc (.cells #[.int .i64 k0, .int .u64 k1] tK)) := (Keeps.refl _ _).alloc _
    have hbA := heap_alloc_new w (.cells #[.int .i64 k0, .int .u64 k1] tK)
    have hlk0 := t.look (k0, k1) hk
    have tA := t.keeps hkA
    have hlt := t.lt
    obtain ⟨X, hX⟩ : ∃ X, w.heap.size = X := ⟨_, rfl⟩
    have hlk := fun (w' : World) (hb : w'.heap[bm]? = (w.alloc (.cells #[.int .i64 k0, .int .u64 k1] tK)).heap[bm]?) => hlk0 w' (hb.trans (hkA.block bm hlt.2 (by simp)))
    rw [hfn] at hlk
    simp only [rwV, kyV, Option.getD_none, Option.getD_some, Option.isSome_none, Option.isSome_some, En.zero] at hlk
    have hzA : (w.alloc (.cells #[.int .i64 k0, .int .u64 k1] tK)).heap.size = X + 1 := by simp [hX]
    rw [hX] at hbA hlt
    obtain ⟨q0, q1, _⟩ := cells2 hbA
    have d7 := tA.cell
    replace hlk := Lib.hid hlk
    replace tA := Lib.hid tA
    replace hkA := Lib.hid hkA
    replace hbA := Lib.hid hbA
    clear hlk0 t
    go_enter Tryz.func23, Tryz.ntmps23
    go_wp2
    generalize hWA : w.alloc (.cells #[.int .i64 k0, .int .u64 k1] tK) = WA at *
    have hbl : bm < WA.heap.size := by omega
    clear hWA
    refine Free.wp_region_chain (fun i => i == 9 || i == 10) (fun i => true) (fun j b => j = 10 ∧ WA.heap.size ≤ b) (by kernel_rfl) (by kernel_rfl) (by kernel_rfl) ?_
    (repeat (first | (apply Free.cw_pure rfl rfl; (intro w'; go_simp <;> exact rfl); go_frame) | (apply Free.cw_steady rfl rfl rfl; (intro w' hS2; have z0 := Free.sx_cell hS2 d7 (fun _ _ hT => by omega); have z1 := Free.sx_cell hS2 q0 (fun _ _ hT => by omega); have z2 := Free.sx_cell hS2 q1 (fun _ _ hT => by omega); have hlk2 := hlk.out w' (hS2.block bm hbl (fun ⟨_, _, _, hT⟩ => by omega)); go_simp <;> exact rfl); go_frame)))
    refine Free.cw_loud rfl rfl (fun K hK => ?_)
    go_wp2
    refine hK _ _ rfl (Free.KeepsP.alloc _ _ _) ?_
    clear hK K
    (repeat (apply Free.cw_pure rfl rfl; (intro w'; go_simp <;> exact rfl); go_frame))
    refine Free.cw_loud rfl rfl (fun K hK => ?_)
    go_wp2
    refine hK _ _ rfl (keepsP_remade (S := fun b => True ∧ WA.heap.size ≤ b) WA _ _ ⟨trivial, Nat.le_refl _⟩).drews ?_
    clear hK K
    (repeat (apply Free.cw_pure rfl rfl; (intro w'; go_simp <;> exact rfl); go_frame))
    refine Free.cw_nil ?_
    have hkB : Keeps [] WA ((WA.alloc (.cells #[.int .i64 0, .int .u64 0, .int .i64 0, .int .i64 0, .int .i64 0, .int .i64 0, .int .i64 0, .bool false, .bool false, .bool false, .int .i64 0, .int .i64 0, .int .i64 0] tRw)).drew) := ((Keeps.refl _ _).alloc _).drew
    have hbB := (drewHeap _ _).trans (heap_alloc_new WA (.cells #[.int .i64 0, .int .u64 0, .int .i64 0, .int .i64 0, .int .i64 0, .int .i64 0, .int .i64 0, .bool false, .bool false, .bool false, .int .i64 0, .int .i64 0, .int .i64 0] tRw))
    have tB := tA.out.keeps hkB
    have hbA2 := (hkB.block X (by omega) (by simp)).trans hbA.out
    have hk02 := hkA.out.trans hkB
    have hzB : ((WA.alloc (.cells #[.int .i64 0, .int .u64 0, .int .i64 0, .int .i64 0, .int .i64 0, .int .i64 0, .int .i64 0, .bool false, .bool false, .bool false, .int .i64 0, .int .i64 0, .int .i64 0] tRw)).drew).heap.size = X + 2 := by simp [hzA]
    rw [hzA] at hbB
    generalize ((WA.alloc (.cells #[.int .i64 0, .int .u64 0, .int .i64 0, .int .i64 0, .int .i64 0, .int .i64 0, .int .i64 0, .bool false, .bool false, .bool false, .int .i64 0, .int .i64 0, .int .i64 0] tRw)).drew) = WB at *
    clear hkB hbA tA hlk q0 q1 d7 hkA
    replace tB := Lib.hid tB
    replace hk02 := Lib.hid hk02
    clear hbB hbA2
    go_wp2
    go_ret2
    exact ⟨rfl, tB.out, hk02.out.of_nil⟩
  | some fr =>
    rw [hfn] at hR2
    simp only at hR2
    subst hR2
    obtain ⟨hfm, hfk⟩ := fnd_some hfn
    obtain ⟨⟨rcl, rn, rim, ris, ro, ri, rd, rtc, rwk, rgb, rlm, rls⟩, rh⟩ := fr
    simp only at hfk
    subst hfk
    have hkA : Keeps [] w (w.alloc (.cells #[.int .i64 rcl, .int .u64 rn] tK)) := (Keeps.refl _ _).alloc _
    have hbA := heap_alloc_new w (.cells #[.int .i64 rcl, .int .u64 rn] tK)
    have hlk0 := t.look (rcl, rn) hk
    have tA := t.keeps hkA
    have hlt := t.lt
    obtain ⟨X, hX⟩ : ∃ X, w.heap.size = X := ⟨_, rfl⟩
    have hlk := fun (w' : World) (hb : w'.heap[bm]? = (w.alloc (.cells #[.int .i64 rcl, .int .u64 rn] tK)).heap[bm]?) => hlk0 w' (hb.trans (hkA.block bm hlt.2 (by simp)))
    have hfn2 : fnd (rcl, rn) S = some (⟨rcl, rn, rim, ris, ro, ri, rd, rtc, rwk, rgb, rlm, rls⟩, rh) := hfn
    rw [hfn2] at hlk
    simp only [rwV, kyV, Option.getD_none, Option.getD_some, Option.isSome_none, Option.isSome_some, En.zero] at hlk
    have hzA : (w.alloc (.cells #[.int .i64 rcl, .int .u64 rn] tK)).heap.size = X + 1 := by simp [hX]
    rw [hX] at hbA hlt
    obtain ⟨q0, q1, _⟩ := cells2 hbA
    have d7 := tA.cell
    replace hlk := Lib.hid hlk
    replace tA := Lib.hid tA
    replace hkA := Lib.hid hkA
    replace hbA := Lib.hid hbA
    clear hlk0 t
    go_enter Tryz.func23, Tryz.ntmps23
    go_wp2
    generalize hWA : w.alloc (.cells #[.int .i64 rcl, .int .u64 rn] tK) = WA at *
    have hbl : bm < WA.heap.size := by omega
    clear hWA
    refine Free.wp_region_chain (fun i => i == 9 || i == 10) (fun i => true) (fun j b => j = 10 ∧ WA.heap.size ≤ b) (by kernel_rfl) (by kernel_rfl) (by kernel_rfl) ?_
    (repeat (first | (apply Free.cw_pure rfl rfl; (intro w'; go_simp <;> exact rfl); go_frame) | (apply Free.cw_steady rfl rfl rfl; (intro w' hS2; have z0 := Free.sx_cell hS2 d7 (fun _ _ hT => by omega); have z1 := Free.sx_cell hS2 q0 (fun _ _ hT => by omega); have z2 := Free.sx_cell hS2 q1 (fun _ _ hT => by omega); have hlk2 := hlk.out w' (hS2.block bm hbl (fun ⟨_, _, _, hT⟩ => by omega)); go_simp <;> exact rfl); go_frame)))
    refine Free.cw_loud rfl rfl (fun K hK => ?_)
    go_wp2
    refine hK _ _ rfl (Free.KeepsP.alloc _ _ _) ?_
    clear hK K
    (repeat (apply Free.cw_pure rfl rfl; (intro w'; go_simp <;> exact rfl); go_frame))
    refine Free.cw_loud rfl rfl (fun K hK => ?_)
    go_wp2
    refine hK _ _ rfl (keepsP_remade (S := fun b => True ∧ WA.heap.size ≤ b) WA _ _ ⟨trivial, Nat.le_refl _⟩).drews ?_
    clear hK K
    (repeat (apply Free.cw_pure rfl rfl; (intro w'; go_simp <;> exact rfl); go_frame))
    refine Free.cw_nil ?_
    have hkB : Keeps [] WA ((WA.alloc (.cells #[.int .i64 rcl, .int .u64 rn, .int .i64 rim, .int .i64 ris, .int .i64 ro, .int .i64 ri, .int .i64 rd, .bool rtc, .bool rwk, .bool rgb, .int .i64 rlm, .int .i64 rls, .int .i64 rh] tRw)).drew) := ((Keeps.refl _ _).alloc _).drew
    have hbB := (drewHeap _ _).trans (heap_alloc_new WA (.cells #[.int .i64 rcl, .int .u64 rn, .int .i64 rim, .int .i64 ris, .int .i64 ro, .int .i64 ri, .int .i64 rd, .bool rtc, .bool rwk, .bool rgb, .int .i64 rlm, .int .i64 rls, .int .i64 rh] tRw))
    have tB := tA.out.keeps hkB
    have hbA2 := (hkB.block X (by omega) (by simp)).trans hbA.out
    have hk02 := hkA.out.trans hkB
    have hzB : ((WA.alloc (.cells #[.int .i64 rcl, .int .u64 rn, .int .i64 rim, .int .i64 ris, .int .i64 ro, .int .i64 ri, .int .i64 rd, .bool rtc, .bool rwk, .bool rgb, .int .i64 rlm, .int .i64 rls, .int .i64 rh] tRw)).drew).heap.size = X + 2 := by simp [hzA]
    rw [hzA] at hbB
    generalize ((WA.alloc (.cells #[.int .i64 rcl, .int .u64 rn, .int .i64 rim, .int .i64 ris, .int .i64 ro, .int .i64 ri, .int .i64 rd, .bool rtc, .bool rwk, .bool rgb, .int .i64 rlm, .int .i64 rls, .int .i64 rh] tRw)).drew) = WB at *
    clear hkB hbA tA hlk q0 q1 d7 hkA
    obtain ⟨w9, hrun, t9, hk9⟩ := (tB.keeps ((Keeps.refl [] WB).drew)).drop (rcl, rn) hk 0
    obtain ⟨q0, q1, _⟩ := cells2 hbA2
    have d7 := tB.cell
    have hnb := tB.ne
    have hkf := (hk02.drew.of_nil (T := [bm])).trans hk9
    have hbC := (hk9.block (X + 1) (by simp; omega) (by simp; omega)).trans ((drewHeap _ _).trans hbB)
    obtain ⟨n0, n1, n2, n3, n4, n5, n6, n7, n8, n9, n10, n11, n12, _⟩ := cells13 hbC
    simp only [kyV] at hrun
    have hk9p : Free.KeepsP (fun b => True ∧ b = bm) WB.drew w9 := Free.KeepsP.of hk9 (by simp)
    replace t9 := Lib.hid t9
    replace hkf := Lib.hid hkf
    replace hk9p := Lib.hid hk9p
    clear tB hk02 hbA2 hbC hk9 hbB
    go_wp2
    refine Free.wp_region_chain (fun i => i == 5) (fun i => true) (fun j b => j = 5 ∧ b = bm) (by kernel_rfl) (by kernel_rfl) (by kernel_rfl) ?_
    (repeat (first | (apply Free.cw_pure rfl rfl; (intro w'; go_simp <;> exact rfl); go_frame) | (apply Free.cw_steady rfl rfl rfl; (intro w' hS2; have z0 := Free.sx_cell hS2 d7 (fun _ _ hT => hnb hT.2); have z1 := Free.sx_cell hS2 q0 (fun _ _ hT => by have := hT.2; omega); have z2 := Free.sx_cell hS2 q1 (fun _ _ hT => by have := hT.2; omega); go_simp <;> exact rfl); go_frame)))
    refine Free.cw_loud rfl rfl (fun K hK => ?_)
    go_wp2
    refine hK _ _ rfl hk9p.out ?_
    clear hK K
    (repeat (apply Free.cw_pure rfl rfl; (intro w'; go_simp <;> exact rfl); go_frame))
    refine Free.cw_nil ?_
    go_wp2
    go_ret2
    exact ⟨rfl, t9.out, hkf.out⟩
end Go.Proofs.YtblaaafpglomnaaGreat

namespace Go.Proofs.YtblaaafpglomnaaGreat
namespace MapS
open Go Go.RowKit
variable {P : Program} {kt t e : TypeId} {κ : Type} [DecidableEq κ] {α : Type} (K : KT P kt κ) {vf : α → Value} {L : Es κ α} {w : World} {b : Nat}
section
variable {F : Fence} {nF : Nat} {ops : Array Oper} {rest : List Oper} {o : Oper} {a : Act} {Q : Exit → Act → World → Prop}
theorem wplIn_range (hg : o.guard = none) (m : Operand) (hop : o.op = Op.range t m) (ht : P.underlying t = some (.map kt e)) (hm : a.eval m = .map (some b)) (h : M K vf w b L)
    (hK : ∀ w', Rg K vf w' b w.heap.size L L → w.grownBy w' none → w'.heap.size = w.heap.size + 1 → wpListIn F nF P ops Q rest (a.put o.dst (.pointer (some ⟨w.heap.size, 0, none⟩))) w') : wpListIn F nF P ops Q (o :: rest) a w := by
  obtain ⟨⟨D, h1, h2, h3, h4⟩, hnd, ho⟩ := h
  refine wpListIn_range_own w hg m t hop kt e K.law ht raw b L.length D hm h1 (fun w' hr hg2 hs => hK w' ⟨⟨_, _, _, _, hr, h3, fun x l hl => h3.hs K hl, h4⟩, hnd, hnd, fun _ h => h, ho⟩ hg2 hs)
theorem wplIn_next (hg : o.guard = none) (it : Operand) (hop : o.op = Op.next it false) {r : Nat} {R : Es κ α} (hit : a.eval it = .pointer (some ⟨r, 0, none⟩)) (h : Rg K vf w b r L R)
    (hDone : R = [] → wpListIn F nF P ops Q rest (a.put o.dst (.tuple #[.bool false])) w)
    (hMore : ∀ (x : κ) (u : α) (R' : Es κ α) (w' : World), K.ok x → get x L = some u → (x, u) ∈ R → R.Perm ((x, u) :: R') → Rg K vf w' b r L R' → w.grownBy w' (some r) → w'.heap.size = w.heap.size → w'.rangeLeft b r < w.rangeLeft b r →
      (Instr.entry (.pointer (some ⟨r, 0, none⟩))).run P w' = .ok (.tuple #[K.kv x, vf u]) w' → wpListIn F nF P ops Q rest (a.put o.dst (.tuple #[.bool true, K.kv x, vf u])) w') : wpListIn F nF P ops Q (o :: rest) a w := by
  obtain ⟨⟨n, D, left, cnt, hr, hR, hl, hdm⟩, hnd, hnr, hsub, hok⟩ := h
  refine wpListIn_next_ranges w hg it hop kt K.law raw id id (fun key _ _ => ⟨key, rfl⟩) (fun v _ _ => ⟨v, rfl⟩) b r n D left cnt hit hr ?_ ?_
  · intro _ h0
    refine hDone ?_
    cases R with
    | nil => rfl
    | cons p t =>
      obtain ⟨l, hl'⟩ := K.key p.1 (hok p (hsub p (by simp)))
      have := hl p.1 l hl'
      rw [h0 l] at this
      simp [get] at this
  · intro key c kl y w' cnt' hkey hlk hv hat hr' hcl hg2 hs hen
    obtain ⟨x, hkx, _⟩ := hdm kl hlk
    obtain rfl : key = K.kv x := K.law.inj hkey hkx
    replace hkey := hkx
    have hlx := hl x kl hkey
    rw [hlk] at hlx
    obtain ⟨u, hu⟩ := Option.isSome_iff_exists.1 hlx.symm
    have hum := get_mem hu
    have hgL := get_of_mem hnd (hsub _ hum)
    have hc : c = vf u := by
      simp only [raw, id, Option.some.injEq] at hv
      have h1 := hat (.held c)
      rw [(hR.yes K hkey hgL).2] at h1
      rw [← hv] at h1
      cases h1; rfl
    subst hc
    have hp : R.Perm ((x, u) :: del x R) := by
      have hnk : ∀ {S : Es κ α}, ND S → (x, u) ∈ S → S.Perm ((x, u) :: del x S) := by
        intro S
        induction S with
        | nil => intro _ h; simp at h
        | cons q s ih =>
          intro hn hm
          obtain ⟨n1, n2⟩ := List.nodup_cons.1 hn
          rcases List.mem_cons.1 hm with rfl | hm
          · have hself : del x s = s := List.filter_eq_self.2 (fun p hp => by
              have : p.1 ≠ x := fun e => n1 (List.mem_map.2 ⟨p, hp, e⟩)
              simp [this])
            have : del x ((x, u) :: s) = s := by
              unfold del at hself ⊢
              rw [List.filter_cons_of_neg (by simp)]; exact hself
            rw [this]
          · have hqx : q.1 ≠ x := fun e => n1 (List.mem_map.2 ⟨(x, u), hm, e.symm⟩)
            have : del x (q :: s) = q :: del x s := by unfold del; rw [List.filter_cons_of_pos (by simp [hqx])]
            rw [this]
            exact ((ih n2 hm).cons q).trans (List.Perm.swap _ _ _)
      exact hnk hnr hum
    refine hMore x u (del x R) w' ?_ hgL hum hp ⟨⟨n, D, _, cnt', hr', hR, fun z l hz => ?_, fun l hl' => ?_⟩, hnd, nd_del hnr, fun p hm => hsub p (List.mem_filter.1 hm).1, hok⟩ hg2 hs (by rw [hr'.left_eq, hr.left_eq]; exact hcl) hen
    · exact hok _ (hsub _ hum)
    · show (left l && !l.sameKey kl) = _
      rw [get_del]
      by_cases e : z = x
      · subst e
        rw [hkey] at hz; cases hz
        rw [if_pos rfl]
        simp [WideAt.sameKey_self (K.law.key hkey)]
      · have hne : l ≠ kl := fun e' => by subst e'; exact e (K.inj _ _ (K.law.inj hz hkey))
        rw [if_neg e, hl z l hz]
        simp [Maps.sameKey_ne hne]
    · simp only [Bool.and_eq_true, Bool.not_eq_true'] at hl'
      obtain ⟨z, h5, h6⟩ := hdm l hl'.1
      refine ⟨z, h5, ?_⟩
      rw [get_del, if_neg (fun e => ?_)]
      · exact h6
      · subst e
        rw [hkey] at h5; cases h5
        rw [WideAt.sameKey_self (K.law.key hkey)] at hl'
        cases hl'.2
end
variable {w' : World} {r : Nat} {R : Es κ α} {K}
theorem Rg.of_walks (h : Rg K vf w b r L R) (hk : KeepsWalks w w') : Rg K vf w' b r L R := by
  obtain ⟨⟨n, D, left, cnt, hr, h1⟩, h2, h3, h4, h5⟩ := h
  exact ⟨⟨n, D, left, cnt, hr.of_walks hk, h1⟩, h2, h3, h4, h5⟩
theorem Rg.left_walks (h : Rg K vf w b r L R) (hk : KeepsWalks w w') : w'.rangeLeft b r = w.rangeLeft b r := by
  obtain ⟨⟨n, D, left, cnt, hr, h1⟩, h2, h3, h4, h5⟩ := h
  exact (hr.of_walks hk).left_eq.trans hr.left_eq.symm
theorem Rg.left_kept {S : List Nat} (h : Rg K vf w b r L R) (hk : Keeps S w w') (hb : b ∉ S) (hr : r ∉ S) : w'.rangeLeft b r = w.rangeLeft b r := by
  obtain ⟨hl1, hl2, _⟩ := h.lt
  unfold World.rangeLeft
  rw [hk.block b hl1 hb, hk.block r hl2 hr]
theorem Rg.walk (h : Rg K vf w b r L R) : ∃ o, w.heap[r]? = some o ∧ o.isWalk = true := by
  obtain ⟨⟨n, D, left, cnt, hr, h1⟩, h2⟩ := h
  exact hr.iter_walk
end MapS
end Go.Proofs.YtblaaafpglomnaaGreat

namespace Go.Proofs.YtblaaafpglomnaaGreat
open Go Go.RowKit Go.Sort
namespace Sh
variable {α : Type} [Inhabited α] {s : Sh α} {w w' : World} {L : List α} {B e g n c : Nat}

theorem flat_cs (s : Sh α) (L : List α) : (flatK s.cf s.sz L.toArray).toList = s.cs L := by
  have hp := s.pos
  refine List.ext_getElem? fun i => ?_
  by_cases hi : i < L.length * s.sz
  · have h1 : i < (flatK s.cf s.sz L.toArray).size := by rw [size_flatK]; simpa using hi
    rw [Array.getElem?_toList, ← getElem?_pos_bang h1, get_flatK _ _ _ _ (by simpa using hi)]
    have hk : i / s.sz < L.length := (Nat.div_lt_iff_lt_mul hp).2 hi
    have hr : i % s.sz < s.sz := Nat.mod_lt _ hp
    have hdm : i / s.sz * s.sz + i % s.sz = i := by rw [Nat.mul_comm]; exact Nat.div_add_mod _ _
    have h4 := cs_get (s := s) L (i / s.sz) hk (i % s.sz) hr
    rw [hdm] at h4
    rw [h4]
    have e1 : (L.toArray)[i / s.sz]! = L[i / s.sz] := by simp [hk]
    rw [e1]
    have h5 : i % s.sz < (s.cf L[i / s.sz]).length := by rw [s.len]; exact hr
    rw [List.getElem?_eq_getElem h5]
    simp [h5]
  · rw [List.getElem?_eq_none (by simp; omega), List.getElem?_eq_none (by rw [cs_len]; omega)]
where
  getElem?_pos_bang {F : Array Value} {i : Nat} (h : i < F.size) : some F[i]! = F[i]? := by simp [h]
theorem O.holds (h : s.O w B e (.slice (some ⟨g, 0, none⟩) n c) L) : HoldsK s.cf s.sz w g 0 L.toArray := by
  rcases h with ⟨h1, ⟨h2, _⟩ | ⟨g', cap, cur, h2, hb, hg, h3, h4, h5, h6⟩⟩
  · cases h2
  · cases h2
    intro j hj
    have hj' : j < (s.cs L).length := by rw [← flat_cs]; simpa using hj
    have e1 : (flatK s.cf s.sz L.toArray)[j]! = (s.cs L)[j] := by
      have : (s.cs L)[j]? = (flatK s.cf s.sz L.toArray).toList[j]? := by rw [flat_cs]
      rw [List.getElem?_eq_getElem hj', Array.getElem?_toList, Array.getElem?_eq_getElem hj] at this
      rw [getElem!_pos _ j hj]
      exact (Option.some.inj this).symm
    have e2 : cur[j]? = some ((s.cs L)[j]) := by
      have : (cur.toList.take (L.length * s.sz))[j]? = (s.cs L)[j]? := by rw [← h6]
      rw [List.getElem?_eq_getElem hj', List.getElem?_take] at this
      split at this
      · simpa using this
      · cases this
    constructor
    · rw [Nat.zero_add, e1]
      simp [World.cell?, hg, e2]
    · simp [World.frozen?, hg]
theorem O.sorted {d' : Array α} {m : Nat} {os : Array Obj} (h : s.O w B e (.slice (some ⟨g, 0, none⟩) n c) L) (hd : d'.size = L.length) : s.O (sortWorldK s.cf s.sz w g 0 m d' os) B e (.slice (some ⟨g, 0, none⟩) n c) d'.toList ∧ Keeps [g] w (sortWorldK s.cf s.sz w g 0 m d' os) := by
  rcases h with ⟨h1, ⟨h2, _⟩ | ⟨g', cap, cur, h2, hb, hg, h3, h4, h5, h6⟩⟩
  · cases h2
  · have hn : n = L.length := by simp at h2; exact h2.2.1
    subst hn
    cases h2
    have hgl : g < w.heap.size := (Array.getElem?_eq_some_iff.1 hg).1
    have hheap : (sortWorldK s.cf s.sz w g 0 m d' os).heap = (w.heap.modify g (onCells (putCells id 0 (flatK s.cf s.sz d')))) ++ os := rfl
    have hblk : (sortWorldK s.cf s.sz w g 0 m d' os).heap[g]? = some (.cells (putCells id 0 (flatK s.cf s.sz d') cur) e (0, 0)) := by
      rw [hheap, Array.getElem?_append_left (by simpa using hgl), Array.getElem?_modify, if_pos rfl, hg]
      rfl
    have hfl : (flatK s.cf s.sz d').toList = s.cs d'.toList := by have := flat_cs s d'.toList; simpa using this
    have hcur : L.length * s.sz ≤ cur.size := by
      have := congrArg List.length h6
      rw [h1] at this
      simp only [List.length_take, Array.length_toList] at this
      omega
    refine ⟨⟨by rw [cs_len], .inr ⟨g, c, _, by simp [hd], hb, hblk, by simpa [hd] using h3, h4, by simpa [putCells] using h5, ?_⟩⟩, ⟨rfl, rfl, rfl, ?_, fun k hk hS => ?_⟩⟩
    · rw [← hfl]
      refine List.ext_getElem? fun i => ?_
      have hsz : (flatK s.cf s.sz d').size = L.length * s.sz := by rw [size_flatK, hd]
      by_cases hi : i < L.length * s.sz
      · rw [List.getElem?_take_of_lt (by simpa [hd] using hi), Array.getElem?_toList, Array.getElem?_toList]
        unfold putCells
        rw [Array.getElem?_mapIdx, Array.getElem?_eq_getElem (by omega)]
        simp [hsz, hi]
      · rw [List.getElem?_take, if_neg (by simpa [hd] using hi), List.getElem?_eq_none (by rw [Array.length_toList, hsz]; omega)]
    · rw [hheap]; simp
    · rw [hheap, Array.getElem?_append_left (by simpa using hk), Array.getElem?_modify, if_neg (by simpa using fun e : g = k => hS (by simp [e]))]
/-- What a permutation that is sorted by a strict total order is. -/
theorem perm_of_permIn {d d' : Array α} (h : PermIn 0 d.size d d') : d'.size = d.size ∧ d'.toList.Perm d.toList := by
  obtain ⟨h1, _, h2⟩ := h
  refine ⟨h1, ?_⟩
  rw [show d'.extract 0 d.size = d' by rw [← h1]; simp, show d.extract 0 d.size = d by simp] at h2
  exact h2
theorem pairwise_of_sortedIn {lt : α → α → Bool} {d : Array α} (h : SortedIn lt 0 d.size d) : d.toList.Pairwise (fun x y => lt y x = false) := by
  rw [List.pairwise_iff_getElem]
  intro i j hi hj hij
  have := h i j (Nat.zero_le _) hij (by simpa using hj)
  simp at hi hj
  simpa [hi, hj] using this
end Sh
end Go.Proofs.YtblaaafpglomnaaGreat

namespace Go.Proofs
open Go.Shelf
def Tryz.sortK_ren : Go.Shelf.Ren := ⟨fun | 6 => 82 | 15 => 76 | 14 => 101 | 28 => 97 | 29 => 98 | 20 => 107 | 21 => 108 | 22 => 109 | 23 => 110 | 24 => 111 | 25 => 112 | 26 => 113 | 27 => 114 | 46 => 116 | 47 => 103 | 48 => 104 | 49 => 117 | 50 => 118 | 57 => 119 | n => n, fun | 22 => 87 | 24 => 70 | 25 => 77 | 3 => 3 | 39 => 106 | 0 => 0 | 53 => 148 | 55 => 43 | 4 => 4 | 46 => 140 | 45 => 139 | 50 => 145 | 5 => 5 | 9 => 9 | 66 => 152 | 70 => 155 | 76 => 162 | 77 => 163 | n => n, fun | n => n⟩
theorem Tryz.sortK : Go.Proofs.SlLaysF0.n6 Tryz.prog Tryz.sortK_ren := {
  mixed := by kernel_rfl
  f6 := ⟨Tryz.f82.name, by decide, Tryz.func82.trans (congrArg some (by kernel_rfl))⟩
  f14 := ⟨Tryz.f101.name, by decide, Tryz.func101.trans (congrArg some (by kernel_rfl))⟩
  f15 := Tryz.func76.trans (congrArg some (by kernel_rfl))
  f20 := ⟨Tryz.f107.name, by decide, Tryz.func107.trans (congrArg some (by kernel_rfl))⟩
  f21 := ⟨Tryz.f108.name, by decide, Tryz.func108.trans (congrArg some (by kernel_rfl))⟩
  f22 := ⟨Tryz.f109.name, by decide, Tryz.func109.trans (congrArg some (by kernel_rfl))⟩
  f23 := ⟨Tryz.f110.name, by decide, Tryz.func110.trans (congrArg some (by kernel_rfl))⟩
  f24 := ⟨Tryz.f111.name, by decide, Tryz.func111.trans (congrArg some (by kernel_rfl))⟩
  f25 := ⟨Tryz.f112.name, by decide, Tryz.func112.trans (congrArg some (by kernel_rfl))⟩
  f26 := ⟨Tryz.f113.name, by decide, Tryz.func113.trans (congrArg some (by kernel_rfl))⟩
  f27 := ⟨Tryz.f114.name, by decide, Tryz.func114.trans (congrArg some (by kernel_rfl))⟩
  f28 := Tryz.func97.trans (congrArg some (by kernel_rfl))
  f29 := Tryz.func98.trans (congrArg some (by kernel_rfl))
  f46 := ⟨Tryz.f116.name, by decide, Tryz.func116.trans (congrArg some (by kernel_rfl))⟩
  f47 := Tryz.func103.trans (congrArg some (by kernel_rfl))
  f48 := Tryz.func104.trans (congrArg some (by kernel_rfl))
  f49 := ⟨Tryz.f117.name, by decide, Tryz.func117.trans (congrArg some (by kernel_rfl))⟩
  f50 := ⟨Tryz.f118.name, by decide, Tryz.func118.trans (congrArg some (by kernel_rfl))⟩
  f57 := ⟨Tryz.f119.name, by decide, Tryz.func119.trans (congrArg some (by kernel_rfl))⟩
  t0 := Tryz.underlying0
  a0 := Tryz.isAgg0
  z0 := Tryz.sizeOf0
  v0 := Tryz.zeroValue0
  t3 := Tryz.underlying3
  a3 := Tryz.isAgg3
  z3 := Tryz.sizeOf3
  v3 := Tryz.zeroValue3
  t4 := Tryz.underlying4
  a4 := Tryz.isAgg4
  z4 := Tryz.sizeOf4
  v4 := Tryz.zeroValue4
  t5 := Tryz.underlying5
  a5 := Tryz.isAgg5
  z5 := Tryz.sizeOf5
  v5 := Tryz.zeroValue5
  t9 := Tryz.underlying9
  a9 := Tryz.isAgg9
  z9 := Tryz.sizeOf9
  v9 := Tryz.zeroValue9
  t22 := Tryz.underlying87
  a22 := Tryz.isAgg87
  z22 := Tryz.sizeOf87
  v22 := Tryz.zeroValue87
  t25 := Tryz.underlying77
  a25 := Tryz.isAgg77
  z25 := Tryz.sizeOf77
  v25 := Tryz.zeroValue77
  t39 := Tryz.underlying106
  a39 := Tryz.isAgg106
  z39 := Tryz.sizeOf106
  v39 := Tryz.zeroValue106
  t45 := Tryz.underlying139
  a45 := Tryz.isAgg139
  z45 := Tryz.sizeOf139
  v45 := Tryz.zeroValue139
  t46 := Tryz.underlying140
  a46 := Tryz.isAgg140
  z46 := Tryz.sizeOf140
  v46 := Tryz.zeroValue140
  t50 := Tryz.underlying145
  a50 := Tryz.isAgg145
  z50 := Tryz.sizeOf145
  v50 := Tryz.zeroValue145
  t53 := Tryz.underlying148
  a53 := Tryz.isAgg148
  z53 := Tryz.sizeOf148
  v53 := Tryz.zeroValue148
  t55 := Tryz.underlying43
  a55 := Tryz.isAgg43
  z55 := Tryz.sizeOf43
  v55 := Tryz.zeroValue43
  t66 := Tryz.underlying152
  a66 := Tryz.isAgg152
  z66 := Tryz.sizeOf152
  v66 := Tryz.zeroValue152
  t70 := Tryz.underlying155
  a70 := Tryz.isAgg155
  z70 := Tryz.sizeOf155
  v70 := Tryz.zeroValue155
  t76 := Tryz.underlying162
  a76 := Tryz.isAgg162
  z76 := Tryz.sizeOf162
  v76 := Tryz.zeroValue162
  t77 := Tryz.underlying163
  a77 := Tryz.isAgg163
  z77 := Tryz.sizeOf163
  v77 := Tryz.zeroValue163 }
end Go.Proofs

namespace Go.Proofs.YtblaaafpglomnaaGreat
open Go Go.RowKit Go.Sort Go.Shelf Go.Proofs

def cI (x y : Int) : Int := if x < y then -1 else if y < x then 1 else 0
set_option maxRecDepth 100000 in
set_option maxHeartbeats 1000000 in
theorem compareI_c (x y : Int) (w : World) : Calls Tryz.prog 59 #[.int .i64 x, .int .i64 y] w fun e w' => e = .returned (.int .i64 (cI x y)) ∧ w = w' := by
  unfold cI
  by_cases h1 : x < y
  · rw [if_pos h1]
    go_enter Tryz.func59, Tryz.ntmps59
    go_wp2
    go_ret
    exact ⟨rfl, rfl⟩
  · rw [if_neg h1]
    have h1' : decide (x < y) = false := by simpa using h1
    by_cases h2 : y < x
    · rw [if_pos h2]
      go_enter Tryz.func59, Tryz.ntmps59
      go_wp2
      go_ret
      exact ⟨rfl, rfl⟩
    · rw [if_neg h2]
      have h2' : decide (y < x) = false := by simpa using h2
      go_enter Tryz.func59, Tryz.ntmps59
      go_wp2
      go_ret
      exact ⟨rfl, rfl⟩
set_option maxRecDepth 100000 in
set_option maxHeartbeats 1000000 in
theorem compareU_c (x y : Nat) (w : World) : Calls Tryz.prog 60 #[.int .u64 x, .int .u64 y] w fun e w' => e = .returned (.int .i64 (cI x y)) ∧ w = w' := by
  unfold cI
  by_cases h1 : (x : Int) < y
  · rw [if_pos h1]
    go_enter Tryz.func60, Tryz.ntmps60
    go_wp2
    go_ret
    exact ⟨rfl, rfl⟩
  · rw [if_neg h1]
    have h1' : decide ((x : Int) < y) = false := by simpa using h1
    by_cases h2 : (y : Int) < x
    · rw [if_pos h2]
      go_enter Tryz.func60, Tryz.ntmps60
      go_wp2
      go_ret
      exact ⟨rfl, rfl⟩
    · rw [if_neg h2]
      have h2' : decide ((y : Int) < x) = false := by simpa using h2
      go_enter Tryz.func60, Tryz.ntmps60
      go_wp2
      go_ret
      exact ⟨rfl, rfl⟩
def orL : List Int → Int
  | [] => 0
  | x :: r => if x ≠ 0 then x else orL r
theorem orL_drop (L : List Int) (k : Nat) (hk : k < L.length) : orL (L.drop k) = if L[k] ≠ 0 then L[k] else orL (L.drop (k + 1)) := by
  rw [List.drop_eq_getElem_cons hk]; rfl
set_option maxRecDepth 100000 in
set_option maxHeartbeats 1000000 in
theorem or_c (w : World) (v : Value) (L : List Int) (h : shZ.R w v L) : Calls Tryz.prog 58 #[v] w fun e w' => e = .returned (.int .i64 (orL L)) ∧ w = w' := by
  obtain ⟨a, c, rfl, hlc, hcm, _⟩ := h.form
  have hel := fun k hk => h.elem (k := k) hk
  have hod := fun k hk => orL_drop L k hk
  obtain ⟨M, hM⟩ : ∃ N, L.length = N := ⟨_, rfl⟩
  rw [hM] at hlc ⊢
  have hMm : M ≤ 9223372036854775807 := by unfold maxLen at hcm; omega
  obtain ⟨r, hr⟩ : ∃ r, orL L = r := ⟨_, rfl⟩
  rw [hr]
  replace hr := Lib.hid hr
  replace hel := Lib.hid hel
  replace hod := Lib.hid hod
  replace hM := Lib.hid hM
  clear h
  go_enter Tryz.func58, Tryz.ntmps58
  go_wp2
  go_loop [8] (fun i => ∃ k : Nat, i = .int .i64 k ∧ k ≤ M ∧ Hid (orL (L.drop k) = r)) (fun i => M - (intOf i).toNat)
  case atStart => exact ⟨0, rfl, by omega, by show _ = _; simpa using hr.out⟩
  case round =>
    obtain ⟨k, rfl, hk, hrk⟩ := hrel
    by_cases hlt : k < M
    · obtain ⟨g, o, c', hv, he⟩ := hel.out k (by rw [hM.out]; exact hlt)
      cases hv
      have ho := hod.out k (by rw [hM.out]; exact hlt)
      obtain ⟨x, hx⟩ : ∃ x, L[k]'(by rw [hM.out]; exact hlt) = x := ⟨_, rfl⟩
      rw [hx] at he ho
      have e0 := he 0 _ rfl
      simp only [shZ, Nat.add_zero, Nat.mul_one] at e0
      replace hx := Lib.hid hx
      clear he
      by_cases h0 : x = 0
      · subst h0
        rw [if_neg (by simp)] at ho
        replace ho := Lib.hid ho
        go_wp2
        go_round
        case rel => exact ⟨k + 1, rfl, by omega, by show _ = _; rw [← ho.out]; exact hrk.out⟩
        case measure => simp [intOf]; omega
      · rw [if_pos h0] at ho
        have h0' : (x != 0) = true := by simpa using h0
        have hxr : x = r := by rw [← ho]; exact hrk.out
        subst hxr
        replace ho := Lib.hid ho
        replace h0 := Lib.hid h0
        go_wp2
        go_ret
        exact ⟨rfl, rfl⟩
    · have hr0 : r = 0 := by
        rw [← hrk.out, List.drop_eq_nil_of_le (by rw [hM.out]; omega)]; rfl
      subst hr0
      go_wp2
      go_ret
      exact ⟨rfl, rfl⟩
def cfK (x y : Ky) : Int := orL [cI x.1 y.1, cI x.2 y.2]
theorem gr_alloc (w : World) (o : Obj) : w.alloc o = grow (w.drewN 0) #[o] := alloc_eq_grow w o
theorem shZ_of2 (w : World) (a b : Int) (t : TypeId) : shZ.R (w.alloc (.cells #[.int .i64 a, .int .i64 b] t)) (.slice (some ⟨w.heap.size, 0, none⟩) 2 2) [a, b] :=
  Sh.R.made shZ w [a, b] #[.int .i64 a, .int .i64 b] t rfl (by simp [maxLen]) 2 rfl
set_option maxRecDepth 100000 in
set_option maxHeartbeats 2000000 in
theorem compare_c (x y : Ky) (w : World) : Calls Tryz.prog 30 #[kyV x, kyV y] w fun e w' => e = .returned (.int .i64 (cfK x y)) ∧ ∃ q os, w' = grow (w.drewN q) os := by
  obtain ⟨x0, x1⟩ := x
  obtain ⟨y0, y1⟩ := y
  obtain ⟨r, hr⟩ : ∃ r, cfK (x0, x1) (y0, y1) = r := ⟨_, rfl⟩
  rw [hr]
  replace hr := Lib.hid hr
  have hk2 : Keeps [] (w.alloc (.cells #[.int .i64 x0, .int .u64 x1] tK)) ((w.alloc (.cells #[.int .i64 x0, .int .u64 x1] tK)).alloc (.cells #[.int .i64 y0, .int .u64 y1] tK)) := (Keeps.refl _ _).alloc _
  have b1 := (hk2.block w.heap.size (by simp) (by simp)).trans (heap_alloc_new w (.cells #[.int .i64 x0, .int .u64 x1] tK))
  have b2 := heap_alloc_new (w.alloc (.cells #[.int .i64 x0, .int .u64 x1] tK)) (.cells #[.int .i64 y0, .int .u64 y1] tK)
  rw [show (w.alloc (.cells #[.int .i64 x0, .int .u64 x1] tK)).heap.size = w.heap.size + 1 by simp] at b2
  have hgr : (w.alloc (.cells #[.int .i64 x0, .int .u64 x1] tK)).alloc (.cells #[.int .i64 y0, .int .u64 y1] tK) = grow w #[.cells #[.int .i64 x0, .int .u64 x1] tK, .cells #[.int .i64 y0, .int .u64 y1] tK] := by
    rw [alloc_eq_grow, alloc_eq_grow, grow_grow]; rfl
  replace hgr := Lib.hid hgr
  go_enter Tryz.func30, Tryz.ntmps30
  go_wp2
  generalize (w.alloc (.cells #[.int .i64 x0, .int .u64 x1] tK)).alloc (.cells #[.int .i64 y0, .int .u64 y1] tK) = W at *
  obtain ⟨p0, p1, _⟩ := cells2 b1
  obtain ⟨s0, s1, _⟩ := cells2 b2
  clear b1 b2 hk2
  refine Free.wp_region_chain (fun i => i == 4 || i == 9 || i == 10 || i == 11) (fun i => true) (fun _ _ => False) (by kernel_rfl) (by kernel_rfl) (by kernel_rfl) ?_
  (repeat (first | (apply Free.cw_pure rfl rfl; (intro w'; go_simp <;> exact rfl); go_frame) | (apply Free.cw_steady rfl rfl rfl; (intro w' hS; have q0 := Free.sx_cell hS p0 (fun _ _ hT => hT); have q1 := Free.sx_cell hS p1 (fun _ _ hT => hT); have q2 := Free.sx_cell hS s0 (fun _ _ hT => hT); have q3 := Free.sx_cell hS s1 (fun _ _ hT => hT); go_simp <;> exact rfl); go_frame) | (refine Free.cw_skip rfl ?_; go_frame)))
  refine Free.cw_loud rfl rfl (fun K hK => ?_)
  go_wp2_with fail
  refine (compareI_c x0 y0 _).mono ?_
  rintro e _ ⟨rfl, rfl⟩
  refine hK _ _ rfl (Free.KeepsP.refl _ _) ?_
  clear hK K
  (repeat (first | (apply Free.cw_pure rfl rfl; (intro w'; go_simp <;> exact rfl); go_frame) | (apply Free.cw_steady rfl rfl rfl; (intro w' hS; have q0 := Free.sx_cell hS p0 (fun _ _ hT => hT); have q1 := Free.sx_cell hS p1 (fun _ _ hT => hT); have q2 := Free.sx_cell hS s0 (fun _ _ hT => hT); have q3 := Free.sx_cell hS s1 (fun _ _ hT => hT); go_simp <;> exact rfl); go_frame) | (refine Free.cw_skip rfl ?_; go_frame)))
  refine Free.cw_loud rfl rfl (fun K hK => ?_)
  go_wp2_with fail
  refine (compareU_c x1 y1 _).mono ?_
  rintro e _ ⟨rfl, rfl⟩
  refine hK _ _ rfl (Free.KeepsP.refl _ _) ?_
  clear hK K
  (repeat (first | (apply Free.cw_pure rfl rfl; (intro w'; go_simp <;> exact rfl); go_frame) | (apply Free.cw_steady rfl rfl rfl; (intro w' hS; have q0 := Free.sx_cell hS p0 (fun _ _ hT => hT); have q1 := Free.sx_cell hS p1 (fun _ _ hT => hT); have q2 := Free.sx_cell hS s0 (fun _ _ hT => hT); have q3 := Free.sx_cell hS s1 (fun _ _ hT => hT); go_simp <;> exact rfl); go_frame) | (refine Free.cw_skip rfl ?_; go_frame)))
  refine Free.cw_loud rfl rfl (fun K hK => ?_)
  go_wp2
  refine hK _ _ rfl (Free.KeepsP.alloc _ _ _) ?_
  clear hK K
  (repeat (apply Free.cw_pure rfl rfl; (intro w'; go_simp <;> exact rfl); go_frame))
  refine Free.cw_loud rfl rfl (fun K hK => ?_)
  go_wp2_with fail
  refine (or_c _ _ _ ((shZ_of2 W (cI x0 y0) (cI x1 y1) 3).keeps ((Keeps.refl [] _).drew))).mono ?_
  rintro e _ ⟨rfl, rfl⟩
  refine hK _ _ rfl (Free.KeepsP.refl _ _) ?_
  clear hK K
  (repeat (apply Free.cw_pure rfl rfl; (intro w'; go_simp <;> exact rfl); go_frame))
  refine Free.cw_nil ?_
  go_wp2
  go_ret
  exact ⟨by rw [← hr.out]; rfl, 1, _, by rw [hgr.out, alloc_eq_grow, grow_grow]; rfl⟩
theorem cI_lt (x y : Int) : cI x y < 0 ↔ x < y := by unfold cI; split <;> (try split) <;> omega
theorem cI_zero (x y : Int) : cI x y = 0 ↔ x = y := by unfold cI; split <;> (try split) <;> omega
theorem orL_lt (a : Int) (L : List Int) : orL (a :: L) < 0 ↔ a < 0 ∨ (a = 0 ∧ orL L < 0) := by
  rw [show orL (a :: L) = if a ≠ 0 then a else orL L from rfl]
  split
  · rename_i h; constructor
    · exact .inl
    · rintro (h1 | ⟨h1, _⟩)
      · exact h1
      · exact absurd h1 h
  · rename_i h
    have h0 : a = 0 := Classical.not_not.1 h
    constructor
    · exact fun h2 => .inr ⟨h0, h2⟩
    · rintro (h1 | ⟨_, h2⟩)
      · omega
      · exact h2
theorem ltK_iff (x y : Ky) : ltOf cfK x y = decide (klt x y) := by
  unfold ltOf cfK
  rw [decide_eq_decide, orL_lt, orL_lt, cI_lt, cI_lt, cI_zero, cI_zero]
  simp only [orL, klt]
  omega
theorem cfK_ge (x y : Ky) : 0 ≤ cfK x y ↔ ¬ klt x y := by
  have h := ltK_iff x y
  unfold ltOf at h
  rw [decide_eq_decide] at h
  rw [← h]; omega
theorem swoK : SWO (ltOf cfK) where
  irrefl x := by rw [ltK_iff]; exact decide_eq_false (by unfold klt; omega)
  trans x y z h1 h2 := by
    rw [ltK_iff] at *
    have h1 := of_decide_eq_true h1
    have h2 := of_decide_eq_true h2
    refine decide_eq_true ?_
    unfold klt at *
    omega
  ntrans x y z h1 h2 := by
    rw [ltK_iff] at *
    have h1 := of_decide_eq_false h1
    have h2 := of_decide_eq_false h2
    refine decide_eq_false (fun h => ?_)
    unfold klt at *
    omega
/-- slices.SortFunc over keys. -/
theorem sortK_c (w : World) (B : Nat) (v : Value) (L : List Ky) (h : shK.O w B tK v L) (hl : L.length ≤ 1000000000000) :
    Calls Tryz.prog 82 #[v, .func (.func 30) #[] #[]] w fun e w' => e = .returned (.tuple #[]) ∧ ∃ L', L'.Perm L ∧ L'.Pairwise (fun x y => ¬ klt y x) ∧ shK.O w' B tK v L' ∧ Keeps v.ownBlock.toList w w' := by
  obtain ⟨_, h2⟩ := id h
  rcases h2 with ⟨rfl, h0⟩ | ⟨g, cap, cur, rfl, hb, hg, _⟩
  · have hL : L = [] := by
      cases L with
      | nil => rfl
      | cons x t => simp [Sh.cs, shK] at h0
    subst hL
    refine (AnyF.slices_SortFunc_none Tryz.sortK none 0 (.func (.func 30) #[] #[]) w).mono ?_
    rintro e w' ⟨rfl, rfl⟩
    exact ⟨rfl, [], List.Perm.refl _, List.Pairwise.nil, h, Keeps.refl _ _⟩
  · have hgl : g < w.heap.size := (Array.getElem?_eq_some_iff.1 hg).1
    have eg : ∀ args w, (callFunc 30 args).run Tryz.prog w = .ok (.enter 30 args) w := enters_of Tryz.func30 (by kernel_rfl) rfl
    have hcmp : CmpLays Tryz.prog 30 #[] shK.cf 2 cfK g 0 L.toArray.size w := fun m os dk hs x y => compare_c x y _
    have hcon := AnyQ.slices_SortFunc Tryz.sortK 2 (fun w => by kernel_rfl) (fun w => by kernel_rfl) shK.cf shK.len shK.one cfK swoK 30 #[] g 0 cap L.toArray w eg hcmp h.holds hgl (by simp; omega)
    simp only [List.size_toArray] at hcon
    refine hcon.mono ?_
    rintro e w' ⟨rfl, d', m, os, hp, hs, rfl⟩
    have hp' : PermIn 0 L.toArray.size L.toArray d' := by simpa using hp
    obtain ⟨hd, hpl⟩ := Sh.perm_of_permIn hp'
    have hd2 : d'.size = L.length := by simpa using hd
    rw [← hd2] at hs
    have hpw := Sh.pairwise_of_sortedIn hs
    obtain ⟨h3, h4⟩ := Sh.O.sorted (m := m) (os := os) h hd2
    exact ⟨rfl, d'.toList, by simpa using hpl, hpw.imp (fun h => by rw [ltK_iff] at h; exact of_decide_eq_false h), h3, h4⟩
end Go.Proofs.YtblaaafpglomnaaGreat

namespace Go.Proofs.YtblaaafpglomnaaGreat
open Go Go.RowKit Go.Maps
attribute [local go_sem] Oper.semAt_some

theorem lt_of_block {w : World} {b : Nat} {o : Obj} (h : w.heap[b]? = some o) : b < w.heap.size := lt_of_blk h
/-- What a round leaves as it is: some blocks, and all maps and iterators. -/
def KpS (S : List Nat) (A B : World) : Prop := (∀ b ∈ S, B.heap[b]? = A.heap[b]?) ∧ KeepsWalks A B
theorem kpS_t {S : List Nat} {A B C : World} (h : KpS S A B) (k : KpS S B C) : KpS S A C := ⟨fun b hb => (k.1 b hb).trans (h.1 b hb), h.2.trans k.2⟩
theorem kpS_b {S : List Nat} {w : World} (hS : ∀ b ∈ S, b < w.heap.size) (W : World) (l : Nat) (o o' : Obj) (hl : w.heap.size ≤ l) (h : W.heap[l]? = some o) (_ : o.isCells = false) (hw : o.isWalk = false) : KpS S W (W.putObj l o') :=
  ⟨fun b hb => World.putObj_heap_other (by have := hS b hb; omega), KeepsWalks.putObj _ h hw⟩
theorem cell1 {w : World} {b : Nat} {x0 : Value} {t : TypeId} (h : w.heap[b]? = some (.cells #[x0] t (0, 0))) : w.cell? ⟨b, 0, none⟩ = some x0 ∧ w.frozen? ⟨b, 0, none⟩ = false := ⟨by simp [World.cell?, h], by simp [World.frozen?, h]⟩
theorem cell_two_new (W : World) (a b : Value) (t : TypeId) : ∀ j u, ([a, b] : List Value)[j]? = some u → (W.alloc (.cells #[a, b] t)).cell? ((⟨W.heap.size, 0, none⟩ : Addr).add j) = some u := by
  intro j u hj
  rw [WideShapes.add_plain, World.cell?_alloc_mark, Nat.zero_add]
  match j, hj with
  | 0, hj => simpa using hj
  | 1, hj => simpa using hj
theorem cell_blk {A B : World} {b o : Nat} (h : B.heap[b]? = A.heap[b]?) : B.cell? ⟨b, o, none⟩ = A.cell? ⟨b, o, none⟩ := World.cell?_of_block h
def keyL (T : List Rw) : List Ky := T.map (fun r => r.1.key)
set_option maxRecDepth 100000 in
set_option maxHeartbeats 4000000 in
theorem keys1_stops (n Bm bm : Nat) (S : List Nat) (T : List Rw) (w0 : World) (hn : 2 ≤ n)
    (hBm : w0.cell? ⟨Bm, 0, none⟩ = some (.map (some bm))) (hmp : MapS.M ktK (fun r : Rw => rwV r) w0 bm (kr T)) (hS : Bm ∈ S) (hSlt : ∀ b ∈ S, b < w0.heap.size) :
    SeqStopsK Fence.wide n Tryz.prog 83 #[.pointer (some ⟨Bm, 0, none⟩)] (fun x : Ky => #[kyV x]) (KpS S) (fun ss => ss.Perm (keyL T)) (fun _ => True) T.length w0 := by
  intro l J Jx W hW hJ hJx hY h0
  refine callsIn_of_wp Tryz.func83 rfl trivial ?_ rfl
  simp only [Tryz.ntmps83, List.size_toArray, List.length_cons, List.length_nil, Nat.reduceAdd, Nat.reduceSub, Array.replicate_succ, Array.replicate_zero, List.push_toArray, List.append_toArray, List.nil_append, List.cons_append]
  have c1 := (hW.cell (p := ⟨Bm, 0, none⟩) (lt_of_cell hBm)).trans hBm
  have hMW : MapS.M ktK (fun r : Rw => rwV r) W bm (kr T) := M_at hmp (hW.block bm hmp.lt)
  have hSW : ∀ b ∈ S, W.heap[b]? = w0.heap[b]? := fun b hb => hW.block b (hSlt b hb)
  have hWs := hW.size
  gi_wp2_with (first
    | (gi_at_range; (refine MapS.wplIn_range ktK rfl _ rfl Tryz.underlying74 rfl hMW ?_; intro w1 hrg0 hg0 hs0))
    | gi_in)
  try go_frame
  gi_loopw [6] (fun _ wr => ∃ (ss : List Ky) (R : MapS.Es Ky Rw), MapS.Rg ktK (fun r : Rw => rwV r) wr bm W.heap.size (kr T) R ∧ (ss ++ R.map (·.1)).Perm (keyL T) ∧ (∀ b ∈ S, wr.heap[b]? = w0.heap[b]?) ∧ J ss wr)
    (fun _ wr => wr.rangeLeft bm W.heap.size)
  case atStart =>
    exact ⟨[], kr T, hrg0, by simp only [List.nil_append, kr, keyL, List.map_map]; exact List.Perm.refl _, fun b hb => (hg0.block b (by have := hSlt b hb; omega) (by simp)).trans (hSW b hb), hJ [] W w1 none h0 hg0 (fun r e => by cases e)⟩
  case round =>
    obtain ⟨ss, R, hrg, hP, hSr, hJs⟩ := hrel
    gi_wp2_with (first
      | (gi_at_next; refine MapS.wplIn_next ktK rfl _ rfl rfl hrg ?_ ?_)
      | gi_in)
    · intro hR0
      subst hR0
      rw [List.map_nil, List.append_nil] at hP
      replace hP := Lib.hid hP
      gi_wp2
      go_end0
      exact ⟨⟨_, rfl⟩, .inl ⟨ss, hP.out, hJs⟩⟩
    · intro x0 x1 ue uh R' w2 hx hgx hm hpR hrg2 hg2 hs2 hlt hen
      have hS2 : ∀ b ∈ S, w2.heap[b]? = w0.heap[b]? := fun b hb => (hg2.block b (by have := hSlt b hb; have := hrg.lt; omega) (fun e => by cases e; have := hSlt _ hb; omega)).trans (hSr b hb)
      have hJ2 : J ss w2 := hJ ss wr w2 (some W.heap.size) hJs hg2 (fun r e => by cases e; exact ⟨Nat.le_refl _, hrg.walk⟩)
      have hP2 : (ss ++ [(x0, x1)] ++ R'.map (·.1)).Perm (keyL T) := by
        refine List.Perm.trans ?_ hP
        rw [List.append_assoc]
        exact ((hpR.map (·.1)).symm).append_left ss
      have hlen : ss.length < T.length := by
        have := hP2.length_eq
        simp [keyL] at this; omega
      have hkA : Keeps [] w2 (w2.alloc (.cells #[.int .i64 x0, .int .u64 x1] tK)) := (Keeps.refl _ _).alloc _
      have hSA : ∀ b ∈ S, (w2.alloc (.cells #[.int .i64 x0, .int .u64 x1] tK)).heap[b]? = w0.heap[b]? := fun b hb => (Below.heap_alloc _ _ _ (by have := hSlt b hb; have := hrg2.lt; omega)).trans (hS2 b hb)
      have hJA : J ss (w2.alloc (.cells #[.int .i64 x0, .int .u64 x1] tK)) := hJ ss w2 _ none hJ2 (World.grownBy_alloc _ _ _) (fun r e => by cases e)
      have hrgA := hrg2.keeps hkA
      have hlA := hrg2.left_kept hkA (by simp) (by simp)
      obtain ⟨fn, tmps, assign, body, hy, hR⟩ := hY ss (x0, x1) _ hJA hlen
      simp only [ktK, kyV, rwV] at hen ⊢
      replace hP2 := Lib.hid hP2
      replace hrgA := Lib.hid hrgA
      replace hP := Lib.hid hP
      replace hpR := Lib.hid hpR
      clear hs2 hx hgx hm hrg2
      gi_wp2_with fail
      refine ⟨fun _ => by omega, ?_⟩
      refine hR.mono ?_
      rintro e W4 (⟨rfl, hJ4, hk4⟩ | ⟨rfl, hJx4⟩)
      · have hrg4 := hrgA.out.of_walks hk4.2
        have hl4 := hrgA.out.left_walks hk4.2
        have hS4 : ∀ b ∈ S, W4.heap[b]? = w0.heap[b]? := fun b hb => (hk4.1 b hb).trans (hSA b hb)
        gi_wp2
        go_roundw
        case rel => exact ⟨ss ++ [(x0, x1)], R', hrg4, hP2.out, hS4, hJ4⟩
        case measure => rw [hl4, hlA]; exact hlt
      · gi_wp2
        refine bodyPost_ret (results_none rfl _ _ _) rfl ?_
        exact ⟨⟨_, rfl⟩, .inr ⟨_, trivial, hJx4⟩⟩
abbrev KeysSt (w : World) (lb : Array Value) (S : List Nat) (Sel : List Ky → Prop) (N : Nat) : Prop :=
  SeqStopsK Fence.wide 7 Tryz.prog 83 lb (fun x : Ky => #[kyV x]) (KpS S) Sel (fun _ => True) N w
def AppSeqPost (w : World) (Sel : List Ky → Prop) (e : Ending) (w' : World) : Prop :=
  ∃ v xs, e = .returned v ∧ Sel xs ∧ shK.O w' (w.heap.size + 1) tK v xs ∧ Keeps [] w w'
set_option maxRecDepth 100000 in
set_option maxHeartbeats 4000000 in
theorem appSeq_c (w : World) (lb : Array Value) (S : List Nat) (Sel : List Ky → Prop) (N : Nat) (hst : KeysSt w lb S Sel N) (hS : ∀ b ∈ S, b < w.heap.size) (hN : N ≤ 1000000) :
    Calls Tryz.prog 100 #[.slice none 0 0, .func (.func 83) #[] lb] w (AppSeqPost w Sel) := by
  have hk1 := (Keeps.refl [] w).alloc (.cells #[.slice none 0 0] 87)
  have hX1 := heap_alloc_new w (.cells #[.slice none 0 0] 87)
  have hz1 : (w.alloc (.cells #[.slice none 0 0] 87)).heap.size = w.heap.size + 1 := by simp
  have hbw : Below w.heap.size w (w.alloc (.cells #[.slice none 0 0] 87)) := (Below.refl _ _).alloc (Nat.le_refl _) _
  obtain ⟨B, hB⟩ : ∃ B, w.heap.size = B := ⟨_, rfl⟩
  unfold AppSeqPost
  rw [hB] at hX1 hz1 hbw hS ⊢
  obtain ⟨W1, hW1⟩ : ∃ W1, w.alloc (.cells #[.slice none 0 0] 87) = W1 := ⟨_, rfl⟩
  rw [hW1] at hk1 hX1 hz1 hbw
  replace hW1 := Lib.hid hW1
  replace hB := Lib.hid hB
  replace hz1 := Lib.hid hz1
  replace hst := Lib.hid hst
  refine (callsIn_wide (n := 8)).1 ?_
  refine callsIn_of_wp_marks Tryz.func100 rfl trivial ?_ rfl
  simp only [Tryz.ntmps100, List.size_toArray, List.length_cons, List.length_nil, Nat.reduceAdd, Nat.reduceSub, Array.replicate_succ, Array.replicate_zero, List.push_toArray, List.append_toArray, List.nil_append, List.cons_append]
  refine wpIn_wide.2 ?_
  go_wp2_with fail
  rw [hB.out, hW1.out]
  refine (wpIn_wide (n := 8)).1 ?_
  refine wpIn_rangeFunc_ownH rfl (by omega) (gf := 83) (lb := lb) rfl trivial (enters_of Tryz.func83 (by kernel_rfl) rfl) hst.out kpS_t (kpS_b (by have := hz1.out; intro b hb; have := hS b hb; omega)) (by rw [hB.out]; exact hbw) (fun _ => rfl)
    (fun pre W => (∃ v, Boxed W B 87 v ∧ W.ownsRow (B + 1) tK 2 v pre.length (shK.cs pre) ∧ True) ∧ (Keeps [] w W ∧ B + 1 ≤ W.heap.size))
    (fun _ _ _ => False) ?hI (fun _ _ _ _ _ hs _ _ => hs) ⟨⟨_, hX1, World.ownsRow_nil _ _ _ _, trivial⟩, hk1, by have := hz1.out; omega⟩
    (fun y a' W => ∃ X, a' = { tmps := List.toArray ((.slice none 0 0 : Value) :: .func (.func 83) #[] lb :: .pointer (some ⟨B, 0, none⟩) :: undef :: .slice none 0 0 :: .pointer (some ⟨X, 0, none⟩) :: .func (.func 83) #[] lb :: kyV y :: undef :: undef :: undef :: undef :: undef :: []), defers := [] } ∧ W.heap[X]? = some (.cells #[.int .i64 y.1, .int .u64 y.2] tK (0, 0)))
    ?hAx ?assign ?body ?done ?stop
  case hI =>
    exact OwnFrom.and (Own.from (holdsRow_own (B + 1) B 87 tK 2 (fun pre : List Ky => pre.length) (fun pre : List Ky => shK.cs pre) (fun _ _ => True)) _) (fun s X Y row hs hg hr => ⟨hs.1.grown hg (fun k e => .inl (by have := (hr k e).1; have := hk1.size; omega)), Nat.le_trans hs.2 hg.size⟩)
  case hAx =>
    rintro y a' _ X Y row ⟨X0, h1, h2⟩ hg hr
    refine ⟨X0, h1, (hg.block X0 (lt_of_blk h2) (fun e => ?_)).trans h2⟩
    obtain ⟨_, o, ho, hc⟩ := hr X0 e.symm
    rw [h2] at ho; cases ho; cases hc
  case assign =>
    rintro l pre ⟨y0, y1⟩ W K hI hK
    have hkA : KeepsOthers W (W.alloc (.cells #[.int .i64 y0, .int .u64 y1] tK)) := KeepsOthers.alloc W _
    have hbA := heap_alloc_new W (.cells #[.int .i64 y0, .int .u64 y1] tK)
    obtain ⟨⟨v, hv, hrow, _⟩, hkW, hBW⟩ := hI
    have hI2 := hK _ (W.alloc (.cells #[.int .i64 y0, .int .u64 y1] tK)) (hkA.from _) ⟨fun b hb => Below.heap_alloc _ _ _ (by have := hS b hb; omega), hkA.walks⟩ ⟨⟨v, hv.alloc _, hrow.alloc _, trivial⟩, hkW.alloc _, by simp; omega⟩ ⟨_, rfl, hbA⟩
    replace hrow := Lib.hid hrow
    replace hv := Lib.hid hv
    clear hK
    gi_wp2
    exact hI2
  case body =>
    rintro l pre ⟨y0, y1⟩ a' W hlw _ ⟨⟨v, hv, hrow, _⟩, hkW, hBW⟩ ⟨X, rfl, hX⟩ hlt
    obtain ⟨i0, hi, hz0, hz1', hz2'⟩ := info_parts infoK
    obtain ⟨x0, xf⟩ := cell1 hv
    obtain ⟨p0, p1, _⟩ := cells2 hX
    have hXW := lt_of_block hv
    have hpl : pre.length < 1000000 := by omega
    gi_wp2_with (gi_at_builtin; refine wpListIn_append_own _ rfl _ _ 87 rfl (B + 1) tK i0 (kyV (0, 0)) 2 16 Tryz.underlying87 hi hz0 hz1' hz2' rfl (by decide) _ _ _ rfl (hrow.alloc _) ⟨W.heap.size, 0, none⟩ 1 1 [.int .i64 y0, .int .u64 y1] rfl rfl (cell_two_new _ _ _ _) (by simp [Value.oneCell']) (by unfold Go.maxLen; omega) (by omega) (by simp; omega) ?_; intro v' w1 hown' hgrow _; replace hgrow : (W.alloc (.cells #[.int .i64 y0, .int .u64 y1] tK)).grownBy w1 v.ownBlock := hgrow; have hkA : Keeps v.ownBlock.toList W w1 := ((Keeps.refl _ W).alloc _).grown hgrow (fun k e => .inr (by simp [e])); have hx1 := (hkA.block _ hXW (fun hm => by have := ownBlock_ge hrow _ (by simpa using hm); omega)).trans hv; obtain ⟨c1', f1'⟩ := cell1 hx1; have hsub := (ownBlock_ge hown'); obtain ⟨g', cap', rfl⟩ := ownsRow_succ hown')
    have hgb := hsub g' rfl
    have hkf : Keeps (B :: v.ownBlock.toList) W (w1.setCell ⟨B, 0, none⟩ (.slice (some ⟨g', 0, none⟩) (pre.length + 1) cap')) := (hkA.mono (fun k hk => by simp [hk])).setCell (p := ⟨B, 0, none⟩) (.inr (by simp)) _
    have hnot : ∀ b, b < B → b ∉ B :: v.ownBlock.toList := fun b hb hm => by
      rcases List.mem_cons.1 hm with e | e
      · omega
      · have := ownBlock_ge hrow _ (by simpa using e : v.ownBlock = some b); omega
    have hko : KeepsOthers W (w1.setCell ⟨B, 0, none⟩ (.slice (some ⟨g', 0, none⟩) (pre.length + 1) cap')) := by
      refine ((KeepsOthers.alloc W (.cells #[.int .i64 y0, .int .u64 y1] tK)).trans (KeepsOthers.of_grownBy hgrow fun j o ej hj2 => ?_)).trans (KeepsOthers.setCell _ _ _)
      rcases (hrow.alloc (.cells #[.int .i64 y0, .int .u64 y1] tK)).2 with ⟨rfl, _⟩ | ⟨g, cap, cur, rfl, _, hg, _⟩
      · simp [Value.ownBlock] at ej
      · simp [Value.ownBlock] at ej; subst ej; rw [hg] at hj2; cases hj2; rfl
    have hcs : shK.cs pre ++ [.int .i64 y0, .int .u64 (y1 : Int)] = shK.cs (pre ++ [(y0, y1)]) := by rw [Sh.cs_append]; rfl
    rw [hcs] at hown'
    refine ⟨hko.from _, ⟨fun b hb => hkf.block b (by have := hS b hb; omega) (hnot b (hS b hb)), hko.walks⟩, ⟨_, Boxed.set _ hx1, ?_⟩, ?_, ?_⟩
    · have := hown'.kept (grownBy_setCell' w1 B (.slice (some ⟨g', 0, none⟩) (pre.length + 1) cap')) (.inr (fun e => by simp [Value.ownBlock] at e; omega))
      simpa using this
    · exact ((hkW.alloc _).grown hgrow (fun k e => .inl (by have := ownBlock_ge hrow _ e; have := hB.out; omega))).setCell (p := ⟨B, 0, none⟩) (.inl (by have := hB.out; show _ ≤ B; omega)) _
    · have := hkf.size; omega
  case done =>
    rintro D xs W hD hsel ⟨⟨v, hv, hrow, _⟩, hkW, hBW⟩ hK
    obtain ⟨x0, xf⟩ := cell1 hv
    replace hsel := Lib.hid hsel
    go_wp2
    refine ⟨by simp, .inl ⟨_, _, rfl, run_takeDeferred hK, ?_⟩⟩
    refine ⟨_, results_tmp rfl _ _ _, ?_⟩
    exact ⟨v, xs, rfl, hsel.out, ownsRow_putObj hrow (.deferred none) hK rfl, hkW.grown (grownBy_putObj' _ _ _) (fun k e => .inl (by cases e; have := hk1.size; omega))⟩
  case stop =>
    rintro D c pre W _ _ h _
    exact h.elim
set_option maxRecDepth 100000 in
set_option maxHeartbeats 2000000 in
theorem collect_c (w : World) (lb : Array Value) (S : List Nat) (Sel : List Ky → Prop) (N : Nat) (hst : KeysSt w lb S Sel N) (hS : ∀ b ∈ S, b < w.heap.size) (hN : N ≤ 1000000) :
    Calls Tryz.prog 81 #[.func (.func 83) #[] lb] w (AppSeqPost w Sel) := by
  replace hst := Lib.hid hst
  go_enter Tryz.func81, Tryz.ntmps81
  go_wp2_with fail
  refine (appSeq_c w lb S Sel N hst.out hS hN).mono ?_
  rintro e w1 ⟨v, xs, rfl, h1, h2, h3⟩
  replace h1 := Lib.hid h1
  replace h2 := Lib.hid h2
  replace h3 := Lib.hid h3
  go_wp2
  go_ret
  exact ⟨_, xs, rfl, h1.out, h2.out, h3.out⟩
theorem perm_sorted_eq : ∀ {A B : List Ky}, A.Perm B → A.Pairwise (fun x y => ¬ klt y x) → B.Pairwise klt → A = B
  | [], B, hp, _, _ => (List.nil_perm.1 hp).symm
  | a :: A, [], hp, _, _ => by have := hp.length_eq; simp at this
  | a :: A, b :: B, hp, h1, h2 => by
    obtain ⟨a1, a2⟩ := List.pairwise_cons.1 h1
    obtain ⟨b1, b2⟩ := List.pairwise_cons.1 h2
    have e : a = b := by
      have ha : a ∈ b :: B := hp.mem_iff.1 (by simp)
      have hb : b ∈ a :: A := hp.mem_iff.2 (by simp)
      rcases List.mem_cons.1 ha with e | ha
      · exact e
      · rcases List.mem_cons.1 hb with e | hb
        · exact e.symm
        · exact absurd (b1 a ha) (a1 b hb)
    subst e
    rw [perm_sorted_eq ((List.perm_cons _).1 hp) a2 b2]
set_option maxRecDepth 100000 in
set_option maxHeartbeats 4000000 in
theorem sortedFunc_c (w : World) (lb : Array Value) (S : List Nat) (T : List Rw) (N : Nat) (hst : KeysSt w lb S (fun ss => ss.Perm (keyL T)) N) (hS : ∀ b ∈ S, b < w.heap.size) (hN : N ≤ 1000000) (hT : SortedS T) (hl : T.length ≤ 1000000) :
    Calls Tryz.prog 66 #[.func (.func 83) #[] lb, .func (.func 30) #[] #[]] w fun e w' => ∃ v, e = .returned v ∧ shK.O w' w.heap.size tK v (keyL T) ∧ Keeps [] w w' := by
  have hTs : (keyL T).Pairwise klt := List.pairwise_map.2 hT
  have hTl : (keyL T).length = T.length := by simp [keyL]
  replace hst := Lib.hid hst
  replace hTs := Lib.hid hTs
  replace hTl := Lib.hid hTl
  go_enter Tryz.func66, Tryz.ntmps66
  go_wp2_with fail
  refine (collect_c w lb S _ N hst.out hS hN).mono ?_
  rintro e w1 ⟨v, xs, rfl, h1, h2, h3⟩
  obtain ⟨a, c, rfl⟩ := h2.form
  have hxl : xs.length = T.length := by rw [h1.length_eq, hTl.out]
  have hsort := sortK_c w1 (w.heap.size + 1) _ xs h2 (by omega)
  have hge := h2.ge
  replace h1 := Lib.hid h1
  replace h2 := Lib.hid h2
  replace h3 := Lib.hid h3
  replace hge := Lib.hid hge
  replace hsort := Lib.hid hsort
  obtain ⟨M, hM⟩ : ∃ M, xs.length = M := ⟨_, rfl⟩
  rw [hM] at hsort hge ⊢
  replace hM := Lib.hid hM
  replace hxl := Lib.hid hxl
  go_wp2_with fail
  refine hsort.out.mono ?_
  rintro e w2 ⟨rfl, L', hp, hpw, hO, hk⟩
  have hE := perm_sorted_eq (hp.trans h1.out) hpw hTs.out
  subst hE
  have hk2 := h3.out.fresh hk (fun b hb => .inr (by have := hge.out b (by simpa using hb); omega))
  replace hO := Lib.hid hO
  replace hk2 := Lib.hid hk2
  go_wp2
  go_ret
  refine ⟨_, rfl, ?_, hk2.out⟩
  have h9 := hO.out
  refine ⟨h9.1, ?_⟩
  rcases h9.2 with hn | ⟨g, cap, cur, e, hb, rest⟩
  · exact .inl hn
  · exact .inr ⟨g, cap, cur, e, by omega, rest⟩
set_option maxRecDepth 100000 in
set_option maxHeartbeats 2000000 in
theorem mapsKeys_c (mb : Nat) (w : World) : Calls Tryz.prog 67 #[.map (some mb)] w fun e w' => e = .returned (.func (.func 83) #[] #[.pointer (some ⟨w.heap.size, 0, none⟩)]) ∧ w' = w.alloc (.cells #[.map (some mb)] tMap) := by
  go_enter Tryz.func67, Tryz.ntmps67
  go_wp2
  go_ret
  exact ⟨rfl, rfl⟩
set_option maxRecDepth 100000 in
set_option maxHeartbeats 4000000 in
theorem keys_c (w : World) (bt bm : Nat) (T : List Rw) (t : TM w bt bm T) (hT : SortedS T) (hl : T.length ≤ 1000000) :
    Calls Tryz.prog 40 #[.pointer (some ⟨bt, 0, none⟩)] w fun e w' => ∃ v, e = .returned v ∧ shK.O w' w.heap.size tK v (keyL T) ∧ Keeps [] w w' := by
  have hk1 := (Keeps.refl [] w).alloc (.cells #[.map (some bm)] tMap)
  have t1 := t.keeps hk1
  have hb1 := cells1 (heap_alloc_new w (.cells #[.map (some bm)] tMap))
  have hz1 : (w.alloc (.cells #[.map (some bm)] tMap)).heap.size = w.heap.size + 1 := by simp
  have hst := keys1_stops 7 w.heap.size bm [w.heap.size] T _ (by omega) hb1 t1.mp (by simp) (fun b hb => by simp at hb; subst hb; omega)
  have hsf := sortedFunc_c _ _ _ T _ hst (fun b hb => by simp at hb; subst hb; omega) hl hT hl
  have d7 := t.cell
  replace hsf := Lib.hid hsf
  replace hk1 := Lib.hid hk1
  clear hst t1 hb1 t
  go_enter Tryz.func40, Tryz.ntmps40
  go_wp2_with fail
  refine (mapsKeys_c bm w).mono ?_
  rintro e w1 ⟨rfl, rfl⟩
  go_wp2_with fail
  refine hsf.out.mono ?_
  rintro e w2 ⟨v, rfl, hO, hk2⟩
  replace hO := Lib.hid hO
  replace hk2 := Lib.hid hk2
  go_wp2
  go_ret
  refine ⟨_, rfl, ?_, hk1.out.trans hk2.out⟩
  have h9 := hO.out
  refine ⟨h9.1, ?_⟩
  rcases h9.2 with hn | ⟨g, cap, cur, e, hb, rest⟩
  · exact .inl hn
  · exact .inr ⟨g, cap, cur, e, by rw [hz1] at hb; omega, rest⟩
end Go.Proofs.YtblaaafpglomnaaGreat

namespace Go.Proofs.YtblaaafpglomnaaGreat
namespace MapS
open Go Go.RowKit Go.ChangeMaps Go.MapKept Go.WideShapes
open Go.WideElems (Fit rd rg pl rd_key rd_val rg_of other_key)
variable {P : Program} {kt t e : TypeId} {κ : Type} [DecidableEq κ] {α : Type} {K : KT P kt κ} {vf : α → Value} {L R : Es κ α} {w w' : World} {b r : Nat} {k : κ}
/-- The map's block has no more than so many entries. -/
def Sz (w : World) (b N : Nat) : Prop := ∃ es c, w.heap[b]? = some (.map es c) ∧ es.size ≤ N
theorem Sz.at {N : Nat} (h : Sz w b N) (hb : w'.heap[b]? = w.heap[b]?) : Sz w' b N := by
  obtain ⟨es, c, h1, h2⟩ := h
  exact ⟨es, c, hb.trans h1, h2⟩
theorem Sz.lt {N : Nat} (h : Sz w b N) : b < w.heap.size := by
  obtain ⟨es, c, h1, h2⟩ := h
  exact (Array.getElem?_eq_some_iff.1 h1).1
theorem M.sz (h : M K vf w b L) : Sz w b L.length := by
  obtain ⟨⟨D, ⟨es, c, hb, F, hs, hD⟩, _⟩, _⟩ := h
  exact ⟨es, c, hb, hs⟩
theorem born_modify {es : Array MapEntry} {j : Nat} (key val : Value) : (es.modify j (fun e' => { e' with key := key, val := val })).toList.map (·.born) = es.toList.map (·.born) := by
  refine List.ext_getElem? fun i => ?_
  rw [List.getElem?_map, List.getElem?_map, Array.getElem?_toList, Array.getElem?_toList, Array.getElem?_modify]
  split
  · cases es[i]? <;> rfl
  · rfl
theorem left_born {es es' : Array MapEntry} (h : es'.toList.map (·.born) = es.toList.map (·.born)) (seen : Array Nat) : (leftOf es' seen).size = (leftOf es seen).size := by
  have h1 : ∀ es : Array MapEntry, (leftOf es seen).size = (es.toList.map (·.born)).countP (fun x => !seen.contains x) := fun es => by
    unfold leftOf
    rw [← Array.length_toList, Array.toList_filter, List.countP_map, List.countP_eq_length_filter]
    rfl
  rw [h1, h1, h]
theorem ranges_store {n N : Nat} {D : DataW Value} {left : Lit → Bool} {cnt : Nat} (h : w.ranges P kt raw b r n D left cnt) (KK : Maps.Keyed P kt) (ht : P.underlying t = some (.map kt e)) (hsz : Sz w b N) (hN : N < maxLen) {key val : Value} {kl : Lit} (hkey : keyOf P kt key = some kl) (hin : Maps.has D kl = true) :
    ∃ w', (Instr.mapUpdate t (.map (some b)) key val).run P w = .ok () w' ∧ w'.ranges P kt raw b r n (D.put kl (.held val)) left cnt ∧ Sz w' b N ∧ w.mapTurned w' b := by
  have hne := h.ne
  have hI := h.owns.isMap
  have hlook := h.owns
  obtain ⟨es, clock, since, seen, c0, hb, F, hs, rfl, hr, hold, rfl, hl1, hl2, hsc, hsk⟩ := h
  obtain ⟨es2, cl2, hb2, hN2⟩ := hsz
  rw [hb] at hb2
  cases hb2
  obtain ⟨es', clock', hrun, F', hput, _⟩ := Maps.fit_store (R' := raw) KK ht hb F (Nat.lt_of_le_of_lt hN2 hN) (fun _ _ _ _ hz => hz) hkey (yv := (.held val, [])) rfl
  rcases KK.find w hkey es.toList F.keys with ⟨h1, h2⟩ | ⟨j, e0, h1, h2, h3⟩
  · exfalso
    obtain ⟨p, hp, hpk⟩ := List.any_eq_true.1 (show ((es.toList.map (rg P kt raw)).foldr DataW.insert []).any (fun p => p.1.sameKey kl) = true from hin)
    obtain ⟨x, hx, rfl⟩ := List.mem_map.1 (mem_sorted.1 hp)
    obtain ⟨y, hy⟩ := F.reads x hx
    have e1 := WideAt.sameKey_eq hpk
    rw [rg_of hy] at e1
    exact h2 x hx (KK.inj (e1 ▸ rd_key hy) hkey)
  · have hj : es[j]? = some e0 := by simpa using h2
    have hrun2 : (Instr.mapUpdate t (.map (some b)) key val).run P w = .ok () (setBlock w b (.map (es.modify j (fun e' => { e' with key := key, val := val })) clock)) := by
      simp [Instr.mapUpdate, run_underlying ht, MapKept.run_getObj_map hb, KK.check w false hkey, h1, hj, h3, KK.stays w hkey, MapKept.run_setObj_map _ hb, Result.andThen, setBlock]
    have hw : setBlock w b (.map es' clock') = setBlock w b (.map (es.modify j (fun e' => { e' with key := key, val := val })) clock) := by
      rw [hrun] at hrun2
      exact (Result.ok.inj hrun2).2
    have hee : (.map es' clock' : Obj) = .map (es.modify j (fun e' => { e' with key := key, val := val })) clock := by
      have := congrArg (fun w => w.heap[b]?) hw
      simp only [heap_setBlock_same hb] at this
      exact Option.some.inj this
    have hes : es' = es.modify j (fun e' => { e' with key := key, val := val }) := (Obj.map.inj hee).1
    have hcl : clock' = clock := (Obj.map.inj hee).2
    subst hcl
    have hborn : es'.toList.map (·.born) = es.toList.map (·.born) := by rw [hes]; exact born_modify _ _
    have hsize : es'.size = es.size := by rw [hes]; simp
    have e0m : e0 ∈ es.toList := List.mem_of_getElem? h2
    -- an entry of the new map: the old one, or the one that was written
    have who : ∀ x ∈ es'.toList, x ∈ es.toList ∨ x = { e0 with key := key, val := val } := by
      intro x hx
      obtain ⟨i, hi⟩ := List.getElem?_of_mem hx
      rw [hes, Array.getElem?_toList, Array.getElem?_modify] at hi
      split at hi
      · rename_i hji
        subst hji
        rw [hj] at hi
        exact .inr (by simpa using hi.symm)
      · exact .inl (List.mem_of_getElem? (by simpa using hi))
    have hk0 : (rg P kt raw e0).1 = kl := by
      obtain ⟨y, hy⟩ := F.reads e0 e0m
      have := rd_key hy
      rw [h3, hkey] at this
      rw [rg_of hy]
      exact (Option.some.inj this).symm
    have hkn : (rg P kt raw { e0 with key := key, val := val }).1 = kl := by
      rw [rg_of (Go.WideElems.rd_mk (born := e0.born) hkey (yv := (.held val, [])) rfl)]
    refine ⟨_, hrun, ⟨es', clock', since, seen, c0, heap_setBlock_same hb _, F', by rw [hsize]; exact hs, by rw [DataW.put_eq, hput], (heap_setBlock_other hb _ hne).trans hr, fun x hx => ?_, left_born hborn seen, fun x hx => ?_, fun kl' hkl' => ?_, hsc, hsk⟩, ⟨es', clock', heap_setBlock_same hb _, by rw [hsize]; exact hN2⟩, ⟨es, clock', es', clock', hb, rfl⟩⟩
    · rcases who x hx with hx | rfl
      · exact hold x hx
      · exact hold e0 e0m
    · rcases who x hx with hx | rfl
      · exact hl1 x hx
      · rw [hkn, ← hk0]; exact hl1 e0 e0m
    · obtain ⟨x, hx, rfl⟩ := hl2 kl' hkl'
      by_cases hxk : x.key = key
      · have hjl : j < es.size := (Array.getElem?_eq_some_iff.1 hj).1
        refine ⟨{ e0 with key := key, val := val }, ?_, ?_⟩
        · refine List.mem_of_getElem? (i := j) ?_
          rw [hes, Array.getElem?_toList, Array.getElem?_modify, if_pos rfl, hj]; rfl
        · rw [hkn]
          obtain ⟨y, hy⟩ := F.reads x hx
          have := rd_key hy
          rw [hxk, hkey] at this
          rw [rg_of hy]
          exact Option.some.inj this
      · obtain ⟨i, hi⟩ := List.getElem?_of_mem hx
        refine ⟨x, List.mem_of_getElem? (i := i) ?_, rfl⟩
        rw [hes, Array.getElem?_toList, Array.getElem?_modify, if_neg]
        · simpa using hi
        · rintro rfl
          rw [h2] at hi
          cases hi
          exact hxk h3
theorem Rg.store (h : Rg K vf w b r L R) (ht : P.underlying t = some (.map kt e)) (hk : K.ok k) (hg : (get k L).isSome = true) {N : Nat} (hsz : Sz w b N) (hN : N < maxLen) (v : α) :
    ∃ w', (Instr.mapUpdate t (.map (some b)) (K.kv k) (vf v)).run P w = .ok () w' ∧ Rg K vf w' b r (set k v L) (set k v R) ∧ Sz w' b N ∧ Keeps [b] w w' ∧ w'.rangeLeft b r = w.rangeLeft b r := by
  obtain ⟨⟨n, D, left, cnt, hr, hR, hl, hdm⟩, hnd, hnr, hsub, hok⟩ := h
  obtain ⟨l, hkl⟩ := K.key k hk
  obtain ⟨u, hu⟩ := Option.isSome_iff_exists.1 hg
  have hI := hr.owns.isMap
  obtain ⟨w', hrun, hr', hsz', htu⟩ := ranges_store hr K.law ht hsz hN (val := vf v) hkl (hR.yes K hkl hu).1
  refine ⟨w', hrun, ⟨⟨n, _, left, cnt, hr', fun x l' hl' => ?_, fun x l' hl' => ?_, fun l' hl' => ?_⟩, nd_set hnd v, nd_set hnr v, fun p hp => ?_, fun p hp => ?_⟩, hsz', Keeps.of_grown htu.grown, by rw [hr'.left_eq, hr.left_eq]⟩
  · rw [get_set (k := k), hg]
    by_cases e : x = k
    · subst e
      rw [hkl] at hl'; cases hl'
      simp only [true_and, if_true]
      exact ⟨Maps.has_put_same hI (K.law.key hkl) _, fun z => Maps.atKey_put_same hI (K.law.key hkl) _ _⟩
    · have hne : l' ≠ l := fun e' => by subst e'; exact e (K.inj _ _ (K.law.inj hl' hkl))
      rw [if_neg (fun h => e h.1), Maps.has_put_other hne]
      have := hR x l' hl'
      cases hg2 : get x L with
      | none => rw [hg2] at this; exact this
      | some u => rw [hg2] at this; exact ⟨this.1, fun z => (Maps.atKey_put_other hne _ _).trans (this.2 z)⟩
  · rw [hl x l' hl', get_set (k := k)]
    by_cases e : x = k
    · subst e
      cases hgR : get x R with
      | none => simp
      | some u => simp
    · rw [if_neg (fun h => e h.1)]
  · obtain ⟨x, h5, h6⟩ := hdm l' hl'
    refine ⟨x, h5, ?_⟩
    rw [get_set (k := k)]
    split
    · rfl
    · exact h6
  · obtain ⟨q, hq, rfl⟩ := List.mem_map.1 hp
    exact List.mem_map.2 ⟨q, hsub q hq, rfl⟩
  · obtain ⟨q, hq, rfl⟩ := List.mem_map.1 hp
    split
    · exact hk
    · exact hok q hq
/-- Behind the last round. -/
theorem Rg.m (h : Rg K vf w b r L R) (hsz : Sz w b L.length) (hl : ∃ D, w.ownsMap P kt raw b L.length D ∧ Maps.size D = L.length ∧ Rep K vf D L ∧ Dom K (Maps.has D) L) : M K vf w b L := ⟨hl, h.nd, h.ok⟩
end MapS
end Go.Proofs.YtblaaafpglomnaaGreat

namespace Go.Proofs.YtblaaafpglomnaaGreat
open Go Go.RowKit

/-- The rows whose keys are named have lost their touch. -/
def clrD (done : List Ky) (T : List Rw) : List Rw := T.map (fun r => if r.1.key ∈ done then (clrE r.1, r.2) else r)
theorem clrD_nil (T : List Rw) : clrD [] T = T := by
  unfold clrD
  conv => rhs; rw [← List.map_id T]
  exact List.map_congr_left fun r _ => by simp
theorem clrD_all {done : List Ky} {T : List Rw} (h : ∀ r ∈ T, r.1.key ∈ done) : clrD done T = clrS T := List.map_congr_left fun r hr => by rw [if_pos (h r hr)]
theorem clrD_len (done : List Ky) (T : List Rw) : (clrD done T).length = T.length := by simp [clrD]
theorem clrD_key (done : List Ky) (r : Rw) : (if r.1.key ∈ done then (clrE r.1, r.2) else r : Rw).1.key = r.1.key := by split <;> rfl
theorem clrD_sorted {done : List Ky} {T : List Rw} (h : SortedS T) : SortedS (clrD done T) := List.pairwise_map.2 (h.imp fun {a b} h => by rw [clrD_key, clrD_key]; exact h)
theorem sorted_inj {T : List Rw} (h : SortedS T) {a b : Rw} (ha : a ∈ T) (hb : b ∈ T) (hk : a.1.key = b.1.key) : a = b := by
  have h1 := fnd_mem h ha
  have h2 := fnd_mem h hb
  rw [hk, h2] at h1
  exact (Option.some.inj h1).symm
theorem clrD_step {done : List Ky} {T : List Rw} (h : SortedS T) {u : Rw} (hu : u ∈ clrD done T) (hn : u.1.key ∉ done) : upd (clrE u.1, u.2) (clrD done T) = clrD (done ++ [u.1.key]) T := by
  obtain ⟨r, hr, e⟩ := List.mem_map.1 hu
  have hk : r.1.key = u.1.key := by rw [← e]; exact (clrD_key done r).symm
  rw [if_neg (by rw [hk]; exact hn)] at e
  subst e
  unfold upd clrD
  rw [List.map_map]
  refine List.map_congr_left fun x hx => ?_
  simp only [Function.comp, clrD_key]
  by_cases e : x.1.key = r.1.key
  · obtain rfl := sorted_inj h hx hr e
    rw [if_pos (show x.1.key = (clrE x.1).key from rfl), if_pos (by simp)]
  · rw [if_neg (show ¬ x.1.key = (clrE r.1).key from e)]
    have hm : (x.1.key ∈ done ++ [r.1.key]) ↔ x.1.key ∈ done := by simp [e]
    by_cases hd : x.1.key ∈ done
    · rw [if_pos hd, if_pos (hm.2 hd)]
    · rw [if_neg hd, if_neg (fun h => hd (hm.1 h))]
set_option maxRecDepth 100000 in
set_option maxHeartbeats 4000000 in
theorem clear_c (w : World) (bt bm : Nat) (T : List Rw) (t : TM w bt bm T) (hs : SortedS T) (hl : T.length ≤ 100000) (hok : ∀ r ∈ T, kOk r.1.key) :
    Calls Tryz.prog 73 #[.pointer (some ⟨bt, 0, none⟩)] w fun e w' => e = .returned (.tuple #[]) ∧ TM w' bt bm (clrS T) ∧ Keeps [bm] w w' := by
  have hM := t.mp
  have d7 := t.cell
  have hlt := t.lt
  have hnb := t.ne
  have hbt := t.blk
  replace hM := Lib.hid hM
  replace hs := Lib.hid hs
  replace hok := Lib.hid hok
  replace hbt := Lib.hid hbt
  clear t
  go_enter Tryz.func73, Tryz.ntmps73
  go_wp2_with (at_range; refine MapS.wpl_range ktK rfl _ rfl Tryz.underlying74 rfl hM.out ?_; intro w1 hrg1 hg1 hs1)
  have hk1 : Keeps [] w w1 := (Keeps.refl _ _).grown hg1 (fun k e => by cases e)
  have hM1 := hM.out.keeps ktK hk1
  have hMk := hM1
  rw [← clrD_nil T] at hrg1 hM1
  replace hrg1 := Lib.hid hrg1
  replace hM1 := Lib.hid hM1
  replace hk1 := Lib.hid hk1
  clear hMk
  try go_frame
  go_loopg [2] T.length (fun n _ wr => ∃ (done : List Ky) (R : MapS.Es Ky Rw), n = R.length ∧ Hid (MapS.Rg ktK (fun r : Rw => rwV r) wr bm w.heap.size (kr (clrD done T)) R) ∧ Hid (MapS.M ktK (fun r : Rw => rwV r) wr bm (kr (clrD done T))) ∧ Hid ((done ++ R.map (·.1)).Perm (keyL T)) ∧ Hid (Keeps [bm] w wr))
  case atStart => exact ⟨[], kr (clrD [] T), by rw [kr_len, clrD_len], hrg1, hM1, by show List.Perm _ _; rw [clrD_nil]; simp only [List.nil_append, kr, keyL, List.map_map]; exact List.Perm.refl _, hk1.out.of_nil⟩
  case round =>
    obtain ⟨done, R, rfl, hrg, hMr, hP, hkw⟩ := hrel
    go_wp2_with (at_next; refine MapS.wpl_next ktK rfl _ rfl rfl hrg.out ?_ ?_)
    case _ =>
      intro hrs
      subst hrs
      have hP2 : done.Perm (keyL T) := by simpa using hP.out
      have hall := clrD_all (done := done) (T := T) (fun r hr => hP2.mem_iff.2 (List.mem_map.2 ⟨r, hr, rfl⟩))
      have hM9 := hMr.out
      rw [hall] at hM9
      have t9 : TM wr bt bm (clrS T) := ⟨(hkw.out.block bt hlt.1 (by simpa using hnb)).trans hbt.out, hM9⟩
      replace t9 := Lib.hid t9
      clear hP2 hall hM9 hP
      go_wp2
      go_end0
      exact ⟨rfl, t9.out, hkw.out⟩
    case _ =>
      intro x0 x1 ue rh R' w2 hx hgx hm hpR hrg2 hg2 hs2 hen
      obtain ⟨hgm, hgk⟩ := fnd_some (show fnd (x0, x1) (clrD done T) = some (ue, rh) from hgx)
      obtain ⟨rcl, rn, rim, ris, ro, ri, rd, rtc, rwk, rgb, rlm, rls⟩ := ue
      simp only [En.key, Prod.mk.injEq] at hgk
      obtain ⟨rfl, rfl⟩ := hgk
      have hk12 : Keeps [w.heap.size] wr w2 := (Keeps.refl _ _).grown hg2 (fun k e => .inr (by cases e; simp))
      have hM2 := hMr.out.kept ktK hk12 (by simp; omega)
      have hkw2 := hkw.out.fresh hk12 (fun b hb => .inr (by simp at hb; omega))
      have hP2 : (done ++ [(rcl, rn)] ++ R'.map (·.1)).Perm (keyL T) := by
        refine List.Perm.trans ?_ hP.out
        rw [List.append_assoc]
        exact ((hpR.map (·.1)).symm).append_left done
      have hnd : (keyL T).Nodup := List.pairwise_map.2 (hs.out.imp (fun h => klt_ne h))
      have hnin : ((rcl, rn) : Ky) ∉ done := by
        have h1 := hP2.nodup_iff.2 hnd
        rw [List.append_assoc, List.nodup_append] at h1
        exact fun hd => h1.2.2 _ hd (rcl, rn) (by simp) rfl
      have hstep := clrD_step hs.out hgm hnin
      have hlenR : R'.length < R.length := by have := hpR.length_eq; simp at this; omega
      -- the two blocks of the round
      have hkA : Keeps [] w2 ((w2.alloc (.cells #[.int .i64 rcl, .int .u64 rn] tK)).alloc (.cells #[.int .i64 rcl, .int .u64 rn, .int .i64 rim, .int .i64 ris, .int .i64 ro, .int .i64 ri, .int .i64 rd, .bool false, .bool rwk, .bool rgb, .int .i64 rlm, .int .i64 rls, .int .i64 rh] tRw)) := ((Keeps.refl _ _).alloc _).alloc _
      have hbK := two_a w2 (.cells #[.int .i64 rcl, .int .u64 rn] tK) (.cells #[.int .i64 rcl, .int .u64 rn, .int .i64 rim, .int .i64 ris, .int .i64 ro, .int .i64 ri, .int .i64 rd, .bool false, .bool rwk, .bool rgb, .int .i64 rlm, .int .i64 rls, .int .i64 rh] tRw)
      have hbR := two_b w2 (.cells #[.int .i64 rcl, .int .u64 rn] tK) (.cells #[.int .i64 rcl, .int .u64 rn, .int .i64 rim, .int .i64 ris, .int .i64 ro, .int .i64 ri, .int .i64 rd, .bool false, .bool rwk, .bool rgb, .int .i64 rlm, .int .i64 rls, .int .i64 rh] tRw)
      have hltr := hrg2.lt
      have hMA := hM2.keeps ktK hkA
      have hrgA := hrg2.keeps hkA
      have hkwA := hkw2.trans hkA.of_nil
      have d7A := ((hkwA.block bt hlt.1 (by simpa using hnb)).trans hbt.out)
      replace d7A := cells1 d7A
      simp only [ktK, kyV, rwV] at hen ⊢
      replace hrgA := Lib.hid hrgA
      replace hMA := Lib.hid hMA
      replace hP2 := Lib.hid hP2
      replace hstep := Lib.hid hstep
      replace hkwA := Lib.hid hkwA
      replace hbK := Lib.hid hbK
      replace hbR := Lib.hid hbR
      have hkkey := hok.out
      replace hgm := Lib.hid hgm
      replace hgx := Lib.hid hgx
      clear hx hm hpR hrg2 hg2 hs2 hP hrg hMr hkw hM2 hkw2 hkA hkkey hnd hk12 hnin
      go_wp2
      obtain ⟨WA, hWA⟩ : ∃ WA, ((w2.alloc (.cells #[.int .i64 rcl, .int .u64 rn] tK)).alloc (.cells #[.int .i64 rcl, .int .u64 rn, .int .i64 rim, .int .i64 ris, .int .i64 ro, .int .i64 ri, .int .i64 rd, .bool false, .bool rwk, .bool rgb, .int .i64 rlm, .int .i64 rls, .int .i64 rh] tRw)) = WA := ⟨_, rfl⟩
      rw [hWA] at hrgA hMA hkwA hbK hbR d7A
      rw [hWA]
      obtain ⟨q0, q1, _⟩ := cells2 hbK.out
      obtain ⟨n0, n1, n2, n3, n4, n5, n6, n7, n8, n9, n10, n11, n12, _⟩ := cells13 hbR.out
      have hkk : ktK.ok (rcl, rn) := by
        obtain ⟨r, hr, e⟩ := List.mem_map.1 (show ((rcl, rn) : Ky) ∈ keyL T from hP2.out.mem_iff.1 (by simp))
        rw [show ((rcl, rn) : Ky) = r.1.key from e.symm]
        exact hok.out r hr
      have hsome : (MapS.get (rcl, rn) (kr (clrD done T))).isSome = true := by rw [show MapS.get (rcl, rn) (kr (clrD done T)) = _ from hgx.out]; rfl
      have hszN := hMA.out.sz
      rw [kr_len, clrD_len] at hszN
      obtain ⟨w9, hrun, hrg9, _, hk9, hl9⟩ := (hrgA.out.keeps ((Keeps.refl [] WA).drew)).store Tryz.underlying74 hkk hsome (hszN.at (drewHeap WA bm)) (by unfold maxLen; omega) (((⟨rcl, rn, rim, ris, ro, ri, rd, false, rwk, rgb, rlm, rls⟩ : En), rh) : Rw)
      obtain ⟨w9', hrun', hM9, hk9'⟩ := MapS.M.putOld ktK (t := tMap) Tryz.underlying74 (hMA.out.keeps ktK ((Keeps.refl [] WA).drew)) hkk hsome (by rw [kr_len, clrD_len]; unfold maxLen; omega) (((⟨rcl, rn, rim, ris, ro, ri, rd, false, rwk, rgb, rlm, rls⟩ : En), rh) : Rw)
      have hww : w9' = w9 := by
        rw [hrun] at hrun'
        exact ((Result.ok.inj hrun').2).symm
      subst hww
      have hset : MapS.set (rcl, rn) (((⟨rcl, rn, rim, ris, ro, ri, rd, false, rwk, rgb, rlm, rls⟩ : En), rh) : Rw) (kr (clrD done T)) = kr (clrD (done ++ [(rcl, rn)]) T) := by
        rw [← hstep.out, kr_upd]; rfl
      rw [hset] at hrg9 hM9
      have hkf := (hkwA.out.drew).trans hk9
      have hk9p : Free.KeepsP (fun b => True ∧ b = bm) WA.drew w9' := Free.KeepsP.of hk9 (by simp)
      have hP9 : (done ++ [(rcl, rn)] ++ (MapS.set (rcl, rn) (((⟨rcl, rn, rim, ris, ro, ri, rd, false, rwk, rgb, rlm, rls⟩ : En), rh) : Rw) R').map (·.1)).Perm (keyL T) := by rw [MapS.set_keys]; exact hP2.out
      have hne1 : w2.heap.size ≠ bm ∧ w2.heap.size + 1 ≠ bm := by omega
      have hneb : bt ≠ bm := hnb
      have hlen9 : (MapS.set (rcl, rn) (((⟨rcl, rn, rim, ris, ro, ri, rd, false, rwk, rgb, rlm, rls⟩ : En), rh) : Rw) R').length = R'.length := by simp [MapS.set]
      simp only [ktK, kyV, rwV] at hrun
      replace hrg9 := Lib.hid hrg9
      replace hM9 := Lib.hid hM9
      replace hkf := Lib.hid hkf
      replace hk9p := Lib.hid hk9p
      replace hP9 := Lib.hid hP9
      clear hrgA hMA hP2 hbK hbR hWA hkwA hk9 hk9' hrun' hset hstep hszN hsome hkk hgm hgx hl9
      refine Free.wp_region_chain (fun i => i == 6) (fun i => true) (fun j b => j = 6 ∧ b = bm) (by kernel_rfl) (by kernel_rfl) (by kernel_rfl) ?_
      (repeat (first | (apply Free.cw_pure rfl rfl; (intro w'; go_simp <;> exact rfl); go_frame) | (apply Free.cw_steady rfl rfl rfl; (intro w' hS2; have z0 := Free.sx_cell hS2 d7A (fun _ _ hT => hneb hT.2); have z1 := Free.sx_cell hS2 q0 (fun _ _ hT => hne1.1 hT.2); have z2 := Free.sx_cell hS2 q1 (fun _ _ hT => hne1.1 hT.2); have z3 := Free.sx_cell hS2 n0 (fun _ _ hT => by have := hT.2; omega); have z4 := Free.sx_cell hS2 n1 (fun _ _ hT => by have := hT.2; omega); have z5 := Free.sx_cell hS2 n2 (fun _ _ hT => by have := hT.2; omega); have z6 := Free.sx_cell hS2 n3 (fun _ _ hT => by have := hT.2; omega); have z7 := Free.sx_cell hS2 n4 (fun _ _ hT => by have := hT.2; omega); have z8 := Free.sx_cell hS2 n5 (fun _ _ hT => by have := hT.2; omega); have z9 := Free.sx_cell hS2 n6 (fun _ _ hT => by have := hT.2; omega); have z10 := Free.sx_cell hS2 n7 (fun _ _ hT => by have := hT.2; omega); have z11 := Free.sx_cell hS2 n8 (fun _ _ hT => by have := hT.2; omega); have z12 := Free.sx_cell hS2 n9 (fun _ _ hT => by have := hT.2; omega); have z13 := Free.sx_cell hS2 n10 (fun _ _ hT => by have := hT.2; omega); have z14 := Free.sx_cell hS2 n11 (fun _ _ hT => by have := hT.2; omega); have z15 := Free.sx_cell hS2 n12 (fun _ _ hT => by have := hT.2; omega); go_simp <;> exact rfl); go_frame)))
      refine Free.cw_loud rfl rfl (fun K hK => ?_)
      go_wp2
      refine hK _ _ rfl hk9p.out ?_
      clear hK K
      refine Free.cw_nil ?_
      go_wp2
      go_roundg R'.length
      case measure => exact hlenR
      case rel => exact ⟨_, _, hlen9.symm, hrg9, hM9, hP9, hkf⟩
end Go.Proofs.YtblaaafpglomnaaGreat
