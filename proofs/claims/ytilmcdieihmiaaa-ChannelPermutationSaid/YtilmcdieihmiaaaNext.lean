/- The closure that takes the next payload out of the map. -/
import Derived.Test.YtilmcdieihmiaaaSend
namespace Go.Proofs.Ytilmcdieihmiaaa
open Go.RowKit

theorem lawI : Maps.Keyed Try.prog 3 := Maps.int_keyed Try.underlying3
theorem zeroL (w : World) : (zeroValue 23).run Try.prog w = .ok (.slice none 0 0) w := by kernel_rfl
/-- A look-up. -/
theorem ME.look {w : World} {bm n : Nat} {early : Int → Option Bytes} (h : ME w bm n early) (s : Int) (hs : (Lit.int .i64 s).wf = true) :
    (early s = none → ∀ nq, (Instr.lookup 77 (.map (some bm)) (.int .i64 s) true).run Try.prog (w.drewN nq) = .ok (.tuple #[.slice none 0 0, .bool false]) (w.drewN nq)) ∧
    ∀ l, early s = some l → ∃ v, (∀ nq, (Instr.lookup 77 (.map (some bm)) (.int .i64 s) true).run Try.prog (w.drewN nq) = .ok (.tuple #[v, .bool true]) (w.drewN nq)) ∧ SlB w v l := by
  obtain ⟨D, hown, hD⟩ := h
  have key : ∀ nq, ∃ v ps, (Instr.lookup 77 (.map (some bm)) (.int .i64 s) true).run Try.prog (w.drewN nq) = .ok (.tuple #[v, .bool (Maps.has D (.int .i64 s))]) (w.drewN nq) ∧ rawR v = some (D.atKey (.int .i64 s) (.held (.slice none 0 0)), ps) := fun nq =>
    World.ownsMap.look_ok (w := w.drewN nq) hown lawI Try.underlying77 (zeroL _) (zd := .held (.slice none 0 0)) (zp := []) rfl (Maps.keyOf_int_mk Try.underlying3 hs)
  refine ⟨fun he nq => ?_, fun l he => ?_⟩
  · obtain ⟨v, ps, hrun, hv⟩ := key nq
    simp only [rawR, Option.some.injEq, Prod.mk.injEq] at hv
    have h1 := (hD s hs).1 he
    rw [h1] at hrun
    have h2 := Maps.atKey_of_not_has h1 (.held (Value.slice none 0 0))
    rw [h2] at hv
    have : v = .slice none 0 0 := by have := hv.1; cases this; rfl
    rw [this] at hrun; exact hrun
  · obtain ⟨h1, v', h2, h3⟩ := (hD s hs).2 l he
    refine ⟨v', fun nq => ?_, h3⟩
    obtain ⟨v, ps, hrun, hv⟩ := key nq
    simp only [rawR, Option.some.injEq, Prod.mk.injEq] at hv
    rw [h1] at hrun
    rw [h2] at hv
    have : v = v' := by have := hv.1; cases this; rfl
    rw [this] at hrun
    exact hrun
/-- A payload is taken out. -/
theorem ME.drop {w : World} {bm n : Nat} {early : Int → Option Bytes} (h : ME w bm n early) (s : Int) (hs : (Lit.int .i64 s).wf = true) (ty : TypeId) :
    ∃ w', (Builtin.delete_ #[77, 3] ty #[.map (some bm), .int .i64 s]).run Try.prog w = .ok (.tuple #[]) w' ∧ ME w' bm n (fun k => if k = s then none else early k) ∧ Keeps [bm] w w' ∧ KB w w' := by
  obtain ⟨D, hown, hD⟩ := h
  obtain ⟨w', hrun, hown', ht⟩ := hown.drop lawI Try.underlying77 (Maps.keyOf_int_mk Try.underlying3 hs) ty
  have hk := Keeps.of_grown ht.grown
  have hkb : KB w w' := hk.kb (by intro b hb o x; simp at hb; subst hb; rw [owns_no_cells hown]; simp)
  refine ⟨w', hrun, ⟨_, hown', fun k hkw => ?_⟩, hk, hkb⟩
  by_cases e : k = s
  · subst e
    simp only [if_true]
    exact ⟨fun _ => Maps.has_del_same .., by simp⟩
  · simp only [if_neg e]
    have hne : (Lit.int .i64 k) ≠ (Lit.int .i64 s) := by simpa using e
    rw [Maps.has_del_other hne]
    refine ⟨(hD k hkw).1, fun l hl => ?_⟩
    obtain ⟨h1, v, h2, h3⟩ := (hD k hkw).2 l hl
    exact ⟨h1, v, fun z => by rw [Maps.atKey_del_other hne]; exact h2 z, h3.kb hkb⟩
/-- A payload is put in. -/
theorem ME.put {w : World} {bm n : Nat} {early : Int → Option Bytes} (h : ME w bm n early) (s : Int) (hs : (Lit.int .i64 s).wf = true) (hn : n < maxLen) (v : Value) (l : Bytes) (hv : SlB w v l) :
    ∃ w', (Instr.mapUpdate 77 (.map (some bm)) (.int .i64 s) v).run Try.prog w = .ok () w' ∧ ME w' bm (n + 1) (fun k => if k = s then some l else early k) ∧ Keeps [bm] w w' ∧ KB w w' := by
  obtain ⟨D, hown, hD⟩ := h
  obtain ⟨w', hrun, hown', ht⟩ := hown.store lawI Try.underlying77 hn (Maps.keyOf_int_mk Try.underlying3 hs) (d := .held v) (ps := []) rfl
  have hk := Keeps.of_grown ht.grown
  have hkb : KB w w' := hk.kb (by intro b hb o x; simp at hb; subst hb; rw [owns_no_cells hown]; simp)
  refine ⟨w', hrun, ⟨_, hown', fun k hkw => ?_⟩, hk, hkb⟩
  have hlit : WideAt.IsKeyLit (Lit.int .i64 s) := by trivial
  by_cases e : k = s
  · subst e
    simp only [if_true]
    refine ⟨by simp, fun l' hl' => ?_⟩
    cases hl'
    exact ⟨Maps.has_put_same hown.isMap hlit _, v, fun z => Maps.atKey_put_same hown.isMap hlit _ z, hv.kb hkb⟩
  · simp only [if_neg e]
    have hne : (Lit.int .i64 k) ≠ (Lit.int .i64 s) := by simpa using e
    rw [Maps.has_put_other hne]
    refine ⟨(hD k hkw).1, fun l' hl' => ?_⟩
    obtain ⟨h1, v', h2, h3⟩ := (hD k hkw).2 l' hl'
    exact ⟨h1, v', fun z => by rw [Maps.atKey_put_other hne]; exact h2 z, h3.kb hkb⟩

/-- The end behind the taking of a payload. -/
def Chan.take (C : Chan) : Chan := { C with received := C.received + 1, early := fun k => if k = (C.received : Int) + 1 then none else C.early k }
theorem set5_2 {w : World} {b : Nat} {x0 x1 x2 x3 x4 : Value} {t : TypeId} (h : w.heap[b]? = some (.cells #[x0, x1, x2, x3, x4] t (0, 0))) (u : Value) : (w.setCell ⟨b, 2, none⟩ u).heap[b]? = some (.cells #[x0, x1, u, x3, x4] t (0, 0)) := by
  simp [World.setCell, Array.getElem?_modify, h]
theorem KB.int (w : World) {b o : Nat} {k : Int} (v : Value) (h : w.cell? ⟨b, o, none⟩ = some (.int .i64 k)) : KB w (w.setCell ⟨b, o, none⟩ v) := KB.setCell w v h (by simp)
theorem Ch.recv {w : World} {B bc bm n : Nat} {vk : Value} {C : Chan} (h : Ch w B bc bm n vk C) (hcb : vk.ownBlock ≠ some bc) (r : Nat) :
    Ch (w.setCell ⟨bc, 2, none⟩ (.int .i64 r)) B bc bm n vk { C with received := r } ∧ KB w (w.setCell ⟨bc, 2, none⟩ (.int .i64 r)) := by
  have hkb : KB w (w.setCell ⟨bc, 2, none⟩ (.int .i64 r)) := KB.int w _ h.cells.2.2.1
  have hk : Keeps [bc] w (w.setCell ⟨bc, 2, none⟩ (.int .i64 r)) := (Keeps.refl _ _).setCell (.inr (by simp)) _
  exact ⟨⟨set5_2 h.blk _, h.kept.keep hk (by simpa using hcb) hkb, h.early.keep hk (by simpa using h.ne) hkb⟩, hkb⟩

set_option maxRecDepth 100000 in
set_option maxHeartbeats 2000000 in
theorem next_no (w : World) (B bc bm n bp : Nat) (vk : Value) (C : Chan) (h : Ch w B bc bm n vk C) (hp : w.cell? ⟨bp, 0, none⟩ = some (.pointer (some ⟨bc, 0, none⟩))) (hr : C.received < 1099511627776) (he : C.early ((C.received : Int) + 1) = none) :
    Calls Try.prog 67 #[.pointer (some ⟨bp, 0, none⟩)] w fun e w' => e = .returned (.tuple #[.slice none 0 0, .bool false]) ∧ Keeps [] w w' := by
  obtain ⟨c0, c1, c2, c3, c4, cf, hlt⟩ := h.cells
  have hlk := (h.early.look ((C.received : Int) + 1) (WalkArith.wf_i64 (by omega))).1 he
  have hw1 : IntKind.i64.wrap ((C.received : Int) + 1) = (C.received : Int) + 1 := IntWalk.i64_in _ (by omega)
  clear h he c0 c1 c3 cf
  go_enter Try.func67, Try.ntmps67
  go_wp2
  (refine wp_region_quiet_lit (by kernel_rfl) (by kernel_rfl) ?_; (repeat (first | go_big_quiet_step (fail) | quiet_step (fail))); with_reducible refine wpQuiet_nil ?_; intro _ hw'; obtain ⟨nq, hw''⟩ := hw'; subst hw'')
  go_wp2
  go_ret2
  exact ⟨rfl, (Keeps.refl [] w).drewN _⟩

theorem next_fin {W w5 : World} {B bc bm n : Nat} {vk : Value} {C : Chan} (h : Ch W B bc bm n vk { C with received := C.received + 1 }) (hk : Keeps [bm] W w5) (hkb : KB W w5)
    (hM : ME w5 bm n (fun k => if k = (C.received : Int) + 1 then none else C.early k)) : Ch w5 B bc bm n vk C.take :=
  ⟨(hk.block bc h.cells.2.2.2.2.2.2 (by simpa using fun e => h.ne e.symm)).trans h.blk, h.kept.keep hk (by simpa using h.kept.ne_map h.early) hkb, hM⟩
set_option maxRecDepth 100000 in
set_option maxHeartbeats 2000000 in
theorem next_yes (w : World) (B bc bm n bp : Nat) (vk : Value) (C : Chan) (l : Bytes) (h : Ch w B bc bm n vk C) (hcb : vk.ownBlock ≠ some bc) (hp : w.cell? ⟨bp, 0, none⟩ = some (.pointer (some ⟨bc, 0, none⟩))) (hr : C.received < 1099511627776) (he : C.early ((C.received : Int) + 1) = some l) :
    Calls Try.prog 67 #[.pointer (some ⟨bp, 0, none⟩)] w fun e w' => ∃ v, e = .returned (.tuple #[v, .bool true]) ∧ SlB w' v l ∧ Ch w' B bc bm n vk C.take ∧ Keeps [bc, bm] w w' ∧ KB w w' := by
  obtain ⟨c0, c1, c2, c3, c4, cf, hlt⟩ := h.cells
  have f2 := cf 2
  obtain ⟨v, hlk, hv⟩ := (h.early.look ((C.received : Int) + 1) (WalkArith.wf_i64 (by omega))).2 l he
  obtain ⟨av, cv, rfl⟩ := hv.form
  have hw1 : IntKind.i64.wrap ((C.received : Int) + 1) = (C.received : Int) + 1 := IntWalk.i64_in _ (by omega)
  replace h := Lib.hid h
  replace hv := Lib.hid hv
  clear he c0 c1 c3 cf
  go_enter Try.func67, Try.ntmps67
  go_wp2
  (refine wp_region_quiet_lit (by kernel_rfl) (by kernel_rfl) ?_; (repeat (first | go_big_quiet_step (fail) | quiet_step (fail))); with_reducible refine wpQuiet_nil ?_; intro _ hw'; obtain ⟨nq, hw''⟩ := hw'; subst hw'')
  go_wp2
  have hC1 : Ch (w.drewN nq) B bc bm n vk C := h.out.keeps ((Keeps.refl [] w).drewN nq)
  have hC2 := hC1.recv hcb (C.received + 1)
  have hk2 : Keeps [bc] w ((w.drewN nq).setCell ⟨bc, 2, none⟩ (.int .i64 ((C.received + 1 : Nat) : Int))) := ((Keeps.refl [bc] w).drewN nq).setCell (.inr (by simp)) _
  have hkb2 : KB w ((w.drewN nq).setCell ⟨bc, 2, none⟩ (.int .i64 ((C.received + 1 : Nat) : Int))) := ((Keeps.refl [] w).drewN nq).kb0.trans hC2.2
  rw [show ((C.received + 1 : Nat) : Int) = (C.received : Int) + 1 by omega] at hk2 hkb2 hC2
  obtain ⟨hC2, _⟩ := hC2
  have hpW : ((w.drewN nq).setCell ⟨bc, 2, none⟩ (.int .i64 ((C.received : Int) + 1))).cell? ⟨bp, 0, none⟩ = some (.pointer (some ⟨bc, 0, none⟩)) := by
    rw [World.cell?_setCell_other]
    · exact hp
    · intro e; cases e
  have hv2 := hv.out.kb hkb2
  generalize (w.drewN nq).setCell ⟨bc, 2, none⟩ (.int .i64 ((C.received : Int) + 1)) = W at *
  obtain ⟨d0, d1, d2, d3, d4, df, dlt⟩ := hC2.cells
  have d2' : W.cell? ⟨bc, 2, none⟩ = some (.int .i64 ((C.received : Int) + 1)) := by simpa using d2
  clear d0 d1 d2 d3 df hlk hC1
  have hn2 : ¬ bc = bm := fun e => hC2.ne e.symm
  have hn1 : ¬ bp = bm := fun e => by have := hC2.early.nocell 0; rw [← e, hpW] at this; cases this
  replace hC2 := Lib.hid hC2
  replace hk2 := Lib.hid hk2
  replace hkb2 := Lib.hid hkb2
  replace hv2 := Lib.hid hv2
  refine Free.wp_region_chain (fun i => i == 8) (fun i => true) (fun j b => b = bm) (by kernel_rfl) (by kernel_rfl) (by kernel_rfl) ?_
  (repeat (first | (apply Free.cw_pure rfl rfl; (intro w'; go_simp <;> exact rfl); go_frame) | (apply Free.cw_steady rfl rfl rfl; (intro w' hS; have q0 := Free.sx_cell hS hpW (fun j _ e => hn1 e); have q1 := Free.sx_cell hS d2' (fun j _ e => hn2 e); have q2 := Free.sx_cell hS d4 (fun j _ e => hn2 e); go_simp <;> exact rfl); go_frame)))
  refine Free.cw_loud rfl rfl (fun K hK => ?_)
  obtain ⟨w5, hdel, hM5, hk5, hkb5⟩ := ME.drop (w := W.drew) (hC2.out.keeps ((Keeps.refl [] W).drew)).early ((C.received : Int) + 1) (WalkArith.wf_i64 (by omega)) 0
  have hC5 : Ch w5 B bc bm n vk C.take := next_fin hC2.out (((Keeps.refl [bm] W).drew).trans hk5) hkb5 hM5
  replace hM5 := Lib.hid hM5
  go_wp2
  refine hK _ _ rfl (Free.KeepsP.of hk5 (by simp)) ?_
  clear hK K hdel
  refine Free.cw_nil ?_
  have hkf : Keeps [bc, bm] w w5 := (hk2.out.mono (by simp)).trans ((((Keeps.refl [bm] W).drew).trans hk5).mono (by simp))
  have hkbf : KB w w5 := hkb2.out.trans hkb5
  have hvf := hv2.out.kb hkb5
  clear hk5 hkb5
  replace hC5 := Lib.hid hC5
  replace hkf := Lib.hid hkf
  replace hkbf := Lib.hid hkbf
  replace hvf := Lib.hid hvf
  go_wp2
  go_ret2
  exact ⟨_, rfl, hvf.out, hC5.out, hkf.out, hkbf.out⟩

/-- What the closure leaves, whether there was a payload or not. -/
def NX (w' : World) (B bc bm n : Nat) (vk : Value) (C : Chan) (v : Value) : Bool → Prop
  | true => ∃ l, C.early ((C.received : Int) + 1) = some l ∧ SlB w' v l ∧ Ch w' B bc bm n vk C.take
  | false => C.early ((C.received : Int) + 1) = none ∧ Ch w' B bc bm n vk C
theorem next_c (w : World) (B bc bm n bp : Nat) (vk : Value) (C : Chan) (h : Ch w B bc bm n vk C) (hcb : vk.ownBlock ≠ some bc) (hp : w.cell? ⟨bp, 0, none⟩ = some (.pointer (some ⟨bc, 0, none⟩))) (hr : C.received < 1099511627776) :
    Calls Try.prog 67 #[.pointer (some ⟨bp, 0, none⟩)] w fun e w' => ∃ a m c ok, e = .returned (.tuple #[.slice a m c, .bool ok]) ∧ NX w' B bc bm n vk C (.slice a m c) ok ∧ Keeps [bc, bm] w w' ∧ KB w w' := by
  cases he : C.early ((C.received : Int) + 1) with
  | none =>
    refine (next_no w B bc bm n bp vk C h hp hr he).mono ?_
    rintro e w' ⟨rfl, hk⟩
    exact ⟨none, 0, 0, false, rfl, ⟨he, h.keeps hk⟩, hk.of_nil, hk.kb0⟩
  | some l =>
    refine (next_yes w B bc bm n bp vk C l h hcb hp hr he).mono ?_
    rintro e w' ⟨v, rfl, hv, hC, hk, hkb⟩
    obtain ⟨a, c, rfl⟩ := hv.form
    exact ⟨a, l.length, c, true, rfl, ⟨l, he, hv, hC⟩, hk, hkb⟩
end Go.Proofs.Ytilmcdieihmiaaa
