/- A channel's Send. -/
import Derived.Test.YtilmcdieihmiaaaChan
namespace Go.Proofs.Ytilmcdieihmiaaa
open Go.RowKit

theorem Ch.nobyte {w : World} {B bc bm n : Nat} {vk : Value} {C : Chan} (h : Ch w B bc bm n vk C) : ∀ o x, w.cell? ⟨bc, o, none⟩ ≠ some (.int .u8 x) := by
  obtain ⟨cs, hown, _⟩ := h.kept
  refine no_byte h.blk ?_
  rcases hown.2 with ⟨rfl, _⟩ | ⟨g, cap, cur, rfl, _⟩ <;> simp
theorem set5_0 {w : World} {b : Nat} {x0 x1 x2 x3 x4 : Value} {t : TypeId} (h : w.heap[b]? = some (.cells #[x0, x1, x2, x3, x4] t (0, 0))) (u : Value) : (w.setCell ⟨b, 0, none⟩ u).heap[b]? = some (.cells #[u, x1, x2, x3, x4] t (0, 0)) := by
  simp [World.setCell, Array.getElem?_modify, h]
theorem set5_3 {w : World} {b : Nat} {x0 x1 x2 x3 x4 : Value} {t : TypeId} (h : w.heap[b]? = some (.cells #[x0, x1, x2, x3, x4] t (0, 0))) (u : Value) : (w.setCell ⟨b, 3, none⟩ u).heap[b]? = some (.cells #[x0, x1, x2, u, x4] t (0, 0)) := by
  simp [World.setCell, Array.getElem?_modify, h]
theorem ME.keep {w w' : World} {bm n : Nat} {early : Int → Option Bytes} {S : List Nat} (h : ME w bm n early) (hk : Keeps S w w') (hS : bm ∉ S) (hb : KB w w') : ME w' bm n early := by
  obtain ⟨D, hown, hD⟩ := h
  refine ⟨D, owns_keep hown hk hS, fun s hs => ⟨(hD s hs).1, fun l hl => ?_⟩⟩
  obtain ⟨h1, v, h2, h3⟩ := (hD s hs).2 l hl
  exact ⟨h1, v, h2, h3.kb hb⟩
theorem ME.lt {w : World} {bm n : Nat} {early : Int → Option Bytes} (h : ME w bm n early) : bm < w.heap.size := by obtain ⟨D, hown, _⟩ := h; exact hown.lt
theorem ME.nocell {w : World} {bm n : Nat} {early : Int → Option Bytes} (h : ME w bm n early) (o : Nat) : w.cell? ⟨bm, o, none⟩ = none := by obtain ⟨D, hown, _⟩ := h; exact owns_no_cells hown o
theorem Ch.ne {w : World} {B bc bm n : Nat} {vk : Value} {C : Chan} (h : Ch w B bc bm n vk C) : bm ≠ bc := fun e => by
  have := h.early.nocell 0
  rw [e, h.cells.1] at this; cases this
theorem KL.ne_map {w : World} {B bm n : Nat} {v : Value} {ls : List Bytes} {early : Int → Option Bytes} (h : KL w B v ls) (hm : ME w bm n early) : v.ownBlock ≠ some bm := fun e => by
  obtain ⟨cs, hown, _⟩ := h
  obtain ⟨D, hm, _⟩ := hm
  obtain ⟨es, c, hb, _⟩ := hm
  rcases hown.2 with ⟨rfl, _⟩ | ⟨g, cap, cur, rfl, _, hg, _⟩
  · simp [Value.ownBlock] at e
  · have : g = bm := by simpa [Value.ownBlock] using e
    subst this
    rw [hb] at hg; cases hg
theorem Ch.keeps {w w' : World} {B bc bm n : Nat} {vk : Value} {C : Chan} (h : Ch w B bc bm n vk C) (hk : Keeps [] w w') : Ch w' B bc bm n vk C :=
  ⟨(hk.block bc h.cells.2.2.2.2.2.2 (by simp)).trans h.blk, h.kept.keep hk (by simp) hk.kb0, h.early.keep hk (by simp) hk.kb0⟩
theorem Ch.keepS {w w' : World} {B bc bm n : Nat} {vk : Value} {C : Chan} {S : List Nat} (h : Ch w B bc bm n vk C) (hk : Keeps S w w') (h1 : bc ∉ S) (h2 : bm ∉ S) (h3 : ∀ b ∈ S, vk.ownBlock ≠ some b) (hkb : KB w w') : Ch w' B bc bm n vk C :=
  ⟨(hk.block bc h.cells.2.2.2.2.2.2 h1).trans h.blk, h.kept.keep hk h3 hkb, h.early.keep hk h2 hkb⟩
/-- What the state is behind the store of the longer list. -/
theorem send_fin (w w3 : World) (B bc bm n : Nat) (vk vk' : Value) (C : Chan) (l : Bytes) (h : Ch w B bc bm n vk C) (hk : Keeps (bc :: vk.ownBlock.toList) w w3) (hkb : KB w w3)
    (hb3 : w3.heap[bc]? = some (.cells #[.int .i64 ((C.sent : Int) + 1), .int .i64 C.acked, .int .i64 C.received, vk, .map (some bm)] 79 (0, 0))) (hL : KL w3 B vk' (C.kept ++ [l])) (hcb : vk.ownBlock ≠ some bc) (hcb' : vk'.ownBlock ≠ some bc)
    (_hsw : vk'.ownBlock = vk.ownBlock ∨ ∃ k, vk'.ownBlock = some k ∧ w.heap.size ≤ k) :
    Ch (w3.setCell ⟨bc, 3, none⟩ vk') B bc bm n vk' { C with sent := C.sent + 1, kept := C.kept ++ [l] } ∧ Keeps (bc :: vk.ownBlock.toList) w (w3.setCell ⟨bc, 3, none⟩ vk') ∧ KB w (w3.setCell ⟨bc, 3, none⟩ vk') ∧ KB w3 (w3.setCell ⟨bc, 3, none⟩ vk') := by
  have hvk : ∀ x, vk ≠ .int .u8 x := by
    obtain ⟨cs, hown, _⟩ := h.kept
    rcases hown.2 with ⟨rfl, _⟩ | ⟨g, cap, cur, rfl, _⟩ <;> simp
  have hkb2 : KB w3 (w3.setCell ⟨bc, 3, none⟩ vk') := KB.setCell w3 _ (u := vk) (by simp [World.cell?, hb3]) hvk
  have hk2 : Keeps [bc] w3 (w3.setCell ⟨bc, 3, none⟩ vk') := (Keeps.refl _ _).setCell (.inr (by simp)) _
  refine ⟨⟨?_, hL.keep hk2 (by simpa using hcb') hkb2, ?_⟩, hk.trans (hk2.mono (by simp)), hkb.trans hkb2, hkb2⟩
  · have := set5_3 hb3 vk'
    simpa using this
  · refine (h.early.keep hk ?_ hkb).keep hk2 (by simpa using h.ne) hkb2
    simp only [List.mem_cons, not_or]
    exact ⟨h.ne, by simpa using h.kept.ne_map h.early⟩
set_option maxRecDepth 100000 in
set_option maxHeartbeats 2000000 in
theorem send_c (w : World) (B bc bm n : Nat) (vk v0 : Value) (C : Chan) (l : Bytes) (h : Ch w B bc bm n vk C) (hp : SlB w v0 l) (hl : l.length ≤ 140737488355000) (hs : C.sent < 1099511627776) (hk : C.kept.length < 1099511627776) (hB : B ≤ w.heap.size) (hcb : vk.ownBlock ≠ some bc) :
    Calls Try.prog 12 #[.pointer (some ⟨bc, 0, none⟩), v0] w fun e w' => ∃ vk' vd, e = .returned (.tuple #[.int .i64 (C.sent + 1 : Nat), vd]) ∧
      Ch w' B bc bm n vk' { C with sent := C.sent + 1, kept := C.kept ++ [l] } ∧ SlB w' vd (dataB (C.sent + 1) l) ∧ Keeps (bc :: vk.ownBlock.toList) w w' ∧ KB w w' ∧ vk'.ownBlock ≠ some bc ∧
      (vk'.ownBlock = vk.ownBlock ∨ ∃ k, vk'.ownBlock = some k ∧ w.heap.size ≤ k) := by
  obtain ⟨c0, c1, c2, c3, c4, cf, hlt⟩ := h.cells
  have f0 := cf 0
  obtain ⟨a0, cp0, rfl⟩ := hp.form
  obtain ⟨i0, hi, hz0, hz1, hz2⟩ := info_parts infoL
  replace h := Lib.hid h
  replace hp := Lib.hid hp
  clear cf
  go_enter Try.func12, Try.ntmps12
  go_wp2
  generalize hW1 : w.setCell ⟨bc, 0, none⟩ (.int .i64 ((C.sent : Int) + 1)) = w1 at *
  have hb1 : w1.heap[bc]? = some (.cells #[.int .i64 ((C.sent : Int) + 1), .int .i64 C.acked, .int .i64 C.received, vk, .map (some bm)] 79 (0, 0)) := by rw [← hW1]; exact set5_0 h.out.blk _
  have hk1 : Keeps [bc] w w1 := by rw [← hW1]; exact (Keeps.refl _ w).setCell (.inr (by simp)) _
  have q0 : w1.cell? ⟨bc, 0, none⟩ = some (.int .i64 ((C.sent : Int) + 1)) := by simp [World.cell?, hb1]
  have q3 : w1.cell? ⟨bc, 3, none⟩ = some vk := by simp [World.cell?, hb1]
  have lt1 : bc < w1.heap.size := (Array.getElem?_eq_some_iff.1 hb1).1
  have hkl : ∀ w2, Keeps [] w1.drew w2 → KL w2 B vk C.kept := fun w2 hk2 => (h.out.kept.keep hk1 (by simpa using hcb) (hk1.kb (by intro b hb; simp at hb; subst hb; exact h.out.nobyte))).keep ((Keeps.refl [] w1).drew.trans hk2) (by simp) ((Keeps.refl [] w1).drew.trans hk2).kb0
  replace hkl := Lib.hid hkl
  have hsz1 := hk1.size
  clear hW1 c0 c1 c2 c3 c4 f0
  replace hb1 := Lib.hid hb1
  replace hk1 := Lib.hid hk1
  refine Free.wp_region_chain (fun i => i == 6 || i == 7 || i == 8 || i == 11) (fun i => true) (fun j b => j = 8 ∧ vk.ownBlock = some b ∨ j = 11 ∧ b = bc) (by kernel_rfl) (by kernel_rfl) (by kernel_rfl) ?_
  (repeat (apply Free.cw_pure rfl rfl; (intro w'; go_simp <;> exact rfl); go_frame))
  apply Free.cw_steady rfl rfl rfl
  · intro w' hS
    have q3' := Free.sx_cell hS (v := vk) (b := bc) (off := 3) q3 (fun j hp hT => by
      rcases hT with ⟨rfl, hT⟩ | ⟨rfl, _⟩
      · exact hcb hT
      · exact absurd hp (by decide +kernel))
    go_simp <;> exact rfl
  go_frame
  (repeat (apply Free.cw_pure rfl rfl; (intro w'; go_simp <;> exact rfl); go_frame))
  refine Free.cw_loud rfl rfl (fun K hK => ?_)
  go_wp2_with fail
  refine (clone_c _ (.inl rfl) _ _ l ((hp.out.kb (hk1.out.kb (by intro b hb; simp at hb; subst hb; exact h.out.nobyte))).kb (KB.drew _)) (by omega)).mono ?_
  rintro e w2 ⟨v2, rfl, hB2, hk2⟩
  refine hK _ _ rfl (Free.KeepsP.of hk2 (by simp)) ?_
  clear hK K
  obtain ⟨a2, cp2, rfl⟩ := hB2.form
  replace hB2 := Lib.hid hB2
  replace hk2 := Lib.hid hk2
  refine Free.cw_loud rfl rfl (fun K hK => ?_)
  go_wp2
  refine hK _ _ rfl (Free.KeepsP.alloc _ _ _) ?_
  clear hK K
  refine Free.cw_loud rfl rfl (fun K hK => ?_)
  refine wp_pushL w2 B vk _ C.kept l _ _ rfl rfl rfl (hkl.out w2 hk2.out) hB2.out.slB hk (by have := hk2.out.size; simp at this; omega) (fun v3 w3 hL3 hG30 hkb3 => ?_)
  have hG3 := hG30.alloc_left
  have hb3 : w3.heap[bc]? = some (.cells #[.int .i64 ((C.sent : Int) + 1), .int .i64 C.acked, .int .i64 C.received, vk, .map (some bm)] 79 (0, 0)) :=
    (hG3.keepsO.block bc (by have := hk2.out.size; simp at this; omega) (by simpa using hcb)).trans ((hk2.out.block bc lt1 (by simp)).trans hb1.out)
  obtain ⟨a3, cp3, rfl⟩ : ∃ a c, v3 = .slice a (C.kept.length + 1) c := by simpa using hL3.form
  refine hK _ _ rfl ?_ ?_
  · exact Free.KeepsP.of hG30.keepsO (fun b hb => .inl ⟨rfl, by simpa using hb⟩)
  have r3 : w3.cell? ⟨bc, 3, none⟩ = some vk := by simp [World.cell?, hb3]
  have fr3 : w3.frozen? ⟨bc, 3, none⟩ = false := by simp [World.frozen?, hb3]
  have hcb3 : (Value.slice a3 (C.kept.length + 1) cp3).ownBlock ≠ some bc := by
    rcases hG3.own with e | ⟨k, e, hk⟩
    · rw [e]; exact hcb
    · rw [e]; intro e2; cases e2; have := hk2.out.size; simp at this; omega
  go_frame
  clear hK K
  generalize hvk' : Value.slice a3 (C.kept.length + 1) cp3 = vk' at *
  replace hb3 := Lib.hid hb3
  replace hL3 := Lib.hid hL3
  replace hG3 := Lib.hid hG3
  replace hkb3 := Lib.hid hkb3
  (repeat (apply Free.cw_pure rfl rfl; (intro w'; go_simp <;> exact rfl); go_frame))
  refine Free.cw_loud rfl rfl (fun K hK => ?_)
  subst hvk'
  go_wp2
  refine hK _ _ rfl (Free.KeepsP.setCell _ (.inr ⟨trivial, rfl⟩) _) ?_
  clear hK K
  refine Free.cw_nil ?_
  have hk3 : Keeps (bc :: vk.ownBlock.toList) w w3 := ((hk1.out.mono (by simp)).trans (((Keeps.refl [] w1).drew.trans hk2.out).of_nil)).trans (hG3.out.keepsO.mono (fun b hb => List.mem_cons_of_mem _ hb))
  have hkbw : KB w w3 := ((hk1.out.kb (by intro b hb; simp at hb; subst hb; exact h.out.nobyte)).trans (((Keeps.refl [] w1).drew.trans hk2.out).kb0)).trans hkb3.out
  have hfin := send_fin w w3 B bc bm n vk (.slice a3 (C.kept.length + 1) cp3) C l h.out hk3 hkbw hb3.out hL3.out hcb hcb3 (by rcases hG3.out.own with e | ⟨k, e, hk⟩; exact .inl e; exact .inr ⟨k, e, by have := hk2.out.size; simp at this; omega⟩)
  have hpf := (hp.out.kb hkbw).kb hfin.2.2.2
  have hsw : Hid ((Value.slice a3 (C.kept.length + 1) cp3).ownBlock = vk.ownBlock ∨ ∃ k, (Value.slice a3 (C.kept.length + 1) cp3).ownBlock = some k ∧ w.heap.size ≤ k) := (by rcases hG3.out.own with e | ⟨k, e, hk⟩; exact .inl e; exact .inr ⟨k, e, by have := hk2.out.size; simp at this; omega⟩)
  clear hb3 hL3 hG3 hkb3 hG30 hk3 hkbw r3 fr3 hkl hk1 hk2 hb1 hB2 q0 q3
  generalize (w3.setCell ⟨bc, 3, none⟩ (.slice a3 (C.kept.length + 1) cp3)) = W at *
  obtain ⟨hCh, hkW, hkbW, _⟩ := hfin
  obtain ⟨c0, c1, c2, c3, c4, cf, hlt4⟩ := hCh.cells
  have c0' : W.cell? ⟨bc, 0, none⟩ = some (.int .i64 ((C.sent : Int) + 1)) := c0
  clear c0 c1 c2 c3 c4 cf
  replace hCh := Lib.hid hCh
  replace hkW := Lib.hid hkW
  replace hkbW := Lib.hid hkbW
  replace hpf := Lib.hid hpf
  go_wp2
  refine Free.wp_region_chain (fun i => i == 9) (fun i => true) (fun _ _ => False) (by kernel_rfl) (by kernel_rfl) (by kernel_rfl) ?_
  (repeat (apply Free.cw_pure rfl rfl; (intro w'; go_simp <;> exact rfl); go_frame))
  apply Free.cw_steady rfl rfl rfl
  · intro w' hS
    have q := Free.sx_cell hS (v := .int .i64 ((C.sent : Int) + 1)) (b := bc) (off := 0) c0' (fun j hp hT => hT)
    go_simp <;> exact rfl
  go_frame
  (repeat (apply Free.cw_pure rfl rfl; (intro w'; go_simp <;> exact rfl); go_frame))
  apply Free.cw_steady rfl rfl rfl
  · intro w' hS
    have q := Free.sx_cell hS (v := .int .i64 ((C.sent : Int) + 1)) (b := bc) (off := 0) c0' (fun j hp hT => hT)
    go_simp <;> exact rfl
  go_frame
  (repeat (apply Free.cw_pure rfl rfl; (intro w'; go_simp <;> exact rfl); go_frame))
  refine Free.cw_loud rfl rfl (fun K hK => ?_)
  go_wp2_with fail
  refine (data_c _ _ l (C.sent + 1) (hpf.out.kb (KB.drew _)) (by omega) (by omega)).mono ?_
  rintro e w5 ⟨v5, rfl, hB5, hk5⟩
  generalize hDD : dataB (C.sent + 1) l = DD at hB5
  replace hDD := Lib.hid hDD
  refine hK _ _ rfl (Free.KeepsP.of hk5 (by simp)) ?_
  clear hK K
  obtain ⟨a5, cp5, rfl⟩ := hB5.form
  replace hB5 := Lib.hid hB5
  replace hk5 := Lib.hid hk5
  (repeat (apply Free.cw_pure rfl rfl; (intro w'; go_simp <;> exact rfl); go_frame))
  refine Free.cw_nil ?_
  go_wp2
  go_ret2
  have hk6 : Keeps [] W w5 := (Keeps.refl [] W).drew.trans hk5.out
  exact ⟨_, _, rfl, hCh.out.keeps hk6, (by rw [hDD.out]; exact hB5.out.slB), hkW.out.trans hk6.of_nil, hkbW.out.trans hk6.kb0, hcb3, hsw.out⟩
end Go.Proofs.Ytilmcdieihmiaaa
