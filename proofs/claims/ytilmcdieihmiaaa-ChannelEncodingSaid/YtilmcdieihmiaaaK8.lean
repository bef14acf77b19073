/- Texts that the laws lean on, in the order in which they build. act: a datagram is delivered or lost. (For ChannelOrder, ChannelCompletion.) act: a datagram is doubled. (For ChannelOrder, ChannelCompletion.) act: an end sends again. (For ChannelOrder, ChannelCompletion.) act: any other kind does nothing. (For ChannelOrder, ChannelCompletion.) The acts among a law's arguments, opened. A run of two connected ends. (For ChannelOrder, ChannelCompletion.) The law on the order. -/
import Derived.Test.YtilmcdieihmiaaaK7
set_option linter.unusedVariables false
set_option linter.unusedSimpArgs false
namespace Go.Proofs.Ytilmcdieihmiaaa
open Go.RowKit

variable {w : World} {B bp : Nat} {V : PV} {X : PC} {W : Wy} {t m : Nat}
theorem heap_alloc_new2 (w : World) (o : Obj) {b : Nat} (h : b = w.heap.size) : (w.alloc o).heap[b]? = some o := by subst h; exact heap_alloc_new w o
/-- The way anew. -/
theorem PairM.way_new {w3 : World} {x : Value} {y : List NB} (h : PairM w B bp V X) (hk : Keeps [] w w3) (hO : OE w3 w.heap.size 92 x y) (hB : B ≤ w.heap.size) :
    PairM (w3.setCell ⟨bp, 2, none⟩ x) B bp { V with vw := x } { X with L := y } ∧ Keeps [bp] w (w3.setCell ⟨bp, 2, none⟩ x) ∧ KB w (w3.setCell ⟨bp, 2, none⟩ x) := by
  have hbw := (Array.getElem?_eq_some_iff.1 h.blk).1
  have hb : w3.heap[bp]? = some (.cells (PV.cs V) 55 (0, 0)) := (hk.block bp hbw (by simp)).trans h.blk
  have cw : w3.cell? ⟨bp, 2, none⟩ = some V.vw := by simp [World.cell?, hb, PV.cs]
  have how : ∀ b, x.ownBlock = some b → w.heap.size ≤ b := fun b hb => (hO.ge b hb).1
  have hox : x.ownBlock ≠ some bp := fun e => by have := how bp e; omega
  have hkset : Keeps [bp] w3 (w3.setCell ⟨bp, 2, none⟩ x) := (Keeps.refl _ _).setCell (.inr (by simp)) _
  have hnb : ∀ z, V.vw ≠ .int .u8 z := fun z e => by
    obtain ⟨a, c, e2⟩ := h.way.se.form
    rw [e2] at e; cases e
  have hkbset : KB w3 (w3.setCell ⟨bp, 2, none⟩ x) := KB.setCell w3 _ cw hnb
  have hkk : Keeps [bp] w (w3.setCell ⟨bp, 2, none⟩ x) := hk.of_nil.trans hkset
  have hkb := hk.kb0.trans hkbset
  have hO2 := (hO.keep hkset (fun b hb => by simp at hb; subst hb; exact hox) hkbset).mono hB
  refine ⟨h.turn_way (hkk.mono (by simp)) hkb ?_ hO2 (fun b hb => (hO2.ge b hb).2) (.inr how), hkk, hkb⟩
  simp [World.setCell, Array.getElem?_modify, hb, PV.cs]
def DropPost (w : World) (B bp : Nat) (W : Wy) (n t m : Nat) (e : Ending) (w' : World) : Prop := (W = [] ∧ ActPost w B bp W t m e w') ∨ (0 < W.length ∧ ActPost w B bp (W.eraseIdx (n % W.length)) t m e w')
/-- What a delivery leaves. -/
def ActD (w : World) (B bp : Nat) (X : PC) (W : Wy) (i : Nat) (p : Nat × Pkt) (t m : Nat) (e : Ending) (w' : World) : Prop := ∃ V' C' outs, e = .returned (.bool true) ∧
  St w' B bp V' { X with C := putF X.C p.1 C', G := putF X.G p.1 (X.G p.1 ++ outs), L := wyL (W.eraseIdx i) } (W.eraseIdx i) t (m + 1) ∧ PktDone (X.C p.1) C' outs p.2 ∧ ∃ S, Keeps S w w' ∧ ∀ b ∈ S, B ≤ b
def DelivPost (w : World) (B bp : Nat) (X : PC) (W : Wy) (n t m : Nat) (e : Ending) (w' : World) : Prop := (W = [] ∧ ActPost w B bp W t m e w') ∨ ∃ p, W[n % W.length]? = some p ∧ ActD w B bp X W (n % W.length) p t m e w'
set_option maxRecDepth 100000 in
set_option maxHeartbeats 4000000 in
theorem act_drop (n : Nat) (vd : Value) (l : Bytes) (h : St w B bp V X W t m) (hn : n < 256) (hd : SlB w vd l) (ht : t ≤ 1000) (hW : W.length ≤ 1000000) (hB : B ≤ w.heap.size) :
    Calls Try.prog 22 #[.pointer (some ⟨bp, 0, none⟩), .agg #[.int .u8 3, .int .u8 n, vd]] w (DropPost w B bp W n t m) := by
  have hbx := heap_alloc_new w (.cells #[.int .u8 3, .int .u8 n, vd] 58)
  have hka := (Keeps.refl [] w).alloc (.cells #[.int .u8 3, .int .u8 n, vd] 58)
  have hA := h.keeps hka
  obtain ⟨ad, cd, rfl⟩ := hd.form
  obtain ⟨LL, hLL⟩ : ∃ n, l.length = n := ⟨_, rfl⟩
  obtain ⟨av, cv, hvw⟩ := hA.pm.way.se.form
  have hWL : X.L.length = W.length := by rw [h.way, wyL_len]
  obtain ⟨NW, hNW⟩ : ∃ n, W.length = n := ⟨_, rfl⟩
  rw [hWL, hNW] at hvw
  rw [hLL] at hka hbx hA ⊢
  have cw := hA.pm.cells.2.2.1
  rw [hvw] at cw
  have hbp0 := h.pm.cells.2.2.2.2.2.2.2.2
  obtain ⟨x0, x1, x2⟩ := cell3_of hbx
  have hWb : NW ≤ 1000000 := by omega
  have hwn : IntKind.i64.wrap (n : Int) = (n : Int) := IntWalk.i64_in _ (by omega)
  have hxb : w.heap.size ≠ bp := by omega
  replace hA := Lib.hid hA
  replace h := Lib.hid h
  replace hvw := Lib.hid hvw
  replace hNW := Lib.hid hNW
  replace hLL := Lib.hid hLL
  replace hka := Lib.hid hka
  replace hWL := Lib.hid hWL
  replace hd := Lib.hid hd
  clear hbx
  by_cases hz : NW = 0
  · have hz1 : ¬ (0 : Int) < NW := by omega
    have hWn : W = [] := List.length_eq_zero_iff.1 (by rw [hNW.out, hz])
    have hz2 : ((NW : Int) == 0) = true := by simp; omega
    replace hWn := Lib.hid hWn
    go_enter Try.func22, Try.ntmps22
    go_wp2
    go_ret
    exact .inl ⟨hWn.out, V, X, rfl, hA.out, [], hka.out, by simp⟩
  · have hlt : n % NW < NW := Nat.mod_lt _ (by omega)
    obtain ⟨i, hi⟩ : ∃ i, n % NW = i := ⟨_, rfl⟩
    have htm : (n : Int).tmod (NW : Int) = (i : Int) := by rw [← hi]; exact (Int.ofNat_tmod n NW).symm ▸ rfl
    rw [hi] at hlt
    have hiW : i < W.length := by rw [hNW.out]; exact hlt
    obtain ⟨ag, cg, hvg, hcap1, hcap2, hel⟩ := hA.out.pm.way.se.elems
    rw [hvw.out] at hvg
    obtain ⟨rfl, rfl⟩ : av = ag ∧ cv = cg := by cases hvg; exact ⟨rfl, rfl⟩
    clear hvg
    obtain ⟨g, o, ae, ce, rfl, e0, e1, hEl⟩ := hel i (by rw [hWL.out]; exact hiW)
    have hLi : X.L[i]'(by rw [hWL.out]; exact hiW) = ((W[i].1 : Int), W[i].2.bytes) := by simp [h.out.way, wyL]
    rw [hLi] at e0 e1 hEl
    clear hel hLi
    obtain ⟨p, hp⟩ : ∃ p, W[i] = p := ⟨_, rfl⟩
    rw [hp] at e0 e1 hEl
    simp only at e0 e1 hEl
    obtain ⟨EL, hEL⟩ : ∃ n, p.2.bytes.length = n := ⟨_, rfl⟩
    rw [hEL] at e1 hEl
    have hgb : g ≠ bp := fun e => h.out.pm.sep.ne 0 11 bp (by omega) rfl (by show V.vw.ownBlock = _; rw [hvw.out, e]; rfl)
    have hgx : g ≠ w.heap.size := fun e => by have := h.out.pm.sep.lt 11 g (by show V.vw.ownBlock = _; rw [hvw.out]; rfl); omega
    have hWi : W[i]? = some p := by rw [List.getElem?_eq_getElem hiW, hp]
    replace hp := Lib.hid hp
    replace hEL := Lib.hid hEL
    replace hEl := Lib.hid hEl
    replace hWi := Lib.hid hWi
    replace hcap1 : NW ≤ cv := by rw [hWL.out, hNW.out] at hcap1; exact hcap1
    have hz0 : ¬ NW = 0 := hz
    have hz1 : (0 : Int) < NW := by omega
    have hz3 : ((NW : Int) == 0) = false := by simp; omega
    go_enter Try.func22, Try.ntmps22
    go_wp2
    refine Free.wp_region_chain (fun i => false) (fun i => true) (fun j b => False) (by kernel_rfl) (by kernel_rfl) (by kernel_rfl) ?_
    (repeat (first | (apply Free.cw_pure rfl rfl; (intro w'; go_simp <;> exact rfl); go_frame) | (apply Free.cw_steady rfl rfl rfl; (intro w' hS; have q0 := Free.sx_cell hS cw (fun _ _ hT => hT); have q1 := Free.sx_cell hS x1 (fun _ _ hT => hT); go_simp <;> exact rfl); go_frame) | (refine Free.cw_skip rfl ?_; go_frame)))
    refine Free.cw_nil ?_
    have hil : (i : Int) ≤ cv := by omega
    have hil2 : (i : Int) + 1 ≤ NW := by omega
    have hil3 : IntKind.i64.wrap ((i : Int) + 1) = (i : Int) + 1 := IntWalk.i64_in _ (by omega)
    go_wp2
    generalize hw1 : ((w.alloc (.cells #[.int .u8 3, .int .u8 n, .slice ad LL cd] 58)).alloc (.cells #[.int .i64 (p.1 : Int), .slice ae EL ce] 92)).drew = w1 at *
    have hk1 : Keeps [] (w.alloc (.cells #[.int .u8 3, .int .u8 n, .slice ad LL cd] 58)) w1 := by rw [← hw1]; exact ((Keeps.refl [] _).alloc _).drew
    have hA1 := hA.out.keeps hk1
    have d0 : w1.cell? ⟨w.heap.size + 1, 0, none⟩ = some (.int .i64 (p.1 : Int)) := by rw [← hw1]; exact (cell2_of (heap_alloc_new2 _ _ (by simp))).1
    have d1 : w1.cell? ⟨w.heap.size + 1, 1, none⟩ = some (.slice ae EL ce) := by rw [← hw1]; exact (cell2_of (heap_alloc_new2 _ _ (by simp))).2.1
    have cw1 := hk1.val cw
    have y0 := hk1.val x0
    have hsz1 : w1.heap.size = w.heap.size + 2 := by rw [← hw1]; simp
    replace hk1 := Lib.hid hk1
    replace hA1 := Lib.hid hA1
    replace hw1 := Lib.hid hw1
    have hsz1h := Lib.hid hsz1
    have hbpw : bp < w1.heap.size := by omega
    clear hsz1
    clear e0 e1 cw x0 x1 x2
    refine Free.wp_region_chain (fun i => i == 1 || i == 8 || i == 16 || i == 19) (fun i => true) (fun j' b => (j' = 8 ∧ w1.heap.size ≤ b) ∨ (j' = 16 ∧ w1.heap.size ≤ b) ∨ (j' = 19 ∧ b = bp)) (by kernel_rfl) (by kernel_rfl) (by kernel_rfl) ?_
    (repeat (apply Free.cw_pure rfl rfl; (intro w'; go_simp <;> exact rfl); go_frame))
    refine Free.cw_loud rfl rfl (fun K hK => ?_)
    go_wp2
    refine hK _ _ rfl (Free.KeepsP.alloc _ _ _) ?_
    clear hK K
    (repeat (first | (apply Free.cw_pure rfl rfl; (intro w'; go_simp <;> exact rfl); go_frame) | (apply Free.cw_steady rfl rfl rfl; (intro w' hS; have q0 := Free.sx_cell hS cw1 (fun j' hp hT => hT.elim (fun h => by omega) (fun hT => hT.elim (fun h => by omega) (fun h => by obtain ⟨rfl, _⟩ := h; exact absurd hp (by decide +kernel)))); go_simp <;> exact rfl); go_frame) | (refine Free.cw_skip rfl ?_; go_frame)))
    refine Free.cw_loud rfl rfl (fun K hK => ?_)
    have hWay := hA1.out.pm.way.se
    rw [hvw.out] at hWay
    have hkd : Keeps [] w1 (w1.alloc (.cells #[] 92)).drew := ((Keeps.refl [] w1).alloc _).drew
    have hE := (OE.fresh w1 92).keep ((Keeps.refl [] _).drew) (by simp) (KB.drew _)
    have hXL : X.L.length = NW := by rw [hWL.out, hNW.out]
    refine wp_appE 92 52 Try.underlying52 infoPk _ w1.heap.size _ _ [] (X.L.take i) _ _ rfl rfl rfl hE ((hWay.init i (by omega)).keeps hkd) (by simp; omega) (by simp) ?_
    intro v2 w2 hO2 hG2 hkb2
    have hk12 : Keeps [] w1 w2 := hG2.keeps hkd (fun b hb => (hE.ge b hb).1)
    refine hK _ _ rfl (Free.KeepsP.of hG2.keepsO (fun b hb => .inl ⟨rfl, (hE.ge b (Option.mem_toList.1 hb)).1⟩)) ?_
    clear hK K
    rw [List.nil_append] at hO2
    obtain ⟨a2, cp2, rfl⟩ : ∃ a c, v2 = .slice a i c := by
      obtain ⟨a, c, e⟩ := hO2.se.form
      exact ⟨a, c, by rw [e, List.length_take, Nat.min_eq_left (by omega)]⟩
    clear hG2 hE hkd
    have cw2 := hk12.val cw1
    have hT2 := (hWay.tail (i + 1) (by omega)).keeps hk12
    rw [hXL] at hT2
    replace hO2 := Lib.hid hO2
    replace hT2 := Lib.hid hT2
    replace hk12 := Lib.hid hk12
    replace hXL := Lib.hid hXL
    (repeat (first | (apply Free.cw_pure rfl rfl; (intro w'; go_simp <;> exact rfl); go_frame) | (apply Free.cw_steady rfl rfl rfl; (intro w' hS; have q0 := Free.sx_cell hS cw1 (fun j' hp hT => hT.elim (fun h => by omega) (fun hT => hT.elim (fun h => by omega) (fun h => by obtain ⟨rfl, _⟩ := h; exact absurd hp (by decide +kernel)))); go_simp <;> exact rfl); go_frame) | (refine Free.cw_skip rfl ?_; go_frame)))
    obtain ⟨vt, hvt⟩ : ∃ vt, (if cv = i + 1 then some (⟨g, o, none⟩ : Addr) else some ⟨g, o + (i + 1) * 2, none⟩) = vt := ⟨_, rfl⟩
    rw [hvt] at hT2
    refine Free.cw_pure (c := .slice vt (NW - (i + 1)) (cv - (i + 1))) rfl rfl ?_ ?_
    · intro w'
      have hil4 : (0 : Int) ≤ (i : Int) + 1 := by omega
      rw [← hvt]
      by_cases hc : cv = i + 1
      · go_simp <;> exact rfl
      · go_simp <;> exact rfl
    go_frame
    replace hvt := Lib.hid hvt
    refine Free.cw_loud rfl rfl (fun K hK => ?_)
    refine wp_appE 92 52 Try.underlying52 infoPk _ w1.heap.size _ _ (X.L.take i) (X.L.drop (i + 1)) _ _ rfl rfl rfl hO2.out hT2.out (by simp [hXL.out]; omega) hk12.out.size ?_
    intro v3 w3 hO3 hG3 hkb3
    refine hK _ _ rfl (Free.KeepsP.of hG3.keepsO (fun b hb => .inr (.inl ⟨rfl, (hO2.out.ge b (Option.mem_toList.1 hb)).1⟩))) ?_
    clear hK K
    have hk13 : Keeps [] w1 w3 := hG3.keeps hk12.out (fun b hb => (hO2.out.ge b hb).1)
    have hWe : X.L.take i ++ X.L.drop (i + 1) = wyL (W.eraseIdx i) := by rw [← List.eraseIdx_eq_take_drop_succ, h.out.way, wyL_erase]
    rw [hWe] at hO3
    obtain ⟨hP4, hk4, hkb4⟩ := hA1.out.pm.way_new hk13 hO3 (by have := hsz1h.out; omega)
    obtain ⟨N3, hN3⟩ : ∃ n, (wyL (W.eraseIdx i)).length = n := ⟨_, rfl⟩
    obtain ⟨a3, cp3, rfl⟩ : ∃ a c, v3 = .slice a N3 c := by rw [← hN3]; exact hO3.se.form
    have c3 := hk13.val cw1
    have fz3 : w3.frozen? ⟨bp, 2, none⟩ = false := (hk13.frozen0 bp 2 hbpw).trans (hA1.out.pm.cells.2.2.2.2.2.2.2.1 2)
    have hsz3 := hk13.size
    replace hP4 := Lib.hid hP4
    replace hk4 := Lib.hid hk4
    replace hkb4 := Lib.hid hkb4
    replace hN3 := Lib.hid hN3
    clear hG3 hO3 hkb3 cw2
    (repeat (apply Free.cw_pure rfl rfl; (intro w'; go_simp <;> exact rfl); go_frame))
    refine Free.cw_loud rfl rfl (fun K hK => ?_)
    go_wp2
    refine hK _ _ rfl (Free.KeepsP.setCell _ (.inr (.inr ⟨trivial, rfl⟩)) _) ?_
    clear hK K
    refine Free.cw_nil ?_
    have nxb : w.heap.size ∉ [bp] := by simp; omega
    have nxb2 : w.heap.size + 1 ∉ [bp] := by simp; omega
    have y4 := (hk4.out.cell w.heap.size 0 (by have := hsz1h.out; omega) nxb).trans y0
    have d04 := (hk4.out.cell (w.heap.size + 1) 0 (by have := hsz1h.out; omega) nxb2).trans d0
    have d14 := (hk4.out.cell (w.heap.size + 1) 1 (by have := hsz1h.out; omega) nxb2).trans d1
    have hW3 : ∀ q ∈ W.eraseIdx i, q ∈ W ∨ (q.1 < 2 ∧ q.2.ok (X.S (1 - q.1)) (X.C (1 - q.1))) := fun q hq => .inl (List.mem_of_mem_eraseIdx hq)
    have hS4 := hA1.out.wayP (V' := { V with vw := .slice a3 N3 cp3 }) rfl rfl rfl hW3 hP4.out
    replace hS4 := Lib.hid hS4
    clear hP4 y0 d0 d1 c3 fz3 cw1 hW3
    generalize hw4 : w3.setCell ⟨bp, 2, none⟩ (.slice a3 N3 cp3) = w4 at *
    replace hw4 := Lib.hid hw4
    have hiE : n % W.length = i := by rw [hNW.out]; exact hi
    replace hiE := Lib.hid hiE
    go_wp2
    go_ret
    refine .inr ⟨by have := hNW.out; omega, ?_⟩
    rw [hiE.out]
    exact ⟨_, _, rfl, hS4.out, [bp], hka.out.of_nil.trans (hk1.out.of_nil.trans hk4.out), fun b hb => by simp at hb; subst hb; exact h.out.geO 0 _ rfl⟩
set_option maxRecDepth 100000 in
set_option maxHeartbeats 4000000 in
theorem act_deliver (n : Nat) (vd : Value) (l : Bytes) (h : St w B bp V X W t m) (hn : n < 256) (hd : SlB w vd l) (ht : t ≤ 1000) (hW : W.length ≤ 1000000) (hB : B ≤ w.heap.size) (hm : m ≤ 1000000000) :
    Calls Try.prog 22 #[.pointer (some ⟨bp, 0, none⟩), .agg #[.int .u8 2, .int .u8 n, vd]] w (DelivPost w B bp X W n t m) := by
  have hbx := heap_alloc_new w (.cells #[.int .u8 2, .int .u8 n, vd] 58)
  have hka := (Keeps.refl [] w).alloc (.cells #[.int .u8 2, .int .u8 n, vd] 58)
  have hA := h.keeps hka
  obtain ⟨ad, cd, rfl⟩ := hd.form
  obtain ⟨LL, hLL⟩ : ∃ n, l.length = n := ⟨_, rfl⟩
  obtain ⟨av, cv, hvw⟩ := hA.pm.way.se.form
  have hWL : X.L.length = W.length := by rw [h.way, wyL_len]
  obtain ⟨NW, hNW⟩ : ∃ n, W.length = n := ⟨_, rfl⟩
  rw [hWL, hNW] at hvw
  rw [hLL] at hka hbx hA ⊢
  have cw := hA.pm.cells.2.2.1
  rw [hvw] at cw
  have hbp0 := h.pm.cells.2.2.2.2.2.2.2.2
  obtain ⟨x0, x1, x2⟩ := cell3_of hbx
  have hWb : NW ≤ 1000000 := by omega
  have hwn : IntKind.i64.wrap (n : Int) = (n : Int) := IntWalk.i64_in _ (by omega)
  have hxb : w.heap.size ≠ bp := by omega
  replace hA := Lib.hid hA
  replace h := Lib.hid h
  replace hvw := Lib.hid hvw
  replace hNW := Lib.hid hNW
  replace hLL := Lib.hid hLL
  replace hka := Lib.hid hka
  replace hWL := Lib.hid hWL
  replace hd := Lib.hid hd
  clear hbx
  by_cases hz : NW = 0
  · have hz1 : ¬ (0 : Int) < NW := by omega
    have hWn : W = [] := List.length_eq_zero_iff.1 (by rw [hNW.out, hz])
    have hz2 : ((NW : Int) == 0) = true := by simp; omega
    replace hWn := Lib.hid hWn
    go_enter Try.func22, Try.ntmps22
    go_wp2
    go_ret
    exact .inl ⟨hWn.out, V, X, rfl, hA.out, [], hka.out, by simp⟩
  · have hlt : n % NW < NW := Nat.mod_lt _ (by omega)
    obtain ⟨i, hi⟩ : ∃ i, n % NW = i := ⟨_, rfl⟩
    have htm : (n : Int).tmod (NW : Int) = (i : Int) := by rw [← hi]; exact (Int.ofNat_tmod n NW).symm ▸ rfl
    rw [hi] at hlt
    have hiW : i < W.length := by rw [hNW.out]; exact hlt
    obtain ⟨ag, cg, hvg, hcap1, hcap2, hel⟩ := hA.out.pm.way.se.elems
    rw [hvw.out] at hvg
    obtain ⟨rfl, rfl⟩ : av = ag ∧ cv = cg := by cases hvg; exact ⟨rfl, rfl⟩
    clear hvg
    obtain ⟨g, o, ae, ce, rfl, e0, e1, hEl⟩ := hel i (by rw [hWL.out]; exact hiW)
    have hLi : X.L[i]'(by rw [hWL.out]; exact hiW) = ((W[i].1 : Int), W[i].2.bytes) := by simp [h.out.way, wyL]
    rw [hLi] at e0 e1 hEl
    clear hel hLi
    obtain ⟨p, hp⟩ : ∃ p, W[i] = p := ⟨_, rfl⟩
    rw [hp] at e0 e1 hEl
    simp only at e0 e1 hEl
    obtain ⟨EL, hEL⟩ : ∃ n, p.2.bytes.length = n := ⟨_, rfl⟩
    rw [hEL] at e1 hEl
    have hgb : g ≠ bp := fun e => h.out.pm.sep.ne 0 11 bp (by omega) rfl (by show V.vw.ownBlock = _; rw [hvw.out, e]; rfl)
    have hgx : g ≠ w.heap.size := fun e => by have := h.out.pm.sep.lt 11 g (by show V.vw.ownBlock = _; rw [hvw.out]; rfl); omega
    have hWi : W[i]? = some p := by rw [List.getElem?_eq_getElem hiW, hp]
    replace hp := Lib.hid hp
    replace hEL := Lib.hid hEL
    replace hEl := Lib.hid hEl
    replace hWi := Lib.hid hWi
    replace hcap1 : NW ≤ cv := by rw [hWL.out, hNW.out] at hcap1; exact hcap1
    have hz0 : ¬ NW = 0 := hz
    have hz1 : (0 : Int) < NW := by omega
    have hz3 : ((NW : Int) == 0) = false := by simp; omega
    go_enter Try.func22, Try.ntmps22
    go_wp2
    refine Free.wp_region_chain (fun i => false) (fun i => true) (fun j b => False) (by kernel_rfl) (by kernel_rfl) (by kernel_rfl) ?_
    (repeat (first | (apply Free.cw_pure rfl rfl; (intro w'; go_simp <;> exact rfl); go_frame) | (apply Free.cw_steady rfl rfl rfl; (intro w' hS; have q0 := Free.sx_cell hS cw (fun _ _ hT => hT); have q1 := Free.sx_cell hS x1 (fun _ _ hT => hT); go_simp <;> exact rfl); go_frame) | (refine Free.cw_skip rfl ?_; go_frame)))
    refine Free.cw_nil ?_
    have hil : (i : Int) ≤ cv := by omega
    have hil2 : (i : Int) + 1 ≤ NW := by omega
    have hil3 : IntKind.i64.wrap ((i : Int) + 1) = (i : Int) + 1 := IntWalk.i64_in _ (by omega)
    go_wp2
    generalize hw1 : ((w.alloc (.cells #[.int .u8 2, .int .u8 n, .slice ad LL cd] 58)).alloc (.cells #[.int .i64 (p.1 : Int), .slice ae EL ce] 92)).drew = w1 at *
    have hk1 : Keeps [] (w.alloc (.cells #[.int .u8 2, .int .u8 n, .slice ad LL cd] 58)) w1 := by rw [← hw1]; exact ((Keeps.refl [] _).alloc _).drew
    have hA1 := hA.out.keeps hk1
    have d0 : w1.cell? ⟨w.heap.size + 1, 0, none⟩ = some (.int .i64 (p.1 : Int)) := by rw [← hw1]; exact (cell2_of (heap_alloc_new2 _ _ (by simp))).1
    have d1 : w1.cell? ⟨w.heap.size + 1, 1, none⟩ = some (.slice ae EL ce) := by rw [← hw1]; exact (cell2_of (heap_alloc_new2 _ _ (by simp))).2.1
    have cw1 := hk1.val cw
    have y0 := hk1.val x0
    have hsz1 : w1.heap.size = w.heap.size + 2 := by rw [← hw1]; simp
    replace hk1 := Lib.hid hk1
    replace hA1 := Lib.hid hA1
    replace hw1 := Lib.hid hw1
    have hsz1h := Lib.hid hsz1
    have hbpw : bp < w1.heap.size := by omega
    clear hsz1
    clear e0 e1 cw x0 x1 x2
    refine Free.wp_region_chain (fun i => i == 1 || i == 8 || i == 16 || i == 19) (fun i => true) (fun j' b => (j' = 8 ∧ w1.heap.size ≤ b) ∨ (j' = 16 ∧ w1.heap.size ≤ b) ∨ (j' = 19 ∧ b = bp)) (by kernel_rfl) (by kernel_rfl) (by kernel_rfl) ?_
    (repeat (apply Free.cw_pure rfl rfl; (intro w'; go_simp <;> exact rfl); go_frame))
    refine Free.cw_loud rfl rfl (fun K hK => ?_)
    go_wp2
    refine hK _ _ rfl (Free.KeepsP.alloc _ _ _) ?_
    clear hK K
    (repeat (first | (apply Free.cw_pure rfl rfl; (intro w'; go_simp <;> exact rfl); go_frame) | (apply Free.cw_steady rfl rfl rfl; (intro w' hS; have q0 := Free.sx_cell hS cw1 (fun j' hp hT => hT.elim (fun h => by omega) (fun hT => hT.elim (fun h => by omega) (fun h => by obtain ⟨rfl, _⟩ := h; exact absurd hp (by decide +kernel)))); go_simp <;> exact rfl); go_frame) | (refine Free.cw_skip rfl ?_; go_frame)))
    refine Free.cw_loud rfl rfl (fun K hK => ?_)
    have hWay := hA1.out.pm.way.se
    rw [hvw.out] at hWay
    have hkd : Keeps [] w1 (w1.alloc (.cells #[] 92)).drew := ((Keeps.refl [] w1).alloc _).drew
    have hE := (OE.fresh w1 92).keep ((Keeps.refl [] _).drew) (by simp) (KB.drew _)
    have hXL : X.L.length = NW := by rw [hWL.out, hNW.out]
    refine wp_appE 92 52 Try.underlying52 infoPk _ w1.heap.size _ _ [] (X.L.take i) _ _ rfl rfl rfl hE ((hWay.init i (by omega)).keeps hkd) (by simp; omega) (by simp) ?_
    intro v2 w2 hO2 hG2 hkb2
    have hk12 : Keeps [] w1 w2 := hG2.keeps hkd (fun b hb => (hE.ge b hb).1)
    refine hK _ _ rfl (Free.KeepsP.of hG2.keepsO (fun b hb => .inl ⟨rfl, (hE.ge b (Option.mem_toList.1 hb)).1⟩)) ?_
    clear hK K
    rw [List.nil_append] at hO2
    obtain ⟨a2, cp2, rfl⟩ : ∃ a c, v2 = .slice a i c := by
      obtain ⟨a, c, e⟩ := hO2.se.form
      exact ⟨a, c, by rw [e, List.length_take, Nat.min_eq_left (by omega)]⟩
    clear hG2 hE hkd
    have cw2 := hk12.val cw1
    have hT2 := (hWay.tail (i + 1) (by omega)).keeps hk12
    rw [hXL] at hT2
    replace hO2 := Lib.hid hO2
    replace hT2 := Lib.hid hT2
    replace hk12 := Lib.hid hk12
    replace hXL := Lib.hid hXL
    (repeat (first | (apply Free.cw_pure rfl rfl; (intro w'; go_simp <;> exact rfl); go_frame) | (apply Free.cw_steady rfl rfl rfl; (intro w' hS; have q0 := Free.sx_cell hS cw1 (fun j' hp hT => hT.elim (fun h => by omega) (fun hT => hT.elim (fun h => by omega) (fun h => by obtain ⟨rfl, _⟩ := h; exact absurd hp (by decide +kernel)))); go_simp <;> exact rfl); go_frame) | (refine Free.cw_skip rfl ?_; go_frame)))
    obtain ⟨vt, hvt⟩ : ∃ vt, (if cv = i + 1 then some (⟨g, o, none⟩ : Addr) else some ⟨g, o + (i + 1) * 2, none⟩) = vt := ⟨_, rfl⟩
    rw [hvt] at hT2
    refine Free.cw_pure (c := .slice vt (NW - (i + 1)) (cv - (i + 1))) rfl rfl ?_ ?_
    · intro w'
      have hil4 : (0 : Int) ≤ (i : Int) + 1 := by omega
      rw [← hvt]
      by_cases hc : cv = i + 1
      · go_simp <;> exact rfl
      · go_simp <;> exact rfl
    go_frame
    replace hvt := Lib.hid hvt
    refine Free.cw_loud rfl rfl (fun K hK => ?_)
    refine wp_appE 92 52 Try.underlying52 infoPk _ w1.heap.size _ _ (X.L.take i) (X.L.drop (i + 1)) _ _ rfl rfl rfl hO2.out hT2.out (by simp [hXL.out]; omega) hk12.out.size ?_
    intro v3 w3 hO3 hG3 hkb3
    refine hK _ _ rfl (Free.KeepsP.of hG3.keepsO (fun b hb => .inr (.inl ⟨rfl, (hO2.out.ge b (Option.mem_toList.1 hb)).1⟩))) ?_
    clear hK K
    have hk13 : Keeps [] w1 w3 := hG3.keeps hk12.out (fun b hb => (hO2.out.ge b hb).1)
    have hWe : X.L.take i ++ X.L.drop (i + 1) = wyL (W.eraseIdx i) := by rw [← List.eraseIdx_eq_take_drop_succ, h.out.way, wyL_erase]
    rw [hWe] at hO3
    obtain ⟨hP4, hk4, hkb4⟩ := hA1.out.pm.way_new hk13 hO3 (by have := hsz1h.out; omega)
    obtain ⟨N3, hN3⟩ : ∃ n, (wyL (W.eraseIdx i)).length = n := ⟨_, rfl⟩
    obtain ⟨a3, cp3, rfl⟩ : ∃ a c, v3 = .slice a N3 c := by rw [← hN3]; exact hO3.se.form
    have c3 := hk13.val cw1
    have fz3 : w3.frozen? ⟨bp, 2, none⟩ = false := (hk13.frozen0 bp 2 hbpw).trans (hA1.out.pm.cells.2.2.2.2.2.2.2.1 2)
    have hsz3 := hk13.size
    replace hP4 := Lib.hid hP4
    replace hk4 := Lib.hid hk4
    replace hkb4 := Lib.hid hkb4
    replace hN3 := Lib.hid hN3
    clear hG3 hO3 hkb3 cw2
    (repeat (apply Free.cw_pure rfl rfl; (intro w'; go_simp <;> exact rfl); go_frame))
    refine Free.cw_loud rfl rfl (fun K hK => ?_)
    go_wp2
    refine hK _ _ rfl (Free.KeepsP.setCell _ (.inr (.inr ⟨trivial, rfl⟩)) _) ?_
    clear hK K
    refine Free.cw_nil ?_
    have nxb : w.heap.size ∉ [bp] := by simp; omega
    have nxb2 : w.heap.size + 1 ∉ [bp] := by simp; omega
    have y4 := (hk4.out.cell w.heap.size 0 (by have := hsz1h.out; omega) nxb).trans y0
    have d04 := (hk4.out.cell (w.heap.size + 1) 0 (by have := hsz1h.out; omega) nxb2).trans d0
    have d14 := (hk4.out.cell (w.heap.size + 1) 1 (by have := hsz1h.out; omega) nxb2).trans d1
    have hW3 : ∀ q ∈ W.eraseIdx i, q ∈ W ∨ (q.1 < 2 ∧ q.2.ok (X.S (1 - q.1)) (X.C (1 - q.1))) := fun q hq => .inl (List.mem_of_mem_eraseIdx hq)
    have hS4 := hA1.out.wayP (V' := { V with vw := .slice a3 N3 cp3 }) rfl rfl rfl hW3 hP4.out
    replace hS4 := Lib.hid hS4
    clear hP4 y0 d0 d1 c3 fz3 cw1 hW3
    generalize hw4 : w3.setCell ⟨bp, 2, none⟩ (.slice a3 N3 cp3) = w4 at *
    replace hw4 := Lib.hid hw4
    have hiE : n % W.length = i := by rw [hNW.out]; exact hi
    replace hiE := Lib.hid hiE
    obtain ⟨hp1, hpo⟩ := h.out.ok p (List.mem_of_getElem? hWi.out)
    have hdd : SlB w4 (.slice ae EL ce) p.2.bytes := ((hEl.out.keeps hk1.out).kb hkb4.out)
    have hsz4 := hk4.out.size
    have hp1I : (p.1 : Int) < 2 := by omega
    replace hdd := Lib.hid hdd
    replace hpo := Lib.hid hpo
    go_wp2_with fail
    have hS := hS4.out
    have hq : p.1 = 1 - (1 - p.1) := by omega
    have hd1 := hS.dir (1 - p.1) (by omega)
    rw [← hq] at hd1
    have hl0 := hS.len (1 - p.1) (by omega)
    have hl1 := hS.len p.1 hp1
    have hn1 := hS.num p.1 hp1
    refine (deliver_c p.1 p.2 (.slice ae EL ce) hS.pm hp1 (by have := hsz1h.out; omega) hS.cb hdd.out hd1 (hS.dir p.1 hp1) hpo.out (by omega) (by omega) (fun l hl => by have := hS.pay (1 - p.1) (by omega) l hl; omega) (by omega)).mono ?_
    rintro e w5 ⟨V', C', outs, rfl, hP5, hdone, hb5, hm5, hn5, S, hk5, hS5⟩
    have hG5 : ∀ b ∈ S, B ≤ b := fun b hb => by obtain ⟨j, hj⟩ := hS5 b hb; exact hS.geO j b hj
    have hfin := h.out.deliverP (i := i) (k := p.1) (p := p.2) hWi.out hn5 hb5 hm5 hdone hP5
    replace hfin := Lib.hid hfin
    replace hk5 := Lib.hid hk5
    clear hP5 hS hd1 hl0 hl1 hn1 hS5 hq
    replace hdone := Lib.hid hdone
    replace hG5 := Lib.hid hG5
    go_wp2
    go_ret
    refine .inr ⟨p, by rw [hiE.out]; exact hWi.out, V', C', outs, rfl, by rw [hiE.out]; exact hfin.out, hdone.out, bp :: S, ?_, ?_⟩
    · exact hka.out.of_nil.trans (hk1.out.of_nil.trans ((hk4.out.mono (by simp)).trans (hk5.out.mono (fun b hb => List.mem_cons_of_mem _ hb))))
    · intro b hb
      rcases List.mem_cons.1 hb with rfl | hb
      · exact h.out.geO 0 _ rfl
      · exact hG5.out b hb
end Go.Proofs.Ytilmcdieihmiaaa

namespace Go.Proofs.Ytilmcdieihmiaaa
open Go.RowKit

variable {w : World} {B bp : Nat} {V : PV} {X : PC} {W : Wy} {t m : Nat}
set_option maxRecDepth 100000 in
set_option maxHeartbeats 4000000 in
theorem act_double (n : Nat) (vd : Value) (l : Bytes) (h : St w B bp V X W t m) (hn : n < 256) (hd : SlB w vd l) (ht : t ≤ 1000) (hW : W.length ≤ 1000000) (hB : B ≤ w.heap.size) :
    Calls Try.prog 22 #[.pointer (some ⟨bp, 0, none⟩), .agg #[.int .u8 4, .int .u8 n, vd]] w (fun e w' => ∃ W', W'.length ≤ W.length + 1 ∧ ActPost w B bp W' t m e w') := by
  have hbx := heap_alloc_new w (.cells #[.int .u8 4, .int .u8 n, vd] 58)
  have hka := (Keeps.refl [] w).alloc (.cells #[.int .u8 4, .int .u8 n, vd] 58)
  have hA := h.keeps hka
  obtain ⟨ad, cd, rfl⟩ := hd.form
  obtain ⟨LL, hLL⟩ : ∃ n, l.length = n := ⟨_, rfl⟩
  obtain ⟨av, cv, hvw⟩ := hA.pm.way.se.form
  have hWL : X.L.length = W.length := by rw [h.way, wyL_len]
  obtain ⟨NW, hNW⟩ : ∃ n, W.length = n := ⟨_, rfl⟩
  rw [hWL, hNW] at hvw
  rw [hLL] at hka hbx hA ⊢
  have cw := hA.pm.cells.2.2.1
  rw [hvw] at cw
  have hbp0 := h.pm.cells.2.2.2.2.2.2.2.2
  obtain ⟨x0, x1, x2⟩ := cell3_of hbx
  have hWb : NW ≤ 1000000 := by omega
  have hwn : IntKind.i64.wrap (n : Int) = (n : Int) := IntWalk.i64_in _ (by omega)
  have hxb : w.heap.size ≠ bp := by omega
  replace hA := Lib.hid hA
  replace h := Lib.hid h
  replace hvw := Lib.hid hvw
  replace hNW := Lib.hid hNW
  replace hLL := Lib.hid hLL
  replace hka := Lib.hid hka
  replace hWL := Lib.hid hWL
  replace hd := Lib.hid hd
  clear hbx
  by_cases hz : NW = 0
  · have hz1 : ¬ (0 : Int) < NW := by omega
    go_enter Try.func22, Try.ntmps22
    go_wp2
    go_ret
    exact ⟨W, by omega, V, X, rfl, hA.out, [], hka.out, by simp⟩
  · have hlt : n % NW < NW := Nat.mod_lt _ (by omega)
    obtain ⟨i, hi⟩ : ∃ i, n % NW = i := ⟨_, rfl⟩
    have htm : (n : Int).tmod (NW : Int) = (i : Int) := by rw [← hi]; exact (Int.ofNat_tmod n NW).symm ▸ rfl
    rw [hi] at hlt
    have hiW : i < W.length := by rw [hNW.out]; exact hlt
    obtain ⟨ag, cg, hvg, hcap1, hcap2, hel⟩ := hA.out.pm.way.se.elems
    rw [hvw.out] at hvg
    obtain ⟨rfl, rfl⟩ : av = ag ∧ cv = cg := by cases hvg; exact ⟨rfl, rfl⟩
    clear hvg
    obtain ⟨g, o, ae, ce, rfl, e0, e1, hEl⟩ := hel i (by rw [hWL.out]; exact hiW)
    have hLi : X.L[i]'(by rw [hWL.out]; exact hiW) = ((W[i].1 : Int), W[i].2.bytes) := by simp [h.out.way, wyL]
    rw [hLi] at e0 e1 hEl
    clear hel hLi
    obtain ⟨p, hp⟩ : ∃ p, W[i] = p := ⟨_, rfl⟩
    rw [hp] at e0 e1 hEl
    simp only at e0 e1 hEl
    obtain ⟨EL, hEL⟩ : ∃ n, p.2.bytes.length = n := ⟨_, rfl⟩
    rw [hEL] at e1 hEl
    have hgb : g ≠ bp := fun e => h.out.pm.sep.ne 0 11 bp (by omega) rfl (by show V.vw.ownBlock = _; rw [hvw.out, e]; rfl)
    have hgx : g ≠ w.heap.size := fun e => by have := h.out.pm.sep.lt 11 g (by show V.vw.ownBlock = _; rw [hvw.out]; rfl); omega
    have hWi : W[i]? = some p := by rw [List.getElem?_eq_getElem hiW, hp]
    replace hp := Lib.hid hp
    replace hEL := Lib.hid hEL
    replace hEl := Lib.hid hEl
    replace hWi := Lib.hid hWi
    replace hcap1 : NW ≤ cv := by rw [hWL.out, hNW.out] at hcap1; exact hcap1
    have hz0 : ¬ NW = 0 := hz
    have hz1 : (0 : Int) < NW := by omega
    go_enter Try.func22, Try.ntmps22
    go_wp2
    refine Free.wp_region_chain (fun i => false) (fun i => true) (fun j b => False) (by kernel_rfl) (by kernel_rfl) (by kernel_rfl) ?_
    (repeat (first | (apply Free.cw_pure rfl rfl; (intro w'; go_simp <;> exact rfl); go_frame) | (apply Free.cw_steady rfl rfl rfl; (intro w' hS; have q0 := Free.sx_cell hS cw (fun _ _ hT => hT); have q1 := Free.sx_cell hS x1 (fun _ _ hT => hT); go_simp <;> exact rfl); go_frame) | (refine Free.cw_skip rfl ?_; go_frame)))
    refine Free.cw_nil ?_
    go_wp2
    refine Free.wp_region_chain (fun i => i == 12 || i == 13 || i == 16) (fun i => true) (fun j' b => (j' = 13 ∧ g = b) ∨ (j' = 16 ∧ b = bp)) (by kernel_rfl) (by kernel_rfl) (by kernel_rfl) ?_
    (repeat (first | (apply Free.cw_pure rfl rfl; (intro w'; go_simp <;> exact rfl); go_frame) | (apply Free.cw_steady rfl rfl rfl; (intro w' hS; have q0 := Free.sx_cell hS cw (fun j' hp hT => hT.elim (fun h => hgb h.2) (fun h => by obtain ⟨rfl, _⟩ := h; exact absurd hp (by decide +kernel))); have q1 := Free.sx_cell hS e0 (fun j' hp hT => hT.elim (fun h => by obtain ⟨rfl, _⟩ := h; exact absurd hp (by decide +kernel)) (fun h => hgb h.2)); have q2 := Free.sx_cell hS e1 (fun j' hp hT => hT.elim (fun h => by obtain ⟨rfl, _⟩ := h; exact absurd hp (by decide +kernel)) (fun h => hgb h.2)); go_simp <;> exact rfl); go_frame) | (refine Free.cw_skip rfl ?_; go_frame)))
    refine Free.cw_loud rfl rfl (fun K hK => ?_)
    go_wp2
    refine hK _ _ rfl (Free.KeepsP.alloc _ _ _) ?_
    clear hK K
    refine Free.cw_loud rfl rfl (fun K hK => ?_)
    generalize hw1 : (w.alloc (.cells #[.int .u8 4, .int .u8 n, .slice ad LL cd] 58)) = w1 at *
    have hsz1 : w1.heap.size = w.heap.size + 1 := by rw [← hw1]; simp
    have hSE := (SE.one w1 92 (p.1 : Int) (.slice ae EL ce) p.2.bytes hEl.out).keeps ((Keeps.refl [] _).drew.drew)
    rw [hsz1] at hSE
    have hkd : Keeps [] w1 (w1.alloc (.cells #[.int .i64 (p.1 : Int), .slice ae EL ce] 92)).drew.drew := ((Keeps.refl [] w1).alloc _).drew.drew
    have hOW := hA.out.pm.way.keep hkd (by simp) hkd.kb0
    rw [hvw.out] at hOW
    refine wp_appE 92 52 Try.underlying52 infoPk _ B (.slice (some ⟨g, o, none⟩) NW cv) _ X.L [((p.1 : Int), p.2.bytes)] _ _ rfl rfl rfl hOW
      hSE (by rw [hWL.out, hNW.out]; simp; omega) (by simp; omega) ?_
    intro v2 w2 hO2 hG2 hkb2
    refine hK _ _ rfl (Free.KeepsP.grown hG2.grown (fun b e => .inl ⟨rfl, by simpa [Value.ownBlock] using e⟩)) ?_
    clear hK K
    have hG2' : Grw (w1.alloc (.cells #[.int .i64 (p.1 : Int), .slice ae EL ce] 92)).drew.drew w2 V.vw v2 := by rw [hvw.out]; exact hG2
    have hfin := hA.out.pm.push_fin hkd hG2' hkb2 hO2
    have hb2 := hA.out.pm.way_cell hkd hG2'
    have fz2 : w2.frozen? ⟨bp, 2, none⟩ = false := by simp [World.frozen?, hb2]
    have c2 : w2.cell? ⟨bp, 2, none⟩ = some (.slice (some ⟨g, o, none⟩) NW cv) := by simp [World.cell?, hb2, PV.cs, hvw.out]
    obtain ⟨a2, cp2, rfl⟩ : ∃ a c, v2 = .slice a (NW + 1) c := by
      have := hO2.se.form
      simpa [hWL.out, hNW.out] using this
    replace hfin := Lib.hid hfin
    clear hb2 hkd hO2 hG2 hG2' hkb2 hOW e0 e1 cw
    (repeat (apply Free.cw_pure rfl rfl; (intro w'; go_simp <;> exact rfl); go_frame))
    refine Free.cw_loud rfl rfl (fun K hK => ?_)
    go_wp2
    refine hK _ _ rfl (Free.KeepsP.setCell _ (.inr ⟨trivial, rfl⟩) _) ?_
    clear hK K
    refine Free.cw_nil ?_
    go_wp2
    go_ret
    obtain ⟨hP, hk2, _, _⟩ := hfin.out
    have e2 : X.L ++ [((p.1 : Int), p.2.bytes)] = wyL (W ++ [p]) := by rw [h.out.way]; simp [wyL]
    rw [e2] at hP
    refine ⟨W ++ [p], by simp, _, _, rfl, hA.out.wayP (V' := { V with vw := .slice a2 (NW + 1) cp2 }) rfl rfl rfl (fun q hq => .inl ?_) hP, bp :: V.vw.ownBlock.toList, hka.out.of_nil.trans hk2, fun b hb => ?_⟩
    · rcases List.mem_append.1 hq with hq | hq
      · exact hq
      · simp at hq; rw [hq]; exact List.mem_of_getElem? hWi.out
    · simp at hb
      rcases hb with rfl | hb
      · exact h.out.geO 0 _ rfl
      · exact h.out.geO 11 _ hb
end Go.Proofs.Ytilmcdieihmiaaa

namespace Go.Proofs.Ytilmcdieihmiaaa
open Go.RowKit

variable {w : World} {B bp : Nat} {V : PV} {X : PC} {W : Wy} {t m : Nat}
set_option maxRecDepth 100000 in
set_option maxHeartbeats 4000000 in
theorem act_again (k n : Nat) (kv : Int) (vd : Value) (l : Bytes) (h : St w B bp V X W t m) (hn : n < 256) (hd : SlB w vd l) (ht : t ≤ 1000) (hW : W.length ≤ 1000000) (hB : B ≤ w.heap.size) (hk : k < 2) (hkv : kv = 5 + (k : Int)) :
    Calls Try.prog 22 #[.pointer (some ⟨bp, 0, none⟩), .agg #[.int .u8 kv, .int .u8 n, vd]] w (ActPost w B bp (W ++ agW X k) t m) := by
  have hbx := heap_alloc_new w (.cells #[.int .u8 kv, .int .u8 n, vd] 58)
  have hka := (Keeps.refl [] w).alloc (.cells #[.int .u8 kv, .int .u8 n, vd] 58)
  have hA := h.keeps hka
  obtain ⟨ad, cd, rfl⟩ := hd.form
  obtain ⟨LL, hLL⟩ : ∃ n, l.length = n := ⟨_, rfl⟩
  obtain ⟨av, cv, hvw⟩ := hA.pm.way.se.form
  have hWL : X.L.length = W.length := by rw [h.way, wyL_len]
  obtain ⟨NW, hNW⟩ : ∃ n, W.length = n := ⟨_, rfl⟩
  rw [hWL, hNW] at hvw
  rw [hLL] at hka hbx hA ⊢
  have cw := hA.pm.cells.2.2.1
  rw [hvw] at cw
  have hbp0 := h.pm.cells.2.2.2.2.2.2.2.2
  obtain ⟨x0, x1, x2⟩ := cell3_of hbx
  have hWb : NW ≤ 1000000 := by omega
  have hwn : IntKind.i64.wrap (n : Int) = (n : Int) := IntWalk.i64_in _ (by omega)
  have hxb : w.heap.size ≠ bp := by omega
  replace hA := Lib.hid hA
  replace h := Lib.hid h
  replace hvw := Lib.hid hvw
  replace hNW := Lib.hid hNW
  replace hLL := Lib.hid hLL
  replace hka := Lib.hid hka
  replace hWL := Lib.hid hWL
  replace hd := Lib.hid hd
  clear hbx
  obtain ⟨bs, bk, bs2, ba, bl⟩ := h.out.bounds hk
  have fin : ∀ w1, Keeps [] (w.alloc (.cells #[.int .u8 kv, .int .u8 n, .slice ad LL cd] 58)) w1 → Calls Try.prog 21 #[.pointer (some ⟨bp, 0, none⟩), .int .i64 k] w1 (fun e w' => e = .returned (.tuple #[]) ∧ ∃ V', St w' B bp V' { X with L := wyL (W ++ agW X k) } (W ++ agW X k) t m ∧ ∃ S, Keeps S w w' ∧ ∀ b ∈ S, B ≤ b) := fun w1 hk1 => by
    have hA1 := hA.out.keeps hk1
    refine (again_c k hA1.pm hk (by have := hk1.size; simp at this; omega) (by omega) (fun l' hl' => by have := bl l' hl'; omega) (by omega) (by rw [hWL.out, hNW.out]; omega)).mono ?_
    rintro e w2 ⟨x, rfl, hP, hk2, how⟩
    have e2 : X.L ++ toK k (dgF (X.C k).acked (X.C k).kept ++ [ackB (X.C k).received]) = wyL (W ++ agW X k) := by rw [← agW_L, h.out.way]; simp [wyL]
    rw [e2] at hP
    refine ⟨rfl, { V with vw := x }, hA1.wayP rfl rfl rfl (fun q hq => ?_) hP, bp :: V.vw.ownBlock.toList, hka.out.of_nil.trans (hk1.of_nil.trans hk2), fun b hb => ?_⟩
    · rcases List.mem_append.1 hq with hq | hq
      · exact .inl hq
      · exact .inr (hA1.agOk hk q hq)
    · simp at hb
      rcases hb with rfl | hb
      · exact h.out.geO 0 _ rfl
      · exact h.out.geO 11 _ hb
  replace fin := Lib.hid fin
  have hz1 : (0 : Int) < NW ∨ ¬ (0 : Int) < NW := by omega
  have hkk : (k = 0 ∧ kv = 5) ∨ (k = 1 ∧ kv = 6) := by omega
  clear hkv
  rcases hkk with ⟨rfl, rfl⟩ | ⟨rfl, rfl⟩
  all_goals (rcases hz1 with hz1 | hz1)
  · have hz0 : ¬ NW = 0 := by omega
    go_enter Try.func22, Try.ntmps22
    go_wp2
    refine Free.wp_region_chain (fun i => false) (fun i => true) (fun j b => False) (by kernel_rfl) (by kernel_rfl) (by kernel_rfl) ?_
    (repeat (first | (apply Free.cw_pure rfl rfl; (intro w'; go_simp <;> exact rfl); go_frame) | (apply Free.cw_steady rfl rfl rfl; (intro w' hS; have q0 := Free.sx_cell hS cw (fun _ _ hT => hT); have q1 := Free.sx_cell hS x1 (fun _ _ hT => hT); go_simp <;> exact rfl); go_frame) | (refine Free.cw_skip rfl ?_; go_frame)))
    refine Free.cw_nil ?_
    go_wp2_with fail
    refine (fin.out _ (Keeps.refl _ _).drew).mono ?_
    rintro e w2 ⟨rfl, V', hS, S, hk2, hS2⟩
    replace hS := Lib.hid hS
    replace hk2 := Lib.hid hk2
    go_wp2
    go_ret
    exact ⟨V', _, rfl, hS.out, S, hk2.out, hS2⟩
  · go_enter Try.func22, Try.ntmps22
    go_wp2_with fail
    refine (fin.out _ (Keeps.refl _ _)).mono ?_
    rintro e w2 ⟨rfl, V', hS, S, hk2, hS2⟩
    replace hS := Lib.hid hS
    replace hk2 := Lib.hid hk2
    go_wp2
    go_ret
    exact ⟨V', _, rfl, hS.out, S, hk2.out, hS2⟩
  · have hz0 : ¬ NW = 0 := by omega
    go_enter Try.func22, Try.ntmps22
    go_wp2
    refine Free.wp_region_chain (fun i => false) (fun i => true) (fun j b => False) (by kernel_rfl) (by kernel_rfl) (by kernel_rfl) ?_
    (repeat (first | (apply Free.cw_pure rfl rfl; (intro w'; go_simp <;> exact rfl); go_frame) | (apply Free.cw_steady rfl rfl rfl; (intro w' hS; have q0 := Free.sx_cell hS cw (fun _ _ hT => hT); have q1 := Free.sx_cell hS x1 (fun _ _ hT => hT); go_simp <;> exact rfl); go_frame) | (refine Free.cw_skip rfl ?_; go_frame)))
    refine Free.cw_nil ?_
    go_wp2_with fail
    refine (fin.out _ (Keeps.refl _ _).drew).mono ?_
    rintro e w2 ⟨rfl, V', hS, S, hk2, hS2⟩
    replace hS := Lib.hid hS
    replace hk2 := Lib.hid hk2
    go_wp2
    go_ret
    exact ⟨V', _, rfl, hS.out, S, hk2.out, hS2⟩
  · go_enter Try.func22, Try.ntmps22
    go_wp2_with fail
    refine (fin.out _ (Keeps.refl _ _)).mono ?_
    rintro e w2 ⟨rfl, V', hS, S, hk2, hS2⟩
    replace hS := Lib.hid hS
    replace hk2 := Lib.hid hk2
    go_wp2
    go_ret
    exact ⟨V', _, rfl, hS.out, S, hk2.out, hS2⟩
end Go.Proofs.Ytilmcdieihmiaaa

namespace Go.Proofs.Ytilmcdieihmiaaa
open Go.RowKit

variable {w : World} {B bp : Nat} {V : PV} {X : PC} {W : Wy} {t m : Nat}
set_option maxRecDepth 100000 in
set_option maxHeartbeats 4000000 in
theorem act_other (kk n : Nat) (vd : Value) (l : Bytes) (h : St w B bp V X W t m) (hn : n < 256) (hd : SlB w vd l) (ht : t ≤ 1000) (hW : W.length ≤ 1000000) (hB : B ≤ w.heap.size) (hkk : 7 ≤ kk) (hk2 : kk < 256) :
    Calls Try.prog 22 #[.pointer (some ⟨bp, 0, none⟩), .agg #[.int .u8 kk, .int .u8 n, vd]] w (ActPost w B bp W t m) := by
  have hbx := heap_alloc_new w (.cells #[.int .u8 kk, .int .u8 n, vd] 58)
  have hka := (Keeps.refl [] w).alloc (.cells #[.int .u8 kk, .int .u8 n, vd] 58)
  have hA := h.keeps hka
  obtain ⟨ad, cd, rfl⟩ := hd.form
  obtain ⟨LL, hLL⟩ : ∃ n, l.length = n := ⟨_, rfl⟩
  obtain ⟨av, cv, hvw⟩ := hA.pm.way.se.form
  have hWL : X.L.length = W.length := by rw [h.way, wyL_len]
  obtain ⟨NW, hNW⟩ : ∃ n, W.length = n := ⟨_, rfl⟩
  rw [hWL, hNW] at hvw
  rw [hLL] at hka hbx hA ⊢
  have cw := hA.pm.cells.2.2.1
  rw [hvw] at cw
  have hbp0 := h.pm.cells.2.2.2.2.2.2.2.2
  obtain ⟨x0, x1, x2⟩ := cell3_of hbx
  have hWb : NW ≤ 1000000 := by omega
  have hwn : IntKind.i64.wrap (n : Int) = (n : Int) := IntWalk.i64_in _ (by omega)
  have hxb : w.heap.size ≠ bp := by omega
  have q0 : ((kk : Int) == 0) = false := by simp; omega
  have q1 : ((kk : Int) == 1) = false := by simp; omega
  have q2 : ((kk : Int) == 2) = false := by simp; omega
  have q3 : ((kk : Int) == 3) = false := by simp; omega
  have q4 : ((kk : Int) == 4) = false := by simp; omega
  have q5 : ((kk : Int) == 5) = false := by simp; omega
  have q6 : ((kk : Int) == 6) = false := by simp; omega
  replace hA := Lib.hid hA
  replace h := Lib.hid h
  replace hvw := Lib.hid hvw
  replace hNW := Lib.hid hNW
  replace hLL := Lib.hid hLL
  replace hka := Lib.hid hka
  replace hWL := Lib.hid hWL
  replace hd := Lib.hid hd
  clear hbx
  have hz1 : (0 : Int) < NW ∨ ¬ (0 : Int) < NW := by omega
  rcases hz1 with hz1 | hz1
  · have hz0 : ¬ NW = 0 := by omega
    go_enter Try.func22, Try.ntmps22
    go_wp2
    refine Free.wp_region_chain (fun i => false) (fun i => true) (fun j b => False) (by kernel_rfl) (by kernel_rfl) (by kernel_rfl) ?_
    (repeat (first | (apply Free.cw_pure rfl rfl; (intro w'; go_simp <;> exact rfl); go_frame) | (apply Free.cw_steady rfl rfl rfl; (intro w' hS; have q0 := Free.sx_cell hS cw (fun _ _ hT => hT); have q1 := Free.sx_cell hS x1 (fun _ _ hT => hT); go_simp <;> exact rfl); go_frame) | (refine Free.cw_skip rfl ?_; go_frame)))
    refine Free.cw_nil ?_
    go_wp2
    go_ret
    exact ⟨V, X, rfl, hA.out.keeps (Keeps.refl _ _).drew, [], hka.out.drew, by simp⟩
  · go_enter Try.func22, Try.ntmps22
    go_wp2
    go_ret
    exact ⟨V, X, rfl, hA.out, [], hka.out, by simp⟩
end Go.Proofs.Ytilmcdieihmiaaa

namespace Go.Proofs.Ytilmcdieihmiaaa
open Go.ChangeShapes Go.WideShapes Go.ChangeAt Go.RowKit

structure ActV where
  k : Nat
  n : Nat
  data : Bytes
def ActR (w : World) (cs : List Value) (x : ActV) : Prop := ∃ c, cs = [.int .u8 x.k, .int .u8 x.n, c] ∧ SlB w c x.data ∧ x.k < 256 ∧ x.n < 256
def SActs (w : World) (v : Value) (L : List ActV) : Prop := Gen.SlR ActR 3 w v L
set_option maxRecDepth 100000 in
set_option maxHeartbeats 1000000 in
theorem cs_bytesA {w : World} {c : Value} (h : Gen.Cs Try.prog w 23 [c]) : ∃ l, SlB w c l := by
  obtain ⟨L, hL, _⟩ := Gen.SlR.open (R := fun _ cs (x : UInt8) => cs = [.int .u8 (x.toNat : Int)]) Try.underlying23 ceB (by decide) (fun cs hcs => by
    obtain ⟨k, hk, wk⟩ := Gen.Cs.int Try.underlying5 hcs
    exact ⟨u8 k, by rw [hk, u8_back wk]⟩) h
  exact ⟨L, Gen.SlR.map hL⟩
set_option maxRecDepth 100000 in
set_option maxHeartbeats 1000000 in
theorem cs_act {w : World} {cs : List Value} (h : Gen.Cs Try.prog w 58 cs) : ∃ x, ActR w cs x := by
  obtain ⟨hl, hall⟩ := Gen.Cs.struct Try.underlying58 h
  rw [show Try.prog.cellsOf 58 = 3 by kernel_rfl] at hl
  obtain ⟨a, b, c, rfl⟩ : ∃ a b c, cs = [a, b, c] := by
    match cs, hl with
    | [a, b, c], _ => exact ⟨a, b, c, rfl⟩
  have h0 := hall 0 _ rfl
  have h1 := hall 1 _ rfl
  have h2 := hall 2 _ rfl
  replace h0 : Gen.Cs Try.prog w 5 (([a, b, c].drop 0).take (Try.prog.cellsOf 5)) := h0
  replace h1 : Gen.Cs Try.prog w 5 (([a, b, c].drop 1).take (Try.prog.cellsOf 5)) := h1
  replace h2 : Gen.Cs Try.prog w 23 (([a, b, c].drop 2).take (Try.prog.cellsOf 23)) := h2
  rw [show Try.prog.cellsOf 5 = 1 by kernel_rfl] at h0 h1
  rw [show Try.prog.cellsOf 23 = 1 by kernel_rfl] at h2
  obtain ⟨k, hk, wk⟩ := Gen.Cs.int Try.underlying5 h0
  obtain ⟨n, hn, wn⟩ := Gen.Cs.int Try.underlying5 h1
  simp at hk hn h2
  subst hk hn
  have hb : 0 ≤ k ∧ k ≤ 255 := by simpa [Lit.wf, IntKind.min, IntKind.max, IntKind.signed, IntKind.bits] using wk
  have hn : 0 ≤ n ∧ n ≤ 255 := by simpa [Lit.wf, IntKind.min, IntKind.max, IntKind.signed, IntKind.bits] using wn
  obtain ⟨l, hl⟩ := cs_bytesA h2
  exact ⟨⟨k.toNat, n.toNat, l⟩, c, by simp; omega, hl, by simp; omega, by simp; omega⟩
set_option maxRecDepth 100000 in
set_option maxHeartbeats 1000000 in
theorem open_acts {H : Type} {enc : TypeId × Value → H} {W : World} {base : Nat} {r : Reach} {v : Value} {d : DataW H} {ps : List MemPlace} (hv : Value.okWide Try.prog W r base 35 v)
    (h : DataW.Trod enc Try.prog W 0 (fun _ => true) true 35 v d ps) : ∃ L, SActs W v L := by
  obtain ⟨a0, n0, c0, rfl⟩ := okWide_slice Try.underlying35 hv
  obtain ⟨L, hL, _⟩ := Gen.SlR.open (R := ActR) Try.underlying35 (show Try.prog.cellsOf 58 = 3 by kernel_rfl) (by decide) (fun cs hcs => cs_act hcs) (Gen.Cs.of_trod rfl h)
  exact ⟨L, hL⟩
end Go.Proofs.Ytilmcdieihmiaaa

namespace Go.Proofs.Ytilmcdieihmiaaa
open Go.RowKit

variable {w : World} {B bp : Nat} {V : PV} {X : PC} {W : Wy} {t m : Nat}
theorem ActPost.more {W' : Wy} {t' m' t2 m2 : Nat} {e : Ending} {w' : World} (h : ActPost w B bp W' t' m' e w') (ht : t' ≤ t2) (hm : m' ≤ m2) : ActPost w B bp W' t2 m2 e w' := by
  obtain ⟨V', X', rfl, hS, hk⟩ := h
  exact ⟨V', X', rfl, hS.more ht hm, hk⟩
/-- Any step. -/
theorem act_c (k n : Nat) (vd : Value) (l : Bytes) (h : St w B bp V X W t m) (hkk : k < 256) (hn : n < 256) (hd : SlB w vd l) (hl : l.length ≤ 100) (ht : t ≤ 1000) (hm : m ≤ 1000000000) (hW : W.length ≤ 1000000) (hB : B ≤ w.heap.size) :
    Calls Try.prog 22 #[.pointer (some ⟨bp, 0, none⟩), .agg #[.int .u8 k, .int .u8 n, vd]] w fun e w' => ∃ W', W'.length ≤ W.length + t + 1 ∧ ActPost w B bp W' (t + 1) (m + 1) e w' := by
  have hcs : k < 2 ∨ k = 2 ∨ k = 3 ∨ k = 4 ∨ (∃ j : Nat, j < 2 ∧ (k : Int) = 5 + (j : Int)) ∨ 7 ≤ k := by
    by_cases h5 : k = 5
    · exact .inr (.inr (.inr (.inr (.inl ⟨0, by omega, by omega⟩))))
    · by_cases h6 : k = 6
      · exact .inr (.inr (.inr (.inr (.inl ⟨1, by omega, by omega⟩))))
      · omega
  rcases hcs with hk | rfl | rfl | rfl | ⟨j, hj, hk⟩ | hk
  · exact (act_send k n vd l h hk hn hd hl ht hW hB).mono fun e w' hp => ⟨_, by rw [List.length_append]; simp, hp.more (by omega) (by omega)⟩
  · refine (act_deliver n vd l h hn hd ht hW hB hm).mono ?_
    rintro e w' (⟨_, hp⟩ | ⟨p, _, V', C', outs, rfl, hS, _, hk⟩)
    · exact ⟨W, by omega, hp.more (by omega) (by omega)⟩
    · exact ⟨_, by have := List.length_eraseIdx_le W (n % W.length); omega, _, _, rfl, hS.more (by omega) (by omega), hk⟩
  · refine (act_drop n vd l h hn hd ht hW hB).mono ?_
    rintro e w' (⟨_, hp⟩ | ⟨_, hp⟩)
    · exact ⟨W, by omega, hp.more (by omega) (by omega)⟩
    · exact ⟨_, by have := List.length_eraseIdx_le W (n % W.length); omega, hp.more (by omega) (by omega)⟩
  · exact (act_double n vd l h hn hd ht hW hB).mono fun e w' ⟨W', hl', hp⟩ => ⟨W', by omega, hp.more (by omega) (by omega)⟩
  · rw [hk]
    exact (act_again j n _ vd l h hn hd ht hW hB hj rfl).mono fun e w' hp => ⟨_, by rw [List.length_append, agW_len]; have := (h.bounds hj).2.1; omega, hp.more (by omega) (by omega)⟩
  · exact (act_other k n vd l h hn hd ht hW hB hk hkk).mono fun e w' hp => ⟨W, by omega, hp.more (by omega) (by omega)⟩

theorem ActR.kb {w w' : World} {cs : List Value} {x : ActV} (h : ActR w cs x) (hk : KB w w') : ActR w' cs x := by
  obtain ⟨c, h1, h2, h3⟩ := h; exact ⟨c, h1, h2.kb hk, h3⟩
theorem SActs.keeps {w w' : World} {v : Value} {L : List ActV} (h : SActs w v L) (hk : Keeps [] w w') : SActs w' v L := Gen.SlR.keeps h hk fun _ _ h => h.kb hk.kb0
theorem SActs.act {w : World} {v : Value} {L : List ActV} (h : SActs w v L) {k : Nat} (hk : k < L.length) : ∃ g o c ad cd, v = .slice (some ⟨g, o, none⟩) L.length c ∧ w.cell? ⟨g, o + k * 3, none⟩ = some (.int .u8 L[k].k) ∧ w.cell? ⟨g, o + k * 3 + 1, none⟩ = some (.int .u8 L[k].n) ∧
    w.cell? ⟨g, o + k * 3 + 2, none⟩ = some (.slice ad L[k].data.length cd) ∧ SlB w (.slice ad L[k].data.length cd) L[k].data ∧ L[k].k < 256 ∧ L[k].n < 256 := by
  obtain ⟨g, o, c, xs, hv, hl, ⟨c2, rfl, hd, hok⟩, hc⟩ := Gen.SlR.elem h (by decide) hk
  obtain ⟨ad, cd, rfl⟩ := hd.form
  exact ⟨g, o, c, ad, cd, hv, hc 0 _ rfl, hc 1 _ rfl, hc 2 _ rfl, hd, hok⟩
/-- Too many, or too long. -/
def lgB (L : List ActV) : Bool := L.any (fun x => decide (100 < x.data.length)) || decide (40 < L.length)

set_option maxRecDepth 100000 in
set_option maxHeartbeats 4000000 in
theorem large_c (w : World) (v0 : Value) (L : List ActV) (h : SActs w v0 L) :
    Calls Try.prog 16 #[v0] w fun e w' => e = .returned (.bool (lgB L)) ∧ Keeps [] w w' := by
  obtain ⟨a, c, rfl, hlc, hcm, _⟩ := Gen.SlR.form h
  obtain ⟨N, hN⟩ : ∃ N, L.length = N := ⟨_, rfl⟩
  rw [hN] at hlc ⊢
  have hNm : N ≤ 9223372036854775807 := by unfold maxLen at hcm; omega
  have hel := fun k hk => SActs.act h (k := k) hk
  replace hel := Lib.hid hel
  replace hN := Lib.hid hN
  clear h
  obtain ⟨B, hB⟩ : ∃ B, lgB L = B := ⟨_, rfl⟩
  rw [hB]
  replace hB := Lib.hid hB
  go_enter Try.func16, Try.ntmps16
  go_wp2
  go_loopw [3] (fun i wr => ∃ k : Nat, i = .int .i64 k ∧ k ≤ N ∧ (∀ j (hj : j < L.length), j < k → L[j].data.length ≤ 100) ∧ Keeps [] w wr) (fun i _ => N - (intOf i).toNat)
  case atStart => exact ⟨0, rfl, by omega, fun _ _ h => by omega, Keeps.refl _ _⟩
  case round =>
    obtain ⟨k, rfl, hk, hno, hkw⟩ := hrel
    replace hno := Lib.hid hno
    by_cases hlt : k < N
    · obtain ⟨g, o, c', ad, cd, hv, _, _, hx, _⟩ := hel.out k (by rw [hN.out]; exact hlt)
      cases hv
      have hxr := hkw.val hx
      clear hx
      replace hkw := Lib.hid hkw
      obtain ⟨z, hz⟩ : ∃ z, (L[k]'(by rw [hN.out]; exact hlt)).data.length = z := ⟨_, rfl⟩
      rw [hz] at hxr
      replace hz := Lib.hid hz
      by_cases he : 100 < z
      · go_wp2
        go_ret
        refine ⟨?_, hkw.out⟩
        rw [← hB.out]
        have : lgB L = true := by
          unfold lgB
          rw [Bool.or_eq_true, List.any_eq_true]
          exact .inl ⟨_, List.getElem_mem (by rw [hN.out]; exact hlt), by rw [hz.out]; simpa using he⟩
        rw [this]; rfl
      · have hno' : Hid (∀ j (hj : j < L.length), j < k + 1 → L[j].data.length ≤ 100) := fun j hj hjk => by
          by_cases e : j = k
          · subst e; rw [hz.out]; omega
          · exact hno.out j hj (by omega)
        go_wp2
        go_roundw
        case rel => exact ⟨k + 1, rfl, by omega, hno'.out, hkw.out⟩
        case measure => simp [intOf]; omega
    · have hkk : k = N := by omega
      subst hkk
      replace hkw := Lib.hid hkw
      have hb : B = decide (40 < k) := by
        rw [← hB.out]
        unfold lgB
        rw [hN.out]
        have : L.any (fun x => decide (100 < x.data.length)) = false := by
          rw [List.any_eq_false]
          intro x hx
          obtain ⟨j, hj, rfl⟩ := List.getElem_of_mem hx
          have := hno.out j hj (by rw [hN.out] at hj; exact hj)
          simp; omega
        rw [this]; rfl
      replace hb := Lib.hid hb
      by_cases h40 : 40 < k
      · go_wp2
        go_ret
        exact ⟨by rw [hb.out]; simp [h40]; omega, hkw.out⟩
      · go_wp2
        go_ret
        exact ⟨by rw [hb.out]; simp [h40]; omega, hkw.out⟩
theorem lgB_false {L : List ActV} (h : lgB L = false) : L.length ≤ 40 ∧ ∀ x ∈ L, x.data.length ≤ 100 := by
  unfold lgB at h
  rw [Bool.or_eq_false_iff, List.any_eq_false] at h
  exact ⟨by simpa using h.2, fun x hx => by simpa using h.1 x hx⟩

theorem l5_ne {l : List Nat} (h : l.Nodup) {i j b : Nat} (hij : i ≠ j) (hi : l[i]? = some b) : l[j]? ≠ some b := fun hj => by
  obtain ⟨h1, e1⟩ := List.getElem?_eq_some_iff.1 hi
  obtain ⟨h2, e2⟩ := List.getElem?_eq_some_iff.1 hj
  have hp := List.pairwise_iff_getElem.1 h
  rcases Nat.lt_or_gt_of_ne hij with hlt | hlt
  · exact hp i j h1 h2 hlt (e1.trans e2.symm)
  · exact hp j i h2 h1 hlt (e2.trans e1.symm)
def pv0 (ba bb ma mb : Nat) : PV := ⟨fun k => if k = 0 then ba else bb, fun k => if k = 0 then ma else mb, fun _ => 0, fun _ => .slice none 0 0, fun _ => .slice none 0 0, fun _ => .slice none 0 0, .slice none 0 0⟩
def pc0 : PC := ⟨fun _ => C00, fun _ => [], fun _ => [], []⟩
theorem pv0_own (ba bb ma mb bp : Nat) : (pv0 ba bb ma mb).own bp = fun i => [bp, ba, bb, ma, mb][i]? := by
  funext i
  match i with
  | 0 => rfl
  | 1 => rfl
  | 2 => rfl
  | 3 => rfl
  | 4 => rfl
  | 5 => rfl
  | 6 => rfl
  | 7 => rfl
  | 8 => rfl
  | 9 => rfl
  | 10 => rfl
  | 11 => rfl
  | i + 12 => simp [PV.own]
theorem St.start {w2 : World} {ba bb ma mb : Nat} (hA : Ch w2 B ba ma 0 (.slice none 0 0) C00) (hB : Ch w2 B bb mb 0 (.slice none 0 0) C00) (hn : [w2.heap.size, ba, bb, ma, mb].Nodup) (hl : ∀ b ∈ [ba, bb, ma, mb], B ≤ b ∧ b < w2.heap.size) :
    St (w2.alloc (.cells #[.pointer (some ⟨ba, 0, none⟩), .pointer (some ⟨bb, 0, none⟩), .slice none 0 0, .slice none 0 0, .slice none 0 0, .slice none 0 0, .slice none 0 0] 55)) B w2.heap.size (pv0 ba bb ma mb) pc0 [] 0 0 := by
  have hk : Keeps [] w2 (w2.alloc (.cells #[.pointer (some ⟨ba, 0, none⟩), .pointer (some ⟨bb, 0, none⟩), .slice none 0 0, .slice none 0 0, .slice none 0 0, .slice none 0 0, .slice none 0 0] 55)) := (Keeps.refl [] w2).alloc _
  have hb := hl ba (by simp)
  refine ⟨⟨heap_alloc_new w2 _, fun k hk2 => ?_, fun k _ => KL.nil _ _, fun k _ => KL.nil _ _, OE.nil _ _ _, ?_⟩, rfl, fun k _ => Dir.start, by simp, fun k _ => by simp [pc0], fun k _ l hl => by simp [pc0] at hl, fun k _ => Nat.le_refl _, by omega, fun k hk2 => ?_⟩
  · rcases (show k = 0 ∨ k = 1 by omega) with rfl | rfl
    · exact hA.keeps hk
    · exact hB.keeps hk
  · rw [pv0_own]
    refine ⟨fun i b hb => ?_, fun i j b hij hi => l5_ne hn hij hi⟩
    have hm := List.mem_of_getElem? hb
    rcases List.mem_cons.1 hm with rfl | hm
    · simp
    · have := (hl b hm).2; simp; omega
  · rcases (show k = 0 ∨ k = 1 by omega) with rfl | rfl
    · exact ⟨(hl ba (by simp)).1, (hl ma (by simp)).1⟩
    · exact ⟨(hl bb (by simp)).1, (hl mb (by simp)).1⟩

set_option maxRecDepth 100000 in
set_option maxHeartbeats 4000000 in
theorem play_c (w : World) (v0 : Value) (L : List ActV) (h : SActs w v0 L) (hL : L.length ≤ 40) (hd : ∀ x ∈ L, x.data.length ≤ 100) :
    Calls Try.prog 17 #[v0] w fun e w' => ∃ bp V X W, e = .returned (.tuple #[.pointer (some ⟨bp, 0, none⟩), .bool true]) ∧ St w' w.heap.size bp V X W L.length L.length ∧ W.length ≤ 1680 ∧ Keeps [] w w' := by
  obtain ⟨a, c, rfl, hlc, hcm, _⟩ := Gen.SlR.form h
  obtain ⟨N, hN⟩ : ∃ N, L.length = N := ⟨_, rfl⟩
  rw [hN] at hlc hL h ⊢
  have hel := fun k hk => SActs.act h (k := k) hk
  replace hel := Lib.hid hel
  replace hN := Lib.hid hN
  replace h := Lib.hid h
  replace hd := Lib.hid hd
  go_enter Try.func17, Try.ntmps17
  go_wp2_with fail
  refine (new_c _).mono ?_
  rintro e w1 ⟨ba, ma, rfl, ga1, ga2, ga3, hA, hk1⟩
  go_wp2_with fail
  refine (new_c _).mono ?_
  rintro e w2 ⟨bb, mb, rfl, gb1, gb2, gb3, hB, hk2⟩
  have hk02 := hk1.trans hk2
  have hsz1 := hk1.size
  have hA2 := (hA.keeps hk2).base rfl w.heap.size
  have hB2 := hB.base rfl w.heap.size
  have lb := hB2.cells.2.2.2.2.2.2
  have lmb := hB2.early.lt
  have la := hA.cells.2.2.2.2.2.2
  have lma := hA.early.lt
  clear hA hB hk1 hk2
  replace hA2 := Lib.hid hA2
  replace hB2 := Lib.hid hB2
  replace hk02 := Lib.hid hk02
  have hsz2 := hk02.out.size
  have hS0 := St.start (B := w.heap.size) hA2.out hB2.out (by simp; omega) (by simp; omega)
  have hk0 := Lib.hid (hk02.out.alloc (.cells #[.pointer (some ⟨ba, 0, none⟩), .pointer (some ⟨bb, 0, none⟩), .slice none 0 0, .slice none 0 0, .slice none 0 0, .slice none 0 0, .slice none 0 0] 55))
  replace hS0 := Lib.hid hS0
  clear hA2 hB2 hk02
  go_wp2
  generalize (w2.alloc (.cells #[.pointer (some ⟨ba, 0, none⟩), .pointer (some ⟨bb, 0, none⟩), .slice none 0 0, .slice none 0 0, .slice none 0 0, .slice none 0 0, .slice none 0 0] 55)) = w3 at *
  generalize w2.heap.size = bp at *
  clear ga1 ga2 ga3 gb1 gb2 gb3 lb lmb la lma hsz1 hsz2
  go_loopw [5] (fun i wr => ∃ (j : Nat) (V : PV) (X : PC) (W : Wy), i = .int .i64 j ∧ j ≤ N ∧ St wr w.heap.size bp V X W j j ∧ W.length ≤ 42 * j ∧ Keeps [] w wr) (fun i _ => N - (intOf i).toNat)
  case atStart => exact ⟨0, _, _, _, rfl, by omega, hS0.out, by simp, hk0.out⟩
  case round =>
    obtain ⟨j, V, X, W, rfl, hj, hS, hW, hkw⟩ := hrel
    clear hS0 hk0
    by_cases hlt : j < N
    · obtain ⟨g, o, c', ad, cd, hv, q0, q1, q2, hdb, hk8, hn8⟩ := hel.out j (by rw [hN.out]; exact hlt)
      cases hv
      have p0 := hkw.val q0
      have p1 := hkw.val q1
      have p2 := hkw.val q2
      have hdr := hdb.keeps hkw
      have hdl := hd.out _ (List.getElem_mem (l := L) (n := j) (by rw [hN.out]; exact hlt))
      generalize (L[j]'(by rw [hN.out]; exact hlt)) = x at *
      clear q0 q1 q2 hdb
      obtain ⟨DL, hDL⟩ : ∃ n, x.data.length = n := ⟨_, rfl⟩
      rw [hDL] at p2 hdr
      replace hDL := Lib.hid hDL
      replace hdr := Lib.hid hdr
      replace hS := Lib.hid hS
      replace hkw := Lib.hid hkw
      go_wp2_with fail
      refine (act_c x.k x.n (.slice ad DL cd) x.data hS.out hk8 hn8 hdr.out hdl (by omega) (by omega) (by omega) hkw.out.size).mono ?_
      rintro e w4 ⟨W', hW', V', X', rfl, hS4, S, hk4, hSB⟩
      have hkw4 : Keeps [] w w4 := hkw.out.fresh hk4 (fun b hb => .inr (hSB b hb))
      replace hS4 := Lib.hid hS4
      replace hkw4 := Lib.hid hkw4
      go_wp2_with fail
      refine (sound_c hS4.out.pm hS4.out.dir (fun k hk => by have := hS4.out.len k hk; omega)).mono ?_
      rintro e w5 ⟨rfl, hk5⟩
      have hS5 := Lib.hid (hS4.out.keeps hk5)
      have hkw5 := Lib.hid (hkw4.out.trans hk5)
      clear hS4 hkw4 hk5 hS hkw hdr
      go_wp2
      go_roundw
      case rel => exact ⟨j + 1, V', X', W', rfl, by omega, hS5.out, by omega, hkw5.out⟩
      case measure => simp [intOf]; omega
    · have hjj : j = N := by omega
      subst hjj
      replace hS := Lib.hid hS
      replace hkw := Lib.hid hkw
      go_wp2
      go_ret2
      exact ⟨bp, V, X, W, rfl, hS.out, by omega, hkw.out⟩
end Go.Proofs.Ytilmcdieihmiaaa

namespace Go.Proofs.Ytilmcdieihmiaaa
open Go.RowKit

set_option maxRecDepth 100000 in
set_option maxHeartbeats 2000000 in
theorem order_c (w : World) (v0 : Value) (L : List ActV) (h : SActs w v0 L) :
    Calls Try.prog 4 #[v0] w fun e w' => e = .returned (.bool true) ∧ Keeps [] w w' := by
  obtain ⟨a, c, rfl, _⟩ := Gen.SlR.form h
  obtain ⟨N, hN⟩ : ∃ N, L.length = N := ⟨_, rfl⟩
  rw [hN] at h ⊢
  replace h := Lib.hid h
  replace hN := Lib.hid hN
  go_enter Try.func4, Try.ntmps4
  go_wp2_with fail
  refine (awake_c _).mono ?_
  rintro e w1 ⟨rfl, hk1⟩
  go_wp2_with fail
  refine (large_c _ _ L (h.out.keeps hk1)).mono ?_
  rintro e w2 ⟨rfl, hk2⟩
  have hk02 := hk1.trans hk2
  clear hk1 hk2
  cases hb : lgB L with
  | true =>
    clear hb
    go_wp2
    go_ret
    exact ⟨rfl, hk02⟩
  | false =>
    obtain ⟨hl, hd⟩ := lgB_false hb
    clear hb
    go_wp2_with fail
    refine (play_c _ _ L (h.out.keeps hk02) hl hd).mono ?_
    rintro e w3 ⟨bp, V, X, W, rfl, _, _, hk3⟩
    have hk03 := hk02.trans hk3
    clear hk02 hk3
    go_wp2
    go_ret
    exact ⟨rfl, hk03⟩
end Go.Proofs.Ytilmcdieihmiaaa
