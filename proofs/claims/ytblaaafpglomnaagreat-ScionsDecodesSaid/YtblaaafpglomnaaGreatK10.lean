/- Texts that the laws lean on, in the order in which they build. The specification of scion tables: Decode. (Printed by mkscdr.py.) The law Decodes, walked. (Printed by mkscde.py.) Bytes among a law's arguments, opened. -/
import Derived.Test.YtblaaafpglomnaaGreatK9
set_option linter.unusedVariables false
set_option linter.unusedSimpArgs false
namespace Go.Proofs.YtblaaafpglomnaaGreat
open Go Go.RowKit

theorem RrS.setZ {w : World} {br Z : Nat} {s : RS} {xs : Array Value} {t : TypeId} (h : RrS w br s) (hZ : w.heap[Z]? = some (.cells xs t (0, 0))) (hne : Z ≠ br) (i : Nat) (u : Value) (hu : xs[i]? = some u) (hb : ∀ x, u ≠ .int .u8 x) (v : Value) : RrS (w.setCell ⟨Z, i, none⟩ v) br s := by
  obtain ⟨p, h1, h2⟩ := h
  refine ⟨p, (setO hne.symm i v).trans h1, h2.kb (KB.setCell w v (u := u) ?_ hb)⟩
  simp [World.cell?, hZ, hu]
theorem st2i {w : World} {X : Nat} {t : TypeId} {x0 x1 u0 u1 u2 u3 u4 u5 u6 u7 u8 u9 u10 u11 : Value} (h2 : w.heap[X]? = some (.cells #[u0, u1, u2, u3, u4, u5, u6, u7, u8, u9, u10, u11] t (0, 0))) : ((w.setCell ⟨X, 2, none⟩ x0).setCell ⟨X, 3, none⟩ x1).heap[X]? = some (.cells #[u0, u1, x0, x1, u4, u5, u6, u7, u8, u9, u10, u11] t (0, 0)) ∧ Keeps [X] w ((w.setCell ⟨X, 2, none⟩ x0).setCell ⟨X, 3, none⟩ x1) := by
  refine ⟨?_, ((Keeps.refl _ w).setCell (p := ⟨X, 2, none⟩) (.inr (by simp)) _).setCell (p := ⟨X, 3, none⟩) (.inr (by simp)) _⟩
  have s1 := setCs h2 2 x0
  have s2 := setCs s1 3 x1
  simpa using s2
theorem st2o {w : World} {X : Nat} {t : TypeId} {x0 x1 u0 u1 u2 u3 u4 u5 u6 u7 u8 u9 u10 u11 : Value} (h2 : w.heap[X]? = some (.cells #[u0, u1, u2, u3, u4, u5, u6, u7, u8, u9, u10, u11] t (0, 0))) : ((w.setCell ⟨X, 10, none⟩ x0).setCell ⟨X, 11, none⟩ x1).heap[X]? = some (.cells #[u0, u1, u2, u3, u4, u5, u6, u7, u8, u9, x0, x1] t (0, 0)) ∧ Keeps [X] w ((w.setCell ⟨X, 10, none⟩ x0).setCell ⟨X, 11, none⟩ x1) := by
  refine ⟨?_, ((Keeps.refl _ w).setCell (p := ⟨X, 10, none⟩) (.inr (by simp)) _).setCell (p := ⟨X, 11, none⟩) (.inr (by simp)) _⟩
  have s1 := setCs h2 10 x0
  have s2 := setCs s1 11 x1
  simpa using s2
theorem R_small {w : World} {v : Value} {L : List Rw} (h : shR.R w v L) {b : Nat} {xs : Array Value} {t : TypeId} {f : Nat × Nat} (hb : w.heap[b]? = some (.cells xs t f)) (hs : xs.size < 13) (hne : L ≠ []) : v.ownBlock ≠ some b := by
  intro e
  obtain ⟨_, a, c, rfl, _, _, _, h5⟩ := h
  obtain ⟨x, t', rfl⟩ : ∃ x t', L = x :: t' := by cases L with | nil => exact absurd rfl hne | cons x t' => exact ⟨x, t', rfl⟩
  have h6 : (shR.cs (x :: t'))[12]? = some (.int .i64 x.2) := rfl
  obtain ⟨g, o, rfl, hc⟩ := h5 (by have := (List.getElem?_eq_some_iff.1 h6).1; omega)
  have h7 := hc 12 _ h6
  simp [Value.ownBlock] at e
  subst e
  simp [World.cell?, hb] at h7
  have := (Array.getElem?_eq_some_iff.1 h7).1
  omega
theorem outR_some (l : List UInt8) (T : List Rw) (s : RS) : outR l (some (T, s)) = if s.2 = 0 ∧ encS T = l then some T else none := rfl
abbrev tRd : Nat := 83
def DecRPost (w : World) (l : List UInt8) (e : Ending) (w' : World) : Prop := ∃ v, e = .returned (.tuple #[tbV v, .bool (sdecR l).isSome]) ∧ shR.R w' v ((sdecR l).getD []) ∧ Keeps [] w w'
set_option maxRecDepth 100000 in
set_option maxHeartbeats 16000000 in
theorem decodeR_c (w : World) (v0 : Value) (l : List UInt8) (h : SlB w v0 l) (hl : l.length ≤ 100000) :
    Calls Tryz.prog 8 #[v0] w (DecRPost w l) := by
  obtain ⟨a0, c0, rfl⟩ := h.form
  obtain ⟨ML, hML⟩ : ∃ n, l.length = n := ⟨_, rfl⟩
  have hkX : Keeps [] w (w.alloc (.cells #[.slice none 0 0] tTb)) := (Keeps.refl _ _).alloc _
  have hbX := heap_alloc_new w (.cells #[.slice none 0 0] tTb)
  have hkE : Keeps [] w ((w.alloc (.cells #[.slice none 0 0] tTb)).alloc (.cells #[] 5)) := hkX.alloc _
  have hbXE := ((Keeps.refl [] (w.alloc (.cells #[.slice none 0 0] tTb))).alloc (.cells #[] 5)).block w.heap.size (lt_of_blk hbX) (by simp)
  have hfr := Buf.fresh (w.alloc (.cells #[.slice none 0 0] tTb))
  obtain ⟨X, hX⟩ : ∃ X, w.heap.size = X := ⟨_, rfl⟩
  rw [hX] at hbX hbXE
  have hbX1 := hbXE.trans hbX
  have hzX : (w.alloc (.cells #[.slice none 0 0] tTb)).heap.size = X + 1 := by simp [hX]
  rw [hzX] at hfr
  have h1 := h.keeps hkE
  have hsE : X + 1 ≤ ((w.alloc (.cells #[.slice none 0 0] tTb)).alloc (.cells #[] 5)).heap.size := by simp [hX]
  rw [hML] at h h1 hl ⊢
  replace h := Lib.hid h
  replace h1 := Lib.hid h1
  replace hfr := Lib.hid hfr
  replace hkE := Lib.hid hkE
  replace hbX1 := Lib.hid hbX1
  replace hML := Lib.hid hML
  clear hkX hbXE hbX
  go_enter Tryz.func8, Tryz.ntmps8
  go_wp2_with (first
    | (at_builtin; (refine wpl_appB _ (X + 1) (.slice (some ⟨X + 1, 0, none⟩) 0 0) [] rfl (.tmp 13) (.tmp 14) rfl rfl _ l rfl hfr.out h1.out (by simp [hML.out]; omega) hsE ?_; intro v2 w2 hB2 hG2; have hk2 := Lib.hid (hG2.keeps hkE.out (fun b hb => by simp [Value.ownBlock] at hb; omega)); have hbX2 := Lib.hid ((hG2.keepsO.block X (lt_of_blk hbX1.out) (by simp [Value.ownBlock])).trans hbX1.out); have hz2 := hG2.keepsO.size; rw [List.nil_append] at hB2; have hS2 := hB2.slB; obtain ⟨a2, c2, rfl⟩ := hB2.form; rw [hML.out] at hS2 ⊢; have hS2' := Lib.hid hS2; clear hS2 hB2 hG2))
    | fail)
  obtain ⟨br, hbr⟩ : ∃ b, w2.heap.size = b := ⟨_, rfl⟩
  have hkC : Keeps [] w2 ((w2.alloc (.cells #[.slice a2 ML c2, .int .i64 0] tRd)).alloc (.cells #[.slice none 0 0] tTb)) := ((Keeps.refl _ _).alloc _).alloc _
  have hbR := two_a w2 (.cells #[.slice a2 ML c2, .int .i64 0] tRd) (.cells #[.slice none 0 0] tTb)
  have hbY := two_b w2 (.cells #[.slice a2 ML c2, .int .i64 0] tRd) (.cells #[.slice none 0 0] tTb)
  have hRr : RrS ((w2.alloc (.cells #[.slice a2 ML c2, .int .i64 0] tRd)).alloc (.cells #[.slice none 0 0] tTb)) w2.heap.size (l, 0) := ⟨_, hbR, hS2'.out.keeps hkC⟩
  have hcn := countRS_c _ _ l hRr
  have hk3 := hk2.out.trans hkC
  have hbX3 := Lib.hid ((hkC.block X (lt_of_blk hbX2.out) (by simp)).trans hbX2.out)
  rw [hbr] at hcn hbY hbR
  have hXbr : X < br := by have := lt_of_blk hbX2.out; omega
  replace hcn := Lib.hid hcn
  replace hk3 := Lib.hid hk3
  replace hbY := Lib.hid hbY
  clear hS2' hk2 hbX2 hkC hbR hRr hbX1 hkE h1 hfr
  try rw [hbr]
  refine hcn.out.mono ?_
  rintro ee w4 ⟨rfl, hR4, hk4⟩
  have hN := rCK_le 1024 l
  obtain ⟨N, hNe⟩ : ∃ n, (rCK 1024 l).1 = n := ⟨_, rfl⟩
  obtain ⟨sI, hsI⟩ : ∃ n, (rCK 1024 l).2 = n := ⟨_, rfl⟩
  rw [hsI] at hR4
  rw [hNe] at hN ⊢
  have hbY4 := (hk4.block (br + 1) (lt_of_blk hbY.out) (by simp)).trans hbY.out
  have hbX4 := Lib.hid ((hk4.block X (lt_of_blk hbX3.out) (by simp; omega)).trans hbX3.out)
  have hk04 := Lib.hid (hk3.out.fresh hk4 (fun b hb => .inr (by simp at hb; omega)))
  replace hNe := Lib.hid hNe
  replace hsI := Lib.hid hsI
  clear hcn hk3 hbY hbX3 hk4
  go_wp2
  go_loopw [7] (fun iv wr => ∃ (k : Nat) (s : RS) (T : List Rw) (v : Value), iv = .int .i64 k ∧ k ≤ N ∧ RrS wr br s ∧ wr.heap[br + 1]? = some (.cells #[v] tTb (0, 0)) ∧ shR.R wr v T ∧ Good T ∧ Hid (dR N sI [] = dR (N - k) s T) ∧ Hid (Keeps [] w wr) ∧ Hid (wr.heap[X]? = some (.cells #[.slice none 0 0] tTb (0, 0)))) (fun iv _ => N - (intOf iv).toNat)
  case atStart => exact ⟨0, sI, [], _, rfl, by omega, hR4, hbY4, Sh.R.nil shR _, Good.nil, Lib.hid rfl, hk04, hbX4⟩
  case round =>
    obtain ⟨k, ⟨ls, es⟩, T, v, rfl, hk, hRr, hbY, hRT, hgT, heq, hkr, hbXr⟩ := hrel
    obtain ⟨vr, hrd⟩ : ∃ v, RdR wr br v ls es := hRr
    obtain ⟨-, c1, -, fz1, hbrl⟩ := cell2_of hrd.1
    have y0 := cells1 hbY
    have hRr := Lib.hid (show RrS wr br (ls, es) from ⟨vr, hrd⟩)
    clear hrd
    by_cases hlt : k < N
    case neg =>
      have hkN : k = N := by omega
      have hlt2 : decide ((k : Int) < N) = false := by simp; omega
      have hfin : dR (rCK 1024 l).1 (rCK 1024 l).2 [] = some (T, (ls, es)) := by
        rw [hNe.out, hsI.out, heq.out, hkN, Nat.sub_self]; rfl
      replace hkN := Lib.hid hkN
      by_cases he : es = 0
      case neg =>
        have he2 : (es == 0) = false := by simpa using he
        have he3 : (es != 0) = true := by simpa using he
        have hnone : sdecR l = none := by
          unfold sdecR
          rw [show dR (rCK 1024 l).1 (rCK 1024 l).2 [] = some (T, (ls, es)) from hfin]
          rw [outR_some, if_neg (fun h => he h.1)]
        replace hnone := Lib.hid hnone
        clear hfin
        go_wp2
        refine Free.wp_region_chain (fun i => i == 7 || i == 8) (fun i => true) (fun _ _ => False) (by kernel_rfl) (by kernel_rfl) (by kernel_rfl) ?_
        (repeat (first | (apply Free.cw_pure rfl rfl; (intro w'; go_simp <;> exact rfl); go_frame) | (apply Free.cw_steady rfl rfl rfl; (intro w' hS2; have z0 := Free.sx_cell hS2 c1 (fun _ _ hT => hT); have z1 := Free.sx_cell hS2 y0 (fun _ _ hT => hT); go_simp <;> exact rfl); go_frame) | (apply Free.cw_pureW rfl rfl; (intro w'; go_simp <;> exact rfl); go_frame) | (apply Free.cw_steadyW rfl rfl rfl; (intro w' hS2; have z0 := Free.sx_cell hS2 c1 (fun _ _ hT => hT); have z1 := Free.sx_cell hS2 y0 (fun _ _ hT => hT); go_simp <;> exact rfl); go_frame) | (refine Free.cw_skip rfl ?_; go_frame)))
        refine Free.cw_nil ?_
        have hxs := setCs hbXr.out 0 (.slice none 0 0)
        have x0 := cells1 hbXr.out
        have hfx := frz hbXr.out
        simp only [List.setIfInBounds_toArray, List.set_cons_zero] at hxs
        go_wp2
        refine bodyPost_ret (results_t2 rfl _ _ _ _ (.slice none 0 0) _ rfl hxs) rfl ?_
        have hkE2 : Keeps [X] wr (wr.setCell ⟨X, 0, none⟩ (.slice none 0 0)) := (Keeps.refl _ _).setCell (p := ⟨X, 0, none⟩) (.inr (by simp)) _
        exact ⟨.slice none 0 0, by rw [hnone.out]; rfl, by rw [hnone.out]; exact Sh.R.nil shR _, hkr.out.fresh hkE2.drew (fun b hb => .inr (by simp at hb; omega))⟩
      case pos =>
        subst he
        obtain ⟨av, cv, rfl, _⟩ := hRT.form
        obtain ⟨NT, hNT⟩ : ∃ n, T.length = n := ⟨_, rfl⟩
        rw [hNT] at hRT hbY y0
        have hen := encodeR_c wr.drew _ T (hRT.keeps (Keeps.refl [] wr).drew) hgT
        have hl0 := (h.out.keeps hkr.out).keeps (Keeps.refl [] wr).drew
        have hsd : sdecR l = if encS T = l then some T else none := by
          unfold sdecR
          rw [show dR (rCK 1024 l).1 (rCK 1024 l).2 [] = some (T, (ls, 0)) from hfin]
          rw [outR_some]
          by_cases h : encS T = l
          · rw [if_pos ⟨rfl, h⟩, if_pos h]
          · rw [if_neg (fun x => h x.2), if_neg h]
        replace hen := Lib.hid hen
        replace hl0 := Lib.hid hl0
        replace hsd := Lib.hid hsd
        replace hRT := Lib.hid hRT
        replace hNT := Lib.hid hNT
        simp only [tbV] at hen
        obtain ⟨sl, hsl⟩ : ∃ x, Hid (str l = x) := ⟨_, Lib.hid rfl⟩
        clear hfin
        go_wp2
        refine Free.wp_region_chain (fun i => i == 7 || i == 8) (fun i => true) (fun _ _ => False) (by kernel_rfl) (by kernel_rfl) (by kernel_rfl) ?_
        (repeat (first | (apply Free.cw_pure rfl rfl; (intro w'; go_simp <;> exact rfl); go_frame) | (apply Free.cw_steady rfl rfl rfl; (intro w' hS2; have z0 := Free.sx_cell hS2 c1 (fun _ _ hT => hT); have z1 := Free.sx_cell hS2 y0 (fun _ _ hT => hT); go_simp <;> exact rfl); go_frame) | (apply Free.cw_pureW rfl rfl; (intro w'; go_simp <;> exact rfl); go_frame) | (apply Free.cw_steadyW rfl rfl rfl; (intro w' hS2; have z0 := Free.sx_cell hS2 c1 (fun _ _ hT => hT); have z1 := Free.sx_cell hS2 y0 (fun _ _ hT => hT); go_simp <;> exact rfl); go_frame) | (refine Free.cw_skip rfl ?_; go_frame)))
        refine Free.cw_loudW rfl rfl (fun K hK => ?_)
        go_wp2_with fail
        refine hen.out.mono ?_
        rintro ee V1 ⟨vb, rfl, hSb, hkb⟩
        refine hK _ _ rfl (Free.KeepsP.of hkb (by simp)) ?_
        clear hK K
        have hrb := run_str hSb
        have hkF := Lib.hid ((Keeps.refl [] wr).drew.trans hkb)
        obtain ⟨ab, cb, rfl⟩ := hSb.form
        obtain ⟨NB, hNB⟩ : ∃ n, (encS T).length = n := ⟨_, rfl⟩
        rw [hNB] at hrb ⊢
        obtain ⟨sb, hsb⟩ : ∃ x, str (encS T) = x := ⟨_, rfl⟩
        rw [hsb] at hrb
        have hcmp : (sb.toList == sl.toList) = decide (encS T = l) := by
          rw [← hsb, ← hsl.out]
          have : (encS T == l) = decide (encS T = l) := by rw [Bool.eq_iff_iff]; simp
          simp [str, this]
        replace hNB := Lib.hid hNB
        replace hsb := Lib.hid hsb
        clear hSb hkb hen
        refine Free.cw_loudW rfl rfl (fun K hK => ?_)
        go_wp2
        refine hK _ _ rfl (Free.KeepsP.refl _ _) ?_
        clear hK K hrb
        have hbX9 := (hkF.out.block X (lt_of_blk hbXr.out) (by simp)).trans hbXr.out
        have hbY9 := (hkF.out.block (br + 1) (lt_of_blk hbY) (by simp)).trans hbY
        have hk9 := Lib.hid (hkr.out.trans hkF.out)
        have hR9 := Lib.hid (hRT.out.keeps hkF.out)
        by_cases hel : encS T = l
        · rw [decide_eq_true hel] at hcmp
          (repeat (first | (apply Free.cw_pure rfl rfl; (intro w'; go_simp <;> exact rfl); go_frame) | (apply Free.cw_steady rfl rfl rfl; (intro w' hS2; have z0 := Free.sx_cell hS2 c1 (fun _ _ hT => hT); have z1 := Free.sx_cell hS2 y0 (fun _ _ hT => hT); have hrs := run_str (hl0.out.keeps (hS2.to (Keeps.refl [] _) (fun b h => by obtain ⟨_, _, _, h⟩ := h; exact h.elim))); rw [hsl.out] at hrs; go_simp <;> exact rfl); go_frame) | (apply Free.cw_pureW rfl rfl; (intro w'; go_simp <;> exact rfl); go_frame) | (apply Free.cw_steadyW rfl rfl rfl; (intro w' hS2; have z0 := Free.sx_cell hS2 c1 (fun _ _ hT => hT); have z1 := Free.sx_cell hS2 y0 (fun _ _ hT => hT); have hrs := run_str (hl0.out.keeps (hS2.to (Keeps.refl [] _) (fun b h => by obtain ⟨_, _, _, h⟩ := h; exact h.elim))); rw [hsl.out] at hrs; go_simp <;> exact rfl); go_frame) | (refine Free.cw_skip rfl ?_; go_frame)))
          have hsd2 := hsd.out.trans (if_pos hel)
          refine Free.cw_nil ?_
          clear y0 c1 fz1
          have hxs := setCs hbX9 0 (.slice av NT cv)
          have x0 := cells1 hbX9
          have y0 := cells1 hbY9
          have hfx := frz hbX9
          simp only [List.setIfInBounds_toArray, List.set_cons_zero] at hxs
          have hRX : shR.R (V1.setCell ⟨X, 0, none⟩ (.slice av NT cv)) (.slice av NT cv) T := hR9.out.keepE ((Keeps.refl [X] _).setCell (p := ⟨X, 0, none⟩) (.inr (by simp)) _) (fun b hb hne => by simp at hb; subst hb; exact R_box hR9.out hbX9 hne)
          have hkE2 : Keeps [X] V1 (V1.setCell ⟨X, 0, none⟩ (.slice av NT cv)) := (Keeps.refl _ _).setCell (p := ⟨X, 0, none⟩) (.inr (by simp)) _
          have hkG := hk9.out.fresh hkE2 (fun b hb => .inr (by simp at hb; omega))
          replace hsd2 := Lib.hid hsd2
          replace hRX := Lib.hid hRX
          replace hkG := Lib.hid hkG
          replace hel := Lib.hid hel
          clear hkE2
          go_wp2
          refine bodyPost_ret (results_t2 rfl _ _ _ _ (.slice av NT cv) _ rfl hxs) rfl ?_
          exact ⟨.slice av NT cv, by rw [hsd2.out]; rfl, by rw [hsd2.out]; exact hRX.out, hkG.out⟩
        · rw [decide_eq_false hel] at hcmp
          (repeat (first | (apply Free.cw_pure rfl rfl; (intro w'; go_simp <;> exact rfl); go_frame) | (apply Free.cw_steady rfl rfl rfl; (intro w' hS2; have z0 := Free.sx_cell hS2 c1 (fun _ _ hT => hT); have z1 := Free.sx_cell hS2 y0 (fun _ _ hT => hT); have hrs := run_str (hl0.out.keeps (hS2.to (Keeps.refl [] _) (fun b h => by obtain ⟨_, _, _, h⟩ := h; exact h.elim))); rw [hsl.out] at hrs; go_simp <;> exact rfl); go_frame) | (apply Free.cw_pureW rfl rfl; (intro w'; go_simp <;> exact rfl); go_frame) | (apply Free.cw_steadyW rfl rfl rfl; (intro w' hS2; have z0 := Free.sx_cell hS2 c1 (fun _ _ hT => hT); have z1 := Free.sx_cell hS2 y0 (fun _ _ hT => hT); have hrs := run_str (hl0.out.keeps (hS2.to (Keeps.refl [] _) (fun b h => by obtain ⟨_, _, _, h⟩ := h; exact h.elim))); rw [hsl.out] at hrs; go_simp <;> exact rfl); go_frame) | (refine Free.cw_skip rfl ?_; go_frame)))
          have hsd2 := hsd.out.trans (if_neg hel)
          refine Free.cw_nil ?_
          clear y0 c1 fz1
          have hxs := setCs hbX9 0 (.slice none 0 0)
          have x0 := cells1 hbX9
          have hfx := frz hbX9
          simp only [List.setIfInBounds_toArray, List.set_cons_zero] at hxs
          have hkE2 : Keeps [X] V1 (V1.setCell ⟨X, 0, none⟩ (.slice none 0 0)) := (Keeps.refl _ _).setCell (p := ⟨X, 0, none⟩) (.inr (by simp)) _
          have hkG := hk9.out.fresh hkE2 (fun b hb => .inr (by simp at hb; omega))
          replace hsd2 := Lib.hid hsd2
          replace hkG := Lib.hid hkG
          replace hel := Lib.hid hel
          clear hkE2
          go_wp2
          refine bodyPost_ret (results_t2 rfl _ _ _ _ (.slice none 0 0) _ rfl hxs) rfl ?_
          exact ⟨.slice none 0 0, by rw [hsd2.out]; rfl, by rw [hsd2.out]; exact Sh.R.nil shR _, hkG.out⟩

    case pos =>
      have hlt2 : (k : Int) < N := by omega
      by_cases he : es = 0
      case neg =>
        have hfin : dR (rCK 1024 l).1 (rCK 1024 l).2 [] = some (T, (ls, es)) := by
          obtain ⟨q, hq⟩ : ∃ q, N - k = q + 1 := ⟨N - k - 1, by omega⟩
          rw [hNe.out, hsI.out, heq.out, hq]
          unfold dR
          rw [if_pos he]
        have he2 : (es == 0) = false := by simpa using he
        have he3 : (es != 0) = true := by simpa using he
        have hnone : sdecR l = none := by
          unfold sdecR
          rw [show dR (rCK 1024 l).1 (rCK 1024 l).2 [] = some (T, (ls, es)) from hfin]
          rw [outR_some, if_neg (fun h => he h.1)]
        replace hnone := Lib.hid hnone
        clear hfin
        go_wp2
        refine Free.wp_region_chain (fun i => i == 7 || i == 8) (fun i => true) (fun _ _ => False) (by kernel_rfl) (by kernel_rfl) (by kernel_rfl) ?_
        (repeat (first | (apply Free.cw_pure rfl rfl; (intro w'; go_simp <;> exact rfl); go_frame) | (apply Free.cw_steady rfl rfl rfl; (intro w' hS2; have z0 := Free.sx_cell hS2 c1 (fun _ _ hT => hT); have z1 := Free.sx_cell hS2 y0 (fun _ _ hT => hT); go_simp <;> exact rfl); go_frame) | (apply Free.cw_pureW rfl rfl; (intro w'; go_simp <;> exact rfl); go_frame) | (apply Free.cw_steadyW rfl rfl rfl; (intro w' hS2; have z0 := Free.sx_cell hS2 c1 (fun _ _ hT => hT); have z1 := Free.sx_cell hS2 y0 (fun _ _ hT => hT); go_simp <;> exact rfl); go_frame) | (refine Free.cw_skip rfl ?_; go_frame)))
        refine Free.cw_nil ?_
        have hxs := setCs hbXr.out 0 (.slice none 0 0)
        have x0 := cells1 hbXr.out
        have hfx := frz hbXr.out
        simp only [List.setIfInBounds_toArray, List.set_cons_zero] at hxs
        go_wp2
        refine bodyPost_ret (results_t2 rfl _ _ _ _ (.slice none 0 0) _ rfl hxs) rfl ?_
        have hkE2 : Keeps [X] wr (wr.setCell ⟨X, 0, none⟩ (.slice none 0 0)) := (Keeps.refl _ _).setCell (p := ⟨X, 0, none⟩) (.inr (by simp)) _
        exact ⟨.slice none 0 0, by rw [hnone.out]; rfl, by rw [hnone.out]; exact Sh.R.nil shR _, hkr.out.fresh hkE2.drew (fun b hb => .inr (by simp at hb; omega))⟩
      case pos =>
        subst he
        obtain ⟨s0, hs0⟩ : ∃ s : RS, (ls, (0 : Int)) = s := ⟨_, rfl⟩
        rw [hs0] at hRr heq
        have hse : s0.2 = 0 := by rw [← hs0]
        clear hs0
        have hRs := hRT
        replace hgT := Lib.hid hgT
        replace heq := Lib.hid heq.out
        replace hRs := Lib.hid hRs
        replace hse := Lib.hid hse
        clear hRT
        obtain ⟨⟨xa, s1⟩, h0⟩ : ∃ p, rU s0 = p := ⟨_, rfl⟩
        have hc0 := fun W h => small_c W br s0 h
        simp only [h0] at hc0
        obtain ⟨yxa, hyxa⟩ : ∃ z, smI xa = z := ⟨_, rfl⟩
        rw [hyxa] at hc0
        replace hc0 := Lib.hid hc0
        obtain ⟨⟨xb, s2⟩, h1⟩ : ∃ p, rU s1 = p := ⟨_, rfl⟩
        have hc1 := fun W h => uintRS_c W br s1 h
        simp only [h1] at hc1
        replace hc1 := Lib.hid hc1
        obtain ⟨⟨⟨xc, xm⟩, s3⟩, h2⟩ : ∃ p, rI s2 = p := ⟨_, rfl⟩
        have hc2 := fun W h => idRS_c W br s2 h
        simp only [h2] at hc2
        replace hc2 := Lib.hid hc2
        obtain ⟨⟨xd, s4⟩, h3⟩ : ∃ p, rU s3 = p := ⟨_, rfl⟩
        have hc3 := fun W h => small_c W br s3 h
        simp only [h3] at hc3
        obtain ⟨yxd, hyxd⟩ : ∃ z, smI xd = z := ⟨_, rfl⟩
        rw [hyxd] at hc3
        replace hc3 := Lib.hid hc3
        obtain ⟨⟨xe, s5⟩, h4⟩ : ∃ p, rU s4 = p := ⟨_, rfl⟩
        have hc4 := fun W h => small_c W br s4 h
        simp only [h4] at hc4
        obtain ⟨yxe, hyxe⟩ : ∃ z, smI xe = z := ⟨_, rfl⟩
        rw [hyxe] at hc4
        replace hc4 := Lib.hid hc4
        obtain ⟨⟨xf, s6⟩, h5⟩ : ∃ p, rU s5 = p := ⟨_, rfl⟩
        have hc5 := fun W h => small_c W br s5 h
        simp only [h5] at hc5
        obtain ⟨yxf, hyxf⟩ : ∃ z, smI xf = z := ⟨_, rfl⟩
        rw [hyxf] at hc5
        replace hc5 := Lib.hid hc5
        obtain ⟨⟨xg, s7⟩, h6⟩ : ∃ p, rB s6 = p := ⟨_, rfl⟩
        have hc6 := fun W h => boolRS_c W br s6 h
        simp only [h6] at hc6
        replace hc6 := Lib.hid hc6
        obtain ⟨⟨xh, s8⟩, h7⟩ : ∃ p, rB s7 = p := ⟨_, rfl⟩
        have hc7 := fun W h => boolRS_c W br s7 h
        simp only [h7] at hc7
        replace hc7 := Lib.hid hc7
        obtain ⟨⟨xi, s9⟩, h8⟩ : ∃ p, rB s8 = p := ⟨_, rfl⟩
        have hc8 := fun W h => boolRS_c W br s8 h
        simp only [h8] at hc8
        replace hc8 := Lib.hid hc8
        obtain ⟨⟨⟨xj, xl⟩, s10⟩, h9⟩ : ∃ p, rI s9 = p := ⟨_, rfl⟩
        have hc9 := fun W h => idRS_c W br s9 h
        simp only [h9] at hc9
        replace hc9 := Lib.hid hc9
        obtain ⟨⟨xk, s11⟩, h10⟩ : ∃ p, rU s10 = p := ⟨_, rfl⟩
        have hc10 := fun W h => small_c W br s10 h
        simp only [h10] at hc10
        obtain ⟨yxk, hyxk⟩ : ∃ z, smI xk = z := ⟨_, rfl⟩
        rw [hyxk] at hc10
        replace hc10 := Lib.hid hc10
        have hrow := rRowR_eq h0 h1 h2 h3 h4 h5 h6 h7 h8 h9 h10
        rw [hyxa, hyxd, hyxe, hyxf, hyxk] at hrow
        have hrok := rRowR_ok s0
        rw [hrow] at hrok
        simp only at hrok
        replace hrow := Lib.hid hrow
        clear h0 h1 h2 h3 h4 h5 h6 h7 h8 h9 h10 hyxa hyxd hyxe hyxf hyxk
        go_wp2_with fail
        refine (hc0.out wr (hRr.out)).mono ?_
        rintro ee V1 ⟨rfl, hR, hk⟩
        obtain ⟨Z, hZ⟩ : ∃ Z, V1.heap.size = Z := ⟨_, rfl⟩
        have hbz := heap_alloc_new V1 (.cells #[.int .i64 yxa, .int .u64 0, .int .i64 0, .int .i64 0, .int .i64 0, .int .i64 0, .int .i64 0, .bool false, .bool false, .bool false, .int .i64 0, .int .i64 0] tE)
        have hkA : Keeps [] V1 (V1.alloc (.cells #[.int .i64 yxa, .int .u64 0, .int .i64 0, .int .i64 0, .int .i64 0, .int .i64 0, .int .i64 0, .bool false, .bool false, .bool false, .int .i64 0, .int .i64 0] tE)) := (Keeps.refl _ _).alloc _
        have hZbr : Z ≠ br := by have := hR.lt; omega
        have hzZ : wr.heap.size ≤ Z := by have := hk.size; omega
        rw [hZ] at hbz
        have hZ1 := Lib.hid hbz
        have hR1 := Lib.hid (hR.keeps hkA)
        have hK1 := Lib.hid (hk.trans hkA.of_nil)
        clear hR hk hbz hkA hc0
        go_wp2_with fail
        generalize V1.alloc (.cells #[.int .i64 yxa, .int .u64 0, .int .i64 0, .int .i64 0, .int .i64 0, .int .i64 0, .int .i64 0, .bool false, .bool false, .bool false, .int .i64 0, .int .i64 0] tE) = U1 at *
        (try clear n0 n1 n2 n3 n4 n5 n6 n7 n8 n9 n10 n11 hfz)
        refine (hc1.out U1 hR1.out).mono ?_
        rintro ee V2 ⟨rfl, hR, hk⟩
        have hz := (hk.block Z (lt_of_blk hZ1.out) (by simpa using hZbr)).trans hZ1.out
        obtain ⟨n0, n1, n2, n3, n4, n5, n6, n7, n8, n9, n10, n11, _⟩ := cells12 hz
        have hfz := frz hz
        have hz3 := setCs hz 1 (.int .u64 xb)
        simp only [List.setIfInBounds_toArray, List.set_cons_succ, List.set_cons_zero] at hz3
        have hk3 : Keeps [Z] V2 (V2.setCell ⟨Z, 1, none⟩ (.int .u64 xb)) := (Keeps.refl _ _).setCell (p := ⟨Z, 1, none⟩) (.inr (by simp)) _
        have hR2 := Lib.hid (hR.setZ hz hZbr 1 _ rfl (by simp) (.int .u64 xb))
        have hZ2 := Lib.hid hz3
        have hK2 := Lib.hid ((hK1.out.trans hk).fresh hk3 (fun b hb => .inr (by simp at hb; omega)))
        clear hR hk hz hz3 hk3 hZ1 hR1 hK1 hc1
        go_wp2_with fail
        generalize V2.setCell ⟨Z, 1, none⟩ (.int .u64 xb) = U2 at *
        (try clear n0 n1 n2 n3 n4 n5 n6 n7 n8 n9 n10 n11 hfz)
        refine (hc2.out U2 hR2.out).mono ?_
        rintro ee V3 ⟨rfl, hR, hk⟩
        have hz := (hk.block Z (lt_of_blk hZ2.out) (by simpa using hZbr)).trans hZ2.out
        obtain ⟨n0, n1, n2, n3, n4, n5, n6, n7, n8, n9, n10, n11, _⟩ := cells12 hz
        have hfz := frz hz
        obtain ⟨hz3, hk3⟩ := st2i (x0 := .int .i64 xc) (x1 := .int .i64 xm) hz
        have hR3 := Lib.hid ((hR.setZ hz hZbr 2 _ rfl (by simp) (.int .i64 xc)).setZ (by simpa using setCs hz 2 (.int .i64 xc)) hZbr 3 _ rfl (by simp) (.int .i64 xm))
        simp only [idV]
        have hZ3 := Lib.hid hz3
        have hK3 := Lib.hid ((hK2.out.trans hk).fresh hk3 (fun b hb => .inr (by simp at hb; omega)))
        clear hR hk hz hz3 hk3 hZ2 hR2 hK2 hc2
        go_wp2_with fail
        generalize (V3.setCell ⟨Z, 2, none⟩ (.int .i64 xc)).setCell ⟨Z, 3, none⟩ (.int .i64 xm) = U3 at *
        (try clear n0 n1 n2 n3 n4 n5 n6 n7 n8 n9 n10 n11 hfz)
        refine (hc3.out U3 hR3.out).mono ?_
        rintro ee V4 ⟨rfl, hR, hk⟩
        have hz := (hk.block Z (lt_of_blk hZ3.out) (by simpa using hZbr)).trans hZ3.out
        obtain ⟨n0, n1, n2, n3, n4, n5, n6, n7, n8, n9, n10, n11, _⟩ := cells12 hz
        have hfz := frz hz
        have hz3 := setCs hz 4 (.int .i64 yxd)
        simp only [List.setIfInBounds_toArray, List.set_cons_succ, List.set_cons_zero] at hz3
        have hk3 : Keeps [Z] V4 (V4.setCell ⟨Z, 4, none⟩ (.int .i64 yxd)) := (Keeps.refl _ _).setCell (p := ⟨Z, 4, none⟩) (.inr (by simp)) _
        have hR4 := Lib.hid (hR.setZ hz hZbr 4 _ rfl (by simp) (.int .i64 yxd))
        have hZ4 := Lib.hid hz3
        have hK4 := Lib.hid ((hK3.out.trans hk).fresh hk3 (fun b hb => .inr (by simp at hb; omega)))
        clear hR hk hz hz3 hk3 hZ3 hR3 hK3 hc3
        go_wp2_with fail
        generalize V4.setCell ⟨Z, 4, none⟩ (.int .i64 yxd) = U4 at *
        (try clear n0 n1 n2 n3 n4 n5 n6 n7 n8 n9 n10 n11 hfz)
        refine (hc4.out U4 hR4.out).mono ?_
        rintro ee V5 ⟨rfl, hR, hk⟩
        have hz := (hk.block Z (lt_of_blk hZ4.out) (by simpa using hZbr)).trans hZ4.out
        obtain ⟨n0, n1, n2, n3, n4, n5, n6, n7, n8, n9, n10, n11, _⟩ := cells12 hz
        have hfz := frz hz
        have hz3 := setCs hz 5 (.int .i64 yxe)
        simp only [List.setIfInBounds_toArray, List.set_cons_succ, List.set_cons_zero] at hz3
        have hk3 : Keeps [Z] V5 (V5.setCell ⟨Z, 5, none⟩ (.int .i64 yxe)) := (Keeps.refl _ _).setCell (p := ⟨Z, 5, none⟩) (.inr (by simp)) _
        have hR5 := Lib.hid (hR.setZ hz hZbr 5 _ rfl (by simp) (.int .i64 yxe))
        have hZ5 := Lib.hid hz3
        have hK5 := Lib.hid ((hK4.out.trans hk).fresh hk3 (fun b hb => .inr (by simp at hb; omega)))
        clear hR hk hz hz3 hk3 hZ4 hR4 hK4 hc4
        go_wp2_with fail
        generalize V5.setCell ⟨Z, 5, none⟩ (.int .i64 yxe) = U5 at *
        (try clear n0 n1 n2 n3 n4 n5 n6 n7 n8 n9 n10 n11 hfz)
        refine (hc5.out U5 hR5.out).mono ?_
        rintro ee V6 ⟨rfl, hR, hk⟩
        have hz := (hk.block Z (lt_of_blk hZ5.out) (by simpa using hZbr)).trans hZ5.out
        obtain ⟨n0, n1, n2, n3, n4, n5, n6, n7, n8, n9, n10, n11, _⟩ := cells12 hz
        have hfz := frz hz
        have hz3 := setCs hz 6 (.int .i64 yxf)
        simp only [List.setIfInBounds_toArray, List.set_cons_succ, List.set_cons_zero] at hz3
        have hk3 : Keeps [Z] V6 (V6.setCell ⟨Z, 6, none⟩ (.int .i64 yxf)) := (Keeps.refl _ _).setCell (p := ⟨Z, 6, none⟩) (.inr (by simp)) _
        have hR6 := Lib.hid (hR.setZ hz hZbr 6 _ rfl (by simp) (.int .i64 yxf))
        have hZ6 := Lib.hid hz3
        have hK6 := Lib.hid ((hK5.out.trans hk).fresh hk3 (fun b hb => .inr (by simp at hb; omega)))
        clear hR hk hz hz3 hk3 hZ5 hR5 hK5 hc5
        go_wp2_with fail
        generalize V6.setCell ⟨Z, 6, none⟩ (.int .i64 yxf) = U6 at *
        (try clear n0 n1 n2 n3 n4 n5 n6 n7 n8 n9 n10 n11 hfz)
        refine (hc6.out U6 hR6.out).mono ?_
        rintro ee V7 ⟨rfl, hR, hk⟩
        have hz := (hk.block Z (lt_of_blk hZ6.out) (by simpa using hZbr)).trans hZ6.out
        obtain ⟨n0, n1, n2, n3, n4, n5, n6, n7, n8, n9, n10, n11, _⟩ := cells12 hz
        have hfz := frz hz
        have hz3 := setCs hz 7 (.bool xg)
        simp only [List.setIfInBounds_toArray, List.set_cons_succ, List.set_cons_zero] at hz3
        have hk3 : Keeps [Z] V7 (V7.setCell ⟨Z, 7, none⟩ (.bool xg)) := (Keeps.refl _ _).setCell (p := ⟨Z, 7, none⟩) (.inr (by simp)) _
        have hR7 := Lib.hid (hR.setZ hz hZbr 7 _ rfl (by simp) (.bool xg))
        have hZ7 := Lib.hid hz3
        have hK7 := Lib.hid ((hK6.out.trans hk).fresh hk3 (fun b hb => .inr (by simp at hb; omega)))
        clear hR hk hz hz3 hk3 hZ6 hR6 hK6 hc6
        go_wp2_with fail
        generalize V7.setCell ⟨Z, 7, none⟩ (.bool xg) = U7 at *
        (try clear n0 n1 n2 n3 n4 n5 n6 n7 n8 n9 n10 n11 hfz)
        refine (hc7.out U7 hR7.out).mono ?_
        rintro ee V8 ⟨rfl, hR, hk⟩
        have hz := (hk.block Z (lt_of_blk hZ7.out) (by simpa using hZbr)).trans hZ7.out
        obtain ⟨n0, n1, n2, n3, n4, n5, n6, n7, n8, n9, n10, n11, _⟩ := cells12 hz
        have hfz := frz hz
        have hz3 := setCs hz 8 (.bool xh)
        simp only [List.setIfInBounds_toArray, List.set_cons_succ, List.set_cons_zero] at hz3
        have hk3 : Keeps [Z] V8 (V8.setCell ⟨Z, 8, none⟩ (.bool xh)) := (Keeps.refl _ _).setCell (p := ⟨Z, 8, none⟩) (.inr (by simp)) _
        have hR8 := Lib.hid (hR.setZ hz hZbr 8 _ rfl (by simp) (.bool xh))
        have hZ8 := Lib.hid hz3
        have hK8 := Lib.hid ((hK7.out.trans hk).fresh hk3 (fun b hb => .inr (by simp at hb; omega)))
        clear hR hk hz hz3 hk3 hZ7 hR7 hK7 hc7
        go_wp2_with fail
        generalize V8.setCell ⟨Z, 8, none⟩ (.bool xh) = U8 at *
        (try clear n0 n1 n2 n3 n4 n5 n6 n7 n8 n9 n10 n11 hfz)
        refine (hc8.out U8 hR8.out).mono ?_
        rintro ee V9 ⟨rfl, hR, hk⟩
        have hz := (hk.block Z (lt_of_blk hZ8.out) (by simpa using hZbr)).trans hZ8.out
        obtain ⟨n0, n1, n2, n3, n4, n5, n6, n7, n8, n9, n10, n11, _⟩ := cells12 hz
        have hfz := frz hz
        have hz3 := setCs hz 9 (.bool xi)
        simp only [List.setIfInBounds_toArray, List.set_cons_succ, List.set_cons_zero] at hz3
        have hk3 : Keeps [Z] V9 (V9.setCell ⟨Z, 9, none⟩ (.bool xi)) := (Keeps.refl _ _).setCell (p := ⟨Z, 9, none⟩) (.inr (by simp)) _
        have hR9 := Lib.hid (hR.setZ hz hZbr 9 _ rfl (by simp) (.bool xi))
        have hZ9 := Lib.hid hz3
        have hK9 := Lib.hid ((hK8.out.trans hk).fresh hk3 (fun b hb => .inr (by simp at hb; omega)))
        clear hR hk hz hz3 hk3 hZ8 hR8 hK8 hc8
        go_wp2_with fail
        generalize V9.setCell ⟨Z, 9, none⟩ (.bool xi) = U9 at *
        (try clear n0 n1 n2 n3 n4 n5 n6 n7 n8 n9 n10 n11 hfz)
        refine (hc9.out U9 hR9.out).mono ?_
        rintro ee V10 ⟨rfl, hR, hk⟩
        have hz := (hk.block Z (lt_of_blk hZ9.out) (by simpa using hZbr)).trans hZ9.out
        have hkA : Keeps [] V10 (V10.alloc (.cells #[.int .i64 xj, .int .i64 xl] tID)) := (Keeps.refl _ _).alloc _
        have hz2 := (hkA.block Z (lt_of_blk hz) (by simp)).trans hz
        have hbL := heap_alloc_new V10 (.cells #[.int .i64 xj, .int .i64 xl] tID)
        have hR2 := hR.keeps hkA
        have hk2 := hk.trans hkA.of_nil
        obtain ⟨n0, n1, n2, n3, n4, n5, n6, n7, n8, n9, n10, n11, _⟩ := cells12 hz2
        have hfz := frz hz2
        obtain ⟨hz3, hk3⟩ := st2o (x0 := .int .i64 xj) (x1 := .int .i64 xl) hz2
        have hR10 := Lib.hid ((hR2.setZ hz2 hZbr 10 _ rfl (by simp) (.int .i64 xj)).setZ (by simpa using setCs hz2 10 (.int .i64 xj)) hZbr 11 _ rfl (by simp) (.int .i64 xl))
        have hZ10 := Lib.hid hz3
        have hK10 := Lib.hid ((hK9.out.trans hk2).fresh hk3 (fun b hb => .inr (by simp at hb; omega)))
        clear hR hk hz hkA hz2 hbL hR2 hk2 hz3 hk3 hZ9 hR9 hK9 hc9
        simp only [idV]
        go_wp2_with fail
        generalize ((V10.alloc (.cells #[.int .i64 xj, .int .i64 xl] tID)).setCell ⟨Z, 10, none⟩ (.int .i64 xj)).setCell ⟨Z, 11, none⟩ (.int .i64 xl) = U10 at *
        (try clear n0 n1 n2 n3 n4 n5 n6 n7 n8 n9 n10 n11 hfz)
        refine (hc10.out U10 hR10.out).mono ?_
        rintro ee V11 ⟨rfl, hR, hk⟩
        have hz := (hk.block Z (lt_of_blk hZ10.out) (by simpa using hZbr)).trans hZ10.out
        have hR11 := Lib.hid hR
        have hZ11 := Lib.hid hz
        have hK11 := Lib.hid (hK10.out.trans hk)
        clear hR hk hz hZ10 hR10 hK10 hc10
        obtain ⟨av, cv, rfl, _⟩ := hRs.out.form
        obtain ⟨NT, hNT⟩ : ∃ n, T.length = n := ⟨_, rfl⟩
        obtain ⟨vr, hrd⟩ := hRr.out
        have hRb := fun (hne : T ≠ []) => R_small hRs.out hrd.1 (by simp) hne
        have hRT11 := hRs.out.keepE hK11.out (fun b hb hne => by simp at hb; subst hb; exact hRb hne)
        have hbY11 := (hK11.out.block (br + 1) (lt_of_blk hbY) (by simp)).trans hbY
        have had := addR_c V11 _ T (⟨yxa, xb, xc, xm, yxd, yxe, yxf, xg, xh, xi, xj, xl⟩ : En) yxk hRT11 hgT.out.len
        obtain ⟨⟨q1, q2⟩, hq⟩ : ∃ q, addS (⟨yxa, xb, xc, xm, yxd, yxe, yxf, xg, xh, xi, xj, xl⟩ : En) yxk T = q := ⟨_, rfl⟩
        rw [hq] at had
        rw [hNT] at had hbY11
        simp only [tbV, enV] at had
        have y0 := cells1 hbY11
        obtain ⟨n0, n1, n2, n3, n4, n5, n6, n7, n8, n9, n10, n11, _⟩ := cells12 hZ11.out
        replace had := Lib.hid had
        replace hbY11 := Lib.hid hbY11
        replace hq := Lib.hid hq
        replace hNT := Lib.hid hNT
        clear hRT11 hrd hRb
        go_wp2_with fail
        refine had.out.mono ?_
        rintro ee V12 ⟨v12, rfl, hR12, hk12⟩
        obtain ⟨a12, c12, rfl, _⟩ := hR12.form
        obtain ⟨N12, hN12⟩ : ∃ n, q2.length = n := ⟨_, rfl⟩
        rw [hN12] at hR12 ⊢
        have hkU : Keeps [] V12 (V12.alloc (.cells #[.slice a12 N12 c12] tTb)) := (Keeps.refl _ _).alloc _
        have hRU := hR12.keeps hkU
        have hbYU := ((hk12.trans hkU).block (br + 1) (lt_of_blk hbY11.out) (by simp)).trans hbY11.out
        have hRrU := hR11.out.keeps (hk12.trans hkU)
        have hKU := (hK11.out.trans hk12.of_nil).trans hkU.of_nil
        have hbXU := (hKU.block X (lt_of_blk hbXr.out) (by simp; omega)).trans hbXr.out
        have hkwU := hkr.out.fresh hKU (fun b hb => .inr (by simp at hb; omega))
        have hyk := frz hbYU
        have hxk := frz hbXU
        have y1 := cells1 hbYU
        have x1 := cells1 hbXU
        replace hRU := Lib.hid hRU
        replace hbYU := Lib.hid hbYU
        replace hRrU := Lib.hid hRrU
        replace hbXU := Lib.hid hbXU
        replace hkwU := Lib.hid hkwU
        replace hN12 := Lib.hid hN12
        clear hR12 hkU hk12 hKU hbY11 hR11 hZ11 y0 n0 n1 n2 n3 n4 n5 n6 n7 n8 n9 n10 n11 had
        have hstep : dR (N - k) s0 T = if q1 ≠ 0 then none else dR (N - (k + 1)) s11 q2 := by
          obtain ⟨j, hj⟩ : ∃ j, N - k = j + 1 := ⟨N - k - 1, by omega⟩
          rw [hj, show N - (k + 1) = j by omega]
          conv => lhs; unfold dR
          rw [if_neg (by rw [hse.out]; simp), hrow.out]
          simp only
          rw [hq.out]
        replace hstep := Lib.hid hstep
        by_cases hq0 : q1 = 0
        · subst hq0
          have hdr : Hid (dR N sI [] = dR (N - (k + 1)) s11 q2) := Lib.hid (by rw [heq.out, hstep.out, if_neg (by simp)])
          have hgd : Good q2 := by
            have := hgT.out.add (e := (⟨yxa, xb, xc, xm, yxd, yxe, yxf, xg, xh, xi, xj, xl⟩ : En)) (h := yxk) hrok.1 hrok.2
            rw [hq.out] at this
            exact this
          have hys := setCs hbYU.out 0 (.slice a12 N12 c12)
          simp only [List.setIfInBounds_toArray, List.set_cons_zero] at hys
          have hkV : Keeps [br + 1] (V12.alloc (.cells #[.slice a12 N12 c12] tTb)) ((V12.alloc (.cells #[.slice a12 N12 c12] tTb)).setCell ⟨br + 1, 0, none⟩ (.slice a12 N12 c12)) := (Keeps.refl _ _).setCell (p := ⟨br + 1, 0, none⟩) (.inr (by simp)) _
          have hRV := hRU.out.keepE hkV (fun b hb hne => by simp at hb; subst hb; exact R_box hRU.out hbYU.out hne)
          have hRrV := hRrU.out.setZ hbYU.out (by omega) 0 _ rfl (by simp) (.slice a12 N12 c12)
          have hbXV := (hkV.block X (lt_of_blk hbXU.out) (by simp; omega)).trans hbXU.out
          have hkwV := hkwU.out.fresh hkV (fun b hb => .inr (by simp at hb; omega))
          replace hgd := Lib.hid hgd
          replace hys := Lib.hid hys
          replace hRV := Lib.hid hRV
          replace hRrV := Lib.hid hRrV
          replace hbXV := Lib.hid hbXV
          replace hkwV := Lib.hid hkwV
          clear hkV hRU hbYU hRrU hbXU hkwU
          go_wp2
          go_roundw
          case rel => exact ⟨k + 1, s11, q2, _, rfl, by omega, hRrV.out, hys.out, hRV.out, hgd.out, hdr, hkwV, hbXV⟩
          case measure => simp [intOf]; omega
        · have hqb : (q1 == 0) = false := by simpa using hq0
          have hqb2 : (q1 != 0) = true := by simpa using hq0
          have hnone : sdecR l = none := by
            unfold sdecR
            rw [hNe.out, hsI.out, heq.out, hstep.out, if_pos hq0]; rfl
          have hxs := setCs hbXU.out 0 (.slice none 0 0)
          simp only [List.setIfInBounds_toArray, List.set_cons_zero] at hxs
          have hkE2 : Keeps [X] (V12.alloc (.cells #[.slice a12 N12 c12] tTb)) ((V12.alloc (.cells #[.slice a12 N12 c12] tTb)).setCell ⟨X, 0, none⟩ (.slice none 0 0)) := (Keeps.refl _ _).setCell (p := ⟨X, 0, none⟩) (.inr (by simp)) _
          have hkG := hkwU.out.fresh hkE2 (fun b hb => .inr (by simp at hb; omega))
          replace hnone := Lib.hid hnone
          replace hkG := Lib.hid hkG
          clear hkE2
          go_wp2
          refine bodyPost_ret (results_t2 rfl _ _ _ _ (.slice none 0 0) _ rfl hxs) rfl ?_
          exact ⟨.slice none 0 0, by rw [hnone.out]; rfl, by rw [hnone.out]; exact Sh.R.nil shR _, hkG.out⟩

end Go.Proofs.YtblaaafpglomnaaGreat

namespace Go.Proofs.YtblaaafpglomnaaGreat
open Go Go.RowKit
attribute [local go_sem] Oper.semAt_some

/-- The facts of a line's operations. -/
def DeF (L : List En) (B : List UInt8) (i : Nat) (v : Value) (w : World) : Prop := (i = 15 → SlB w v B) ∧ (i = 8 ∨ i = 10 → shE.R w v L) ∧ (i = 11 ∨ i = 22 → v = .bool true)
theorem DeF.keep {L : List En} {B : List UInt8} {i : Nat} {v : Value} {w w' : World} (h : DeF L B i v w) (hk : Free.KeepsP (fun _ => False) w w') : DeF L B i v w' :=
  have k : Keeps [] w w' := hk.to (Keeps.refl [] w) (fun _ h => h.elim)
  ⟨fun e => (h.1 e).keeps k, fun e => (h.2.1 e).keeps k, h.2.2⟩
theorem DeF.s {L : List En} {B : List UInt8} {v : Value} {w : World} (h : SlB w v B) : DeF L B 15 v w := ⟨fun _ => h, fun e => by omega, fun e => by omega⟩
theorem DeF.l {L : List En} {B : List UInt8} {i : Nat} {v : Value} {w : World} (hi : i = 8 ∨ i = 10) (h : shE.R w v L) : DeF L B i v w := ⟨fun e => by omega, fun _ => h, fun e => by omega⟩
theorem DeF.b {L : List En} {B : List UInt8} {i : Nat} {w : World} (hi : i = 11 ∨ i = 22) : DeF L B i (.bool true) w := ⟨fun e => by omega, fun e => by omega, fun _ => rfl⟩
set_option maxRecDepth 100000 in
set_option maxHeartbeats 16000000 in
theorem decodes_c (w : World) (v0 : Value) (l : List UInt8) (h : SlB w v0 l) :
    Calls Tryz.prog 3 #[v0] w fun e w' => e = .returned (.bool true) ∧ Keeps [] w w' := by
  have hcap := h.cap
  obtain ⟨a0, c0, rfl⟩ := h.form
  obtain ⟨M, hM⟩ : ∃ N, l.length = N := ⟨_, rfl⟩
  rw [hM] at h hcap ⊢
  have hMx : M ≤ 9223372036854775807 := by unfold Go.maxLen at hcap; omega
  have haw := fun W => awake_c W
  replace hM := Lib.hid hM
  replace h := Lib.hid h
  replace haw := Lib.hid haw
  by_cases hbig : 2000 < M
  · have hb2 : (2000 : Int) < M := by omega
    go_enter Tryz.func3, Tryz.ntmps3
    go_wp2_with fail
    refine (haw.out _).mono ?_
    rintro e w1 ⟨rfl, hk1⟩
    replace hk1 := Lib.hid hk1
    go_wp2
    go_ret
    exact ⟨rfl, hk1.out⟩
  have hb2 : decide ((2000 : Int) < M) = false := by simp; omega
  have hdc := decode_c w _ l h.out (by rw [hM.out]; omega)
  have hdr := fun W (hk : Keeps [] w W) => decodeR_c W _ l (h.out.keeps hk) (by rw [hM.out]; omega)
  rw [dec_agree] at hdc
  have hde := fun S (hs : sdecR l = some S) => sdecR_inv hs
  cases hd : sdecR l with
  | none =>
    rw [hd] at hdc
    have hdc2 := hdc.mono (R' := fun e w' => e = .returned (.tuple #[.pointer none, .int .i64 11]) ∧ Keeps [] w w') (fun e w' hp => by
      rcases hp with ⟨_, h2, h3⟩ | ⟨S9, _, _, h1, _⟩
      · exact ⟨h2, h3⟩
      · cases h1)
    have hdr2 := fun W (hk : Keeps [] w W) => (hdr W hk).mono (R' := fun e w' => ∃ a c, e = .returned (.tuple #[tbV (.slice a 0 c), .bool false]) ∧ Keeps [] W w') (fun e w' hp => by
      obtain ⟨v, h1, h2, h3⟩ := hp
      rw [hd] at h1 h2
      obtain ⟨a, c, rfl, _⟩ := h2.form
      exact ⟨a, c, h1, h3⟩)
    replace hdc2 := Lib.hid hdc2
    replace hdr2 := Lib.hid hdr2
    clear hdc hdr hde
    replace hd := Lib.hid hd
    go_enter Tryz.func3, Tryz.ntmps3
    go_wp2_with fail
    refine hdc2.out.mono ?_
    rintro e w1 ⟨rfl, k1⟩
    replace k1 := Lib.hid k1
    go_wp2_with fail
    refine (hdr2.out w1 k1.out).mono ?_
    rintro e w2 ⟨a2, c2, rfl, k2⟩
    have hkC : Keeps [] w2 (w2.alloc (.cells #[.slice a2 0 c2] tTb)) := (Keeps.refl _ _).alloc _
    have hk2 := Lib.hid ((k1.out.trans k2).trans hkC)
    clear k2 hkC
    go_wp2_with fail
    refine (haw.out _).mono ?_
    rintro e w7 ⟨rfl, hk7⟩
    replace hk7 := Lib.hid hk7
    go_wp2
    go_ret
    exact ⟨rfl, hk2.out.trans hk7.out⟩
  | some S =>
    rw [hd] at hdc
    obtain ⟨hgS, hBE⟩ := hde S hd
    have hdc2 := hdc.mono (R' := fun e w' => ∃ bt bm, e = .returned (.tuple #[.pointer (some ⟨bt, 0, none⟩), .int .i64 0]) ∧ TM w' bt bm S ∧ Keeps [] w w') (fun e w' hp => by
      rcases hp with ⟨h1, _⟩ | ⟨S9, bt, bm, h1, h2, h3, _, h4, _⟩
      · cases h1
      · cases h1; exact ⟨bt, bm, h2, h3, h4⟩)
    have hdr2 := fun W (hk : Keeps [] w W) => (hdr W hk).mono (R' := fun e w' => ∃ v, e = .returned (.tuple #[tbV v, .bool true]) ∧ shR.R w' v S ∧ Keeps [] W w') (fun e w' hp => by
      obtain ⟨v, h1, h2, h3⟩ := hp
      rw [hd] at h1 h2
      exact ⟨v, h1, h2, h3⟩)
    replace hdc2 := Lib.hid hdc2
    replace hdr2 := Lib.hid hdr2
    replace hgS := Lib.hid hgS
    clear hdc hdr hde
    replace hd := Lib.hid hd
    go_enter Tryz.func3, Tryz.ntmps3
    go_wp2_with fail
    refine hdc2.out.mono ?_
    rintro e w1 ⟨bt, bm, rfl, t1, k1⟩
    replace k1 := Lib.hid k1
    replace t1 := Lib.hid t1
    go_wp2_with fail
    refine (hdr2.out w1 k1.out).mono ?_
    rintro e w2 ⟨v2, rfl, hR2, k2⟩
    obtain ⟨a2, c2, rfl, _⟩ := hR2.form
    obtain ⟨SL, hSL⟩ : ∃ n, S.length = n := ⟨_, rfl⟩
    rw [hSL] at hR2 ⊢
    have hgl := hgS.out.len
    have hkC : Keeps [] w2 (w2.alloc (.cells #[.slice a2 SL c2] tTb)) := (Keeps.refl _ _).alloc _
    have hbY := heap_alloc_new w2 (.cells #[.slice a2 SL c2] tTb)
    have hkW := (k1.out.trans k2).trans hkC
    have tt := t1.out.keeps (k2.trans hkC)
    have hRT := hR2.keeps hkC
    have hSb := h.out.keeps hkW
    obtain ⟨Y, hY⟩ : ∃ Y, w2.heap.size = Y := ⟨_, rfl⟩
    rw [hY] at hbY
    replace hkW := Lib.hid hkW
    replace tt := Lib.hid tt
    replace hRT := Lib.hid hRT
    replace hSb := Lib.hid hSb
    replace hbY := Lib.hid hbY
    replace hSL := Lib.hid hSL
    clear t1 k1 k2 hR2 hkC hdr2 hdc2
    go_wp2
    try rw [hY]
    generalize w2.alloc (.cells #[.slice a2 SL c2] tTb) = W at *
    have y0 := cells1 hbY.out
    obtain ⟨LE, hLE⟩ : ∃ L, lst S = L := ⟨_, rfl⟩
    obtain ⟨BE, hBE2⟩ : ∃ L, encS S = L := ⟨_, rfl⟩
    obtain ⟨sb, hsb⟩ : ∃ s, Hid (str BE = s) := ⟨_, Lib.hid rfl⟩
    have hen := fun W' (hk : Keeps [] W W') => encode_c W' bt bm S (tt.out.keeps hk) hgS.out
    have hlt := fun W' (hk : Keeps [] W W') => list_c W' bt bm S (tt.out.keeps hk) hgS.out
    have hlu := fun W' (hk : Keeps [] W W') => listR_c W' _ S (hRT.out.keeps hk) (by omega)
    simp only [hBE2] at hen
    simp only [hLE, tbV] at hlt hlu
    rw [hBE2] at hBE
    rw [← hBE] at hSb
    replace hen := Lib.hid hen
    replace hlu := Lib.hid hlu
    replace hlt := Lib.hid hlt
    replace hBE := Lib.hid hBE
    clear hRT tt hbY hLE hBE2 hgl
    refine Free.wp_region_free (by kernel_rfl) (by kernel_rfl) (fun i => i == 8 || i == 10 || i == 11 || i == 15 || i == 22) (DeF LE BE) (fun _ _ => False) (fun _ _ => false) (fun i k v w w2 _ _ _ _ hF hk => hF.keep hk) ?_
    (apply Free.walk_quiet rfl rfl; (intro w' hg hf; clear hf; go_simp <;> exact rfl))
    go_frame
    (apply Free.walk_quiet rfl rfl; (intro w' hg hf; clear hf; go_simp <;> exact rfl))
    go_frame
    (apply Free.walk_quiet rfl rfl; (intro w' hg hf; clear hf; go_simp <;> exact rfl))
    go_frame
    (apply Free.walk_quiet rfl rfl; (intro w' hg hf; clear hf; go_simp <;> exact rfl))
    go_frame
    (apply Free.walk_quiet rfl rfl; (intro w' hg hf; clear hf; go_simp <;> exact rfl))
    go_frame
    (apply Free.walk_quiet rfl rfl; (intro w' hg hf; clear hf; go_simp <;> exact rfl))
    go_frame
    (apply Free.walk_quiet rfl rfl; (intro w' hg hf; clear hf; go_simp <;> exact rfl))
    go_frame
    (apply Free.walk_quiet rfl rfl; (intro w' hg hf; clear hf; go_simp <;> exact rfl))
    go_frame
    apply Free.walk_loud rfl rfl
    · intro w' hg hf
      have hkw : Keeps [] W w' := hg.to ((Keeps.refl [] W).drew) (fun b h => by obtain ⟨_, _, _, h⟩ := h; exact h.elim)
      clear hf hg
      go_simp
      refine (hlt.out w' hkw).mono ?_
      rintro e w2 ⟨v, rfl, hO, k2⟩
      exact ⟨_, rfl, DeF.l (.inl rfl) hO.r, Free.KeepsP.of k2 (by simp)⟩
    intro v8
    go_frame
    apply Free.walk_quiet rfl rfl
    · intro w' hg hf; clear hf
      have r0 := (hg.cell _ _ (lt_of_cell y0) (fun h => by obtain ⟨_, _, _, h⟩ := h; exact h.elim)).trans y0
      go_simp <;> exact rfl
    go_frame
    apply Free.walk_loud rfl rfl
    · intro w' hg hf
      have hkw : Keeps [] W w' := hg.to ((Keeps.refl [] W).drew) (fun b h => by obtain ⟨_, _, _, h⟩ := h; exact h.elim)
      clear hf hg
      go_simp
      refine (hlu.out w' hkw).mono ?_
      rintro e w2 ⟨v, rfl, hO, k2⟩
      exact ⟨_, rfl, DeF.l (.inr rfl) hO.r, Free.KeepsP.of k2 (by simp)⟩
    intro v10
    go_frame
    apply Free.walk_loud rfl rfl
    · intro w' hg hf
      have hkw : Keeps [] W w' := hg.to ((Keeps.refl [] W).drew) (fun b h => by obtain ⟨_, _, _, h⟩ := h; exact h.elim)
      have h8 : DeF LE BE 8 v8 w' := by simpa using hf 8 (by decide) (by kernel_rfl)
      have h10 : DeF LE BE 10 v10 w' := by simpa using hf 10 (by decide) (by kernel_rfl)
      clear hf hg
      go_simp
      refine (sameE_c w' _ _ LE LE (h8.2.1 (.inl rfl)) (h10.2.1 (.inr rfl))).mono ?_
      rw [decide_eq_true rfl]
      rintro e w2 ⟨rfl, k2⟩
      exact ⟨_, rfl, DeF.b (.inl rfl), Free.KeepsP.of k2 (by simp)⟩
    intro v11
    go_frame
    refine Free.walk_quiet (c := .bool true) rfl rfl ?_ ?_
    · intro w' hg hf
      have h11 : DeF LE BE 11 v11 w' := by simpa using hf 11 (by decide) (by kernel_rfl)
      have e11 := h11.2.2 (.inl rfl)
      clear hf h11
      subst e11
      go_simp <;> exact rfl
    go_frame
    (apply Free.walk_quiet rfl rfl; (intro w' hg hf; clear hf; go_simp <;> exact rfl))
    go_frame
    (apply Free.walk_quiet rfl rfl; (intro w' hg hf; clear hf; go_simp <;> exact rfl))
    go_frame
    apply Free.walk_loud rfl rfl
    · intro w' hg hf
      have hkw : Keeps [] W w' := hg.to ((Keeps.refl [] W).drew) (fun b h => by obtain ⟨_, _, _, h⟩ := h; exact h.elim)
      clear hf hg
      go_simp
      refine (hen.out w' hkw).mono ?_
      rintro e w2 ⟨v, rfl, hB, k2⟩
      exact ⟨_, rfl, DeF.s hB.slB, Free.KeepsP.of k2 (by simp)⟩
    intro v15
    go_frame
    refine Free.walk_quiet (c := .string sb) rfl rfl ?_ ?_
    · intro w' hg hf
      have h15 : DeF LE BE 15 v15 w' := by simpa using hf 15 (by decide) (by kernel_rfl)
      have hrs := run_str (h15.1 rfl)
      clear hf hg h15
      rw [hsb.out] at hrs
      go_simp <;> exact rfl
    go_frame
    (apply Free.walk_quiet rfl rfl; (intro w' hg hf; clear hf; go_simp <;> exact rfl))
    go_frame
    refine Free.walk_quiet (c := .string sb) rfl rfl ?_ ?_
    · intro w' hg hf
      have hkw : Keeps [] W w' := hg.to ((Keeps.refl [] W).drew) (fun b h => by obtain ⟨_, _, _, h⟩ := h; exact h.elim)
      clear hf hg
      have hrs := run_str (hSb.out.keeps hkw)
      rw [hsb.out] at hrs
      go_simp <;> exact rfl
    go_frame
    refine Free.walk_quiet (c := .bool true) rfl rfl ?_ ?_
    · intro w' hg hf; clear hf
      go_simp <;> exact rfl
    go_frame
    (apply Free.walk_quiet rfl rfl; (intro w' hg hf; clear hf; go_simp <;> exact rfl))
    go_frame
    (apply Free.walk_quiet rfl rfl; (intro w' hg hf; clear hf; go_simp <;> exact rfl))
    go_frame
    apply Free.walk_loud rfl rfl
    · intro w' hg hf
      have hkw : Keeps [] W w' := hg.to ((Keeps.refl [] W).drew) (fun b h => by obtain ⟨_, _, _, h⟩ := h; exact h.elim)
      clear hf hg
      go_simp
      refine (haw.out w').mono ?_
      rintro e w2 ⟨rfl, k2⟩
      exact ⟨_, rfl, DeF.b (.inr rfl), Free.KeepsP.of k2 (by simp)⟩
    intro v22
    go_frame
    refine Free.walk_quiet (c := .bool true) rfl rfl ?_ ?_
    · intro w' hg hf
      have h22 : DeF LE BE 22 v22 w' := by simpa using hf 22 (by decide) (by kernel_rfl)
      have e22 := h22.2.2 (.inr rfl)
      clear hf h22
      subst e22
      go_simp <;> exact rfl
    go_frame
    (apply Free.walk_quiet rfl rfl; (intro w' hg hf; clear hf; go_simp <;> exact rfl))
    refine Free.walk_nil ?_
    intro wF hg hf
    have hkF := Lib.hid (hg.to (S := []) ((Keeps.refl [] W).drew) (fun b h => by obtain ⟨_, h⟩ := h; exact h.elim))
    clear hf hg
    go_frame
    go_wp2
    go_ret
    exact ⟨rfl, hkW.out.trans hkF.out⟩
end Go.Proofs.YtblaaafpglomnaaGreat

namespace Go.Proofs.YtblaaafpglomnaaGreat
open Go Go.ChangeShapes Go.WideShapes Go.ChangeAt Go.RowKit

def shB : Sh UInt8 := ⟨1, fun x => [.int .u8 x.toNat], fun _ => rfl, by decide, fun x u hu => by simp at hu; rw [hu]; rfl⟩
theorem shB_cs : ∀ l : List UInt8, shB.cs l = bys l
  | [] => rfl
  | x :: t => by
    show shB.cf x ++ shB.cs t = _
    rw [shB_cs t]; rfl
set_option maxRecDepth 100000 in
set_option maxHeartbeats 1000000 in
theorem open_bytes {H : Type} {enc : TypeId × Value → H} {W : World} {base : Nat} {r : Reach} {v : Value} {d : DataW H} {ps : List MemPlace} (hv : Value.okWide Tryz.prog W r base 22 v)
    (h : DataW.Trod enc Tryz.prog W 0 (fun _ => true) true 22 v d ps) : ∃ l : List UInt8, SlB W v l := by
  obtain ⟨a0, n0, c0, rfl⟩ := okWide_slice Tryz.underlying22 hv
  obtain ⟨L, hL, _⟩ := Gen.SlR.open (R := fun _ cs (x : UInt8) => cs = shB.cf x) Tryz.underlying22 (show Tryz.prog.cellsOf 5 = 1 by kernel_rfl) (by decide) (fun cs hcs => by
    obtain ⟨n, rfl, hw⟩ := Gen.Cs.int Tryz.underlying5 hcs
    have hb : 0 ≤ n ∧ n ≤ 255 := by simpa [Lit.wf, IntKind.min, IntKind.max, IntKind.signed, IntKind.bits] using hw
    refine ⟨UInt8.ofNat n.toNat, ?_⟩
    show [Value.int .u8 n] = [.int .u8 ((UInt8.ofNat n.toNat).toNat : Int)]
    congr 2
    simp; omega) (Gen.Cs.of_trod rfl h)
  refine ⟨L, ?_⟩
  have := Sh.R.of_slR (s := shB) (fun _ _ h => h) hL
  unfold Sh.R at this
  rw [shB_cs] at this
  exact this
end Go.Proofs.YtblaaafpglomnaaGreat
