/- Lists of byte strings in memory, and the reference's comparison of two. -/
import Derived.Test.YtilmcdieihmiaaaChain
import Derived.Test.YtilmcdieihmiaaaReader
namespace Go.Proofs.Ytilmcdieihmiaaa
open Go.RowKit

/-- A slice that reads as a list of byte strings. -/
def SLs (w : World) (v : Value) (ls : List (List UInt8)) : Prop :=
  ∃ cs : List Value, Sl w 1 v ls.length cs ∧ ∀ (k : Nat) (c : Value) (l : List UInt8), cs[k]? = some c → ls[k]? = some l → SlB w c l
theorem SLs.nil (w : World) : SLs w (.slice none 0 0) [] := ⟨[], Sl.nil _ _, by simp⟩
theorem SLs.form {w : World} {v : Value} {ls : List (List UInt8)} (h : SLs w v ls) : ∃ a c, v = .slice a ls.length c ∧ ls.length ≤ maxLen := by
  obtain ⟨cs, ⟨_, a, cap, rfl, h1, h2, _⟩, _⟩ := h
  exact ⟨a, cap, rfl, by omega⟩
theorem SLs.keeps {w w' : World} {v : Value} {ls : List (List UInt8)} (h : SLs w v ls) (hk : Keeps [] w w') : SLs w' v ls := by
  obtain ⟨cs, hs, hel⟩ := h
  exact ⟨cs, hs.keeps hk, fun k c l h1 h2 => (hel k c l h1 h2).keeps hk⟩
theorem SLs.cases {w : World} {v : Value} {ls : List (List UInt8)} (h : SLs w v ls) :
    (ls = [] ∧ ∃ a cap, v = .slice a 0 cap) ∨
    ∃ g o cap, v = .slice (some ⟨g, o, none⟩) ls.length cap ∧ ls.length ≤ cap ∧ cap ≤ maxLen ∧ 0 < ls.length ∧ ∀ k (hk : k < ls.length), ∃ c, w.cell? ⟨g, o + k, none⟩ = some c ∧ SlB w c ls[k] := by
  obtain ⟨cs, ⟨h1, a, cap, rfl, h2, h3, _, h4⟩, hel⟩ := h
  by_cases hl : ls = []
  · subst hl; exact .inl ⟨rfl, a, cap, rfl⟩
  · have hp : 0 < ls.length := List.length_pos_iff.2 hl
    have hcs : cs.length = ls.length := by omega
    obtain ⟨g, o, rfl, hc⟩ := h4 (by omega)
    refine .inr ⟨g, o, cap, rfl, h2, h3, hp, fun k hk => ⟨cs[k]'(by omega), hc k _ (by simp), hel k _ _ (by simp) (by simp)⟩⟩

theorem texts_step {la lb : List (List UInt8)} {i : Nat} (hl : la.length = lb.length) (h : la.take i = lb.take i) (hi : i < la.length) (he : la[i] = lb[i]'(by omega)) : la.take (i + 1) = lb.take (i + 1) := by
  rw [List.take_succ_eq_append_getElem hi, List.take_succ_eq_append_getElem (by omega), h, he]

set_option maxRecDepth 100000 in
set_option maxHeartbeats 4000000 in
theorem texts_c (w : World) (va vb : Value) (la lb : List (List UInt8)) (ha : SLs w va la) (hb : SLs w vb lb) :
    Calls Try.prog 14 #[va, vb] w fun e w' => e = .returned (.bool (decide (la = lb))) ∧ Keeps [] w w' := by
  by_cases hlen : la.length = lb.length
  · rcases ha.cases with ⟨rfl, a0, c0, rfl⟩ | ⟨g, o, cp, rfl, hn, hm, hp, hc⟩
    · obtain ⟨a1, c1, rfl, _⟩ := hb.form
      have hb0 : lb = [] := List.length_eq_zero_iff.1 hlen.symm
      subst hb0
      clear ha hb
      simp only [List.length_nil]
      go_enter Try.func14, Try.ntmps14
      go_wp2
      go_loop [5] (fun i => i = .int .i64 0) (fun _ => 0)
      case atStart => rfl
      case round =>
        subst hrel
        go_wp2
        go_ret
        exact ⟨rfl, Keeps.refl _ _⟩
    · rcases hb.cases with ⟨rfl, a1, c1, rfl⟩ | ⟨g1, o1, cp1, rfl, hn1, hm1, hp1, hc1⟩
      · simp only [List.length_nil] at hlen; omega
      · clear ha hb
        rw [← hlen]
        obtain ⟨N, hN⟩ : ∃ N, la.length = N := ⟨_, rfl⟩
        rw [hN] at hn hp hlen ⊢
        rw [← hlen] at hn1
        have hNm : N ≤ 9223372036854775807 := by unfold maxLen at hm; omega
        replace hc := Lib.hid hc
        replace hc1 := Lib.hid hc1
        replace hN := Lib.hid hN
        replace hlen := Lib.hid hlen
        go_enter Try.func14, Try.ntmps14
        go_wp2
        go_loopw [5] (fun i wr => ∃ k : Nat, i = .int .i64 k ∧ k ≤ N ∧ la.take k = lb.take k ∧ Keeps [] w wr) (fun i _ => N - (intOf i).toNat)
        case atStart => exact ⟨0, rfl, by omega, by simp, Keeps.refl _ _⟩
        case round =>
          obtain ⟨k, rfl, hk, heq, hkw⟩ := hrel
          replace heq := Lib.hid heq
          by_cases hkN : k < N
          · obtain ⟨x, hx, hX⟩ := hc.out k (by rw [hN.out]; omega)
            obtain ⟨y, hy, hY⟩ := hc1.out k (by rw [← hlen.out]; omega)
            have hxr : wr.cell? ⟨g, o + k, none⟩ = some x := hkw.val hx
            have hyr : wr.cell? ⟨g1, o1 + k, none⟩ = some y := hkw.val hy
            replace hX := hX.keeps hkw
            replace hY := hY.keeps hkw
            obtain ⟨ax, cx, rfl⟩ := hX.form
            obtain ⟨ay, cy, rfl⟩ := hY.form
            replace hX := Lib.hid hX
            replace hY := Lib.hid hY
            replace hkw := Lib.hid hkw
            clear hx hy
            go_wp2
            refine Free.wp_region_chain (fun i => i == 8) (fun i => true) (fun _ _ => False) (by kernel_rfl) (by kernel_rfl) (by kernel_rfl) ?_
            (repeat (first | (apply Free.cw_pure rfl rfl; (intro w'; go_simp <;> exact rfl); go_frame) | (apply Free.cw_steady rfl rfl rfl; (intro w' hS; have q0 := Free.sx_cell hS hxr (fun j hp hT => hT); have q1 := Free.sx_cell hS hyr (fun j hp hT => hT); go_simp <;> exact rfl); go_frame)))
            refine Free.cw_loud rfl rfl (fun K hK => ?_)
            go_wp2_with fail
            refine (same_c _ _ _ _ _ (hX.out.kb (KB.drew _)) (hY.out.kb (KB.drew _))).mono ?_
            rintro e w2 ⟨rfl, rfl⟩
            refine hK _ _ rfl (Free.KeepsP.of (Keeps.refl [] _) (by simp)) ?_
            clear hK K
            by_cases he : la[k]'(by rw [hN.out]; omega) = lb[k]'(by rw [← hlen.out]; omega)
            · rw [decide_eq_true he]
              have hst := Lib.hid (texts_step (hN.out.trans hlen.out) heq.out (by rw [hN.out]; omega) he)
              clear he
              (repeat (apply Free.cw_pure rfl rfl; (intro w'; go_simp <;> exact rfl); go_frame))
              refine Free.cw_nil ?_
              go_wp2
              go_roundw
              case rel => exact ⟨k + 1, rfl, by omega, hst.out, hkw.out.drew⟩
              case measure => simp [intOf]; omega
            · rw [decide_eq_false he]
              replace he := Lib.hid he
              (repeat (apply Free.cw_pure rfl rfl; (intro w'; go_simp <;> exact rfl); go_frame))
              refine Free.cw_nil ?_
              go_wp2
              go_ret
              exact ⟨by rw [decide_eq_false (fun e => he.out (by subst e; rfl))]; rfl, hkw.out.drew⟩
          · have hkk : k = N := by omega
            subst hkk
            replace hkw := Lib.hid hkw
            go_wp2
            go_ret
            refine ⟨?_, hkw.out⟩
            have := heq.out
            rw [List.take_of_length_le (by rw [hN.out]; omega), List.take_of_length_le (by rw [← hlen.out]; omega)] at this
            rw [decide_eq_true this]
            rfl
  · obtain ⟨a0, c0, rfl, _⟩ := ha.form
    obtain ⟨a1, c1, rfl, _⟩ := hb.form
    clear ha hb
    rw [decide_eq_false (fun e => hlen (by rw [e]))]
    go_enter Try.func14, Try.ntmps14
    go_wp2
    go_ret
    exact ⟨rfl, Keeps.refl _ _⟩
end Go.Proofs.Ytilmcdieihmiaaa
