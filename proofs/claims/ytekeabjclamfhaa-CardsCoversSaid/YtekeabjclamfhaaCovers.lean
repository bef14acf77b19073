/- The walk of the law that every marked address lies in the range of exactly one listed card. -/
import Derived.Test.YtekeabjclamfhaaAwake
namespace Go.Proofs.Ytekeabjclamfhaa
open Go.RowKit Go.Maps

theorem asc_inj {S : List Int} (h : Asc S) {i j : Nat} (hi : i < S.length) (hj : j < S.length) (e : S[i] = S[j]) : i = j := by
  rcases Nat.lt_trichotomy i j with h1 | h1 | h1
  · have := List.pairwise_iff_getElem.1 h i j hi hj h1; omega
  · exact h1
  · have := List.pairwise_iff_getElem.1 h j i hj hi h1; omega

set_option maxHeartbeats 4000000 in
theorem covers_c (w : World) (v0 : Value) (l : List Int) (h : SlI w v0 l) (_ : l.length ≤ maxLen) (_ : ∀ x ∈ l, (Lit.int .i64 x).wf = true) :
    Calls Try.prog 6 #[v0] w fun e w' => e = .returned (.bool true) ∧ Keeps [] w w' := by
  obtain ⟨a0, c0, hv0⟩ := h.form
  by_cases hl : 60 < l.length
  · subst hv0
    clear h
    go_enter Try.func6, Try.ntmps6
    go_wp2_with fail
    refine (new_c _).mono ?_
    rintro e w1 ⟨bt, bm, rfl, hT, hk1, _, _⟩
    clear hT
    go_wp2_with fail
    refine (awake_c _).mono ?_
    rintro e w2 ⟨rfl, hk⟩
    go_wp2_with fail
    go_ret
    exact ⟨rfl, hk1.trans hk⟩
  · clear hv0
    rcases h.cases with ⟨rfl, a1, c1, rfl, _⟩ | ⟨g1, o1, c1, rfl, hn1, hm1, hp1, hg1, hc1⟩
    · clear h
      go_enter Try.func6, Try.ntmps6
      go_wp2_with fail
      refine (new_c _).mono ?_
      rintro e w1 ⟨bt, bm, rfl, hT, hk, hb1, hb2⟩
      go_wp2_with fail
      go_loop [26] (fun i => i = .int .i64 0) (fun _ => 0)
      case atStart => rfl
      case round =>
        subst hrel
        go_wp2_with fail
        refine (clear_c _ bt bm _ hT).mono ?_
        rintro e w3 ⟨rfl, hT3, hk3⟩
        have hka := hk.fresh hk3 (by simp; omega)
        clear hT hk hk3
        go_wp2_with fail
        refine (cards_c _ bt bm [] hT3).mono ?_
        rintro e w4 ⟨va, rfl, hsa, hk4⟩
        obtain ⟨a5, c5, rfl⟩ := hsa.form
        replace hka := hka.trans hk4
        clear hsa hT3 hk4
        go_wp2_with fail
        refine (awake_c _).mono ?_
        rintro e w9 ⟨rfl, hk9⟩
        go_wp2_with fail
        go_ret
        exact ⟨rfl, hka.trans hk9⟩
    · clear h
      go_enter Try.func6, Try.ntmps6
      go_wp2_with fail
      refine (new_c _).mono ?_
      rintro e w1 ⟨bt, bm, rfl, hT, hk, hb1, hb2⟩
      go_wp2_with fail
      go_loopw [26] (fun i wr => ∃ (k : Nat) (S : List Int), k ≤ l.length ∧ i = .int .i64 k ∧ Tab wr bt bm S ∧ Keeps [] w wr) (fun i _ => l.length - (Go.RowKit.intOf i).toNat)
      case atStart => exact ⟨0, _, by omega, rfl, hT, hk⟩
      case round =>
        clear hT hk
        obtain ⟨k, S, hkl, rfl, hTr, hkr⟩ := hrel
        by_cases hlt : k < l.length
        · have k1 := hkr.val (hc1 k hlt)
          generalize hx : l[k] = x at *
          clear hx
          cases ho : oldB x
          · replace ho := Lib.hid ho
            go_wp2_with fail
            refine (mark_no x _ bt ho.out).mono ?_
            rintro e w3 ⟨rfl, rfl⟩
            go_wp2_with fail
            go_roundw
            case rel => exact ⟨k + 1, _, by omega, by go_num, hTr, hkr⟩
            case measure => simp [Go.RowKit.intOf] <;> omega
          · obtain ⟨x0, x1⟩ := oldB_iff.1 ho
            replace ho := Lib.hid ho
            go_wp2_with fail
            refine (mark_yes x _ bt bm S hTr x0 x1).mono ?_
            rintro e w3 ⟨rfl, hT3, hk3⟩
            have hka := hkr.fresh hk3 (by simp; omega)
            clear hTr hkr hk3 k1
            have hmem : x / 16 ∈ ins (x / 16) S := mem_ins.2 (.inl rfl)
            generalize ins (x / 16) S = U at *
            obtain ⟨p, hp, hpe⟩ := List.mem_iff_getElem.1 hmem
            have hlen := hT3.len
            go_wp2_with fail
            refine (cards_c _ bt bm U hT3).mono ?_
            rintro e w4 ⟨va, rfl, hsa, hk4⟩
            replace hT3 := hT3.keep hk4 (by simp) (by simp)
            replace hka := hka.trans hk4
            clear hk4
            rcases hsa.cases with ⟨hU, _⟩ | ⟨g5, o5, c5, rfl, hn5, hm5, hp5, hg5, hc5⟩
            · rw [hU] at hmem; simp at hmem
            clear hsa
            go_wp2_with fail
            go_loopw [6, 37] (fun n i wi => ∃ (j : Nat) (nn : Int), j ≤ U.length ∧ i = .int .i64 j ∧ n = .int .i64 nn ∧ (p < j ∧ nn = 1 ∨ j ≤ p ∧ nn = 0) ∧ Keeps [] w4 wi) (fun _ i _ => U.length - (Go.RowKit.intOf i).toNat)
            case atStart => exact ⟨0, 0, by omega, rfl, rfl, .inr ⟨by omega, rfl⟩, Keeps.refl _ _⟩
            case round =>
              obtain ⟨j, nn, hju, rfl, rfl, hcase, hki⟩ := hrel
              have hTi := hT3.keep hki (by simp) (by simp)
              have hkb := hka.trans hki
              by_cases hjl : j < U.length
              · have k5 := hki.val (hc5 j hjl)
                have hrg := hTi.rng _ (List.getElem_mem hjl)
                have hij : j ≠ p → U[j] ≠ x / 16 := fun hne e => hne (asc_inj hTi.asc hjl hp (e.trans hpe.symm))
                by_cases hjp : j = p
                · have hue : U[j] = x / 16 := by subst hjp; exact hpe
                  have hpj : p < j + 1 := by omega
                  generalize hx : U[j] = c at *
                  clear hx hij
                  have y1 : lowC c ≤ x := by unfold lowC; rw [if_neg (by omega)]; omega
                  have y2 : x < highC c := by unfold highC; rw [if_neg (by omega)]; omega
                  obtain rfl : nn = 0 := by omega
                  clear hjp hue
                  go_wp2_with fail
                  refine (range_c c _ _).mono ?_
                  rintro e w' ⟨rfl, rfl⟩
                  go_wp2_with fail
                  go_roundw
                  case rel => exact ⟨j + 1, 1, by omega, by go_num, by go_num, .inl ⟨hpj, rfl⟩, hki⟩
                  case measure => simp [Go.RowKit.intOf] <;> omega
                · have hue := hij hjp
                  generalize hx : U[j] = c at *
                  clear hx hij
                  have hcase' : p < j + 1 ∧ nn = 1 ∨ j + 1 ≤ p ∧ nn = 0 := by omega
                  have e1 : lowC c = 16 * c := by unfold lowC; rw [if_neg (by omega)]
                  have e2 : highC c = 16 * c + 16 := by unfold highC; rw [if_neg (by omega)]
                  by_cases hlo : lowC c ≤ x
                  · have y2 : ¬ x < highC c := by omega
                    clear e1 e2 hue
                    go_wp2_with fail
                    refine (range_c c _ _).mono ?_
                    rintro e w' ⟨rfl, rfl⟩
                    go_wp2_with fail
                    go_roundw
                    case rel => exact ⟨j + 1, nn, by omega, by go_num, rfl, hcase', hki⟩
                    case measure => simp [Go.RowKit.intOf] <;> omega
                  · clear e1 e2 hue
                    go_wp2_with fail
                    refine (range_c c _ _).mono ?_
                    rintro e w' ⟨rfl, rfl⟩
                    go_wp2_with fail
                    go_roundw
                    case rel => exact ⟨j + 1, nn, by omega, by go_num, rfl, hcase', hki⟩
                    case measure => simp [Go.RowKit.intOf] <;> omega
              · obtain rfl : nn = 1 := by omega
                go_wp2_with fail
                refine (marked_c x _ bt bm U hTi).mono ?_
                rw [show (oldB x && decide (x / 16 ∈ U)) = true from by rw [ho.out]; simpa using hmem]
                rintro e w' ⟨rfl, rfl⟩
                go_wp2_with fail
                go_roundw
                case rel => exact ⟨k + 1, _, by omega, by go_num, hTi, hkb⟩
                case measure => simp [Go.RowKit.intOf] <;> omega
        · go_wp2_with fail
          refine (clear_c _ bt bm _ hTr).mono ?_
          rintro e w3 ⟨rfl, hT3, hk3⟩
          have hka := hkr.fresh hk3 (by simp; omega)
          clear hTr hkr hk3
          go_wp2_with fail
          refine (cards_c _ bt bm [] hT3).mono ?_
          rintro e w4 ⟨va, rfl, hsa, hk4⟩
          obtain ⟨a5, c5, rfl⟩ := hsa.form
          replace hka := hka.trans hk4
          clear hsa hT3 hk4
          go_wp2_with fail
          refine (awake_c _).mono ?_
          rintro e w9 ⟨rfl, hk9⟩
          go_wp2_with fail
          go_ret
          exact ⟨rfl, hka.trans hk9⟩
end Go.Proofs.Ytekeabjclamfhaa
