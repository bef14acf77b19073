/- The walk of the law on clones. -/
import Derived.Test.YtekeabjclamfhaaAwake
namespace Go.Proofs.Ytekeabjclamfhaa
open Go.RowKit Go.Maps

theorem clones_mem (S : List Int) (one two : Int) (h : oldB one = false ∨ oldB two = false ∨ (one / 16 == two / 16) = false) :
    (oldB two && decide (two / 16 ∈ markS one S)) = (oldB two && decide (two / 16 ∈ S)) := by
  unfold markS
  rcases h with h | h | h
  · rw [h]; simp
  · rw [h]; simp
  · have h : ¬ two / 16 = one / 16 := fun e => by rw [e] at h; simp at h
    split
    · simp [mem_ins, h]
    · rfl

set_option maxHeartbeats 4000000 in
theorem clones_c (w : World) (v0 : Value) (l : List Int) (one two : Int) (h : SlI w v0 l) (hl63 : l.length ≤ maxLen) (_ : ∀ x ∈ l, (Lit.int .i64 x).wf = true) (_ : (Lit.int .i64 one).wf = true) (_ : (Lit.int .i64 two).wf = true) :
    Calls Try.prog 9 #[v0, .int .i64 one, .int .i64 two] w fun e w' => e = .returned (.bool true) ∧ Keeps [] w w' := by
  obtain ⟨a0, c0, hv0⟩ := h.form
  by_cases hl : 40 < l.length
  · subst hv0
    clear h
    go_enter Try.func9, Try.ntmps9
    go_wp2_with fail
    refine (awake_c _).mono ?_
    rintro e w2 ⟨rfl, hk⟩
    go_wp2_with fail
    go_ret
    exact ⟨rfl, hk⟩
  · clear hv0
    rcases h.cases with ⟨rfl, a1, c1, rfl, _⟩ | ⟨g1, o1, c1, rfl, hn1, hm1, hp1, hg1, hc1⟩
    · clear h
      cases h1 : oldB one
      · have hc : (oldB one = false ∨ oldB two = false ∨ (one / 16 == two / 16) = false) ∧ (oldB two = false ∨ oldB one = false ∨ (two / 16 == one / 16) = false) := ⟨.inl h1, .inr (.inl h1)⟩
        replace hc := Lib.hid hc
        replace h1 := Lib.hid h1
        skip
        go_enter Try.func9, Try.ntmps9
        go_wp2_with fail
        refine (new_c _).mono ?_
        rintro e w1 ⟨bt, bm, rfl, hT, hk, hb1, hb2⟩
        go_wp2_with fail
        go_loop [23] (fun i => i = .int .i64 0) (fun _ => 0)
        case atStart => rfl
        case round =>
          subst hrel
          have hb := hb2
          have hkr := hk
          have hTr := hT
          clear hT hk hb1 hb2
          generalize ([] : List Int) = S at hTr
          go_wp2_with fail
          refine (clone_c _ bt bm S hTr).mono ?_
          rintro e w3 ⟨bt', bm', rfl, hT', hk3, hb1', hb2'⟩
          have hlt := hTr.lt
          have hTa := hTr.keep hk3 (by simp) (by simp)
          have hka := hkr.trans hk3
          have hsz := hkr.size
          clear hTr hkr hk3
          go_wp2_with fail
          refine (cards_c _ bt bm S hTa).mono ?_
          rintro e w4 ⟨va, rfl, hsa, hk4⟩
          replace hT' := hT'.keep hk4 (by simp) (by simp)
          replace hTa := hTa.keep hk4 (by simp) (by simp)
          replace hka := hka.trans hk4
          clear hk4
          go_wp2_with fail
          refine (cards_c _ bt' bm' S hT').mono ?_
          rintro e w5 ⟨vb, rfl, hsb, hk5⟩
          replace hT' := hT'.keep hk5 (by simp) (by simp)
          replace hTa := hTa.keep hk5 (by simp) (by simp)
          replace hka := hka.trans hk5
          replace hsa := hsa.keeps hk5
          clear hk5
          go_wp2_with fail
          refine (same_c _ va vb S S hsa hsb).mono ?_
          rw [show decide (S = S) = true from by simp]
          rintro e w6 ⟨rfl, hk6⟩
          replace hT' := hT'.keep hk6 (by simp) (by simp)
          replace hTa := hTa.keep hk6 (by simp) (by simp)
          replace hka := hka.trans hk6
          clear hk6 hsa hsb
          go_wp2_with fail
          refine (marked_c two _ bt bm S hTa).mono ?_
          rintro e w' ⟨rfl, rfl⟩
          generalize hp : (oldB two && decide (two / 16 ∈ S)) = p
          go_wp2_with fail
          refine (marked_c one _ bt' bm' S hT').mono ?_
          rintro e w' ⟨rfl, rfl⟩
          generalize hq : (oldB one && decide (one / 16 ∈ S)) = q
          go_wp2_with fail
          refine (mark_c one _ bt bm S hTa).mono ?_
          rintro e w7 ⟨rfl, hT7, hk7⟩
          replace hT' := hT'.keep hk7 (by simp; omega) (by simp; omega)
          replace hka := hka.fresh hk7 (by simp; omega)
          clear hk7 hTa
          go_wp2_with fail
          refine (mark_c two _ bt' bm' S hT').mono ?_
          rintro e w8 ⟨rfl, hT8, hk8⟩
          replace hT7 := hT7.keep hk8 (by simp; omega) (by simp; omega)
          replace hka := hka.fresh hk8 (by simp; omega)
          clear hk8 hT'
          go_wp2_with fail
          refine (oldr_c one _).mono ?_
          rw [h1.out]
          rintro e w' ⟨rfl, rfl⟩
          go_wp2_with fail
          refine (marked_c two _ bt bm _ hT7).mono ?_
          rw [clones_mem S one two hc.out.1, hp]
          rintro e w' ⟨rfl, rfl⟩
          go_wp2_with fail
          refine (marked_c one _ bt' bm' _ hT8).mono ?_
          rw [clones_mem S two one hc.out.2, hq]
          rintro e w' ⟨rfl, rfl⟩
          go_wp2_with fail
          refine (awake_c _).mono ?_
          rintro e w9 ⟨rfl, hk9⟩
          go_wp2_with fail
          go_ret
          exact ⟨rfl, hka.trans hk9⟩
      · cases h2 : oldB two
        · have hc : (oldB one = false ∨ oldB two = false ∨ (one / 16 == two / 16) = false) ∧ (oldB two = false ∨ oldB one = false ∨ (two / 16 == one / 16) = false) := ⟨.inr (.inl h2), .inl h2⟩
          replace hc := Lib.hid hc
          replace h1 := Lib.hid h1
          replace h2 := Lib.hid h2
          go_enter Try.func9, Try.ntmps9
          go_wp2_with fail
          refine (new_c _).mono ?_
          rintro e w1 ⟨bt, bm, rfl, hT, hk, hb1, hb2⟩
          go_wp2_with fail
          go_loop [23] (fun i => i = .int .i64 0) (fun _ => 0)
          case atStart => rfl
          case round =>
            subst hrel
            have hb := hb2
            have hkr := hk
            have hTr := hT
            clear hT hk hb1 hb2
            generalize ([] : List Int) = S at hTr
            go_wp2_with fail
            refine (clone_c _ bt bm S hTr).mono ?_
            rintro e w3 ⟨bt', bm', rfl, hT', hk3, hb1', hb2'⟩
            have hlt := hTr.lt
            have hTa := hTr.keep hk3 (by simp) (by simp)
            have hka := hkr.trans hk3
            have hsz := hkr.size
            clear hTr hkr hk3
            go_wp2_with fail
            refine (cards_c _ bt bm S hTa).mono ?_
            rintro e w4 ⟨va, rfl, hsa, hk4⟩
            replace hT' := hT'.keep hk4 (by simp) (by simp)
            replace hTa := hTa.keep hk4 (by simp) (by simp)
            replace hka := hka.trans hk4
            clear hk4
            go_wp2_with fail
            refine (cards_c _ bt' bm' S hT').mono ?_
            rintro e w5 ⟨vb, rfl, hsb, hk5⟩
            replace hT' := hT'.keep hk5 (by simp) (by simp)
            replace hTa := hTa.keep hk5 (by simp) (by simp)
            replace hka := hka.trans hk5
            replace hsa := hsa.keeps hk5
            clear hk5
            go_wp2_with fail
            refine (same_c _ va vb S S hsa hsb).mono ?_
            rw [show decide (S = S) = true from by simp]
            rintro e w6 ⟨rfl, hk6⟩
            replace hT' := hT'.keep hk6 (by simp) (by simp)
            replace hTa := hTa.keep hk6 (by simp) (by simp)
            replace hka := hka.trans hk6
            clear hk6 hsa hsb
            go_wp2_with fail
            refine (marked_c two _ bt bm S hTa).mono ?_
            rintro e w' ⟨rfl, rfl⟩
            generalize hp : (oldB two && decide (two / 16 ∈ S)) = p
            go_wp2_with fail
            refine (marked_c one _ bt' bm' S hT').mono ?_
            rintro e w' ⟨rfl, rfl⟩
            generalize hq : (oldB one && decide (one / 16 ∈ S)) = q
            go_wp2_with fail
            refine (mark_c one _ bt bm S hTa).mono ?_
            rintro e w7 ⟨rfl, hT7, hk7⟩
            replace hT' := hT'.keep hk7 (by simp; omega) (by simp; omega)
            replace hka := hka.fresh hk7 (by simp; omega)
            clear hk7 hTa
            go_wp2_with fail
            refine (mark_c two _ bt' bm' S hT').mono ?_
            rintro e w8 ⟨rfl, hT8, hk8⟩
            replace hT7 := hT7.keep hk8 (by simp; omega) (by simp; omega)
            replace hka := hka.fresh hk8 (by simp; omega)
            clear hk8 hT'
            go_wp2_with fail
            refine (oldr_c one _).mono ?_
            rw [h1.out]
            rintro e w' ⟨rfl, rfl⟩
            go_wp2_with fail
            refine (oldr_c two _).mono ?_
            rw [h2.out]
            rintro e w' ⟨rfl, rfl⟩
            go_wp2_with fail
            refine (marked_c two _ bt bm _ hT7).mono ?_
            rw [clones_mem S one two hc.out.1, hp]
            rintro e w' ⟨rfl, rfl⟩
            go_wp2_with fail
            refine (marked_c one _ bt' bm' _ hT8).mono ?_
            rw [clones_mem S two one hc.out.2, hq]
            rintro e w' ⟨rfl, rfl⟩
            go_wp2_with fail
            refine (awake_c _).mono ?_
            rintro e w9 ⟨rfl, hk9⟩
            go_wp2_with fail
            go_ret
            exact ⟨rfl, hka.trans hk9⟩
        · cases hq0 : (one / 16 == two / 16)
          · have hc : (oldB one = false ∨ oldB two = false ∨ (one / 16 == two / 16) = false) ∧ (oldB two = false ∨ oldB one = false ∨ (two / 16 == one / 16) = false) := ⟨.inr (.inr hq0), .inr (.inr (by rw [show (two / 16 == one / 16) = (one / 16 == two / 16) from BEq.comm]; exact hq0))⟩
            obtain ⟨b1, b2⟩ := oldB_iff.1 h1
            obtain ⟨b3, b4⟩ := oldB_iff.1 h2
            replace hc := Lib.hid hc
            replace h1 := Lib.hid h1
            replace h2 := Lib.hid h2
            go_enter Try.func9, Try.ntmps9
            go_wp2_with fail
            refine (new_c _).mono ?_
            rintro e w1 ⟨bt, bm, rfl, hT, hk, hb1, hb2⟩
            go_wp2_with fail
            go_loop [23] (fun i => i = .int .i64 0) (fun _ => 0)
            case atStart => rfl
            case round =>
              subst hrel
              have hb := hb2
              have hkr := hk
              have hTr := hT
              clear hT hk hb1 hb2
              generalize ([] : List Int) = S at hTr
              go_wp2_with fail
              refine (clone_c _ bt bm S hTr).mono ?_
              rintro e w3 ⟨bt', bm', rfl, hT', hk3, hb1', hb2'⟩
              have hlt := hTr.lt
              have hTa := hTr.keep hk3 (by simp) (by simp)
              have hka := hkr.trans hk3
              have hsz := hkr.size
              clear hTr hkr hk3
              go_wp2_with fail
              refine (cards_c _ bt bm S hTa).mono ?_
              rintro e w4 ⟨va, rfl, hsa, hk4⟩
              replace hT' := hT'.keep hk4 (by simp) (by simp)
              replace hTa := hTa.keep hk4 (by simp) (by simp)
              replace hka := hka.trans hk4
              clear hk4
              go_wp2_with fail
              refine (cards_c _ bt' bm' S hT').mono ?_
              rintro e w5 ⟨vb, rfl, hsb, hk5⟩
              replace hT' := hT'.keep hk5 (by simp) (by simp)
              replace hTa := hTa.keep hk5 (by simp) (by simp)
              replace hka := hka.trans hk5
              replace hsa := hsa.keeps hk5
              clear hk5
              go_wp2_with fail
              refine (same_c _ va vb S S hsa hsb).mono ?_
              rw [show decide (S = S) = true from by simp]
              rintro e w6 ⟨rfl, hk6⟩
              replace hT' := hT'.keep hk6 (by simp) (by simp)
              replace hTa := hTa.keep hk6 (by simp) (by simp)
              replace hka := hka.trans hk6
              clear hk6 hsa hsb
              go_wp2_with fail
              refine (marked_c two _ bt bm S hTa).mono ?_
              rintro e w' ⟨rfl, rfl⟩
              generalize hp : (oldB two && decide (two / 16 ∈ S)) = p
              go_wp2_with fail
              refine (marked_c one _ bt' bm' S hT').mono ?_
              rintro e w' ⟨rfl, rfl⟩
              generalize hq : (oldB one && decide (one / 16 ∈ S)) = q
              go_wp2_with fail
              refine (mark_c one _ bt bm S hTa).mono ?_
              rintro e w7 ⟨rfl, hT7, hk7⟩
              replace hT' := hT'.keep hk7 (by simp; omega) (by simp; omega)
              replace hka := hka.fresh hk7 (by simp; omega)
              clear hk7 hTa
              go_wp2_with fail
              refine (mark_c two _ bt' bm' S hT').mono ?_
              rintro e w8 ⟨rfl, hT8, hk8⟩
              replace hT7 := hT7.keep hk8 (by simp; omega) (by simp; omega)
              replace hka := hka.fresh hk8 (by simp; omega)
              clear hk8 hT'
              go_wp2_with fail
              refine (oldr_c one _).mono ?_
              rw [h1.out]
              rintro e w' ⟨rfl, rfl⟩
              go_wp2_with fail
              refine (oldr_c two _).mono ?_
              rw [h2.out]
              rintro e w' ⟨rfl, rfl⟩
              go_wp2_with fail
              refine (marked_c two _ bt bm _ hT7).mono ?_
              rw [clones_mem S one two hc.out.1, hp]
              rintro e w' ⟨rfl, rfl⟩
              go_wp2_with fail
              refine (marked_c one _ bt' bm' _ hT8).mono ?_
              rw [clones_mem S two one hc.out.2, hq]
              rintro e w' ⟨rfl, rfl⟩
              go_wp2_with fail
              refine (awake_c _).mono ?_
              rintro e w9 ⟨rfl, hk9⟩
              go_wp2_with fail
              go_ret
              exact ⟨rfl, hka.trans hk9⟩
          · have hc : (one / 16 == two / 16) = true := hq0
            obtain ⟨b1, b2⟩ := oldB_iff.1 h1
            obtain ⟨b3, b4⟩ := oldB_iff.1 h2
            replace h1 := Lib.hid h1
            replace h2 := Lib.hid h2
            go_enter Try.func9, Try.ntmps9
            go_wp2_with fail
            refine (new_c _).mono ?_
            rintro e w1 ⟨bt, bm, rfl, hT, hk, hb1, hb2⟩
            go_wp2_with fail
            go_loop [23] (fun i => i = .int .i64 0) (fun _ => 0)
            case atStart => rfl
            case round =>
              subst hrel
              have hb := hb2
              have hkr := hk
              have hTr := hT
              clear hT hk hb1 hb2
              generalize ([] : List Int) = S at hTr
              go_wp2_with fail
              refine (clone_c _ bt bm S hTr).mono ?_
              rintro e w3 ⟨bt', bm', rfl, hT', hk3, hb1', hb2'⟩
              have hlt := hTr.lt
              have hTa := hTr.keep hk3 (by simp) (by simp)
              have hka := hkr.trans hk3
              have hsz := hkr.size
              clear hTr hkr hk3
              go_wp2_with fail
              refine (cards_c _ bt bm S hTa).mono ?_
              rintro e w4 ⟨va, rfl, hsa, hk4⟩
              replace hT' := hT'.keep hk4 (by simp) (by simp)
              replace hTa := hTa.keep hk4 (by simp) (by simp)
              replace hka := hka.trans hk4
              clear hk4
              go_wp2_with fail
              refine (cards_c _ bt' bm' S hT').mono ?_
              rintro e w5 ⟨vb, rfl, hsb, hk5⟩
              replace hT' := hT'.keep hk5 (by simp) (by simp)
              replace hTa := hTa.keep hk5 (by simp) (by simp)
              replace hka := hka.trans hk5
              replace hsa := hsa.keeps hk5
              clear hk5
              go_wp2_with fail
              refine (same_c _ va vb S S hsa hsb).mono ?_
              rw [show decide (S = S) = true from by simp]
              rintro e w6 ⟨rfl, hk6⟩
              replace hT' := hT'.keep hk6 (by simp) (by simp)
              replace hTa := hTa.keep hk6 (by simp) (by simp)
              replace hka := hka.trans hk6
              clear hk6 hsa hsb
              go_wp2_with fail
              refine (marked_c two _ bt bm S hTa).mono ?_
              rintro e w' ⟨rfl, rfl⟩
              generalize hp : (oldB two && decide (two / 16 ∈ S)) = p
              go_wp2_with fail
              refine (marked_c one _ bt' bm' S hT').mono ?_
              rintro e w' ⟨rfl, rfl⟩
              generalize hq : (oldB one && decide (one / 16 ∈ S)) = q
              go_wp2_with fail
              refine (mark_c one _ bt bm S hTa).mono ?_
              rintro e w7 ⟨rfl, hT7, hk7⟩
              replace hT' := hT'.keep hk7 (by simp; omega) (by simp; omega)
              replace hka := hka.fresh hk7 (by simp; omega)
              clear hk7 hTa
              go_wp2_with fail
              refine (mark_c two _ bt' bm' S hT').mono ?_
              rintro e w8 ⟨rfl, hT8, hk8⟩
              replace hT7 := hT7.keep hk8 (by simp; omega) (by simp; omega)
              replace hka := hka.fresh hk8 (by simp; omega)
              clear hk8 hT'
              go_wp2_with fail
              refine (oldr_c one _).mono ?_
              rw [h1.out]
              rintro e w' ⟨rfl, rfl⟩
              go_wp2_with fail
              refine (oldr_c two _).mono ?_
              rw [h2.out]
              rintro e w' ⟨rfl, rfl⟩
              go_wp2_with fail
              refine (awake_c _).mono ?_
              rintro e w9 ⟨rfl, hk9⟩
              go_wp2_with fail
              go_ret
              exact ⟨rfl, hka.trans hk9⟩
    · clear h
      cases h1 : oldB one
      · have hc : (oldB one = false ∨ oldB two = false ∨ (one / 16 == two / 16) = false) ∧ (oldB two = false ∨ oldB one = false ∨ (two / 16 == one / 16) = false) := ⟨.inl h1, .inr (.inl h1)⟩
        replace hc := Lib.hid hc
        replace h1 := Lib.hid h1
        skip
        go_enter Try.func9, Try.ntmps9
        go_wp2_with fail
        refine (new_c _).mono ?_
        rintro e w1 ⟨bt, bm, rfl, hT, hk, hb1, hb2⟩
        go_wp2_with fail
        go_loopw [23] (fun i wr => ∃ (k : Nat) (S : List Int), k ≤ l.length ∧ i = .int .i64 k ∧ Tab wr bt bm S ∧ Keeps [] w wr) (fun i _ => l.length - (Go.RowKit.intOf i).toNat)
        case atStart => exact ⟨0, _, by omega, rfl, hT, hk⟩
        case round =>
          clear hT hk
          obtain ⟨k, S, hkl, rfl, hTr, hkr⟩ := hrel
          by_cases hlt : k < l.length
          · have k1 := hkr.val (hc1 k hlt)
            generalize hx : l[k] = x at *
            clear hx
            go_wp2_with fail
            refine (mark_c x _ bt bm S hTr).mono ?_
            rintro e w3 ⟨rfl, hT3, hk3⟩
            go_wp2_with fail
            go_roundw
            case rel => exact ⟨k + 1, _, by omega, by go_num, hT3, hkr.fresh hk3 (by simp; omega)⟩
            case measure => simp [Go.RowKit.intOf]; omega
          · go_wp2_with fail
            refine (clone_c _ bt bm S hTr).mono ?_
            rintro e w3 ⟨bt', bm', rfl, hT', hk3, hb1', hb2'⟩
            have hlt := hTr.lt
            have hTa := hTr.keep hk3 (by simp) (by simp)
            have hka := hkr.trans hk3
            have hsz := hkr.size
            clear hTr hkr hk3
            go_wp2_with fail
            refine (cards_c _ bt bm S hTa).mono ?_
            rintro e w4 ⟨va, rfl, hsa, hk4⟩
            replace hT' := hT'.keep hk4 (by simp) (by simp)
            replace hTa := hTa.keep hk4 (by simp) (by simp)
            replace hka := hka.trans hk4
            clear hk4
            go_wp2_with fail
            refine (cards_c _ bt' bm' S hT').mono ?_
            rintro e w5 ⟨vb, rfl, hsb, hk5⟩
            replace hT' := hT'.keep hk5 (by simp) (by simp)
            replace hTa := hTa.keep hk5 (by simp) (by simp)
            replace hka := hka.trans hk5
            replace hsa := hsa.keeps hk5
            clear hk5
            go_wp2_with fail
            refine (same_c _ va vb S S hsa hsb).mono ?_
            rw [show decide (S = S) = true from by simp]
            rintro e w6 ⟨rfl, hk6⟩
            replace hT' := hT'.keep hk6 (by simp) (by simp)
            replace hTa := hTa.keep hk6 (by simp) (by simp)
            replace hka := hka.trans hk6
            clear hk6 hsa hsb
            go_wp2_with fail
            refine (marked_c two _ bt bm S hTa).mono ?_
            rintro e w' ⟨rfl, rfl⟩
            generalize hp : (oldB two && decide (two / 16 ∈ S)) = p
            go_wp2_with fail
            refine (marked_c one _ bt' bm' S hT').mono ?_
            rintro e w' ⟨rfl, rfl⟩
            generalize hq : (oldB one && decide (one / 16 ∈ S)) = q
            go_wp2_with fail
            refine (mark_c one _ bt bm S hTa).mono ?_
            rintro e w7 ⟨rfl, hT7, hk7⟩
            replace hT' := hT'.keep hk7 (by simp; omega) (by simp; omega)
            replace hka := hka.fresh hk7 (by simp; omega)
            clear hk7 hTa
            go_wp2_with fail
            refine (mark_c two _ bt' bm' S hT').mono ?_
            rintro e w8 ⟨rfl, hT8, hk8⟩
            replace hT7 := hT7.keep hk8 (by simp; omega) (by simp; omega)
            replace hka := hka.fresh hk8 (by simp; omega)
            clear hk8 hT'
            go_wp2_with fail
            refine (oldr_c one _).mono ?_
            rw [h1.out]
            rintro e w' ⟨rfl, rfl⟩
            go_wp2_with fail
            refine (marked_c two _ bt bm _ hT7).mono ?_
            rw [clones_mem S one two hc.out.1, hp]
            rintro e w' ⟨rfl, rfl⟩
            go_wp2_with fail
            refine (marked_c one _ bt' bm' _ hT8).mono ?_
            rw [clones_mem S two one hc.out.2, hq]
            rintro e w' ⟨rfl, rfl⟩
            go_wp2_with fail
            refine (awake_c _).mono ?_
            rintro e w9 ⟨rfl, hk9⟩
            go_wp2_with fail
            go_ret
            exact ⟨rfl, hka.trans hk9⟩
      · cases h2 : oldB two
        · have hc : (oldB one = false ∨ oldB two = false ∨ (one / 16 == two / 16) = false) ∧ (oldB two = false ∨ oldB one = false ∨ (two / 16 == one / 16) = false) := ⟨.inr (.inl h2), .inl h2⟩
          replace hc := Lib.hid hc
          replace h1 := Lib.hid h1
          replace h2 := Lib.hid h2
          go_enter Try.func9, Try.ntmps9
          go_wp2_with fail
          refine (new_c _).mono ?_
          rintro e w1 ⟨bt, bm, rfl, hT, hk, hb1, hb2⟩
          go_wp2_with fail
          go_loopw [23] (fun i wr => ∃ (k : Nat) (S : List Int), k ≤ l.length ∧ i = .int .i64 k ∧ Tab wr bt bm S ∧ Keeps [] w wr) (fun i _ => l.length - (Go.RowKit.intOf i).toNat)
          case atStart => exact ⟨0, _, by omega, rfl, hT, hk⟩
          case round =>
            clear hT hk
            obtain ⟨k, S, hkl, rfl, hTr, hkr⟩ := hrel
            by_cases hlt : k < l.length
            · have k1 := hkr.val (hc1 k hlt)
              generalize hx : l[k] = x at *
              clear hx
              go_wp2_with fail
              refine (mark_c x _ bt bm S hTr).mono ?_
              rintro e w3 ⟨rfl, hT3, hk3⟩
              go_wp2_with fail
              go_roundw
              case rel => exact ⟨k + 1, _, by omega, by go_num, hT3, hkr.fresh hk3 (by simp; omega)⟩
              case measure => simp [Go.RowKit.intOf]; omega
            · go_wp2_with fail
              refine (clone_c _ bt bm S hTr).mono ?_
              rintro e w3 ⟨bt', bm', rfl, hT', hk3, hb1', hb2'⟩
              have hlt := hTr.lt
              have hTa := hTr.keep hk3 (by simp) (by simp)
              have hka := hkr.trans hk3
              have hsz := hkr.size
              clear hTr hkr hk3
              go_wp2_with fail
              refine (cards_c _ bt bm S hTa).mono ?_
              rintro e w4 ⟨va, rfl, hsa, hk4⟩
              replace hT' := hT'.keep hk4 (by simp) (by simp)
              replace hTa := hTa.keep hk4 (by simp) (by simp)
              replace hka := hka.trans hk4
              clear hk4
              go_wp2_with fail
              refine (cards_c _ bt' bm' S hT').mono ?_
              rintro e w5 ⟨vb, rfl, hsb, hk5⟩
              replace hT' := hT'.keep hk5 (by simp) (by simp)
              replace hTa := hTa.keep hk5 (by simp) (by simp)
              replace hka := hka.trans hk5
              replace hsa := hsa.keeps hk5
              clear hk5
              go_wp2_with fail
              refine (same_c _ va vb S S hsa hsb).mono ?_
              rw [show decide (S = S) = true from by simp]
              rintro e w6 ⟨rfl, hk6⟩
              replace hT' := hT'.keep hk6 (by simp) (by simp)
              replace hTa := hTa.keep hk6 (by simp) (by simp)
              replace hka := hka.trans hk6
              clear hk6 hsa hsb
              go_wp2_with fail
              refine (marked_c two _ bt bm S hTa).mono ?_
              rintro e w' ⟨rfl, rfl⟩
              generalize hp : (oldB two && decide (two / 16 ∈ S)) = p
              go_wp2_with fail
              refine (marked_c one _ bt' bm' S hT').mono ?_
              rintro e w' ⟨rfl, rfl⟩
              generalize hq : (oldB one && decide (one / 16 ∈ S)) = q
              go_wp2_with fail
              refine (mark_c one _ bt bm S hTa).mono ?_
              rintro e w7 ⟨rfl, hT7, hk7⟩
              replace hT' := hT'.keep hk7 (by simp; omega) (by simp; omega)
              replace hka := hka.fresh hk7 (by simp; omega)
              clear hk7 hTa
              go_wp2_with fail
              refine (mark_c two _ bt' bm' S hT').mono ?_
              rintro e w8 ⟨rfl, hT8, hk8⟩
              replace hT7 := hT7.keep hk8 (by simp; omega) (by simp; omega)
              replace hka := hka.fresh hk8 (by simp; omega)
              clear hk8 hT'
              go_wp2_with fail
              refine (oldr_c one _).mono ?_
              rw [h1.out]
              rintro e w' ⟨rfl, rfl⟩
              go_wp2_with fail
              refine (oldr_c two _).mono ?_
              rw [h2.out]
              rintro e w' ⟨rfl, rfl⟩
              go_wp2_with fail
              refine (marked_c two _ bt bm _ hT7).mono ?_
              rw [clones_mem S one two hc.out.1, hp]
              rintro e w' ⟨rfl, rfl⟩
              go_wp2_with fail
              refine (marked_c one _ bt' bm' _ hT8).mono ?_
              rw [clones_mem S two one hc.out.2, hq]
              rintro e w' ⟨rfl, rfl⟩
              go_wp2_with fail
              refine (awake_c _).mono ?_
              rintro e w9 ⟨rfl, hk9⟩
              go_wp2_with fail
              go_ret
              exact ⟨rfl, hka.trans hk9⟩
        · cases hq0 : (one / 16 == two / 16)
          · have hc : (oldB one = false ∨ oldB two = false ∨ (one / 16 == two / 16) = false) ∧ (oldB two = false ∨ oldB one = false ∨ (two / 16 == one / 16) = false) := ⟨.inr (.inr hq0), .inr (.inr (by rw [show (two / 16 == one / 16) = (one / 16 == two / 16) from BEq.comm]; exact hq0))⟩
            obtain ⟨b1, b2⟩ := oldB_iff.1 h1
            obtain ⟨b3, b4⟩ := oldB_iff.1 h2
            replace hc := Lib.hid hc
            replace h1 := Lib.hid h1
            replace h2 := Lib.hid h2
            go_enter Try.func9, Try.ntmps9
            go_wp2_with fail
            refine (new_c _).mono ?_
            rintro e w1 ⟨bt, bm, rfl, hT, hk, hb1, hb2⟩
            go_wp2_with fail
            go_loopw [23] (fun i wr => ∃ (k : Nat) (S : List Int), k ≤ l.length ∧ i = .int .i64 k ∧ Tab wr bt bm S ∧ Keeps [] w wr) (fun i _ => l.length - (Go.RowKit.intOf i).toNat)
            case atStart => exact ⟨0, _, by omega, rfl, hT, hk⟩
            case round =>
              clear hT hk
              obtain ⟨k, S, hkl, rfl, hTr, hkr⟩ := hrel
              by_cases hlt : k < l.length
              · have k1 := hkr.val (hc1 k hlt)
                generalize hx : l[k] = x at *
                clear hx
                go_wp2_with fail
                refine (mark_c x _ bt bm S hTr).mono ?_
                rintro e w3 ⟨rfl, hT3, hk3⟩
                go_wp2_with fail
                go_roundw
                case rel => exact ⟨k + 1, _, by omega, by go_num, hT3, hkr.fresh hk3 (by simp; omega)⟩
                case measure => simp [Go.RowKit.intOf]; omega
              · go_wp2_with fail
                refine (clone_c _ bt bm S hTr).mono ?_
                rintro e w3 ⟨bt', bm', rfl, hT', hk3, hb1', hb2'⟩
                have hlt := hTr.lt
                have hTa := hTr.keep hk3 (by simp) (by simp)
                have hka := hkr.trans hk3
                have hsz := hkr.size
                clear hTr hkr hk3
                go_wp2_with fail
                refine (cards_c _ bt bm S hTa).mono ?_
                rintro e w4 ⟨va, rfl, hsa, hk4⟩
                replace hT' := hT'.keep hk4 (by simp) (by simp)
                replace hTa := hTa.keep hk4 (by simp) (by simp)
                replace hka := hka.trans hk4
                clear hk4
                go_wp2_with fail
                refine (cards_c _ bt' bm' S hT').mono ?_
                rintro e w5 ⟨vb, rfl, hsb, hk5⟩
                replace hT' := hT'.keep hk5 (by simp) (by simp)
                replace hTa := hTa.keep hk5 (by simp) (by simp)
                replace hka := hka.trans hk5
                replace hsa := hsa.keeps hk5
                clear hk5
                go_wp2_with fail
                refine (same_c _ va vb S S hsa hsb).mono ?_
                rw [show decide (S = S) = true from by simp]
                rintro e w6 ⟨rfl, hk6⟩
                replace hT' := hT'.keep hk6 (by simp) (by simp)
                replace hTa := hTa.keep hk6 (by simp) (by simp)
                replace hka := hka.trans hk6
                clear hk6 hsa hsb
                go_wp2_with fail
                refine (marked_c two _ bt bm S hTa).mono ?_
                rintro e w' ⟨rfl, rfl⟩
                generalize hp : (oldB two && decide (two / 16 ∈ S)) = p
                go_wp2_with fail
                refine (marked_c one _ bt' bm' S hT').mono ?_
                rintro e w' ⟨rfl, rfl⟩
                generalize hq : (oldB one && decide (one / 16 ∈ S)) = q
                go_wp2_with fail
                refine (mark_c one _ bt bm S hTa).mono ?_
                rintro e w7 ⟨rfl, hT7, hk7⟩
                replace hT' := hT'.keep hk7 (by simp; omega) (by simp; omega)
                replace hka := hka.fresh hk7 (by simp; omega)
                clear hk7 hTa
                go_wp2_with fail
                refine (mark_c two _ bt' bm' S hT').mono ?_
                rintro e w8 ⟨rfl, hT8, hk8⟩
                replace hT7 := hT7.keep hk8 (by simp; omega) (by simp; omega)
                replace hka := hka.fresh hk8 (by simp; omega)
                clear hk8 hT'
                go_wp2_with fail
                refine (oldr_c one _).mono ?_
                rw [h1.out]
                rintro e w' ⟨rfl, rfl⟩
                go_wp2_with fail
                refine (oldr_c two _).mono ?_
                rw [h2.out]
                rintro e w' ⟨rfl, rfl⟩
                go_wp2_with fail
                refine (marked_c two _ bt bm _ hT7).mono ?_
                rw [clones_mem S one two hc.out.1, hp]
                rintro e w' ⟨rfl, rfl⟩
                go_wp2_with fail
                refine (marked_c one _ bt' bm' _ hT8).mono ?_
                rw [clones_mem S two one hc.out.2, hq]
                rintro e w' ⟨rfl, rfl⟩
                go_wp2_with fail
                refine (awake_c _).mono ?_
                rintro e w9 ⟨rfl, hk9⟩
                go_wp2_with fail
                go_ret
                exact ⟨rfl, hka.trans hk9⟩
          · have hc : (one / 16 == two / 16) = true := hq0
            obtain ⟨b1, b2⟩ := oldB_iff.1 h1
            obtain ⟨b3, b4⟩ := oldB_iff.1 h2
            replace h1 := Lib.hid h1
            replace h2 := Lib.hid h2
            go_enter Try.func9, Try.ntmps9
            go_wp2_with fail
            refine (new_c _).mono ?_
            rintro e w1 ⟨bt, bm, rfl, hT, hk, hb1, hb2⟩
            go_wp2_with fail
            go_loopw [23] (fun i wr => ∃ (k : Nat) (S : List Int), k ≤ l.length ∧ i = .int .i64 k ∧ Tab wr bt bm S ∧ Keeps [] w wr) (fun i _ => l.length - (Go.RowKit.intOf i).toNat)
            case atStart => exact ⟨0, _, by omega, rfl, hT, hk⟩
            case round =>
              clear hT hk
              obtain ⟨k, S, hkl, rfl, hTr, hkr⟩ := hrel
              by_cases hlt : k < l.length
              · have k1 := hkr.val (hc1 k hlt)
                generalize hx : l[k] = x at *
                clear hx
                go_wp2_with fail
                refine (mark_c x _ bt bm S hTr).mono ?_
                rintro e w3 ⟨rfl, hT3, hk3⟩
                go_wp2_with fail
                go_roundw
                case rel => exact ⟨k + 1, _, by omega, by go_num, hT3, hkr.fresh hk3 (by simp; omega)⟩
                case measure => simp [Go.RowKit.intOf]; omega
              · go_wp2_with fail
                refine (clone_c _ bt bm S hTr).mono ?_
                rintro e w3 ⟨bt', bm', rfl, hT', hk3, hb1', hb2'⟩
                have hlt := hTr.lt
                have hTa := hTr.keep hk3 (by simp) (by simp)
                have hka := hkr.trans hk3
                have hsz := hkr.size
                clear hTr hkr hk3
                go_wp2_with fail
                refine (cards_c _ bt bm S hTa).mono ?_
                rintro e w4 ⟨va, rfl, hsa, hk4⟩
                replace hT' := hT'.keep hk4 (by simp) (by simp)
                replace hTa := hTa.keep hk4 (by simp) (by simp)
                replace hka := hka.trans hk4
                clear hk4
                go_wp2_with fail
                refine (cards_c _ bt' bm' S hT').mono ?_
                rintro e w5 ⟨vb, rfl, hsb, hk5⟩
                replace hT' := hT'.keep hk5 (by simp) (by simp)
                replace hTa := hTa.keep hk5 (by simp) (by simp)
                replace hka := hka.trans hk5
                replace hsa := hsa.keeps hk5
                clear hk5
                go_wp2_with fail
                refine (same_c _ va vb S S hsa hsb).mono ?_
                rw [show decide (S = S) = true from by simp]
                rintro e w6 ⟨rfl, hk6⟩
                replace hT' := hT'.keep hk6 (by simp) (by simp)
                replace hTa := hTa.keep hk6 (by simp) (by simp)
                replace hka := hka.trans hk6
                clear hk6 hsa hsb
                go_wp2_with fail
                refine (marked_c two _ bt bm S hTa).mono ?_
                rintro e w' ⟨rfl, rfl⟩
                generalize hp : (oldB two && decide (two / 16 ∈ S)) = p
                go_wp2_with fail
                refine (marked_c one _ bt' bm' S hT').mono ?_
                rintro e w' ⟨rfl, rfl⟩
                generalize hq : (oldB one && decide (one / 16 ∈ S)) = q
                go_wp2_with fail
                refine (mark_c one _ bt bm S hTa).mono ?_
                rintro e w7 ⟨rfl, hT7, hk7⟩
                replace hT' := hT'.keep hk7 (by simp; omega) (by simp; omega)
                replace hka := hka.fresh hk7 (by simp; omega)
                clear hk7 hTa
                go_wp2_with fail
                refine (mark_c two _ bt' bm' S hT').mono ?_
                rintro e w8 ⟨rfl, hT8, hk8⟩
                replace hT7 := hT7.keep hk8 (by simp; omega) (by simp; omega)
                replace hka := hka.fresh hk8 (by simp; omega)
                clear hk8 hT'
                go_wp2_with fail
                refine (oldr_c one _).mono ?_
                rw [h1.out]
                rintro e w' ⟨rfl, rfl⟩
                go_wp2_with fail
                refine (oldr_c two _).mono ?_
                rw [h2.out]
                rintro e w' ⟨rfl, rfl⟩
                go_wp2_with fail
                refine (awake_c _).mono ?_
                rintro e w9 ⟨rfl, hk9⟩
                go_wp2_with fail
                go_ret
                exact ⟨rfl, hka.trans hk9⟩
end Go.Proofs.Ytekeabjclamfhaa
