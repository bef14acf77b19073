/- The walks of the laws on ranges: two different cards have no address in common; Range agrees with the reference. -/
import Derived.Test.YtekeabjclamfhaaAwake
namespace Go.Proofs.Ytekeabjclamfhaa
open Go.RowKit Go.Maps

set_option maxHeartbeats 2000000 in
theorem disjoint_c (w : World) (a b : Int) (ha : (Lit.int .i64 a).wf = true) (hb : (Lit.int .i64 b).wf = true) :
    Calls Try.prog 7 #[.int .i64 a, .int .i64 b] w fun e w' => e = .returned (.bool true) ∧ Keeps [] w w' := by
  clear ha hb
  by_cases h : 0 ≤ a ∧ a < b ∧ b < 1048576
  · obtain ⟨h0, h1, h2⟩ := h
    have ea : lowC a = 16 * a ∧ highC a = 16 * a + 16 := ⟨by unfold lowC; rw [if_neg (by omega)], by unfold highC; rw [if_neg (by omega)]⟩
    have eb : lowC b = 16 * b ∧ highC b = 16 * b + 16 := ⟨by unfold lowC; rw [if_neg (by omega)], by unfold highC; rw [if_neg (by omega)]⟩
    have b1 : 0 ≤ lowC a ∧ lowC a ≤ 16777216 ∧ 0 ≤ highC a ∧ highC a ≤ 16777216 ∧ 0 ≤ lowC b ∧ lowC b ≤ 16777216 ∧ 0 ≤ highC b ∧ highC b ≤ 16777216 ∧ highC a ≤ lowC b := by rw [ea.1, ea.2, eb.1, eb.2]; omega
    have x1 : (highC a - lowC a == 16) = true := by rw [ea.1, ea.2]; simp; omega
    have x2 : (highC b - lowC b == 16) = true := by rw [eb.1, eb.2]; simp; omega
    obtain ⟨c1, c2, c3, c4, c5, c6, c7, c8, c9⟩ := b1
    clear ea eb
    go_enter Try.func7, Try.ntmps7
    go_wp2_with fail
    refine (new_c _).mono ?_
    rintro e w1 ⟨bt, bm, rfl, hT, hk, _, _⟩
    clear hT
    go_wp2_with fail
    refine (range_c a _ _).mono ?_
    rintro e w' ⟨rfl, rfl⟩
    go_wp2_with fail
    refine (range_c b _ _).mono ?_
    rintro e w' ⟨rfl, rfl⟩
    go_wp2_with fail
    refine (awake_c _).mono ?_
    rintro e w3 ⟨rfl, hk3⟩
    go_wp2_with fail
    go_ret
    exact ⟨rfl, hk.trans hk3⟩
  · by_cases h0 : a < 0
    · clear h
      go_enter Try.func7, Try.ntmps7
      go_wp2_with fail
      refine (new_c _).mono ?_
      rintro e w1 ⟨bt, bm, rfl, hT, hk, _, _⟩
      clear hT
      go_wp2_with fail
      refine (awake_c _).mono ?_
      rintro e w3 ⟨rfl, hk3⟩
      go_wp2_with fail
      go_ret
      exact ⟨rfl, hk.trans hk3⟩
    · by_cases h1 : b ≤ a
      · clear h
        go_enter Try.func7, Try.ntmps7
        go_wp2_with fail
        refine (new_c _).mono ?_
        rintro e w1 ⟨bt, bm, rfl, hT, hk, _, _⟩
        clear hT
        go_wp2_with fail
        refine (awake_c _).mono ?_
        rintro e w3 ⟨rfl, hk3⟩
        go_wp2_with fail
        go_ret
        exact ⟨rfl, hk.trans hk3⟩
      · have h2 : 1048576 ≤ b := by omega
        clear h
        go_enter Try.func7, Try.ntmps7
        go_wp2_with fail
        refine (new_c _).mono ?_
        rintro e w1 ⟨bt, bm, rfl, hT, hk, _, _⟩
        clear hT
        go_wp2_with fail
        refine (awake_c _).mono ?_
        rintro e w3 ⟨rfl, hk3⟩
        go_wp2_with fail
        go_ret
        exact ⟨rfl, hk.trans hk3⟩

set_option maxHeartbeats 2000000 in
theorem ranges_c (w : World) (v0 : Value) (l : List OpM) (c : Int) (h : SlOps w v0 l) (hl63 : l.length ≤ maxLen) (hkd : ∀ o ∈ l, 0 ≤ o.k ∧ o.k < 256) (_ : (Lit.int .i64 c).wf = true) :
    Calls Try.prog 5 #[v0, .int .i64 c] w fun e w' => e = .returned (.bool true) ∧ Keeps [] w w' := by
  obtain ⟨_, a0, c0, rfl, _, _, _, _⟩ := id h
  by_cases hl : 20 < l.length
  · clear h hkd
    go_enter Try.func5, Try.ntmps5
    go_wp2_with fail
    refine (awake_c _).mono ?_
    rintro e w2 ⟨rfl, hk⟩
    go_wp2_with fail
    go_ret
    exact ⟨rfl, hk⟩
  · have hh := Lib.hid h
    have hkd := Lib.hid hkd
    clear h
    go_enter Try.func5, Try.ntmps5
    go_wp2_with fail
    refine (do_c _ _ l hh.out (by omega) hkd.out).mono ?_
    rintro e w2 ⟨bt, bm, v', rfl, hT, _, _, hs, hk⟩
    obtain ⟨va, vcap, rfl⟩ := hs.form
    clear hs hT
    go_wp2_with fail
    refine (range_c c _ _).mono ?_
    rintro e w' ⟨rfl, rfl⟩
    go_wp2_with fail
    refine (ranger_c c _).mono ?_
    rintro e w' ⟨rfl, rfl⟩
    go_wp2_with fail
    refine (awake_c _).mono ?_
    rintro e w3 ⟨rfl, hk3⟩
    go_wp2_with fail
    go_ret
    exact ⟨rfl, (hk.alloc _).trans hk3⟩
end Go.Proofs.Ytekeabjclamfhaa
