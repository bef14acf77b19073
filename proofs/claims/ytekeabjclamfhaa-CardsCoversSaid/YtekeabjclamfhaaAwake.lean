/- The chapter's examples hold; the law on the marked cards. -/
import Derived.Test.YtekeabjclamfhaaDo
namespace Go.Proofs.Ytekeabjclamfhaa
open Go.RowKit Go.Maps

theorem doS35 : doS [⟨0, 35⟩] = [2] := by decide
theorem ops35 (w : World) : SlOps (w.alloc (.cells #[.int .u8 0, .int .i64 35] 48)) (.slice (some ⟨w.heap.size, 0, none⟩) 1 1) [⟨0, 35⟩] :=
  ⟨rfl, _, _, rfl, Nat.le_refl _, by simp [maxLen], by simp, fun _ => ⟨_, 0, rfl, fun j u hj => by
    match j, hj with
    | 0, hj => simp [OpM.cells] at hj; subst hj; simp
    | 1, hj => simp [OpM.cells] at hj; subst hj; simp⟩⟩
theorem one2 (w : World) : SlI (w.alloc (.cells #[.int .i64 2] 3)) (.slice (some ⟨w.heap.size, 0, none⟩) 1 1) [2] := Sl.one w _ _
theorem mark47 : (oldB 47 && decide ((47 : Int) / 16 ∈ [(2 : Int)])) = true := by decide
theorem mark48 : (oldB 48 && decide ((48 : Int) / 16 ∈ [(2 : Int)])) = false := by decide

set_option maxHeartbeats 2000000 in
theorem awake_c (w : World) : Calls Try.prog 10 #[] w fun e w' => e = .returned (.bool true) ∧ Keeps [] w w' := by
  go_enter Try.func10, Try.ntmps10
  go_wp2_with fail
  refine (do_c _ _ [⟨0, 35⟩] (ops35 w) (by simp) (by simp)).mono ?_
  rw [doS35]
  rintro e w2 ⟨bt, bm, v', rfl, hT, _, _, hs, hk⟩
  obtain ⟨va, vcap, rfl⟩ := hs.form
  clear hs
  have hk0 : Keeps [] w w2 := ((Keeps.refl [] w).alloc _).trans hk
  clear hk
  go_wp2_with fail
  refine (range_c 2 _ _).mono ?_
  rw [show lowC 2 = 32 from rfl, show highC 2 = 48 from rfl]
  rintro e w' ⟨rfl, rfl⟩
  go_wp2_with fail
  refine (cards_c _ bt bm [2] (hT.keep ((Keeps.refl [] _).alloc _) (by simp) (by simp))).mono ?_
  rintro e w3 ⟨v3, rfl, hs3, hk3⟩
  have hk03 := (hk0.alloc _).trans hk3
  have hT3 := (hT.keep ((Keeps.refl [] w2).alloc _) (by simp) (by simp)).keep hk3 (by simp) (by simp)
  clear hk3 hT hk0
  go_wp2_with fail
  refine (same_c _ v3 _ [2] [2] (hs3.keeps ((Keeps.refl [] _).alloc _)) (one2 w3)).mono ?_
  rintro e w4 ⟨rfl, hk4⟩
  have hk04 := (hk03.alloc _).trans hk4
  have hT4 := (hT3.keep ((Keeps.refl [] w3).alloc _) (by simp) (by simp)).keep hk4 (by simp) (by simp)
  clear hk4 hT3 hk03 hs3
  go_wp2_with fail
  refine (marked_c 47 _ bt bm [2] hT4).mono ?_
  rw [mark47]
  rintro e w5 ⟨rfl, rfl⟩
  go_wp2_with fail
  refine (marked_c 48 _ bt bm [2] hT4).mono ?_
  rw [mark48]
  rintro e w5 ⟨rfl, rfl⟩
  go_wp2_with fail
  go_ret
  exact ⟨rfl, hk04⟩

set_option maxHeartbeats 2000000 in
theorem cardsMarks_c (w : World) (v0 : Value) (l : List OpM) (h : SlOps w v0 l) (hl63 : l.length ≤ maxLen) (hkd : ∀ o ∈ l, 0 ≤ o.k ∧ o.k < 256) :
    Calls Try.prog 3 #[v0] w fun e w' => e = .returned (.bool true) ∧ Keeps [] w w' := by
  obtain ⟨_, a0, c0, rfl, _, _, _, _⟩ := id h
  by_cases hl : 60 < l.length
  · clear h hkd
    go_enter Try.func3, Try.ntmps3
    go_wp2_with fail
    refine (awake_c _).mono ?_
    rintro e w2 ⟨rfl, hk⟩
    go_wp2_with fail
    go_ret
    exact ⟨rfl, hk⟩
  · have hh := Lib.hid h
    have hkd := Lib.hid hkd
    clear h
    go_enter Try.func3, Try.ntmps3
    go_wp2_with fail
    refine (do_c _ _ l hh.out (by omega) hkd.out).mono ?_
    rintro e w2 ⟨bt, bm, v', rfl, hT, _, _, hs, hk⟩
    obtain ⟨va, vcap, rfl⟩ := hs.form
    clear hs hT
    go_wp2_with fail
    refine (awake_c _).mono ?_
    rintro e w3 ⟨rfl, hk3⟩
    go_wp2_with fail
    go_ret
    exact ⟨rfl, (hk.alloc _).trans hk3⟩
end Go.Proofs.Ytekeabjclamfhaa
