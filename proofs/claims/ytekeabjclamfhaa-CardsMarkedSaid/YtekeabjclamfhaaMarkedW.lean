/- The walk of the law that Marked agrees with the model for every number. -/
import Derived.Test.YtekeabjclamfhaaAwake
namespace Go.Proofs.Ytekeabjclamfhaa
open Go.RowKit Go.Maps

def F9 (b : Bool) : Nat → Value → World → Prop
  | 2, v, _ => v = .bool b
  | 5, v, _ => v = .bool b
  | _, _, _ => True
theorem st9 (b : Bool) {ops : Array Oper} : ∀ i k v w w', (i == 2 || i == 5) = true → i ≠ k → false = false → Free.pre ops k i = false → F9 b i v w → Free.KeepsP (fun _ => False) w w' → F9 b i v w' := by
  intro i k v w w' hi _ _ _ hF hK
  have hi : i = 2 ∨ i = 5 := by simpa using hi
  rcases hi with rfl | rfl <;> exact hF

set_option maxHeartbeats 4000000 in
theorem marked_l (w : World) (v0 : Value) (l : List OpM) (v1 : Value) (xs : List Int) (h : SlOps w v0 l) (hl63 : l.length ≤ maxLen) (hkd : ∀ o ∈ l, 0 ≤ o.k ∧ o.k < 256) (h1 : SlI w v1 xs) (hx63 : xs.length ≤ maxLen) (_ : ∀ x ∈ xs, (Lit.int .i64 x).wf = true) :
    Calls Try.prog 4 #[v0, v1] w fun e w' => e = .returned (.bool true) ∧ Keeps [] w w' := by
  obtain ⟨_, a0, c0, rfl, _, _, _, _⟩ := id h
  by_cases hl : 60 < l.length ∨ 60 < xs.length
  · obtain ⟨a1, c1, rfl⟩ := h1.form
    clear h h1 hkd
    by_cases hl0 : 60 < l.length
    · clear hl
      go_enter Try.func4, Try.ntmps4
      go_wp2_with fail
      refine (awake_c _).mono ?_
      rintro e w2 ⟨rfl, hk⟩
      go_wp2_with fail
      go_ret
      exact ⟨rfl, hk⟩
    · have hl1 : 60 < xs.length := by omega
      clear hl
      go_enter Try.func4, Try.ntmps4
      go_wp2_with fail
      refine (awake_c _).mono ?_
      rintro e w2 ⟨rfl, hk⟩
      go_wp2_with fail
      go_ret
      exact ⟨rfl, hk⟩
  · have hl0 : l.length ≤ 60 := by omega
    have hl1 : xs.length ≤ 60 := by omega
    have hh := Lib.hid h
    have hkd := Lib.hid hkd
    clear h hl
    rcases h1.cases with ⟨rfl, a1, c1, rfl, _⟩ | ⟨g1, o1, c1, rfl, hn1, hm1, hp1, hg1, hc1⟩
    · clear h1
      go_enter Try.func4, Try.ntmps4
      go_wp2_with fail
      refine (do_c _ _ l hh.out (by omega) hkd.out).mono ?_
      rintro e w2 ⟨bt, bm, v', rfl, hT, _, _, hs, hk⟩
      obtain ⟨va, vcap, rfl⟩ := hs.form
      clear hs hT
      go_wp2_with fail
      go_loop [29] (fun i => i = .int .i64 0) (fun _ => 0)
      case atStart => rfl
      case round =>
        subst hrel
        go_wp2_with fail
        refine (awake_c _).mono ?_
        rintro e w3 ⟨rfl, hk3⟩
        go_wp2_with fail
        go_ret
        exact ⟨rfl, (hk.alloc _).trans hk3⟩
    · clear h1
      go_enter Try.func4, Try.ntmps4
      go_wp2_with fail
      refine (do_c _ _ l hh.out (by omega) hkd.out).mono ?_
      rintro e w2 ⟨bt, bm, v', rfl, hT, _, _, hs, hk⟩
      obtain ⟨va, vcap, rfl⟩ := hs.form
      have hal : Keeps [] w2 (w2.alloc (.cells #[.slice va (doS l).length vcap] 27)) := (Keeps.refl [] _).alloc _
      have hlen := hT.len
      have hT0 := hT.keep hal (by simp) (by simp)
      have hs0 := hs.keeps hal
      have hk0 := hk.trans hal
      have cM0 : (w2.alloc (.cells #[.slice va (doS l).length vcap] 27)).cell? ⟨w2.heap.size, 0, none⟩ = some (.slice va (doS l).length vcap) := cell_of_one (heap_alloc_new w2 _)
      replace cM0 := Lib.hid cM0
      clear hs hT hal hk
      go_wp2_with fail
      generalize hW0 : w2.alloc (.cells #[.slice va (doS l).length vcap] 27) = W0 at *
      replace hW0 := Lib.hid hW0
      generalize hSS : doS l = S at *
      clear hSS
      go_loopw [29] (fun i wr => ∃ k : Nat, k ≤ xs.length ∧ i = .int .i64 k ∧ Keeps [] W0 wr) (fun i _ => xs.length - (Go.RowKit.intOf i).toNat)
      case atStart => exact ⟨0, by omega, rfl, Keeps.refl _ _⟩
      case round =>
        obtain ⟨k, hk, rfl, hkr⟩ := hrel
        by_cases hlt : k < xs.length
        · have k1 := (hk0.trans hkr).val (hc1 k hlt)
          have cM := hkr.val cM0.out
          generalize hx : xs[k] = x at *
          clear hx
          have hTr := hT0.keep hkr (by simp) (by simp)
          have hsr := hs0.keeps hkr
          go_wp2_with fail
          refine Free.wp_region_free (by kernel_rfl) (by kernel_rfl) (fun i => i == 2 || i == 5) (F9 (oldB x && decide (x / 16 ∈ S))) (fun _ _ => False) (fun _ _ => false) (st9 _) ?_
          apply Free.walk_quiet rfl rfl
          · intro w' hg hf; clear hf
            go_simp <;> exact rfl
          apply Free.walk_quiet rfl rfl
          · intro w' hg hf; clear hf
            go_simp <;> exact rfl
          apply Free.walk_loud rfl rfl
          · intro w' hg hf
            have hkk := keeps_of_none hg
            clear hf hg
            go_simp
            refine (marked_c x _ bt bm S (hTr.keep hkk (by simp) (by simp))).mono ?_
            rintro e w3 ⟨rfl, rfl⟩
            exact ⟨_, rfl, rfl, Free.KeepsP.refl _ _⟩
          intro vm
          apply Free.walk_quiet rfl rfl
          · intro w' hg hf; clear hf
            have hT2 := (keeps_of_none hg).val cM
            go_simp <;> exact rfl
          apply Free.walk_quiet rfl rfl
          · intro w' hg hf; clear hf
            go_simp <;> exact rfl
          apply Free.walk_loud rfl rfl
          · intro w' hg hf
            have hkk := keeps_of_none hg
            clear hf hg
            go_simp
            refine (has_c _ _ S x (hsr.keeps hkk) hlen).mono ?_
            rintro e w3 ⟨rfl, hk3⟩
            exact ⟨_, rfl, rfl, Free.KeepsP.of hk3 (by simp)⟩
          intro vh
          refine Free.walk_quiet (c := .bool false) rfl rfl ?_ ?_
          · intro w' hg hf
            have hm2 : vm = .bool (oldB x && decide (x / 16 ∈ S)) := by simpa [F9] using hf 2 (by decide) (by kernel_rfl)
            have hm5 : vh = .bool (oldB x && decide (x / 16 ∈ S)) := by simpa [F9] using hf 5 (by decide) (by kernel_rfl)
            clear hf hg
            generalize (oldB x && decide (x / 16 ∈ S)) = bb at *
            go_simp
          refine Free.walk_nil ?_
          intro w3 hg hf
          have hk3 := hkr.trans (keeps_of_none' hg)
          clear hf hg hTr hsr cM k1 hkr
          go_frame
          go_wp2_with fail
          go_roundw
          case rel => exact ⟨k + 1, by omega, by go_num, hk3⟩
          case measure => simp [Go.RowKit.intOf]; omega
        · go_wp2_with fail
          refine (awake_c _).mono ?_
          rintro e w3 ⟨rfl, hk3⟩
          go_wp2_with fail
          go_ret
          exact ⟨rfl, (hk0.trans hkr).trans hk3⟩
end Go.Proofs.Ytekeabjclamfhaa
