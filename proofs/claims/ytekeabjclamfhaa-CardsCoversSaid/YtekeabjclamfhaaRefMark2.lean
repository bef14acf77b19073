/- The reference's Mark, whatever the address. -/
import Derived.Test.YtekeabjclamfhaaRefMark
namespace Go.Proofs.Ytekeabjclamfhaa
open Go.RowKit Go.Maps

theorem SlI.form {w : World} {v : Value} {l : List Int} (h : SlI w v l) : ∃ a cap, v = .slice a l.length cap := by
  obtain ⟨_, a, cap, rfl, _⟩ := h; exact ⟨a, cap, rfl⟩

set_option maxHeartbeats 1000000 in
theorem markr_c (w : World) (v : Value) (l : List Int) (a : Int) (h : SlI w v l) (hnil : l = [] → v = .slice none 0 0) (hlen : l.length ≤ 1048576) (hasc : Asc l) :
    Calls Try.prog 23 #[.agg #[v], .int .i64 a] w fun e w' => ∃ v', e = .returned (.tuple #[.agg #[v'], .int .i64 (markC a)]) ∧ SlI w' v' (markS a l) ∧ (markS a l = [] → v' = .slice none 0 0) ∧ Keeps [] w w' := by
  cases ho : oldB a
  · replace ho := Lib.hid ho
    have e1 : markC a = 2 := by simp [markC, ho.out]
    have e2 : markS a l = l := by simp [markS, ho.out]
    rw [e1, e2]
    clear e1 e2
    have hh := Lib.hid h
    have hn := Lib.hid hnil
    clear hnil hasc hlen
    obtain ⟨a1, c1, rfl⟩ := h.form
    clear h
    go_enter Try.func23, Try.ntmps23
    go_wp2_with (first
      | (go_at_call 22; refine (oldr_c _ _).mono ?_; rw [ho.out]; rintro e w' ⟨rfl, rfl⟩))
    have hk : Keeps [] w ((w.alloc (.cells #[.slice a1 l.length c1] 27)).alloc (.cells #[.slice a1 l.length c1] 27)) := ((Keeps.refl _ _).alloc _).alloc _
    exact bodyPost_ret (v := .tuple #[.agg #[.slice a1 l.length c1], .int .i64 2]) (by simp [results, f23_results, go_sem]) rfl ⟨_, rfl, hh.out.keeps hk, hn.out, hk⟩
  · obtain ⟨h0, h1⟩ := oldB_iff.1 ho
    have e1 : markC a = 0 := by simp [markC, ho]
    have e2 : markS a l = ins (a / 16) l := by simp [markS, ho]
    rw [e1, e2]
    by_cases hm : a / 16 ∈ l
    · rw [ins_of_mem hasc hm]
      have hd : decide (a / 16 ∈ l) = true := by simp [hm]
      replace hd := Lib.hid hd
      replace ho := Lib.hid ho
      have hh := Lib.hid h
      have hn := Lib.hid hnil
      clear hnil hasc e1 e2 hm
      obtain ⟨a1, c1, rfl⟩ := h.form
      clear h
      go_enter Try.func23, Try.ntmps23
      go_wp2_with (first
        | (go_at_call 22; refine (oldr_c _ _).mono ?_; rw [ho.out]; rintro e w' ⟨rfl, rfl⟩)
        | (go_at_call 13; refine (has_c _ _ l _ (hh.out.keeps (((Keeps.refl _ w).alloc _).alloc _)) hlen).mono ?_; rw [ho.out, hd.out]; rintro e w1 ⟨rfl, hk1⟩; have hc := hk1.cell0; have hf := hk1.frozen0; have hz := hk1.size; simp at hz; have hz0 : w.heap.size < w1.heap.size := (by omega); have hz1 : w.heap.size + 1 < w1.heap.size := (by omega)))
      have hk := Keeps.fresh (((Keeps.refl [] w).alloc (.cells #[.slice a1 l.length c1] 27)).alloc (.cells #[.slice none 0 0] 27)) hk1 (by simp)
      have hk2 := hk.setCell (p := ⟨w.heap.size + 1, 0, none⟩) (.inl (by simp)) (.slice a1 l.length c1)
      exact bodyPost_ret (v := .tuple #[.agg #[.slice a1 l.length c1], .int .i64 0]) (by simp [results, f23_results, go_sem, hc]) rfl ⟨_, rfl, hh.out.keeps hk2, hn.out, hk2⟩
    · refine (markr_new w v l a h hnil hlen h0 h1 hm hasc).mono ?_
      rintro e w' ⟨v', rfl, hs, hk⟩
      exact ⟨v', rfl, hs, (fun e => by
        have : a / 16 ∈ ins (a / 16) l := mem_ins.2 (.inl rfl)
        rw [e] at this; cases this), hk⟩
end Go.Proofs.Ytekeabjclamfhaa
