/- The sorted keys of a table. -/
import Derived.Test.YtekeabjclamfhaaRefs
import Derived.Test.YtekeabjclamfhaaIter
namespace Go.Proofs.Ytekeabjclamfhaa
open Go.RowKit Go.Maps Go.Sort Go.Shelf Go.Proofs

theorem sortsA (m : Nat) : AnyZI.SortsIn Try.prog Try.sortedA_ren Fence.wide m :=
  ⟨fun blk off cap ss W hH hblk hsz => callsIn_wide.2 (AnyM.slices_Sort_int Try.sortA blk off cap ss W hH hblk hsz),
   fun p cap W => callsIn_wide.2 (AnyM.slices_Sort_int_none Try.sortA p cap W)⟩

set_option maxHeartbeats 1000000 in
theorem sorted_raw (b nn : Nat) (D0 : DataW Unit) (R : Value → Option (DataW Unit × List MemPlace)) (w : World) (hown : w.ownsMap Try.prog 3 R b nn D0) (hmax : Maps.size D0 ≤ maxLen) (hbytes : Maps.size D0 * 8 ≤ 140737488355328) :
    Calls Try.prog 25 #[.map (some b)] w fun e w' => ∃ (v : Value) (ss : List Int), e = .returned v ∧ ss.Perm (intKeys D0) ∧
      w'.ownsRow w.heap.size 3 1 v ss.length ((ss.mergeSort (fun x y => decide (x ≤ y))).map encZ) ∧ (v = .slice none 0 0 ↔ ss = []) ∧ Below w.heap.size w w' := by
  refine (callsIn_wide (n := 6)).1 ?_
  have hbl := hown.lt
  have hseq : SeqGives Fence.wide 2 Try.prog 32 #[.pointer (some ⟨w.heap.size, 0, none⟩)] encZ (fun ss => ss.Perm (intKeys D0)) (Maps.size D0) (w.alloc (.cells #[.map (some b)] 51)) :=
    AnyZI.keys_gives (ρ := Try.keysA_ren) { Try.keysA with } Fence.wide _ trivial rfl (by omega) w.heap.size b nn D0 _ (by simp) (by simp) (by
      obtain ⟨es, clock, hb, Ft, hs, hD⟩ := hown
      exact ⟨es, clock, (Below.heap_alloc _ _ b hbl).trans hb, Ft, hs, hD⟩)
  have cK : ∀ mb W, CallsIn Fence.wide 5 Try.prog 28 #[.map mb] W fun e w' => e = .returned (.func (.func 32) #[] #[.pointer (some ⟨W.heap.size, 0, none⟩)]) ∧ w' = W.alloc (.cells #[.map mb] 51) := fun mb W => AnyZI.keys_in Try.keysA Fence.wide 5 trivial rfl mb W
  have cS := AnyZI.sorted_in Try.sortedA Fence.wide 5 trivial trivial trivial trivial rfl (by omega) (sortsA _) (enters_of Try.func31 (by kernel_rfl) rfl) 32 #[.pointer (some ⟨w.heap.size, 0, none⟩)] trivial (enters_of Try.func32 (by kernel_rfl) rfl) _ _ hmax hbytes _ hseq
  change CallsIn _ _ Try.prog 27 _ _ _ at cS
  have hfK : Fence.wide.fn 28 := trivial
  have hfS : Fence.wide.fn 27 := trivial
  refine callsIn_of_wp Try.func25 rfl trivial ?_ rfl
  simp only [Try.ntmps25, List.size_toArray, List.length_cons, List.length_nil, Nat.reduceAdd, Nat.reduceSub, Array.replicate_succ, Array.replicate_zero, List.push_toArray, List.append_toArray, List.nil_append, List.cons_append]
  gi_wp2_with (first
    | (gi_at_call 28; refine (cK _ _).mono ?_; rintro e w' ⟨rfl, rfl⟩)
    | (gi_at_call 27; refine cS.mono ?_; rintro e w' ⟨v, ss, rfl, hS, hrow, hnil, hb⟩))
  go_ret
  exact ⟨v, ss, rfl, hS, ownsRow_base_a hrow (by simp), hnil, ((Below.refl _ w).alloc (Nat.le_refl _) _).trans (hb.mono (by simp))⟩

theorem sorted_c (b : Nat) (S : List Int) (w : World) (hown : w.ownsMap Try.prog 3 (plainElem Try.prog 4) b S.length (encD S)) (hasc : Asc S) (hlen : S.length ≤ 1048576) :
    Calls Try.prog 25 #[.map (some b)] w fun e w' => ∃ v, e = .returned v ∧ SlI w' v S ∧ Keeps [] w w' := by
  refine (sorted_raw b _ (encD S) _ w hown (by rw [size_enc]; unfold maxLen; omega) (by rw [size_enc]; omega)).mono ?_
  rintro e w' ⟨v, ss, rfl, hp, hrow, _, hb⟩
  rw [intKeys_enc] at hp
  rw [sorted_eq hp hasc, hp.length_eq] at hrow
  exact ⟨v, rfl, Sl.of_owns hrow, Keeps.of_below hb⟩

set_option maxHeartbeats 400000 in
theorem cards_c (w : World) (bt bm : Nat) (S : List Int) (h : Tab w bt bm S) :
    Calls Try.prog 18 #[.pointer (some ⟨bt, 0, none⟩)] w fun e w' => ∃ v, e = .returned v ∧ SlI w' v S ∧ Keeps [] w w' := by
  have hc := h.cell
  have hown := h.own
  have hlen := h.len
  go_enter Try.func18, Try.ntmps18
  go_wp2_with (go_at_call 25; refine (sorted_c bm S _ hown h.asc hlen).mono ?_; rintro e w' ⟨v, rfl, hs, hk⟩)
  go_ret
  exact ⟨v, rfl, hs, hk⟩
end Go.Proofs.Ytekeabjclamfhaa
