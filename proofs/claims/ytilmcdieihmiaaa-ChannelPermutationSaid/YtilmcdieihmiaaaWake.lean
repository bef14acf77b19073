/- The chapter's example holds. -/
import Derived.Test.YtilmcdieihmiaaaRecv
import Derived.Test.YtilmcdieihmiaaaSend
import Derived.Lib.SlBytesConst
namespace Go.Proofs.Ytilmcdieihmiaaa
open Go.RowKit

theorem SlB.lit (w : World) (l : List UInt8) (t : TypeId) (f : Nat × Nat) (hl : l.length ≤ maxLen) : SlB (w.alloc (.cells (bys l).toArray t f)) (.slice (some ⟨w.heap.size, 0, none⟩) l.length l.length) l :=
  ⟨by simp [bys], _, _, rfl, Nat.le_refl _, hl, by simp, fun _ => ⟨_, 0, rfl, fun j u hj => by rw [World.cell?_alloc_mark]; simpa using hj⟩⟩
def tOne : Bytes := [111, 110, 101]
def tTwo : Bytes := [116, 119, 111]
theorem oneL (w : World) : SlB (w.alloc (.cells #[.int .u8 111, .int .u8 110, .int .u8 101] 5 (3, 4))) (.slice (some ⟨w.heap.size, 0, none⟩) 3 3) tOne := SlB.lit w tOne _ _ (by simp [tOne, maxLen])
theorem twoL (w : World) : SlB (w.alloc (.cells #[.int .u8 116, .int .u8 119, .int .u8 111] 5 (3, 4))) (.slice (some ⟨w.heap.size, 0, none⟩) 3 3) tTwo := SlB.lit w tTwo _ _ (by simp [tTwo, maxLen])
abbrev C00 : Chan := ⟨0, 0, 0, [], fun _ => none⟩
theorem got_early {C' : Chan} {outs : List Bytes} (h : Got C00 2 tTwo C' outs) : outs = [] ∧ C' = C00.put 2 tTwo := by
  rcases h with ⟨_, _, h | h⟩ | ⟨_, _, hD, _⟩
  · simp at h
  · simp at h
  · rcases hD.inv with ⟨h1, h2⟩ | ⟨l, o, h1, _⟩
    · exact ⟨h1, h2⟩
    · simp [Chan.put] at h1
theorem got_both {C' : Chan} {outs : List Bytes} (h : Got (C00.put 2 tTwo) 1 tOne C' outs) : outs = [tOne, tTwo] := by
  rcases h with ⟨_, _, h | h⟩ | ⟨_, _, hD, hno⟩
  · simp [Chan.put] at h
  · simp [Chan.put] at h
  · rcases hD.inv with ⟨h1, rfl⟩ | ⟨l, o, h1, rfl, hD2⟩
    · simp [Chan.put] at hno
    · have e1 : l = tOne := by simpa [Chan.put] using h1.symm
      subst e1
      rcases hD2.inv with ⟨h2, rfl⟩ | ⟨l2, o2, h2, rfl, hD3⟩
      · simp [Chan.put, Chan.take] at hno
      · have e1 : l2 = tTwo := by simpa [Chan.put, Chan.take] using h2.symm
        subst e1
        rcases hD3.inv with ⟨rfl, _⟩ | ⟨l3, o3, h3, _, _⟩
        · rfl
        · simp [Chan.put, Chan.take] at h3
theorem Ch.base {w : World} {B bc bm n : Nat} {C : Chan} (h : Ch w B bc bm n (.slice none 0 0) C) (hk : C.kept = []) (B' : Nat) : Ch w B' bc bm n (.slice none 0 0) C :=
  ⟨h.blk, by rw [hk]; exact KL.nil _ _, h.early⟩

set_option maxRecDepth 100000 in
set_option maxHeartbeats 4000000 in
theorem awake_c (w : World) : Calls Try.prog 10 #[] w fun e w' => e = .returned (.bool true) ∧ Keeps [] w w' := by
  have kc := fun (w : World) (C : Array Value) (n c : Nat) => Lib.run_convert_bytes_const (P := Try.prog) w 23 5 C n c Try.underlying23 Try.underlying5
  go_enter Try.func10, Try.ntmps10
  go_wp2_with fail
  refine (new_c _).mono ?_
  rintro e w1 ⟨ba, ma, rfl, ga1, ga2, ga3, hA, hk1⟩
  go_wp2_with fail
  refine (new_c _).mono ?_
  rintro e w2 ⟨bb, mb, rfl, gb1, gb2, gb3, hB, hk2⟩
  have ha := hA.cells.2.2.2.2.2.2
  have hma := hA.early.lt
  have hA2 := (hA.keeps hk2).base rfl w2.heap.size
  have hB2 := hB.base rfl w2.heap.size
  have hb := hB.cells.2.2.2.2.2.2
  have hmb := hB.early.lt
  have hk02 := hk1.trans hk2
  have hsz1 := hk1.size
  clear hA hB hk1 hk2
  replace hA2 := Lib.hid hA2
  replace hB2 := Lib.hid hB2
  replace hk02 := Lib.hid hk02
  go_wp2_with fail
  have hkA : Keeps [] w2 (w2.alloc (.cells #[.int .u8 111, .int .u8 110, .int .u8 101] 5 (3, 4))) := (Keeps.refl [] w2).alloc _
  refine (send_c _ w2.heap.size ba ma 0 _ _ C00 tOne (hA2.out.keeps hkA) (oneL w2) (by simp [tOne]) (by simp) (by simp) (by simp) (by simp [Value.ownBlock])).mono ?_
  rintro e w3 ⟨vk3, vd3, rfl, hA3, hd3, hk3, hkb3, hcb3, how3⟩
  have hB3 := (hB2.out.keeps hkA).keepS hk3 (by simp [Value.ownBlock]; omega) (by simp [Value.ownBlock]; omega) (by simp [Value.ownBlock]) hkb3
  have hk03 : Keeps [] w w3 := (hk02.out.trans hkA).fresh hk3 (by simp [Value.ownBlock]; omega)
  have hvk3 : ∀ b, vk3.ownBlock = some b → w2.heap.size ≤ b := fun b hb => by
    obtain ⟨cs, hown, _⟩ := hA3.kept
    exact ownBlock_ge hown b hb
  have hsz3 := hkA.size
  have hsz32 := hk3.size
  simp only [List.nil_append, Nat.zero_add] at hA3 hd3 ⊢
  obtain ⟨a3, c3, rfl⟩ := hd3.form
  clear hA2 hB2 hk02 hkA hk3 hkb3 how3
  replace hA3 := Lib.hid hA3
  replace hB3 := Lib.hid hB3
  replace hd3 := Lib.hid hd3
  replace hk03 := Lib.hid hk03
  replace hcb3 := Lib.hid hcb3
  replace hvk3 := Lib.hid hvk3
  generalize hD1 : (dataB 1 tOne).length = n1 at *
  go_wp2_with fail
  have hkA : Keeps [] w3 (w3.alloc (.cells #[.int .u8 116, .int .u8 119, .int .u8 111] 5 (3, 4))) := (Keeps.refl [] w3).alloc _
  refine (send_c _ w2.heap.size ba ma 0 _ _ _ tTwo (hA3.out.keeps hkA) (twoL w3) (by simp [tTwo]) (by simp) (by simp) (by have := hkA.size; omega) hcb3.out).mono ?_
  rintro e w4 ⟨vk4, vd4, rfl, hA4, hd4, hk4, hkb4, hcb4, how4⟩
  have hB4 := (hB3.out.keeps hkA).keepS hk4 (by simp; exact ⟨by omega, fun e => by have := hvk3.out _ e; omega⟩) (by simp; exact ⟨by omega, fun e => by have := hvk3.out _ e; omega⟩) (by simp [Value.ownBlock]) hkb4
  have hk04 : Keeps [] w w4 := (hk03.out.trans hkA).fresh hk4 (by simp; exact ⟨by omega, fun b hb => by have := hvk3.out _ hb; have := hk03.out.size; omega⟩)
  have hd34 := (hd3.out.keeps hkA).kb hkb4
  simp only [Nat.reduceAdd] at hd4 ⊢
  obtain ⟨a4, c4, rfl⟩ := hd4.form
  clear hA3 hB3 hk03 hkA hk4 hkb4 how4 hA4 hd3
  replace hB4 := Lib.hid hB4
  replace hd4 := Lib.hid hd4
  replace hd34 := Lib.hid hd34
  replace hk04 := Lib.hid hk04
  generalize hD2 : (dataB 2 tTwo).length = n2 at *
  go_wp2_with fail
  refine (recv_c _ w2.heap.size bb mb 0 _ _ C00 2 tTwo hB4.out (by simp [Value.ownBlock]) hd4.out (by simp [tTwo]) (by simp) (by simp) (by simp) (by simp) (fun s hs => by simp at hs)).mono ?_
  rintro e w5 ⟨v5, C5, outs5, m5, rfl, hL5, hB5, hm5, hG5, hk5, hkb5⟩
  obtain ⟨rfl, rfl⟩ := got_early hG5
  obtain ⟨a5, c5, rfl⟩ := hL5.form
  have hd35 := hd34.out.kb hkb5
  have hk05 : Keeps [] w w5 := hk04.out.fresh hk5 (by simp; omega)
  simp only [List.length_nil]
  clear hL5 hB4 hd4 hd34 hk04 hG5 hk5 hkb5
  replace hB5 := Lib.hid hB5
  replace hd35 := Lib.hid hd35
  replace hk05 := Lib.hid hk05
  go_wp2_with fail
  refine (recv_c _ w2.heap.size bb mb m5 _ _ _ 1 tOne hB5.out (by simp [Value.ownBlock]) hd35.out (by simp [tOne]) (by simp) (by simp [Chan.put]) (by omega) (by simp [Chan.put]) (fun s hs => ?near)).mono ?_
  case near =>
    simp only [Chan.put] at hs ⊢
    split at hs
    · omega
    · simp at hs
  rintro e w6 ⟨v6, C6, outs6, m6, rfl, hL6, hB6, hm6, hG6, hk6, hkb6⟩
  obtain rfl := got_both hG6
  have hk06 : Keeps [] w w6 := hk05.out.fresh hk6 (by simp; omega)
  rcases hL6.sls.cases with ⟨h0, _⟩ | ⟨g, o, cp, rfl, hn, hm, hp, hc⟩
  · simp at h0
  · obtain ⟨x, hx, hX⟩ := hc 0 (by simp)
    obtain ⟨y, hy, hY⟩ := hc 1 (by simp)
    simp only [List.getElem_cons_zero, List.getElem_cons_succ, Nat.add_zero, List.length_cons, List.length_nil, Nat.zero_add, Nat.reduceAdd] at hx hX hy hY hn hp ⊢
    have hcx := run_str hX
    have hcy := run_str hY
    obtain ⟨ax, cx, rfl⟩ := hX.form
    obtain ⟨ay, cy, rfl⟩ := hY.form
    rw [show str tOne = ⟨#[111, 110, 101]⟩ from rfl] at hcx
    rw [show str tTwo = ⟨#[116, 119, 111]⟩ from rfl] at hcy
    clear hc hX hY hL6 hB6 hG6 hk6 hkb6 hB5 hd35 hk05
    replace hk06 := Lib.hid hk06
    go_wp2
    go_ret
    exact ⟨rfl, hk06.out⟩
end Go.Proofs.Ytilmcdieihmiaaa
