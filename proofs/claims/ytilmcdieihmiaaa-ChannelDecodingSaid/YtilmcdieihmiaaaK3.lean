/- Texts that the laws lean on, in the order in which they build. A channel takes a payload. A channel receives a datagram. Lists of byte strings in memory, and the reference's comparison of two. What an end does with a data datagram within its reach. One list of byte strings behind another. An end takes an acknowledgement. A channel receives an acknowledgement. Slices whose elements are a number and a byte string (two cells each): for any such type. The reference's list of early payloads: find. The reference's list of early payloads: insert. The reference's end as a value of five cells, and how a function hands it back. What an end has not had acknowledged: its payloads, its datagrams. The reference sends. -/
import Derived.Test.YtilmcdieihmiaaaK2
import Derived.Laws.Rows
set_option linter.unusedVariables false
set_option linter.unusedSimpArgs false
namespace Go.Proofs.Ytilmcdieihmiaaa
open Go.RowKit

/-- Payloads are taken one after the other. -/
inductive Dr (C : Chan) : Chan → List Bytes → Prop
  | refl : Dr C C []
  | step {C1 : Chan} {outs : List Bytes} {l : Bytes} (h : Dr C C1 outs) (he : C1.early ((C1.received : Int) + 1) = some l) : Dr C C1.take (outs ++ [l])
/-- What has come too early lies within reach. -/
def Chan.near (C : Chan) (M : Nat) : Prop := ∀ s, C.early s ≠ none → (C.received : Int) < s ∧ s ≤ M
theorem Chan.near.take {C : Chan} {M : Nat} (h : C.near M) : C.take.near M := fun s hs => by
  simp only [Chan.take] at hs ⊢
  split at hs
  · simp at hs
  · have := h s hs; simp; omega
theorem Dr.near {C C1 : Chan} {outs : List Bytes} {M : Nat} (h : Dr C C1 outs) (hn : C.near M) : C1.near M := by
  induction h with
  | refl => exact hn
  | step _ _ ih => exact ih.take
theorem Dr.len {C C1 : Chan} {outs : List Bytes} (h : Dr C C1 outs) : C1.received = C.received + outs.length := by
  induction h with
  | refl => rfl
  | step _ _ ih => simp [Chan.take, ih]; omega
/-- The end with a payload more that has come. -/
def Chan.put (C : Chan) (n : Nat) (l : Bytes) : Chan := { C with early := fun k => if k = n then some l else C.early k }

def mAcc (M bc : Nat) (ok : Value) (w : World) : Nat := 2 * (M - (intOf ((w.cell? ⟨bc, 2, none⟩).getD undef)).toNat) + (match ok with | .bool true => 1 | _ => 0)

set_option maxRecDepth 100000 in
set_option maxHeartbeats 2000000 in
theorem accept_far (w : World) (B bc bm n : Nat) (vk v0 : Value) (C : Chan) (q : Nat) (h : Ch w B bc bm n vk C) (hs0 : ∃ a m c, v0 = .slice a m c) (hr : C.received < 1099511627776) (hq : q < 18446744073709551616) (hf : C.received + 1024 < q) :
    Calls Try.prog 43 #[.pointer (some ⟨bc, 0, none⟩), .int .u64 q, v0] w fun e w' => e = .returned (.tuple #[.slice none 0 0, .int .i64 2]) ∧ Keeps [] w w' := by
  obtain ⟨c0, c1, c2, c3, c4, cf, hlt⟩ := h.cells
  obtain ⟨a0, m0, cp0, rfl⟩ := hs0
  clear h c0 c1 c3 c4 cf
  go_enter Try.func43, Try.ntmps43
  go_wp2
  go_ret2
  exact ⟨rfl, (Keeps.refl _ _).alloc _⟩

set_option maxRecDepth 100000 in
set_option maxHeartbeats 2000000 in
theorem accept_twice (w : World) (B bc bm n : Nat) (vk v0 : Value) (C : Chan) (q : Nat) (h : Ch w B bc bm n vk C) (hs0 : ∃ a m c, v0 = .slice a m c) (hr : C.received < 1099511627776) (hf : q ≤ C.received + 1024) (ht : (∃ l, C.early q = some l) ∨ q ≤ C.received) :
    Calls Try.prog 43 #[.pointer (some ⟨bc, 0, none⟩), .int .u64 q, v0] w fun e w' => e = .returned (.tuple #[.slice none 0 0, .int .i64 0]) ∧ Keeps [] w w' := by
  obtain ⟨c0, c1, c2, c3, c4, cf, hlt⟩ := h.cells
  obtain ⟨a0, m0, cp0, rfl⟩ := hs0
  have hk := (Keeps.refl [] w).alloc (.cells #[.pointer (some ⟨bc, 0, none⟩)] 25)
  have hlk := (h.early.keep hk (by simp) hk.kb0).look (q : Int) (WalkArith.wf_i64 (by omega))
  clear hk
  cases he : C.early q with
  | some l =>
    obtain ⟨v, hlk1, hv⟩ := hlk.2 l he
    have hlk2 := hlk1 0
    rw [show ∀ W : World, W.drewN 0 = W from fun _ => rfl] at hlk2
    obtain ⟨av, cv, rfl⟩ := hv.form
    clear h c0 c1 c3 cf hlk hlk1 hv he ht
    go_enter Try.func43, Try.ntmps43
    go_wp2
    go_ret2
    exact ⟨rfl, (Keeps.refl _ _).alloc _⟩
  | none =>
    have hlk2 := hlk.1 he 0
    rw [show ∀ W : World, W.drewN 0 = W from fun _ => rfl] at hlk2
    have hq : q ≤ C.received := by
      rcases ht with ⟨l, hl⟩ | hq
      · rw [he] at hl; cases hl
      · exact hq
    clear h c0 c1 c3 cf hlk he ht
    go_enter Try.func43, Try.ntmps43
    go_wp2
    go_ret2
    exact ⟨rfl, (Keeps.refl _ _).alloc _⟩

/-- What holds at the head of the loop. -/
structure AccR (w wr : World) (B bc bm n : Nat) (vk : Value) (C0 C1 : Chan) (outs : List Bytes) (out b : Value) (ok : Bool) : Prop where
  kl : KL wr (w.heap.size + 1) out outs
  dr : Dr C0 C1 outs
  nx : NX wr B bc bm (n + 1) vk C1 b ok
  keeps : Keeps [bc, bm] w wr
  kb : KB w wr
  box : wr.cell? ⟨w.heap.size, 0, none⟩ = some (.pointer (some ⟨bc, 0, none⟩))
theorem KL.mono {w : World} {B B' : Nat} {v : Value} {ls : List Bytes} (h : KL w B v ls) (hB : B' ≤ B) : KL w B' v ls := by
  obtain ⟨cs, hown, rest⟩ := h
  refine ⟨cs, ⟨hown.1, ?_⟩, rest⟩
  rcases hown.2 with hn | ⟨g, cap, cur, rfl, hg, r⟩
  · exact .inl hn
  · exact .inr ⟨g, cap, cur, rfl, by omega, r⟩
theorem KL.ge {w : World} {B : Nat} {v : Value} {ls : List Bytes} (h : KL w B v ls) {b : Nat} (hb : v.ownBlock = some b) : B ≤ b := by
  obtain ⟨cs, hown, _⟩ := h
  exact ownBlock_ge hown b hb
theorem mAcc_lt {w w' : World} {B bc bm n M : Nat} {vk v : Value} {C : Chan} {ok : Bool} (hc : w.cell? ⟨bc, 2, none⟩ = some (.int .i64 C.received)) (h : NX w' B bc bm n vk C v ok) (hn : C.near M) :
    mAcc M bc (.bool ok) w' < mAcc M bc (.bool true) w := by
  unfold mAcc
  rw [hc]
  cases ok with
  | true =>
    obtain ⟨l, he, _, hC⟩ := h
    have h2 := hC.cells.2.2.1
    have h3 := hn _ (by rw [he]; simp)
    rw [h2]
    simp [intOf, Chan.take]; omega
  | false =>
    obtain ⟨_, hC⟩ := h
    have h2 := hC.cells.2.2.1
    rw [h2]
    simp [intOf]
set_option maxRecDepth 100000 in
set_option maxHeartbeats 4000000 in
theorem accept_new (w : World) (B bc bm n : Nat) (vk v0 : Value) (C : Chan) (q : Nat) (l : Bytes) (h : Ch w B bc bm n vk C) (hcb : vk.ownBlock ≠ some bc) (hp : SlB w v0 l) (hl : l.length ≤ 140737488355000) (hr : C.received < 1099511627776 - 2048) (hn : n < 1099511627776)
    (hf : q ≤ C.received + 1024) (hnear : C.near (C.received + 1024)) (he : C.early q = none) (hq : C.received < q) :
    Calls Try.prog 43 #[.pointer (some ⟨bc, 0, none⟩), .int .u64 q, v0] w fun e w' => ∃ v' C' outs, e = .returned (.tuple #[v', .int .i64 0]) ∧ KL w' w.heap.size v' outs ∧ Ch w' B bc bm (n + 1) vk C' ∧
      Dr (C.put q l) C' outs ∧ C'.early ((C'.received : Int) + 1) = none ∧ Keeps [bc, bm] w w' ∧ KB w w' := by
  obtain ⟨c0, c1, c2, c3, c4, cf, hlt⟩ := h.cells
  obtain ⟨a0, cp0, rfl⟩ := hp.form
  have hk0 := (Keeps.refl [] w).alloc (.cells #[.pointer (some ⟨bc, 0, none⟩)] 25)
  have hlk2 := ((h.early.keep hk0 (by simp) hk0.kb0).look (q : Int) (WalkArith.wf_i64 (by omega))).1 he 0
  rw [show ∀ W : World, W.drewN 0 = W from fun _ => rfl] at hlk2
  have hbml := h.early.lt
  have hne := h.ne
  have hCa := h.keeps hk0
  have hpa := hp.keeps hk0
  replace h := Lib.hid h
  replace hp := Lib.hid hp
  replace hk0 := Lib.hid hk0
  replace hCa := Lib.hid hCa
  replace hpa := Lib.hid hpa
  replace he := Lib.hid he
  replace hnear := Lib.hid hnear
  clear c0 c1 c3 cf
  go_enter Try.func43, Try.ntmps43
  go_wp2
  have hbp : (w.alloc (.cells #[.pointer (some ⟨bc, 0, none⟩)] 25)).cell? ⟨w.heap.size, 0, none⟩ = some (.pointer (some ⟨bc, 0, none⟩)) := by simp
  have c4' : (w.alloc (.cells #[.pointer (some ⟨bc, 0, none⟩)] 25)).cell? ⟨bc, 4, none⟩ = some (.map (some bm)) := hk0.out.val c4
  have hszW : (w.alloc (.cells #[.pointer (some ⟨bc, 0, none⟩)] 25)).heap.size = w.heap.size + 1 := by simp
  clear hlk2
  generalize (w.alloc (.cells #[.pointer (some ⟨bc, 0, none⟩)] 25)) = W at *
  have hn1 : ¬ w.heap.size = bm := by omega
  have hn2 : ¬ bc = bm := fun e => hne e.symm
  refine Free.wp_region_chain (fun i => i == 6 || i == 7) (fun i => true) (fun j b => j = 7 ∧ b = bm) (by kernel_rfl) (by kernel_rfl) (by kernel_rfl) ?_
  (repeat (first | (apply Free.cw_pure rfl rfl; (intro w'; go_simp <;> exact rfl); go_frame) | (apply Free.cw_steady rfl rfl rfl; (intro w' hS; have q0 := Free.sx_cell hS hbp (fun j _ e => hn1 e.2); have q1 := Free.sx_cell hS c4' (fun j _ e => hn2 e.2); go_simp <;> exact rfl); go_frame) | (refine Free.cw_skip rfl ?_; go_frame)))
  refine Free.cw_loud rfl rfl (fun K hK => ?_)
  go_wp2_with fail
  refine (clone_c _ (.inl rfl) _ _ l (hpa.out.kb (KB.drew _)) (by omega)).mono ?_
  rintro e w2 ⟨v2, rfl, hB2, hk2⟩
  refine hK _ _ rfl (Free.KeepsP.of hk2 (by simp)) ?_
  clear hK K
  obtain ⟨a2, cp2, rfl⟩ := hB2.form
  have hk12 : Keeps [] W w2 := (Keeps.refl [] W).drew.trans hk2
  obtain ⟨w3, hput, hM3, hk3, hkb3⟩ := (hCa.out.keeps hk12).early.put (q : Int) (WalkArith.wf_i64 (by omega)) (by unfold maxLen; omega) _ l hB2.slB
  refine Free.cw_loud rfl rfl (fun K hK => ?_)
  go_wp2
  refine hK _ _ rfl (Free.KeepsP.of hk3 (by simp)) ?_
  clear hK K hput
  refine Free.cw_nil ?_
  have hk13 : Keeps [bm] W w3 := hk12.of_nil.trans hk3
  have hk03 : Keeps [bc, bm] w w3 := hk0.out.of_nil.trans (hk13.mono (by simp))
  have hkb03 : KB w w3 := hk0.out.kb0.trans (hk12.kb0.trans hkb3)
  have hC3 : Ch w3 B bc bm (n + 1) vk (C.put q l) :=
    ⟨(hk13.block bc (by omega) (by simpa using hn2)).trans hCa.out.blk, hCa.out.kept.keep hk13 (by simpa using hCa.out.kept.ne_map hCa.out.early) (hk12.kb0.trans hkb3), hM3⟩
  have hbp3 : w3.cell? ⟨w.heap.size, 0, none⟩ = some (.pointer (some ⟨bc, 0, none⟩)) := (hk13.cell _ 0 (by omega) (by simpa using hn1)).trans hbp
  have hsz3 : w.heap.size < w3.heap.size := lt_of_cell hbp3
  have hnr : (C.put q l).near (C.received + 1024) := fun s hs => by
    simp only [Chan.put] at hs ⊢
    split at hs
    · omega
    · exact hnear.out s hs
  clear hk2 hB2 hk12 hM3 hk3 hkb3 hk13 hCa hpa hbp c4' hszW he hnear c2 c4 hk0
  clear W
  generalize hC0 : C.put q l = C0 at *
  have hr0 : C0.received = C.received := by rw [← hC0]; rfl
  replace hC0 := Lib.hid hC0
  have hr00 : C0.received < 1099511627776 - 2048 := by omega
  replace hr0 := Lib.hid hr0
  replace hC3 := Lib.hid hC3
  replace hnr := Lib.hid hnr
  replace hk03 := Lib.hid hk03
  replace hkb03 := Lib.hid hkb03
  go_wp2_with fail
  refine (next_c _ B bc bm (n + 1) w.heap.size vk C0 hC3.out hcb hbp3 (by omega)).mono ?_
  rintro e w4 ⟨a4, m4, cp4, ok, rfl, hN4, hk4, hkb4⟩
  go_wp2
  have hbk : ∀ (w1 w2 : World), Keeps [bc, bm] w1 w2 → w.heap.size < w1.heap.size → w1.cell? ⟨w.heap.size, 0, none⟩ = some (.pointer (some ⟨bc, 0, none⟩)) → w2.cell? ⟨w.heap.size, 0, none⟩ = some (.pointer (some ⟨bc, 0, none⟩)) := fun _ _ hk hl hc => (hk.cell _ 0 hl (by simp; omega)).trans hc
  have hbp4 := hbk _ _ hk4 hsz3 hbp3
  replace hbk := Lib.hid hbk
  have hk04 := hk03.out.trans hk4
  have hkb04 := hkb03.out.trans hkb4
  clear hk4 hkb4 hbp3
  go_loopw [12, 13, 14] (fun out b okv wr => ∃ (C1 : Chan) (outs : List Bytes) (a : Option Addr) (m c : Nat) (ok : Bool), b = .slice a m c ∧ okv = .bool ok ∧ AccR w wr B bc bm n vk C0 C1 outs out (.slice a m c) ok) (fun _ _ okv wr => mAcc (C.received + 1024) bc okv wr)
  case atStart => exact ⟨C0, [], a4, m4, cp4, ok, rfl, rfl, ⟨[], World.ownsRow_nil _ _ _ _, by simp, fun g hg => by simp [Value.ownBlock] at hg⟩, Dr.refl, hN4, hk04, hkb04, hbp4⟩
  case round =>
    obtain ⟨C1, outs, a1, m1, c1, ok1, rfl, rfl, hR⟩ := hrel
    obtain ⟨ao, co, rfl⟩ := hR.kl.form
    clear hN4 hk04 hkb04 hbp4
    have hR0 := Lib.hid hR
    cases ok1 with
    | true =>
      obtain ⟨hL, hD, ⟨l1, he1, hv1, hCh1⟩, hkw, hkbw, hbpw⟩ := hR
      have hlen := hD.len
      have hnear1 := (hD.near hnr.out).take
      have hlt1 := hnr.out
      have hb1 := (hD.near hnr.out) _ (by rw [he1]; simp)
      have hD1 := Dr.step hD he1
      have hszw : w.heap.size < wr.heap.size := lt_of_cell hbpw
      have hrr := hr0.out
      have hmeas := hCh1.cells.2.2.1
      replace hlen := Lib.hid hlen
      replace hrr := Lib.hid hrr
      have hol : outs.length < 1099511627776 := by have := hlen.out; omega
      clear hlt1
      go_wp2_with (at_builtin; (refine wpl_pushL _ (w.heap.size + 1) _ _ outs l1 rfl _ _ rfl rfl rfl hL hv1 hol (by omega) ?_; intro v5 w5 hL5 hG5 hkb5))
      have hbo : ∀ b ∈ (Value.slice ao outs.length co).ownBlock.toList, w.heap.size + 1 ≤ b := fun b hb => by
        obtain ⟨cs, hown, _⟩ := hL
        exact ownBlock_ge hown b (by simpa using hb)
      have hk5 : Keeps (Value.slice ao outs.length co).ownBlock.toList wr w5 := ((Keeps.refl [] wr).alloc _).of_nil.trans hG5.keepsO
      have hvkl : ∀ b, vk.ownBlock = some b → b < w.heap.size := fun b hb => by
        obtain ⟨cs, hown, _⟩ := h.out.kept
        exact (hown.lt b hb).2
      have hCh5 : Ch w5 B bc bm (n + 1) vk C1.take := hCh1.keepS hk5 (fun hm => by have := hbo _ hm; omega) (fun hm => by have := hbo _ hm; omega) (fun b hb e => by have := hbo b hb; have := hvkl b e; omega) hkb5
      have hbp5 : w5.cell? ⟨w.heap.size, 0, none⟩ = some (.pointer (some ⟨bc, 0, none⟩)) := by
        rw [hk5.cell _ 0 hszw (fun hm => by have := hbo _ hm; omega)]
        exact hbpw
      have hkw5 : Keeps [bc, bm] w w5 := hkw.fresh hk5 (fun x hx => .inr (by have := hbo x hx; omega))
      have hkbw5 := hkbw.trans hkb5
      obtain ⟨a5, c5, rfl⟩ : ∃ a c, v5 = .slice a (outs.length + 1) c := by simpa using hL5.form
      clear hk5 hG5 hL hv1 hCh1 hkw hkbw hbpw hbo hvkl hkb5
      replace hD1 := Lib.hid hD1
      replace hnear1 := Lib.hid hnear1
      replace hCh5 := Lib.hid hCh5
      have hr1 : C1.take.received < 1099511627776 := by have := hlen.out; simp [Chan.take]; omega
      refine (next_c _ B bc bm (n + 1) w.heap.size vk C1.take hCh5.out hcb hbp5 hr1).mono ?_
      rintro e w6 ⟨a6, m6, cp6, ok6, rfl, hN6, hk6, hkb6⟩
      have hL6 := hL5.keep hk6 ?hout hkb6
      case hout => intro b hb e; have := KL.ge hL5 e; simp at hb; omega
      have hkw6 := hkw5.trans hk6
      have hkbw6 := hkbw5.trans hkb6
      have hbp6 := hbk.out _ _ hk6 (lt_of_cell hbp5) hbp5
      have hm6 : Hid (mAcc (C.received + 1024) bc (.bool ok6) w6 < mAcc (C.received + 1024) bc (.bool true) wr) := mAcc_lt hmeas hN6 hnear1.out
      replace hkw6 := Lib.hid hkw6
      replace hkbw6 := Lib.hid hkbw6
      replace hL6 := Lib.hid hL6
      replace hN6 := Lib.hid hN6
      clear hk6 hkb6 hbp5 hL5 hkw5 hkbw5
      go_wp2
      go_roundw
      case rel => exact ⟨C1.take, outs ++ [l1], a6, m6, cp6, ok6, rfl, rfl, hL6.out, hD1.out, hN6.out, hkw6.out, hkbw6.out, hbp6⟩
      case measure => exact hm6.out
    | false =>
      obtain ⟨hL, hD, ⟨hno, hCh⟩, hkw, hkbw, hbpw⟩ := hR
      replace hL := Lib.hid hL
      clear hno hCh hkw hkbw hbpw hD
      go_wp2
      go_ret2
      obtain ⟨hL, hD, ⟨hno, hCh⟩, hkw, hkbw, hbpw⟩ := hR0.out
      exact ⟨_, C1, outs, rfl, hL.mono (by omega), hCh, (by rw [hC0.out]; exact hD), hno, hkw, hkbw⟩
end Go.Proofs.Ytilmcdieihmiaaa

namespace Go.Proofs.Ytilmcdieihmiaaa
open Go.RowKit

/-- What is left after a number is an end of what there was. -/
theorem readU_drop {l r : List UInt8} {x : Nat} (h : readU l = some (x, r)) : (∃ j, j ≤ l.length ∧ r = l.drop j) ∧ x < 18446744073709551616 := by
  cases l with
  | nil => cases h
  | cons k t =>
    rw [readU] at h
    split at h
    · rename_i hc
      simp only [Option.some.injEq, Prod.mk.injEq] at h
      obtain ⟨rfl, rfl⟩ := h
      refine ⟨⟨k.toNat + 1, by simp; omega, by simp⟩, ?_⟩
      have h1 := valU_lt k.toNat (t.take k.toNat) (by simp; omega)
      have h2 : 256 ^ k.toNat ≤ 256 ^ 8 := Nat.pow_le_pow_right (by decide) hc.1
      have h3 : (256 : Nat) ^ 8 = 18446744073709551616 := by decide
      omega
    · cases h
theorem digs_head {n : Nat} (h : 0 < n) : ∃ b t, digs n = b :: t ∧ b ≠ 0 := by
  induction n using Nat.strongRecOn with
  | _ n ih =>
    rw [digs_pos h]
    rcases Nat.eq_zero_or_pos (n / 256) with e | e
    · rw [e, digs_zero]
      refine ⟨UInt8.ofNat (n % 256), [], rfl, fun e0 => ?_⟩
      have := congrArg UInt8.toNat e0
      simp at this; omega
    · obtain ⟨b, t, h1, h2⟩ := ih (n / 256) (by omega) e
      exact ⟨b, t ++ [UInt8.ofNat (n % 256)], by rw [h1]; rfl, h2⟩
theorem readU_encU (n : Nat) (l : List UInt8) (h : n < 18446744073709551616) : readU (encU n ++ l) = some (n, l) := by
  have h8 := digs_len8 h
  have hk : (UInt8.ofNat (digs n).length).toNat = (digs n).length := by simp; omega
  have hhead : 0 < (digs n).length → (digs n ++ l).headD 1 ≠ 0 := fun hp => by
    rcases Nat.eq_zero_or_pos n with e | e
    · rw [e, digs_zero] at hp; simp at hp
    · obtain ⟨b, t, h1, h2⟩ := digs_head e
      rw [h1]; simpa using h2
  simp only [encU, List.cons_append, readU, hk]
  rw [if_pos ⟨h8, by simp, hhead⟩]
  simp [valU_digs]

/- A datagram of a payload: what the end does with it is what it does in taking the payload. -/
set_option maxRecDepth 100000 in
set_option maxHeartbeats 4000000 in
theorem receive_data (Φ : World → Value → Int → World → Prop) (w : World) (bc : Nat) (v0 : Value) (t rest : List UInt8) (q : Nat) (h : SlB w v0 (1 :: t)) (hl : t.length ≤ 140737488355000) (hr : readU t = some (q, rest)) (hq : 0 < q)
    (hacc : ∀ w1 v1, Keeps [] w w1 → SlB w1 v1 rest → Calls Try.prog 43 #[.pointer (some ⟨bc, 0, none⟩), .int .u64 q, v1] w1 fun e w' => ∃ v k, e = .returned (.tuple #[v, .int .i64 k]) ∧ Φ w1 v k w') :
    Calls Try.prog 13 #[.pointer (some ⟨bc, 0, none⟩), v0] w fun e w' => ∃ v k w1, e = .returned (.tuple #[v, .int .i64 k]) ∧ Keeps [] w w1 ∧ Φ w1 v k w' := by
  obtain ⟨⟨j, hj, hdrop⟩, hq64⟩ := readU_drop hr
  rcases h.cases with ⟨h0, _⟩ | ⟨g, o, cp, rfl, hn, hm, hp, hg, hc⟩
  · cases h0
  · have k0 := hc 0 (by simp)
    simp only [Nat.add_zero, List.getElem_cons_zero] at k0
    have ht := h.tail 1 (by simp)
    simp only [List.length_cons, List.drop_succ_cons, List.drop_zero, Nat.add_sub_cancel] at ht
    have hte : SlB w (.slice (if cp = t.length + 1 - rest.length then some ⟨g, o, none⟩ else some ⟨g, o + (t.length + 1 - rest.length), none⟩) rest.length (cp - (t.length + 1 - rest.length))) rest := by
      have := h.tail (t.length + 1 - rest.length) (by simp)
      rw [hdrop] at this ⊢
      simp only [List.length_cons, List.length_drop] at this ⊢
      rw [show t.length + 1 - (t.length + 1 - (t.length - j)) = t.length - j by omega, show t.length + 1 - (t.length - j) = j + 1 by omega] at this
      rw [show t.length + 1 - (t.length - j) = j + 1 by omega]
      simpa using this
    have hrl : rest.length ≤ t.length := by rw [hdrop]; simp
    have ht0 : 0 < t.length := by cases t with | nil => cases hr | cons a b => simp
    obtain ⟨N, hN⟩ : ∃ N, t.length = N := ⟨_, rfl⟩
    obtain ⟨R, hR⟩ : ∃ R, rest.length = R := ⟨_, rfl⟩
    simp only [List.length_cons, hN, hR] at hn hm ht hte ht0 hrl hl hc hp h ⊢
    have hNh := Lib.hid hN
    have hRh := Lib.hid hR
    have hcp1 : ¬ cp = 1 := by omega
    rw [if_neg hcp1] at ht
    replace hr := Lib.hid hr
    replace ht := Lib.hid ht
    replace hte := Lib.hid hte
    replace hacc := Lib.hid hacc
    clear hc h hdrop hj hN hR
    have hq2 : (0 : Int) < q := by omega
    go_enter Try.func13, Try.ntmps13
    go_wp2_with fail
    refine (newReader_c _ _ _ ht.out (by have := hNh.out; omega)).mono ?_
    rintro e w1 ⟨br, vr, rfl, hbr, hR1, hk1⟩
    replace hR1 := Lib.hid hR1
    go_wp2_with fail
    refine (uint_ok _ br _ _ _ _ hR1.out hr.out).mono ?_
    rintro e w2 ⟨rfl, ⟨vr2, hR2⟩, hk2⟩
    have hk02 : Keeps [] w w2 := hk1.fresh hk2 (by simp; omega)
    have k02 : w2.cell? ⟨g, o, none⟩ = some (.int .u8 1) := (hk02.val k0)
    replace hR2 := Lib.hid hR2
    replace hk02 := Lib.hid hk02
    clear hk1 hk2 hR1
    go_wp2_with fail
    refine (left_c _ br _ _ _ hR2.out).mono ?_
    rintro e w3 ⟨rfl, rfl⟩
    simp only [hRh.out]
    by_cases hR0 : R = 0
    · have hrn : rest = [] := List.length_eq_zero_iff.1 (by rw [hRh.out]; exact hR0)
      subst hR0
      go_wp2_with fail
      refine (done_c _ br _ _ _ hR2.out).mono ?_
      rintro e w3 ⟨rfl, rfl⟩
      rw [show doneE rest 0 = 0 by rw [hrn]; rfl]
      go_wp2_with fail
      refine (left_c _ br _ _ _ hR2.out).mono ?_
      rintro e w3 ⟨rfl, rfl⟩
      simp only [hRh.out]
      by_cases hc0 : cp = N + 1
      · subst hc0
        simp only [Nat.sub_zero, ite_true, Nat.sub_self] at hte
        go_wp2_with fail
        refine (hacc.out _ _ hk02.out (hte.out.keeps hk02.out)).mono ?_
        rintro e w4 ⟨v, k, rfl, hΦ⟩
        replace hΦ := Lib.hid hΦ
        go_wp2
        go_ret2
        exact ⟨v, k, _, rfl, hk02.out, hΦ.out⟩
      · have hte := hte.out
        simp only [Nat.sub_zero, if_neg hc0] at hte
        replace hte := Lib.hid hte
        go_wp2_with fail
        refine (hacc.out _ _ hk02.out (hte.out.keeps hk02.out)).mono ?_
        rintro e w4 ⟨v, k, rfl, hΦ⟩
        replace hΦ := Lib.hid hΦ
        go_wp2
        go_ret2
        exact ⟨v, k, _, rfl, hk02.out, hΦ.out⟩
    · have hR1 : 0 < R := by omega
      have hRi : ((R : Int) == 0) = false := by simp; omega
      go_wp2_with fail
      refine (left_c _ br _ _ _ hR2.out).mono ?_
      rintro e w3 ⟨rfl, rfl⟩
      simp only [hRh.out]
      have hc0 : ¬ cp = N + 1 - R := by omega
      have hte := hte.out
      simp only [if_neg hc0] at hte
      rw [show Value.slice (some ⟨g, o + (N + 1 - R), none⟩) R (cp - (N + 1 - R)) = Value.slice (some ⟨g, o + (N + 1 - R), none⟩) (N + 1 - (N + 1 - R)) (cp - (N + 1 - R)) by rw [show N + 1 - (N + 1 - R) = R by omega]] at hte
      replace hte := Lib.hid hte
      go_wp2_with fail
      refine (hacc.out _ _ hk02.out (hte.out.keeps hk02.out)).mono ?_
      rintro e w4 ⟨v, k, rfl, hΦ⟩
      replace hΦ := Lib.hid hΦ
      go_wp2
      go_ret2
      exact ⟨v, k, _, rfl, hk02.out, hΦ.out⟩
end Go.Proofs.Ytilmcdieihmiaaa

namespace Go.Proofs.Ytilmcdieihmiaaa
open Go.RowKit

/-- A slice that reads as a list of byte strings. -/
def SLs (w : World) (v : Value) (ls : List (List UInt8)) : Prop :=
  ∃ cs : List Value, Sl w 1 v ls.length cs ∧ ∀ (k : Nat) (c : Value) (l : List UInt8), cs[k]? = some c → ls[k]? = some l → SlB w c l
theorem SLs.nil (w : World) : SLs w (.slice none 0 0) [] := ⟨[], Sl.nil _ _, by simp⟩
theorem SLs.form {w : World} {v : Value} {ls : List (List UInt8)} (h : SLs w v ls) : ∃ a c, v = .slice a ls.length c ∧ ls.length ≤ maxLen := by
  obtain ⟨cs, ⟨_, a, cap, rfl, h1, h2, _⟩, _⟩ := h
  exact ⟨a, cap, rfl, by omega⟩
theorem SLs.keeps {w w' : World} {v : Value} {ls : List (List UInt8)} (h : SLs w v ls) (hk : Keeps [] w w') : SLs w' v ls := by
  obtain ⟨cs, hs, hel⟩ := h
  exact ⟨cs, hs.keeps hk, fun k c l h1 h2 => (hel k c l h1 h2).keeps hk⟩
theorem SLs.cases {w : World} {v : Value} {ls : List (List UInt8)} (h : SLs w v ls) :
    (ls = [] ∧ ∃ a cap, v = .slice a 0 cap) ∨
    ∃ g o cap, v = .slice (some ⟨g, o, none⟩) ls.length cap ∧ ls.length ≤ cap ∧ cap ≤ maxLen ∧ 0 < ls.length ∧ ∀ k (hk : k < ls.length), ∃ c, w.cell? ⟨g, o + k, none⟩ = some c ∧ SlB w c ls[k] := by
  obtain ⟨cs, ⟨h1, a, cap, rfl, h2, h3, _, h4⟩, hel⟩ := h
  by_cases hl : ls = []
  · subst hl; exact .inl ⟨rfl, a, cap, rfl⟩
  · have hp : 0 < ls.length := List.length_pos_iff.2 hl
    have hcs : cs.length = ls.length := by omega
    obtain ⟨g, o, rfl, hc⟩ := h4 (by omega)
    refine .inr ⟨g, o, cap, rfl, h2, h3, hp, fun k hk => ⟨cs[k]'(by omega), hc k _ (by simp), hel k _ _ (by simp) (by simp)⟩⟩

theorem texts_step {la lb : List (List UInt8)} {i : Nat} (hl : la.length = lb.length) (h : la.take i = lb.take i) (hi : i < la.length) (he : la[i] = lb[i]'(by omega)) : la.take (i + 1) = lb.take (i + 1) := by
  rw [List.take_succ_eq_append_getElem hi, List.take_succ_eq_append_getElem (by omega), h, he]

set_option maxRecDepth 100000 in
set_option maxHeartbeats 4000000 in
theorem texts_c (w : World) (va vb : Value) (la lb : List (List UInt8)) (ha : SLs w va la) (hb : SLs w vb lb) :
    Calls Try.prog 14 #[va, vb] w fun e w' => e = .returned (.bool (decide (la = lb))) ∧ Keeps [] w w' := by
  by_cases hlen : la.length = lb.length
  · rcases ha.cases with ⟨rfl, a0, c0, rfl⟩ | ⟨g, o, cp, rfl, hn, hm, hp, hc⟩
    · obtain ⟨a1, c1, rfl, _⟩ := hb.form
      have hb0 : lb = [] := List.length_eq_zero_iff.1 hlen.symm
      subst hb0
      clear ha hb
      simp only [List.length_nil]
      go_enter Try.func14, Try.ntmps14
      go_wp2
      go_loop [5] (fun i => i = .int .i64 0) (fun _ => 0)
      case atStart => rfl
      case round =>
        subst hrel
        go_wp2
        go_ret
        exact ⟨rfl, Keeps.refl _ _⟩
    · rcases hb.cases with ⟨rfl, a1, c1, rfl⟩ | ⟨g1, o1, cp1, rfl, hn1, hm1, hp1, hc1⟩
      · simp only [List.length_nil] at hlen; omega
      · clear ha hb
        rw [← hlen]
        obtain ⟨N, hN⟩ : ∃ N, la.length = N := ⟨_, rfl⟩
        rw [hN] at hn hp hlen ⊢
        rw [← hlen] at hn1
        have hNm : N ≤ 9223372036854775807 := by unfold maxLen at hm; omega
        replace hc := Lib.hid hc
        replace hc1 := Lib.hid hc1
        replace hN := Lib.hid hN
        replace hlen := Lib.hid hlen
        go_enter Try.func14, Try.ntmps14
        go_wp2
        go_loopw [5] (fun i wr => ∃ k : Nat, i = .int .i64 k ∧ k ≤ N ∧ la.take k = lb.take k ∧ Keeps [] w wr) (fun i _ => N - (intOf i).toNat)
        case atStart => exact ⟨0, rfl, by omega, by simp, Keeps.refl _ _⟩
        case round =>
          obtain ⟨k, rfl, hk, heq, hkw⟩ := hrel
          replace heq := Lib.hid heq
          by_cases hkN : k < N
          · obtain ⟨x, hx, hX⟩ := hc.out k (by rw [hN.out]; omega)
            obtain ⟨y, hy, hY⟩ := hc1.out k (by rw [← hlen.out]; omega)
            have hxr : wr.cell? ⟨g, o + k, none⟩ = some x := hkw.val hx
            have hyr : wr.cell? ⟨g1, o1 + k, none⟩ = some y := hkw.val hy
            replace hX := hX.keeps hkw
            replace hY := hY.keeps hkw
            obtain ⟨ax, cx, rfl⟩ := hX.form
            obtain ⟨ay, cy, rfl⟩ := hY.form
            replace hX := Lib.hid hX
            replace hY := Lib.hid hY
            replace hkw := Lib.hid hkw
            clear hx hy
            go_wp2
            refine Free.wp_region_chain (fun i => i == 8) (fun i => true) (fun _ _ => False) (by kernel_rfl) (by kernel_rfl) (by kernel_rfl) ?_
            (repeat (first | (apply Free.cw_pure rfl rfl; (intro w'; go_simp <;> exact rfl); go_frame) | (apply Free.cw_steady rfl rfl rfl; (intro w' hS; have q0 := Free.sx_cell hS hxr (fun j hp hT => hT); have q1 := Free.sx_cell hS hyr (fun j hp hT => hT); go_simp <;> exact rfl); go_frame) | (refine Free.cw_skip rfl ?_; go_frame)))
            refine Free.cw_loud rfl rfl (fun K hK => ?_)
            go_wp2_with fail
            refine (same_c _ _ _ _ _ (hX.out.kb (KB.drew _)) (hY.out.kb (KB.drew _))).mono ?_
            rintro e w2 ⟨rfl, rfl⟩
            refine hK _ _ rfl (Free.KeepsP.of (Keeps.refl [] _) (by simp)) ?_
            clear hK K
            by_cases he : la[k]'(by rw [hN.out]; omega) = lb[k]'(by rw [← hlen.out]; omega)
            · rw [decide_eq_true he]
              have hst := Lib.hid (texts_step (hN.out.trans hlen.out) heq.out (by rw [hN.out]; omega) he)
              clear he
              (repeat (apply Free.cw_pure rfl rfl; (intro w'; go_simp <;> exact rfl); go_frame))
              refine Free.cw_nil ?_
              go_wp2
              go_roundw
              case rel => exact ⟨k + 1, rfl, by omega, hst.out, hkw.out.drew⟩
              case measure => simp [intOf]; omega
            · rw [decide_eq_false he]
              replace he := Lib.hid he
              (repeat (apply Free.cw_pure rfl rfl; (intro w'; go_simp <;> exact rfl); go_frame))
              refine Free.cw_nil ?_
              go_wp2
              go_ret
              exact ⟨by rw [decide_eq_false (fun e => he.out (by subst e; rfl))]; rfl, hkw.out.drew⟩
          · have hkk : k = N := by omega
            subst hkk
            replace hkw := Lib.hid hkw
            go_wp2
            go_ret
            refine ⟨?_, hkw.out⟩
            have := heq.out
            rw [List.take_of_length_le (by rw [hN.out]; omega), List.take_of_length_le (by rw [← hlen.out]; omega)] at this
            rw [decide_eq_true this]
            rfl
  · obtain ⟨a0, c0, rfl, _⟩ := ha.form
    obtain ⟨a1, c1, rfl, _⟩ := hb.form
    clear ha hb
    rw [decide_eq_false (fun e => hlen (by rw [e]))]
    go_enter Try.func14, Try.ntmps14
    go_wp2
    go_ret
    exact ⟨rfl, Keeps.refl _ _⟩
end Go.Proofs.Ytilmcdieihmiaaa

namespace Go.Proofs.Ytilmcdieihmiaaa
open Go.RowKit

/-- The end before and after a payload number `q`, and what it hands over. -/
def Got (C : Chan) (q : Nat) (l : Bytes) (C' : Chan) (outs : List Bytes) : Prop :=
  (C' = C ∧ outs = [] ∧ ((∃ l, C.early q = some l) ∨ q ≤ C.received)) ∨ (C.early q = none ∧ C.received < q ∧ Dr (C.put q l) C' outs ∧ C'.early ((C'.received : Int) + 1) = none)
theorem Dr.inv {C C' : Chan} {outs : List Bytes} (h : Dr C C' outs) : (outs = [] ∧ C' = C) ∨ ∃ l outs', C.early ((C.received : Int) + 1) = some l ∧ outs = l :: outs' ∧ Dr C.take C' outs' := by
  induction h with
  | refl => exact .inl ⟨rfl, rfl⟩
  | step h he ih =>
    rcases ih with ⟨rfl, rfl⟩ | ⟨l0, o, h1, rfl, h2⟩
    · exact .inr ⟨_, [], he, rfl, .refl⟩
    · exact .inr ⟨l0, _, h1, rfl, h2.step he⟩
theorem KL.nil (w : World) (B : Nat) : KL w B (.slice none 0 0) [] := ⟨[], World.ownsRow_nil _ _ _ _, by simp, fun g hg => by simp [Value.ownBlock] at hg⟩
theorem KL.sls {w : World} {B : Nat} {v : Value} {ls : List Bytes} (h : KL w B v ls) : SLs w v ls := by
  obtain ⟨cs, hown, hel, _⟩ := h
  exact ⟨cs, Sl.of_owns hown, hel⟩
set_option maxRecDepth 100000 in
set_option maxHeartbeats 1000000 in
theorem recv_c (w : World) (B bc bm n : Nat) (vk v0 : Value) (C : Chan) (q : Nat) (l : Bytes) (h : Ch w B bc bm n vk C) (hcb : vk.ownBlock ≠ some bc) (hp : SlB w v0 (dataB q l)) (hl : l.length ≤ 140737488350000) (hq0 : 0 < q) (hr : C.received < 1099511627776 - 2048) (hn : n < 1099511627776)
    (hf : q ≤ C.received + 1024) (hnear : C.near (C.received + 1024)) :
    Calls Try.prog 13 #[.pointer (some ⟨bc, 0, none⟩), v0] w fun e w' => ∃ v' C' outs n', e = .returned (.tuple #[v', .int .i64 0]) ∧ KL w' w.heap.size v' outs ∧ Ch w' B bc bm n' vk C' ∧ n' ≤ n + 1 ∧ Got C q l C' outs ∧ Keeps [bc, bm] w w' ∧ KB w w' := by
  have hlen := encU_len (n := q) (by omega)
  refine (receive_data (fun w1 v k w' => ∃ C' outs n', k = 0 ∧ KL w' w1.heap.size v outs ∧ Ch w' B bc bm n' vk C' ∧ n' ≤ n + 1 ∧ Got C q l C' outs ∧ Keeps [bc, bm] w1 w' ∧ KB w1 w') w bc v0 (encU q ++ l) l q hp (by simp; omega) (readU_encU q l (by omega)) hq0 ?_).mono ?_
  · intro w1 v1 hk1 hp1
    have h1 := h.keeps hk1
    have hsl : ∃ a m c, v1 = .slice a m c := by obtain ⟨a, c, rfl⟩ := hp1.form; exact ⟨_, _, _, rfl⟩
    by_cases ht : (∃ l, C.early q = some l) ∨ q ≤ C.received
    · refine (accept_twice w1 B bc bm n vk v1 C q h1 hsl (by omega) hf ht).mono ?_
      rintro e w2 ⟨rfl, hk2⟩
      exact ⟨_, _, rfl, C, [], n, rfl, KL.nil _ _, h1.keeps hk2, by omega, .inl ⟨rfl, rfl, ht⟩, hk2.of_nil, hk2.kb0⟩
    · have hn0 : C.early q = none := by
        cases he : C.early q with
        | none => rfl
        | some l => exact absurd (.inl ⟨l, he⟩) ht
      have hq1 : C.received < q := by
        rcases Nat.lt_or_ge C.received q with e | e
        · exact e
        · exact absurd (.inr e) ht
      refine (accept_new w1 B bc bm n vk v1 C q l h1 hcb hp1 (by omega) hr hn hf hnear hn0 hq1).mono ?_
      rintro e w2 ⟨v', C', outs, rfl, hL, hC, hD, hno, hk, hkb⟩
      exact ⟨_, _, rfl, C', outs, n + 1, rfl, hL, hC, Nat.le_refl _, .inr ⟨hn0, hq1, hD, hno⟩, hk, hkb⟩
  · rintro e w' ⟨v, k, w1, rfl, hk1, C', outs, n', rfl, hL, hC, hn', hg, hk, hkb⟩
    exact ⟨v, C', outs, n', rfl, hL.mono hk1.size, hC, hn', hg, hk1.of_nil.trans hk, hk1.kb0.trans hkb⟩
end Go.Proofs.Ytilmcdieihmiaaa

namespace Go.Proofs.Ytilmcdieihmiaaa
open Go.RowKit

theorem wp_appL {o : Oper} {a : Act} {K : Act → World → Prop} {Q : Exit → Act → World → Prop} (w : World) (B : Nat) (v v2 : Value) (ls ms : List Bytes) (s t : Operand)
    (ho : o.op = .call { callee := .builtin .append, args := #[s, t], argTypes := #[22, 22] }) (hs : a.eval s = v) (ht : a.eval t = v2)
    (h : KL w B v ls) (hc : SLs w v2 ms) (hl : ls.length + ms.length < 1099511627776) (hB : B ≤ w.heap.size)
    (hK : ∀ v' w', KL w' B v' (ls ++ ms) → Grw w w' v v' → KB w w' → K (a.put o.dst v') w') : o.wp Try.prog a w K Q := by
  obtain ⟨i0, hi, hz0, hz1, hz2⟩ := info_parts infoL
  obtain ⟨cs, hown, hel, hall⟩ := h
  obtain ⟨ds, hsl, hel2⟩ := hc
  have hdl : ds.length = ms.length := by have := hsl.1; omega
  have hds : ∀ u ∈ ds, ∃ a n c, u = .slice a n c := fun u hu => by
    obtain ⟨k, hk, rfl⟩ := List.getElem_of_mem hu
    obtain ⟨a, c, e⟩ := (hel2 k ds[k] (ms[k]'(by omega)) (by simp) (by simp)).form
    exact ⟨a, _, c, e⟩
  refine wp_append_x s t _ ho B 23 i0 (.slice none 0 0) 1 24 Try.underlying22 hi hz0 hz1 hz2 rfl (by decide) v ls.length cs hs hown v2 ms.length ds ht hsl (fun u hu => by obtain ⟨a, n, c, rfl⟩ := hds u hu; rfl) (by unfold maxLen; omega) (by omega) hB ?_
  intro v' w' h1 h2 h3
  have hkb : KB w w' := h2.kb hall
  refine hK v' w' ⟨cs ++ ds, by simpa using h1, fun k c' l' e1 e2 => ?_, h3 noB (fun u hu => by obtain ⟨a, n, c, rfl⟩ := hds u hu; simp [noB]) (by simp [Value.cells, noB]) hall⟩ h2 hkb
  have hlen : cs.length = ls.length := by have := hown.1; omega
  rcases Nat.lt_or_ge k cs.length with hk | hk
  · rw [List.getElem?_append_left hk] at e1
    rw [List.getElem?_append_left (by omega)] at e2
    exact (hel k c' l' e1 e2).kb hkb
  · rw [List.getElem?_append_right hk] at e1
    rw [List.getElem?_append_right (by omega)] at e2
    rw [← hlen] at e2
    exact (hel2 _ c' l' e1 e2).kb hkb
/-- .. at the operation. -/
theorem wpl_appL {ops : Array Oper} {rest : List Oper} {o : Oper} {a : Act} {Q : Exit → Act → World → Prop} (w : World) (B : Nat) (v v2 : Value) (ls ms : List Bytes) (hg : o.guard = none) (s t : Operand)
    (ho : o.op = .call { callee := .builtin .append, args := #[s, t], argTypes := #[22, 22] }) (hs : a.eval s = v) (ht : a.eval t = v2)
    (h : KL w B v ls) (hc : SLs w v2 ms) (hl : ls.length + ms.length < 1099511627776) (hB : B ≤ w.heap.size)
    (hK : ∀ v' w', KL w' B v' (ls ++ ms) → Grw w w' v v' → KB w w' → wpList Try.prog ops Q rest (a.put o.dst v') w') : wpList Try.prog ops Q (o :: rest) a w :=
  wpList_plain hg fun _ hK' => wp_appL w B v v2 ls ms s t ho hs ht h hc hl hB fun v' w' h1 h2 h3 => hK' _ _ (hK v' w' h1 h2 h3)
end Go.Proofs.Ytilmcdieihmiaaa

namespace Go.Proofs.Ytilmcdieihmiaaa
open Go.RowKit

theorem KL.fresh (w : World) : KL (w.alloc (.cells #[] 23)) w.heap.size (.slice (some ⟨w.heap.size, 0, none⟩) 0 0) [] :=
  ⟨[], ownsRow_empty w _ _ _ (Nat.le_refl _), by simp, AllC.of_block (heap_alloc_new w _) (by simp)⟩
theorem ge_own {w : World} {B : Nat} {v : Value} {ls : List Bytes} (h : KL w B v ls) : ∀ b, v.ownBlock = some b → B ≤ b ∧ b < w.heap.size := fun b hb => by
  obtain ⟨cs, hown, _⟩ := h
  exact ⟨ownBlock_ge hown b hb, (hown.lt b hb).2⟩
theorem SLs.tail {w : World} {g o n cap : Nat} {ls : List Bytes} (h : SLs w (.slice (some ⟨g, o, none⟩) n cap) ls) (a : Nat) (ha : a ≤ ls.length) :
    SLs w (.slice (if cap = a then some ⟨g, o, none⟩ else some ⟨g, o + a, none⟩) (ls.length - a) (cap - a)) (ls.drop a) := by
  obtain ⟨a', c', e, _⟩ := h.form
  cases e
  obtain ⟨cs, hs, hel⟩ := h
  refine ⟨cs.drop a, by simpa using Sl.tail1 hs a ha, fun k c l h1 h2 => ?_⟩
  rw [List.getElem?_drop] at h1 h2
  exact hel _ c l h1 h2

set_option maxRecDepth 100000 in
set_option maxHeartbeats 1000000 in
theorem cloneL_c (w : World) (v0 : Value) (ls : List Bytes) (h : SLs w v0 ls) (hl : ls.length < 1099511627776) :
    Calls Try.prog 68 #[v0] w fun e w' => ∃ v', e = .returned v' ∧ KL w' w.heap.size v' ls ∧ Keeps [] w w' := by
  have q22 : ∀ (w : World) (a : Option Addr) (n c n' c' : Nat), (binOp .eql 22 (.slice a n c) (.slice none n' c')).run Try.prog w = .ok (.bool a.isNone) w := fun w a n c n' c' => Lib.run_eql_slice_nil w _ _ a n c n' c' Try.underlying22
  obtain ⟨a0, c0, rfl, _⟩ := h.form
  cases a0 with
  | none =>
    have hl0 : ls = [] := by
      rcases h.cases with ⟨e, _⟩ | ⟨g, o, cap, e, _⟩
      · exact e
      · cases e
    subst hl0
    replace h := Lib.hid h
    go_enter Try.func68, Try.ntmps68
    go_wp2
    go_ret
    exact ⟨_, rfl, KL.nil _ _, Keeps.refl _ _⟩
  | some ad =>
    replace h := Lib.hid h
    go_enter Try.func68, Try.ntmps68
    go_wp2_with (at_builtin; (refine wpl_appL _ w.heap.size (.slice (some ⟨w.heap.size, 0, none⟩) 0 0) _ [] ls rfl _ _ rfl rfl rfl (KL.fresh w) (h.out.keeps ((Keeps.refl [] w).alloc _)) (by simp; omega) (by simp) ?_; intro v1 w1 hB1 hG1 hkb1))
    go_ret
    exact ⟨_, rfl, hB1, hG1.keeps ((Keeps.refl [] w).alloc _) (by simp [Value.ownBlock])⟩

def Chan.ackd (C : Chan) (n : Nat) : Chan := if C.acked < n ∧ n ≤ C.sent then { C with acked := n, kept := C.kept.drop (n - C.acked) } else C
theorem set5_1 {w : World} {b : Nat} {x0 x1 x2 x3 x4 : Value} {t : TypeId} (h : w.heap[b]? = some (.cells #[x0, x1, x2, x3, x4] t (0, 0))) (u : Value) : (w.setCell ⟨b, 1, none⟩ u).heap[b]? = some (.cells #[x0, u, x2, x3, x4] t (0, 0)) := by
  simp [World.setCell, Array.getElem?_modify, h]
theorem Ch.nobyteV {w : World} {B bc bm n : Nat} {vk : Value} {C : Chan} (h : Ch w B bc bm n vk C) : ∀ x, vk ≠ .int .u8 x := by
  obtain ⟨cs, hown, _⟩ := h.kept
  rcases hown.2 with ⟨rfl, _⟩ | ⟨g, cap, cur, rfl, _⟩ <;> simp
/-- The new list and the new number are laid. -/
theorem ack_fin {w w1 : World} {B bc bm n : Nat} {vk vk' : Value} {C : Chan} (q : Nat) (ls : List Bytes) (h : Ch w B bc bm n vk C) (hk : Keeps [] w w1) (hL : KL w1 w.heap.size vk' ls) (hB : B ≤ w.heap.size) :
    Ch ((w1.setCell ⟨bc, 3, none⟩ vk').setCell ⟨bc, 1, none⟩ (.int .i64 q)) B bc bm n vk' { C with acked := q, kept := ls } ∧ Keeps [bc] w ((w1.setCell ⟨bc, 3, none⟩ vk').setCell ⟨bc, 1, none⟩ (.int .i64 q)) ∧
    KB w ((w1.setCell ⟨bc, 3, none⟩ vk').setCell ⟨bc, 1, none⟩ (.int .i64 q)) ∧ vk'.ownBlock ≠ some bc ∧ ∀ k, vk'.ownBlock = some k → w.heap.size ≤ k := by
  have h1 := h.keeps hk
  have hlt := h.cells.2.2.2.2.2.2
  have hne : vk'.ownBlock ≠ some bc := fun e => by have := (ge_own hL _ e).1; omega
  have b3 := set5_3 h1.blk vk'
  have b1 := set5_1 b3 (.int .i64 q)
  have hk3 : Keeps [bc] w1 (w1.setCell ⟨bc, 3, none⟩ vk') := (Keeps.refl _ _).setCell (.inr (by simp)) _
  have hk4 : Keeps [bc] (w1.setCell ⟨bc, 3, none⟩ vk') ((w1.setCell ⟨bc, 3, none⟩ vk').setCell ⟨bc, 1, none⟩ (.int .i64 q)) := (Keeps.refl _ _).setCell (.inr (by simp)) _
  have hkb3 : KB w1 (w1.setCell ⟨bc, 3, none⟩ vk') := KB.setCell w1 _ h1.cells.2.2.2.1 h1.nobyteV
  have hkb4 : KB (w1.setCell ⟨bc, 3, none⟩ vk') ((w1.setCell ⟨bc, 3, none⟩ vk').setCell ⟨bc, 1, none⟩ (.int .i64 q)) := KB.int _ _ (k := C.acked) (by simp [World.cell?, b3])
  have hk34 := hk3.trans hk4
  refine ⟨⟨b1, (hL.mono hB).keep hk34 (by simpa using hne) (hkb3.trans hkb4), h1.early.keep hk34 (by simpa using h1.ne) (hkb3.trans hkb4)⟩, hk.of_nil.trans hk34, hk.kb0.trans (hkb3.trans hkb4), hne, fun k e => (ge_own hL k e).1⟩

set_option maxRecDepth 100000 in
set_option maxHeartbeats 2000000 in
theorem ackn_c (w : World) (B bc bm n : Nat) (vk : Value) (C : Chan) (q : Nat) (h : Ch w B bc bm n vk C) (hcb : vk.ownBlock ≠ some bc) (hs : C.sent < 1099511627776) (hks : C.kept.length + C.acked = C.sent) (hB : B ≤ w.heap.size) (hq : q < 18446744073709551616) :
    Calls Try.prog 44 #[.pointer (some ⟨bc, 0, none⟩), .int .u64 q] w fun e w' => ∃ vk', e = .returned (.int .i64 (if C.sent < q then 2 else 0)) ∧ Ch w' B bc bm n vk' (C.ackd q) ∧ Keeps [bc] w w' ∧ KB w w' ∧ vk'.ownBlock ≠ some bc ∧
      (vk'.ownBlock = vk.ownBlock ∨ ∀ k, vk'.ownBlock = some k → w.heap.size ≤ k) := by
  obtain ⟨c0, c1, c2, c3, c4, cf, hlt⟩ := h.cells
  have f1 := cf 1
  have f3 := cf 3
  clear c2 c4 cf
  by_cases hfar : C.sent < q
  · rw [if_pos hfar]
    have hk : C.ackd q = C := if_neg (by omega)
    rw [hk]
    replace h := Lib.hid h
    clear hk c3 f1 f3
    go_enter Try.func44, Try.ntmps44
    go_wp2
    go_ret
    exact ⟨vk, rfl, h.out, Keeps.refl _ _, KB.refl _, hcb, .inl rfl⟩
  · rw [if_neg hfar]
    by_cases hold : q ≤ C.acked
    · have hk : C.ackd q = C := if_neg (by omega)
      rw [hk]
      replace h := Lib.hid h
      clear hk c3 f1 f3
      go_enter Try.func44, Try.ntmps44
      go_wp2
      go_ret
      exact ⟨vk, rfl, h.out, Keeps.refl _ _, KB.refl _, hcb, .inl rfl⟩
    · have hk : C.ackd q = { C with acked := q, kept := C.kept.drop (q - C.acked) } := if_pos (by omega)
      rw [hk]
      rcases h.kept.sls.cases with ⟨h0, _⟩ | ⟨g, o, cp, rfl, hn, hm, hp, _⟩
      · rw [h0] at hks; simp at hks; omega
      · have htl := h.kept.sls.tail (q - C.acked) (by omega)
        have hb1 : bc < w.heap.size := hlt
        have hdl : C.kept.length - (q - C.acked) = C.sent - q := by omega
        obtain ⟨K, hK⟩ : ∃ K, C.kept.length = K := ⟨_, rfl⟩
        obtain ⟨j, hj⟩ : ∃ j, q - C.acked = j := ⟨_, rfl⟩
        obtain ⟨ak, hak⟩ : ∃ ak, C.acked = ak := ⟨_, rfl⟩
        rw [hj] at htl ⊢
        rw [hK] at htl hn hp hks c3
        rw [hak] at hold hks hj c1
        have hK1 : (C.kept.drop j).length < 1099511627776 := by simp; omega
        replace h := Lib.hid h
        replace hk := Lib.hid hk
        replace hK := Lib.hid hK
        replace hak := Lib.hid hak
        have hji : (q : Int) - ak = j := by omega
        have hjp : 0 < j := by omega
        have hjp2 : (0 : Int) < j := by omega
        by_cases hc0 : cp = j
        · rw [if_pos hc0] at htl
          subst hc0
          rw [Nat.sub_self, show K - cp = 0 by omega] at htl
          replace htl := Lib.hid htl
          go_enter Try.func44, Try.ntmps44
          go_wp2_with fail
          refine (cloneL_c _ _ _ htl.out hK1).mono ?_
          rintro e w1 ⟨v1, rfl, hL1, hk1⟩
          obtain ⟨a1, cp1, rfl⟩ := hL1.form
          have hfin := ack_fin q _ h.out hk1 hL1 hB
          have hlt1 : bc < w1.heap.size := by have := hk1.size; omega
          have hf3 : w1.frozen? ⟨bc, 3, none⟩ = false := (h.out.keeps hk1).cells.2.2.2.2.2.1 3
          have hf1 : w1.frozen? ⟨bc, 1, none⟩ = false := (h.out.keeps hk1).cells.2.2.2.2.2.1 1
          have hc3 := (h.out.keeps hk1).cells.2.2.2.1
          have hc1 := (h.out.keeps hk1).cells.2.1
          replace hfin := Lib.hid hfin
          clear hk1 hL1
          go_wp2
          go_ret
          have hf := hfin.out
          simp only [List.length_drop] at hf
          obtain ⟨r1, r2, r3, r4, r5⟩ := hf
          exact ⟨_, rfl, r1, r2, r3, r4, .inr r5⟩
        · rw [if_neg hc0] at htl
          replace htl := Lib.hid htl
          go_enter Try.func44, Try.ntmps44
          go_wp2_with fail
          refine (cloneL_c _ _ _ htl.out hK1).mono ?_
          rintro e w1 ⟨v1, rfl, hL1, hk1⟩
          obtain ⟨a1, cp1, rfl⟩ := hL1.form
          have hfin := ack_fin q _ h.out hk1 hL1 hB
          have hlt1 : bc < w1.heap.size := by have := hk1.size; omega
          have hf3 : w1.frozen? ⟨bc, 3, none⟩ = false := (h.out.keeps hk1).cells.2.2.2.2.2.1 3
          have hf1 : w1.frozen? ⟨bc, 1, none⟩ = false := (h.out.keeps hk1).cells.2.2.2.2.2.1 1
          have hc3 := (h.out.keeps hk1).cells.2.2.2.1
          have hc1 := (h.out.keeps hk1).cells.2.1
          replace hfin := Lib.hid hfin
          clear hk1 hL1
          go_wp2
          go_ret
          have hf := hfin.out
          simp only [List.length_drop] at hf
          obtain ⟨r1, r2, r3, r4, r5⟩ := hf
          exact ⟨_, rfl, r1, r2, r3, r4, .inr r5⟩
end Go.Proofs.Ytilmcdieihmiaaa

namespace Go.Proofs.Ytilmcdieihmiaaa
open Go.RowKit

set_option maxRecDepth 100000 in
set_option maxHeartbeats 4000000 in
theorem receive_ack (w : World) (B bc bm n : Nat) (vk v0 : Value) (C : Chan) (t : List UInt8) (q : Nat) (hC : Ch w B bc bm n vk C) (hcb : vk.ownBlock ≠ some bc) (hs : C.sent < 1099511627776) (hks : C.kept.length + C.acked = C.sent) (hB : B ≤ w.heap.size)
    (h : SlB w v0 (2 :: t)) (hl : t.length ≤ 140737488355000) (hr : readU t = some (q, [])) :
    Calls Try.prog 13 #[.pointer (some ⟨bc, 0, none⟩), v0] w fun e w' => ∃ vk', e = .returned (.tuple #[.slice none 0 0, .int .i64 (if C.sent < q then 2 else 0)]) ∧ Ch w' B bc bm n vk' (C.ackd q) ∧ Keeps [bc] w w' ∧ KB w w' ∧ vk'.ownBlock ≠ some bc ∧
      (vk'.ownBlock = vk.ownBlock ∨ ∀ k, vk'.ownBlock = some k → w.heap.size ≤ k) := by
  obtain ⟨_, hq64⟩ := readU_drop hr
  rcases h.cases with ⟨h0, _⟩ | ⟨g, o, cp, rfl, hn, hm, hp, hg, hc⟩
  · cases h0
  · have k0 := hc 0 (by simp)
    simp only [Nat.add_zero, List.getElem_cons_zero] at k0
    have ht := h.tail 1 (by simp)
    simp only [List.length_cons, List.drop_succ_cons, List.drop_zero, Nat.add_sub_cancel] at ht
    have ht0 : 0 < t.length := by cases t with | nil => cases hr | cons a b => simp
    obtain ⟨N, hN⟩ : ∃ N, t.length = N := ⟨_, rfl⟩
    simp only [List.length_cons, hN] at hn ht ht0 hl ⊢
    have hNh := Lib.hid hN
    have hcp1 : ¬ cp = 1 := by omega
    rw [if_neg hcp1] at ht
    replace hr := Lib.hid hr
    replace ht := Lib.hid ht
    replace hC := Lib.hid hC
    have k0' : w.cell? ⟨g, o, none⟩ = some (.int .u8 2) := k0
    generalize hcode : (if C.sent < q then (2 : Int) else 0) = code at *
    replace hcode := Lib.hid hcode
    clear hc h hN hp k0
    go_enter Try.func13, Try.ntmps13
    go_wp2_with fail
    refine (newReader_c _ _ _ ht.out (by have := hNh.out; omega)).mono ?_
    rintro e w1 ⟨br, vr, rfl, hbr, hR1, hk1⟩
    replace hR1 := Lib.hid hR1
    go_wp2_with fail
    refine (uint_ok _ br _ _ _ _ hR1.out hr.out).mono ?_
    rintro e w2 ⟨rfl, ⟨vr2, hR2⟩, hk2⟩
    have hk02 : Keeps [] w w2 := hk1.fresh hk2 (by simp; omega)
    have k02 : w2.cell? ⟨g, o, none⟩ = some (.int .u8 2) := hk02.val k0'
    replace hR2 := Lib.hid hR2
    replace hk02 := Lib.hid hk02
    clear hk1 hk2 hR1
    go_wp2_with fail
    refine (left_c _ br _ _ _ hR2.out).mono ?_
    rintro e w3 ⟨rfl, rfl⟩
    simp only [List.length_nil]
    go_wp2_with fail
    refine (done_c _ br _ _ _ hR2.out).mono ?_
    rintro e w3 ⟨rfl, rfl⟩
    rw [show doneE [] 0 = 0 from rfl]
    go_wp2_with fail
    refine (left_c _ br _ _ _ hR2.out).mono ?_
    rintro e w3 ⟨rfl, rfl⟩
    simp only [List.length_nil]
    go_wp2_with fail
    refine (ackn_c _ B bc bm n vk C q (hC.out.keeps hk02.out) hcb hs hks (by have := hk02.out.size; omega) hq64).mono ?_
    rintro e w4 ⟨vk', rfl, h1, h2, h3, h4, h5⟩
    rw [hcode.out]
    have hsz := hk02.out.size
    have hfin : Hid (Ch w4 B bc bm n vk' (C.ackd q) ∧ Keeps [bc] w w4 ∧ KB w w4 ∧ vk'.ownBlock ≠ some bc ∧ (vk'.ownBlock = vk.ownBlock ∨ ∀ k, vk'.ownBlock = some k → w.heap.size ≤ k)) :=
      ⟨h1, hk02.out.of_nil.trans h2, hk02.out.kb0.trans h3, h4, h5.imp id (fun h k e => Nat.le_trans hsz (h k e))⟩
    clear h1 h2 h3 h4 h5
    go_wp2
    go_ret2
    exact ⟨vk', rfl, hfin.out⟩
end Go.Proofs.Ytilmcdieihmiaaa

namespace Go.Proofs.Ytilmcdieihmiaaa
open Go.RowKit

abbrev NB := Int × Bytes
/-- The cells of such elements. -/
def E2 (w : World) (cs : List Value) (L : List NB) : Prop := cs.length = L.length * 2 ∧ ∀ k (hk : k < L.length), cs[k * 2]? = some (.int .i64 L[k].1) ∧ ∃ c, cs[k * 2 + 1]? = some c ∧ SlB w c L[k].2
def SE (w : World) (v : Value) (L : List NB) : Prop := ∃ cs, Sl w 2 v L.length cs ∧ E2 w cs L
def OE (w : World) (B e : Nat) (v : Value) (L : List NB) : Prop := ∃ cs, w.ownsRow B e 2 v L.length cs ∧ E2 w cs L ∧ AllC w v noB

theorem E2.kb {w w' : World} {cs : List Value} {L : List NB} (h : E2 w cs L) (hk : KB w w') : E2 w' cs L :=
  ⟨h.1, fun k hk' => by obtain ⟨h1, c, h2, h3⟩ := h.2 k hk'; exact ⟨h1, c, h2, h3.kb hk⟩⟩
theorem E2.append {w : World} {cs ds : List Value} {L M : List NB} (h : E2 w cs L) (k : E2 w ds M) : E2 w (cs ++ ds) (L ++ M) := by
  refine ⟨by simp [h.1, k.1]; omega, fun i hi => ?_⟩
  have h1 := h.1
  by_cases hl : i < L.length
  · obtain ⟨e1, c, e2, e3⟩ := h.2 i hl
    refine ⟨?_, c, ?_, ?_⟩
    · rw [List.getElem?_append_left (by omega), e1, List.getElem_append_left hl]
    · rw [List.getElem?_append_left (by omega), e2]
    · rw [List.getElem_append_left hl]; exact e3
  · have hi' : i - L.length < M.length := by simp at hi; omega
    obtain ⟨e1, c, e2, e3⟩ := k.2 (i - L.length) hi'
    refine ⟨?_, c, ?_, ?_⟩
    · rw [List.getElem?_append_right (by omega), show i * 2 - cs.length = (i - L.length) * 2 by omega, e1, List.getElem_append_right (by omega)]
    · rw [List.getElem?_append_right (by omega), show i * 2 + 1 - cs.length = (i - L.length) * 2 + 1 by omega, e2]
    · rw [List.getElem_append_right (by omega)]; exact e3
theorem E2.drop {w : World} {cs : List Value} {L : List NB} (h : E2 w cs L) (n : Nat) : E2 w (cs.drop (n * 2)) (L.drop n) := by
  refine ⟨by simp only [List.length_drop, h.1]; omega, fun i hi => ?_⟩
  simp at hi
  obtain ⟨e1, c, e2, e3⟩ := h.2 (n + i) (by omega)
  refine ⟨?_, c, ?_, ?_⟩
  · rw [List.getElem?_drop, show n * 2 + i * 2 = (n + i) * 2 by omega, e1]; simp
  · rw [List.getElem?_drop, show n * 2 + (i * 2 + 1) = (n + i) * 2 + 1 by omega, e2]
  · simpa using e3
theorem E2.take {w : World} {cs : List Value} {L : List NB} (h : E2 w cs L) (n : Nat) : E2 w (cs.take (n * 2)) (L.take n) := by
  refine ⟨by simp only [List.length_take, h.1]; omega, fun i hi => ?_⟩
  simp at hi
  obtain ⟨e1, c, e2, e3⟩ := h.2 i (by omega)
  refine ⟨?_, c, ?_, ?_⟩
  · rw [List.getElem?_take_of_lt (by omega), e1]; simp
  · rw [List.getElem?_take_of_lt (by omega), e2]
  · simpa using e3
theorem E2.one (w : World) (x : Int) (c : Value) (l : Bytes) (h : SlB w c l) : E2 w [.int .i64 x, c] [(x, l)] :=
  ⟨rfl, fun k hk => by
    have : k = 0 := by simp at hk; omega
    subst this
    exact ⟨rfl, c, rfl, h⟩⟩
theorem E2.noB {w : World} {cs : List Value} {L : List NB} (h : E2 w cs L) : ∀ u ∈ cs, noB u ∧ u.oneCell' = true := fun u hu => by
  obtain ⟨j, hj, rfl⟩ := List.getElem_of_mem hu
  have h1 := h.1
  obtain ⟨e1, c, e2, e3⟩ := h.2 (j / 2) (by omega)
  rcases Nat.mod_two_eq_zero_or_one j with hm | hm
  · rw [show j / 2 * 2 = j by omega, List.getElem?_eq_getElem hj] at e1
    simp only [Option.some.injEq] at e1
    rw [e1]; simp [Proofs.Ytilmcdieihmiaaa.noB, Value.oneCell']
  · rw [show j / 2 * 2 + 1 = j by omega, List.getElem?_eq_getElem hj] at e2
    obtain ⟨a, cc, rfl⟩ := e3.form
    simp only [Option.some.injEq] at e2
    rw [e2]; simp [Proofs.Ytilmcdieihmiaaa.noB, Value.oneCell']

theorem SE.nil (w : World) : SE w (.slice none 0 0) [] := ⟨[], Sl.nil _ _, rfl, fun k hk => by simp at hk⟩
theorem SE.keeps {w w' : World} {v : Value} {L : List NB} (h : SE w v L) (hk : Keeps [] w w') : SE w' v L := by
  obtain ⟨cs, h1, h2⟩ := h; exact ⟨cs, h1.keeps hk, h2.kb hk.kb0⟩
theorem SE.form {w : World} {v : Value} {L : List NB} (h : SE w v L) : ∃ a c, v = .slice a L.length c := by
  obtain ⟨cs, ⟨_, a, cap, rfl, _⟩, _⟩ := h; exact ⟨a, cap, rfl⟩
theorem SE.elems {w : World} {v : Value} {L : List NB} (h : SE w v L) : ∃ a c, v = .slice a L.length c ∧ L.length ≤ c ∧ c ≤ maxLen ∧ ∀ k (hk : k < L.length), ∃ g o ad cp, a = some ⟨g, o, none⟩ ∧ w.cell? ⟨g, o + k * 2, none⟩ = some (.int .i64 L[k].1) ∧
    w.cell? ⟨g, o + k * 2 + 1, none⟩ = some (.slice ad L[k].2.length cp) ∧ SlB w (.slice ad L[k].2.length cp) L[k].2 := by
  obtain ⟨cs, ⟨h1, a, cap, rfl, h2, h3, _, h4⟩, hE⟩ := h
  refine ⟨a, cap, rfl, h2, h3, fun k hk => ?_⟩
  have hl := hE.1
  obtain ⟨g, o, rfl, hc⟩ := h4 (by omega)
  obtain ⟨e1, c, e2, e3⟩ := hE.2 k hk
  obtain ⟨ad, cp, rfl⟩ := e3.form
  exact ⟨g, o, ad, cp, rfl, hc _ _ e1, hc _ _ e2, e3⟩
theorem SE.nilCap {w : World} {v : Value} {L : List NB} (h : SE w v L) : ∀ n c, v = .slice none n c → c = 0 := fun n c e => by
  obtain ⟨cs, ⟨_, a, cap, rfl, _, _, h0, _⟩, _⟩ := h
  cases e; exact h0 rfl
theorem SE.empty (w : World) (a : Option Addr) (c : Nat) (hc : c ≤ maxLen) (ha : a = none → c = 0) : SE w (.slice a 0 c) [] :=
  ⟨[], ⟨rfl, a, c, rfl, Nat.zero_le _, hc, ha, by simp⟩, rfl, fun k hk => by simp at hk⟩
theorem SE.tail {w : World} {g o n cap : Nat} {L : List NB} (h : SE w (.slice (some ⟨g, o, none⟩) n cap) L) (a : Nat) (ha : a ≤ L.length) :
    SE w (.slice (if cap = a then some ⟨g, o, none⟩ else some ⟨g, o + a * 2, none⟩) (L.length - a) (cap - a)) (L.drop a) := by
  obtain ⟨cs, hs, hE⟩ := h
  obtain ⟨a', c', e⟩ : ∃ a c, Value.slice (some ⟨g, o, none⟩) n cap = .slice a L.length c := by obtain ⟨_, a, cap, e, _⟩ := hs; exact ⟨a, cap, e⟩
  cases e
  have h' := hs.part a L.length ha (Nat.le_refl _)
  have hl := hE.1
  rw [List.take_of_length_le (by omega)] at h'
  refine ⟨cs.drop (a * 2), ?_, hE.drop a⟩
  rw [List.length_drop]
  by_cases hc : cap = a
  · rw [if_pos hc]
    obtain ⟨h1, a', c', e, h2, h3, _, _⟩ := h'
    cases e
    exact ⟨h1, _, _, rfl, h2, h3, by simp, fun hp => by simp at hp; omega⟩
  · rw [if_neg hc]; exact h'
theorem SE.init {w : World} {g o n cap : Nat} {L : List NB} (h : SE w (.slice (some ⟨g, o, none⟩) n cap) L) (a : Nat) (ha : a ≤ L.length) : SE w (.slice (some ⟨g, o, none⟩) a cap) (L.take a) := by
  obtain ⟨cs, hs, hE⟩ := h
  obtain ⟨a', c', e⟩ : ∃ a c, Value.slice (some ⟨g, o, none⟩) n cap = .slice a L.length c := by obtain ⟨_, a, cap, e, _⟩ := hs; exact ⟨a, cap, e⟩
  cases e
  have h' := hs.part 0 a (Nat.zero_le _) ha
  simp only [Nat.zero_mul, Nat.add_zero, Nat.sub_zero, List.drop_zero] at h'
  refine ⟨cs.take (a * 2), ?_, hE.take a⟩
  rw [List.length_take, Nat.min_eq_left ha]
  exact h'
theorem OE.se {w : World} {B e : Nat} {v : Value} {L : List NB} (h : OE w B e v L) : SE w v L := by
  obtain ⟨cs, h1, h2, _⟩ := h; exact ⟨cs, Sl.of_owns h1, h2⟩
theorem OE.nil (w : World) (B e : Nat) : OE w B e (.slice none 0 0) [] := ⟨[], World.ownsRow_nil _ _ _ _, ⟨rfl, fun k hk => by simp at hk⟩, fun g hg => by simp [Value.ownBlock] at hg⟩
theorem OE.fresh (w : World) (e : Nat) : OE (w.alloc (.cells #[] e)) w.heap.size e (.slice (some ⟨w.heap.size, 0, none⟩) 0 0) [] :=
  ⟨[], ownsRow_empty w _ _ _ (Nat.le_refl _), ⟨rfl, fun k hk => by simp at hk⟩, AllC.of_block (heap_alloc_new w _) (by simp)⟩
theorem OE.ge {w : World} {B e : Nat} {v : Value} {L : List NB} (h : OE w B e v L) : ∀ b, v.ownBlock = some b → B ≤ b ∧ b < w.heap.size := fun b hb => by
  obtain ⟨cs, hown, _⟩ := h
  exact ⟨ownBlock_ge hown b hb, (hown.lt b hb).2⟩
theorem OE.keep {w w' : World} {B e : Nat} {v : Value} {L : List NB} {S : List Nat} (h : OE w B e v L) (hk : Keeps S w w') (hS : ∀ b ∈ S, v.ownBlock ≠ some b) (hb : KB w w') : OE w' B e v L := by
  obtain ⟨cs, hown, hel, hall⟩ := h
  refine ⟨cs, ?_, hel.kb hb, fun g hg o u hu => ?_⟩
  · refine ⟨hown.1, ?_⟩
    rcases hown.2 with hn | ⟨g, cap, cur, rfl, hb, hg, rest⟩
    · exact .inl hn
    · exact .inr ⟨g, cap, cur, rfl, hb, (hk.block g (Array.getElem?_eq_some_iff.1 hg).1 (fun hm => hS g hm rfl)).trans hg, rest⟩
  · rcases hown.2 with ⟨rfl, _⟩ | ⟨g', cap, cur, rfl, _, hgb, _⟩
    · simp [Value.ownBlock] at hg
    · have e : g' = g := by simpa [Value.ownBlock] using hg
      subst e
      rw [hk.cell g' o (Array.getElem?_eq_some_iff.1 hgb).1 (fun hm => hS g' hm rfl)] at hu
      exact hall g' rfl o u hu
theorem OE.mono {w : World} {B B' e : Nat} {v : Value} {L : List NB} (h : OE w B e v L) (hB : B' ≤ B) : OE w B' e v L := by
  obtain ⟨cs, hown, rest⟩ := h
  refine ⟨cs, ⟨hown.1, ?_⟩, rest⟩
  rcases hown.2 with hn | ⟨g, cap, cur, rfl, hg, r⟩
  · exact .inl hn
  · exact .inr ⟨g, cap, cur, rfl, by omega, r⟩
theorem SE.one (w : World) (e : TypeId) (x : Int) (c : Value) (l : Bytes) (h : SlB w c l) : SE (w.alloc (.cells #[.int .i64 x, c] e)) (.slice (some ⟨w.heap.size, 0, none⟩) 1 1) [(x, l)] :=
  ⟨[.int .i64 x, c], ⟨rfl, _, _, rfl, Nat.le_refl _, by simp [maxLen], by simp, fun _ => ⟨_, 0, rfl, fun j u hj => by
    match j, hj with
    | 0, hj => simp at hj; subst hj; simp
    | 1, hj => simp at hj; subst hj; simp⟩⟩, E2.one _ _ _ _ (h.keeps ((Keeps.refl [] w).alloc _))⟩

theorem wp_appE {o : Oper} {a : Act} {K : Act → World → Prop} {Q : Exit → Act → World → Prop} (e ts : TypeId) (ht0 : Try.prog.underlying ts = some (.slice e)) (hinf : (Try.prog.info? e).map (fun i => (i.zero, i.size, i.bytes)) = some (some (.agg #[.int .i64 0, .slice none 0 0]), 2, 32))
    (w : World) (B : Nat) (v v2 : Value) (L M : List NB) (s t : Operand)
    (ho : o.op = .call { callee := .builtin .append, args := #[s, t], argTypes := #[ts, ts] }) (hs : a.eval s = v) (ht : a.eval t = v2)
    (h : OE w B e v L) (hc : SE w v2 M) (hl : L.length + M.length < 1099511627776) (hB : B ≤ w.heap.size)
    (hK : ∀ v' w', OE w' B e v' (L ++ M) → Grw w w' v v' → KB w w' → K (a.put o.dst v') w') : o.wp Try.prog a w K Q := by
  obtain ⟨i0, hi, hz0, hz1, hz2⟩ := info_parts hinf
  obtain ⟨cs, hown, hel, hall⟩ := h
  obtain ⟨ds, hsl, hel2⟩ := hc
  refine wp_append_x s t _ ho B e i0 _ 2 32 ht0 hi hz0 hz1 hz2 rfl (by decide) v L.length cs hs hown v2 M.length ds ht hsl (fun u hu => (hel2.noB u hu).2) (by unfold maxLen; omega) (by omega) hB ?_
  intro v' w' h1 h2 h3
  have hkb : KB w w' := h2.kb hall
  exact hK v' w' ⟨cs ++ ds, by simpa using h1, (hel.kb hkb).append (hel2.kb hkb), h3 noB (fun u hu => (hel2.noB u hu).1) (by simp [Value.cells, noB]) hall⟩ h2 hkb
/-- .. at the operation. -/
theorem wpl_appE {ops : Array Oper} {rest : List Oper} {o : Oper} {a : Act} {Q : Exit → Act → World → Prop} (e ts : TypeId) (ht0 : Try.prog.underlying ts = some (.slice e)) (hinf : (Try.prog.info? e).map (fun i => (i.zero, i.size, i.bytes)) = some (some (.agg #[.int .i64 0, .slice none 0 0]), 2, 32))
    (w : World) (B : Nat) (v v2 : Value) (L M : List NB) (hg : o.guard = none) (s t : Operand)
    (ho : o.op = .call { callee := .builtin .append, args := #[s, t], argTypes := #[ts, ts] }) (hs : a.eval s = v) (ht : a.eval t = v2)
    (h : OE w B e v L) (hc : SE w v2 M) (hl : L.length + M.length < 1099511627776) (hB : B ≤ w.heap.size)
    (hK : ∀ v' w', OE w' B e v' (L ++ M) → Grw w w' v v' → KB w w' → wpList Try.prog ops Q rest (a.put o.dst v') w') : wpList Try.prog ops Q (o :: rest) a w :=
  wpList_plain hg fun _ hK' => wp_appE e ts ht0 hinf w B v v2 L M s t ho hs ht h hc hl hB fun v' w' h1 h2 h3 => hK' _ _ (hK v' w' h1 h2 h3)
end Go.Proofs.Ytilmcdieihmiaaa

namespace Go.Proofs.Ytilmcdieihmiaaa
open Go.RowKit

set_option maxRecDepth 100000 in
set_option maxHeartbeats 2000000 in
theorem find_c (w : World) (v0 : Value) (L : List NB) (q : Int) (h : SE w v0 L) :
    Calls Try.prog 51 #[v0, .int .i64 q] w fun e w' => ((∃ k : Nat, e = .returned (.int .i64 k) ∧ ∃ x ∈ L, x.1 = q) ∨ (e = .returned (.int .i64 (-1)) ∧ ∀ x ∈ L, x.1 ≠ q)) ∧ Keeps [] w w' := by
  obtain ⟨a, c, rfl, hlc, hcm, hel⟩ := h.elems
  obtain ⟨N, hN⟩ : ∃ N, L.length = N := ⟨_, rfl⟩
  rw [hN] at hlc ⊢
  have hNm : N ≤ 9223372036854775807 := by unfold maxLen at hcm; omega
  replace hel := Lib.hid hel
  replace hN := Lib.hid hN
  clear h
  go_enter Try.func51, Try.ntmps51
  go_wp2
  go_loopw [5] (fun i wr => ∃ k : Nat, i = .int .i64 k ∧ k ≤ N ∧ (∀ j (hj : j < L.length), j < k → L[j].1 ≠ q) ∧ Keeps [] w wr) (fun i _ => N - (intOf i).toNat)
  case atStart => exact ⟨0, rfl, by omega, fun _ _ h => by omega, Keeps.refl _ _⟩
  case round =>
    obtain ⟨k, rfl, hk, hno, hkw⟩ := hrel
    replace hno := Lib.hid hno
    by_cases hlt : k < N
    · obtain ⟨g, o, ad, cp, rfl, hx, _, _⟩ := hel.out k (by rw [hN.out]; exact hlt)
      have hxr := hkw.val hx
      clear hx
      replace hkw := Lib.hid hkw
      by_cases he : (L[k]'(by rw [hN.out]; exact hlt)).1 = q
      · rw [he] at hxr
        replace he := Lib.hid he
        go_wp2
        go_ret
        exact ⟨.inl ⟨k, rfl, _, List.getElem_mem _, he.out⟩, hkw.out⟩
      · obtain ⟨z, hz⟩ : ∃ z, (L[k]'(by rw [hN.out]; exact hlt)).1 = z := ⟨_, rfl⟩
        rw [hz] at hxr he
        replace hz := Lib.hid hz
        have heb : (z == q) = false := by simpa using he
        clear he
        have hno' : Hid (∀ j (hj : j < L.length), j < k + 1 → L[j].1 ≠ q) := fun j hj hjk => by
          by_cases e : j = k
          · subst e; rw [hz.out]; simpa using heb
          · exact hno.out j hj (by omega)
        go_wp2
        go_roundw
        case rel => exact ⟨k + 1, rfl, by omega, hno'.out, hkw.out⟩
        case measure => simp [intOf]; omega
    · have hkk : k = N := by omega
      subst hkk
      replace hkw := Lib.hid hkw
      go_wp2
      go_ret
      refine ⟨.inr ⟨rfl, fun x hx => ?_⟩, hkw.out⟩
      obtain ⟨j, hj, rfl⟩ := List.getElem_of_mem hx
      exact hno.out j hj (by rw [hN.out] at hj; exact hj)
end Go.Proofs.Ytilmcdieihmiaaa

namespace Go.Proofs.Ytilmcdieihmiaaa
open Go.RowKit

theorem infoE : (Try.prog.info? 101).map (fun i => (i.zero, i.size, i.bytes)) = some (some (.agg #[.int .i64 0, .slice none 0 0]), 2, 32) := by kernel_rfl
abbrev tyE : Nat := 101
/-- `M` is `L` with `x` at its place. -/
def Ins (L : List NB) (x : NB) (M : List NB) : Prop := ∃ k, k ≤ L.length ∧ M = L.take k ++ [x] ++ L.drop k ∧ (∀ j (hj : j < L.length), j < k → L[j].1 < x.1) ∧ ∀ hk : k < L.length, x.1 ≤ L[k].1

set_option maxRecDepth 100000 in
set_option maxHeartbeats 4000000 in
theorem insert_c (w : World) (v0 : Value) (L : List NB) (q : Int) (ax : Option Addr) (lx cx : Nat) (l : Bytes) (h : SE w v0 L) (hx : SlB w (.slice ax lx cx) l) (hN : L.length < 1099511627770) :
    Calls Try.prog 52 #[v0, .agg #[.int .i64 q, .slice ax lx cx]] w fun e w' => ∃ v' M, e = .returned v' ∧ OE w' w.heap.size tyE v' M ∧ Ins L (q, l) M ∧ Keeps [] w w' := by
  have htail := fun (g o n c a : Nat) (hv : v0 = .slice (some ⟨g, o, none⟩) n c) (ha : a ≤ L.length) => SE.tail (hv ▸ h) a ha
  have hnil := fun (v : Value) (hv : v = v0) => h
  have hnone := h.nilCap
  obtain ⟨a, c, rfl, hlc, hcm, hel⟩ := h.elems
  have hcn : a = none → c = 0 := fun e => hnone _ _ (by rw [e])
  clear hnone
  obtain ⟨N, hNl⟩ : ∃ N, L.length = N := ⟨_, rfl⟩
  rw [hNl] at hlc hN htail ⊢
  replace hel := Lib.hid hel
  replace hNl := Lib.hid hNl
  replace h := Lib.hid h
  replace hx := Lib.hid hx
  replace htail := Lib.hid htail
  clear hnil
  go_enter Try.func52, Try.ntmps52
  -- LOOP
  go_wp2
  have hb0 : ((w.alloc (.cells #[.int .i64 q, .slice ax lx cx] 101)).alloc (.cells #[] 101)).cell? ⟨w.heap.size, 0, none⟩ = some (.int .i64 q) := by simp
  have hb1 : ((w.alloc (.cells #[.int .i64 q, .slice ax lx cx] 101)).alloc (.cells #[] 101)).cell? ⟨w.heap.size, 1, none⟩ = some (.slice ax lx cx) := by simp
  have hO0 : OE ((w.alloc (.cells #[.int .i64 q, .slice ax lx cx] 101)).alloc (.cells #[] 101)) (w.heap.size + 1) tyE (.slice (some ⟨w.heap.size + 1, 0, none⟩) 0 0) [] := by
    have := OE.fresh (w.alloc (.cells #[.int .i64 q, .slice ax lx cx] 101)) tyE
    simpa using this
  have hk0 : Keeps [] w ((w.alloc (.cells #[.int .i64 q, .slice ax lx cx] 101)).alloc (.cells #[] 101)) := ((Keeps.refl [] w).alloc _).alloc _
  replace hO0 := Lib.hid hO0
  replace hk0 := Lib.hid hk0
  have hbox : ∀ (w1 w2 : World), Keeps [] w1 w2 → w.heap.size < w1.heap.size → ∀ o u, w1.cell? ⟨w.heap.size, o, none⟩ = some u → w2.cell? ⟨w.heap.size, o, none⟩ = some u := fun _ _ hk hl o u hc => (hk.cell _ o hl (by simp)).trans hc
  replace hbox := Lib.hid hbox
  go_loopw [5, 6] (fun out i wr => ∃ (k : Nat) (ao : Option Addr) (co : Nat), i = .int .i64 k ∧ k ≤ N ∧ out = .slice ao k co ∧ OE wr (w.heap.size + 1) tyE (.slice ao k co) (L.take k) ∧ (∀ j (hj : j < L.length), j < k → L[j].1 < q) ∧ Keeps [] w wr ∧ wr.cell? ⟨w.heap.size, 0, none⟩ = some (.int .i64 q) ∧ wr.cell? ⟨w.heap.size, 1, none⟩ = some (.slice ax lx cx)) (fun _ i _ => N - (intOf i).toNat)
  case atStart => exact ⟨0, _, _, rfl, by omega, rfl, by simpa using hO0.out, fun _ _ h => by omega, hk0.out, hb0, hb1⟩
  case round =>
    obtain ⟨k, ao, co, rfl, hk, rfl, hO, hlow, hkw, hb0r, hb1r⟩ := hrel
    clear hb0 hb1 hO0 hk0
    have hszr : w.heap.size + 1 ≤ wr.heap.size := lt_of_cell hb0r
    have hxd := Lib.hid (hx.out.keeps hkw)
    replace hO := Lib.hid hO
    replace hlow := Lib.hid hlow
    by_cases hlt : k < N
    · obtain ⟨g, o, ad, cp, rfl, hy, hz, hY⟩ := hel.out k (by rw [hNl.out]; exact hlt)
      have hyr := hkw.val hy
      have hzr := hkw.val hz
      have hYr := hY.keeps hkw
      have hbs : ∀ S : List Nat, True := fun _ => trivial
      clear hbs hy hz hY
      have hpair : (L[k]'(by rw [hNl.out]; exact hlt)) = ((L[k]'(by rw [hNl.out]; exact hlt)).1, (L[k]'(by rw [hNl.out]; exact hlt)).2) := rfl
      obtain ⟨z, hzz⟩ : ∃ z, (L[k]'(by rw [hNl.out]; exact hlt)).1 = z := ⟨_, rfl⟩
      obtain ⟨l2, hl2⟩ : ∃ l2, (L[k]'(by rw [hNl.out]; exact hlt)).2 = l2 := ⟨_, rfl⟩
      obtain ⟨n2, hn2⟩ : ∃ n2, l2.length = n2 := ⟨_, rfl⟩
      rw [hzz] at hyr hpair
      rw [hl2] at hzr hYr hpair
      rw [hn2] at hzr hYr
      replace hzz := Lib.hid hzz
      replace hl2 := Lib.hid hl2
      replace hn2 := Lib.hid hn2
      replace hpair := Lib.hid hpair
      replace hYr := Lib.hid hYr
      replace hkw := Lib.hid hkw
      by_cases hzq : z < q
      · go_wp2
        (refine wp_region_quiet_lit (by kernel_rfl) (by kernel_rfl) ?_; (repeat (first | go_big_quiet_step (fail) | quiet_step (fail))); with_reducible refine wpQuiet_nil ?_; intro _ hw'; obtain ⟨nq, hw''⟩ := hw'; subst hw'')
        go_wp2_with (at_builtin; (refine wpl_appE tyE 42 Try.underlying42 infoE _ (w.heap.size + 1) (.slice ao k co) _ (L.take k) [(z, l2)] rfl _ _ rfl rfl rfl (hO.out.keep (((Keeps.refl [] wr).drewN _).alloc _) (by simp) (((Keeps.refl [] wr).drewN _).alloc _).kb0) (SE.one _ _ _ _ _ (hYr.out.keeps ((Keeps.refl [] wr).drewN _))) (by simp; omega) (by simp; omega) ?_; intro v3 w3 hO3 hG3 hkb3))
        have hk5 : Keeps (Value.slice ao k co).ownBlock.toList (wr.drewN nq) w3 := (Keeps.refl [] (wr.drewN nq)).alloc _ |>.of_nil.trans hG3.keepsO
        have hk3 : Keeps [] w w3 := (hkw.out.drewN nq).fresh hk5 (fun b hb => .inr (by have := (hO.out.ge b (by simpa using hb)).1; omega))
        have hsub : ∀ b ∈ (Value.slice ao k co).ownBlock.toList, b ≠ w.heap.size := fun b hb e => by have := (hO.out.ge b (by simpa using hb)).1; omega
        have hb0w : w3.cell? ⟨w.heap.size, 0, none⟩ = some (.int .i64 q) := (hk5.cell _ 0 (show w.heap.size < wr.heap.size by omega) (fun hm => hsub _ hm rfl)).trans hb0r
        have hb1w : w3.cell? ⟨w.heap.size, 1, none⟩ = some (.slice ax lx cx) := (hk5.cell _ 1 (show w.heap.size < wr.heap.size by omega) (fun hm => hsub _ hm rfl)).trans hb1r
        rw [← hpair.out, ← List.take_succ_eq_append_getElem (by rw [hNl.out]; exact hlt)] at hO3
        obtain ⟨a3, c3, rfl⟩ : ∃ a c, v3 = .slice a (k + 1) c := by
          obtain ⟨a, c, rfl⟩ := hO3.se.form
          exact ⟨a, c, by rw [List.length_take, hNl.out, Nat.min_eq_left (by omega)]⟩
        have hlow' : Hid (∀ j (hj : j < L.length), j < k + 1 → L[j].1 < q) := fun j hj hjk => by
          by_cases e : j = k
          · subst e; rw [hzz.out]; exact hzq
          · exact hlow.out j hj (by omega)
        replace hO3 := Lib.hid hO3
        replace hk3 := Lib.hid hk3
        clear hk5 hsub hG3 hkb3
        go_wp2
        go_roundw
        case rel => exact ⟨k + 1, a3, c3, rfl, by omega, rfl, hO3.out, hlow'.out, hk3.out, hb0w, hb1w⟩
        case measure => simp [intOf]; omega
      · have hge : Hid (∀ hk : k < L.length, q ≤ L[k].1) := fun _ => by rw [hzz.out]; omega
        have hdz : decide (z < q) = false := by simp; omega
        have hck : ¬ c = k := by omega
        have hTs := htail.out g o N c k rfl (by omega)
        rw [if_neg hck] at hTs
        replace hTs := Lib.hid hTs
        go_wp2
        (refine wp_region_quiet_lit (by kernel_rfl) (by kernel_rfl) ?_; (repeat (first | go_big_quiet_step (fail) | quiet_step (fail))); with_reducible refine wpQuiet_nil ?_; intro _ hw'; obtain ⟨nq, hw''⟩ := hw'; subst hw'')
        have hkd : Keeps [] wr (wr.drewN (nq + 1)) := (Keeps.refl [] wr).drewN _
        go_wp2
        refine Free.wp_region_chain (fun i => i == 2 || i == 3 || i == 7) (fun i => true) (fun j b => w.heap.size + 1 ≤ b) (by kernel_rfl) (by kernel_rfl) (by kernel_rfl) ?_
        (repeat (first | (apply Free.cw_pure rfl rfl; (intro w'; go_simp <;> exact rfl); go_frame) | (apply Free.cw_steady rfl rfl rfl; (intro w' hS; have q0 := Free.sx_cell hS hb0r (fun j hp hT => by omega); have q1 := Free.sx_cell hS hb1r (fun j hp hT => by omega); go_simp <;> exact rfl); go_frame) | (refine Free.cw_skip rfl ?_; go_frame)))
        refine Free.cw_loud rfl rfl (fun K hK => ?_)
        go_wp2
        refine hK _ _ rfl (Free.KeepsP.alloc _ _ _) ?_
        clear hK K
        refine Free.cw_loud rfl rfl (fun K hK => ?_)
        refine wp_appE tyE 42 Try.underlying42 infoE _ (w.heap.size + 1) (.slice ao k co) _ (L.take k) [(q, l)] _ _ rfl rfl rfl (hO.out.keep (S := []) (hkd.alloc _) (by simp) (hkd.alloc _).kb0) (SE.one _ _ _ _ _ (hxd.out.keeps hkd)) (by simp <;> omega) (by have := hkw.out.size; simp <;> omega) (fun v3 w3 hO3 hG3 hkb3 => ?_)
        refine hK _ _ rfl (Free.KeepsP.of hG3.keepsO (fun b hb => (hO.out.ge b (by simpa using hb)).1)) ?_
        clear hK K
        have hk3 : Keeps [] w w3 := ((hkw.out.trans hkd).alloc _).fresh hG3.keepsO (fun b hb => .inr (by have := (hO.out.ge b (by simpa using hb)).1; omega))
        obtain ⟨a3, c3, rfl⟩ : ∃ a c, v3 = .slice a (k + 1) c := by
          obtain ⟨a, c, rfl⟩ := hO3.se.form
          exact ⟨a, c, by simp [hNl.out] <;> omega⟩
        have hT3 := hTs.out.keeps hk3
        have hsz3a : (wr.drewN (nq + 1)).heap.size + 1 ≤ w3.heap.size := by simpa using hG3.keepsO.size
        have hsz3 : wr.heap.size + 1 ≤ w3.heap.size := hsz3a
        go_frame
        replace hO3 := Lib.hid hO3
        replace hG3 := Lib.hid hG3
        replace hkb3 := Lib.hid hkb3
        replace hk3 := Lib.hid hk3
        (repeat (apply Free.cw_pure rfl rfl; (intro w'; go_simp <;> exact rfl); go_frame))
        refine Free.cw_loud rfl rfl (fun K hK => ?_)
        refine wp_appE tyE 42 Try.underlying42 infoE _ (w.heap.size + 1) (.slice a3 (k + 1) c3) _ (L.take k ++ [(q, l)]) (L.drop k) _ _ rfl rfl rfl hO3.out hT3 (by simp [hNl.out] <;> omega) (by omega) (fun v4 w4 hO4 hG4 hkb4 => ?_)
        refine hK _ _ rfl (Free.KeepsP.of hG4.keepsO (fun b hb => (hO3.out.ge b (by simpa using hb)).1)) ?_
        clear hK K
        have hk4 : Keeps [] w w4 := hk3.out.fresh hG4.keepsO (fun b hb => .inr (by have := (hO3.out.ge b (by simpa using hb)).1; omega))
        replace hO4 := Lib.hid hO4
        replace hk4 := Lib.hid hk4
        clear hG4 hkb4
        (repeat (apply Free.cw_pure rfl rfl; (intro w'; go_simp <;> exact rfl); go_frame))
        refine Free.cw_nil ?_
        go_wp2
        go_ret
        exact ⟨_, _, rfl, hO4.out.mono (by omega), ⟨k, by rw [hNl.out]; omega, rfl, hlow.out, hge.out⟩, hk4.out⟩
    · have hkk : k = N := by omega
      subst hkk
      have hge : Hid (∀ hk : k < L.length, q ≤ L[k].1) := fun h => by rw [hNl.out] at h; omega
      have hdr : L.drop k = [] := List.drop_eq_nil_of_le (by rw [hNl.out]; omega)
      replace hkw := Lib.hid hkw
      replace hlt := Lib.hid hlt
      cases a with
      | none =>
        have hc0 : c = 0 := hcn rfl
        have hk0 : k = 0 := by omega
        subst hc0
        subst hk0
        have hTs : Hid (SE w (.slice none 0 0) (L.drop 0)) := by show SE _ _ _; rw [hdr]; exact SE.nil w
        go_wp2
        (refine wp_region_quiet_lit (by kernel_rfl) (by kernel_rfl) ?_; (repeat (first | go_big_quiet_step (fail) | quiet_step (fail))); with_reducible refine wpQuiet_nil ?_; intro _ hw'; obtain ⟨nq, hw''⟩ := hw'; subst hw'')
        have hkd : Keeps [] wr (wr.drewN (nq + 1)) := (Keeps.refl [] wr).drewN _
        go_wp2
        refine Free.wp_region_chain (fun i => i == 2 || i == 3 || i == 7) (fun i => true) (fun j b => w.heap.size + 1 ≤ b) (by kernel_rfl) (by kernel_rfl) (by kernel_rfl) ?_
        (repeat (first | (apply Free.cw_pure rfl rfl; (intro w'; go_simp <;> exact rfl); go_frame) | (apply Free.cw_steady rfl rfl rfl; (intro w' hS; have q0 := Free.sx_cell hS hb0r (fun j hp hT => by omega); have q1 := Free.sx_cell hS hb1r (fun j hp hT => by omega); go_simp <;> exact rfl); go_frame) | (refine Free.cw_skip rfl ?_; go_frame)))
        refine Free.cw_loud rfl rfl (fun K hK => ?_)
        go_wp2
        refine hK _ _ rfl (Free.KeepsP.alloc _ _ _) ?_
        clear hK K
        refine Free.cw_loud rfl rfl (fun K hK => ?_)
        refine wp_appE tyE 42 Try.underlying42 infoE _ (w.heap.size + 1) (.slice ao 0 co) _ (L.take 0) [(q, l)] _ _ rfl rfl rfl (hO.out.keep (S := []) (hkd.alloc _) (by simp) (hkd.alloc _).kb0) (SE.one _ _ _ _ _ (hxd.out.keeps hkd)) (by simp <;> omega) (by have := hkw.out.size; simp <;> omega) (fun v3 w3 hO3 hG3 hkb3 => ?_)
        refine hK _ _ rfl (Free.KeepsP.of hG3.keepsO (fun b hb => (hO.out.ge b (by simpa using hb)).1)) ?_
        clear hK K
        have hk3 : Keeps [] w w3 := ((hkw.out.trans hkd).alloc _).fresh hG3.keepsO (fun b hb => .inr (by have := (hO.out.ge b (by simpa using hb)).1; omega))
        obtain ⟨a3, c3, rfl⟩ : ∃ a c, v3 = .slice a (0 + 1) c := by
          obtain ⟨a, c, rfl⟩ := hO3.se.form
          exact ⟨a, c, by simp [hNl.out] <;> omega⟩
        have hT3 := hTs.out.keeps hk3
        have hsz3a : (wr.drewN (nq + 1)).heap.size + 1 ≤ w3.heap.size := by simpa using hG3.keepsO.size
        have hsz3 : wr.heap.size + 1 ≤ w3.heap.size := hsz3a
        go_frame
        replace hO3 := Lib.hid hO3
        replace hG3 := Lib.hid hG3
        replace hkb3 := Lib.hid hkb3
        replace hk3 := Lib.hid hk3
        (repeat (apply Free.cw_pure rfl rfl; (intro w'; go_simp <;> exact rfl); go_frame))
        refine Free.cw_loud rfl rfl (fun K hK => ?_)
        refine wp_appE tyE 42 Try.underlying42 infoE _ (w.heap.size + 1) (.slice a3 (0 + 1) c3) _ (L.take 0 ++ [(q, l)]) (L.drop 0) _ _ rfl rfl rfl hO3.out hT3 (by simp [hNl.out] <;> omega) (by omega) (fun v4 w4 hO4 hG4 hkb4 => ?_)
        refine hK _ _ rfl (Free.KeepsP.of hG4.keepsO (fun b hb => (hO3.out.ge b (by simpa using hb)).1)) ?_
        clear hK K
        have hk4 : Keeps [] w w4 := hk3.out.fresh hG4.keepsO (fun b hb => .inr (by have := (hO3.out.ge b (by simpa using hb)).1; omega))
        replace hO4 := Lib.hid hO4
        replace hk4 := Lib.hid hk4
        clear hG4 hkb4
        (repeat (apply Free.cw_pure rfl rfl; (intro w'; go_simp <;> exact rfl); go_frame))
        refine Free.cw_nil ?_
        go_wp2
        go_ret
        exact ⟨_, _, rfl, hO4.out.mono (by omega), ⟨0, by rw [hNl.out]; omega, rfl, hlow.out, hge.out⟩, hk4.out⟩
      | some ad =>
        obtain ⟨g, o, sp⟩ := ad
        by_cases hck : k = c
        · subst hck
          have hTs : Hid (SE w (.slice (some ⟨g, o, sp⟩) 0 0) (L.drop k)) := by show SE _ _ _; rw [hdr]; exact SE.empty w _ _ (by simp) (by simp)
          go_wp2
          (refine wp_region_quiet_lit (by kernel_rfl) (by kernel_rfl) ?_; (repeat (first | go_big_quiet_step (fail) | quiet_step (fail))); with_reducible refine wpQuiet_nil ?_; intro _ hw'; obtain ⟨nq, hw''⟩ := hw'; subst hw'')
          have hkd : Keeps [] wr (wr.drewN (nq + 1)) := (Keeps.refl [] wr).drewN _
          go_wp2
          refine Free.wp_region_chain (fun i => i == 2 || i == 3 || i == 7) (fun i => true) (fun j b => w.heap.size + 1 ≤ b) (by kernel_rfl) (by kernel_rfl) (by kernel_rfl) ?_
          (repeat (first | (apply Free.cw_pure rfl rfl; (intro w'; go_simp <;> exact rfl); go_frame) | (apply Free.cw_steady rfl rfl rfl; (intro w' hS; have q0 := Free.sx_cell hS hb0r (fun j hp hT => by omega); have q1 := Free.sx_cell hS hb1r (fun j hp hT => by omega); go_simp <;> exact rfl); go_frame) | (refine Free.cw_skip rfl ?_; go_frame)))
          refine Free.cw_loud rfl rfl (fun K hK => ?_)
          go_wp2
          refine hK _ _ rfl (Free.KeepsP.alloc _ _ _) ?_
          clear hK K
          refine Free.cw_loud rfl rfl (fun K hK => ?_)
          refine wp_appE tyE 42 Try.underlying42 infoE _ (w.heap.size + 1) (.slice ao k co) _ (L.take k) [(q, l)] _ _ rfl rfl rfl (hO.out.keep (S := []) (hkd.alloc _) (by simp) (hkd.alloc _).kb0) (SE.one _ _ _ _ _ (hxd.out.keeps hkd)) (by simp <;> omega) (by have := hkw.out.size; simp <;> omega) (fun v3 w3 hO3 hG3 hkb3 => ?_)
          refine hK _ _ rfl (Free.KeepsP.of hG3.keepsO (fun b hb => (hO.out.ge b (by simpa using hb)).1)) ?_
          clear hK K
          have hk3 : Keeps [] w w3 := ((hkw.out.trans hkd).alloc _).fresh hG3.keepsO (fun b hb => .inr (by have := (hO.out.ge b (by simpa using hb)).1; omega))
          obtain ⟨a3, c3, rfl⟩ : ∃ a c, v3 = .slice a (k + 1) c := by
            obtain ⟨a, c, rfl⟩ := hO3.se.form
            exact ⟨a, c, by simp [hNl.out] <;> omega⟩
          have hT3 := hTs.out.keeps hk3
          have hsz3a : (wr.drewN (nq + 1)).heap.size + 1 ≤ w3.heap.size := by simpa using hG3.keepsO.size
          have hsz3 : wr.heap.size + 1 ≤ w3.heap.size := hsz3a
          go_frame
          replace hO3 := Lib.hid hO3
          replace hG3 := Lib.hid hG3
          replace hkb3 := Lib.hid hkb3
          replace hk3 := Lib.hid hk3
          (repeat (apply Free.cw_pure rfl rfl; (intro w'; go_simp <;> exact rfl); go_frame))
          refine Free.cw_loud rfl rfl (fun K hK => ?_)
          refine wp_appE tyE 42 Try.underlying42 infoE _ (w.heap.size + 1) (.slice a3 (k + 1) c3) _ (L.take k ++ [(q, l)]) (L.drop k) _ _ rfl rfl rfl hO3.out hT3 (by simp [hNl.out] <;> omega) (by omega) (fun v4 w4 hO4 hG4 hkb4 => ?_)
          refine hK _ _ rfl (Free.KeepsP.of hG4.keepsO (fun b hb => (hO3.out.ge b (by simpa using hb)).1)) ?_
          clear hK K
          have hk4 : Keeps [] w w4 := hk3.out.fresh hG4.keepsO (fun b hb => .inr (by have := (hO3.out.ge b (by simpa using hb)).1; omega))
          replace hO4 := Lib.hid hO4
          replace hk4 := Lib.hid hk4
          clear hG4 hkb4
          (repeat (apply Free.cw_pure rfl rfl; (intro w'; go_simp <;> exact rfl); go_frame))
          refine Free.cw_nil ?_
          go_wp2
          go_ret
          exact ⟨_, _, rfl, hO4.out.mono (by omega), ⟨k, by rw [hNl.out]; omega, rfl, hlow.out, hge.out⟩, hk4.out⟩
        · have hck2 : ¬ c = k := fun e => hck e.symm
          have hTs : Hid (SE w (.slice (some ((⟨g, o, sp⟩ : Addr).add (k * 2))) 0 (c - k)) (L.drop k)) := by show SE _ _ _; rw [hdr]; exact SE.empty w _ _ (by omega) (by simp)
          go_wp2
          (refine wp_region_quiet_lit (by kernel_rfl) (by kernel_rfl) ?_; (repeat (first | go_big_quiet_step (fail) | quiet_step (fail))); with_reducible refine wpQuiet_nil ?_; intro _ hw'; obtain ⟨nq, hw''⟩ := hw'; subst hw'')
          have hkd : Keeps [] wr (wr.drewN (nq + 1)) := (Keeps.refl [] wr).drewN _
          go_wp2
          refine Free.wp_region_chain (fun i => i == 2 || i == 3 || i == 7) (fun i => true) (fun j b => w.heap.size + 1 ≤ b) (by kernel_rfl) (by kernel_rfl) (by kernel_rfl) ?_
          (repeat (first | (apply Free.cw_pure rfl rfl; (intro w'; go_simp <;> exact rfl); go_frame) | (apply Free.cw_steady rfl rfl rfl; (intro w' hS; have q0 := Free.sx_cell hS hb0r (fun j hp hT => by omega); have q1 := Free.sx_cell hS hb1r (fun j hp hT => by omega); go_simp <;> exact rfl); go_frame) | (refine Free.cw_skip rfl ?_; go_frame)))
          refine Free.cw_loud rfl rfl (fun K hK => ?_)
          go_wp2
          refine hK _ _ rfl (Free.KeepsP.alloc _ _ _) ?_
          clear hK K
          refine Free.cw_loud rfl rfl (fun K hK => ?_)
          refine wp_appE tyE 42 Try.underlying42 infoE _ (w.heap.size + 1) (.slice ao k co) _ (L.take k) [(q, l)] _ _ rfl rfl rfl (hO.out.keep (S := []) (hkd.alloc _) (by simp) (hkd.alloc _).kb0) (SE.one _ _ _ _ _ (hxd.out.keeps hkd)) (by simp <;> omega) (by have := hkw.out.size; simp <;> omega) (fun v3 w3 hO3 hG3 hkb3 => ?_)
          refine hK _ _ rfl (Free.KeepsP.of hG3.keepsO (fun b hb => (hO.out.ge b (by simpa using hb)).1)) ?_
          clear hK K
          have hk3 : Keeps [] w w3 := ((hkw.out.trans hkd).alloc _).fresh hG3.keepsO (fun b hb => .inr (by have := (hO.out.ge b (by simpa using hb)).1; omega))
          obtain ⟨a3, c3, rfl⟩ : ∃ a c, v3 = .slice a (k + 1) c := by
            obtain ⟨a, c, rfl⟩ := hO3.se.form
            exact ⟨a, c, by simp [hNl.out] <;> omega⟩
          have hT3 := hTs.out.keeps hk3
          have hsz3a : (wr.drewN (nq + 1)).heap.size + 1 ≤ w3.heap.size := by simpa using hG3.keepsO.size
          have hsz3 : wr.heap.size + 1 ≤ w3.heap.size := hsz3a
          go_frame
          replace hO3 := Lib.hid hO3
          replace hG3 := Lib.hid hG3
          replace hkb3 := Lib.hid hkb3
          replace hk3 := Lib.hid hk3
          (repeat (apply Free.cw_pure rfl rfl; (intro w'; go_simp <;> exact rfl); go_frame))
          refine Free.cw_loud rfl rfl (fun K hK => ?_)
          refine wp_appE tyE 42 Try.underlying42 infoE _ (w.heap.size + 1) (.slice a3 (k + 1) c3) _ (L.take k ++ [(q, l)]) (L.drop k) _ _ rfl rfl rfl hO3.out hT3 (by simp [hNl.out] <;> omega) (by omega) (fun v4 w4 hO4 hG4 hkb4 => ?_)
          refine hK _ _ rfl (Free.KeepsP.of hG4.keepsO (fun b hb => (hO3.out.ge b (by simpa using hb)).1)) ?_
          clear hK K
          have hk4 : Keeps [] w w4 := hk3.out.fresh hG4.keepsO (fun b hb => .inr (by have := (hO3.out.ge b (by simpa using hb)).1; omega))
          replace hO4 := Lib.hid hO4
          replace hk4 := Lib.hid hk4
          clear hG4 hkb4
          (repeat (apply Free.cw_pure rfl rfl; (intro w'; go_simp <;> exact rfl); go_frame))
          refine Free.cw_nil ?_
          go_wp2
          go_ret
          exact ⟨_, _, rfl, hO4.out.mono (by omega), ⟨k, by rw [hNl.out]; omega, rfl, hlow.out, hge.out⟩, hk4.out⟩
end Go.Proofs.Ytilmcdieihmiaaa

namespace Go.Proofs.Ytilmcdieihmiaaa
open Go.RowKit

structure REnd where
  sent : Nat
  acked : Nat
  kept : List Bytes
  received : Nat
  early : List NB
abbrev tyEnd : Nat := 44
/-- The lists of an end are where its value says. -/
structure RE (w : World) (vk ve : Value) (E : REnd) : Prop where
  kept : SLs w vk E.kept
  early : SE w ve E.early
theorem RE.keeps {w w' : World} {vk ve : Value} {E : REnd} (h : RE w vk ve E) (hk : Keeps [] w w') : RE w' vk ve E := ⟨h.kept.keeps hk, h.early.keeps hk⟩
theorem infoEnd : (Try.prog.info? tyEnd).map (·.size) = some 5 := by kernel_rfl
theorem undEnd : ∃ fs, Try.prog.underlying tyEnd = some (.struct fs) := ⟨_, Try.underlying44⟩
theorem load_end (w : World) (g : Nat) (t : TypeId) (x0 x1 x2 x3 x4 : Value) (f : Nat × Nat) (hg : w.heap[g]? = some (.cells #[x0, x1, x2, x3, x4] t f)) : (loadVar tyEnd ⟨g, 0, none⟩).run Try.prog w = .ok (.agg #[x0, x1, x2, x3, x4]) w := by
  obtain ⟨fs, hu⟩ := undEnd
  exact run_loadVar_row w g t tyEnd #[x0, x1, x2, x3, x4] f (.struct fs) hg hu rfl infoEnd
theorem results_end2 {fn : Func} {p u : Tmp} (h : fn.results = #[.cell p tyEnd, .tmp u]) (tmps : Array Value) (w : World) (g : Nat) (t : TypeId) (x0 x1 x2 x3 x4 : Value) (f : Nat × Nat) (hp : tmps.getD p undef = .pointer (some ⟨g, 0, none⟩))
    (hg : w.heap[g]? = some (.cells #[x0, x1, x2, x3, x4] t f)) : (results fn tmps).run Try.prog w = .ok (.tuple #[.agg #[x0, x1, x2, x3, x4], tmps.getD u undef]) w := by
  have hp' : tmps[p]?.getD undef = .pointer (some ⟨g, 0, none⟩) := by simpa using hp
  simp [results, h, hp', asAddr, load_end w g t x0 x1 x2 x3 x4 f hg]
theorem results_end3 {fn : Func} {p u v : Tmp} (h : fn.results = #[.cell p tyEnd, .tmp u, .tmp v]) (tmps : Array Value) (w : World) (g : Nat) (t : TypeId) (x0 x1 x2 x3 x4 : Value) (f : Nat × Nat) (hp : tmps.getD p undef = .pointer (some ⟨g, 0, none⟩))
    (hg : w.heap[g]? = some (.cells #[x0, x1, x2, x3, x4] t f)) : (results fn tmps).run Try.prog w = .ok (.tuple #[.agg #[x0, x1, x2, x3, x4], tmps.getD u undef, tmps.getD v undef]) w := by
  have hp' : tmps[p]?.getD undef = .pointer (some ⟨g, 0, none⟩) := by simpa using hp
  simp [results, h, hp', asAddr, load_end w g t x0 x1 x2 x3 x4 f hg]
theorem results_mid3 {fn : Func} {p u v : Tmp} (h : fn.results = #[.tmp u, .cell p tyEnd, .tmp v]) (tmps : Array Value) (w : World) (g : Nat) (t : TypeId) (x0 x1 x2 x3 x4 : Value) (f : Nat × Nat) (hp : tmps.getD p undef = .pointer (some ⟨g, 0, none⟩))
    (hg : w.heap[g]? = some (.cells #[x0, x1, x2, x3, x4] t f)) : (results fn tmps).run Try.prog w = .ok (.tuple #[tmps.getD u undef, .agg #[x0, x1, x2, x3, x4], tmps.getD v undef]) w := by
  have hp' : tmps[p]?.getD undef = .pointer (some ⟨g, 0, none⟩) := by simpa using hp
  simp [results, h, hp', asAddr, load_end w g t x0 x1 x2 x3 x4 f hg]

end Go.Proofs.Ytilmcdieihmiaaa

namespace Go.Proofs.Ytilmcdieihmiaaa
open Go.RowKit

/-- The datagrams of payloads from a number on. -/
def dgF (a : Nat) (P : List Bytes) : List Bytes := P.mapIdx fun j l => dataB (a + 1 + j) l
theorem dgF_len (a : Nat) (P : List Bytes) : (dgF a P).length = P.length := by simp [dgF]
theorem dgF_step (a : Nat) (P : List Bytes) (k : Nat) (h : k < P.length) : (dgF a P).take k ++ [dataB (a + 1 + k) P[k]] = (dgF a P).take (k + 1) := by
  rw [List.take_succ_eq_append_getElem (by rw [dgF_len]; exact h)]
  simp [dgF]
theorem KL.elems {w : World} {B : Nat} {v : Value} {ls : List Bytes} (h : KL w B v ls) : ∃ a c, v = .slice a ls.length c ∧ ∀ k (hk : k < ls.length), ∃ g o ad cp, a = some ⟨g, o, none⟩ ∧ w.cell? ⟨g, o + k, none⟩ = some (.slice ad ls[k].length cp) ∧ SlB w (.slice ad ls[k].length cp) ls[k] := by
  rcases h.sls.cases with ⟨rfl, a, c, rfl⟩ | ⟨g, o, c, rfl, _, _, _, hc⟩
  · exact ⟨a, c, rfl, fun k hk => by simp at hk⟩
  · refine ⟨_, c, rfl, fun k hk => ?_⟩
    obtain ⟨x, hx, hX⟩ := hc k hk
    obtain ⟨ad, cp, rfl⟩ := hX.form
    exact ⟨g, o, ad, cp, rfl, hx, hX⟩
theorem KL.keepN {w w' : World} {B : Nat} {v : Value} {ls : List Bytes} (h : KL w B v ls) (hk : Keeps [] w w') : KL w' B v ls := h.keep hk (by simp) hk.kb0

set_option maxRecDepth 100000 in
set_option maxHeartbeats 2000000 in
theorem datagrams_c (w : World) (B bc bm n : Nat) (vk : Value) (C : Chan) (h : Ch w B bc bm n vk C) (hs : C.acked + C.kept.length < 1099511627777) (hl : ∀ l ∈ C.kept, l.length ≤ 140737488355000) :
    Calls Try.prog 27 #[.pointer (some ⟨bc, 0, none⟩)] w fun e w' => ∃ v', e = .returned v' ∧ KL w' w.heap.size v' (dgF C.acked C.kept) ∧ Keeps [] w w' := by
  obtain ⟨c0, c1, c2, c3, c4, cf, hlt⟩ := h.cells
  obtain ⟨ak, ck, rfl, hel⟩ := h.kept.elems
  clear h c0 c2 c4 cf
  generalize C.acked = A at *
  generalize C.kept = P at *
  obtain ⟨K, hK⟩ : ∃ K, P.length = K := ⟨_, rfl⟩
  rw [hK] at c3 hs
  replace hel := Lib.hid hel
  replace hK := Lib.hid hK
  replace hl := Lib.hid hl
  go_enter Try.func27, Try.ntmps27
  go_wp2
  go_loopw [3, 11] (fun out i wr => ∃ (k : Nat) (ao : Option Addr) (co : Nat), i = .int .i64 k ∧ k ≤ K ∧ out = .slice ao k co ∧ KL wr w.heap.size (.slice ao k co) ((dgF A P).take k) ∧ Keeps [] w wr) (fun _ i _ => K - (intOf i).toNat)
  case atStart => exact ⟨0, _, _, rfl, by omega, rfl, by simpa using KL.nil w _, Keeps.refl _ _⟩
  case round =>
    obtain ⟨k, ao, co, rfl, hk, rfl, hL, hkw⟩ := hrel
    by_cases hlt2 : k < K
    · obtain ⟨g, o, ad, cp, rfl, hx, hX⟩ := hel.out k (by rw [hK.out]; exact hlt2)
      have hxr := hkw.val hx
      replace hX := hX.keeps hkw
      have hc1 := hkw.val c1
      have hll := hl.out _ (List.getElem_mem (l := P) (n := k) (by rw [hK.out]; exact hlt2))
      generalize hPk : (P[k]'(by rw [hK.out]; exact hlt2)) = Pk at *
      obtain ⟨LL, hLL⟩ : ∃ LL, Pk.length = LL := ⟨_, rfl⟩
      rw [hLL] at hxr hX
      replace hX := Lib.hid hX
      replace hL := Lib.hid hL
      replace hLL := Lib.hid hLL
      replace hPk := Lib.hid hPk
      replace hkw := Lib.hid hkw
      have hsz := hkw.out.size
      go_wp2_with fail
      refine (data_c _ _ Pk (A + 1 + k) hX.out (by omega) (by omega)).mono ?_
      rintro e w3 ⟨v3, rfl, hB3, hk3⟩
      have hL3 := hL.out.keepN hk3
      have hsz3 := hk3.size
      have hS3 := hB3.slB
      obtain ⟨a3, c3', rfl⟩ := hB3.form
      clear hB3
      generalize hDL : dataB (A + 1 + k) Pk = DD at *
      obtain ⟨DL, hDLl⟩ : ∃ DL, DD.length = DL := ⟨_, rfl⟩
      rw [hDLl] at hS3 ⊢
      replace hDL := Lib.hid hDL
      replace hDLl := Lib.hid hDLl
      replace hk3 := Lib.hid hk3
      go_wp2_with (at_builtin; (refine wpl_pushL _ w.heap.size _ _ ((dgF A P).take k) DD rfl _ _ rfl rfl rfl hL3 hS3 (by simp; omega) (by omega) ?_; intro v4 w4 hL4 hG4 hkb4))
      rw [← hDL.out, ← hPk.out, dgF_step A P k (by rw [hK.out]; exact hlt2)] at hL4
      have hown : ∀ b, (Value.slice ao k co).ownBlock = some b → w.heap.size ≤ b := fun b hb => (ge_own hL3 b hb).1
      have hk5 : Keeps (Value.slice ao k co).ownBlock.toList w3 w4 := hG4.alloc_left.keepsO
      have hk4 : Keeps [] w w4 := (hkw.out.trans hk3.out).fresh hk5 (fun x hx => .inr (hown x (by simpa using hx)))
      obtain ⟨a4, c4, rfl⟩ : ∃ a c, v4 = .slice a (k + 1) c := by
        obtain ⟨a, c, rfl⟩ := hL4.form
        exact ⟨a, c, by rw [List.length_take, dgF_len, hK.out, Nat.min_eq_left (by omega)]⟩
      replace hL4 := Lib.hid hL4
      replace hk4 := Lib.hid hk4
      clear hG4 hkb4 hL3 hS3 hk5
      go_wp2
      go_roundw
      case rel => exact ⟨k + 1, a4, c4, rfl, by omega, rfl, hL4.out, hk4.out⟩
      case measure => simp [intOf]; omega
    · have hkk : k = K := by omega
      subst hkk
      rw [List.take_of_length_le (by rw [dgF_len, hK.out]; omega)] at hL
      replace hL := Lib.hid hL
      replace hkw := Lib.hid hkw
      go_wp2
      go_ret
      exact ⟨_, rfl, hL.out, hkw.out⟩

set_option maxRecDepth 100000 in
set_option maxHeartbeats 2000000 in
theorem unacked_c (w : World) (B bc bm n : Nat) (vk : Value) (C : Chan) (h : Ch w B bc bm n vk C) (hs : C.kept.length < 1099511627777) (hl : ∀ l ∈ C.kept, l.length ≤ 140737488355000) :
    Calls Try.prog 24 #[.pointer (some ⟨bc, 0, none⟩)] w fun e w' => ∃ v', e = .returned v' ∧ KL w' w.heap.size v' C.kept ∧ Keeps [] w w' := by
  obtain ⟨c0, c1, c2, c3, c4, cf, hlt⟩ := h.cells
  obtain ⟨ak, ck, rfl, hel⟩ := h.kept.elems
  clear h c0 c1 c2 c4 cf
  generalize C.kept = P at *
  obtain ⟨K, hK⟩ : ∃ K, P.length = K := ⟨_, rfl⟩
  rw [hK] at c3 hs
  replace hel := Lib.hid hel
  replace hK := Lib.hid hK
  replace hl := Lib.hid hl
  go_enter Try.func24, Try.ntmps24
  go_wp2
  go_loopw [3, 11] (fun out i wr => ∃ (k : Nat) (ao : Option Addr) (co : Nat), i = .int .i64 k ∧ k ≤ K ∧ out = .slice ao k co ∧ KL wr w.heap.size (.slice ao k co) (P.take k) ∧ Keeps [] w wr) (fun _ i _ => K - (intOf i).toNat)
  case atStart => exact ⟨0, _, _, rfl, by omega, rfl, by simpa using KL.nil w _, Keeps.refl _ _⟩
  case round =>
    obtain ⟨k, ao, co, rfl, hk, rfl, hL, hkw⟩ := hrel
    by_cases hlt2 : k < K
    · obtain ⟨g, o, ad, cp, rfl, hx, hX⟩ := hel.out k (by rw [hK.out]; exact hlt2)
      have hxr := hkw.val hx
      replace hX := hX.keeps hkw
      have hll := hl.out _ (List.getElem_mem (l := P) (n := k) (by rw [hK.out]; exact hlt2))
      generalize hPk : (P[k]'(by rw [hK.out]; exact hlt2)) = Pk at *
      obtain ⟨LL, hLL⟩ : ∃ LL, Pk.length = LL := ⟨_, rfl⟩
      rw [hLL] at hxr hX
      replace hX := Lib.hid hX
      replace hL := Lib.hid hL
      replace hLL := Lib.hid hLL
      replace hPk := Lib.hid hPk
      replace hkw := Lib.hid hkw
      have hsz := hkw.out.size
      go_wp2_with fail
      refine (clone_c _ (.inl rfl) _ _ Pk hX.out (by omega)).mono ?_
      rintro e w3 ⟨v3, rfl, hB3, hk3⟩
      have hL3 := hL.out.keepN hk3
      have hsz3 := hk3.size
      have hS3 := hB3.slB
      obtain ⟨a3, c3', rfl⟩ := hB3.form
      clear hB3
      rw [hLL.out] at hS3 ⊢
      replace hk3 := Lib.hid hk3
      go_wp2_with (at_builtin; (refine wpl_pushL _ w.heap.size _ _ (P.take k) Pk rfl _ _ rfl rfl rfl hL3 hS3 (by simp; omega) (by omega) ?_; intro v4 w4 hL4 hG4 hkb4))
      rw [← hPk.out, ← List.take_succ_eq_append_getElem (by rw [hK.out]; exact hlt2)] at hL4
      have hown : ∀ b, (Value.slice ao k co).ownBlock = some b → w.heap.size ≤ b := fun b hb => (ge_own hL3 b hb).1
      have hk5 : Keeps (Value.slice ao k co).ownBlock.toList w3 w4 := hG4.alloc_left.keepsO
      have hk4 : Keeps [] w w4 := (hkw.out.trans hk3.out).fresh hk5 (fun x hx => .inr (hown x (by simpa using hx)))
      obtain ⟨a4, c4, rfl⟩ : ∃ a c, v4 = .slice a (k + 1) c := by
        obtain ⟨a, c, rfl⟩ := hL4.form
        exact ⟨a, c, by rw [List.length_take, hK.out, Nat.min_eq_left (by omega)]⟩
      replace hL4 := Lib.hid hL4
      replace hk4 := Lib.hid hk4
      clear hG4 hkb4 hL3 hS3 hk5
      go_wp2
      go_roundw
      case rel => exact ⟨k + 1, a4, c4, rfl, by omega, rfl, hL4.out, hk4.out⟩
      case measure => simp [intOf]; omega
    · have hkk : k = K := by omega
      subst hkk
      rw [List.take_of_length_le (by rw [hK.out]; omega)] at hL
      replace hL := Lib.hid hL
      replace hkw := Lib.hid hkw
      go_wp2
      go_ret
      exact ⟨_, rfl, hL.out, hkw.out⟩
end Go.Proofs.Ytilmcdieihmiaaa

namespace Go.Proofs.Ytilmcdieihmiaaa
open Go.RowKit

theorem KL.fresh2 (w : World) (A B : Obj) : KL (((w.alloc A).alloc B).alloc (.cells #[] 23)) (w.heap.size + 1 + 1) (.slice (some ⟨w.heap.size + 1 + 1, 0, none⟩) 0 0) [] := by
  simpa using KL.fresh ((w.alloc A).alloc B)
theorem heap_box2 (w : World) (A B C : Obj) : (((w.alloc A).alloc B).alloc C).heap[w.heap.size]? = some A :=
  (((((Keeps.refl [] (w.alloc A)).alloc B).alloc C).block w.heap.size (by simp) (by simp))).trans (heap_alloc_new w A)
theorem heap_box3 (w : World) (A B C : Obj) : (((w.alloc A).alloc B).alloc C).heap[w.heap.size + 1]? = some B := by
  have h1 : ((w.alloc A).alloc B).heap[w.heap.size + 1]? = some B := by simpa using heap_alloc_new (w.alloc A) B
  exact (((Keeps.refl [] ((w.alloc A).alloc B)).alloc C).block (w.heap.size + 1) (by simp) (by simp)).trans h1

/-- Behind the first append: the two blocks ahead of it stand. -/
theorem after_three {w w1 : World} {A B C : Obj} {v1 : Value} (hG : Grw (((w.alloc A).alloc B).alloc C) w1 (.slice (some ⟨w.heap.size + 1 + 1, 0, none⟩) 0 0) v1) :
    w.heap.size + 3 ≤ w1.heap.size ∧ Keeps [] w w1 ∧ w1.heap[w.heap.size]? = some A ∧ w1.heap[w.heap.size + 1]? = some B := by
  have hk := hG.keepsO
  refine ⟨by simpa using hk.size, ((((Keeps.refl [] w).alloc A).alloc B).alloc C).fresh hk (by simp [Value.ownBlock]; omega), ?_, ?_⟩
  · exact (hk.block w.heap.size (by simp; omega) (by simp [Value.ownBlock]; omega)).trans (heap_box2 w A B C)
  · exact (hk.block (w.heap.size + 1) (by simp) (by simp [Value.ownBlock])).trans (heap_box3 w A B C)
theorem cells5 {w : World} {b : Nat} {x0 x1 x2 x3 x4 : Value} {t : TypeId} (h : w.heap[b]? = some (.cells #[x0, x1, x2, x3, x4] t (0, 0))) :
    w.cell? ⟨b, 0, none⟩ = some x0 ∧ w.cell? ⟨b, 1, none⟩ = some x1 ∧ w.cell? ⟨b, 2, none⟩ = some x2 ∧ w.cell? ⟨b, 3, none⟩ = some x3 ∧ w.cell? ⟨b, 4, none⟩ = some x4 ∧ (∀ o, w.frozen? ⟨b, o, none⟩ = false) ∧ b < w.heap.size := by
  refine ⟨by simp [World.cell?, h], by simp [World.cell?, h], by simp [World.cell?, h], by simp [World.cell?, h], by simp [World.cell?, h], fun o => by simp [World.frozen?, h], (Array.getElem?_eq_some_iff.1 h).1⟩
theorem set5_4 {w : World} {b : Nat} {x0 x1 x2 x3 x4 : Value} {t : TypeId} (h : w.heap[b]? = some (.cells #[x0, x1, x2, x3, x4] t (0, 0))) (u : Value) : (w.setCell ⟨b, 4, none⟩ u).heap[b]? = some (.cells #[x0, x1, x2, x3, u] t (0, 0)) := by
  simp [World.setCell, Array.getElem?_modify, h]
/-- A whole end is stored. -/
theorem set5_all {w : World} {b : Nat} {x0 x1 x2 x3 x4 : Value} {t : TypeId} (h : w.heap[b]? = some (.cells #[x0, x1, x2, x3, x4] t (0, 0))) (hb : ∀ u ∈ [x0, x1, x2, x3, x4], noB u) (y0 y1 y2 y3 y4 : Value) :
    (((((w.setCell ⟨b, 0, none⟩ y0).setCell ⟨b, 1, none⟩ y1).setCell ⟨b, 2, none⟩ y2).setCell ⟨b, 3, none⟩ y3).setCell ⟨b, 4, none⟩ y4).heap[b]? = some (.cells #[y0, y1, y2, y3, y4] t (0, 0)) ∧
    Keeps [b] w (((((w.setCell ⟨b, 0, none⟩ y0).setCell ⟨b, 1, none⟩ y1).setCell ⟨b, 2, none⟩ y2).setCell ⟨b, 3, none⟩ y3).setCell ⟨b, 4, none⟩ y4) ∧
    KB w (((((w.setCell ⟨b, 0, none⟩ y0).setCell ⟨b, 1, none⟩ y1).setCell ⟨b, 2, none⟩ y2).setCell ⟨b, 3, none⟩ y3).setCell ⟨b, 4, none⟩ y4) := by
  have hk := (((((Keeps.refl [b] w).setCell (p := ⟨b, 0, none⟩) (.inr (by simp)) y0).setCell (p := ⟨b, 1, none⟩) (.inr (by simp)) y1).setCell (p := ⟨b, 2, none⟩) (.inr (by simp)) y2).setCell (p := ⟨b, 3, none⟩) (.inr (by simp)) y3).setCell (p := ⟨b, 4, none⟩) (.inr (by simp)) y4
  exact ⟨set5_4 (set5_3 (set5_2 (set5_1 (set5_0 h y0) y1) y2) y3) y4, hk, hk.kb (fun x hx => by simp at hx; subst hx; exact no_byte h (fun u hu => hb u (by simpa using hu)))⟩
/-- Behind the third. -/
theorem after_push {w w1 w2 w3 : World} {B : Obj} {x0 x1 x2 x3 x4 v1 v3 u : Value} {ls : List Bytes} (hsz1 : w.heap.size + 3 ≤ w1.heap.size) (hk1 : Keeps [] w w1) (hb1 : w1.heap[w.heap.size]? = some (.cells #[x0, x1, x2, x3, x4] tyEnd (0, 0))) (hr1 : w1.heap[w.heap.size + 1]? = some B)
    (hL1 : KL w1 (w.heap.size + 1 + 1) v1 ls) (hk12 : Keeps [] w1 w2) (hG : Grw (w2.alloc (.cells #[u] 23)) w3 v1 v3) :
    Keeps [] w w3 ∧ w3.heap[w.heap.size]? = some (.cells #[x0, x1, x2, x3, x4] tyEnd (0, 0)) ∧ w3.heap[w.heap.size + 1]? = some B := by
  have hk := hG.alloc_left.keepsO
  have hge := ge_own (hL1.keepN hk12)
  have hs := hk12.size
  refine ⟨(hk1.trans hk12).fresh hk (fun b hb => .inr (by have := (hge b (by simpa using hb)).1; omega)), ?_, ?_⟩
  · exact (hk.block _ (by omega) (fun hm => by have := (hge _ (by simpa using hm)).1; omega)).trans ((hk12.block _ (by omega) (by simp)).trans hb1)
  · exact (hk.block _ (by omega) (fun hm => by have := (hge _ (by simpa using hm)).1; omega)).trans ((hk12.block _ (by omega) (by simp)).trans hr1)
set_option maxRecDepth 100000 in
set_option maxHeartbeats 4000000 in
theorem sendR_c (w : World) (s a r : Nat) (vk ve vp : Value) (E : REnd) (l : Bytes) (h : RE w vk ve E) (hp : SlB w vp l) (hl : l.length ≤ 140737488355000) (hs : s < 1099511627776) (hk : E.kept.length < 1099511627776) :
    Calls Try.prog 45 #[.agg #[.int .i64 s, .int .i64 a, vk, .int .i64 r, ve], vp] w fun e w' => ∃ vk' vd, e = .returned (.tuple #[.agg #[.int .i64 ((s : Int) + 1), .int .i64 a, vk', .int .i64 r, ve], vd]) ∧
      KL w' w.heap.size vk' (E.kept ++ [l]) ∧ SlB w' vd (dataB (s + 1) l) ∧ Keeps [] w w' := by
  obtain ⟨ak, ck, rfl, _⟩ := h.kept.form
  obtain ⟨ae, ce, rfl⟩ := h.early.form
  obtain ⟨ap, cp, rfl⟩ := hp.form
  obtain ⟨K, hK⟩ : ∃ K, E.kept.length = K := ⟨_, rfl⟩
  obtain ⟨NE, hNE⟩ : ∃ NE, E.early.length = NE := ⟨_, rfl⟩
  obtain ⟨LP, hLP⟩ : ∃ LP, l.length = LP := ⟨_, rfl⟩
  have hkk := h.kept
  rw [hK] at hkk ⊢ hk
  rw [hNE]
  rw [hLP] at hp hl ⊢
  replace hkk := Lib.hid hkk
  replace hp := Lib.hid hp
  replace hLP := Lib.hid hLP
  replace hK := Lib.hid hK
  clear h hNE
  go_enter Try.func45, Try.ntmps45
  go_wp2_with (first
    | (at_builtin; (refine wpl_appL _ (w.heap.size + 1 + 1) (.slice (some ⟨w.heap.size + 1 + 1, 0, none⟩) 0 0) _ [] E.kept rfl _ _ rfl rfl rfl (KL.fresh2 w _ _) (hkk.out.keeps (by exact (((Keeps.refl [] w).alloc _).alloc _).alloc _)) (by have := hK.out; simp; omega) (by simp) ?_; intro v1 w1 hL1 hG1 hkb1); (obtain ⟨hsz1, hk1, hb1, hr1⟩ := after_three hG1); (rw [List.nil_append] at hL1); (obtain ⟨a1, c1, rfl⟩ := hL1.form); clear hG1 hkb1)
    | (at_builtin; (refine wpl_appB _ w1.heap.size (.slice (some ⟨w1.heap.size, 0, none⟩) 0 0) [] rfl _ _ rfl rfl _ l rfl (Buf.fresh w1) (hp.out.keeps (hk1.alloc _)) (by have := hLP.out; simp; omega) (by simp) ?_; intro v2 w2 hB2 hG2); (have hk12 : Keeps [] w1 w2 := hG2.keeps ((Keeps.refl [] w1).alloc _) (by simp [Value.ownBlock])); (rw [List.nil_append] at hB2); (obtain ⟨a2, c2, rfl⟩ := hB2.form); clear hG2)
    | (at_builtin; (refine wpl_pushL _ (w.heap.size + 1 + 1) _ _ E.kept l rfl _ _ rfl rfl rfl (hL1.keepN hk12) hB2.slB (by have := hK.out; omega) (by have := hk12.size; omega) ?_; intro v3 w3 hL3 hG3 hkb3); (obtain ⟨hk03, hb3, hr3⟩ := after_push hsz1 hk1 hb1 hr1 hL1 hk12 hG3); (obtain ⟨a3, c3, rfl⟩ : ∃ a c, v3 = .slice a (E.kept.length + 1) c := by simpa using hL3.form); (obtain ⟨p0, p1, p2, p3, p4, pf, plt⟩ := cells5 hb3); (have hd3 := Lib.hid ((hB2.slB.kb hkb3))); clear hG3 hkb3 hL1 hk12 hB2 hk1 hb1 hr1 p0 p1 p3 p4))
  have hb4 := set5_2 hb3 (.slice a3 (E.kept.length + 1) c3)
  have hr4 := (Below.heap_setCell w3 ⟨w.heap.size, 2, none⟩ (.slice a3 (E.kept.length + 1) c3) (w.heap.size + 1) (by simp)).trans hr3
  have hk4 : Keeps [] w (w3.setCell ⟨w.heap.size, 2, none⟩ (.slice a3 (E.kept.length + 1) c3)) := hk03.setCell (.inl (Nat.le_refl _)) _
  have hkb4 : KB w3 (w3.setCell ⟨w.heap.size, 2, none⟩ (.slice a3 (E.kept.length + 1) c3)) := KB.setCell w3 _ p2 (by simp)
  have hL4 := hL3.keep (w' := w3.setCell ⟨w.heap.size, 2, none⟩ (.slice a3 (E.kept.length + 1) c3)) (S := [w.heap.size]) ((Keeps.refl _ _).setCell (.inr (by simp)) _) (by intro b hb e; have := (ge_own hL3 b e).1; simp at hb; omega) hkb4
  generalize (w3.setCell ⟨w.heap.size, 2, none⟩ (.slice a3 (E.kept.length + 1) c3)) = W at *
  obtain ⟨p0, p1, p2', p3, p4, _, plt⟩ := cells5 hb4
  obtain ⟨r0, r1, r2, r3, r4, rf, rlt⟩ := cells5 hr4
  clear hL3 hkb4 hk03 hb3 hr3 pf p2
  replace hb4 := Lib.hid hb4
  replace hr4 := Lib.hid hr4
  replace hL4 := Lib.hid hL4
  replace hk4 := Lib.hid hk4
  refine Free.wp_region_chain (fun i => i == 4 || i == 5) (fun i => true) (fun j b => j = 5 ∧ b = w.heap.size + 1) (by kernel_rfl) (by kernel_rfl) (by kernel_rfl) ?_
  (repeat (first | (apply Free.cw_pure rfl rfl; (intro w'; go_simp <;> exact rfl); go_frame) | (apply Free.cw_steady rfl rfl rfl; (intro w' hS; have q0 := Free.sx_cell hS p0 (fun j _ e => by have := e.2; omega); have q1 := Free.sx_cell hS p1 (fun j _ e => by have := e.2; omega); have q2 := Free.sx_cell hS p2' (fun j _ e => by have := e.2; omega); have q3 := Free.sx_cell hS p3 (fun j _ e => by have := e.2; omega); have q4 := Free.sx_cell hS p4 (fun j _ e => by have := e.2; omega); go_simp <;> exact rfl); go_frame) | (refine Free.cw_skip rfl ?_; go_frame)))
  refine Free.cw_loud rfl rfl (fun K hK => ?_)
  go_wp2_with fail
  refine (dataR_c _ _ l (s + 1) ((hp.out.keeps hk4.out).kb (KB.drew _)) (by omega) (by rw [hLP.out]; exact hl)).mono ?_
  rintro e w5 ⟨v5, rfl, hB5, hk5⟩
  have hS5 := hB5.slB
  obtain ⟨a5, c5, rfl⟩ := hS5.form
  generalize hDD : dataB (s + 1) l = DD at hS5
  replace hDD := Lib.hid hDD
  generalize hDL : DD.length = DL at *
  refine hK _ _ rfl (Free.KeepsP.of hk5 (by simp)) ?_
  clear hK K
  have hr5 := (hk5.block _ rlt (by simp)).trans hr4.out
  obtain ⟨r0, r1, r2, r3, r4, rf, rlt⟩ := cells5 hr5
  have hkW5 : Keeps [] W w5 := (Keeps.refl [] W).drew.trans hk5
  have hfin := set5_all hr5 (by simp [noB]) (.int .i64 ((s : Int) + 1)) (.int .i64 a) (.slice a3 (E.kept.length + 1) c3) (.int .i64 r) (.slice ae NE ce)
  replace hfin := Lib.hid hfin
  replace hr5 := Lib.hid hr5
  refine Free.cw_loud rfl rfl (fun K hK => ?_)
  go_wp2
  refine hK _ _ rfl (Free.KeepsP.of hfin.out.2.1 (fun b hb => ⟨trivial, by simpa using hb⟩)) ?_
  clear hK K
  (repeat (apply Free.cw_pure rfl rfl; (intro w'; go_simp <;> exact rfl); go_frame))
  refine Free.cw_nil ?_
  go_wp2
  obtain ⟨g1, g2, g3⟩ := hfin.out
  have hsz := hk4.out.size
  refine bodyPost_ret (results_end2 rfl _ _ _ _ _ _ _ _ _ _ rfl g1) rfl ?_
  refine ⟨_, _, rfl, ?_, ?_, ?_⟩
  · exact ((hL4.out.keepN hkW5).keep g2 (by intro b hb e; have := (ge_own hL4.out b e).1; simp at hb; omega) g3).mono (by omega)
  · rw [hDD.out]; exact hS5.kb g3
  · exact (hk4.out.trans hkW5).fresh g2 (by simp)
end Go.Proofs.Ytilmcdieihmiaaa
