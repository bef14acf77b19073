/- A channel takes a payload. -/
import Derived.Test.YtilmcdieihmiaaaNext
namespace Go.Proofs.Ytilmcdieihmiaaa
open Go.RowKit

/-- Payloads are taken one after the other. -/
inductive Dr (C : Chan) : Chan → List Bytes → Prop
  | refl : Dr C C []
  | step {C1 : Chan} {outs : List Bytes} {l : Bytes} (h : Dr C C1 outs) (he : C1.early ((C1.received : Int) + 1) = some l) : Dr C C1.take (outs ++ [l])
/-- What has come too early lies within reach. -/
def Chan.near (C : Chan) (M : Nat) : Prop := ∀ s, C.early s ≠ none → (C.received : Int) < s ∧ s ≤ M
theorem Chan.near.take {C : Chan} {M : Nat} (h : C.near M) : C.take.near M := fun s hs => by
  simp only [Chan.take] at hs ⊢
  split at hs
  · simp at hs
  · have := h s hs; simp; omega
theorem Dr.near {C C1 : Chan} {outs : List Bytes} {M : Nat} (h : Dr C C1 outs) (hn : C.near M) : C1.near M := by
  induction h with
  | refl => exact hn
  | step _ _ ih => exact ih.take
theorem Dr.len {C C1 : Chan} {outs : List Bytes} (h : Dr C C1 outs) : C1.received = C.received + outs.length := by
  induction h with
  | refl => rfl
  | step _ _ ih => simp [Chan.take, ih]; omega
/-- The end with a payload more that has come. -/
def Chan.put (C : Chan) (n : Nat) (l : Bytes) : Chan := { C with early := fun k => if k = n then some l else C.early k }

def mAcc (M bc : Nat) (ok : Value) (w : World) : Nat := 2 * (M - (intOf ((w.cell? ⟨bc, 2, none⟩).getD undef)).toNat) + (match ok with | .bool true => 1 | _ => 0)

set_option maxRecDepth 100000 in
set_option maxHeartbeats 2000000 in
theorem accept_far (w : World) (B bc bm n : Nat) (vk v0 : Value) (C : Chan) (q : Nat) (h : Ch w B bc bm n vk C) (hs0 : ∃ a m c, v0 = .slice a m c) (hr : C.received < 1099511627776) (hq : q < 18446744073709551616) (hf : C.received + 1024 < q) :
    Calls Try.prog 43 #[.pointer (some ⟨bc, 0, none⟩), .int .u64 q, v0] w fun e w' => e = .returned (.tuple #[.slice none 0 0, .int .i64 2]) ∧ Keeps [] w w' := by
  obtain ⟨c0, c1, c2, c3, c4, cf, hlt⟩ := h.cells
  obtain ⟨a0, m0, cp0, rfl⟩ := hs0
  clear h c0 c1 c3 c4 cf
  go_enter Try.func43, Try.ntmps43
  go_wp2
  go_ret2
  exact ⟨rfl, (Keeps.refl _ _).alloc _⟩

set_option maxRecDepth 100000 in
set_option maxHeartbeats 2000000 in
theorem accept_twice (w : World) (B bc bm n : Nat) (vk v0 : Value) (C : Chan) (q : Nat) (h : Ch w B bc bm n vk C) (hs0 : ∃ a m c, v0 = .slice a m c) (hr : C.received < 1099511627776) (hf : q ≤ C.received + 1024) (ht : (∃ l, C.early q = some l) ∨ q ≤ C.received) :
    Calls Try.prog 43 #[.pointer (some ⟨bc, 0, none⟩), .int .u64 q, v0] w fun e w' => e = .returned (.tuple #[.slice none 0 0, .int .i64 0]) ∧ Keeps [] w w' := by
  obtain ⟨c0, c1, c2, c3, c4, cf, hlt⟩ := h.cells
  obtain ⟨a0, m0, cp0, rfl⟩ := hs0
  have hk := (Keeps.refl [] w).alloc (.cells #[.pointer (some ⟨bc, 0, none⟩)] 25)
  have hlk := (h.early.keep hk (by simp) hk.kb0).look (q : Int) (WalkArith.wf_i64 (by omega))
  clear hk
  cases he : C.early q with
  | some l =>
    obtain ⟨v, hlk1, hv⟩ := hlk.2 l he
    have hlk2 := hlk1 0
    rw [show ∀ W : World, W.drewN 0 = W from fun _ => rfl] at hlk2
    obtain ⟨av, cv, rfl⟩ := hv.form
    clear h c0 c1 c3 cf hlk hlk1 hv he ht
    go_enter Try.func43, Try.ntmps43
    go_wp2
    go_ret2
    exact ⟨rfl, (Keeps.refl _ _).alloc _⟩
  | none =>
    have hlk2 := hlk.1 he 0
    rw [show ∀ W : World, W.drewN 0 = W from fun _ => rfl] at hlk2
    have hq : q ≤ C.received := by
      rcases ht with ⟨l, hl⟩ | hq
      · rw [he] at hl; cases hl
      · exact hq
    clear h c0 c1 c3 cf hlk he ht
    go_enter Try.func43, Try.ntmps43
    go_wp2
    go_ret2
    exact ⟨rfl, (Keeps.refl _ _).alloc _⟩

/-- What holds at the head of the loop. -/
structure AccR (w wr : World) (B bc bm n : Nat) (vk : Value) (C0 C1 : Chan) (outs : List Bytes) (out b : Value) (ok : Bool) : Prop where
  kl : KL wr (w.heap.size + 1) out outs
  dr : Dr C0 C1 outs
  nx : NX wr B bc bm (n + 1) vk C1 b ok
  keeps : Keeps [bc, bm] w wr
  kb : KB w wr
  box : wr.cell? ⟨w.heap.size, 0, none⟩ = some (.pointer (some ⟨bc, 0, none⟩))
theorem KL.mono {w : World} {B B' : Nat} {v : Value} {ls : List Bytes} (h : KL w B v ls) (hB : B' ≤ B) : KL w B' v ls := by
  obtain ⟨cs, hown, rest⟩ := h
  refine ⟨cs, ⟨hown.1, ?_⟩, rest⟩
  rcases hown.2 with hn | ⟨g, cap, cur, rfl, hg, r⟩
  · exact .inl hn
  · exact .inr ⟨g, cap, cur, rfl, by omega, r⟩
theorem KL.ge {w : World} {B : Nat} {v : Value} {ls : List Bytes} (h : KL w B v ls) {b : Nat} (hb : v.ownBlock = some b) : B ≤ b := by
  obtain ⟨cs, hown, _⟩ := h
  exact ownBlock_ge hown b hb
theorem mAcc_lt {w w' : World} {B bc bm n M : Nat} {vk v : Value} {C : Chan} {ok : Bool} (hc : w.cell? ⟨bc, 2, none⟩ = some (.int .i64 C.received)) (h : NX w' B bc bm n vk C v ok) (hn : C.near M) :
    mAcc M bc (.bool ok) w' < mAcc M bc (.bool true) w := by
  unfold mAcc
  rw [hc]
  cases ok with
  | true =>
    obtain ⟨l, he, _, hC⟩ := h
    have h2 := hC.cells.2.2.1
    have h3 := hn _ (by rw [he]; simp)
    rw [h2]
    simp [intOf, Chan.take]; omega
  | false =>
    obtain ⟨_, hC⟩ := h
    have h2 := hC.cells.2.2.1
    rw [h2]
    simp [intOf]
set_option maxRecDepth 100000 in
set_option maxHeartbeats 4000000 in
theorem accept_new (w : World) (B bc bm n : Nat) (vk v0 : Value) (C : Chan) (q : Nat) (l : Bytes) (h : Ch w B bc bm n vk C) (hcb : vk.ownBlock ≠ some bc) (hp : SlB w v0 l) (hl : l.length ≤ 140737488355000) (hr : C.received < 1099511627776 - 2048) (hn : n < 1099511627776)
    (hf : q ≤ C.received + 1024) (hnear : C.near (C.received + 1024)) (he : C.early q = none) (hq : C.received < q) :
    Calls Try.prog 43 #[.pointer (some ⟨bc, 0, none⟩), .int .u64 q, v0] w fun e w' => ∃ v' C' outs, e = .returned (.tuple #[v', .int .i64 0]) ∧ KL w' w.heap.size v' outs ∧ Ch w' B bc bm (n + 1) vk C' ∧
      Dr (C.put q l) C' outs ∧ C'.early ((C'.received : Int) + 1) = none ∧ Keeps [bc, bm] w w' ∧ KB w w' := by
  obtain ⟨c0, c1, c2, c3, c4, cf, hlt⟩ := h.cells
  obtain ⟨a0, cp0, rfl⟩ := hp.form
  have hk0 := (Keeps.refl [] w).alloc (.cells #[.pointer (some ⟨bc, 0, none⟩)] 25)
  have hlk2 := ((h.early.keep hk0 (by simp) hk0.kb0).look (q : Int) (WalkArith.wf_i64 (by omega))).1 he 0
  rw [show ∀ W : World, W.drewN 0 = W from fun _ => rfl] at hlk2
  have hbml := h.early.lt
  have hne := h.ne
  have hCa := h.keeps hk0
  have hpa := hp.keeps hk0
  replace h := Lib.hid h
  replace hp := Lib.hid hp
  replace hk0 := Lib.hid hk0
  replace hCa := Lib.hid hCa
  replace hpa := Lib.hid hpa
  replace he := Lib.hid he
  replace hnear := Lib.hid hnear
  clear c0 c1 c3 cf
  go_enter Try.func43, Try.ntmps43
  go_wp2
  have hbp : (w.alloc (.cells #[.pointer (some ⟨bc, 0, none⟩)] 25)).cell? ⟨w.heap.size, 0, none⟩ = some (.pointer (some ⟨bc, 0, none⟩)) := by simp
  have c4' : (w.alloc (.cells #[.pointer (some ⟨bc, 0, none⟩)] 25)).cell? ⟨bc, 4, none⟩ = some (.map (some bm)) := hk0.out.val c4
  have hszW : (w.alloc (.cells #[.pointer (some ⟨bc, 0, none⟩)] 25)).heap.size = w.heap.size + 1 := by simp
  clear hlk2
  generalize (w.alloc (.cells #[.pointer (some ⟨bc, 0, none⟩)] 25)) = W at *
  have hn1 : ¬ w.heap.size = bm := by omega
  have hn2 : ¬ bc = bm := fun e => hne e.symm
  refine Free.wp_region_chain (fun i => i == 6 || i == 7) (fun i => true) (fun j b => j = 7 ∧ b = bm) (by kernel_rfl) (by kernel_rfl) (by kernel_rfl) ?_
  (repeat (first | (apply Free.cw_pure rfl rfl; (intro w'; go_simp <;> exact rfl); go_frame) | (apply Free.cw_steady rfl rfl rfl; (intro w' hS; have q0 := Free.sx_cell hS hbp (fun j _ e => hn1 e.2); have q1 := Free.sx_cell hS c4' (fun j _ e => hn2 e.2); go_simp <;> exact rfl); go_frame)))
  refine Free.cw_loud rfl rfl (fun K hK => ?_)
  go_wp2_with fail
  refine (clone_c _ (.inl rfl) _ _ l (hpa.out.kb (KB.drew _)) (by omega)).mono ?_
  rintro e w2 ⟨v2, rfl, hB2, hk2⟩
  refine hK _ _ rfl (Free.KeepsP.of hk2 (by simp)) ?_
  clear hK K
  obtain ⟨a2, cp2, rfl⟩ := hB2.form
  have hk12 : Keeps [] W w2 := (Keeps.refl [] W).drew.trans hk2
  obtain ⟨w3, hput, hM3, hk3, hkb3⟩ := (hCa.out.keeps hk12).early.put (q : Int) (WalkArith.wf_i64 (by omega)) (by unfold maxLen; omega) _ l hB2.slB
  refine Free.cw_loud rfl rfl (fun K hK => ?_)
  go_wp2
  refine hK _ _ rfl (Free.KeepsP.of hk3 (by simp)) ?_
  clear hK K hput
  refine Free.cw_nil ?_
  have hk13 : Keeps [bm] W w3 := hk12.of_nil.trans hk3
  have hk03 : Keeps [bc, bm] w w3 := hk0.out.of_nil.trans (hk13.mono (by simp))
  have hkb03 : KB w w3 := hk0.out.kb0.trans (hk12.kb0.trans hkb3)
  have hC3 : Ch w3 B bc bm (n + 1) vk (C.put q l) :=
    ⟨(hk13.block bc (by omega) (by simpa using hn2)).trans hCa.out.blk, hCa.out.kept.keep hk13 (by simpa using hCa.out.kept.ne_map hCa.out.early) (hk12.kb0.trans hkb3), hM3⟩
  have hbp3 : w3.cell? ⟨w.heap.size, 0, none⟩ = some (.pointer (some ⟨bc, 0, none⟩)) := (hk13.cell _ 0 (by omega) (by simpa using hn1)).trans hbp
  have hsz3 : w.heap.size < w3.heap.size := lt_of_cell hbp3
  have hnr : (C.put q l).near (C.received + 1024) := fun s hs => by
    simp only [Chan.put] at hs ⊢
    split at hs
    · omega
    · exact hnear.out s hs
  clear hk2 hB2 hk12 hM3 hk3 hkb3 hk13 hCa hpa hbp c4' hszW he hnear c2 c4 hk0
  clear W
  generalize hC0 : C.put q l = C0 at *
  have hr0 : C0.received = C.received := by rw [← hC0]; rfl
  replace hC0 := Lib.hid hC0
  have hr00 : C0.received < 1099511627776 - 2048 := by omega
  replace hr0 := Lib.hid hr0
  replace hC3 := Lib.hid hC3
  replace hnr := Lib.hid hnr
  replace hk03 := Lib.hid hk03
  replace hkb03 := Lib.hid hkb03
  go_wp2_with fail
  refine (next_c _ B bc bm (n + 1) w.heap.size vk C0 hC3.out hcb hbp3 (by omega)).mono ?_
  rintro e w4 ⟨a4, m4, cp4, ok, rfl, hN4, hk4, hkb4⟩
  go_wp2
  have hbk : ∀ (w1 w2 : World), Keeps [bc, bm] w1 w2 → w.heap.size < w1.heap.size → w1.cell? ⟨w.heap.size, 0, none⟩ = some (.pointer (some ⟨bc, 0, none⟩)) → w2.cell? ⟨w.heap.size, 0, none⟩ = some (.pointer (some ⟨bc, 0, none⟩)) := fun _ _ hk hl hc => (hk.cell _ 0 hl (by simp; omega)).trans hc
  have hbp4 := hbk _ _ hk4 hsz3 hbp3
  replace hbk := Lib.hid hbk
  have hk04 := hk03.out.trans hk4
  have hkb04 := hkb03.out.trans hkb4
  clear hk4 hkb4 hbp3
  go_loopw [12, 13, 14] (fun out b okv wr => ∃ (C1 : Chan) (outs : List Bytes) (a : Option Addr) (m c : Nat) (ok : Bool), b = .slice a m c ∧ okv = .bool ok ∧ AccR w wr B bc bm n vk C0 C1 outs out (.slice a m c) ok) (fun _ _ okv wr => mAcc (C.received + 1024) bc okv wr)
  case atStart => exact ⟨C0, [], a4, m4, cp4, ok, rfl, rfl, ⟨[], World.ownsRow_nil _ _ _ _, by simp, fun g hg => by simp [Value.ownBlock] at hg⟩, Dr.refl, hN4, hk04, hkb04, hbp4⟩
  case round =>
    obtain ⟨C1, outs, a1, m1, c1, ok1, rfl, rfl, hR⟩ := hrel
    obtain ⟨ao, co, rfl⟩ := hR.kl.form
    clear hN4 hk04 hkb04 hbp4
    have hR0 := Lib.hid hR
    cases ok1 with
    | true =>
      obtain ⟨hL, hD, ⟨l1, he1, hv1, hCh1⟩, hkw, hkbw, hbpw⟩ := hR
      have hlen := hD.len
      have hnear1 := (hD.near hnr.out).take
      have hlt1 := hnr.out
      have hb1 := (hD.near hnr.out) _ (by rw [he1]; simp)
      have hD1 := Dr.step hD he1
      have hszw : w.heap.size < wr.heap.size := lt_of_cell hbpw
      have hrr := hr0.out
      have hmeas := hCh1.cells.2.2.1
      replace hlen := Lib.hid hlen
      replace hrr := Lib.hid hrr
      have hol : outs.length < 1099511627776 := by have := hlen.out; omega
      clear hlt1
      go_wp2_with (at_builtin; (refine wpl_pushL _ (w.heap.size + 1) _ _ outs l1 rfl _ _ rfl rfl rfl hL hv1 hol (by omega) ?_; intro v5 w5 hL5 hG5 hkb5))
      have hbo : ∀ b ∈ (Value.slice ao outs.length co).ownBlock.toList, w.heap.size + 1 ≤ b := fun b hb => by
        obtain ⟨cs, hown, _⟩ := hL
        exact ownBlock_ge hown b (by simpa using hb)
      have hk5 : Keeps (Value.slice ao outs.length co).ownBlock.toList wr w5 := ((Keeps.refl [] wr).alloc _).of_nil.trans hG5.keepsO
      have hvkl : ∀ b, vk.ownBlock = some b → b < w.heap.size := fun b hb => by
        obtain ⟨cs, hown, _⟩ := h.out.kept
        exact (hown.lt b hb).2
      have hCh5 : Ch w5 B bc bm (n + 1) vk C1.take := hCh1.keepS hk5 (fun hm => by have := hbo _ hm; omega) (fun hm => by have := hbo _ hm; omega) (fun b hb e => by have := hbo b hb; have := hvkl b e; omega) hkb5
      have hbp5 : w5.cell? ⟨w.heap.size, 0, none⟩ = some (.pointer (some ⟨bc, 0, none⟩)) := by
        rw [hk5.cell _ 0 hszw (fun hm => by have := hbo _ hm; omega)]
        exact hbpw
      have hkw5 : Keeps [bc, bm] w w5 := hkw.fresh hk5 (fun x hx => .inr (by have := hbo x hx; omega))
      have hkbw5 := hkbw.trans hkb5
      obtain ⟨a5, c5, rfl⟩ : ∃ a c, v5 = .slice a (outs.length + 1) c := by simpa using hL5.form
      clear hk5 hG5 hL hv1 hCh1 hkw hkbw hbpw hbo hvkl hkb5
      replace hD1 := Lib.hid hD1
      replace hnear1 := Lib.hid hnear1
      replace hCh5 := Lib.hid hCh5
      have hr1 : C1.take.received < 1099511627776 := by have := hlen.out; simp [Chan.take]; omega
      refine (next_c _ B bc bm (n + 1) w.heap.size vk C1.take hCh5.out hcb hbp5 hr1).mono ?_
      rintro e w6 ⟨a6, m6, cp6, ok6, rfl, hN6, hk6, hkb6⟩
      have hL6 := hL5.keep hk6 ?hout hkb6
      case hout => intro b hb e; have := KL.ge hL5 e; simp at hb; omega
      have hkw6 := hkw5.trans hk6
      have hkbw6 := hkbw5.trans hkb6
      have hbp6 := hbk.out _ _ hk6 (lt_of_cell hbp5) hbp5
      have hm6 : Hid (mAcc (C.received + 1024) bc (.bool ok6) w6 < mAcc (C.received + 1024) bc (.bool true) wr) := mAcc_lt hmeas hN6 hnear1.out
      replace hkw6 := Lib.hid hkw6
      replace hkbw6 := Lib.hid hkbw6
      replace hL6 := Lib.hid hL6
      replace hN6 := Lib.hid hN6
      clear hk6 hkb6 hbp5 hL5 hkw5 hkbw5
      go_wp2
      go_roundw
      case rel => exact ⟨C1.take, outs ++ [l1], a6, m6, cp6, ok6, rfl, rfl, hL6.out, hD1.out, hN6.out, hkw6.out, hkbw6.out, hbp6⟩
      case measure => exact hm6.out
    | false =>
      obtain ⟨hL, hD, ⟨hno, hCh⟩, hkw, hkbw, hbpw⟩ := hR
      replace hL := Lib.hid hL
      clear hno hCh hkw hkbw hbpw hD
      go_wp2
      go_ret2
      obtain ⟨hL, hD, ⟨hno, hCh⟩, hkw, hkbw, hbpw⟩ := hR0.out
      exact ⟨_, C1, outs, rfl, hL.mono (by omega), hCh, (by rw [hC0.out]; exact hD), hno, hkw, hkbw⟩
end Go.Proofs.Ytilmcdieihmiaaa
