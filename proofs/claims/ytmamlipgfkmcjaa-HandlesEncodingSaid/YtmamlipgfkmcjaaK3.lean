/- Texts that the laws lean on, in the order in which they build. The reference of package handles: Find, Drop, Set, Add, List. Package handles: the iterator over the handles that a function selects. The reference of package handles: Drop and Set. The reference of package handles: Add and List. The reference of package handles: List. DERIVED: THE SHELF's CONTRACTS AT THIS DUMP, IN PLAIN WORDS (tools/lay-plain.mjs out of 'YtmamlipgfkmcjaaIterSrc14.lean', which tools/lay-shelf.mjs wrote): THE SAME DECLARATIONS UNDER THE SAME NAMES: 'import', 'namespace', 'open', 'def', 'theorem' AND NOTHING ELSE: no command of the shelf's: FOR A HAND-IN. Each laying: the table of numbers ('.._ren') and one theorem, a field a fact of the dump's own or the kernel's comparison; each contract: ONE APPLICATION. Package handles: List and Words. Package handles: slices.Sorted over the iterator of all. Package handles: Words; the reference's comparisons of lists of numbers. The law's same: a table and the list of the model. -/
import Derived.Test.YtmamlipgfkmcjaaK2
import Derived.Test.YtmamlipgfkmcjaaProg
import Derived.RangeFuncNested
import Derived.RangeFuncBound
import Derived.RangeFuncCalls
import Derived.RangeFuncLeaves
import Derived.RangeFuncFrom
import Derived.RangeFuncBox
import Derived.Sort.MapsRangeIn
import Derived.Maps.AppendAt
import Derived.Shelf.Abstract
import Derived.WalkKit
import Derived.OwnWalkIn
import Derived.TacticsInMore
import Derived.LoopNIn
import Derived.LoopIn
import Derived.Shelf.SlIterI.Sorted
import Derived.Shelf.SlIterI.Collect
import Derived.Shelf.SortM.Plain
import Derived.Shelf.SortM.SortNone
import Derived.Ground.GgzProg
import Derived.Ground.SlgmProg
set_option linter.unusedVariables false
set_option linter.unusedSimpArgs false
namespace Go.Proofs.Ytmamlipgfkmcjaa
open Go.RowKit

def shE : Sh Hn := ⟨3, fun x => [.int .i64 x.1, .int .u64 x.2.1, .bool x.2.2], fun _ => rfl, by decide, fun x u hu => by simp at hu; rcases hu with rfl | rfl | rfl <;> rfl⟩
def shI : Sh Int := ⟨1, fun x => [.int .i64 x], fun _ => rfl, by decide, fun x u hu => by simp at hu; rw [hu]; rfl⟩
def shW : Sh Nat := ⟨1, fun x => [.int .u64 x], fun _ => rfl, by decide, fun x u hu => by simp at hu; rw [hu]; rfl⟩
theorem infE : (Try.prog.info? 34).map (fun i => (i.zero, i.size, i.bytes)) = some (some (.agg #[.int .i64 0, .int .u64 0, .bool false]), shE.sz, 24) := by kernel_rfl
theorem infI : (Try.prog.info? 3).map (fun i => (i.zero, i.size, i.bytes)) = some (some (.int .i64 0), shI.sz, 8) := by kernel_rfl
theorem infW : (Try.prog.info? 23).map (fun i => (i.zero, i.size, i.bytes)) = some (some (.int .u64 0), shW.sz, 8) := by kernel_rfl
theorem elemE {w : World} {v : Value} {L : List Hn} (h : shE.R w v L) {k : Nat} (hk : k < L.length) : ∃ g o c, v = .slice (some ⟨g, o, none⟩) L.length c ∧ w.cell? ⟨g, o + k * 3, none⟩ = some (.int .i64 L[k].1) ∧ w.cell? ⟨g, o + k * 3 + 1, none⟩ = some (.int .u64 L[k].2.1) ∧ w.cell? ⟨g, o + k * 3 + 2, none⟩ = some (.bool L[k].2.2) := by
  obtain ⟨g, o, c, e, hc⟩ := h.elem hk
  exact ⟨g, o, c, e, hc 0 _ rfl, hc 1 _ rfl, hc 2 _ rfl⟩
theorem elemI {w : World} {v : Value} {L : List Int} (h : shI.R w v L) {k : Nat} (hk : k < L.length) : ∃ g o c, v = .slice (some ⟨g, o, none⟩) L.length c ∧ w.cell? ⟨g, o + k, none⟩ = some (.int .i64 L[k]) := by
  obtain ⟨g, o, c, e, hc⟩ := h.elem hk
  exact ⟨g, o, c, e, by simpa [shI] using hc 0 _ rfl⟩
theorem elemW {w : World} {v : Value} {L : List Nat} (h : shW.R w v L) {k : Nat} (hk : k < L.length) : ∃ g o c, v = .slice (some ⟨g, o, none⟩) L.length c ∧ w.cell? ⟨g, o + k, none⟩ = some (.int .u64 (L[k] : Nat)) := by
  obtain ⟨g, o, c, e, hc⟩ := h.elem hk
  exact ⟨g, o, c, e, by simpa [shW] using hc 0 _ rfl⟩
def FindPost (w : World) (L : List Hn) (h : Int) (e : Ending) (w' : World) : Prop := ∃ i, e = .returned (.int .i64 i) ∧ FindP L h i ∧ Keeps [] w w'
set_option maxRecDepth 100000 in
set_option maxHeartbeats 1000000 in
theorem find_c (w : World) (v : Value) (L : List Hn) (h : Int) (hr : shE.R w v L) :
    Calls Try.prog 13 #[v, .int .i64 h] w (FindPost w L h) := by
  obtain ⟨a, c, rfl, hlc, hcm, _⟩ := hr.form
  obtain ⟨M, hM⟩ : ∃ M, L.length = M := ⟨_, rfl⟩
  rw [hM] at hlc hr ⊢
  have hMm : M ≤ 9223372036854775807 := by unfold maxLen at hcm; omega
  replace hM := Lib.hid hM
  replace hr := Lib.hid hr
  go_enter Try.func13, Try.ntmps13
  go_wp2
  go_loopw [5] (fun i wr => ∃ k : Nat, i = .int .i64 k ∧ k ≤ M ∧ (∀ j (hj : j < L.length), j < k → L[j].1 ≠ h) ∧ Keeps [] w wr) (fun i _ => M - (intOf i).toNat)
  case atStart => exact ⟨0, rfl, by omega, fun _ _ h => by omega, Keeps.refl _ _⟩
  case round =>
    obtain ⟨k, rfl, hk, hno, hkr⟩ := hrel
    by_cases hlt : k < M
    · have hkl : k < L.length := by rw [hM.out]; exact hlt
      obtain ⟨g, o, c', hv, e0, _, _⟩ := elemE (hr.out.keeps hkr) hkl
      rw [hM.out] at hv
      cases hv
      obtain ⟨x, hx⟩ : ∃ x, L[k].1 = x := ⟨_, rfl⟩
      rw [hx] at e0
      replace hx := Lib.hid hx
      replace hno := Lib.hid hno
      replace hkr := Lib.hid hkr
      by_cases hh : x = h
      · have hb : (x == h) = true := by simp [hh]
        replace hh := Lib.hid hh
        go_wp2
        go_ret
        exact ⟨k, rfl, .inl ⟨k, hkl, rfl, hx.out.trans hh.out⟩, hkr.out⟩
      · have hb : (x == h) = false := by simp [hh]
        replace hh := Lib.hid hh
        have hno2 : ∀ j (hj : j < L.length), j < k + 1 → L[j].1 ≠ h := fun j hj hj2 => by
          by_cases e : j = k
          · subst e; rw [hx.out]; exact hh.out
          · exact hno.out j hj (by omega)
        replace hno2 := Lib.hid hno2
        go_wp2
        go_roundw
        case rel => exact ⟨k + 1, rfl, by omega, hno2.out, hkr.out⟩
        case measure => simp [intOf]; omega
    · have hkM : k = M := by omega
      have hn := none_of (h := h) (L := L) fun j hj => hno j hj (by have := hM.out; omega)
      replace hn := Lib.hid hn
      replace hno := Lib.hid hno
      replace hkr := Lib.hid hkr
      go_wp2
      go_ret
      exact ⟨-1, rfl, .inr ⟨rfl, hn.out⟩, hkr.out⟩
end Go.Proofs.Ytmamlipgfkmcjaa

namespace Go.Proofs.Ytmamlipgfkmcjaa
open Go.RowKit Go.Maps
attribute [local go_sem] Oper.semAt_some

/-- What a round leaves as it is: some blocks, and all maps and iterators. -/
def KpS (S : List Nat) (A B : World) : Prop := (∀ b ∈ S, B.heap[b]? = A.heap[b]?) ∧ KeepsWalks A B
theorem kpS_t {S : List Nat} {A B C : World} (h : KpS S A B) (k : KpS S B C) : KpS S A C := ⟨fun b hb => (k.1 b hb).trans (h.1 b hb), h.2.trans k.2⟩
theorem kpS_b {S : List Nat} {w : World} (hS : ∀ b ∈ S, b < w.heap.size) (W : World) (l : Nat) (o o' : Obj) (hl : w.heap.size ≤ l) (h : W.heap[l]? = some o) (_ : o.isCells = false) (hw : o.isWalk = false) : KpS S W (W.putObj l o') :=
  ⟨fun b hb => World.putObj_heap_other (by have := hS b hb; omega), KeepsWalks.putObj _ h hw⟩
/-- What has come, what is still to come. -/
structure CollR (L : List Hn) (sel : Nat × Bool → Bool) (left : Lit → Bool) (ss : List Int) : Prop where
  nd : ss.Nodup
  mem : ∀ k, k ∈ ss ↔ ∃ p, MapL.get k L = some p ∧ sel p = true ∧ left (.int .i64 k) = false
  sub : ∀ kl, left kl = true → Maps.has (MapL.enc vfE L) kl = true
theorem CollR.start (L : List Hn) (sel : Nat × Bool → Bool) : CollR L sel (Maps.has (MapL.enc vfE L)) [] :=
  ⟨List.Pairwise.nil, fun k => ⟨fun h => (by simp at h), fun ⟨p, h1, _, h3⟩ => by rw [MapL.has_enc, h1] at h3; cases h3⟩, fun _ h => h⟩
theorem sameKey_i (x k : Int) : (Lit.int .i64 k).sameKey (.int .i64 x) = decide (k = x) := by simp [Lit.sameKey]
theorem CollR.yes {L : List Hn} {sel : Nat × Bool → Bool} {left : Lit → Bool} {ss : List Int} (h : CollR L sel left ss) {x : Int} {p : Nat × Bool} (hl : left (.int .i64 x) = true) (hg : MapL.get x L = some p) (hs : sel p = true) :
    CollR L sel (fun z => left z && !z.sameKey (.int .i64 x)) (ss ++ [x]) := by
  have hx : x ∉ ss := fun hm => by
    obtain ⟨_, _, _, h3⟩ := (h.mem x).1 hm
    rw [hl] at h3; cases h3
  refine ⟨?_, fun k => ?_, fun kl hk => h.sub kl (by simp at hk; exact hk.1)⟩
  · rw [List.nodup_append]
    exact ⟨h.nd, by simp, fun a ha b hb e => by simp at hb; subst hb; subst e; exact hx ha⟩
  · rw [List.mem_append, h.mem k, List.mem_singleton]
    simp only [sameKey_i]
    constructor
    · rintro (⟨q, h1, h2, h3⟩ | rfl)
      · exact ⟨q, h1, h2, by simp [h3]⟩
      · exact ⟨p, hg, hs, by simp⟩
    · rintro ⟨q, h1, h2, h3⟩
      by_cases e : k = x
      · exact .inr e
      · exact .inl ⟨q, h1, h2, by simpa [e] using h3⟩
theorem CollR.no {L : List Hn} {sel : Nat × Bool → Bool} {left : Lit → Bool} {ss : List Int} (h : CollR L sel left ss) {x : Int} {p : Nat × Bool} (hg : MapL.get x L = some p) (hs : sel p = false) :
    CollR L sel (fun z => left z && !z.sameKey (.int .i64 x)) ss := by
  refine ⟨h.nd, fun k => ?_, fun kl hk => h.sub kl (by simp at hk; exact hk.1)⟩
  rw [h.mem k]
  simp only [sameKey_i]
  constructor
  · rintro ⟨q, h1, h2, h3⟩
    exact ⟨q, h1, h2, by simp [h3]⟩
  · rintro ⟨q, h1, h2, h3⟩
    have e : k ≠ x := fun e => by
      subst e
      rw [hg] at h1; cases h1
      rw [hs] at h2; cases h2
    exact ⟨q, h1, h2, by simpa [e] using h3⟩
/-- What comes in the end. -/
def AllOf (L : List Hn) (sel : Nat × Bool → Bool) (ss : List Int) : Prop := ss.Nodup ∧ ∀ k, k ∈ ss ↔ ∃ p, MapL.get k L = some p ∧ sel p = true
theorem CollR.done {L : List Hn} {sel : Nat × Bool → Bool} {left : Lit → Bool} {ss : List Int} (h : CollR L sel left ss) (hl : ∀ kl, left kl = false) : AllOf L sel ss :=
  ⟨h.nd, fun k => (h.mem k).trans ⟨fun ⟨p, h1, h2, _⟩ => ⟨p, h1, h2⟩, fun ⟨p, h1, h2⟩ => ⟨p, h1, h2, hl _⟩⟩⟩
theorem nodup_len {L : List Hn} : ∀ (xs : List Int), xs.Nodup → (∀ k ∈ xs, (MapL.get k L).isSome = true) → xs.length ≤ L.length := fun xs => by
  induction xs generalizing L with
  | nil => intros; simp
  | cons x t ih =>
    intro hn hk
    obtain ⟨h1, h2⟩ := List.nodup_cons.1 hn
    have h3 := len_del (hk x (by simp))
    have h4 := ih (L := MapL.del x L) h2 (fun k hm => by rw [MapL.get_del, if_neg (fun e => by subst e; exact h1 hm)]; exact hk k (by simp [hm]))
    simp only [List.length_cons]; omega
theorem cell_blk {A B : World} {b o : Nat} (h : B.heap[b]? = A.heap[b]?) : B.cell? ⟨b, o, none⟩ = A.cell? ⟨b, o, none⟩ := World.cell?_of_block h
set_option maxRecDepth 100000 in
set_option maxHeartbeats 2000000 in
theorem all1_stops (fsel : Nat) (lbs : Array Value) (sel : Nat × Bool → Bool) (n Bt Bs bt bm : Nat) (S : List Nat) (L : List Hn) (w0 : World) (hn : 2 ≤ n)
    (hBt : w0.cell? ⟨Bt, 0, none⟩ = some (.pointer (some ⟨bt, 0, none⟩))) (hBs : w0.cell? ⟨Bs, 0, none⟩ = some (.func (.func fsel) #[] lbs)) (htm : TM w0 bt bm L) (hS : Bt ∈ S ∧ Bs ∈ S ∧ bt ∈ S) (hSlt : ∀ b ∈ S, b < w0.heap.size)
    (hsel : ∀ (W : World) (x : Nat) (b : Bool), (∀ b ∈ S, W.heap[b]? = w0.heap[b]?) → CallsIn Fence.wide (n - 1) Try.prog fsel (#[vfE (x, b)] ++ lbs) W fun e W' => e = .returned (.bool (sel (x, b))) ∧ W.grownBy W' none)
    (hent : ∀ args w, (callFunc fsel args).run Try.prog w = .ok (.enter fsel args) w) :
    SeqStopsK Fence.wide n Try.prog 53 #[.pointer (some ⟨Bt, 0, none⟩), .pointer (some ⟨Bs, 0, none⟩)] (fun x : Int => #[.int .i64 x]) (KpS S) (AllOf L sel) (fun _ => True) L.length w0 := by
  intro l J Jx W hW hJ hJx hY h0
  refine callsIn_of_wp Try.func53 rfl trivial ?_ rfl
  simp only [Try.ntmps53, List.size_toArray, List.length_cons, List.length_nil, Nat.reduceAdd, Nat.reduceSub, Array.replicate_succ, Array.replicate_zero, List.push_toArray, List.append_toArray, List.nil_append, List.cons_append]
  have c1 := (hW.cell (p := ⟨Bt, 0, none⟩) (lt_of_cell hBt)).trans hBt
  have c2 := (hW.cell (p := ⟨bt, 0, none⟩) (lt_of_cell htm.cell)).trans htm.cell
  have hownW : W.ownsMap Try.prog 3 MapL.raw bm L.length (MapL.enc vfE L) := by
    obtain ⟨es, clock, hb, F, hs, hD⟩ := htm.mp.own
    exact ⟨es, clock, (hW.block bm (Array.getElem?_eq_some_iff.1 hb).1).trans hb, F, hs, hD⟩
  have hSW : ∀ b ∈ S, W.heap[b]? = w0.heap[b]? := fun b hb => hW.block b (hSlt b hb)
  gi_wp2_with (first
    | (gi_at_range; (refine wpListIn_range_own _ rfl _ 71 rfl 3 69 (int_keyed Try.underlying3) Try.underlying71 _ bm L.length _ rfl hownW ?_; intro w1 hrg0 hg0 hs0))
    | gi_in)
  try go_frame
  gi_loopw [5] (fun _ wr => ∃ (left : Lit → Bool) (cnt : Nat) (ss : List Int), wr.ranges Try.prog 3 MapL.raw bm W.heap.size L.length (MapL.enc vfE L) left cnt ∧ CollR L sel left ss ∧ (∀ b ∈ S, wr.heap[b]? = w0.heap[b]?) ∧ J ss wr)
    (fun _ wr => wr.rangeLeft bm W.heap.size)
  case atStart =>
    exact ⟨_, _, [], hrg0, CollR.start L sel, fun b hb => (hg0.block b (by have := hSlt b hb; have := hW.size; omega) (by simp)).trans (hSW b hb), hJ [] W w1 none h0 hg0 (fun r e => by cases e)⟩
  case round =>
    obtain ⟨left, cnt, ss, hrg, hC, hSr, hJs⟩ := hrel
    gi_wp2_with (first
      | (gi_at_next; refine wpListIn_next_ranges _ rfl _ rfl 3 (int_keyed Try.underlying3) MapL.raw (Value.int .i64) id (fun key kl hk => by obtain ⟨x, hx, _⟩ := Maps.keyOf_int_inv Try.underlying3 hk; exact ⟨x, hx⟩) (fun v _ _ => ⟨v, rfl⟩) bm W.heap.size L.length _ _ _ rfl hrg ?_ ?_)
      | gi_in)
    · intro hc0 hl0
      gi_wp2
      go_end0
      exact ⟨⟨_, rfl⟩, .inl ⟨ss, hC.done hl0, hJs⟩⟩
    · intro x c kl yd yp w2 cnt2 hkey hlk hv hat hrg2 hlt hg2 hs2 hen
      obtain ⟨x', ex, rfl, hwx⟩ := Maps.keyOf_int_inv Try.underlying3 hkey
      cases ex
      have hsub := hC.sub _ hlk
      rw [MapL.has_enc] at hsub
      obtain ⟨⟨px, pb⟩, hp⟩ := Option.isSome_iff_exists.1 hsub
      have hc : c = vfE (px, pb) := by
        have h1 := hat (.held (.bool false))
        rw [MapL.atKey_enc _ hp] at h1
        simp only [MapL.raw, Option.some.injEq, Prod.mk.injEq] at hv
        rw [← h1] at hv
        have := hv.1
        cases this
        rfl
      subst hc
      have hWs := hW.size
      have hS2 : ∀ b ∈ S, w2.heap[b]? = w0.heap[b]? := fun b hb => (hg2.block b (by have := hSlt b hb; have := hrg.lt; omega) (fun e => by cases e; have := hSlt _ hb; omega)).trans (hSr b hb)
      have hJ2 : J ss w2 := hJ ss wr w2 (some W.heap.size) hJs hg2 (fun r e => by cases e; exact ⟨Nat.le_refl _, hrg.iter_walk⟩)
      have hSA : ∀ b ∈ S, (w2.alloc (.cells #[.int .u64 px, .bool pb] 69)).heap[b]? = w0.heap[b]? := fun b hb => (Below.heap_alloc _ _ _ (by have := hSlt b hb; have := hrg2.lt; omega)).trans (hS2 b hb)
      have hJA : J ss (w2.alloc (.cells #[.int .u64 px, .bool pb] 69)) := hJ ss w2 _ none hJ2 (World.grownBy_alloc _ _ _) (fun r e => by cases e)
      have hrgA := hrg2.alloc (.cells #[.int .u64 px, .bool pb] 69)
      have hcs := (cell_blk (o := 0) (hSA Bs hS.2.1)).trans hBs
      have hlen : ss.length < L.length := by
        have hx : x ∉ ss := fun hm => by
          obtain ⟨_, _, _, h3⟩ := (hC.mem x).1 hm
          rw [hlk] at h3; cases h3
        have := nodup_len (L := L) (ss ++ [x]) (by rw [List.nodup_append]; exact ⟨hC.nd, by simp, fun a ha b hb e => by simp at hb; subst hb; subst e; exact hx ha⟩) (fun k hk => by
          rcases List.mem_append.1 hk with h | h
          · obtain ⟨p, h1, _⟩ := (hC.mem k).1 h
            rw [h1]; rfl
          · simp at h; subst h; rw [hp]; rfl)
        simp at this; omega
      have cS := hsel _ px pb hSA
      obtain ⟨q, hq⟩ : ∃ q, sel (px, pb) = q := ⟨_, rfl⟩
      rw [hq] at cS
      have hq' := Lib.hid hq
      clear hq hv hat hsub hs2 hkey
      have hq2 := hq'
      cases q
      · gi_wp2_with fail
        refine ⟨trivial, fun _ => by omega, ?_⟩
        refine cS.mono ?_
        rintro e w3 ⟨rfl, hg3⟩
        have hrg3 := hrgA.kept hg3 (by simp) (by simp)
        have hJ3 := hJ ss _ w3 none hJA hg3 (fun r e => by cases e)
        have hS3 : ∀ b ∈ S, w3.heap[b]? = w0.heap[b]? := fun b hb => (hg3.block b (by have := hSlt b hb; have := hrgA.lt; omega) (by simp)).trans (hSA b hb)
        gi_wp2_with fail
        all_goals
          refine ⟨fun _ h => (by cases h), ?_⟩
          gi_wp2
          go_roundw
          case rel => exact ⟨_, cnt2, ss, hrg3, hC.no hp hq'.out, hS3, hJ3⟩
          case measure => rw [hrg3.left_eq, hrg.left_eq]; exact hlt
      · gi_wp2_with fail
        refine ⟨trivial, fun _ => by omega, ?_⟩
        refine cS.mono ?_
        rintro e w3 ⟨rfl, hg3⟩
        have hrg3 := hrgA.kept hg3 (by simp) (by simp)
        have hJ3 := hJ ss _ w3 none hJA hg3 (fun r e => by cases e)
        have hS3 : ∀ b ∈ S, w3.heap[b]? = w0.heap[b]? := fun b hb => (hg3.block b (by have := hSlt b hb; have := hrgA.lt; omega) (by simp)).trans (hSA b hb)
        obtain ⟨fn, tmps, assign, body, hy, hR⟩ := hY ss x w3 hJ3 hlen
        gi_wp2_with fail
        refine ⟨fun _ => by omega, ?_⟩
        refine hR.mono ?_
        rintro e W4 (⟨rfl, hJ4, hk4⟩ | ⟨rfl, hJx4⟩)
        · have hrg4 := hrg3.of_walks hk4.2
          have hS4 : ∀ b ∈ S, W4.heap[b]? = w0.heap[b]? := fun b hb => (hk4.1 b hb).trans (hS3 b hb)
          gi_wp2
          go_roundw
          case rel => exact ⟨_, cnt2, ss ++ [x], hrg4, hC.yes hlk hp hq'.out, hS4, hJ4⟩
          case measure => rw [hrg4.left_eq, hrg.left_eq]; exact hlt
        · gi_wp2
          refine bodyPost_ret (results_none rfl _ _ _) rfl ?_
          exact ⟨⟨_, rfl⟩, .inr ⟨_, trivial, hJx4⟩⟩
end Go.Proofs.Ytmamlipgfkmcjaa

namespace Go.Proofs.Ytmamlipgfkmcjaa
open Go.RowKit

def ListPost (w : World) (L' : List Hn) (c : Int) (e : Ending) (w' : World) : Prop := ∃ v', e = .returned (.tuple #[v', .int .i64 c]) ∧ shE.R w' v' L' ∧ Keeps [] w w'
theorem FindP.neg {L : List Hn} {h : Int} (hn : MapL.get h L = none) : dropL h L = L ∧ errL h L = 6 ∧ ∀ x, setL h x L = L := by
  simp [dropL, errL, setL, hn]
/-- A cell of an element of a list of the call's own. -/
theorem ownAt {w : World} {B : Nat} {v : Value} {L : List Hn} {e : TypeId} (h : shE.O w B e v L) {k j : Nat} (hk : k < L.length) (hj : j < 3) : ∃ g c, v = .slice (some ⟨g, 0, none⟩) L.length c ∧ B ≤ g ∧ (∃ u, w.cell? ⟨g, k * 3 + j, none⟩ = some u) ∧ w.frozen? ⟨g, k * 3 + j, none⟩ = false := by
  rcases h.2 with ⟨_, h0⟩ | ⟨g, cap, cur, e, hb, hg, h1, h2, h3, h4⟩
  · omega
  · refine ⟨g, cap, e, hb, ?_, frozen_at hg _⟩
    have : k * 3 + j < cur.size := by
      rw [h3]
      have h5 : (k + 1) * 3 ≤ cap * 3 := Nat.mul_le_mul_right _ (by omega)
      have : shE.sz = 3 := rfl
      rw [this]; omega
    exact ⟨cur[k * 3 + j], by rw [cell_at hg]; simp [this]⟩
set_option maxRecDepth 100000 in
set_option maxHeartbeats 2000000 in
theorem dropR_c (w : World) (v : Value) (L : List Hn) (h : Int) (hr : shE.R w v L) (ha : MapL.Asc L) (hlen : L.length < 1000000) :
    Calls Try.prog 18 #[v, .int .i64 h] w (ListPost w (dropL h L) (errL h L)) := by
  obtain ⟨a, c, rfl, hlc, hcm, _⟩ := hr.form
  obtain ⟨M, hM⟩ : ∃ M, L.length = M := ⟨_, rfl⟩
  rw [hM] at hlc hr hlen ⊢
  replace hM := Lib.hid hM
  replace hr := Lib.hid hr
  replace ha := Lib.hid ha
  go_enter Try.func18, Try.ntmps18
  go_wp2_with fail
  refine (find_c w _ L h (by rw [← hM.out] at hr ⊢; exact hr.out)).mono ?_
  rintro e w4 ⟨i, rfl, hf, hk4⟩
  have hr4 := hr.out.keeps hk4
  replace hk4 := Lib.hid hk4
  replace hr4 := Lib.hid hr4
  clear hr
  rcases hf with ⟨k, hkl, rfl, hh⟩ | ⟨rfl, hn⟩
  · have hk : k < M := by rw [← hM.out]; exact hkl
    obtain ⟨g, o, c', hv, _⟩ := hr4.out.elem hkl
    rw [hM.out] at hv
    cases hv
    have hfin : dropL h L = L.take k ++ L.drop (k + 1) ∧ errL h L = 0 := by
      have hg := get_at ha.out hkl
      rw [hh] at hg
      simp only [dropL, errL, hg, Option.isSome_some, if_true]
      exact ⟨by rw [del_at ha.out hkl, hh], trivial⟩
    have hT1 := hr4.out.init k (by rw [hM.out]; omega)
    have hT2 := hr4.out.tail (k + 1) (by rw [hM.out]; omega)
    rw [hM.out] at hT2
    have hwr : IntKind.i64.wrap ((k : Int) + 1) = (k : Int) + 1 := IntWalk.i64_in _ (by omega)
    have hwt : ((k : Int) + 1).toNat = k + 1 := by omega
    have f0 : 0 ≤ (k : Int) + 1 := by omega
    have f2 : (k : Int) ≤ (c : Int) := by omega
    have f3 : (k : Int) + 1 ≤ (M : Int) := by omega
    have hlt1 : (L.take k).length ≤ M := by rw [List.length_take, hM.out]; omega
    have hlt2 : (L.drop (k + 1)).length ≤ M := by rw [List.length_drop, hM.out]; omega
    have hfr := Sh.O.fresh shE w4 w4.heap.size 34 (Nat.le_refl _)
    have hkA := (Keeps.refl [] w4).alloc (.cells #[] 34)
    replace hT1 := Lib.hid hT1
    replace hT2 := Lib.hid hT2
    replace hfr := Lib.hid hfr
    replace hlt1 := Lib.hid hlt1
    replace hlt2 := Lib.hid hlt2
    replace hkA := Lib.hid hkA
    replace hfin := Lib.hid hfin
    replace hh := Lib.hid hh
    clear hr4
    go_wp2
    refine Free.wp_region_chain (fun i => i == 0 || i == 4 || i == 9) (fun i => true) (fun _ b => w4.heap.size ≤ b) (by kernel_rfl) (by kernel_rfl) (by kernel_rfl) ?_
    refine Free.cw_loud rfl rfl (fun K hK => ?_)
    go_wp2
    refine hK _ _ rfl (Free.KeepsP.alloc _ _ _) ?_
    clear hK K
    (repeat (apply Free.cw_pure rfl rfl; (intro w'; go_simp <;> exact rfl); go_frame))
    refine Free.cw_loud rfl rfl (fun K hK => ?_)
    refine Sh.wp_app shE w4.heap.size infE rfl Try.underlying26 (.slice (some ⟨w4.heap.size, 0, none⟩) 0 0) (.slice (some ⟨g, o, none⟩) k c) [] (L.take k) _ _ rfl rfl rfl (hfr.out.keeps ((Keeps.refl [] _).drew)) (hT1.out.keeps (hkA.out.drew)) (by have := hlt1.out; simp at this ⊢; omega) (by simp) ?_
    intro v5 w5 hO5 hG5
    rw [List.nil_append] at hO5
    have hk5 := hG5.keeps (a := w4) (hkA.out.drew) (fun b hb => by simp [Value.ownBlock] at hb; omega)
    refine hK _ _ rfl (Free.KeepsP.of hG5.keepsO (fun b hb => by simp [Value.ownBlock] at hb; omega)) ?_
    clear hK K
    have hT2' := hT2.out.keeps hk5
    have hsz5 := hk5.size
    replace hO5 := Lib.hid hO5
    replace hT2' := Lib.hid hT2'
    replace hk5 := Lib.hid hk5
    clear hG5
    (repeat (apply Free.cw_pure rfl rfl; (intro w'; go_simp <;> exact rfl); go_frame))
    refine Free.cw_loud rfl rfl (fun K hK => ?_)
    refine Sh.wp_app shE w4.heap.size infE rfl Try.underlying26 v5 _ (L.take k) (L.drop (k + 1)) _ _ rfl rfl rfl hO5.out hT2'.out (by have := hlt1.out; have := hlt2.out; omega) hsz5 ?_
    intro v6 w6 hO6 hG6
    have hge5 := fun b e => hO5.out.ge b e
    refine hK _ _ rfl (Free.KeepsP.of hG6.keepsO (fun b hb => hge5 b (by simpa using hb))) ?_
    clear hK K
    have hk6 := Sh.O.grew hk5.out hO5.out hG6 (Nat.le_refl _)
    have hkf := hk4.out.trans hk6
    replace hkf := Lib.hid hkf
    replace hO6 := Lib.hid hO6
    clear hG6 hk6 hge5
    (repeat (apply Free.cw_pure rfl rfl; (intro w'; go_simp <;> exact rfl); go_frame))
    refine Free.cw_nil ?_
    go_wp2
    all_goals
      go_ret2
      exact ⟨_, by rw [hfin.out.2]; rfl, by rw [hfin.out.1]; exact hO6.out.r, hkf.out⟩
  · obtain ⟨e1, e2, _⟩ := FindP.neg hn
    replace e1 := Lib.hid e1
    replace e2 := Lib.hid e2
    replace hn := Lib.hid hn
    go_wp2
    go_ret2
    exact ⟨_, by rw [e2.out]; rfl, by rw [e1.out]; exact hr4.out, hk4.out⟩
set_option maxRecDepth 100000 in
set_option maxHeartbeats 2000000 in
theorem setR_c (w : World) (v : Value) (L : List Hn) (h : Int) (x : Nat) (hr : shE.R w v L) (ha : MapL.Asc L) (hlen : L.length < 1000000) :
    Calls Try.prog 52 #[v, .int .i64 h, .int .u64 x] w (ListPost w (setL h x L) (errL h L)) := by
  obtain ⟨a, c, rfl, hlc, hcm, _⟩ := hr.form
  obtain ⟨M, hM⟩ : ∃ M, L.length = M := ⟨_, rfl⟩
  rw [hM] at hlc hr hlen ⊢
  replace hM := Lib.hid hM
  replace hr := Lib.hid hr
  replace ha := Lib.hid ha
  go_enter Try.func52, Try.ntmps52
  go_wp2_with fail
  refine (find_c w _ L h (by rw [← hM.out] at hr ⊢; exact hr.out)).mono ?_
  rintro e w4 ⟨i, rfl, hf, hk4⟩
  have hr4 := hr.out.keeps hk4
  replace hk4 := Lib.hid hk4
  replace hr4 := Lib.hid hr4
  clear hr
  rcases hf with ⟨k, hkl, rfl, hh⟩ | ⟨rfl, hn⟩
  · have hk : k < M := by rw [← hM.out]; exact hkl
    have hfin : setL h x L = L.set k (L[k].1, (x, L[k].2.2)) ∧ errL h L = 0 := by
      have hg := get_at ha.out hkl
      rw [hh] at hg
      simp only [setL, errL, hg, Option.isSome_some, if_true]
      refine ⟨?_, trivial⟩
      rw [set_at ha.out hkl, ← gB_at ha.out hkl, hh]
    have hfr := Sh.O.fresh shE w4 w4.heap.size 34 (Nat.le_refl _)
    have hkA := (Keeps.refl [] w4).alloc (.cells #[] 34)
    have hrA := hr4.out.keeps hkA
    replace hfr := Lib.hid hfr
    replace hkA := Lib.hid hkA
    replace hrA := Lib.hid hrA
    replace hfin := Lib.hid hfin
    replace hh := Lib.hid hh
    clear hr4
    go_wp2_with (at_builtin; go_loud (refine Sh.wpl_app shE w4.heap.size infE rfl Try.underlying26 (.slice (some ⟨w4.heap.size, 0, none⟩) 0 0) (.slice a M c) [] L rfl _ _ rfl rfl rfl hfr.out hrA.out (by rw [hM.out]; simp; omega) (by simp) ?_; intro v5 w5 hO5 hG5; rw [List.nil_append] at hO5; have hk5 := Sh.O.grew hkA.out hfr.out hG5 (Nat.le_refl _); obtain ⟨g5, c5, rfl, hg5, ⟨u5, hcl⟩, hfz⟩ := ownAt hO5 (j := 1) hkl (by decide); rw [hM.out] at hO5 hG5 ⊢; have hO6 := hO5.set hkl (L[k].1, (x, L[k].2.2)) 1 (.int .u64 x) rfl (by decide) rfl; have hk6 := hk5.setCell (p := ⟨g5, k * 3 + 1, none⟩) (.inl hg5) (.int .u64 x); replace hO6 := Lib.hid hO6; replace hk6 := Lib.hid hk6; clear hG5 hO5 hk5))
    go_ret2
    exact ⟨_, by rw [hfin.out.2]; rfl, by rw [hfin.out.1]; exact hO6.out.r, hk4.out.trans hk6.out⟩
  · obtain ⟨e1, e2, e3⟩ := FindP.neg hn
    replace e1 := Lib.hid e1
    replace e2 := Lib.hid e2
    replace e3 := Lib.hid e3
    replace hn := Lib.hid hn
    go_wp2
    go_ret2
    exact ⟨_, by rw [e2.out]; rfl, by rw [e3.out]; exact hr4.out, hk4.out⟩
end Go.Proofs.Ytmamlipgfkmcjaa

namespace Go.Proofs.Ytmamlipgfkmcjaa
open Go.RowKit

def AddPost (w : World) (L : List Hn) (x : Nat) (b : Bool) (e : Ending) (w' : World) : Prop := ∃ v' h, e = .returned (.tuple #[v', .int .i64 h]) ∧ Free L h ∧ shE.R w' v' (MapL.ins h (x, b) L) ∧ Keeps [] w w'
set_option maxRecDepth 100000 in
set_option maxHeartbeats 2000000 in
theorem addR_c (w : World) (v : Value) (L : List Hn) (x : Nat) (b : Bool) (hr : shE.R w v L) (ha : MapL.Asc L) (hlen : L.length < 1000000) :
    Calls Try.prog 51 #[v, .int .u64 x, .bool b] w (AddPost w L x b) := by
  obtain ⟨a, c, rfl, hlc, hcm, _⟩ := hr.form
  obtain ⟨M, hM⟩ : ∃ M, L.length = M := ⟨_, rfl⟩
  rw [hM] at hlc hr hlen ⊢
  replace hM := Lib.hid hM
  replace hr := Lib.hid hr
  replace ha := Lib.hid ha
  go_enter Try.func51, Try.ntmps51
  go_wp2
  go_loopw [8] (fun hv wr => ∃ k : Nat, hv = .int .i64 ((k : Int) + 1) ∧ (∀ i : Int, 1 ≤ i → i ≤ k → (MapL.get i L).isSome = true) ∧ k ≤ M ∧ Keeps [] w wr) (fun hv _ => (M + 1 - (intOf hv).toNat))
  case atStart => exact ⟨0, rfl, fun i h1 h2 => by omega, by omega, Keeps.refl _ _⟩
  case round =>
    obtain ⟨k, rfl, hu, hk, hkr⟩ := hrel
    replace hu := Lib.hid hu
    replace hkr := Lib.hid hkr
    go_wp2_with fail
    refine (find_c wr _ L ((k : Int) + 1) (by have := hr.out.keeps hkr.out; rw [← hM.out] at this ⊢; exact this)).mono ?_
    rintro e w4 ⟨i, rfl, hf, hk4⟩
    have hc := hf.some ha.out
    have hk4w := hkr.out.trans hk4
    replace hk4w := Lib.hid hk4w
    clear hk4
    by_cases hi : 0 ≤ i
    · simp only [hi, decide_true] at hc
      have hu2 : ∀ i : Int, 1 ≤ i → i ≤ ((k + 1 : Nat) : Int) → (MapL.get i L).isSome = true := fun i h1 h2 => by
        by_cases e : i ≤ k
        · exact hu.out i h1 e
        · rw [show i = (k : Int) + 1 by omega]; exact hc
      have hk1 : k + 1 ≤ M := by have := used_len (k + 1) L hu2; rw [hM.out] at this; exact this
      replace hu2 := Lib.hid hu2
      clear hc hf hu
      go_wp2
      go_roundw
      case rel => exact ⟨k + 1, by go_num, hu2.out, hk1, hk4w.out⟩
      case measure => simp [intOf]; omega
    · have hnone : (MapL.get ((k : Int) + 1) L).isSome = false := by rw [hc]; simp [hi]
      have hF : Free L ((k : Int) + 1) := ⟨by omega, fun i h1 h2 => hu.out i h1 (by omega), hnone⟩
      have hni : ¬ (0 ≤ i) := hi
      have hr4 := hr.out.keeps hk4w.out
      have hfr := Sh.O.fresh shE w4 w4.heap.size 34 (Nat.le_refl _)
      have hkA := (Keeps.refl [] w4).alloc (.cells #[] 34)
      obtain ⟨h0, hh0⟩ : ∃ h0, (k : Int) + 1 = h0 := ⟨_, rfl⟩
      rw [hh0] at hF hnone
      have hb0 : 1 ≤ h0 ∧ h0 ≤ 2000000 := by omega
      replace hF := Lib.hid hF
      replace hr4 := Lib.hid hr4
      replace hfr := Lib.hid hfr
      replace hkA := Lib.hid hkA
      replace hnone := Lib.hid hnone
      clear hc hf hu hi hr
      go_wp2
      generalize hw4 : w4.alloc (.cells #[] 34) = W at *
      clear hw4
      go_loopw [9, 10] (fun ov iv wr => ∃ j : Nat, iv = .int .i64 j ∧ j ≤ M ∧ shE.O wr w4.heap.size 34 ov (L.take j) ∧ (∀ i (hi : i < L.length), i < j → L[i].1 < h0) ∧ Keeps [] w4 wr) (fun _ iv _ => M - (intOf iv).toNat)
      case atStart => exact ⟨0, rfl, by omega, hfr.out, fun _ _ h => by omega, hkA.out⟩
      case round =>
        obtain ⟨j, rfl, hj, hO, hlow, hkj⟩ := hrel
        have hrj := hr4.out.keeps hkj
        have hsz := hkj.size
        have htl : (L.take j).length = j := by rw [List.length_take, hM.out]; omega
        obtain ⟨ao, co, rfl⟩ := hO.form
        rw [htl] at hO ⊢
        have hO' := Lib.hid hO
        clear hO
        by_cases hlt : j < M ∧ (∀ hj2 : j < L.length, L[j].1 < h0)
        · obtain ⟨hlt, hlo⟩ := hlt
          have hjl : j < L.length := by rw [hM.out]; exact hlt
          obtain ⟨g, o, c', hv, e0, e1, e2⟩ := elemE hrj hjl
          rw [hM.out] at hv
          cases hv
          have hlo' := hlo hjl
          have htk : L.take (j + 1) = L.take j ++ [L[j]] := by rw [List.take_add_one, List.getElem?_eq_getElem hjl]; rfl
          have hlow2 : ∀ i (hi : i < L.length), i < j + 1 → L[i].1 < h0 := fun i hi h2 => by
            by_cases e : i = j
            · subst e; exact hlo'
            · exact hlow i hi (by omega)
          obtain ⟨y, hy⟩ : ∃ y, L[j] = y := ⟨_, rfl⟩
          rw [hy] at e0 e1 e2 hlo' htk
          obtain ⟨y1, y2, y3⟩ := y
          simp only at e0 e1 e2 hlo'
          have hmade := Sh.R.made shE wr [(y1, (y2, y3))] #[.int .i64 y1, .int .u64 y2, .bool y3] 34 rfl (by simp [maxLen]) 1 rfl
          have hkA2 := (Keeps.refl [] wr).alloc (.cells #[.int .i64 y1, .int .u64 y2, .bool y3] 34)
          have hOA := hO'.out.keeps hkA2
          have hkj2 := hkj.trans hkA2
          replace hmade := Lib.hid hmade
          replace hOA := Lib.hid hOA
          replace hkj2 := Lib.hid hkj2
          replace htk := Lib.hid htk
          replace hlow2 := Lib.hid hlow2
          replace hy := Lib.hid hy
          replace htl := Lib.hid htl
          clear hlo hlow hkj hkA2 hrj
          go_wp2_with (at_builtin; go_loud (refine Sh.wpl_app shE w4.heap.size infE rfl Try.underlying26 (.slice ao j co) (.slice (some ⟨wr.heap.size, 0, none⟩) 1 1) (L.take j) [(y1, (y2, y3))] rfl _ _ rfl rfl rfl hOA.out hmade.out (by rw [htl.out]; simp; omega) (by simp; omega) ?_; intro v5 w5 hO5 hG5; have hk5 := Sh.O.grew hkj2.out hOA.out hG5 (Nat.le_refl _); rw [← htk.out] at hO5; replace hO5 := Lib.hid hO5; replace hk5 := Lib.hid hk5; clear hG5))
          go_roundw
          case rel => exact ⟨j + 1, rfl, by omega, hO5.out, hlow2.out, hk5.out⟩
          case measure => simp [intOf]; omega
        · have hstop : ∀ hn : j < L.length, ¬ L[j].1 < h0 := fun hn h => hlt ⟨by rw [← hM.out]; exact hn, fun _ => h⟩
          have hres := ins_at (v := (x, b)) ha.out hnone.out j (by rw [hM.out]; exact hj) hlow hstop
          have hT2 := hr4.out.tail' j (by rw [hM.out]; exact hj)
          rw [hM.out] at hT2
          have hlt2 : (L.drop j).length ≤ M := by rw [List.length_drop, hM.out]; omega
          have hmade := Sh.R.made shE wr.drew [(h0, (x, b))] #[.int .i64 h0, .int .u64 x, .bool b] 34 rfl (by simp [maxLen]) 1 rfl
          have hkA2 := (Keeps.refl [] wr.drew).alloc (.cells #[.int .i64 h0, .int .u64 x, .bool b] 34)
          have hOA := (hO'.out.keeps (Keeps.refl [] wr).drew).keeps hkA2
          have hkr2 := ((Keeps.refl [] wr).drew).trans hkA2
          have f1 : (0 : Int) ≤ (j : Int) := by omega
          have f2 : (j : Int) ≤ (M : Int) := by omega
          replace hres := Lib.hid hres
          replace hmade := Lib.hid hmade
          replace hOA := Lib.hid hOA
          replace hkr2 := Lib.hid hkr2
          replace hkj := Lib.hid hkj
          replace htl := Lib.hid htl
          replace hlt2 := Lib.hid hlt2
          have hcase : j = M ∨ ∃ (g o : Nat) (y : Int), a = some ⟨g, o, none⟩ ∧ j < M ∧ wr.cell? ⟨g, o + j * 3, none⟩ = some (.int .i64 y) ∧ ¬ y < h0 := by
            by_cases e : j = M
            · exact .inl e
            · have hjl : j < L.length := by rw [hM.out]; omega
              obtain ⟨g, o, c', hv, e0, _, _⟩ := elemE hrj hjl
              simp at hv
              exact .inr ⟨g, o, _, hv.1, by omega, e0, hstop hjl⟩
          clear hlow hlt hrj hstop hkA2
          rcases hcase with e | ⟨g, o, y, rfl, hjM, e0, hy⟩
          · clear f2
            subst e
            rw [Nat.sub_self] at hT2
            replace hT2 := Lib.hid hT2
            go_wp2
            refine Free.wp_region_chain (fun i => i == 5 || i == 6 || i == 10) (fun i => true) (fun _ b => w4.heap.size ≤ b) (by kernel_rfl) (by kernel_rfl) (by kernel_rfl) ?_
            (repeat (apply Free.cw_pure rfl rfl; (intro w'; go_simp <;> exact rfl); go_frame))
            refine Free.cw_loud rfl rfl (fun K hK => ?_)
            go_wp2
            refine hK _ _ rfl (Free.KeepsP.alloc _ _ _) ?_
            clear hK K
            (repeat (apply Free.cw_pure rfl rfl; (intro w'; go_simp <;> exact rfl); go_frame))
            refine Free.cw_loud rfl rfl (fun K hK => ?_)
            refine Sh.wp_app shE w4.heap.size infE rfl Try.underlying26 (.slice ao j co) (.slice (some ⟨wr.heap.size, 0, none⟩) 1 1) (L.take j) [(h0, (x, b))] _ _ rfl rfl rfl hOA.out hmade.out (by rw [htl.out]; simp; omega) (by simp; omega) ?_
            intro v5 w5 hO5 hG5
            have hge := fun b e => hOA.out.ge b e
            refine hK _ _ rfl (Free.KeepsP.of hG5.keepsO (fun b hb => hge b (by simpa using hb))) ?_
            clear hK K
            have hk5 := Sh.O.grew (hkj.out.trans hkr2.out) hOA.out hG5 (Nat.le_refl _)
            have hT5 := hT2.out.keeps hk5
            have hsz5 := hk5.size
            replace hO5 := Lib.hid hO5
            replace hT5 := Lib.hid hT5
            replace hk5 := Lib.hid hk5
            clear hG5 hge
            (repeat (apply Free.cw_pure rfl rfl; (intro w'; go_simp <;> exact rfl); go_frame))
            refine Free.cw_loud rfl rfl (fun K hK => ?_)
            refine Sh.wp_app shE w4.heap.size infE rfl Try.underlying26 v5 _ (L.take j ++ [(h0, (x, b))]) (L.drop j) _ _ rfl rfl rfl hO5.out hT5.out (by have := hlt2.out; rw [List.length_append, htl.out]; simp at this ⊢; omega) hsz5 ?_
            intro v6 w6 hO6 hG6
            have hge5 := fun b e => hO5.out.ge b e
            refine hK _ _ rfl (Free.KeepsP.of hG6.keepsO (fun b hb => hge5 b (by simpa using hb))) ?_
            clear hK K
            have hk6 := Sh.O.grew hk5.out hO5.out hG6 (Nat.le_refl _)
            have hkf := hk4w.out.trans hk6
            rw [List.append_assoc, List.singleton_append, hres.out] at hO6
            replace hkf := Lib.hid hkf
            replace hO6 := Lib.hid hO6
            clear hG6 hk6 hge5
            (repeat (apply Free.cw_pure rfl rfl; (intro w'; go_simp <;> exact rfl); go_frame))
            refine Free.cw_nil ?_
            go_wp2
            all_goals
              go_ret2
              exact ⟨_, _, rfl, hF.out, hO6.out.r, hkf.out⟩
          · simp only [Option.map_some, WideShapes.add_plain] at hT2
            replace hT2 := Lib.hid hT2
            go_wp2
            refine Free.wp_region_chain (fun i => i == 5 || i == 6 || i == 10) (fun i => true) (fun _ b => w4.heap.size ≤ b) (by kernel_rfl) (by kernel_rfl) (by kernel_rfl) ?_
            (repeat (apply Free.cw_pure rfl rfl; (intro w'; go_simp <;> exact rfl); go_frame))
            refine Free.cw_loud rfl rfl (fun K hK => ?_)
            go_wp2
            refine hK _ _ rfl (Free.KeepsP.alloc _ _ _) ?_
            clear hK K
            (repeat (apply Free.cw_pure rfl rfl; (intro w'; go_simp <;> exact rfl); go_frame))
            refine Free.cw_loud rfl rfl (fun K hK => ?_)
            refine Sh.wp_app shE w4.heap.size infE rfl Try.underlying26 (.slice ao j co) (.slice (some ⟨wr.heap.size, 0, none⟩) 1 1) (L.take j) [(h0, (x, b))] _ _ rfl rfl rfl hOA.out hmade.out (by rw [htl.out]; simp; omega) (by simp; omega) ?_
            intro v5 w5 hO5 hG5
            have hge := fun b e => hOA.out.ge b e
            refine hK _ _ rfl (Free.KeepsP.of hG5.keepsO (fun b hb => hge b (by simpa using hb))) ?_
            clear hK K
            have hk5 := Sh.O.grew (hkj.out.trans hkr2.out) hOA.out hG5 (Nat.le_refl _)
            have hT5 := hT2.out.keeps hk5
            have hsz5 := hk5.size
            replace hO5 := Lib.hid hO5
            replace hT5 := Lib.hid hT5
            replace hk5 := Lib.hid hk5
            clear hG5 hge
            (repeat (apply Free.cw_pure rfl rfl; (intro w'; go_simp <;> exact rfl); go_frame))
            refine Free.cw_loud rfl rfl (fun K hK => ?_)
            refine Sh.wp_app shE w4.heap.size infE rfl Try.underlying26 v5 _ (L.take j ++ [(h0, (x, b))]) (L.drop j) _ _ rfl rfl rfl hO5.out hT5.out (by have := hlt2.out; rw [List.length_append, htl.out]; simp at this ⊢; omega) hsz5 ?_
            intro v6 w6 hO6 hG6
            have hge5 := fun b e => hO5.out.ge b e
            refine hK _ _ rfl (Free.KeepsP.of hG6.keepsO (fun b hb => hge5 b (by simpa using hb))) ?_
            clear hK K
            have hk6 := Sh.O.grew hk5.out hO5.out hG6 (Nat.le_refl _)
            have hkf := hk4w.out.trans hk6
            rw [List.append_assoc, List.singleton_append, hres.out] at hO6
            replace hkf := Lib.hid hkf
            replace hO6 := Lib.hid hO6
            clear hG6 hk6 hge5
            (repeat (apply Free.cw_pure rfl rfl; (intro w'; go_simp <;> exact rfl); go_frame))
            refine Free.cw_nil ?_
            go_wp2
            all_goals
              go_ret2
              exact ⟨_, _, rfl, hF.out, hO6.out.r, hkf.out⟩
end Go.Proofs.Ytmamlipgfkmcjaa

namespace Go.Proofs.Ytmamlipgfkmcjaa
open Go.RowKit

theorem Sh.O.apart {α β : Type} {s : Sh α} {s' : Sh β} {w : World} {B B' : Nat} {e e' : TypeId} {v v' : Value} {L : List α} {L' : List β} (h : s.O w B e v L) (h' : s'.O w B' e' v' L') (hne : e ≠ e') : ∀ g, v.ownBlock = some g → v'.ownBlock ≠ some g := fun g hg hg' => by
  rcases h.2 with ⟨rfl, _⟩ | ⟨g1, cap, cur, rfl, _, hb, _⟩
  · simp [Value.ownBlock] at hg
  · rcases h'.2 with ⟨rfl, _⟩ | ⟨g2, cap', cur', rfl, _, hb', _⟩
    · simp [Value.ownBlock] at hg'
    · simp [Value.ownBlock] at hg hg'
      subst hg hg'
      rw [hb] at hb'
      cases hb'
      exact hne rfl
theorem Sh.loud_app {α : Type} {P : Program} {o : Oper} {a : Act} {w : World} {R : Value → World → Prop} (s : Sh α) (B : Nat) {e t : TypeId} {z : Value} {by_ : Nat} (hinf : (P.info? e).map (fun i => (i.zero, i.size, i.bytes)) = some (some z, s.sz, by_)) (hz : z.cells.size = s.sz) (ht : P.underlying t = some (.slice e))
    (v v2 : Value) (L M : List α) (x y : Operand) (ho : o.op = .call { callee := .builtin .append, args := #[x, y], argTypes := #[t, t] }) (hs : a.eval x = v) (hx : a.eval y = v2) (h : s.O w B e v L) (hsl : s.R w v2 M)
    (hl : (L.length + M.length) * (by_ + 1) ≤ 140737488355328) (hB : B ≤ w.heap.size) (hR : ∀ v' w', s.O w' B e v' (L ++ M) → Grw w w' v v' → R v' w') : Free.Loud P o a w R := by
  obtain ⟨i0, hi, hz0, hz1, hz2⟩ := info_parts hinf
  have h1 : L.length + M.length ≤ (L.length + M.length) * (by_ + 1) := Nat.le_mul_of_pos_right _ (by omega)
  have h2 : (L.length + M.length) * by_ ≤ (L.length + M.length) * (by_ + 1) := Nat.mul_le_mul_left _ (by omega)
  obtain ⟨v', w', hr, h3, h4, _⟩ := run_append_x (P := P) B t o.type e i0 z s.sz by_ ht hi hz0 hz1 hz2 hz s.pos v L.length (s.cs L) h v2 M.length (s.cs M) hsl (Sh.cs_one M) (by unfold maxLen; omega) (by omega) hB
  unfold Free.Loud execOp
  simp only [ho, resolve, invoke, builtin, Sem.run_bind, Sem.run_pure, Result.andThen_ok, List.map_toArray, List.map_cons, List.map_nil, hs, hx, hr]
  refine hR v' w' ?_ h4
  unfold Sh.O
  rw [Sh.cs_append, List.length_append]
  exact h3
theorem Sh.O.keepP {α : Type} {s : Sh α} {w w' : World} {B : Nat} {e : TypeId} {v : Value} {L : List α} {S : Nat → Prop} (h : s.O w B e v L) (hk : Free.KeepsP S w w') (hS : ∀ g, v.ownBlock = some g → ¬ S g) : s.O w' B e v L := by
  refine ⟨h.1, ?_⟩
  rcases h.2 with hn | ⟨g, cap, cur, rfl, hb, hg, rest⟩
  · exact .inl hn
  · exact .inr ⟨g, cap, cur, rfl, hb, (hk.block g (Array.getElem?_eq_some_iff.1 hg).1 (hS g rfl)).trans hg, rest⟩
def ListsPost (w : World) (b : Bool) (L : List Hn) (e : Ending) (w' : World) : Prop := ∃ v1 v2, e = .returned (.tuple #[v1, v2]) ∧ shI.R w' v1 (hsL b L) ∧ shW.R w' v2 (wsL b L) ∧ Keeps [] w w'
theorem hsL_snoc {b : Bool} {L : List Hn} {k : Nat} (hk : k < L.length) : hsL b (L.take (k + 1)) = hsL b (L.take k) ++ (if L[k].2.2 == b then [L[k].1] else []) := by
  rw [List.take_add_one, List.getElem?_eq_getElem hk]
  unfold hsL
  rw [List.filter_append, List.map_append]
  by_cases e : (L[k].2.2 == b) = true
  · simp [e]
  · simp [e]
theorem wsL_snoc {b : Bool} {L : List Hn} {k : Nat} (hk : k < L.length) : wsL b (L.take (k + 1)) = wsL b (L.take k) ++ (if L[k].2.2 == b then [L[k].2.1] else []) := by
  rw [List.take_add_one, List.getElem?_eq_getElem hk]
  unfold wsL
  rw [List.filter_append, List.map_append]
  by_cases e : (L[k].2.2 == b) = true
  · simp [e]
  · simp [e]
theorem hsL_len {b : Bool} {L : List Hn} : (hsL b L).length ≤ L.length := by unfold hsL; rw [List.length_map]; exact List.length_filter_le _ _
theorem wsL_len {b : Bool} {L : List Hn} : (wsL b L).length ≤ L.length := by unfold wsL; rw [List.length_map]; exact List.length_filter_le _ _
theorem hsL_wsL {b : Bool} {L : List Hn} : (hsL b L).length = (wsL b L).length := by unfold hsL wsL; rw [List.length_map, List.length_map]
/-- Two appends side by side. -/
def L2 (i : Nat) : Bool := i == 6 || i == 7 || i == 14 || i == 15
def F2 (B B0 : Nat) (o1 o2 : Option Nat) (hs : List Int) (ws : List Nat) (y1 : Int) (y2 : Nat) : Nat → Value → World → Prop
  | 6, v, W => ∃ g, v = .slice (some ⟨g, 0, none⟩) 1 1 ∧ B0 ≤ g ∧ W.cell? ⟨g, 0, none⟩ = some (.int .i64 y1)
  | 7, v, W => shI.O W B 3 v (hs ++ [y1]) ∧ ∀ g, v.ownBlock = some g → o1 = some g ∨ B0 ≤ g
  | 14, v, W => ∃ g, v = .slice (some ⟨g, 0, none⟩) 1 1 ∧ B0 ≤ g ∧ W.cell? ⟨g, 0, none⟩ = some (.int .u64 y2)
  | 15, v, W => shW.O W B 23 v (ws ++ [y2]) ∧ ∀ g, v.ownBlock = some g → o2 = some g ∨ B0 ≤ g
  | _, _, _ => True
def T2 (o1 o2 : Option Nat) : Nat → Nat → Prop
  | 7, b => o1 = some b
  | 15, b => o2 = some b
  | _, _ => False
theorem T2_cases {o1 o2 : Option Nat} {k b : Nat} (h : T2 o1 o2 k b) : o1 = some b ∨ o2 = some b := by
  unfold T2 at h
  split at h
  · exact .inl h
  · exact .inr h
  · exact h.elim
theorem hst2 {ops : Array Oper} {B B0 : Nat} {o1 o2 : Option Nat} {hs : List Int} {ws : List Nat} {y1 : Int} {y2 : Nat} (h1 : ∀ g, o1 = some g → B ≤ g ∧ g < B0) (h2 : ∀ g, o2 = some g → B ≤ g ∧ g < B0) (hap : ∀ g, o1 = some g → o2 ≠ some g) :
    ∀ i k v w w', L2 i = true → i ≠ k → false = false → Free.pre ops k i = false → F2 B B0 o1 o2 hs ws y1 y2 i v w → Free.KeepsP (T2 o1 o2 k) w w' → F2 B B0 o1 o2 hs ws y1 y2 i v w' := by
  intro i k v w w' hl hne _ hp hF hK
  have hi : i = 6 ∨ i = 7 ∨ i = 14 ∨ i = 15 := by simpa [L2, or_assoc] using hl
  have hlow : ∀ b, T2 o1 o2 k b → b < B0 := fun b h => by
    rcases T2_cases h with h | h
    · exact (h1 b h).2
    · exact (h2 b h).2
  rcases hi with rfl | rfl | rfl | rfl
  · obtain ⟨g, e, hg, hc⟩ := hF
    exact ⟨g, e, hg, (hK.cell g 0 (lt_of_cell hc) (fun h => by have := hlow g h; omega)).trans hc⟩
  · obtain ⟨hO, ho⟩ := hF
    refine ⟨hO.keepP hK (fun g hg h => ?_), ho⟩
    rcases ho g hg with h' | h'
    · unfold T2 at h
      split at h
      · exact hne rfl
      · exact hap g h' h
      · exact h
    · have := hlow g h; omega
  · obtain ⟨g, e, hg, hc⟩ := hF
    exact ⟨g, e, hg, (hK.cell g 0 (lt_of_cell hc) (fun h => by have := hlow g h; omega)).trans hc⟩
  · obtain ⟨hO, ho⟩ := hF
    refine ⟨hO.keepP hK (fun g hg h => ?_), ho⟩
    rcases ho g hg with h' | h'
    · unfold T2 at h
      split at h
      · exact hap g h h'
      · exact hne rfl
      · exact h
    · have := hlow g h; omega
set_option maxRecDepth 100000 in
set_option maxHeartbeats 2000000 in
theorem listR_c (w : World) (v : Value) (L : List Hn) (b : Bool) (hr : shE.R w v L) (hlen : L.length < 1000000) :
    Calls Try.prog 32 #[v, .bool b] w (ListsPost w b L) := by
  obtain ⟨a, c, rfl, hlc, hcm, _⟩ := hr.form
  obtain ⟨M, hM⟩ : ∃ M, L.length = M := ⟨_, rfl⟩
  rw [hM] at hlc hr hlen ⊢
  have hk1 := (Keeps.refl [] w).alloc (.cells #[] 3)
  have hk2 := hk1.alloc (.cells #[] 23)
  have hO1 := (Sh.O.fresh shI w w.heap.size 3 (Nat.le_refl _)).keeps ((Keeps.refl [] (w.alloc (.cells #[] 3))).alloc (.cells #[] 23))
  have hO2 := Sh.O.fresh shW (w.alloc (.cells #[] 3)) w.heap.size 23 (by simp)
  rw [show (w.alloc (.cells #[] 3)).heap.size = w.heap.size + 1 by simp] at hO2
  replace hM := Lib.hid hM
  replace hr := Lib.hid hr
  replace hO1 := Lib.hid hO1
  replace hO2 := Lib.hid hO2
  replace hk2 := Lib.hid hk2
  clear hk1
  go_enter Try.func32, Try.ntmps32
  go_wp2
  generalize (w.alloc (.cells #[] 3)).alloc (.cells #[] 23) = W at *
  go_loopw [6, 7, 8] (fun v1 v2 iv wr => ∃ k : Nat, iv = .int .i64 k ∧ k ≤ M ∧ shI.O wr w.heap.size 3 v1 (hsL b (L.take k)) ∧ shW.O wr w.heap.size 23 v2 (wsL b (L.take k)) ∧ Keeps [] w wr) (fun _ _ iv _ => M - (intOf iv).toNat)
  case atStart => exact ⟨0, rfl, by omega, hO1.out, hO2.out, hk2.out⟩
  case round =>
    obtain ⟨k, rfl, hk, h1, h2, hkr⟩ := hrel
    have hsz := hkr.size
    by_cases hlt : k < M
    · have hkl : k < L.length := by rw [hM.out]; exact hlt
      obtain ⟨g, o, c', hv, e0, e1, e2⟩ := elemE (hr.out.keeps hkr) hkl
      rw [hM.out] at hv
      cases hv
      have s1 := hsL_snoc (b := b) hkl
      have s2 := wsL_snoc (b := b) hkl
      obtain ⟨y, hy⟩ : ∃ y, L[k] = y := ⟨_, rfl⟩
      rw [hy] at e0 e1 e2 s1 s2
      obtain ⟨y1, y2, y3⟩ := y
      simp only at e0 e1 e2 s1 s2
      have l1 : (hsL b (L.take k)).length ≤ k := Nat.le_trans hsL_len (by rw [List.length_take]; omega)
      have l2 : (wsL b (L.take k)).length ≤ k := Nat.le_trans wsL_len (by rw [List.length_take]; omega)
      replace hy := Lib.hid hy
      replace h1 := Lib.hid h1
      replace h2 := Lib.hid h2
      replace hkr := Lib.hid hkr
      replace l1 := Lib.hid l1
      replace l2 := Lib.hid l2
      by_cases hb : y3 = b
      · have hbb : (y3 == b) = true := by simp [hb]
        rw [if_pos hbb] at s1 s2
        replace hb := Lib.hid hb
        replace s1 := Lib.hid s1
        replace s2 := Lib.hid s2
        have hgw : g < wr.heap.size := lt_of_cell e0
        have hgn : g < w.heap.size := by
          obtain ⟨g', o', c'', hv, e0', _⟩ := elemE hr.out hkl
          simp at hv
          obtain ⟨⟨rfl, rfl⟩, _⟩ := hv
          exact lt_of_cell e0'
        obtain ⟨a1, c1, rfl⟩ := h1.out.form
        obtain ⟨a2, c2, rfl⟩ := h2.out.form
        go_wp2
        obtain ⟨n1, hn1⟩ : ∃ n, (hsL b (L.take k)).length = n := ⟨_, rfl⟩
        obtain ⟨n2, hn2⟩ : ∃ n, (wsL b (L.take k)).length = n := ⟨_, rfl⟩
        rw [hn1] at h1 l1 ⊢
        rw [hn2] at h2 l2 ⊢
        have hb1 : ∀ g, (Value.slice a1 n1 c1).ownBlock = some g → w.heap.size ≤ g ∧ g < wr.heap.size := fun g e => ⟨h1.out.ge g e, h1.out.lt g e⟩
        have hb2 : ∀ g, (Value.slice a2 n2 c2).ownBlock = some g → w.heap.size ≤ g ∧ g < wr.heap.size := fun g e => ⟨h2.out.ge g e, h2.out.lt g e⟩
        have hap : ∀ g, (Value.slice a1 n1 c1).ownBlock = some g → (Value.slice a2 n2 c2).ownBlock ≠ some g := Sh.O.apart h1.out h2.out (by decide)
        replace hb1 := Lib.hid hb1
        replace hb2 := Lib.hid hb2
        replace hap := Lib.hid hap
        refine Free.wp_region_free (by kernel_rfl) (by kernel_rfl) L2 (F2 w.heap.size wr.heap.size (Value.slice a1 n1 c1).ownBlock (Value.slice a2 n2 c2).ownBlock (hsL b (L.take k)) (wsL b (L.take k)) y1 y2) (T2 (Value.slice a1 n1 c1).ownBlock (Value.slice a2 n2 c2).ownBlock) (fun _ _ => false) (hst2 hb1.out hb2.out hap.out) ?_
        have hlow : ∀ (ops : Array Oper) (i b : Nat), Free.sx ops (T2 (Value.slice a1 n1 c1).ownBlock (Value.slice a2 n2 c2).ownBlock) i b → w.heap.size ≤ b := fun _ _ _ h => by
          obtain ⟨k, _, _, h⟩ := h
          rcases T2_cases h with h | h
          · exact (hb1.out _ h).1
          · exact (hb2.out _ h).1
        replace hlow := Lib.hid hlow
        (apply Free.walk_quiet rfl rfl; (intro w' hg hf; clear hf; go_simp <;> exact rfl))
        (apply Free.walk_quiet rfl rfl; (intro w' hg hf; clear hf; go_simp <;> exact rfl))
        (apply Free.walk_quiet rfl rfl; (intro w' hg hf; clear hf; go_simp <;> exact rfl))
        (apply Free.walk_quiet rfl rfl; (intro w' hg hf; clear hf; go_simp <;> exact rfl))
        (apply Free.walk_quiet rfl rfl; (intro w' hg hf; clear hf; go_simp <;> exact rfl))
        apply Free.walk_quiet rfl rfl
        · intro w' hg hf; clear hf
          have hT := (hg.cell _ _ hgw (fun h => by have := hlow.out _ _ _ h; omega)).trans e0
          go_simp <;> exact rfl
        apply Free.walk_loud rfl rfl
        · intro w' hg hf; clear hf
          have hwB : wr.heap.size ≤ w'.heap.size := hg.size
          go_simp
          exact ⟨⟨w'.heap.size, rfl, hwB, by simp⟩, Free.KeepsP.alloc _ _ _⟩
        intro v6
        apply Free.walk_loud rfl rfl
        · intro w' hg hf
          have hwB : wr.heap.size ≤ w'.heap.size := hg.size
          obtain ⟨g3, rfl, hg3, hc3⟩ : F2 w.heap.size wr.heap.size (Value.slice a1 n1 c1).ownBlock (Value.slice a2 n2 c2).ownBlock (hsL b (L.take k)) (wsL b (L.take k)) y1 y2 6 v6 w' := by simpa using hf 6 (by decide) (by kernel_rfl)
          have hown : shI.O w' w.heap.size 3 (.slice a1 n1 c1) (hsL b (L.take k)) := (h1.out.keeps (Keeps.refl [] wr).drew).keepP hg (fun g hg1 h => by
            obtain ⟨kk, hne, _, hT⟩ := h
            unfold T2 at hT
            split at hT
            · exact hne rfl
            · exact hap.out g hg1 hT
            · exact hT)
          clear hf
          refine Sh.loud_app shI w.heap.size infI rfl Try.underlying46 (.slice a1 n1 c1) (.slice (some ⟨g3, 0, none⟩) 1 1) (hsL b (L.take k)) [y1] (.tmp 24) (.tmp 30) rfl (by simp [Act.eval, Act.put]) (by simp [Act.eval, Act.put]) hown ⟨rfl, _, _, rfl, Nat.le_refl _, by simp [maxLen], by simp, fun _ => ⟨g3, 0, rfl, fun j u hj => by
            match j, hj with
            | 0, hj => simp [shI, Sh.cs] at hj; subst hj; exact hc3⟩⟩ (by have := l1.out; rw [hn1]; simp; omega) (by omega) ?_
          intro v' w'' ho hgr
          refine ⟨⟨ho, fun g hg' => ?_⟩, Free.KeepsP.grown hgr.grown (fun b hb => hb)⟩
          rcases hgr.own with h | ⟨j, h, hj⟩
          · rw [h] at hg'; exact .inl hg'
          · rw [h] at hg'; cases hg'; exact .inr (by omega)
        intro v7
        (apply Free.walk_quiet rfl rfl; (intro w' hg hf; clear hf; go_simp <;> exact rfl))
        (apply Free.walk_quiet rfl rfl; (intro w' hg hf; clear hf; go_simp <;> exact rfl))
        (apply Free.walk_quiet rfl rfl; (intro w' hg hf; clear hf; go_simp <;> exact rfl))
        (apply Free.walk_quiet rfl rfl; (intro w' hg hf; clear hf; go_simp <;> exact rfl))
        (apply Free.walk_quiet rfl rfl; (intro w' hg hf; clear hf; go_simp <;> exact rfl))
        apply Free.walk_quiet rfl rfl
        · intro w' hg hf; clear hf
          have hT := (hg.cell _ _ hgw (fun h => by have := hlow.out _ _ _ h; omega)).trans e1
          go_simp <;> exact rfl
        apply Free.walk_loud rfl rfl
        · intro w' hg hf; clear hf
          have hwB : wr.heap.size ≤ w'.heap.size := hg.size
          go_simp
          exact ⟨⟨w'.heap.size, rfl, hwB, by simp⟩, Free.KeepsP.alloc _ _ _⟩
        intro v14
        apply Free.walk_loud rfl rfl
        · intro w' hg hf
          have hwB : wr.heap.size ≤ w'.heap.size := hg.size
          obtain ⟨g3, rfl, hg3, hc3⟩ : F2 w.heap.size wr.heap.size (Value.slice a1 n1 c1).ownBlock (Value.slice a2 n2 c2).ownBlock (hsL b (L.take k)) (wsL b (L.take k)) y1 y2 14 v14 w' := by simpa using hf 14 (by decide) (by kernel_rfl)
          have hown : shW.O w' w.heap.size 23 (.slice a2 n2 c2) (wsL b (L.take k)) := (h2.out.keeps (Keeps.refl [] wr).drew).keepP hg (fun g hg1 h => by
            obtain ⟨kk, hne, _, hT⟩ := h
            unfold T2 at hT
            split at hT
            · exact hap.out g hT hg1
            · exact hne rfl
            · exact hT)
          clear hf
          refine Sh.loud_app shW w.heap.size infW rfl Try.underlying48 (.slice a2 n2 c2) (.slice (some ⟨g3, 0, none⟩) 1 1) (wsL b (L.take k)) [y2] (.tmp 32) (.tmp 38) rfl (by simp [Act.eval, Act.put]) (by simp [Act.eval, Act.put]) hown ⟨rfl, _, _, rfl, Nat.le_refl _, by simp [maxLen], by simp, fun _ => ⟨g3, 0, rfl, fun j u hj => by
            match j, hj with
            | 0, hj => simp [shW, Sh.cs] at hj; subst hj; exact hc3⟩⟩ (by have := l2.out; rw [hn2]; simp; omega) (by omega) ?_
          intro v' w'' ho hgr
          refine ⟨⟨ho, fun g hg' => ?_⟩, Free.KeepsP.grown hgr.grown (fun b hb => hb)⟩
          rcases hgr.own with h | ⟨j, h, hj⟩
          · rw [h] at hg'; exact .inl hg'
          · rw [h] at hg'; cases hg'; exact .inr (by omega)
        intro v15
        (apply Free.walk_quiet rfl rfl; (intro w' hg hf; clear hf; go_simp <;> exact rfl))
        (apply Free.walk_quiet rfl rfl; (intro w' hg hf; clear hf; go_simp <;> exact rfl))
        refine Free.walk_nil ?_
        intro w3 hg hf
        have hF7 : F2 w.heap.size wr.heap.size (Value.slice a1 n1 c1).ownBlock (Value.slice a2 n2 c2).ownBlock (hsL b (L.take k)) (wsL b (L.take k)) y1 y2 7 v7 w3 := by simpa using hf 7 (by decide) (by kernel_rfl)
        have hF15 : F2 w.heap.size wr.heap.size (Value.slice a1 n1 c1).ownBlock (Value.slice a2 n2 c2).ownBlock (hsL b (L.take k)) (wsL b (L.take k)) y1 y2 15 v15 w3 := by simpa using hf 15 (by decide) (by kernel_rfl)
        have hw3 : Keeps [] w w3 := hg.to hkr.out.drew (fun b h => by
          obtain ⟨kk, h⟩ := h
          rcases T2_cases h with h | h
          · exact .inr (hb1.out _ h).1
          · exact .inr (hb2.out _ h).1)
        obtain ⟨hO7, _⟩ := hF7
        obtain ⟨hO15, _⟩ := hF15
        rw [← s1.out] at hO7
        rw [← s2.out] at hO15
        replace hO7 := Lib.hid hO7
        replace hO15 := Lib.hid hO15
        replace hw3 := Lib.hid hw3
        clear hf hg
        go_frame
        go_wp2
        go_roundw
        case rel => exact ⟨k + 1, rfl, by omega, hO7.out, hO15.out, hw3.out⟩
        case measure => simp [intOf]; omega
      · have hbb : (y3 == b) = false := by simp [hb]
        rw [if_neg (by simp [hb])] at s1 s2
        rw [List.append_nil] at s1 s2
        replace hb := Lib.hid hb
        replace s1 := Lib.hid s1
        replace s2 := Lib.hid s2
        go_wp2
        go_roundw
        case rel => exact ⟨k + 1, rfl, by omega, by rw [s1.out]; exact h1.out, by rw [s2.out]; exact h2.out, hkr.out⟩
        case measure => simp [intOf]; omega
    · have hkM : k = M := by omega
      have hall : L.take k = L := List.take_of_length_le (by rw [hM.out]; omega)
      rw [hall] at h1 h2
      replace hall := Lib.hid hall
      replace h1 := Lib.hid h1
      replace h2 := Lib.hid h2
      replace hkr := Lib.hid hkr
      go_wp2
      go_ret2
      exact ⟨_, _, rfl, h1.out.r, h2.out.r, hkr.out⟩
end Go.Proofs.Ytmamlipgfkmcjaa

namespace Go.Proofs
open Go.Shelf
def Try.sortedA_ren : Go.Shelf.Ren := ⟨fun | 6 => 46 | 8 => 63 | 9 => 35 | 11 => 75 | 13 => 55 | 12 => 54 | 23 => 73 | 24 => 74 | 14 => 64 | 15 => 65 | 16 => 66 | 17 => 67 | 18 => 68 | 19 => 69 | 20 => 70 | 21 => 71 | 22 => 72 | 25 => 76 | 26 => 77 | 27 => 78 | 28 => 79 | 29 => 80 | 30 => 81 | 31 => 82 | n => n, fun | 26 => 3 | 28 => 77 | 24 => 46 | 0 => 0 | 3 => 3 | 37 => 97 | 48 => 115 | 50 => 23 | 4 => 4 | 40 => 107 | 39 => 106 | 45 => 112 | 5 => 5 | 9 => 9 | 51 => 118 | 55 => 121 | 57 => 123 | 58 => 124 | 33 => 35 | n => n, fun | n => n⟩
theorem Try.sortedA : Go.Proofs.SlLaysZI.n6 Try.prog Try.sortedA_ren := {
  mixed := by kernel_rfl
  f6 := ⟨Try.f46.name, by decide, Try.func46.trans (congrArg some (by kernel_rfl))⟩
  f8 := ⟨Try.f63.name, by decide, Try.func63.trans (congrArg some (by kernel_rfl))⟩
  f11 := ⟨Try.f75.name, by decide, Try.func75.trans (congrArg some (by kernel_rfl))⟩
  t0 := Try.underlying0
  a0 := Try.isAgg0
  z0 := Try.sizeOf0
  v0 := Try.zeroValue0
  t24 := Try.underlying46
  a24 := Try.isAgg46
  z24 := Try.sizeOf46
  v24 := Try.zeroValue46
  t26 := Try.underlying3
  a26 := Try.isAgg3
  z26 := Try.sizeOf3
  v26 := Try.zeroValue3
  t28 := Try.underlying77
  a28 := Try.isAgg77
  z28 := Try.sizeOf77
  v28 := Try.zeroValue77
  i26 := by kernel_rfl }
def Try.sortA_ren : Go.Shelf.Ren := ⟨fun | 5 => 35 | 8 => 55 | 7 => 54 | 19 => 73 | 20 => 74 | 10 => 64 | 11 => 65 | 12 => 66 | 13 => 67 | 14 => 68 | 15 => 69 | 16 => 70 | 17 => 71 | 18 => 72 | 30 => 76 | 31 => 77 | 32 => 78 | 33 => 79 | 34 => 80 | 35 => 81 | 40 => 82 | n => n, fun | 23 => 46 | 25 => 3 | 3 => 3 | 32 => 97 | 22 => 46 | 0 => 0 | 44 => 115 | 46 => 23 | 4 => 4 | 36 => 107 | 35 => 106 | 41 => 112 | 5 => 5 | 9 => 9 | 53 => 118 | 57 => 121 | 63 => 123 | 64 => 124 | n => n, fun | n => n⟩
theorem Try.sortA : Go.Proofs.SlLaysM.n5 Try.prog Try.sortA_ren := {
  mixed := by kernel_rfl
  f5 := ⟨Try.f35.name, by decide, Try.func35.trans (congrArg some (by kernel_rfl))⟩
  f7 := ⟨Try.f54.name, by decide, Try.func54.trans (congrArg some (by kernel_rfl))⟩
  f8 := Try.func55.trans (congrArg some (by kernel_rfl))
  f10 := ⟨Try.f64.name, by decide, Try.func64.trans (congrArg some (by kernel_rfl))⟩
  f11 := ⟨Try.f65.name, by decide, Try.func65.trans (congrArg some (by kernel_rfl))⟩
  f12 := ⟨Try.f66.name, by decide, Try.func66.trans (congrArg some (by kernel_rfl))⟩
  f13 := ⟨Try.f67.name, by decide, Try.func67.trans (congrArg some (by kernel_rfl))⟩
  f14 := ⟨Try.f68.name, by decide, Try.func68.trans (congrArg some (by kernel_rfl))⟩
  f15 := ⟨Try.f69.name, by decide, Try.func69.trans (congrArg some (by kernel_rfl))⟩
  f16 := ⟨Try.f70.name, by decide, Try.func70.trans (congrArg some (by kernel_rfl))⟩
  f17 := ⟨Try.f71.name, by decide, Try.func71.trans (congrArg some (by kernel_rfl))⟩
  f18 := ⟨Try.f72.name, by decide, Try.func72.trans (congrArg some (by kernel_rfl))⟩
  f19 := Try.func73.trans (congrArg some (by kernel_rfl))
  f20 := Try.func74.trans (congrArg some (by kernel_rfl))
  f30 := ⟨Try.f76.name, by decide, Try.func76.trans (congrArg some (by kernel_rfl))⟩
  f31 := Try.func77.trans (congrArg some (by kernel_rfl))
  f32 := Try.func78.trans (congrArg some (by kernel_rfl))
  f33 := ⟨Try.f79.name, by decide, Try.func79.trans (congrArg some (by kernel_rfl))⟩
  f34 := ⟨Try.f80.name, by decide, Try.func80.trans (congrArg some (by kernel_rfl))⟩
  f35 := ⟨Try.f81.name, by decide, Try.func81.trans (congrArg some (by kernel_rfl))⟩
  f40 := ⟨Try.f82.name, by decide, Try.func82.trans (congrArg some (by kernel_rfl))⟩
  t0 := Try.underlying0
  a0 := Try.isAgg0
  z0 := Try.sizeOf0
  v0 := Try.zeroValue0
  t3 := Try.underlying3
  a3 := Try.isAgg3
  z3 := Try.sizeOf3
  v3 := Try.zeroValue3
  t4 := Try.underlying4
  a4 := Try.isAgg4
  z4 := Try.sizeOf4
  v4 := Try.zeroValue4
  t5 := Try.underlying5
  a5 := Try.isAgg5
  z5 := Try.sizeOf5
  v5 := Try.zeroValue5
  t9 := Try.underlying9
  a9 := Try.isAgg9
  z9 := Try.sizeOf9
  v9 := Try.zeroValue9
  t22 := Try.underlying46
  a22 := Try.isAgg46
  z22 := Try.sizeOf46
  v22 := Try.zeroValue46
  t23 := Try.underlying46
  a23 := Try.isAgg46
  z23 := Try.sizeOf46
  v23 := Try.zeroValue46
  t25 := Try.underlying3
  a25 := Try.isAgg3
  z25 := Try.sizeOf3
  v25 := Try.zeroValue3
  t32 := Try.underlying97
  a32 := Try.isAgg97
  z32 := Try.sizeOf97
  v32 := Try.zeroValue97
  t35 := Try.underlying106
  a35 := Try.isAgg106
  z35 := Try.sizeOf106
  v35 := Try.zeroValue106
  t36 := Try.underlying107
  a36 := Try.isAgg107
  z36 := Try.sizeOf107
  v36 := Try.zeroValue107
  t41 := Try.underlying112
  a41 := Try.isAgg112
  z41 := Try.sizeOf112
  v41 := Try.zeroValue112
  t44 := Try.underlying115
  a44 := Try.isAgg115
  z44 := Try.sizeOf115
  v44 := Try.zeroValue115
  t46 := Try.underlying23
  a46 := Try.isAgg23
  z46 := Try.sizeOf23
  v46 := Try.zeroValue23
  t53 := Try.underlying118
  a53 := Try.isAgg118
  z53 := Try.sizeOf118
  v53 := Try.zeroValue118
  t57 := Try.underlying121
  a57 := Try.isAgg121
  z57 := Try.sizeOf121
  v57 := Try.zeroValue121
  t63 := Try.underlying123
  a63 := Try.isAgg123
  z63 := Try.sizeOf123
  v63 := Try.zeroValue123
  t64 := Try.underlying124
  a64 := Try.isAgg124
  z64 := Try.sizeOf124
  v64 := Try.zeroValue124 }
end Go.Proofs

namespace Go.Proofs.Ytmamlipgfkmcjaa
open Go.RowKit Go.Maps Go.Sort Go.Shelf Go.Proofs
attribute [local go_sem] Oper.semAt_some

theorem cell1 {w : World} {b : Nat} {x0 : Value} {t : TypeId} (h : w.heap[b]? = some (.cells #[x0] t (0, 0))) : w.cell? ⟨b, 0, none⟩ = some x0 ∧ w.frozen? ⟨b, 0, none⟩ = false := ⟨by simp [World.cell?, h], by simp [World.frozen?, h]⟩
set_option maxRecDepth 100000 in
set_option maxHeartbeats 1000000 in
theorem sel1_c (n Bw : Nat) (b : Bool) (x : Nat) (b' : Bool) (W : World) (hb : W.cell? ⟨Bw, 0, none⟩ = some (.bool b)) :
    CallsIn Fence.wide n Try.prog 34 (#[vfE (x, b')] ++ #[.pointer (some ⟨Bw, 0, none⟩)]) W fun e W' => e = .returned (.bool (b' == b)) ∧ W.grownBy W' none := by
  refine (callsIn_wide (n := n)).2 ?_
  have hba := ((Keeps.refl [] W).alloc (.cells #[.int .u64 x, .bool b'] 69)).val hb
  go_enter Try.func34, Try.ntmps34
  go_wp2
  go_ret
  exact ⟨rfl, World.grownBy_alloc _ _ _⟩
set_option maxRecDepth 100000 in
set_option maxHeartbeats 1000000 in
theorem all_c (w : World) (bt fsel : Nat) (lbs : Array Value) :
    Calls Try.prog 33 #[.pointer (some ⟨bt, 0, none⟩), .func (.func fsel) #[] lbs] w fun e w' => e = .returned (.func (.func 53) #[] #[.pointer (some ⟨w.heap.size, 0, none⟩), .pointer (some ⟨w.heap.size + 1, 0, none⟩)]) ∧
      w' = (w.alloc (.cells #[.pointer (some ⟨bt, 0, none⟩)] 25)).alloc (.cells #[.func (.func fsel) #[] lbs] 79) := by
  go_enter Try.func33, Try.ntmps33
  go_wp2
  go_ret
  exact ⟨rfl, rfl⟩
theorem asc_ext : ∀ {l m : List Int}, l.Pairwise (· < ·) → m.Pairwise (· < ·) → (∀ a, a ∈ l ↔ a ∈ m) → l = m
  | [], [], _, _, _ => rfl
  | [], b :: m, _, _, h => absurd ((h b).2 (by simp)) (by simp)
  | a :: l, [], _, _, h => absurd ((h a).1 (by simp)) (by simp)
  | a :: l, b :: m, hl, hm, h => by
    obtain ⟨l1, l2⟩ := List.pairwise_cons.1 hl
    obtain ⟨m1, m2⟩ := List.pairwise_cons.1 hm
    have e : a = b := by
      rcases List.mem_cons.1 ((h a).1 (by simp)) with e | e
      · exact e
      · rcases List.mem_cons.1 ((h b).2 (by simp)) with e' | e'
        · exact e'.symm
        · have := l1 _ e'; have := m1 _ e; omega
    subst e
    rw [asc_ext l2 m2 fun x => ?_]
    have hx := h x
    simp only [List.mem_cons] at hx
    constructor
    · intro hm
      have := l1 x hm
      rcases hx.1 (.inr hm) with e | e
      · omega
      · exact e
    · intro hm
      have := m1 x hm
      rcases hx.2 (.inr hm) with e | e
      · omega
      · exact e
theorem sorted_of {ss l : List Int} (hn : ss.Nodup) (hl : l.Pairwise (· < ·)) (hm : ∀ a, a ∈ ss ↔ a ∈ l) : ss.mergeSort (fun x y => decide (x ≤ y)) = l := by
  have hp := List.mergeSort_perm ss (fun x y => decide (x ≤ y))
  have hs : (ss.mergeSort (fun x y => decide (x ≤ y))).Pairwise (fun x y => decide (x ≤ y) = true) :=
    List.pairwise_mergeSort (by intro a b c h h'; simp at *; omega) (by intro a b; simp; omega) ss
  have hnd : (ss.mergeSort (fun x y => decide (x ≤ y))).Nodup := hp.nodup_iff.2 hn
  refine asc_ext (hs.imp₂ (fun a b h1 h2 => ?_) hnd) hl fun a => (hp.mem_iff).trans (hm a)
  simp at h1
  omega
theorem hsL_asc {b : Bool} {L : List Hn} (h : MapL.Asc L) : (hsL b L).Pairwise (· < ·) := by
  unfold hsL
  rw [List.pairwise_map]
  exact (h.filter _).imp (fun h => h)
theorem hsL_mem {b : Bool} {L : List Hn} (h : MapL.Asc L) (k : Int) : k ∈ hsL b L ↔ ∃ p, MapL.get k L = some p ∧ (p.2 == b) = true := by
  unfold hsL
  rw [List.mem_map]
  constructor
  · rintro ⟨⟨x, p⟩, hm, rfl⟩
    obtain ⟨h1, h2⟩ := List.mem_filter.1 hm
    exact ⟨p, MapL.get_of_mem h h1, h2⟩
  · rintro ⟨p, h1, h2⟩
    exact ⟨(k, p), List.mem_filter.2 ⟨MapL.get_mem h1, h2⟩, rfl⟩
/-- A list of numbers of the call's own, sorted. -/
def SlIPost (w : World) (l : List Int) (e : Ending) (w' : World) : Prop := ∃ v, e = .returned v ∧ shI.R w' v l ∧ Keeps [] w w'
set_option maxRecDepth 100000 in
set_option maxHeartbeats 4000000 in
theorem list_c (w : World) (bt bm : Nat) (L : List Hn) (b : Bool) (t : TM w bt bm L) (ha : MapL.Asc L) (hL : L.length < 1000000) :
    Calls Try.prog 20 #[.pointer (some ⟨bt, 0, none⟩), .bool b] w (SlIPost w (hsL b L)) := by
  obtain ⟨x1, hx1⟩ : ∃ x, x = w.heap.size := ⟨_, rfl⟩
  have hk1 := (Keeps.refl [] w).alloc (.cells #[.bool b] 4)
  have hw1 := heap_alloc_new w (.cells #[.bool b] 4)
  have hk2 := (Keeps.refl [] (w.alloc (.cells #[.bool b] 4))).alloc (.cells #[.slice none 0 0] 46)
  have hX2 := heap_alloc_new (w.alloc (.cells #[.bool b] 4)) (.cells #[.slice none 0 0] 46)
  have hz1 : (w.alloc (.cells #[.bool b] 4)).heap.size = w.heap.size + 1 := by simp
  have hz2 : ((w.alloc (.cells #[.bool b] 4)).alloc (.cells #[.slice none 0 0] 46)).heap.size = w.heap.size + 2 := by simp
  rw [hz1] at hX2
  have hbw2 := (hk2.block _ (by simp) (by simp)).trans hw1
  have hk02 := hk1.trans hk2
  obtain ⟨W2, hW2⟩ : ∃ W2, (w.alloc (.cells #[.bool b] 4)).alloc (.cells #[.slice none 0 0] 46) = W2 := ⟨_, rfl⟩
  rw [hW2] at hX2 hbw2 hk02 hz2
  have hk3 := (Keeps.refl [] W2).alloc (.cells #[.pointer (some ⟨bt, 0, none⟩)] 25)
  have hb3 := heap_alloc_new W2 (.cells #[.pointer (some ⟨bt, 0, none⟩)] 25)
  rw [hz2] at hb3
  have hz3 : (W2.alloc (.cells #[.pointer (some ⟨bt, 0, none⟩)] 25)).heap.size = w.heap.size + 3 := by simp [hz2]
  have hk4 := (Keeps.refl [] (W2.alloc (.cells #[.pointer (some ⟨bt, 0, none⟩)] 25))).alloc (.cells #[.func (.func 34) #[] #[.pointer (some ⟨w.heap.size, 0, none⟩)]] 79)
  have hb4 := heap_alloc_new (W2.alloc (.cells #[.pointer (some ⟨bt, 0, none⟩)] 25)) (.cells #[.func (.func 34) #[] #[.pointer (some ⟨w.heap.size, 0, none⟩)]] 79)
  rw [hz3] at hb4
  have hb34 := (hk4.block _ (by rw [hz3]; omega) (by simp)).trans hb3
  have hk24 := hk3.trans hk4
  obtain ⟨W4, hW4⟩ : ∃ W4, (W2.alloc (.cells #[.pointer (some ⟨bt, 0, none⟩)] 25)).alloc (.cells #[.func (.func 34) #[] #[.pointer (some ⟨w.heap.size, 0, none⟩)]] 79) = W4 := ⟨_, rfl⟩
  have hz4 : W4.heap.size = w.heap.size + 4 := by rw [← hW4]; simp [hz2]
  rw [hW4] at hb4 hb34 hk24
  have hX4 := (hk24.block _ (lt_of_block hX2) (by simp)).trans hX2
  have hbw4 := (hk24.block _ (lt_of_block hbw2) (by simp)).trans hbw2
  have hk04 := hk02.trans hk24
  have ht4 := t.keeps hk04
  have hbtl := lt_of_block t.blk
  replace hW2 := Lib.hid hW2
  replace hW4 := Lib.hid hW4
  replace hk04 := Lib.hid hk04
  replace ha := Lib.hid ha
  replace hz4 := Lib.hid hz4
  replace hz2 := Lib.hid hz2
  clear hk1 hw1 hk2 hk3 hk4 hb3 hX2 hbw2 hk02 hk24 hz1 hz3 hx1 x1
  have hne : bt ≠ w.heap.size + 1 := by omega
  refine (callsIn_wide (n := 8)).1 ?_
  refine callsIn_of_wp_marks Try.func20 rfl trivial ?_ rfl
  simp only [Try.ntmps20, List.size_toArray, List.length_cons, List.length_nil, Nat.reduceAdd, Nat.reduceSub, Array.replicate_succ, Array.replicate_zero, List.push_toArray, List.append_toArray, List.nil_append, List.cons_append]
  refine wpIn_wide.2 ?_
  go_wp2_with fail
  rw [hW2.out]
  refine (all_c _ bt _ _).mono ?_
  rintro e w3 ⟨rfl, hw3⟩
  rw [hW4.out] at hw3
  subst hw3
  rw [hz2.out]
  obtain ⟨B, hB⟩ : ∃ B, w.heap.size = B := ⟨_, rfl⟩
  rw [hB] at hb34 hb4 hX4 hbw4 hbtl hne ⊢
  have hz4' := hz4.out
  rw [hB] at hz4'
  replace hz4' := Lib.hid hz4'
  replace hB := Lib.hid hB
  go_wp2
  refine (wpIn_wide (n := 8)).1 ?_
  have hst := all1_stops 34 #[.pointer (some ⟨B, 0, none⟩)] (fun p => p.2 == b) 7 (B + 2) (B + 3) bt bm [B + 2, B + 3, bt, B] L w3 (by omega) (cell1 hb34).1 (cell1 hb4).1 ht4 (by simp) (by have := hz4'.out; simp; omega)
    (fun W x b' hS => sel1_c 6 B b x b' W ((cell_blk (hS B (by simp))).trans (cell1 hbw4).1)) (enters_of Try.func34 (by kernel_rfl) rfl)
  refine wpIn_rangeFunc_ownF rfl (by omega) (gf := 53) (lb := #[.pointer (some ⟨B + 2, 0, none⟩), .pointer (some ⟨B + 3, 0, none⟩)]) rfl trivial (enters_of Try.func53 (by kernel_rfl) rfl) hst kpS_t (kpS_b (by have := hz4'.out; simp; omega)) (Below.refl _ _) (fun _ => rfl)
    (fun pre W => (∃ v, Boxed W (B + 1) 46 v ∧ W.ownsRow (B + 4) 3 1 v pre.length (pre.map (Value.int .i64)) ∧ True) ∧ (Keeps [] w W ∧ B + 4 ≤ W.heap.size))
    (fun _ _ _ => False) ?hI (fun _ _ _ _ _ hs _ _ => hs) ⟨⟨_, hX4, World.ownsRow_nil _ _ _ _, trivial⟩, hk04.out, by have := hz4'.out; omega⟩
    (fun y => { tmps := List.toArray ((.pointer (some ⟨bt, 0, none⟩) : Value) :: .bool b :: undef :: .pointer (some ⟨B, 0, none⟩) :: .slice none 0 0 :: .pointer (some ⟨B + 1, 0, none⟩) :: .int .i64 y :: .pointer (some ⟨bt, 0, none⟩) :: .func (.func 34) #[] #[.pointer (some ⟨B, 0, none⟩)] :: .func (.func 53) #[] #[.pointer (some ⟨B + 2, 0, none⟩), .pointer (some ⟨B + 3, 0, none⟩)] :: .int .i64 y :: undef :: undef :: undef :: undef :: undef :: undef :: undef :: []), defers := [] }) ?assign ?body ?done ?stop
  case hI =>
    exact OwnFrom.and (Own.from (holdsRow_own (B + 4) (B + 1) 46 3 1 (fun pre : List Int => pre.length) (fun pre : List Int => pre.map (Value.int .i64)) (fun _ _ => True)) _) (fun s X Y row hs hg hr => ⟨hs.1.grown hg (fun k e => .inl (by have := (hr k e).1; have := hk04.out.size; omega)), Nat.le_trans hs.2 hg.size⟩)
  case assign =>
    intro l y W K hK
    gi_wp2
    exact hK
  case body =>
    rintro l pre x W ⟨⟨v, hv, hrow, _⟩, hkW, hBW⟩ hlt
    obtain ⟨i0, hi, hz0, hz1', hz2'⟩ := info_parts infI
    obtain ⟨x0, xf⟩ := cell1 hv
    have hXW := lt_of_block hv
    have hpl : pre.length < 1000000 := by omega
    gi_wp2_with (gi_at_builtin; refine wpListIn_append_own _ rfl _ _ 46 rfl (B + 4) 3 i0 (.int .i64 0) 1 8 Try.underlying46 hi hz0 hz1' hz2' rfl (by decide) _ _ _ rfl (hrow.alloc _) ⟨W.heap.size, 0, none⟩ 1 1 [.int .i64 x] rfl rfl (cell_one_new _ _ _) (by simp [Value.oneCell']) (by unfold Go.maxLen; omega) (by omega) (by simp; omega) ?_; intro v' w1 hown' hgrow _; replace hgrow : (W.alloc (.cells #[.int .i64 x] 3)).grownBy w1 v.ownBlock := hgrow; have hkA : Keeps v.ownBlock.toList W w1 := ((Keeps.refl _ W).alloc _).grown hgrow (fun k e => .inr (by simp [e])); have hx1 := (hkA.block _ hXW (fun hm => by have := ownBlock_ge hrow _ (by simpa using hm); omega)).trans hv; obtain ⟨c1', f1'⟩ := cell1 hx1; have hsub := (ownBlock_ge hown'); obtain ⟨g', cap', rfl⟩ := ownsRow_succ hown')
    have hgb := hsub g' rfl
    have hkf : Keeps ((B + 1) :: v.ownBlock.toList) W (w1.setCell ⟨B + 1, 0, none⟩ (.slice (some ⟨g', 0, none⟩) (pre.length + 1) cap')) := (hkA.mono (fun k hk => by simp [hk])).setCell (p := ⟨B + 1, 0, none⟩) (.inr (by simp)) _
    have hnot : ∀ b, b < B + 4 → b ≠ B + 1 → b ∉ (B + 1) :: v.ownBlock.toList := fun b hb hne hm => by
      rcases List.mem_cons.1 hm with e | e
      · exact hne e
      · have := ownBlock_ge hrow _ (by simpa using e : v.ownBlock = some b); omega
    have hko : KeepsOthers W (w1.setCell ⟨B + 1, 0, none⟩ (.slice (some ⟨g', 0, none⟩) (pre.length + 1) cap')) := by
      refine ((KeepsOthers.alloc W (.cells #[.int .i64 x] 3)).trans (KeepsOthers.of_grownBy hgrow fun j o ej hj2 => ?_)).trans (KeepsOthers.setCell _ _ _)
      rcases (hrow.alloc (.cells #[.int .i64 x] 3)).2 with ⟨rfl, _⟩ | ⟨g, cap, cur, rfl, _, hg, _⟩
      · simp [Value.ownBlock] at ej
      · simp [Value.ownBlock] at ej; subst ej; rw [hg] at hj2; cases hj2; rfl
    refine ⟨hko, ⟨fun b hb => hkf.block b (by simp at hb; omega) (hnot b (by simp at hb; omega) (by simp at hb; omega)), hko.walks⟩, ⟨_, Boxed.set _ hx1, ?_, trivial⟩, ?_, ?_⟩
    · have := hown'.kept (grownBy_setCell' w1 (B + 1) (.slice (some ⟨g', 0, none⟩) (pre.length + 1) cap')) (.inr (fun e => by simp [Value.ownBlock] at e; omega))
      simpa using this
    · exact ((hkW.alloc _).grown hgrow (fun k e => .inl (by have := ownBlock_ge hrow _ e; have := hB.out; omega))).setCell (p := ⟨B + 1, 0, none⟩) (.inl (by have := hB.out; show _ ≤ B + 1; omega)) _
    · have := hkf.size; omega
  case done =>
    rintro D xs W hD ⟨hnd, hmem⟩ ⟨⟨v, hv, hrow, _⟩, hkW, hBW⟩ hK
    obtain ⟨x0, xf⟩ := cell1 hv
    have hsort : xs.mergeSort (fun x y => decide (x ≤ y)) = hsL b L := sorted_of hnd (hsL_asc ha.out) (fun k => by rw [hmem k, hsL_mem ha.out])
    have hlen : xs.length = (hsL b L).length := by rw [← hsort, List.length_mergeSort]
    have hlx : xs.length ≤ L.length := by rw [hlen]; exact hsL_len
    rcases hrow.2 with ⟨rfl, h0⟩ | ⟨g, cap, cur, rfl, hbase, hgb, r1, r2, r3, r4⟩
    · have hl0 : hsL b L = [] := List.eq_nil_of_length_eq_zero (by omega)
      go_wp2_with (go_at_call 35; refine (AnyM.slices_Sort_int_none Try.sortA none 0 W).mono ?_; rintro e w' ⟨rfl, rfl⟩)
      refine ⟨by simp, .inl ⟨_, _, rfl, run_takeDeferred hK, ?_⟩⟩
      exact ⟨_, results_tmp rfl _ _ _, _, rfl, by rw [hl0]; exact Sh.R.nil _ _, hkW.grown (grownBy_putObj' _ _ _) (fun k e => .inl (by cases e; have := hk04.out.size; omega))⟩
    · have hH : Holds encZ W g 0 xs.toArray := holds_of_block_i hgb (by simpa using r4)
      have hgl : g < W.heap.size := lt_of_block hgb
      have cS : Calls Try.prog 35 #[.slice (some ⟨g, 0, none⟩) xs.length cap] W fun e w' => e = .returned (.tuple #[]) ∧ w'.ownsRow (B + 4) 3 1 (.slice (some ⟨g, 0, none⟩) xs.length cap) xs.length ((hsL b L).map encZ) ∧ W.grownBy w' (some g) :=
        (AnyM.slices_Sort_int Try.sortA g 0 cap xs W hH hgl (by omega)).mono fun e w' ⟨he, nn, os, hw'⟩ => ⟨he, by rw [hw', hsort]; exact ownsRow_sorted_i hlen.symm hbase hgb r1 r2 r3, by rw [hw', hsort]; exact grownBy_sorted_i _⟩
      obtain ⟨M, hM⟩ : ∃ M, xs.length = M := ⟨_, rfl⟩
      rw [hM] at cS x0 hv
      have hgX : g ≠ B + 1 := by omega
      have hgD : D ≠ g := fun e => by rw [e, hgb] at hK; cases hK
      replace hsort := Lib.hid hsort
      replace hlen := Lib.hid hlen
      replace hmem := Lib.hid hmem
      replace hM := Lib.hid hM
      go_wp2_with (go_at_call 35; refine cS.mono ?_; rintro e w' ⟨rfl, hrow', hg'⟩; have hv' := hv.kept hg' (fun e => hgX (by cases e; rfl)); obtain ⟨x0', xf'⟩ := cell1 hv')
      have hK' := (hg'.block D (lt_of_block hK) (fun e => hgD (by cases e; rfl))).trans hK
      refine ⟨by simp, .inl ⟨_, _, rfl, run_takeDeferred hK', ?_⟩⟩
      have hkf := (hkW.grown hg' (fun k e => .inl (by cases e; have := hB.out; omega))).grown (grownBy_putObj' w' D (.deferred none)) (fun k e => .inl (by cases e; have := hk04.out.size; omega))
      refine ⟨_, results_tmp rfl _ _ _, _, rfl, ?_, hkf⟩
      have h1 := Sl.of_owns (ownsRow_putObj hrow' (.deferred none) hK' rfl)
      have h2 : ((hsL b L).map encZ) = shI.cs (hsL b L) := by
        induction hsL b L with
        | nil => rfl
        | cons x t ih => simp only [List.map_cons, ih]; rfl
      unfold Sh.R
      rw [← h2, ← hlen.out, hM.out]
      exact h1
  case stop =>
    rintro D c pre W _ _ h _
    exact h.elim
end Go.Proofs.Ytmamlipgfkmcjaa

namespace Go.Proofs.Ytmamlipgfkmcjaa
open Go.RowKit Go.Maps Go.Sort Go.Shelf Go.Proofs
attribute [local go_sem] Oper.semAt_some

/-- The iterator's contract, at a world. -/
abbrev All1St (w : World) (lb : Array Value) (S : List Nat) (Sel : List Int → Prop) (N : Nat) : Prop :=
  SeqStopsK Fence.wide 7 Try.prog 53 lb (fun x : Int => #[.int .i64 x]) (KpS S) Sel (fun _ => True) N w
def AppSeqPost (w : World) (Sel : List Int → Prop) (e : Ending) (w' : World) : Prop :=
  ∃ v xs, e = .returned v ∧ Sel xs ∧ w'.ownsRow (w.heap.size + 1) 3 1 v xs.length (xs.map (Value.int .i64)) ∧ Keeps [] w w'
set_option maxRecDepth 100000 in
set_option maxHeartbeats 4000000 in
theorem appSeq_c (w : World) (lb : Array Value) (S : List Nat) (Sel : List Int → Prop) (N : Nat) (hst : All1St w lb S Sel N) (hS : ∀ b ∈ S, b < w.heap.size) (hN : N ≤ 1000000) :
    Calls Try.prog 75 #[.slice none 0 0, .func (.func 53) #[] lb] w (AppSeqPost w Sel) := by
  have hk1 := (Keeps.refl [] w).alloc (.cells #[.slice none 0 0] 46)
  have hX1 := heap_alloc_new w (.cells #[.slice none 0 0] 46)
  have hz1 : (w.alloc (.cells #[.slice none 0 0] 46)).heap.size = w.heap.size + 1 := by simp
  have hbw : Below w.heap.size w (w.alloc (.cells #[.slice none 0 0] 46)) := (Below.refl _ _).alloc (Nat.le_refl _) _
  obtain ⟨B, hB⟩ : ∃ B, w.heap.size = B := ⟨_, rfl⟩
  unfold AppSeqPost
  rw [hB] at hX1 hz1 hbw hS ⊢
  obtain ⟨W1, hW1⟩ : ∃ W1, w.alloc (.cells #[.slice none 0 0] 46) = W1 := ⟨_, rfl⟩
  rw [hW1] at hk1 hX1 hz1 hbw
  replace hW1 := Lib.hid hW1
  replace hB := Lib.hid hB
  replace hz1 := Lib.hid hz1
  replace hst := Lib.hid hst
  refine (callsIn_wide (n := 8)).1 ?_
  refine callsIn_of_wp_marks Try.func75 rfl trivial ?_ rfl
  simp only [Try.ntmps75, List.size_toArray, List.length_cons, List.length_nil, Nat.reduceAdd, Nat.reduceSub, Array.replicate_succ, Array.replicate_zero, List.push_toArray, List.append_toArray, List.nil_append, List.cons_append]
  refine wpIn_wide.2 ?_
  go_wp2_with fail
  rw [hB.out, hW1.out]
  refine (wpIn_wide (n := 8)).1 ?_
  refine wpIn_rangeFunc_ownF rfl (by omega) (gf := 53) (lb := lb) rfl trivial (enters_of Try.func53 (by kernel_rfl) rfl) hst.out kpS_t (kpS_b (by have := hz1.out; intro b hb; have := hS b hb; omega)) (by rw [hB.out]; exact hbw) (fun _ => rfl)
    (fun pre W => (∃ v, Boxed W B 46 v ∧ W.ownsRow (B + 1) 3 1 v pre.length (pre.map (Value.int .i64)) ∧ True) ∧ (Keeps [] w W ∧ B + 1 ≤ W.heap.size))
    (fun _ _ _ => False) ?hI (fun _ _ _ _ _ hs _ _ => hs) ⟨⟨_, hX1, World.ownsRow_nil _ _ _ _, trivial⟩, hk1, by have := hz1.out; omega⟩
    (fun y => { tmps := List.toArray ((.slice none 0 0 : Value) :: .func (.func 53) #[] lb :: .pointer (some ⟨B, 0, none⟩) :: undef :: .slice none 0 0 :: .int .i64 y :: .func (.func 53) #[] lb :: .int .i64 y :: undef :: undef :: undef :: undef :: undef :: []), defers := [] }) ?assign ?body ?done ?stop
  case hI =>
    exact OwnFrom.and (Own.from (holdsRow_own (B + 1) B 46 3 1 (fun pre : List Int => pre.length) (fun pre : List Int => pre.map (Value.int .i64)) (fun _ _ => True)) _) (fun s X Y row hs hg hr => ⟨hs.1.grown hg (fun k e => .inl (by have := (hr k e).1; have := hk1.size; omega)), Nat.le_trans hs.2 hg.size⟩)
  case assign =>
    intro l y W K hK
    gi_wp2
    exact hK
  case body =>
    rintro l pre x W ⟨⟨v, hv, hrow, _⟩, hkW, hBW⟩ hlt
    obtain ⟨i0, hi, hz0, hz1', hz2'⟩ := info_parts infI
    obtain ⟨x0, xf⟩ := cell1 hv
    have hXW := lt_of_block hv
    have hpl : pre.length < 1000000 := by omega
    gi_wp2_with (gi_at_builtin; refine wpListIn_append_own _ rfl _ _ 46 rfl (B + 1) 3 i0 (.int .i64 0) 1 8 Try.underlying46 hi hz0 hz1' hz2' rfl (by decide) _ _ _ rfl (hrow.alloc _) ⟨W.heap.size, 0, none⟩ 1 1 [.int .i64 x] rfl rfl (cell_one_new _ _ _) (by simp [Value.oneCell']) (by unfold Go.maxLen; omega) (by omega) (by simp; omega) ?_; intro v' w1 hown' hgrow _; replace hgrow : (W.alloc (.cells #[.int .i64 x] 3)).grownBy w1 v.ownBlock := hgrow; have hkA : Keeps v.ownBlock.toList W w1 := ((Keeps.refl _ W).alloc _).grown hgrow (fun k e => .inr (by simp [e])); have hx1 := (hkA.block _ hXW (fun hm => by have := ownBlock_ge hrow _ (by simpa using hm); omega)).trans hv; obtain ⟨c1', f1'⟩ := cell1 hx1; have hsub := (ownBlock_ge hown'); obtain ⟨g', cap', rfl⟩ := ownsRow_succ hown')
    have hgb := hsub g' rfl
    have hkf : Keeps (B :: v.ownBlock.toList) W (w1.setCell ⟨B, 0, none⟩ (.slice (some ⟨g', 0, none⟩) (pre.length + 1) cap')) := (hkA.mono (fun k hk => by simp [hk])).setCell (p := ⟨B, 0, none⟩) (.inr (by simp)) _
    have hnot : ∀ b, b < B → b ∉ B :: v.ownBlock.toList := fun b hb hm => by
      rcases List.mem_cons.1 hm with e | e
      · omega
      · have := ownBlock_ge hrow _ (by simpa using e : v.ownBlock = some b); omega
    have hko : KeepsOthers W (w1.setCell ⟨B, 0, none⟩ (.slice (some ⟨g', 0, none⟩) (pre.length + 1) cap')) := by
      refine ((KeepsOthers.alloc W (.cells #[.int .i64 x] 3)).trans (KeepsOthers.of_grownBy hgrow fun j o ej hj2 => ?_)).trans (KeepsOthers.setCell _ _ _)
      rcases (hrow.alloc (.cells #[.int .i64 x] 3)).2 with ⟨rfl, _⟩ | ⟨g, cap, cur, rfl, _, hg, _⟩
      · simp [Value.ownBlock] at ej
      · simp [Value.ownBlock] at ej; subst ej; rw [hg] at hj2; cases hj2; rfl
    refine ⟨hko, ⟨fun b hb => hkf.block b (by have := hS b hb; omega) (hnot b (hS b hb)), hko.walks⟩, ⟨_, Boxed.set _ hx1, ?_, trivial⟩, ?_, ?_⟩
    · have := hown'.kept (grownBy_setCell' w1 B (.slice (some ⟨g', 0, none⟩) (pre.length + 1) cap')) (.inr (fun e => by simp [Value.ownBlock] at e; omega))
      simpa using this
    · exact ((hkW.alloc _).grown hgrow (fun k e => .inl (by have := ownBlock_ge hrow _ e; have := hB.out; omega))).setCell (p := ⟨B, 0, none⟩) (.inl (by have := hB.out; show _ ≤ B; omega)) _
    · have := hkf.size; omega
  case done =>
    rintro D xs W hD hsel ⟨⟨v, hv, hrow, _⟩, hkW, hBW⟩ hK
    obtain ⟨x0, xf⟩ := cell1 hv
    replace hsel := Lib.hid hsel
    go_wp2
    refine ⟨by simp, .inl ⟨_, _, rfl, run_takeDeferred hK, ?_⟩⟩
    refine ⟨_, results_tmp rfl _ _ _, ?_⟩
    exact ⟨v, xs, rfl, hsel.out, ownsRow_putObj hrow (.deferred none) hK rfl, hkW.grown (grownBy_putObj' _ _ _) (fun k e => .inl (by cases e; have := hk1.size; omega))⟩
  case stop =>
    rintro D c pre W _ _ h _
    exact h.elim
set_option maxRecDepth 100000 in
set_option maxHeartbeats 2000000 in
theorem collect_c (w : World) (lb : Array Value) (S : List Nat) (Sel : List Int → Prop) (N : Nat) (hst : All1St w lb S Sel N) (hS : ∀ b ∈ S, b < w.heap.size) (hN : N ≤ 1000000) :
    Calls Try.prog 63 #[.func (.func 53) #[] lb] w (AppSeqPost w Sel) := by
  replace hst := Lib.hid hst
  go_enter Try.func63, Try.ntmps63
  go_wp2_with fail
  refine (appSeq_c w lb S Sel N hst.out hS hN).mono ?_
  rintro e w1 ⟨v, xs, rfl, h1, h2, h3⟩
  replace h1 := Lib.hid h1
  replace h2 := Lib.hid h2
  replace h3 := Lib.hid h3
  go_wp2
  go_ret
  exact ⟨_, xs, rfl, h1.out, h2.out, h3.out⟩
set_option maxRecDepth 100000 in
set_option maxHeartbeats 4000000 in
theorem sorted_c (w : World) (lb : Array Value) (S : List Nat) (L : List Hn) (sel : Nat × Bool → Bool) (N : Nat) (l : List Int) (hst : All1St w lb S (AllOf L sel) N) (hS : ∀ b ∈ S, b < w.heap.size) (hN : N ≤ 1000000)
    (hl : ∀ xs, AllOf L sel xs → xs.mergeSort (fun x y => decide (x ≤ y)) = l) (hlen : l.length ≤ 1000000) :
    Calls Try.prog 46 #[.func (.func 53) #[] lb] w fun e w' => ∃ v, e = .returned v ∧ shI.R w' v l ∧ Keeps [] w w' ∧ ∀ b, v.ownBlock = some b → w.heap.size ≤ b := by
  replace hst := Lib.hid hst
  go_enter Try.func46, Try.ntmps46
  go_wp2_with fail
  refine (collect_c w lb S _ N hst.out hS hN).mono ?_
  rintro e w1 ⟨v, xs, rfl, h1, hrow, hk1⟩
  have hsort := hl xs h1
  have hxl : xs.length = l.length := by rw [← hsort, List.length_mergeSort]
  have hwlt := hk1.size
  rcases hrow.2 with ⟨rfl, h0⟩ | ⟨g, cap, cur, rfl, hbase, hgb, r1, r2, r3, r4⟩
  · have hl0 : l = [] := List.eq_nil_of_length_eq_zero (by omega)
    replace h1 := Lib.hid h1
    replace hsort := Lib.hid hsort
    replace hl0 := Lib.hid hl0
    go_wp2_with (go_at_call 35; refine (AnyM.slices_Sort_int_none Try.sortA none 0 w1).mono ?_; rintro e w' ⟨rfl, rfl⟩)
    go_ret
    exact ⟨_, rfl, by rw [hl0.out]; exact Sh.R.nil _ _, hk1, fun b hb => by cases hb⟩
  · have hH : Holds encZ w1 g 0 xs.toArray := holds_of_block_i hgb (by simpa using r4)
    have hgl : g < w1.heap.size := lt_of_block hgb
    have cS : Calls Try.prog 35 #[.slice (some ⟨g, 0, none⟩) xs.length cap] w1 fun e w' => e = .returned (.tuple #[]) ∧ w'.ownsRow (w.heap.size + 1) 3 1 (.slice (some ⟨g, 0, none⟩) xs.length cap) xs.length (l.map encZ) ∧ w1.grownBy w' (some g) :=
      (AnyM.slices_Sort_int Try.sortA g 0 cap xs w1 hH hgl (by omega)).mono fun e w' ⟨he, nn, os, hw'⟩ => ⟨he, by rw [hw', hsort]; exact ownsRow_sorted_i hxl.symm hbase hgb r1 r2 r3, by rw [hw', hsort]; exact grownBy_sorted_i _⟩
    obtain ⟨M, hM⟩ : ∃ M, xs.length = M := ⟨_, rfl⟩
    rw [hM] at cS ⊢
    replace hsort := Lib.hid hsort
    replace h1 := Lib.hid h1
    replace hxl := Lib.hid hxl
    replace hM := Lib.hid hM
    clear hrow
    go_wp2_with (go_at_call 35; refine cS.mono ?_; rintro e w' ⟨rfl, hrow', hg'⟩)
    go_ret
    refine ⟨_, rfl, ?_, hk1.grown hg' (fun k e => .inl (by cases e; omega)), fun b hb => by cases hb; show w.heap.size ≤ g; omega⟩
    have h1 := Sl.of_owns hrow'
    have h2 : (l.map encZ) = shI.cs l := by
      clear hl hsort hlen hxl hrow' h1 cS
      induction l with
      | nil => rfl
      | cons x t ih => simp only [List.map_cons, ih]; rfl
    unfold Sh.R
    rw [← h2, ← hxl.out, hM.out]
    exact h1
end Go.Proofs.Ytmamlipgfkmcjaa

namespace Go.Proofs.Ytmamlipgfkmcjaa
open Go.RowKit

theorem wsL_map {b : Bool} {L : List Hn} (ha : MapL.Asc L) : (hsL b L).map (gW L) = wsL b L := by
  unfold hsL wsL
  rw [List.map_map]
  refine List.map_congr_left fun p hp => ?_
  have hm := (List.mem_filter.1 hp).1
  simp only [Function.comp]
  unfold gW
  rw [MapL.get_of_mem ha (show (p.1, p.2) ∈ L from hm)]
  rfl
def SlWPost (w : World) (l : List Nat) (e : Ending) (w' : World) : Prop := ∃ v, e = .returned v ∧ shW.R w' v l ∧ Keeps [] w w'
set_option maxRecDepth 100000 in
set_option maxHeartbeats 2000000 in
theorem words_c (w : World) (bt bm : Nat) (L : List Hn) (b : Bool) (t : TM w bt bm L) (hG : Good L) (hL : L.length < 1000000) :
    Calls Try.prog 21 #[.pointer (some ⟨bt, 0, none⟩), .bool b] w (SlWPost w (wsL b L)) := by
  have hfl : ∀ (x : Nat) (b : Bool) (w : World), (Instr.field 69 (.agg #[.int .u64 x, .bool b]) 0).run Try.prog w = .ok (.int .u64 x) w := fun x b w => by kernel_rfl
  have hres := wsL_map (b := b) hG.asc
  have hlen : (hsL b L).length ≤ L.length := hsL_len
  have hww : ∀ h ∈ hsL b L, W64 h := fun h hm => by
    unfold hsL at hm
    obtain ⟨p, hp, rfl⟩ := List.mem_map.1 hm
    exact hG.w p (List.mem_filter.1 hp).1
  replace hG := Lib.hid hG
  go_enter Try.func21, Try.ntmps21
  go_wp2_with fail
  refine (list_c w bt bm L b t hG.out.asc hL).mono ?_
  rintro e w1 ⟨vl, rfl, hS, hk1⟩
  obtain ⟨al, cl, rfl, hlc, hcm, _⟩ := hS.form
  obtain ⟨l, hl⟩ : ∃ l, hsL b L = l := ⟨_, rfl⟩
  rw [hl] at hS hres hlen hww hlc ⊢
  obtain ⟨M, hM⟩ : ∃ M, l.length = M := ⟨_, rfl⟩
  rw [hM] at hS hlen hlc ⊢
  have ht1 := t.keeps hk1
  replace hl := Lib.hid hl
  replace hM := Lib.hid hM
  replace hS := Lib.hid hS
  replace hres := Lib.hid hres
  replace hww := Lib.hid hww
  replace hk1 := Lib.hid hk1
  replace ht1 := Lib.hid ht1
  clear t
  go_wp2
  go_loopw [5, 12] (fun ov iv wr => ∃ k : Nat, iv = .int .i64 k ∧ k ≤ M ∧ shW.O wr w1.heap.size 23 ov ((l.take k).map (gW L)) ∧ Keeps [] w1 wr) (fun _ iv _ => M - (intOf iv).toNat)
  case atStart => exact ⟨0, rfl, by omega, Sh.O.nil _ _ _ _, Keeps.refl _ _⟩
  case round =>
    obtain ⟨k, rfl, hk, hO, hkr⟩ := hrel
    have hol : ((l.take k).map (gW L)).length = k := by rw [List.length_map, List.length_take, hM.out]; omega
    obtain ⟨ao, co, rfl⟩ := hO.form
    rw [hol] at hO ⊢
    have hsz := hkr.size
    by_cases hlt : k < M
    · have hkl : k < l.length := by rw [hM.out]; exact hlt
      obtain ⟨g, o, c', hv, e0⟩ := elemI (hS.out.keeps hkr) hkl
      rw [hM.out] at hv
      cases hv
      have hx64 := hww.out _ (List.getElem_mem hkl)
      have hsn : (l.take (k + 1)).map (gW L) = (l.take k).map (gW L) ++ [gW L l[k]] := by rw [List.take_add_one, List.getElem?_eq_getElem hkl, List.map_append]; rfl
      obtain ⟨x, hx⟩ : ∃ x, l[k] = x := ⟨_, rfl⟩
      rw [hx] at e0 hx64 hsn
      have htr := ht1.out.keeps hkr
      have hlook := htr.look hx64
      have hcell := htr.cell
      have hmade := Sh.R.made shW wr [gW L x] #[.int .u64 (gW L x)] 23 rfl (by simp [Go.maxLen]) 1 rfl
      have hkA := (Keeps.refl [] wr).alloc (.cells #[.int .u64 (gW L x)] 23)
      have hOA := hO.keeps hkA
      have hkA2 := hkr.trans hkA
      replace hx := Lib.hid hx
      replace hsn := Lib.hid hsn
      replace hmade := Lib.hid hmade
      replace hOA := Lib.hid hOA
      replace hkA2 := Lib.hid hkA2
      replace hol := Lib.hid hol
      clear hO hkr hkA htr
      go_wp2_with (at_builtin; (refine Sh.wpl_app shW w1.heap.size infW rfl Try.underlying48 (.slice ao k co) (.slice (some ⟨wr.heap.size, 0, none⟩) 1 1) ((l.take k).map (gW L)) [gW L x] rfl _ _ rfl rfl rfl hOA.out hmade.out (by rw [hol.out]; simp; omega) (by simp; omega) ?_; intro v5 w5 hO5 hG5; have hk5 := Sh.O.grew hkA2.out hOA.out hG5 (Nat.le_refl _); rw [← hsn.out] at hO5; replace hO5 := Lib.hid hO5; replace hk5 := Lib.hid hk5; clear hG5))
      go_roundw
      case rel => exact ⟨k + 1, rfl, by omega, hO5.out, hk5.out⟩
      case measure => simp [intOf]; omega
    · have hkM : k = M := by omega
      have hall : l.take k = l := List.take_of_length_le (by rw [hM.out]; omega)
      rw [hall, hres.out] at hO
      replace hall := Lib.hid hall
      replace hO := Lib.hid hO
      replace hkr := Lib.hid hkr
      replace hol := Lib.hid hol
      go_wp2
      go_ret
      exact ⟨_, rfl, by have := hO.out.r; rw [← hkM]; exact this, hk1.out.trans hkr.out⟩
set_option maxRecDepth 100000 in
set_option maxHeartbeats 1000000 in
theorem intsEq_c (w : World) (v1 v2 : Value) (l : List Int) (h1 : shI.R w v1 l) (h2 : shI.R w v2 l) :
    Calls Try.prog 24 #[v1, v2] w fun e w' => e = .returned (.bool true) ∧ Keeps [] w w' := by
  obtain ⟨a1, c1, rfl, hc1, hm1, _⟩ := h1.form
  obtain ⟨a2, c2, rfl, hc2, hm2, _⟩ := h2.form
  obtain ⟨M, hM⟩ : ∃ M, l.length = M := ⟨_, rfl⟩
  rw [hM] at hc1 hc2 h1 h2 ⊢
  have hMm : M ≤ 9223372036854775807 := by unfold Go.maxLen at hm1; omega
  replace hM := Lib.hid hM
  replace h1 := Lib.hid h1
  replace h2 := Lib.hid h2
  go_enter Try.func24, Try.ntmps24
  go_wp2
  go_loopw [5] (fun iv wr => ∃ k : Nat, iv = .int .i64 k ∧ k ≤ M ∧ Keeps [] w wr) (fun iv _ => M - (intOf iv).toNat)
  case atStart => exact ⟨0, rfl, by omega, Keeps.refl _ _⟩
  case round =>
    obtain ⟨k, rfl, hk, hkr⟩ := hrel
    by_cases hlt : k < M
    · have hkl : k < l.length := by rw [hM.out]; exact hlt
      obtain ⟨g, o, c', hv, e0⟩ := elemI (h1.out.keeps hkr) hkl
      obtain ⟨g', o', c'', hv', e1⟩ := elemI (h2.out.keeps hkr) hkl
      rw [hM.out] at hv hv'
      cases hv
      cases hv'
      obtain ⟨x, hx⟩ : ∃ x, l[k] = x := ⟨_, rfl⟩
      rw [hx] at e0 e1
      replace hx := Lib.hid hx
      replace hkr := Lib.hid hkr
      go_wp2
      (refine wp_region_quiet_lit (by kernel_rfl) (by kernel_rfl) ?_; (repeat (first | go_big_quiet_step (fail) | quiet_step (fail))); with_reducible refine wpQuiet_nil ?_; intro _ hw'; obtain ⟨nq, hw''⟩ := hw'; subst hw'')
      go_wp2
      go_roundw
      case rel => exact ⟨k + 1, rfl, by omega, hkr.out.drewN _⟩
      case measure => simp [intOf]; omega
    · replace hkr := Lib.hid hkr
      go_wp2
      go_ret
      exact ⟨rfl, hkr.out⟩
set_option maxRecDepth 100000 in
set_option maxHeartbeats 1000000 in
theorem wordsEq_c (w : World) (v1 v2 : Value) (l : List Nat) (h1 : shW.R w v1 l) (h2 : shW.R w v2 l) :
    Calls Try.prog 23 #[v1, v2] w fun e w' => e = .returned (.bool true) ∧ Keeps [] w w' := by
  obtain ⟨a1, c1, rfl, hc1, hm1, _⟩ := h1.form
  obtain ⟨a2, c2, rfl, hc2, hm2, _⟩ := h2.form
  obtain ⟨M, hM⟩ : ∃ M, l.length = M := ⟨_, rfl⟩
  rw [hM] at hc1 hc2 h1 h2 ⊢
  have hMm : M ≤ 9223372036854775807 := by unfold Go.maxLen at hm1; omega
  replace hM := Lib.hid hM
  replace h1 := Lib.hid h1
  replace h2 := Lib.hid h2
  go_enter Try.func23, Try.ntmps23
  go_wp2
  go_loopw [5] (fun iv wr => ∃ k : Nat, iv = .int .i64 k ∧ k ≤ M ∧ Keeps [] w wr) (fun iv _ => M - (intOf iv).toNat)
  case atStart => exact ⟨0, rfl, by omega, Keeps.refl _ _⟩
  case round =>
    obtain ⟨k, rfl, hk, hkr⟩ := hrel
    by_cases hlt : k < M
    · have hkl : k < l.length := by rw [hM.out]; exact hlt
      obtain ⟨g, o, c', hv, e0⟩ := elemW (h1.out.keeps hkr) hkl
      obtain ⟨g', o', c'', hv', e1⟩ := elemW (h2.out.keeps hkr) hkl
      rw [hM.out] at hv hv'
      cases hv
      cases hv'
      obtain ⟨x, hx⟩ : ∃ x, l[k] = x := ⟨_, rfl⟩
      rw [hx] at e0 e1
      replace hx := Lib.hid hx
      replace hkr := Lib.hid hkr
      go_wp2
      (refine wp_region_quiet_lit (by kernel_rfl) (by kernel_rfl) ?_; (repeat (first | go_big_quiet_step (fail) | quiet_step (fail))); with_reducible refine wpQuiet_nil ?_; intro _ hw'; obtain ⟨nq, hw''⟩ := hw'; subst hw'')
      go_wp2
      go_roundw
      case rel => exact ⟨k + 1, rfl, by omega, hkr.out.drewN _⟩
      case measure => simp [intOf]; omega
    · replace hkr := Lib.hid hkr
      go_wp2
      go_ret
      exact ⟨rfl, hkr.out⟩
end Go.Proofs.Ytmamlipgfkmcjaa

namespace Go.Proofs.Ytmamlipgfkmcjaa
open Go.RowKit

theorem cells_two {w : World} {b : Nat} {x0 x1 : Value} {t : TypeId} (h : w.heap[b]? = some (.cells #[x0, x1] t (0, 0))) : w.cell? ⟨b, 0, none⟩ = some x0 ∧ w.cell? ⟨b, 1, none⟩ = some x1 := ⟨cell_at h 0, cell_at h 1⟩
set_option maxRecDepth 100000 in
set_option maxHeartbeats 4000000 in
theorem tsame_c (w : World) (bt bm : Nat) (L : List Hn) (v : Value) (t : TM w bt bm L) (hr : shE.R w v L) (hG : Good L) (hL : L.length < 1000000) :
    Calls Try.prog 16 #[.pointer (some ⟨bt, 0, none⟩), v] w fun e w' => e = .returned (.bool true) ∧ Keeps [] w w' := by
  obtain ⟨a, c, rfl, hlc, hcm, _⟩ := hr.form
  obtain ⟨M, hM⟩ : ∃ M, L.length = M := ⟨_, rfl⟩
  rw [hM] at hlc hr hL ⊢
  replace hM := Lib.hid hM
  replace hr := Lib.hid hr
  replace hG := Lib.hid hG
  replace t := Lib.hid t
  go_enter Try.func16, Try.ntmps16
  go_wp2
  go_loopw [5] (fun iv wr => ∃ k : Nat, iv = .int .i64 k ∧ k ≤ M ∧ Keeps [] w wr) (fun iv _ => M - (intOf iv).toNat)
  case atStart => exact ⟨0, rfl, by omega, Keeps.refl _ _⟩
  case round =>
    obtain ⟨k, rfl, hk, hkr⟩ := hrel
    by_cases hlt : k < M
    · have hkl : k < L.length := by rw [hM.out]; exact hlt
      have hrr := hr.out.keeps hkr
      obtain ⟨g, o, c', hv, e0, e1, e2⟩ := elemE hrr hkl
      rw [hM.out] at hv
      cases hv
      have hx64 := hG.out.w _ (List.getElem_mem hkl)
      have hgw := gW_at hG.out.asc hkl
      have hgb := gB_at hG.out.asc hkl
      have hgs : (MapL.get L[k].1 L).isSome = true := by rw [get_at hG.out.asc hkl]; rfl
      obtain ⟨y, hy⟩ : ∃ y, L[k] = y := ⟨_, rfl⟩
      rw [hy] at e0 e1 e2 hx64 hgw hgb hgs
      obtain ⟨y1, y2, y3⟩ := y
      simp only at e0 e1 e2 hx64 hgw hgb hgs
      have htr := t.out.keeps hkr
      replace hy := Lib.hid hy
      replace hgw := Lib.hid hgw
      replace hgb := Lib.hid hgb
      replace hgs := Lib.hid hgs
      replace hkr := Lib.hid hkr
      replace htr := Lib.hid htr
      clear hrr
      go_wp2_with fail
      refine (get_c wr bt bm L y1 htr.out hx64).mono ?_
      rintro e w1 ⟨rfl, hk1⟩
      rw [hgw.out, hgs.out]
      have e01 := hk1.val e0
      have e11 := hk1.val e1
      have e21 := hk1.val e2
      have hk1r := hkr.out.trans hk1
      have ht1 := htr.out.keeps hk1
      replace hk1r := Lib.hid hk1r
      replace ht1 := Lib.hid ht1
      clear hk1 e0 e1 e2
      go_wp2
      refine Free.wp_region_chain (fun i => i == 18) (fun i => true) (fun _ b => False) (by kernel_rfl) (by kernel_rfl) (by kernel_rfl) ?_
      (repeat (first | (apply Free.cw_pureW rfl rfl; (intro w'; go_simp <;> exact rfl); go_frame) | (apply Free.cw_steadyW rfl rfl rfl; (intro w' hS; have q0 := Free.sx_cell hS e01 (fun _ _ hT => hT); have q1 := Free.sx_cell hS e11 (fun _ _ hT => hT); have q2 := Free.sx_cell hS e21 (fun _ _ hT => hT); go_simp <;> exact rfl); go_frame) | (refine Free.cw_skip rfl ?_; go_frame)))
      refine Free.cw_loudW rfl rfl (fun K hK => ?_)
      go_wp2_with fail
      refine (weak_c _ bt bm L y1 (ht1.out.keeps (Keeps.refl [] _).drew) hx64).mono ?_
      rintro e w2 ⟨rfl, rfl⟩
      rw [hgb.out]
      refine hK _ _ rfl (Free.KeepsP.refl _ _) ?_
      clear hK K
      (repeat (first | (apply Free.cw_pureW rfl rfl; (intro w'; go_simp <;> exact rfl); go_frame) | (apply Free.cw_steadyW rfl rfl rfl; (intro w' hS; have q0 := Free.sx_cell hS e01 (fun _ _ hT => hT); have q1 := Free.sx_cell hS e11 (fun _ _ hT => hT); have q2 := Free.sx_cell hS e21 (fun _ _ hT => hT); go_simp <;> exact rfl); go_frame) | (refine Free.cw_skip rfl ?_; go_frame)))
      refine Free.cw_nil ?_
      go_wp2
      go_roundw
      case rel => exact ⟨k + 1, rfl, by omega, hk1r.out.drew⟩
      case measure => simp [intOf]; omega
    · have hkM := Lib.hid (show k = M by omega)
      have hbl := heap_alloc_new wr (.cells #[.bool false, .bool true] 4)
      have hkb := (Keeps.refl [] wr).alloc (.cells #[.bool false, .bool true] 4)
      have hkw := hkr.trans hkb
      obtain ⟨Bb, hBb⟩ : ∃ b, wr.heap.size = b := ⟨_, rfl⟩
      rw [hBb] at hbl
      replace hbl := Lib.hid hbl
      replace hkw := Lib.hid hkw
      clear hkb hkr
      go_wp2
      generalize wr.alloc (.cells #[.bool false, .bool true] 4) = W at *
      clear hBb
      go_loopw [56] (fun iv wr => ∃ j : Nat, iv = .int .i64 j ∧ j ≤ 2 ∧ Keeps [] W wr) (fun iv _ => 2 - (intOf iv).toNat)
      case atStart => exact ⟨0, rfl, by omega, Keeps.refl _ _⟩
      case round =>
        obtain ⟨j, rfl, hj, hkj⟩ := hrel
        by_cases hjl : j < 2
        · have hbj := (hkj.block _ (lt_of_block hbl.out) (by simp)).trans hbl.out
          have hcell : ∃ b, wr.cell? ⟨Bb, j, none⟩ = some (.bool b) := by
            obtain ⟨c0, c1⟩ := cells_two hbj
            rcases (show j = 0 ∨ j = 1 by omega) with rfl | rfl
            · exact ⟨_, c0⟩
            · exact ⟨_, c1⟩
          obtain ⟨b, hcb⟩ := hcell
          have hkwj := hkw.out.trans hkj
          have hrj := hr.out.keeps hkwj
          have htj := t.out.keeps hkwj
          replace hkj := Lib.hid hkj
          replace hrj := Lib.hid hrj
          replace htj := Lib.hid htj
          clear hbj hkwj
          go_wp2_with fail
          refine (listR_c wr _ L b hrj.out (by rw [hM.out]; exact hL)).mono ?_
          rintro e w1 ⟨v1, v2, rfl, hS1, hS2, hk1⟩
          have ht1 := htj.out.keeps hk1
          have hk1j := hkj.out.trans hk1
          replace ht1 := Lib.hid ht1
          replace hk1j := Lib.hid hk1j
          replace hS1 := Lib.hid hS1
          replace hS2 := Lib.hid hS2
          clear hk1 htj hkj hcb
          go_wp2_with fail
          refine (list_c w1 bt bm L b ht1.out hG.out.asc (by rw [hM.out]; exact hL)).mono ?_
          rintro e w2 ⟨v3, rfl, hS3, hk2⟩
          have ht2 := ht1.out.keeps hk2
          have hk2j := hk1j.out.trans hk2
          have hS12 := hS1.out.keeps hk2
          have hS22 := hS2.out.keeps hk2
          replace ht2 := Lib.hid ht2
          replace hk2j := Lib.hid hk2j
          replace hS12 := Lib.hid hS12
          replace hS22 := Lib.hid hS22
          replace hS3 := Lib.hid hS3
          clear hk2 ht1 hk1j hS1 hS2
          go_wp2_with fail
          refine (intsEq_c w2 v3 v1 (hsL b L) hS3.out hS12.out).mono ?_
          rintro e w3 ⟨rfl, hk3⟩
          have ht3 := ht2.out.keeps hk3
          have hk3j := hk2j.out.trans hk3
          have hS23 := hS22.out.keeps hk3
          replace ht3 := Lib.hid ht3
          replace hk3j := Lib.hid hk3j
          replace hS23 := Lib.hid hS23
          clear hk3 ht2 hk2j hS12 hS22 hS3
          go_wp2_with fail
          refine (words_c w3 bt bm L b ht3.out hG.out (by rw [hM.out]; exact hL)).mono ?_
          rintro e w4 ⟨v4, rfl, hS4, hk4⟩
          have hk4j := hk3j.out.trans hk4
          have hS24 := hS23.out.keeps hk4
          replace hk4j := Lib.hid hk4j
          replace hS24 := Lib.hid hS24
          replace hS4 := Lib.hid hS4
          clear hk4 ht3 hk3j hS23
          go_wp2_with fail
          refine (wordsEq_c w4 v4 v2 (wsL b L) hS4.out hS24.out).mono ?_
          rintro e w5 ⟨rfl, hk5⟩
          have hk5j := hk4j.out.trans hk5
          replace hk5j := Lib.hid hk5j
          clear hk5
          go_wp2
          go_roundw
          case rel => exact ⟨j + 1, rfl, by omega, hk5j.out⟩
          case measure => simp [intOf]; omega
        · have hj2 : j = 2 := by omega
          subst hj2
          replace hkj := Lib.hid hkj
          go_wp2
          go_ret
          exact ⟨rfl, hkw.out.trans hkj.out⟩
end Go.Proofs.Ytmamlipgfkmcjaa
