/- Texts that the laws lean on, in the order in which they build. Blocks that lie apart from one another: a numbered family. No program. Two connected ends in memory. (For ChannelOrder, ChannelCompletion.) Two connected ends in memory: their lists turn. What an end has of a list of payloads whose datagrams come in any order. Two connected ends: what is true at any time. Plain. (For ChannelOrder, ChannelCompletion.) Two connected ends: what is still to come while the way is emptied. Plain. (For ChannelCompletion.) An end receives a datagram that the other end has sent. (For ChannelOrder, ChannelCompletion.) deliver. A datagram goes on the way. (For ChannelOrder, ChannelCompletion.) again. (For ChannelOrder, ChannelCompletion.) sound. (For ChannelOrder, ChannelCompletion.) What was sent grows. (For ChannelOrder, ChannelCompletion.) act: a payload is sent. (For ChannelOrder, ChannelCompletion.) What a delivery makes of the state. Plain. (For ChannelOrder, ChannelCompletion.) -/
import Derived.Test.YtilmcdieihmiaaaK6
set_option linter.unusedVariables false
set_option linter.unusedSimpArgs false
namespace Go.Proofs.Ytilmcdieihmiaaa
open Go Go.RowKit

/-- The blocks `own i` lie in the world, and no two are one. -/
structure Sep (own : Nat → Option Nat) (w : World) : Prop where
  lt : ∀ i b, own i = some b → b < w.heap.size
  ne : ∀ i j b, i ≠ j → own i = some b → own j ≠ some b
def putN (own : Nat → Option Nat) (i : Nat) (x : Option Nat) : Nat → Option Nat := fun j => if j = i then x else own j
theorem putN_same (own : Nat → Option Nat) (i : Nat) (x : Option Nat) : putN own i x i = x := by simp [putN]
theorem putN_other (own : Nat → Option Nat) {i j : Nat} (x : Option Nat) (h : j ≠ i) : putN own i x j = own j := by simp [putN, h]
theorem putN_self (own : Nat → Option Nat) (i : Nat) : putN own i (own i) = own := by funext j; unfold putN; split <;> simp_all
theorem Sep.later {own : Nat → Option Nat} {w w' : World} (h : Sep own w) (hs : w.heap.size ≤ w'.heap.size) : Sep own w' :=
  ⟨fun i b hb => Nat.lt_of_lt_of_le (h.lt i b hb) hs, h.ne⟩
/-- One of them goes on as another block: the same, or one that was not there. -/
theorem Sep.turn {own : Nat → Option Nat} {w w' : World} (h : Sep own w) (hs : w.heap.size ≤ w'.heap.size) (i : Nat) (x : Option Nat) (hx : ∀ b, x = some b → b < w'.heap.size) (hn : x = own i ∨ ∀ b, x = some b → w.heap.size ≤ b) : Sep (putN own i x) w' := by
  rcases hn with rfl | hn
  · rw [putN_self]; exact h.later hs
  · refine ⟨fun j b hb => ?_, fun j k b hjk hb hk => ?_⟩
    · by_cases e : j = i
      · subst e; rw [putN_same] at hb; exact hx b hb
      · rw [putN_other _ _ e] at hb; exact Nat.lt_of_lt_of_le (h.lt j b hb) hs
    · by_cases e : j = i
      · subst e
        rw [putN_same] at hb
        rw [putN_other _ _ (fun e => hjk e.symm)] at hk
        have := h.lt k b hk; have := hn b hb; omega
      · rw [putN_other _ _ e] at hb
        by_cases e2 : k = i
        · subst e2
          rw [putN_same] at hk
          have := h.lt j b hb; have := hn b hk; omega
        · rw [putN_other _ _ e2] at hk
          exact h.ne j k b hjk hb hk
/-- What a turn of some of them leaves of another. -/
theorem Sep.not_mem {own : Nat → Option Nat} {w : World} (h : Sep own w) {I : List Nat} {j : Nat} (hj : j ∉ I) {b : Nat} (hb : own j = some b) : ∀ i ∈ I, own i ≠ some b := fun i hi e => h.ne i j b (fun e => hj (e ▸ hi)) e hb
end Go.Proofs.Ytilmcdieihmiaaa

namespace Go.Proofs.Ytilmcdieihmiaaa
open Go.RowKit

/-- What lies where: for each end k = 0, 1 its block, its map, the map's tag, its list of what is kept; the lists of what was sent and handed over; the way. -/
structure PV where
  bc : Nat → Nat
  bm : Nat → Nat
  n : Nat → Nat
  vk : Nat → Value
  vS : Nat → Value
  vG : Nat → Value
  vw : Value
/-- What it means. -/
structure PC where
  C : Nat → Chan
  S : Nat → List Bytes
  G : Nat → List Bytes
  L : List NB
def putF {α : Type} (f : Nat → α) (k : Nat) (x : α) : Nat → α := fun j => if j = k then x else f j
theorem putF_same {α : Type} (f : Nat → α) (k : Nat) (x : α) : putF f k x k = x := by simp [putF]
theorem putF_other {α : Type} (f : Nat → α) {k j : Nat} (x : α) (h : j ≠ k) : putF f k x j = f j := by simp [putF, h]
/-- The blocks: 0 the pair's; 1, 2 the ends'; 3, 4 their maps; 5, 6 what is kept; 7, 8 what was sent; 9, 10 what was handed over; 11 the way. -/
def PV.own (V : PV) (bp : Nat) : Nat → Option Nat
  | 0 => some bp
  | 1 => some (V.bc 0)
  | 2 => some (V.bc 1)
  | 3 => some (V.bm 0)
  | 4 => some (V.bm 1)
  | 5 => (V.vk 0).ownBlock
  | 6 => (V.vk 1).ownBlock
  | 7 => (V.vS 0).ownBlock
  | 8 => (V.vS 1).ownBlock
  | 9 => (V.vG 0).ownBlock
  | 10 => (V.vG 1).ownBlock
  | 11 => V.vw.ownBlock
  | _ => none
structure PairM (w : World) (B bp : Nat) (V : PV) (X : PC) : Prop where
  blk : w.heap[bp]? = some (.cells #[.pointer (some ⟨V.bc 0, 0, none⟩), .pointer (some ⟨V.bc 1, 0, none⟩), V.vw, V.vS 0, V.vS 1, V.vG 0, V.vG 1] 55 (0, 0))
  ch : ∀ k, k < 2 → Ch w B (V.bc k) (V.bm k) (V.n k) (V.vk k) (X.C k)
  sent : ∀ k, k < 2 → KL w B (V.vS k) (X.S k)
  got : ∀ k, k < 2 → KL w B (V.vG k) (X.G k)
  way : OE w B 92 V.vw X.L
  sep : Sep (V.own bp) w
variable {w w' : World} {B bp : Nat} {V : PV} {X : PC}
/-- Nothing of it is touched. -/
theorem PairM.keeps (h : PairM w B bp V X) (hk : Keeps [] w w') : PairM w' B bp V X :=
  ⟨(hk.block bp (Array.getElem?_eq_some_iff.1 h.blk).1 (by simp)).trans h.blk, fun k hk2 => (h.ch k hk2).keeps hk, fun k hk2 => (h.sent k hk2).keep hk (by simp) hk.kb0, fun k hk2 => (h.got k hk2).keep hk (by simp) hk.kb0, h.way.keep hk (by simp) hk.kb0, h.sep.later hk.size⟩
theorem PV.own_vk (V : PV) (bp : Nat) {k : Nat} (hk : k < 2) (m : Nat → Nat) (x : Value) : PV.own { V with n := m, vk := putF V.vk k x } bp = putN (V.own bp) (5 + k) x.ownBlock := by
  funext j
  rcases (show k = 0 ∨ k = 1 by omega) with rfl | rfl
  all_goals
    match j with
    | 0 => rfl
    | 1 => rfl
    | 2 => rfl
    | 3 => rfl
    | 4 => rfl
    | 5 => rfl
    | 6 => rfl
    | 7 => rfl
    | 8 => rfl
    | 9 => rfl
    | 10 => rfl
    | 11 => rfl
    | j + 12 => rw [putN_other _ _ (by omega)]; rfl
theorem PV.own_bc (V : PV) (bp : Nat) {k : Nat} (hk : k < 2) : V.own bp (1 + k) = some (V.bc k) ∧ V.own bp (3 + k) = some (V.bm k) ∧ V.own bp (5 + k) = (V.vk k).ownBlock ∧ V.own bp (7 + k) = (V.vS k).ownBlock ∧ V.own bp (9 + k) = (V.vG k).ownBlock := by
  rcases (show k = 0 ∨ k = 1 by omega) with rfl | rfl <;> exact ⟨rfl, rfl, rfl, rfl, rfl⟩
/-- The end k has turned: its block, its map, its list of what is kept (the same block or a new one). -/
theorem PairM.turnEnd (h : PairM w B bp V X) {k n' : Nat} {C' : Chan} {vk' : Value} (hk2 : k < 2) (hk : Keeps (V.bc k :: V.bm k :: (V.vk k).ownBlock.toList) w w') (hkb : KB w w') (hC : Ch w' B (V.bc k) (V.bm k) n' vk' C')
    (how : vk'.ownBlock = (V.vk k).ownBlock ∨ ∀ b, vk'.ownBlock = some b → w.heap.size ≤ b) :
    PairM w' B bp { V with n := putF V.n k n', vk := putF V.vk k vk' } { X with C := putF X.C k C' } := by
  obtain ⟨o1, o3, o5, _, _⟩ := V.own_bc bp hk2
  have hO : ∀ j, j ≠ 1 + k → j ≠ 3 + k → j ≠ 5 + k → ∀ c ∈ V.bc k :: V.bm k :: (V.vk k).ownBlock.toList, V.own bp j ≠ some c := fun j h1 h3 h5 c hc e => by
    rcases List.mem_cons.1 hc with rfl | hc
    · exact h.sep.ne _ j _ (fun e => h1 e.symm) o1 e
    · rcases List.mem_cons.1 hc with rfl | hc
      · exact h.sep.ne _ j _ (fun e => h3 e.symm) o3 e
      · exact h.sep.ne _ j c (fun e => h5 e.symm) (o5.trans (by simpa using hc)) e
  refine ⟨(hk.block bp (Array.getElem?_eq_some_iff.1 h.blk).1 (fun hm => hO 0 (by omega) (by omega) (by omega) bp hm rfl)).trans h.blk, fun j hj => ?_, fun j hj => ?_, fun j hj => ?_, ?_, ?_⟩
  · by_cases e : j = k
    · subst e
      simp only [putF_same]
      exact hC
    · simp only [putF_other _ _ e]
      obtain ⟨q1, q3, q5, _, _⟩ := V.own_bc bp hj
      refine (h.ch j hj).keepS hk (fun hm => hO (1 + j) (by omega) (by omega) (by omega) _ hm q1) (fun hm => hO (3 + j) (by omega) (by omega) (by omega) _ hm q3) (fun b hb => ?_) hkb
      rw [← q5]; exact hO (5 + j) (by omega) (by omega) (by omega) b hb
  · obtain ⟨_, _, _, q7, _⟩ := V.own_bc bp hj
    exact (h.sent j hj).keep hk (fun b hb => by rw [← q7]; exact hO (7 + j) (by omega) (by omega) (by omega) b hb) hkb
  · obtain ⟨_, _, _, _, q9⟩ := V.own_bc bp hj
    exact (h.got j hj).keep hk (fun b hb => by rw [← q9]; exact hO (9 + j) (by omega) (by omega) (by omega) b hb) hkb
  · exact h.way.keep hk (fun b hb => hO 11 (by omega) (by omega) (by omega) b hb) hkb
  · rw [PV.own_vk V bp hk2]
    refine h.sep.turn hk.size _ _ (fun b hb => ?_) (by rw [o5]; exact how)
    have := (ge_own hC.kept b hb).2
    exact this
end Go.Proofs.Ytilmcdieihmiaaa

namespace Go.Proofs.Ytilmcdieihmiaaa
open Go.RowKit

/-- The pair's cells. -/
def PV.cs (V : PV) : Array Value := #[.pointer (some ⟨V.bc 0, 0, none⟩), .pointer (some ⟨V.bc 1, 0, none⟩), V.vw, V.vS 0, V.vS 1, V.vG 0, V.vG 1]
variable {w w' : World} {B bp : Nat} {V : PV} {X : PC}
theorem PV.own_vS (V : PV) (bp : Nat) {k : Nat} (hk : k < 2) (x : Value) : PV.own { V with vS := putF V.vS k x } bp = putN (V.own bp) (7 + k) x.ownBlock := by
  funext j
  rcases (show k = 0 ∨ k = 1 by omega) with rfl | rfl
  all_goals
    match j with
    | 0 => rfl
    | 1 => rfl
    | 2 => rfl
    | 3 => rfl
    | 4 => rfl
    | 5 => rfl
    | 6 => rfl
    | 7 => rfl
    | 8 => rfl
    | 9 => rfl
    | 10 => rfl
    | 11 => rfl
    | j + 12 => rw [putN_other _ _ (by omega)]; rfl
theorem PV.own_vG (V : PV) (bp : Nat) {k : Nat} (hk : k < 2) (x : Value) : PV.own { V with vG := putF V.vG k x } bp = putN (V.own bp) (9 + k) x.ownBlock := by
  funext j
  rcases (show k = 0 ∨ k = 1 by omega) with rfl | rfl
  all_goals
    match j with
    | 0 => rfl
    | 1 => rfl
    | 2 => rfl
    | 3 => rfl
    | 4 => rfl
    | 5 => rfl
    | 6 => rfl
    | 7 => rfl
    | 8 => rfl
    | 9 => rfl
    | 10 => rfl
    | 11 => rfl
    | j + 12 => rw [putN_other _ _ (by omega)]; rfl
theorem PV.own_vw (V : PV) (bp : Nat) (x : Value) : PV.own { V with vw := x } bp = putN (V.own bp) (11) x.ownBlock := by
  funext j
  match j with
  | 0 => rfl
  | 1 => rfl
  | 2 => rfl
  | 3 => rfl
  | 4 => rfl
  | 5 => rfl
  | 6 => rfl
  | 7 => rfl
  | 8 => rfl
  | 9 => rfl
  | 10 => rfl
  | 11 => rfl
  | j + 12 => rw [putN_other _ _ (by omega)]; rfl
theorem PairM.turn_sent (h : PairM w B bp V X) {k : Nat} {x : Value} {y : List Bytes} (hk2 : k < 2) (hk : Keeps (bp :: (V.vS k).ownBlock.toList) w w') (hkb : KB w w') (hblk : w'.heap[bp]? = some (.cells (PV.cs { V with vS := putF V.vS k x }) 55 (0, 0))) (hN : KL w' B x y)
    (hlt : ∀ b, x.ownBlock = some b → b < w'.heap.size) (how : x.ownBlock = (V.vS k).ownBlock ∨ ∀ b, x.ownBlock = some b → w.heap.size ≤ b) : PairM w' B bp { V with vS := putF V.vS k x } { X with S := putF X.S k y } := by
  have oq : V.own bp (7 + k) = (V.vS k).ownBlock := (V.own_bc bp hk2).2.2.2.1
  have hO : ∀ j, j ≠ 0 → j ≠ 7 + k → ∀ c ∈ bp :: (V.vS k).ownBlock.toList, V.own bp j ≠ some c := fun j h0 h1 c hc e => by
    rcases List.mem_cons.1 hc with rfl | hc
    · exact h.sep.ne 0 j _ (fun e => h0 e.symm) rfl e
    · exact h.sep.ne _ j c (fun e => h1 e.symm) (oq.trans (by simpa using hc)) e
  refine ⟨hblk, fun j hj => ?_, fun j hj => ?_, fun j hj => ?_, ?_, ?_⟩
  · obtain ⟨q1, q3, q5, _, _⟩ := V.own_bc bp hj
    refine (h.ch j hj).keepS hk (fun hm => hO (1 + j) (by omega) (by omega) _ hm q1) (fun hm => hO (3 + j) (by omega) (by omega) _ hm q3) (fun b hb => ?_) hkb
    rw [← q5]; exact hO (5 + j) (by omega) (by omega) b hb
  · by_cases e : j = k
    · subst e; simp only [putF_same]; exact hN
    · simp only [putF_other _ _ e]
      have q := (V.own_bc bp hj).2.2.2.1
      exact (h.sent j hj).keep hk (fun b hb => by rw [← q]; exact hO (7 + j) (by omega) (by omega) b hb) hkb
  · have q := (V.own_bc bp hj).2.2.2.2
    exact (h.got j hj).keep hk (fun b hb => by rw [← q]; exact hO (9 + j) (by omega) (by omega) b hb) hkb
  · exact h.way.keep hk (fun b hb => hO 11 (by omega) (by omega) b hb) hkb
  · rw [PV.own_vS V bp hk2]
    exact h.sep.turn hk.size _ _ hlt (by rw [oq]; exact how)
theorem PairM.turn_got (h : PairM w B bp V X) {k : Nat} {x : Value} {y : List Bytes} (hk2 : k < 2) (hk : Keeps (bp :: (V.vG k).ownBlock.toList) w w') (hkb : KB w w') (hblk : w'.heap[bp]? = some (.cells (PV.cs { V with vG := putF V.vG k x }) 55 (0, 0))) (hN : KL w' B x y)
    (hlt : ∀ b, x.ownBlock = some b → b < w'.heap.size) (how : x.ownBlock = (V.vG k).ownBlock ∨ ∀ b, x.ownBlock = some b → w.heap.size ≤ b) : PairM w' B bp { V with vG := putF V.vG k x } { X with G := putF X.G k y } := by
  have oq : V.own bp (9 + k) = (V.vG k).ownBlock := (V.own_bc bp hk2).2.2.2.2
  have hO : ∀ j, j ≠ 0 → j ≠ 9 + k → ∀ c ∈ bp :: (V.vG k).ownBlock.toList, V.own bp j ≠ some c := fun j h0 h1 c hc e => by
    rcases List.mem_cons.1 hc with rfl | hc
    · exact h.sep.ne 0 j _ (fun e => h0 e.symm) rfl e
    · exact h.sep.ne _ j c (fun e => h1 e.symm) (oq.trans (by simpa using hc)) e
  refine ⟨hblk, fun j hj => ?_, fun j hj => ?_, fun j hj => ?_, ?_, ?_⟩
  · obtain ⟨q1, q3, q5, _, _⟩ := V.own_bc bp hj
    refine (h.ch j hj).keepS hk (fun hm => hO (1 + j) (by omega) (by omega) _ hm q1) (fun hm => hO (3 + j) (by omega) (by omega) _ hm q3) (fun b hb => ?_) hkb
    rw [← q5]; exact hO (5 + j) (by omega) (by omega) b hb
  · have q := (V.own_bc bp hj).2.2.2.1
    exact (h.sent j hj).keep hk (fun b hb => by rw [← q]; exact hO (7 + j) (by omega) (by omega) b hb) hkb
  · by_cases e : j = k
    · subst e; simp only [putF_same]; exact hN
    · simp only [putF_other _ _ e]
      have q := (V.own_bc bp hj).2.2.2.2
      exact (h.got j hj).keep hk (fun b hb => by rw [← q]; exact hO (9 + j) (by omega) (by omega) b hb) hkb
  · exact h.way.keep hk (fun b hb => hO 11 (by omega) (by omega) b hb) hkb
  · rw [PV.own_vG V bp hk2]
    exact h.sep.turn hk.size _ _ hlt (by rw [oq]; exact how)
theorem PairM.turn_way (h : PairM w B bp V X) {x : Value} {y : List NB} (hk : Keeps (bp :: V.vw.ownBlock.toList) w w') (hkb : KB w w') (hblk : w'.heap[bp]? = some (.cells (PV.cs { V with vw := x }) 55 (0, 0))) (hN : OE w' B 92 x y)
    (hlt : ∀ b, x.ownBlock = some b → b < w'.heap.size) (how : x.ownBlock = V.vw.ownBlock ∨ ∀ b, x.ownBlock = some b → w.heap.size ≤ b) : PairM w' B bp { V with vw := x } { X with L := y } := by
  have oq : V.own bp (11) = V.vw.ownBlock := rfl
  have hO : ∀ j, j ≠ 0 → j ≠ 11 → ∀ c ∈ bp :: V.vw.ownBlock.toList, V.own bp j ≠ some c := fun j h0 h1 c hc e => by
    rcases List.mem_cons.1 hc with rfl | hc
    · exact h.sep.ne 0 j _ (fun e => h0 e.symm) rfl e
    · exact h.sep.ne _ j c (fun e => h1 e.symm) (oq.trans (by simpa using hc)) e
  refine ⟨hblk, fun j hj => ?_, fun j hj => ?_, fun j hj => ?_, ?_, ?_⟩
  · obtain ⟨q1, q3, q5, _, _⟩ := V.own_bc bp hj
    refine (h.ch j hj).keepS hk (fun hm => hO (1 + j) (by omega) (by omega) _ hm q1) (fun hm => hO (3 + j) (by omega) (by omega) _ hm q3) (fun b hb => ?_) hkb
    rw [← q5]; exact hO (5 + j) (by omega) (by omega) b hb
  · have q := (V.own_bc bp hj).2.2.2.1
    exact (h.sent j hj).keep hk (fun b hb => by rw [← q]; exact hO (7 + j) (by omega) (by omega) b hb) hkb
  · have q := (V.own_bc bp hj).2.2.2.2
    exact (h.got j hj).keep hk (fun b hb => by rw [← q]; exact hO (9 + j) (by omega) (by omega) b hb) hkb
  · exact hN
  · rw [PV.own_vw V bp]
    exact h.sep.turn hk.size _ _ hlt (by rw [oq]; exact how)
end Go.Proofs.Ytilmcdieihmiaaa

namespace Go.Proofs.Ytilmcdieihmiaaa
open Go.RowKit

/-- All but that the next payload is not there. -/
structure Half (P : List Bytes) (C : Chan) (got : List Bytes) : Prop where
  recv : C.received ≤ P.length
  early : ∀ s l, C.early s = some l → ∃ k : Nat, s = (k : Int) + 1 ∧ C.received ≤ k ∧ P[k]? = some l
  got : got = P.take C.received
structure Inv (P : List Bytes) (C : Chan) (got : List Bytes) : Prop extends Half P C got where
  closed : C.early ((C.received : Int) + 1) = none
def Seen (C : Chan) (k : Nat) : Prop := k + 1 ≤ C.received ∨ C.early ((k : Int) + 1) ≠ none

theorem Half.take {P : List Bytes} {C : Chan} {got : List Bytes} {l : Bytes} (h : Half P C got) (he : C.early ((C.received : Int) + 1) = some l) : Half P C.take (got ++ [l]) := by
  obtain ⟨k, e, hk, hl⟩ := h.early _ _ he
  have : k = C.received := by omega
  subst this
  have hlt := (List.getElem?_eq_some_iff.1 hl).1
  refine ⟨by simp [Chan.take]; omega, fun s l hs => ?_, ?_⟩
  · simp only [Chan.take] at hs ⊢
    split at hs
    · simp at hs
    · next hne =>
      obtain ⟨k, e, hk, hl⟩ := h.early s l hs
      exact ⟨k, e, by omega, hl⟩
  · rw [h.got]
    simp only [Chan.take]
    rw [List.take_succ_eq_append_getElem hlt, (List.getElem?_eq_some_iff.1 hl).2]
theorem Seen.take {C : Chan} {k : Nat} (h : Seen C k) : Seen C.take k := by
  rcases h with h | h
  · exact .inl (by simp [Chan.take]; omega)
  · by_cases e : (k : Int) + 1 = (C.received : Int) + 1
    · exact .inl (by simp [Chan.take]; omega)
    · exact .inr (by simpa [Chan.take, e] using h)
theorem Dr.half {P : List Bytes} {C C' : Chan} {got outs : List Bytes} (h : Dr C C' outs) (hh : Half P C got) : Half P C' (got ++ outs) := by
  induction h with
  | refl => simpa using hh
  | step _ he ih => rw [← List.append_assoc]; exact ih.take he
theorem Dr.seen {C C' : Chan} {outs : List Bytes} {k : Nat} (h : Dr C C' outs) (hh : Seen C k) : Seen C' k := by
  induction h with
  | refl => exact hh
  | step _ _ ih => exact ih.take
theorem Half.put {P : List Bytes} {C : Chan} {got : List Bytes} {l : Bytes} {k : Nat} (h : Half P C got) (hk : P[k]? = some l) (hr : C.received < k + 1) : Half P (C.put (k + 1) l) got := by
  refine ⟨h.recv, fun s l' hs => ?_, h.got⟩
  simp only [Chan.put] at hs ⊢
  split at hs
  · next e => cases hs; exact ⟨k, by omega, by omega, hk⟩
  · exact h.early s l' hs
theorem Seen.put {C : Chan} {l : Bytes} {q k : Nat} (h : Seen C k) : Seen (C.put q l) k := by
  rcases h with h | h
  · exact .inl h
  · refine .inr ?_
    simp only [Chan.put]
    split
    · simp
    · exact h
theorem Inv.step {P : List Bytes} {C C' : Chan} {got outs : List Bytes} {l : Bytes} {k : Nat} (h : Inv P C got) (hk : P[k]? = some l) (hg : Got C (k + 1) l C' outs) : Inv P C' (got ++ outs) ∧ Seen C' k ∧ ∀ j, Seen C j → Seen C' j := by
  rcases hg with ⟨rfl, rfl, ht⟩ | ⟨hn, hr, hD, hno⟩
  · refine ⟨by simpa using h, ?_, fun _ hj => hj⟩
    rcases ht with ⟨l', ht⟩ | ht
    · exact .inr (by rw [show ((k : Int) + 1) = ((k + 1 : Nat) : Int) by omega, ht]; simp)
    · exact .inl ht
  · exact ⟨⟨hD.half (h.toHalf.put hk hr), hno⟩, hD.seen (.inr (by simp [Chan.put])), fun j hj => hD.seen hj.put⟩
theorem Inv.all {P : List Bytes} {C : Chan} {got : List Bytes} (h : Inv P C got) (hs : ∀ j, j < P.length → Seen C j) : got = P ∧ C.received = P.length := by
  have e : C.received = P.length := by
    rcases Nat.lt_or_ge C.received P.length with hlt | hge
    · rcases hs _ hlt with h1 | h1
      · omega
      · exact absurd h.closed h1
    · have := h.recv; omega
  exact ⟨by rw [h.got, e, List.take_length], e⟩
theorem Inv.near {P : List Bytes} {C : Chan} {got : List Bytes} (h : Inv P C got) (hP : P.length ≤ 1024) : C.near (C.received + 1024) := fun s hs => by
  cases he : C.early s with
  | none => exact absurd he hs
  | some l =>
    obtain ⟨k, rfl, hk, hl⟩ := h.early s l he
    have := (List.getElem?_eq_some_iff.1 hl).1
    omega
theorem Inv.start (P : List Bytes) : Inv P ⟨0, 0, 0, [], fun _ => none⟩ [] := ⟨⟨by simp, fun _ _ h => by simp at h, by simp⟩, rfl⟩
/-- The datagrams of payloads. -/
def dgs (P : List Bytes) : List Bytes := P.mapIdx fun j l => dataB (j + 1) l
theorem dgs_len (P : List Bytes) : (dgs P).length = P.length := by simp [dgs]
theorem dgs_get (P : List Bytes) (k : Nat) (h : k < P.length) : (dgs P)[k]'(by rw [dgs_len]; exact h) = dataB (k + 1) P[k] := by simp [dgs]
theorem dgs_step (P : List Bytes) (k : Nat) (h : k < P.length) : (dgs P).take k ++ [dataB (k + 1) P[k]] = (dgs P).take (k + 1) := by
  rw [List.take_succ_eq_append_getElem (by rw [dgs_len]; exact h), dgs_get P k h]
end Go.Proofs.Ytilmcdieihmiaaa

namespace Go.Proofs.Ytilmcdieihmiaaa
open Go.RowKit

/-- One direction: the payloads `P` that A has sent to B, which has handed over `got`. -/
structure Dir (P : List Bytes) (A B : Chan) (got : List Bytes) : Prop where
  inv : Inv P B got
  sent : A.sent = P.length
  kept : A.kept = P.drop A.acked
  acked : A.acked ≤ B.received
/-- A datagram on its way from A. -/
def Pk (P : List Bytes) (A : Chan) (d : Bytes) : Prop := (∃ n l, P[n]? = some l ∧ d = dataB (n + 1) l) ∨ ∃ a, a ≤ A.received ∧ d = ackB a
variable {P : List Bytes} {A A' B B' : Chan} {got outs : List Bytes} {l : Bytes} {d : Bytes}
theorem Inv.more (h : Inv P B got) (l : Bytes) : Inv (P ++ [l]) B got := by
  refine ⟨⟨by have := h.recv; simp; omega, fun s l' hs => ?_, ?_⟩, h.closed⟩
  · obtain ⟨k, e, h1, h2⟩ := h.early s l' hs
    exact ⟨k, e, h1, by rw [List.getElem?_append_left (List.getElem?_eq_some_iff.1 h2).1]; exact h2⟩
  · rw [List.take_append_of_le_length h.recv]; exact h.got
theorem Dir.start : Dir [] ⟨0, 0, 0, [], fun _ => none⟩ ⟨0, 0, 0, [], fun _ => none⟩ [] := ⟨Inv.start [], rfl, rfl, Nat.le_refl _⟩
theorem Dir.push (h : Dir P A B got) (l : Bytes) : Dir (P ++ [l]) { A with sent := A.sent + 1, kept := A.kept ++ [l] } B got :=
  ⟨h.inv.more l, by simp [h.sent], by
    show A.kept ++ [l] = (P ++ [l]).drop A.acked
    rw [List.drop_append_of_le_length (Nat.le_trans h.acked h.inv.recv), h.kept], h.acked⟩
theorem Dir.ofA (h : Dir P A B got) (h1 : A'.sent = A.sent) (h2 : A'.acked = A.acked) (h3 : A'.kept = A.kept) : Dir P A' B got :=
  ⟨h.inv, h1.trans h.sent, by rw [h3, h2]; exact h.kept, by rw [h2]; exact h.acked⟩
theorem Dir.ofB (h : Dir P A B got) (h1 : B'.received = B.received) (h2 : B'.early = B.early) : Dir P A B' got :=
  ⟨⟨⟨by rw [h1]; exact h.inv.recv, fun s l hs => by rw [h2] at hs; rw [h1]; exact h.inv.early s l hs, by rw [h1]; exact h.inv.got⟩, by rw [h1, h2]; exact h.inv.closed⟩, h.sent, h.kept, by rw [h1]; exact h.acked⟩
theorem Dr.samePair (h : Dr A A' outs) : A'.sent = A.sent ∧ A'.acked = A.acked ∧ A'.kept = A.kept ∧ A'.received = A.received + outs.length := by
  induction h with
  | refl => exact ⟨rfl, rfl, rfl, by simp⟩
  | step _ _ ih => exact ⟨ih.1, ih.2.1, ih.2.2.1, by simp [Chan.take, ih.2.2.2]; omega⟩
theorem Got.same {q : Nat} (h : Got A q l A' outs) : A'.sent = A.sent ∧ A'.acked = A.acked ∧ A'.kept = A.kept ∧ A'.received = A.received + outs.length := by
  rcases h with ⟨rfl, rfl, _⟩ | ⟨_, _, hD, _⟩
  · exact ⟨rfl, rfl, rfl, by simp⟩
  · exact hD.samePair
theorem Dir.recv {k : Nat} (h : Dir P A B got) (hk : P[k]? = some l) (hg : Got B (k + 1) l B' outs) : Dir P A B' (got ++ outs) :=
  ⟨(h.inv.step hk hg).1, h.sent, h.kept, by have := hg.same.2.2.2; have := h.acked; omega⟩
theorem ackd_same (a : Nat) : (A.ackd a).sent = A.sent ∧ (A.ackd a).received = A.received ∧ (A.ackd a).early = A.early := by
  unfold Chan.ackd; split <;> exact ⟨rfl, rfl, rfl⟩
theorem Dir.ack (h : Dir P A B got) {a : Nat} (ha : a ≤ B.received) : Dir P (A.ackd a) B got := by
  refine ⟨h.inv, (ackd_same a).1.trans h.sent, ?_, ?_⟩
  · unfold Chan.ackd
    split
    · rename_i hc
      show A.kept.drop (a - A.acked) = P.drop a
      rw [h.kept, List.drop_drop]
      congr 1; omega
    · exact h.kept
  · unfold Chan.ackd
    split
    · exact ha
    · exact h.acked
theorem Dir.ackTo (h : Dir P A B got) {a : Nat} (ha : a ≤ B.received) : (A.ackd a).acked = max A.acked a := by
  have := h.sent; have := h.inv.recv
  unfold Chan.ackd
  split
  · show a = _; omega
  · show A.acked = _; omega
/-- An acknowledgement on its way is never refused. -/
theorem Dir.ackOk (h : Dir P A B got) {a : Nat} (ha : a ≤ B.received) : ¬ A.sent < a := by have := h.sent; have := h.inv.recv; omega
theorem Pk.more (h : Pk P A d) (l : Bytes) (hr : A.received ≤ A'.received) : Pk (P ++ [l]) A' d := by
  rcases h with ⟨n, x, h1, h2⟩ | ⟨a, h1, h2⟩
  · exact .inl ⟨n, x, by rw [List.getElem?_append_left (List.getElem?_eq_some_iff.1 h1).1]; exact h1, h2⟩
  · exact .inr ⟨a, by omega, h2⟩
theorem Pk.grow (h : Pk P A d) (hr : A.received ≤ A'.received) : Pk P A' d := by
  rcases h with h | ⟨a, h1, h2⟩
  · exact .inl h
  · exact .inr ⟨a, by omega, h2⟩
theorem Pk.send (P : List Bytes) (A : Chan) (l : Bytes) : Pk (P ++ [l]) A (dataB (P.length + 1) l) := .inl ⟨P.length, l, by simp, rfl⟩
theorem Pk.ack (P : List Bytes) (A : Chan) : Pk P A (ackB A.received) := .inr ⟨_, Nat.le_refl _, rfl⟩
/-- What an end sends again. -/
theorem Dir.again (h : Dir P A B got) {i : Nat} {x : Bytes} (hi : A.kept[i]? = some x) : Pk P A (dataB (A.acked + 1 + i) x) := by
  rw [h.kept, List.getElem?_drop] at hi
  exact .inl ⟨A.acked + i, x, hi, by rw [show A.acked + 1 + i = A.acked + i + 1 by omega]⟩
/-- The law's `sound`, of one direction. -/
theorem Dir.sound (h : Dir P A B got) : got.length ≤ P.length ∧ got = P.take got.length ∧ B.received = got.length ∧ A.sent = P.length ∧ A.acked ≤ got.length := by
  have e : got.length = B.received := by rw [h.inv.got, List.length_take]; have := h.inv.recv; omega
  exact ⟨by rw [e]; exact h.inv.recv, by rw [e]; exact h.inv.got, e.symm, h.sent, by rw [e]; exact h.acked⟩
end Go.Proofs.Ytilmcdieihmiaaa

namespace Go.Proofs.Ytilmcdieihmiaaa
open Go.RowKit

/-- A datagram, as what it is: the payload number k + 1 (k from 0), or an acknowledgement. -/
inductive Pkt
  | data (k : Nat) (l : Bytes)
  | ack (a : Nat)
def Pkt.bytes : Pkt → Bytes
  | .data k l => dataB (k + 1) l
  | .ack a => ackB a
def Pkt.ok (P : List Bytes) (A : Chan) : Pkt → Prop
  | .data k l => P[k]? = some l
  | .ack a => a ≤ A.received
variable {P : List Bytes} {A A' B B' : Chan} {got outs : List Bytes} {l : Bytes} {W1 W2 : List Pkt}
theorem Pkt.ok.pk {p : Pkt} (h : p.ok P A) : Pk P A p.bytes := by
  cases p with
  | data k l => exact .inl ⟨k, l, h, rfl⟩
  | ack a => exact .inr ⟨a, h, rfl⟩
theorem Pkt.ok.more {p : Pkt} (h : p.ok P A) (l : Bytes) (hr : A.received ≤ A'.received) : p.ok (P ++ [l]) A' := by
  cases p with
  | data k x => exact (by show (P ++ [l])[k]? = some x; rw [List.getElem?_append_left (List.getElem?_eq_some_iff.1 (show P[k]? = some x from h)).1]; exact h)
  | ack a => exact Nat.le_trans (show a ≤ A.received from h) hr
theorem Pkt.ok.grow {p : Pkt} (h : p.ok P A) (hr : A.received ≤ A'.received) : p.ok P A' := by
  cases p with
  | data k x => exact h
  | ack a => exact Nat.le_trans (show a ≤ A.received from h) hr
/-- Every payload has come or is on the way to B. -/
def Need (P : List Bytes) (B : Chan) (W : List Pkt) : Prop := ∀ (j : Nat) (x : Bytes), P[j]? = some x → Seen B j ∨ Pkt.data j x ∈ W
theorem Need.data {k : Nat} (h : Need P B (W1 ++ .data k l :: W2)) (hi : Inv P B got) (hk : P[k]? = some l) (hg : Got B (k + 1) l B' outs) : Need P B' (W1 ++ W2) := fun j x hj => by
  obtain ⟨_, h1, h2⟩ := hi.step hk hg
  rcases h j x hj with hs | hm
  · exact .inl (h2 j hs)
  · rcases List.mem_append.1 hm with hm | hm
    · exact .inr (List.mem_append_left _ hm)
    · rcases List.mem_cons.1 hm with e | hm
      · cases e; exact .inl h1
      · exact .inr (List.mem_append_right _ hm)
theorem Need.ack {a : Nat} (h : Need P B (W1 ++ .ack a :: W2)) (h1 : B'.received = B.received) (h2 : B'.early = B.early) : Need P B' (W1 ++ W2) := fun j x hj => by
  have hs' : Seen B j → Seen B' j := fun hs => by unfold Seen at hs ⊢; rw [h1, h2]; exact hs
  rcases h j x hj with hs | hm
  · exact .inl (hs' hs)
  · rcases List.mem_append.1 hm with hm | hm
    · exact .inr (List.mem_append_left _ hm)
    · rcases List.mem_cons.1 hm with e | hm
      · cases e
      · exact .inr (List.mem_append_right _ hm)
/-- All has come. -/
theorem Need.all (h : Need P B []) (hi : Inv P B got) : got = P ∧ B.received = P.length :=
  hi.all fun j hj => (h j _ (List.getElem?_eq_getElem hj)).resolve_right (by simp)
/-- What A sends again makes up for all that has not come. -/
theorem Dir.need (h : Dir P A B got) {W : List Pkt} (hW : ∀ i x, A.kept[i]? = some x → Pkt.data (A.acked + i) x ∈ W) : Need P B W := fun j x hj => by
  rcases Nat.lt_or_ge j A.acked with hlt | hge
  · exact .inl (.inl (by have := h.acked; omega))
  · refine .inr ?_
    have := hW (j - A.acked) x (by rw [h.kept, List.getElem?_drop, show A.acked + (j - A.acked) = j by omega]; exact hj)
    rwa [show A.acked + (j - A.acked) = j by omega] at this
/-- The acknowledgement of n has come or is on the way to A. -/
def Late (A : Chan) (n : Nat) (W : List Pkt) : Prop := n ≤ A.acked ∨ Pkt.ack n ∈ W
theorem Late.ack {a n : Nat} (h : Late A n (W1 ++ .ack a :: W2)) (hd : Dir P A B got) (ha : a ≤ B.received) : Late (A.ackd a) n (W1 ++ W2) := by
  have e := hd.ackTo ha
  rcases h with h | hm
  · exact .inl (by rw [e]; omega)
  · rcases List.mem_append.1 hm with hm | hm
    · exact .inr (List.mem_append_left _ hm)
    · rcases List.mem_cons.1 hm with e2 | hm
      · cases e2; exact .inl (by rw [e]; omega)
      · exact .inr (List.mem_append_right _ hm)
theorem Late.data {k n : Nat} (h : Late A n (W1 ++ .data k l :: W2)) (h1 : A'.acked = A.acked) : Late A' n (W1 ++ W2) := by
  rcases h with h | hm
  · exact .inl (by rw [h1]; exact h)
  · rcases List.mem_append.1 hm with hm | hm
    · exact .inr (List.mem_append_left _ hm)
    · rcases List.mem_cons.1 hm with e2 | hm
      · cases e2
      · exact .inr (List.mem_append_right _ hm)
/-- All is acknowledged. -/
theorem Late.all (h : Late A P.length []) (hd : Dir P A B got) : A.acked = A.sent ∧ A.kept = [] := by
  have h1 : P.length ≤ A.acked := h.resolve_right (by simp)
  have := hd.acked; have := hd.inv.recv
  exact ⟨by rw [hd.sent]; omega, by rw [hd.kept]; exact List.drop_of_length_le h1⟩
end Go.Proofs.Ytilmcdieihmiaaa

namespace Go.Proofs.Ytilmcdieihmiaaa
open Go.RowKit

/-- What the datagram does. -/
def PktDone (C : Chan) (C' : Chan) (outs : List Bytes) : Pkt → Prop
  | .data k l => Got C (k + 1) l C' outs
  | .ack a => C' = C.ackd a ∧ outs = []
theorem rcvPkt_c (w : World) (B bc bm n : Nat) (vk vd : Value) (C A : Chan) (P Q got gotA : List Bytes) (p : Pkt) (h : Ch w B bc bm n vk C) (hcb : vk.ownBlock ≠ some bc) (hB : B ≤ w.heap.size) (hd : SlB w vd p.bytes)
    (h1 : Dir P A C got) (h2 : Dir Q C A gotA) (hp : p.ok P A) (hP : P.length ≤ 1024) (hQ : Q.length ≤ 1024) (hl : ∀ l ∈ P, l.length ≤ 1000) (hn : n < 1099511627776) :
    Calls Try.prog 13 #[.pointer (some ⟨bc, 0, none⟩), vd] w fun e w' => ∃ v' vk' C' outs n', e = .returned (.tuple #[v', .int .i64 0]) ∧ KL w' w.heap.size v' outs ∧ Ch w' B bc bm n' vk' C' ∧ n' ≤ n + 1 ∧ PktDone C C' outs p ∧ Keeps [bc, bm] w w' ∧ KB w w' ∧
      vk'.ownBlock ≠ some bc ∧ (vk'.ownBlock = vk.ownBlock ∨ ∀ k, vk'.ownBlock = some k → w.heap.size ≤ k) := by
  have hr := h1.inv.recv
  cases p with
  | data k l =>
    have hk : P[k]? = some l := hp
    have hlt := (List.getElem?_eq_some_iff.1 hk).1
    have hll := hl l (List.mem_of_getElem? hk)
    refine (recv_c w B bc bm n vk vd C (k + 1) l h hcb hd (by omega) (by omega) (by omega) hn (by omega) (h1.inv.near hP)).mono ?_
    rintro e w' ⟨v', C', outs, n', rfl, hL, hC, hn', hg, hk', hkb⟩
    exact ⟨v', vk, C', outs, n', rfl, hL, hC, hn', hg, hk', hkb, hcb, .inl rfl⟩
  | ack a =>
    have ha : a ≤ A.received := hp
    have hsum : C.kept.length + C.acked = C.sent := by
      have := h2.acked; have := h2.inv.recv
      rw [h2.kept, List.length_drop, h2.sent]; omega
    have hq := h2.inv.recv
    have hs := h2.sent
    refine (receive_ack w B bc bm n vk vd C (encU a) a h hcb (by omega) hsum hB hd (by have := encU_len (n := a) (by omega); omega) (by have := readU_encU a [] (by omega); simpa using this)).mono ?_
    rintro e w' ⟨vk', rfl, hC, hk, hkb, hcb', how⟩
    rw [if_neg (h2.ackOk ha)]
    exact ⟨_, vk', C.ackd a, [], n, rfl, KL.nil _ _, hC, by omega, ⟨rfl, rfl⟩, hk.mono (by simp), hkb, hcb', how⟩
end Go.Proofs.Ytilmcdieihmiaaa

namespace Go.Proofs.Ytilmcdieihmiaaa
open Go.RowKit

theorem PairM.cells {w : World} {B bp : Nat} {V : PV} {X : PC} (h : PairM w B bp V X) : w.cell? ⟨bp, 0, none⟩ = some (.pointer (some ⟨V.bc 0, 0, none⟩)) ∧ w.cell? ⟨bp, 1, none⟩ = some (.pointer (some ⟨V.bc 1, 0, none⟩)) ∧ w.cell? ⟨bp, 2, none⟩ = some V.vw ∧ w.cell? ⟨bp, 3, none⟩ = some (V.vS 0) ∧ w.cell? ⟨bp, 4, none⟩ = some (V.vS 1) ∧
    w.cell? ⟨bp, 5, none⟩ = some (V.vG 0) ∧ w.cell? ⟨bp, 6, none⟩ = some (V.vG 1) ∧ (∀ o, w.frozen? ⟨bp, o, none⟩ = false) ∧ bp < w.heap.size := by
  have h1 := h.blk
  refine ⟨by simp [World.cell?, h1], by simp [World.cell?, h1], by simp [World.cell?, h1], by simp [World.cell?, h1], by simp [World.cell?, h1], by simp [World.cell?, h1], by simp [World.cell?, h1], fun o => by simp [World.frozen?, h1], (Array.getElem?_eq_some_iff.1 h1).1⟩
variable {w : World} {B bp : Nat} {V : PV} {X : PC}
theorem PairM.cellE (h : PairM w B bp V X) {k : Nat} (hk : k < 2) : w.cell? ⟨bp, k, none⟩ = some (.pointer (some ⟨V.bc k, 0, none⟩)) ∧ w.cell? ⟨bp, 3 + k, none⟩ = some (V.vS k) ∧ w.cell? ⟨bp, 5 + k, none⟩ = some (V.vG k) := by
  obtain ⟨c0, c1, c2, c3, c4, c5, c6, _, _⟩ := h.cells
  rcases (show k = 0 ∨ k = 1 by omega) with rfl | rfl
  · exact ⟨c0, c3, c5⟩
  · exact ⟨c1, c4, c6⟩
/-- What deliver leaves. -/
def DelPost (w : World) (B bp : Nat) (V : PV) (X : PC) (k : Nat) (p : Pkt) (e : Ending) (w' : World) : Prop :=
  ∃ V' C' outs, e = .returned (.bool true) ∧ PairM w' B bp V' { X with C := putF X.C k C', G := putF X.G k (X.G k ++ outs) } ∧ PktDone (X.C k) C' outs p ∧ V'.bc = V.bc ∧ V'.bm = V.bm ∧ (∀ j, V'.n j ≤ V.n j + 1) ∧ ∃ S, Keeps S w w' ∧ ∀ b ∈ S, ∃ i, V.own bp i = some b
set_option maxRecDepth 100000 in
set_option maxHeartbeats 4000000 in
theorem deliver_c (k : Nat) (p : Pkt) (vd : Value) (h : PairM w B bp V X) (hk : k < 2) (hB : B ≤ w.heap.size) (hcb : ∀ j, j < 2 → (V.vk j).ownBlock ≠ some (V.bc j)) (hd : SlB w vd p.bytes)
    (h1 : Dir (X.S (1 - k)) (X.C (1 - k)) (X.C k) (X.G k)) (h2 : Dir (X.S k) (X.C k) (X.C (1 - k)) (X.G (1 - k))) (hp : p.ok (X.S (1 - k)) (X.C (1 - k))) (hP : (X.S (1 - k)).length ≤ 1024) (hQ : (X.S k).length ≤ 1024) (hl : ∀ l ∈ X.S (1 - k), l.length ≤ 1000) (hn : V.n k < 1099511627776) :
    Calls Try.prog 48 #[.pointer (some ⟨bp, 0, none⟩), .agg #[.int .i64 k, vd]] w (DelPost w B bp V X k p) := by
  have hka := (Keeps.refl [] w).alloc (.cells #[.int .i64 k, vd] 92)
  have hbx := heap_alloc_new w (.cells #[.int .i64 k, vd] 92)
  have hA := h.keeps hka
  have hdA := hd.keeps hka
  obtain ⟨ce, cs, cg⟩ := hA.cellE hk
  obtain ⟨_, _, _, _, _, _, _, hfr, hbplt⟩ := hA.cells
  have hbp0 := h.cells.2.2.2.2.2.2.2.2
  obtain ⟨ad, cd, rfl⟩ := hd.form
  obtain ⟨MB, hMB⟩ : ∃ n, p.bytes.length = n := ⟨_, rfl⟩
  rw [hMB] at hka hbx hA hdA ce cs cg hfr hbplt ⊢
  obtain ⟨e0, e1, _, _, hxl⟩ := cell2_of hbx
  obtain ⟨bck, hbck⟩ : ∃ b, V.bc k = b := ⟨_, rfl⟩
  obtain ⟨bmk, hbmk⟩ : ∃ b, V.bm k = b := ⟨_, rfl⟩
  rw [hbck] at ce
  obtain ⟨o1, o3, _, _, o9⟩ := V.own_bc bp hk
  have n1 : bp ≠ bck := fun e => h.sep.ne 0 (1 + k) bp (by omega) rfl (by rw [o1, hbck, e])
  have n3 : bp ≠ bmk := fun e => h.sep.ne 0 (3 + k) bp (by omega) rfl (by rw [o3, hbmk, e])
  have n2 : w.heap.size ≠ bck := fun e => by have := h.sep.lt (1 + k) _ o1; omega
  have n4 : w.heap.size ≠ bmk := fun e => by have := h.sep.lt (3 + k) _ o3; omega
  have hk2 : (k : Int) < 2 := by omega
  replace hA := Lib.hid hA
  replace hdA := Lib.hid hdA
  replace h := Lib.hid h
  replace hd := Lib.hid hd
  replace h1 := Lib.hid h1
  replace h2 := Lib.hid h2
  replace hp := Lib.hid hp
  replace hcb := Lib.hid hcb
  replace hbck := Lib.hid hbck
  replace hbmk := Lib.hid hbmk
  replace hMB := Lib.hid hMB
  replace hka := Lib.hid hka
  clear o1 o3 o9 cs cg hfr hbx
  go_enter Try.func48, Try.ntmps48
  go_wp2
  refine Free.wp_region_chain (fun i => i == 9) (fun i => true) (fun _ b => b = bck ∨ b = bmk) (by kernel_rfl) (by kernel_rfl) (by kernel_rfl) ?_
  (repeat (first | (apply Free.cw_pure rfl rfl; (intro w'; go_simp <;> exact rfl); go_frame) | (apply Free.cw_steady rfl rfl rfl; (intro w' hS; have q0 := Free.sx_cell hS e0 (fun _ _ hT => hT.elim n2 n4); have q1 := Free.sx_cell hS e1 (fun _ _ hT => hT.elim n2 n4); have q2 := Free.sx_cell hS ce (fun _ _ hT => hT.elim n1 n3); go_simp <;> exact rfl); go_frame) | (refine Free.cw_skip rfl ?_; go_frame)))
  refine Free.cw_loud rfl rfl (fun K hK => ?_)
  go_wp2_with fail
  have hAd := hA.out.keeps (Keeps.refl [] (w.alloc (.cells #[.int .i64 k, .slice ad MB cd] 92))).drew
  have hCh := hAd.ch k hk
  rw [hbck.out, hbmk.out] at hCh
  refine (rcvPkt_c _ B bck bmk (V.n k) (V.vk k) _ (X.C k) (X.C (1 - k)) _ _ _ _ p hCh (by rw [← hbck.out]; exact hcb.out k hk) (by simp; omega) (hdA.out.keeps (Keeps.refl [] _).drew) h1.out h2.out hp.out hP hQ hl hn).mono ?_
  rintro e w1 ⟨v1, vk1, C1, outs, n1', rfl, hL1, hC1, hn1', hdone, hk1, hkb1, hcb1, how1⟩
  refine hK _ _ rfl (Free.KeepsP.of hk1 (fun b hb => by simpa using hb)) ?_
  clear hK K
  have hP1 := hAd.turnEnd hk (n' := n1') (C' := C1) (vk' := vk1) (by rw [hbck.out, hbmk.out]; exact hk1.mono (fun b hb => by simp at hb ⊢; exact hb.elim .inl (fun h => .inr (.inl h)))) hkb1 (by rw [hbck.out, hbmk.out]; exact hC1) how1
  obtain ⟨_, _, cg⟩ := hP1.cellE hk
  obtain ⟨_, _, _, _, _, _, _, hfr, hbp1⟩ := hP1.cells
  have f0 := (hk1.cell _ 0 (by simp) (by simp; exact ⟨n2, n4⟩)).trans e0
  obtain ⟨ag, cgp, hvg⟩ := (hP1.got k hk).form
  replace hP1 := Lib.hid hP1
  replace hL1 := Lib.hid hL1
  replace hk1 := Lib.hid hk1
  replace hdone := Lib.hid hdone
  replace hC1 := Lib.hid hC1
  clear hAd hCh
  (repeat (first | (apply Free.cw_pure rfl rfl; (intro w'; go_simp <;> exact rfl); go_frame) | (apply Free.cw_steady rfl rfl rfl; (intro w' hS; have q0 := Free.sx_cell hS e0 (fun _ _ hT => hT.elim n2 n4); have q1 := Free.sx_cell hS e1 (fun _ _ hT => hT.elim n2 n4); have q2 := Free.sx_cell hS ce (fun _ _ hT => hT.elim n1 n3); go_simp <;> exact rfl); go_frame) | (refine Free.cw_skip rfl ?_; go_frame)))
  refine Free.cw_nil ?_
  have hxb : w.heap.size ≠ bp := by omega
  have og : (V.vG k).ownBlock ≠ some bp := fun e => h.out.sep.ne 0 (9 + k) bp (by omega) rfl ((V.own_bc bp hk).2.2.2.2.trans e)
  have og2 : (V.vG k).ownBlock ≠ some w.heap.size := fun e => by have := h.out.sep.lt (9 + k) _ ((V.own_bc bp hk).2.2.2.2.trans e); omega
  rw [hvg] at cg og og2
  have hGk := (hP1.out.got k hk)
  replace hGk : KL w1 B (V.vG k) (X.G k) := hGk
  rw [hvg] at hGk
  have hlen : (X.G k).length + outs.length ≤ 1024 := by
    cases p with
    | data q l =>
      have := (h1.out.recv (show (X.S (1 - k))[q]? = some l from hp.out) hdone.out).sound.1
      rw [List.length_append] at this; omega
    | ack a =>
      have e : outs = [] := hdone.out.2
      have := h1.out.sound.1
      rw [e]; simp; omega
  obtain ⟨av, cv, rfl⟩ := hL1.out.form
  obtain ⟨NG, hNG⟩ : ∃ n, (X.G k).length = n := ⟨_, rfl⟩
  obtain ⟨NO, hNO⟩ : ∃ n, outs.length = n := ⟨_, rfl⟩
  rw [hNG] at cg og og2 hGk hlen
  rw [hNO] at hL1 hlen ⊢
  replace hGk := Lib.hid hGk
  replace hNG := Lib.hid hNG
  replace hNO := Lib.hid hNO
  replace hvg := Lib.hid hvg
  have hw1 := hk1.out.size
  have fz := hfr (5 + k)
  clear hfr
  go_wp2
  refine Free.wp_region_chain (fun i => i == 11 || i == 15) (fun i => true) (fun j b => (j = 11 ∧ b ≠ bp ∧ b ≠ w.heap.size) ∨ (j = 15 ∧ b = bp)) (by kernel_rfl) (by kernel_rfl) (by kernel_rfl) ?_
  (repeat (first | (apply Free.cw_pure rfl rfl; (intro w'; go_simp <;> exact rfl); go_frame) | (apply Free.cw_steady rfl rfl rfl; (intro w' hS; have q0 := Free.sx_cell hS f0 (fun j hp hT => hT.elim (fun h => h.2.2 rfl) (fun h => hxb h.2)); have q1 := Free.sx_cell hS cg (fun j hp hT => hT.elim (fun h => h.2.1 rfl) (fun h => by obtain ⟨rfl, _⟩ := h; exact absurd hp (by decide +kernel))); go_simp <;> exact rfl); go_frame) | (refine Free.cw_skip rfl ?_; go_frame)))
  refine Free.cw_loud rfl rfl (fun K hK => ?_)
  have hkd := (Keeps.refl [] w1).drew
  refine wp_appL _ B _ _ (X.G k) outs _ _ rfl rfl rfl (hGk.out.keep hkd (by simp) hkd.kb0) ((hL1.out.keep hkd (by simp) hkd.kb0).sls) (by rw [hNG.out, hNO.out]; omega) (by simp at hw1 ⊢; omega) ?_
  intro v2 w2 hL2 hG2 hkb2
  refine hK _ _ rfl (Free.KeepsP.grown hG2.grown (fun b e => .inl ⟨rfl, fun hb => og (by rw [← hb]; exact e), fun hb => og2 (by rw [← hb]; exact e)⟩)) ?_
  clear hK K
  have hbk : w2.heap[bp]? = w1.heap[bp]? := hG2.grown.block bp (by simpa using hbp1) (fun e => og e.symm)
  have cg2 : w2.cell? ⟨bp, 5 + k, none⟩ = some (.slice ag NG cgp) := (World.cell?_of_block (a := ⟨bp, 5 + k, none⟩) hbk).trans cg
  have fz2 : w2.frozen? ⟨bp, 5 + k, none⟩ = false := by
    have := hP1.out.blk
    rw [← hbk] at this
    simp [World.frozen?, this]
  obtain ⟨a2, c2, rfl⟩ := hL2.form
  replace hL2 := Lib.hid hL2
  replace hG2 := Lib.hid hG2
  replace hbk := Lib.hid hbk
  obtain ⟨N2, hN2⟩ : ∃ n, (X.G k ++ outs).length = n := ⟨_, rfl⟩
  rw [hN2] at hL2 hG2 ⊢
  replace hN2 := Lib.hid hN2
  clear cg fz f0
  (repeat (apply Free.cw_pure rfl rfl; (intro w'; go_simp <;> exact rfl); go_frame))
  refine Free.cw_loud rfl rfl (fun K hK => ?_)
  go_wp2
  refine hK _ _ rfl (Free.KeepsP.setCell _ (.inr ⟨trivial, rfl⟩) _) ?_
  clear hK K
  refine Free.cw_nil ?_
  go_wp2
  go_ret
  have hg : Grw w1.drew w2 (.slice ag NG cgp) (.slice a2 N2 c2) := hG2.out
  have hvg' : V.vG k = .slice ag NG cgp := by rw [hvg.out, hNG.out]
  have hox : (Value.slice a2 N2 c2).ownBlock ≠ some bp := fun e => by
    rcases hg.own with e2 | ⟨b, e2, hb⟩
    · exact og (e2.symm.trans e)
    · rw [e] at e2; cases e2; simp at hb; omega
  have hkset : Keeps [bp] w2 (w2.setCell ⟨bp, 5 + k, none⟩ (.slice a2 N2 c2)) := (Keeps.refl _ _).setCell (.inr (by simp)) _
  have hkbset : KB w2 (w2.setCell ⟨bp, 5 + k, none⟩ (.slice a2 N2 c2)) := KB.setCell w2 _ cg2 (by simp)
  have hkk : Keeps (bp :: (V.vG k).ownBlock.toList) w1 (w2.setCell ⟨bp, 5 + k, none⟩ (.slice a2 N2 c2)) := by
    rw [hvg']
    exact ((hkd.of_nil.trans hg.keepsO).mono (fun b hb => List.mem_cons_of_mem _ hb)).trans (hkset.mono (fun b hb => by simp at hb; simp [hb]))
  have hkb3 := hkd.kb0.trans (hkb2.trans hkbset)
  have hb0 := hbk.out.trans hP1.out.blk
  have hblk : (w2.setCell ⟨bp, 5 + k, none⟩ (.slice a2 N2 c2)).heap[bp]? = some (.cells (PV.cs { V with n := putF V.n k n1', vk := putF V.vk k vk1, vG := putF V.vG k (.slice a2 N2 c2) }) 55 (0, 0)) := by
    rcases (show k = 0 ∨ k = 1 by omega) with rfl | rfl <;> simp [World.setCell, Array.getElem?_modify, hb0, PV.cs, putF]
  have hfin := hP1.out.turn_got hk hkk hkb3 hblk (hL2.out.keep hkset (fun b hb => by simp at hb; subst hb; exact hox) hkbset) (fun b hb => by have := (hL2.out.keep hkset (fun b hb => by simp at hb; subst hb; exact hox) hkbset); exact (ge_own this b hb).2)
    (by
      show _ = (V.vG k).ownBlock ∨ _
      rw [hvg']
      rcases hg.own with e2 | ⟨b, e2, hb⟩
      · exact .inl e2
      · exact .inr (fun c hc => by rw [e2] at hc; cases hc; simpa using hb))
  refine ⟨_, C1, outs, rfl, hfin, hdone.out, rfl, rfl, fun j => by show putF V.n k n1' j ≤ _; unfold putF; split <;> (try subst_vars) <;> omega, bck :: bmk :: bp :: (V.vG k).ownBlock.toList, ?_, fun b hb => ?_⟩
  · refine (hka.out.of_nil.trans ((Keeps.refl _ _).drew.trans (hk1.out.mono (fun b hb => by simp at hb ⊢; exact hb.elim .inl (fun h => .inr (.inl h)))))).trans (hkk.mono (fun b hb => List.mem_cons_of_mem _ (List.mem_cons_of_mem _ hb)))
  · obtain ⟨o1, o3, _, _, o9⟩ := V.own_bc bp hk
    rcases List.mem_cons.1 hb with rfl | hb
    · exact ⟨1 + k, by rw [o1, hbck.out]⟩
    · rcases List.mem_cons.1 hb with rfl | hb
      · exact ⟨3 + k, by rw [o3, hbmk.out]⟩
      · rcases List.mem_cons.1 hb with rfl | hb
        · exact ⟨0, rfl⟩
        · exact ⟨9 + k, o9.trans (by simpa using hb)⟩
end Go.Proofs.Ytilmcdieihmiaaa

namespace Go.Proofs.Ytilmcdieihmiaaa
open Go.RowKit

variable {w : World} {B bp : Nat} {V : PV} {X : PC}
theorem infoPk : (Try.prog.info? 92).map (fun i => (i.zero, i.size, i.bytes)) = some (some (.agg #[.int .i64 0, .slice none 0 0]), 2, 32) := by kernel_rfl
/-- What the way's growth leaves of the pair's cell. -/
theorem PairM.way_cell (h : PairM w B bp V X) {wd w2 : World} {v2 : Value} (hkd : Keeps [] w wd) (hG : Grw wd w2 V.vw v2) : w2.heap[bp]? = some (.cells (PV.cs V) 55 (0, 0)) := by
  have hb := (Array.getElem?_eq_some_iff.1 h.blk).1
  have h1 : wd.heap[bp]? = w.heap[bp]? := hkd.block bp hb (by simp)
  have h2 : w2.heap[bp]? = wd.heap[bp]? := hG.grown.block bp (by have := hkd.size; omega) (fun e => h.sep.ne 0 11 bp (by omega) rfl e.symm)
  exact h2.trans (h1.trans h.blk)
theorem PairM.push_fin (h : PairM w B bp V X) {wd w2 : World} {v2 : Value} {L' : List NB} (hkd : Keeps [] w wd) (hG : Grw wd w2 V.vw v2) (hkb : KB wd w2) (hO : OE w2 B 92 v2 L') :
    PairM (w2.setCell ⟨bp, 2, none⟩ v2) B bp { V with vw := v2 } { X with L := L' } ∧ Keeps (bp :: V.vw.ownBlock.toList) w (w2.setCell ⟨bp, 2, none⟩ v2) ∧ KB w (w2.setCell ⟨bp, 2, none⟩ v2) ∧
      (v2.ownBlock = V.vw.ownBlock ∨ ∀ b, v2.ownBlock = some b → w.heap.size ≤ b) := by
  have hb := h.way_cell hkd hG
  have hbw := (Array.getElem?_eq_some_iff.1 h.blk).1
  have cw : w2.cell? ⟨bp, 2, none⟩ = some V.vw := by simp [World.cell?, hb, PV.cs]
  have hsz := hkd.size
  have how : v2.ownBlock = V.vw.ownBlock ∨ ∀ b, v2.ownBlock = some b → w.heap.size ≤ b := by
    rcases hG.own with e | ⟨j, e, hj⟩
    · exact .inl e
    · exact .inr (fun b hb => by rw [e] at hb; cases hb; omega)
  have hox : v2.ownBlock ≠ some bp := fun e => by
    rcases how with e2 | e2
    · exact h.sep.ne 0 11 bp (by omega) rfl (by show V.vw.ownBlock = _; rw [← e2]; exact e)
    · have := e2 bp e; omega
  have hkset : Keeps [bp] w2 (w2.setCell ⟨bp, 2, none⟩ v2) := (Keeps.refl _ _).setCell (.inr (by simp)) _
  have hnb : ∀ x, V.vw ≠ .int .u8 x := fun x e => by
    obtain ⟨a, c, e2⟩ := h.way.se.form
    rw [e2] at e; cases e
  have hkbset : KB w2 (w2.setCell ⟨bp, 2, none⟩ v2) := KB.setCell w2 _ cw hnb
  have hkk : Keeps (bp :: V.vw.ownBlock.toList) w (w2.setCell ⟨bp, 2, none⟩ v2) :=
    ((hkd.of_nil.trans hG.keepsO).mono (fun b hb => List.mem_cons_of_mem _ hb)).trans (hkset.mono (fun b hb => by simp at hb; simp [hb]))
  have hkb2 := hkd.kb0.trans (hkb.trans hkbset)
  have hO2 := hO.keep hkset (fun b hb => by simp at hb; subst hb; exact hox) hkbset
  refine ⟨h.turn_way hkk hkb2 ?_ hO2 (fun b hb => (hO2.ge b hb).2) how, hkk, hkb2, how⟩
  simp [World.setCell, Array.getElem?_modify, hb, PV.cs]
end Go.Proofs.Ytilmcdieihmiaaa

namespace Go.Proofs.Ytilmcdieihmiaaa
open Go.RowKit

variable {w : World} {B bp : Nat} {V : PV} {X : PC}
def toK (k : Nat) (ls : List Bytes) : List NB := ls.map fun d => (((1 - k : Nat) : Int), d)
set_option maxRecDepth 100000 in
set_option maxHeartbeats 4000000 in
theorem again_c (k : Nat) (h : PairM w B bp V X) (hk : k < 2) (hB : B ≤ w.heap.size) (hs : (X.C k).acked + (X.C k).kept.length < 100000) (hl : ∀ l ∈ (X.C k).kept, l.length ≤ 1000) (hr : (X.C k).received < 100000) (hW : X.L.length < 100000000) :
    Calls Try.prog 21 #[.pointer (some ⟨bp, 0, none⟩), .int .i64 k] w fun e w' => ∃ x, e = .returned (.tuple #[]) ∧ PairM w' B bp { V with vw := x } { X with L := X.L ++ toK k (dgF (X.C k).acked (X.C k).kept ++ [ackB (X.C k).received]) } ∧
      Keeps (bp :: V.vw.ownBlock.toList) w w' ∧ (x.ownBlock = V.vw.ownBlock ∨ ∀ b, x.ownBlock = some b → w.heap.size ≤ b) := by
  obtain ⟨ce, _, _⟩ := h.cellE hk
  obtain ⟨bck, hbck⟩ : ∃ b, V.bc k = b := ⟨_, rfl⟩
  rw [hbck] at ce
  have hk2 : (k : Int) < 2 := by omega
  have hw1 : (1 : Int) - k = ((1 - k : Nat) : Int) := by omega
  replace h := Lib.hid h
  replace hbck := Lib.hid hbck
  go_enter Try.func21, Try.ntmps21
  go_wp2_with fail
  have hCh := h.out.ch k hk
  rw [hbck.out] at hCh
  refine (datagrams_c _ B bck _ _ _ _ hCh (by omega) (fun l hl' => by have := hl l hl'; omega)).mono ?_
  rintro e w1 ⟨vl, rfl, hL1, hk1⟩
  have hP1 := h.out.keeps hk1
  generalize hDG : dgF (X.C k).acked (X.C k).kept = DG at *
  have hDl : DG.length < 100000 := by rw [← hDG, dgF_len]; omega
  obtain ⟨DL, hDL⟩ : ∃ n, DG.length = n := ⟨_, rfl⟩
  obtain ⟨al, cl, rfl, hel⟩ := hL1.elems
  rw [hDL] at hL1 hDl ⊢
  replace hL1 := Lib.hid hL1
  replace hP1 := Lib.hid hP1
  replace hel := Lib.hid hel
  replace hk1 := Lib.hid hk1
  replace hDG := Lib.hid hDG
  replace hDL := Lib.hid hDL
  go_wp2
  go_loopw [5] (fun i wr => ∃ (j : Nat) (x : Value), i = .int .i64 j ∧ j ≤ DL ∧ PairM wr B bp { V with vw := x } { X with L := X.L ++ toK k (DG.take j) } ∧ Keeps (bp :: V.vw.ownBlock.toList) w1 wr ∧ KB w1 wr ∧ (x.ownBlock = V.vw.ownBlock ∨ ∀ b, x.ownBlock = some b → w1.heap.size ≤ b)) (fun i _ => DL - (intOf i).toNat)
  case atStart => exact ⟨0, V.vw, rfl, by omega, by simpa [toK] using hP1.out, Keeps.refl _ _, fun _ _ _ h => h, .inl rfl⟩
  case round =>
    obtain ⟨j, x, rfl, hj, hPr, hkr, hkbr, how⟩ := hrel
    obtain ⟨ak, ck, hxv⟩ := hPr.way.se.form
    obtain ⟨NW, hNW⟩ : ∃ n, (X.L ++ toK k (DG.take j)).length = n := ⟨_, rfl⟩
    have hNWb : NW < 200000000 := by rw [← hNW]; simp [toK]; omega
    simp only at hxv
    rw [hNW] at hxv
    have f2 := hPr.cells.2.2.1
    have fz := hPr.cells.2.2.2.2.2.2.2.1 2
    have hbr := hPr.cells.2.2.2.2.2.2.2.2
    have hxb : x.ownBlock ≠ some bp := fun e => hPr.sep.ne 0 11 bp (by omega) rfl e
    simp only at f2
    have hbp := h.out.cells.2.2.2.2.2.2.2.2
    have hsz1 := hk1.out.size
    subst hxv
    by_cases hlt : j < DL
    · obtain ⟨g, o, ad, cp, rfl, hx, hX⟩ := hel.out j (by rw [hDL.out]; exact hlt)
      have hg := ge_own hL1.out g rfl
      have hgb : g ≠ bp := by omega
      have hgx : (Value.slice ak NW ck).ownBlock ≠ some g := fun e => by
        rcases how with e2 | e2
        · have := h.out.sep.lt 11 g (by show V.vw.ownBlock = _; rw [← e2]; exact e)
          omega
        · have := e2 g e; omega
      have hxr := (hkr.cell g (o + j) hg.2 (fun hm => by
        rcases List.mem_cons.1 hm with e | hm
        · exact hgb e
        · have := h.out.sep.lt 11 g (by show V.vw.ownBlock = _; simpa using hm); omega)).trans hx
      have hXr := hX.kb hkbr
      generalize hPk : (DG[j]'(by rw [hDL.out]; exact hlt)) = Pk at *
      obtain ⟨LL, hLL⟩ : ∃ LL, Pk.length = LL := ⟨_, rfl⟩
      rw [hLL] at hxr hXr
      clear hx hX
      replace hXr := Lib.hid hXr
      replace hLL := Lib.hid hLL
      replace hPk := Lib.hid hPk
      replace hkr := Lib.hid hkr
      replace hkbr := Lib.hid hkbr
      replace how := Lib.hid how
      replace hPr := Lib.hid hPr
      replace hNW := Lib.hid hNW
      clear hgb
      have hgb : g ≠ bp := by omega
      go_wp2
      refine Free.wp_region_chain (fun i => i == 12 || i == 13 || i == 16) (fun i => true) (fun j' b => (j' = 13 ∧ (Value.slice ak NW ck).ownBlock = some b) ∨ (j' = 16 ∧ b = bp)) (by kernel_rfl) (by kernel_rfl) (by kernel_rfl) ?_
      (repeat (first | (apply Free.cw_pure rfl rfl; (intro w'; go_simp <;> exact rfl); go_frame) | (apply Free.cw_steady rfl rfl rfl; (intro w' hS; have q0 := Free.sx_cell hS f2 (fun j' hp hT => hT.elim (fun h => hxb h.2) (fun h => by obtain ⟨rfl, _⟩ := h; exact absurd hp (by decide +kernel))); have q1 := Free.sx_cell hS hxr (fun j' hp hT => hT.elim (fun h => hgx h.2) (fun h => hgb h.2)); go_simp <;> exact rfl); go_frame) | (refine Free.cw_skip rfl ?_; go_frame)))
      refine Free.cw_loud rfl rfl (fun K hK => ?_)
      go_wp2
      refine hK _ _ rfl (Free.KeepsP.alloc _ _ _) ?_
      clear hK K
      refine Free.cw_loud rfl rfl (fun K hK => ?_)
      have hkd : Keeps [] wr (wr.alloc (.cells #[.int .i64 ((1 - k : Nat) : Int), .slice ad LL cp] 92)).drew := ((Keeps.refl [] wr).alloc _).drew
      refine wp_appE 92 52 Try.underlying52 infoPk _ B (.slice ak NW ck) _ (X.L ++ toK k (DG.take j)) [(((1 - k : Nat) : Int), Pk)] _ _ rfl rfl rfl (hPr.out.way.keep hkd (by simp) hkd.kb0)
        ((SE.one wr 92 ((1 - k : Nat) : Int) (.slice ad LL cp) Pk hXr.out).keeps ((Keeps.refl [] _).drew)) (by rw [hNW.out]; simp; omega) (by have := hkr.out.size; simp; omega) ?_
      intro v2 w2 hO2 hG2 hkb2
      refine hK _ _ rfl (Free.KeepsP.grown hG2.grown (fun b e => .inl ⟨rfl, e⟩)) ?_
      clear hK K
      obtain ⟨hP3, hk3, hkb3, how3⟩ := hPr.out.push_fin hkd hG2 hkb2 hO2
      have hb2 := hPr.out.way_cell hkd hG2
      have fz2 : w2.frozen? ⟨bp, 2, none⟩ = false := by simp [World.frozen?, hb2]
      have c2 : w2.cell? ⟨bp, 2, none⟩ = some (.slice ak NW ck) := by simp [World.cell?, hb2, PV.cs]
      simp only at hk3 how3
      obtain ⟨N2, hN2⟩ : ∃ n, ((X.L ++ toK k (DG.take j)) ++ [(((1 - k : Nat) : Int), Pk)]).length = n := ⟨_, rfl⟩
      obtain ⟨a2, cp2, rfl⟩ : ∃ a c, v2 = .slice a N2 c := by rw [← hN2]; exact hO2.se.form
      replace hN2 := Lib.hid hN2
      replace hP3 := Lib.hid hP3
      replace hk3 := Lib.hid hk3
      replace hkb3 := Lib.hid hkb3
      replace how3 := Lib.hid how3
      clear hb2 hkd hO2 hG2 hkb2 fz f2 hgx hxr
      (repeat (apply Free.cw_pure rfl rfl; (intro w'; go_simp <;> exact rfl); go_frame))
      refine Free.cw_loud rfl rfl (fun K hK => ?_)
      go_wp2
      refine hK _ _ rfl (Free.KeepsP.setCell _ (.inr ⟨trivial, rfl⟩) _) ?_
      clear hK K
      refine Free.cw_nil ?_
      go_wp2
      go_roundw
      case rel =>
        refine ⟨j + 1, .slice a2 N2 cp2, rfl, by omega, ?_, hkr.out.fresh hk3.out (fun b hb => ?_), hkbr.out.trans hkb3.out, ?_⟩
        · have := hP3.out
          rw [List.append_assoc, show toK k (DG.take j) ++ [(((1 - k : Nat) : Int), Pk)] = toK k (DG.take (j + 1)) by
            rw [List.take_add_one, List.getElem?_eq_getElem (by rw [hDL.out]; exact hlt), hPk.out]; simp [toK]] at this
          exact this
        · rcases List.mem_cons.1 hb with rfl | hb
          · exact .inl (by simp)
          · rcases how.out with e | e
            · exact .inl (List.mem_cons_of_mem _ (by rw [← e]; exact hb))
            · exact .inr (e b (by simpa using hb))
        · rcases how3.out with e | e
          · rw [e]; exact how.out
          · exact .inr (fun b hb => by have := e b hb; have := hkr.out.size; omega)
      case measure => simp [intOf]; omega
    · have hjj : j = DL := by omega
      subst hjj
      rw [List.take_of_length_le (by rw [hDL.out]; omega)] at hPr hNW
      have hChr := hPr.ch k hk
      rw [show (({ V with vw := Value.slice ak NW ck } : PV).bc k) = bck from hbck.out] at hChr
      obtain ⟨_, _, cr2, _, _, _, hbl⟩ := hChr.cells
      have cer := (hPr.cellE hk).1
      rw [show (({ V with vw := Value.slice ak NW ck } : PV).bc k) = bck from hbck.out] at cer
      simp only at cr2
      obtain ⟨R, hR⟩ : ∃ r, (X.C k).received = r := ⟨_, rfl⟩
      rw [hR] at cr2 hr
      replace hChr := Lib.hid hChr
      replace hkr := Lib.hid hkr
      replace hkbr := Lib.hid hkbr
      replace how := Lib.hid how
      replace hPr := Lib.hid hPr
      replace hNW := Lib.hid hNW
      replace hR := Lib.hid hR
      go_wp2
      refine Free.wp_region_chain (fun i => i == 13 || i == 15 || i == 16 || i == 19) (fun i => true) (fun j' b => (j' = 16 ∧ (Value.slice ak NW ck).ownBlock = some b) ∨ (j' = 19 ∧ b = bp)) (by kernel_rfl) (by kernel_rfl) (by kernel_rfl) ?_
      (repeat (first | (apply Free.cw_pure rfl rfl; (intro w'; go_simp <;> exact rfl); go_frame) | (apply Free.cw_steady rfl rfl rfl; (intro w' hS; have q0 := Free.sx_cell hS f2 (fun j' hp hT => hT.elim (fun h => hxb h.2) (fun h => by obtain ⟨rfl, _⟩ := h; exact absurd hp (by decide +kernel))); have q1 := Free.sx_cell hS cer (fun j' hp hT => hT.elim (fun h => hxb h.2) (fun h => by obtain ⟨rfl, _⟩ := h; exact absurd hp (by decide +kernel))); go_simp <;> exact rfl); go_frame) | (refine Free.cw_skip rfl ?_; go_frame)))
      refine Free.cw_loud rfl rfl (fun K hK => ?_)
      go_wp2_with fail
      refine (ack_c _ bck R (by simpa using cr2) (by omega)).mono ?_
      rintro e w3 ⟨v3, rfl, hB3, hk3⟩
      refine hK _ _ rfl (Free.KeepsP.of hk3 (by simp)) ?_
      clear hK K
      have hkd3 : Keeps [] wr w3 := (Keeps.refl [] wr).drew.trans hk3
      have hS3 := hB3.slB
      obtain ⟨a3, c3', rfl⟩ := hB3.form
      clear hB3
      generalize hAK : ackB R = AK at *
      obtain ⟨AL, hAL⟩ : ∃ n, AK.length = n := ⟨_, rfl⟩
      rw [hAL] at hS3 ⊢
      replace hAK := Lib.hid hAK
      replace hAL := Lib.hid hAL
      replace hk3 := Lib.hid hk3
      replace hS3 := Lib.hid hS3
      (repeat (apply Free.cw_pure rfl rfl; (intro w'; go_simp <;> exact rfl); go_frame))
      refine Free.cw_loud rfl rfl (fun K hK => ?_)
      go_wp2
      refine hK _ _ rfl (Free.KeepsP.alloc _ _ _) ?_
      clear hK K
      refine Free.cw_loud rfl rfl (fun K hK => ?_)
      have hkd : Keeps [] wr (w3.alloc (.cells #[.int .i64 ((1 - k : Nat) : Int), .slice a3 AL c3'] 92)) := hkd3.alloc _
      refine wp_appE 92 52 Try.underlying52 infoPk _ B (.slice ak NW ck) _ (X.L ++ toK k DG) [(((1 - k : Nat) : Int), AK)] _ _ rfl rfl rfl (hPr.out.way.keep hkd (by simp) hkd.kb0)
        (SE.one w3 92 ((1 - k : Nat) : Int) (.slice a3 AL c3') AK hS3.out) (by rw [hNW.out]; simp; omega) (by have := hkr.out.size; have := hkd3.size; simp; omega) ?_
      intro v2 w2 hO2 hG2 hkb2
      refine hK _ _ rfl (Free.KeepsP.grown hG2.grown (fun b e => .inl ⟨rfl, e⟩)) ?_
      clear hK K
      obtain ⟨hP3, hk4, hkb3, how3⟩ := hPr.out.push_fin hkd hG2 hkb2 hO2
      have hb2 := hPr.out.way_cell hkd hG2
      have fz2 : w2.frozen? ⟨bp, 2, none⟩ = false := by simp [World.frozen?, hb2]
      have c2 : w2.cell? ⟨bp, 2, none⟩ = some (.slice ak NW ck) := by simp [World.cell?, hb2, PV.cs]
      simp only at hk4 how3
      obtain ⟨N2, hN2⟩ : ∃ n, ((X.L ++ toK k DG) ++ [(((1 - k : Nat) : Int), AK)]).length = n := ⟨_, rfl⟩
      obtain ⟨a2, cp2, rfl⟩ : ∃ a c, v2 = .slice a N2 c := by rw [← hN2]; exact hO2.se.form
      replace hN2 := Lib.hid hN2
      replace hP3 := Lib.hid hP3
      replace hk4 := Lib.hid hk4
      replace hkb3 := Lib.hid hkb3
      replace how3 := Lib.hid how3
      clear hb2 hkd hO2 hG2 hkb2 fz f2 cer cr2
      (repeat (apply Free.cw_pure rfl rfl; (intro w'; go_simp <;> exact rfl); go_frame))
      refine Free.cw_loud rfl rfl (fun K hK => ?_)
      go_wp2
      refine hK _ _ rfl (Free.KeepsP.setCell _ (.inr ⟨trivial, rfl⟩) _) ?_
      clear hK K
      refine Free.cw_nil ?_
      go_wp2
      go_end0
      refine ⟨.slice a2 N2 cp2, rfl, ?_, hk1.out.of_nil.trans (hkr.out.fresh hk4.out (fun b hb => ?_)), ?_⟩
      · have := hP3.out
        rw [List.append_assoc, show toK k DG ++ [(((1 - k : Nat) : Int), AK)] = toK k (DG ++ [ackB R]) by rw [hAK.out]; simp [toK], ← hDG.out, ← hR.out] at this
        exact this
      · rcases List.mem_cons.1 hb with rfl | hb
        · exact .inl (by simp)
        · rcases how.out with e | e
          · exact .inl (List.mem_cons_of_mem _ (by rw [← e]; exact hb))
          · exact .inr (e b (by simpa using hb))
      · rcases how3.out with e | e
        · rw [e]
          rcases how.out with e | e
          · exact .inl e
          · exact .inr (fun b hb => by have := e b hb; omega)
        · exact .inr (fun b hb => by have := e b hb; have := hkr.out.size; omega)
end Go.Proofs.Ytilmcdieihmiaaa

namespace Go.Proofs.Ytilmcdieihmiaaa
open Go.RowKit

variable {w : World} {B bp : Nat} {V : PV} {X : PC}
theorem KL.form2 {v : Value} {ls : List Bytes} (h : KL w B v ls) : (v = .slice none 0 0 ∧ ls = []) ∨ ∃ g c, v = .slice (some ⟨g, 0, none⟩) ls.length c ∧ ls.length ≤ c := by
  obtain ⟨cs, hown, _⟩ := h
  have h1 := hown.1
  rcases hown.2 with ⟨rfl, e⟩ | ⟨g, cap, cur, rfl, _, _, hrest⟩
  · left
    exact ⟨rfl, List.length_eq_zero_iff.1 e⟩
  · exact .inr ⟨g, cap, rfl, hrest.1⟩
theorem SLs.init {g o n cap : Nat} {ls : List Bytes} (h : SLs w (.slice (some ⟨g, o, none⟩) n cap) ls) (a : Nat) (ha : a ≤ ls.length) : SLs w (.slice (some ⟨g, o, none⟩) a cap) (ls.take a) := by
  obtain ⟨a', c', e, _⟩ := h.form
  cases e
  obtain ⟨cs, hs, hel⟩ := h
  have h' := hs.part 0 a (Nat.zero_le _) ha
  simp only [Nat.zero_mul, Nat.add_zero, Nat.sub_zero, List.drop_zero, Nat.mul_one] at h'
  refine ⟨cs.take a, by rw [List.length_take, Nat.min_eq_left ha]; exact h', fun k c l h1 h2 => ?_⟩
  have hk : k < a := by
    have := (List.getElem?_eq_some_iff.1 h2).1
    simp at this; omega
  rw [List.getElem?_take_of_lt hk] at h1 h2
  exact hel _ c l h1 h2
set_option maxRecDepth 100000 in
set_option maxHeartbeats 4000000 in
theorem sound_c (h : PairM w B bp V X) (hd : ∀ k, k < 2 → Dir (X.S k) (X.C k) (X.C (1 - k)) (X.G (1 - k))) (hs : ∀ k, k < 2 → (X.S k).length < 100000) :
    Calls Try.prog 23 #[.pointer (some ⟨bp, 0, none⟩)] w fun e w' => e = .returned (.bool true) ∧ Keeps [] w w' := by
  replace h := Lib.hid h
  replace hd := Lib.hid hd
  replace hs := Lib.hid hs
  go_enter Try.func23, Try.ntmps23
  go_wp2
  go_loopw [3] (fun i wr => ∃ (j : Nat), i = .int .i64 j ∧ j ≤ 2 ∧ Keeps [] w wr) (fun i _ => 2 - (intOf i).toNat)
  case atStart => exact ⟨0, rfl, by omega, Keeps.refl _ _⟩
  case round =>
    obtain ⟨j, rfl, hj, hkw⟩ := hrel
    have hP := h.out.keeps hkw
    by_cases hlt : j < 2
    · obtain ⟨m, hm⟩ : ∃ m, m = 1 - j := ⟨_, rfl⟩
      have hm2 : m < 2 := by omega
      have hwr : IntKind.i64.wrap (1 - (j : Int)) = (m : Int) := by rw [show (1 : Int) - j = m by omega]; exact IntWalk.i64_in _ (by omega)
      obtain ⟨ca, cS, _⟩ := hP.cellE hlt
      obtain ⟨cb, _, cG⟩ := hP.cellE hm2
      have hD := hd.out j hlt
      have hNS := hs.out j hlt
      rw [← hm] at hD
      obtain ⟨d1, d2, d3, d4, d5⟩ := hD.sound
      have hLS := hP.sent j hlt
      have hLG := hP.got m hm2
      have hCa := hP.ch j hlt
      have hCb := hP.ch m hm2
      have hf2 := hLS.form2
      obtain ⟨aG, cG', hvG⟩ := hLG.form
      obtain ⟨NG, hNG⟩ : ∃ n, (X.G m).length = n := ⟨_, rfl⟩
      obtain ⟨NS, hNS'⟩ : ∃ n, (X.S j).length = n := ⟨_, rfl⟩
      rw [hvG, hNG] at cG
      rw [hNG] at d1 d2 d3 d5
      rw [hNS'] at d1 d4 hNS
      rw [hvG, hNG] at hLG
      obtain ⟨aS, cS', hvS, hnil, hcS, hini⟩ : ∃ a c, V.vS j = .slice a NS c ∧ ((a = none ∧ NS = 0 ∧ c = 0) ∨ ∃ g, a = some ⟨g, 0, none⟩) ∧ NS ≤ c ∧ SLs wr (.slice a NG c) ((X.S j).take NG) := by
        rcases hf2 with ⟨e1, e2⟩ | ⟨g, c, e1, e2⟩
        · rw [e2] at hNS'
          simp at hNS'
          refine ⟨none, 0, by rw [e1, ← hNS'], .inl ⟨rfl, hNS'.symm, rfl⟩, by omega, ?_⟩
          rw [e2, show NG = 0 by omega]
          exact SLs.nil _
        · refine ⟨some ⟨g, 0, none⟩, c, by rw [e1, hNS'], .inr ⟨g, rfl⟩, by omega, ?_⟩
          have := hLS.sls
          rw [e1] at this
          exact this.init NG (by omega)
      rw [hvS] at cS
      rw [hvS] at hLS
      clear hf2 hm
      obtain ⟨ba, hba⟩ : ∃ b, V.bc j = b := ⟨_, rfl⟩
      obtain ⟨bb, hbb⟩ : ∃ b, V.bc m = b := ⟨_, rfl⟩
      rw [hba] at ca hCa
      rw [hbb] at cb hCb
      have g1 : decide (NS < NG) = false := by simp; omega
      have hmI : (m : Int) < 2 := by omega
      replace hD := Lib.hid hD
      replace hvS := Lib.hid hvS
      replace hvG := Lib.hid hvG
      replace hLS := Lib.hid hLS
      replace hLG := Lib.hid hLG
      replace hCa := Lib.hid hCa
      replace hCb := Lib.hid hCb
      replace hini := Lib.hid hini
      replace hP := Lib.hid hP
      replace hkw := Lib.hid hkw
      replace d2 := Lib.hid d2
      replace d3 := Lib.hid d3
      replace d4 := Lib.hid d4
      replace hNG := Lib.hid hNG
      replace hNS' := Lib.hid hNS'
      replace hba := Lib.hid hba
      replace hbb := Lib.hid hbb
      go_wp2
      refine Free.wp_region_chain (fun i => false) (fun i => true) (fun j b => False) (by kernel_rfl) (by kernel_rfl) (by kernel_rfl) ?_
      (repeat (first | (apply Free.cw_pure rfl rfl; (intro w'; go_simp <;> exact rfl); go_frame) | (apply Free.cw_steady rfl rfl rfl; (intro w' hS; have q0 := Free.sx_cell hS ca (fun _ _ hT => hT); have q1 := Free.sx_cell hS cb (fun _ _ hT => hT); go_simp <;> exact rfl); go_frame) | (refine Free.cw_skip rfl ?_; go_frame)))
      refine Free.cw_nil ?_
      go_wp2
      refine Free.wp_region_chain (fun i => i == 25 || i == 30 || i == 36 || i == 48) (fun i => true) (fun j b => False) (by kernel_rfl) (by kernel_rfl) (by kernel_rfl) ?_
      (repeat (first | (apply Free.cw_pureW rfl rfl; (intro w'; go_simp <;> exact rfl); go_frame) | (apply Free.cw_steadyW rfl rfl rfl; (intro w' hS; have q0 := Free.sx_cell hS cS (fun _ _ hT => hT); have q1 := Free.sx_cell hS cG (fun _ _ hT => hT); go_simp <;> exact rfl); go_frame) | (refine Free.cw_skip rfl ?_; go_frame)))
      refine Free.cw_pureW (c := .slice aS NG cS') rfl rfl ?_ ?_
      · intro w'
        have hle : (NG : Int) ≤ cS' := by omega
        rcases hnil with ⟨rfl, e1, rfl⟩ | ⟨g, rfl⟩
        · obtain rfl : NG = 0 := by omega
          go_simp <;> exact rfl
        · go_simp <;> exact rfl
      go_frame
      refine Free.cw_loudW rfl rfl (fun K hK => ?_)
      go_wp2_with fail
      refine (texts_c _ _ _ _ _ (hLG.out.sls.keeps ((Keeps.refl [] wr).drew.drew)) (hini.out.keeps ((Keeps.refl [] wr).drew.drew))).mono ?_
      rintro e w1 ⟨rfl, hk1⟩
      rw [show decide (X.G m = (X.S j).take NG) = true from by simpa using d2.out]
      refine hK _ _ rfl (Free.KeepsP.of hk1 (by simp)) ?_
      clear hK K
      have hkr1 : Keeps [] wr w1 := ((Keeps.refl [] wr).drew.drew).trans hk1
      clear hk1
      (repeat (first | (apply Free.cw_pureW rfl rfl; (intro w'; go_simp <;> exact rfl); go_frame) | (apply Free.cw_steadyW rfl rfl rfl; (intro w' hS; have q0 := Free.sx_cell hS cS (fun _ _ hT => hT); have q1 := Free.sx_cell hS cG (fun _ _ hT => hT); go_simp <;> exact rfl); go_frame) | (refine Free.cw_skip rfl ?_; go_frame)))
      refine Free.cw_loudW rfl rfl (fun K hK => ?_)
      go_wp2_with fail
      refine (received_c _ B bb _ _ _ _ (hCb.out.keeps hkr1)).mono ?_
      rintro e _ ⟨rfl, rfl⟩
      refine hK _ _ rfl (Free.KeepsP.refl _ _) ?_
      clear hK K
      rw [d3.out]
      (repeat (first | (apply Free.cw_pureW rfl rfl; (intro w'; go_simp <;> exact rfl); go_frame) | (apply Free.cw_steadyW rfl rfl rfl; (intro w' hS; have q0 := Free.sx_cell hS cS (fun _ _ hT => hT); have q1 := Free.sx_cell hS cG (fun _ _ hT => hT); go_simp <;> exact rfl); go_frame) | (refine Free.cw_skip rfl ?_; go_frame)))
      refine Free.cw_loudW rfl rfl (fun K hK => ?_)
      go_wp2_with fail
      refine (sent_c _ B ba _ _ _ _ (hCa.out.keeps hkr1)).mono ?_
      rintro e _ ⟨rfl, rfl⟩
      refine hK _ _ rfl (Free.KeepsP.refl _ _) ?_
      clear hK K
      rw [d4.out]
      (repeat (first | (apply Free.cw_pureW rfl rfl; (intro w'; go_simp <;> exact rfl); go_frame) | (apply Free.cw_steadyW rfl rfl rfl; (intro w' hS; have q0 := Free.sx_cell hS cS (fun _ _ hT => hT); have q1 := Free.sx_cell hS cG (fun _ _ hT => hT); go_simp <;> exact rfl); go_frame) | (refine Free.cw_skip rfl ?_; go_frame)))
      refine Free.cw_loudW rfl rfl (fun K hK => ?_)
      go_wp2_with fail
      refine (acked_c _ B ba _ _ _ _ (hCa.out.keeps hkr1)).mono ?_
      rintro e _ ⟨rfl, rfl⟩
      refine hK _ _ rfl (Free.KeepsP.refl _ _) ?_
      clear hK K
      have g2 : decide (NG < (X.C j).acked) = false := by simp; omega
      (repeat (first | (apply Free.cw_pureW rfl rfl; (intro w'; go_simp <;> exact rfl); go_frame) | (apply Free.cw_steadyW rfl rfl rfl; (intro w' hS; have q0 := Free.sx_cell hS cS (fun _ _ hT => hT); have q1 := Free.sx_cell hS cG (fun _ _ hT => hT); go_simp <;> exact rfl); go_frame) | (refine Free.cw_skip rfl ?_; go_frame)))
      refine Free.cw_nil ?_
      have hkw1 := Lib.hid (hkw.out.trans hkr1)
      clear hkr1
      go_wp2
      go_roundw
      case rel => exact ⟨j + 1, rfl, by omega, hkw1.out⟩
      case measure => simp [intOf]; omega
    · have : j = 2 := by omega
      subst this
      go_wp2
      go_ret
      exact ⟨rfl, hkw⟩
end Go.Proofs.Ytilmcdieihmiaaa

namespace Go.Proofs.Ytilmcdieihmiaaa
open Go.RowKit

variable {w : World} {B bp : Nat} {V : PV} {X : PC}
theorem PairM.sent_cell (h : PairM w B bp V X) {k : Nat} (hk : k < 2) {wd w2 : World} {v2 : Value} (hkd : Keeps [] w wd) (hG : Grw wd w2 (V.vS k) v2) : w2.heap[bp]? = some (.cells (PV.cs V) 55 (0, 0)) := by
  have hb := (Array.getElem?_eq_some_iff.1 h.blk).1
  have h1 : wd.heap[bp]? = w.heap[bp]? := hkd.block bp hb (by simp)
  have h2 : w2.heap[bp]? = wd.heap[bp]? := hG.grown.block bp (by have := hkd.size; omega) (fun e => h.sep.ne 0 (7 + k) bp (by omega) rfl ((V.own_bc bp hk).2.2.2.1.trans e.symm))
  exact h2.trans (h1.trans h.blk)
theorem PairM.sent_fin (h : PairM w B bp V X) {k : Nat} (hk : k < 2) {wd w2 : World} {v2 : Value} {L' : List Bytes} (hkd : Keeps [] w wd) (hG : Grw wd w2 (V.vS k) v2) (hkb : KB wd w2) (hO : KL w2 B v2 L') :
    PairM (w2.setCell ⟨bp, 3 + k, none⟩ v2) B bp { V with vS := putF V.vS k v2 } { X with S := putF X.S k L' } ∧ Keeps (bp :: (V.vS k).ownBlock.toList) w (w2.setCell ⟨bp, 3 + k, none⟩ v2) ∧ KB w (w2.setCell ⟨bp, 3 + k, none⟩ v2) := by
  have hb := h.sent_cell hk hkd hG
  have hbw := (Array.getElem?_eq_some_iff.1 h.blk).1
  have oq : V.own bp (7 + k) = (V.vS k).ownBlock := (V.own_bc bp hk).2.2.2.1
  have cw : w2.cell? ⟨bp, 3 + k, none⟩ = some (V.vS k) := by
    rcases (show k = 0 ∨ k = 1 by omega) with rfl | rfl <;> simp [World.cell?, hb, PV.cs]
  have hsz := hkd.size
  have how : v2.ownBlock = (V.vS k).ownBlock ∨ ∀ b, v2.ownBlock = some b → w.heap.size ≤ b := by
    rcases hG.own with e | ⟨j, e, hj⟩
    · exact .inl e
    · exact .inr (fun b hb => by rw [e] at hb; cases hb; omega)
  have hox : v2.ownBlock ≠ some bp := fun e => by
    rcases how with e2 | e2
    · exact h.sep.ne 0 (7 + k) bp (by omega) rfl (oq.trans (e2.symm.trans e))
    · have := e2 bp e; omega
  have hkset : Keeps [bp] w2 (w2.setCell ⟨bp, 3 + k, none⟩ v2) := (Keeps.refl _ _).setCell (.inr (by simp)) _
  have hnb : ∀ x, V.vS k ≠ .int .u8 x := fun x e => by
    obtain ⟨a, c, e2⟩ := (h.sent k hk).form
    rw [e2] at e; cases e
  have hkbset : KB w2 (w2.setCell ⟨bp, 3 + k, none⟩ v2) := KB.setCell w2 _ cw hnb
  have hkk : Keeps (bp :: (V.vS k).ownBlock.toList) w (w2.setCell ⟨bp, 3 + k, none⟩ v2) :=
    ((hkd.of_nil.trans hG.keepsO).mono (fun b hb => List.mem_cons_of_mem _ hb)).trans (hkset.mono (fun b hb => by simp at hb; simp [hb]))
  have hkb2 := hkd.kb0.trans (hkb.trans hkbset)
  have hO2 := hO.keep hkset (fun b hb => by simp at hb; subst hb; exact hox) hkbset
  refine ⟨h.turn_sent hk hkk hkb2 ?_ hO2 (fun b hb => (ge_own hO2 b hb).2) how, hkk, hkb2⟩
  rcases (show k = 0 ∨ k = 1 by omega) with rfl | rfl <;> simp [World.setCell, Array.getElem?_modify, hb, PV.cs, putF]

/-- Datagrams on the way: to which end, what. -/
abbrev Wy := List (Nat × Pkt)
def wyL (W : Wy) : List NB := W.map fun p => ((p.1 : Int), p.2.bytes)
/-- Two connected ends at any time: no payload sent is longer than 100, `t` bounds how many were sent, `m` how many entries the maps have had. -/
structure St (w : World) (B bp : Nat) (V : PV) (X : PC) (W : Wy) (t m : Nat) : Prop where
  pm : PairM w B bp V X
  way : X.L = wyL W
  dir : ∀ k, k < 2 → Dir (X.S k) (X.C k) (X.C (1 - k)) (X.G (1 - k))
  ok : ∀ p ∈ W, p.1 < 2 ∧ p.2.ok (X.S (1 - p.1)) (X.C (1 - p.1))
  len : ∀ k, k < 2 → (X.S k).length ≤ t
  pay : ∀ k, k < 2 → ∀ l ∈ X.S k, l.length ≤ 100
  num : ∀ k, k < 2 → V.n k ≤ m
  ge : B ≤ bp ∧ ∀ k, k < 2 → B ≤ V.bc k ∧ B ≤ V.bm k
variable {W : Wy} {t m : Nat}
theorem St.geO (h : St w B bp V X W t m) : ∀ i b, V.own bp i = some b → B ≤ b := fun i b hb => by
  obtain ⟨g0, g1⟩ := h.ge
  match i with
  | 0 => cases hb; exact g0
  | 1 => cases hb; exact (g1 0 (by omega)).1
  | 2 => cases hb; exact (g1 1 (by omega)).1
  | 3 => cases hb; exact (g1 0 (by omega)).2
  | 4 => cases hb; exact (g1 1 (by omega)).2
  | 5 => exact (ge_own (h.pm.ch 0 (by omega)).kept b hb).1
  | 6 => exact (ge_own (h.pm.ch 1 (by omega)).kept b hb).1
  | 7 => exact (ge_own (h.pm.sent 0 (by omega)) b hb).1
  | 8 => exact (ge_own (h.pm.sent 1 (by omega)) b hb).1
  | 9 => exact (ge_own (h.pm.got 0 (by omega)) b hb).1
  | 10 => exact (ge_own (h.pm.got 1 (by omega)) b hb).1
  | 11 => exact (h.pm.way.ge b hb).1
  | i + 12 => cases hb
theorem St.cb (h : St w B bp V X W t m) : ∀ j, j < 2 → (V.vk j).ownBlock ≠ some (V.bc j) := fun j hj e => by
  obtain ⟨o1, _, o5, _, _⟩ := V.own_bc bp hj
  exact h.pm.sep.ne (1 + j) (5 + j) (V.bc j) (by omega) o1 (o5.trans e)
theorem St.keeps {w' : World} (h : St w B bp V X W t m) (hk : Keeps [] w w') : St w' B bp V X W t m := ⟨h.pm.keeps hk, h.way, h.dir, h.ok, h.len, h.pay, h.num, h.ge⟩
theorem St.more {t' m' : Nat} (h : St w B bp V X W t m) (ht : t ≤ t') (hm : m ≤ m') : St w B bp V X W t' m' :=
  ⟨h.pm, h.way, h.dir, h.ok, fun k hk => Nat.le_trans (h.len k hk) ht, h.pay, fun k hk => Nat.le_trans (h.num k hk) hm, h.ge⟩
/-- What an end holds, in numbers. -/
theorem St.bounds (h : St w B bp V X W t m) {k : Nat} (hk : k < 2) : (X.C k).sent ≤ t ∧ (X.C k).kept.length ≤ t ∧ (X.C k).acked + (X.C k).kept.length ≤ t ∧ (X.C k).received ≤ t ∧ ∀ l ∈ (X.C k).kept, l.length ≤ 100 := by
  have hd := h.dir k hk
  have hd' := h.dir (1 - k) (by omega)
  rw [show 1 - (1 - k) = k by omega] at hd'
  have hl := h.len k hk
  have hl' := h.len (1 - k) (by omega)
  have h1 := hd.sent
  have h2 := hd.kept
  have h3 := hd.acked
  have h4 := hd.inv.recv
  have h5 := hd'.inv.recv
  refine ⟨by omega, by rw [h2, List.length_drop]; omega, by rw [h2, List.length_drop]; omega, by omega, fun l hl => ?_⟩
  rw [h2] at hl
  exact h.pay k hk l (List.mem_of_mem_drop hl)
end Go.Proofs.Ytilmcdieihmiaaa

namespace Go.Proofs.Ytilmcdieihmiaaa
open Go.RowKit

variable {w : World} {B bp : Nat} {V : PV} {X : PC} {W : Wy} {t m : Nat}
theorem wyL_len (W : Wy) : (wyL W).length = W.length := by simp [wyL]
theorem bytes_data (k : Nat) (l : Bytes) : (Pkt.data k l).bytes = dataB (k + 1) l := rfl
theorem St.sendP {w' : World} {V' : PV} {k : Nat} {l : Bytes} (h : St w B bp V X W t m) (hk : k < 2) (hl : l.length ≤ 100) (hn : ∀ j, j < 2 → V'.n j ≤ V.n j) (hb : V'.bc = V.bc) (hm : V'.bm = V.bm)
    (hp : PairM w' B bp V' { X with C := putF X.C k { X.C k with sent := (X.C k).sent + 1, kept := (X.C k).kept ++ [l] }, S := putF X.S k (X.S k ++ [l]), L := X.L ++ [(((1 - k : Nat) : Int), dataB ((X.C k).sent + 1) l)] }) :
    St w' B bp V' { X with C := putF X.C k { X.C k with sent := (X.C k).sent + 1, kept := (X.C k).kept ++ [l] }, S := putF X.S k (X.S k ++ [l]), L := X.L ++ [(((1 - k : Nat) : Int), dataB ((X.C k).sent + 1) l)] } (W ++ [(1 - k, .data (X.S k).length l)]) (t + 1) m := by
  have hd := h.dir k hk
  have hd' := h.dir (1 - k) (by omega)
  have hkk : 1 - (1 - k) = k := by omega
  have hne : 1 - k ≠ k := by omega
  rw [hkk] at hd'
  refine ⟨hp, ?_, fun j hj => ?_, fun p hp => ?_, fun j hj => ?_, fun j hj => ?_, fun j hj => Nat.le_trans (hn j hj) (h.num j hj), by rw [hb, hm]; exact h.ge⟩
  · show X.L ++ _ = _
    rw [h.way, hd.sent]
    simp [wyL, bytes_data]
  · by_cases e : j = k
    · subst e
      simp only [putF_same, putF_other _ _ hne]
      exact hd.push l
    · have e2 : j = 1 - k := by omega
      subst e2
      simp only [hkk, putF_same, putF_other _ _ hne]
      exact hd'.ofB rfl rfl
  · rcases List.mem_append.1 hp with hp | hp
    · obtain ⟨q1, q2⟩ := h.ok p hp
      refine ⟨q1, ?_⟩
      by_cases e : 1 - p.1 = k
      · rw [e] at q2 ⊢
        simp only [putF_same]
        exact q2.more l (Nat.le_refl _)
      · simp only [putF_other _ _ e]
        exact q2
    · simp at hp
      subst hp
      refine ⟨by show 1 - k < 2; omega, ?_⟩
      simp only [hkk, putF_same]
      show (X.S k ++ [l])[(X.S k).length]? = some l
      simp
  · by_cases e : j = k
    · subst e; simp only [putF_same]; have := h.len j hj; simp; omega
    · simp only [putF_other _ _ e]; have := h.len j hj; omega
  · by_cases e : j = k
    · subst e
      simp only [putF_same]
      intro x hx
      rcases List.mem_append.1 hx with hx | hx
      · exact h.pay j hj x hx
      · simp at hx; subst hx; exact hl
    · simp only [putF_other _ _ e]; exact h.pay j hj
theorem cell3_of {w : World} {b : Nat} {u v x : Value} {t : TypeId} (h : w.heap[b]? = some (.cells #[u, v, x] t (0, 0))) : w.cell? ⟨b, 0, none⟩ = some u ∧ w.cell? ⟨b, 1, none⟩ = some v ∧ w.cell? ⟨b, 2, none⟩ = some x := by
  refine ⟨by simp [World.cell?, h], by simp [World.cell?, h], by simp [World.cell?, h]⟩
/-- What a step leaves. -/
def ActPost (w : World) (B bp : Nat) (W' : Wy) (t' m' : Nat) (e : Ending) (w' : World) : Prop := ∃ V' X', e = .returned (.bool true) ∧ St w' B bp V' X' W' t' m' ∧ ∃ S, Keeps S w w' ∧ ∀ b ∈ S, B ≤ b
set_option maxRecDepth 100000 in
set_option maxHeartbeats 4000000 in
theorem act_send (k n : Nat) (vd : Value) (l : Bytes) (h : St w B bp V X W t m) (hk : k < 2) (hn : n < 256) (hd : SlB w vd l) (hl : l.length ≤ 100) (ht : t ≤ 1000) (hW : W.length ≤ 1000000) (hB : B ≤ w.heap.size) :
    Calls Try.prog 22 #[.pointer (some ⟨bp, 0, none⟩), .agg #[.int .u8 k, .int .u8 n, vd]] w (ActPost w B bp (W ++ [(1 - k, .data (X.S k).length l)]) (t + 1) m) := by
  have hbx := heap_alloc_new w (.cells #[.int .u8 k, .int .u8 n, vd] 58)
  have hka := (Keeps.refl [] w).alloc (.cells #[.int .u8 k, .int .u8 n, vd] 58)
  have hA := h.keeps hka
  have hdA := hd.keeps hka
  obtain ⟨ad, cd, rfl⟩ := hd.form
  obtain ⟨LL, hLL⟩ : ∃ n, l.length = n := ⟨_, rfl⟩
  obtain ⟨av, cv, hvw⟩ := hA.pm.way.se.form
  have hWL : X.L.length = W.length := by rw [h.way, wyL_len]
  obtain ⟨NW, hNW⟩ : ∃ n, W.length = n := ⟨_, rfl⟩
  rw [hWL, hNW] at hvw
  rw [hLL] at hka hbx hA hdA ⊢
  obtain ⟨ce, cs, _⟩ := hA.pm.cellE hk
  have cw := hA.pm.cells.2.2.1
  have cfz := hA.pm.cells.2.2.2.2.2.2.2.1
  rw [hvw] at cw
  have hbp0 := h.pm.cells.2.2.2.2.2.2.2.2
  obtain ⟨bck, hbck⟩ : ∃ b, V.bc k = b := ⟨_, rfl⟩
  rw [hbck] at ce
  obtain ⟨x0, x1, x2⟩ := cell3_of hbx
  have hWb : NW ≤ 1000000 := by omega
  replace hA := Lib.hid hA
  replace hdA := Lib.hid hdA
  replace h := Lib.hid h
  replace hd := Lib.hid hd
  replace hbck := Lib.hid hbck
  replace hvw := Lib.hid hvw
  replace hNW := Lib.hid hNW
  replace hLL := Lib.hid hLL
  replace hka := Lib.hid hka
  replace hWL := Lib.hid hWL
  clear hbx
  obtain ⟨bs, bk, _, ba, bl⟩ := h.out.bounds hk
  obtain ⟨o1, o3, o5, o7, _⟩ := V.own_bc bp hk
  have n1 : bp ≠ bck := fun e => h.out.pm.sep.ne 0 (1 + k) bp (by omega) rfl (by rw [o1, hbck.out, e])
  have n2 : w.heap.size ≠ bck := fun e => by have := h.out.pm.sep.lt (1 + k) _ (o1.trans (by rw [hbck.out])); omega
  have n3 : (V.vk k).ownBlock ≠ some bp := fun e => h.out.pm.sep.ne 0 (5 + k) bp (by omega) rfl (o5.trans e)
  have n4 : (V.vk k).ownBlock ≠ some w.heap.size := fun e => by have := h.out.pm.sep.lt (5 + k) _ (o5.trans e); omega
  have hcb := h.out.cb k hk
  rw [hbck.out] at hcb
  have hkI : (k : Int) < 2 := by omega
  clear o1 o3 o5 o7
  have hz1 : (0 : Int) < NW ∨ ¬ (0 : Int) < NW := by omega
  rcases hz1 with hz1 | hz1
  · have hz0 : ¬ NW = 0 := by omega
    go_enter Try.func22, Try.ntmps22
    go_wp2
    refine Free.wp_region_chain (fun i => false) (fun i => true) (fun j b => False) (by kernel_rfl) (by kernel_rfl) (by kernel_rfl) ?_
    (repeat (first | (apply Free.cw_pure rfl rfl; (intro w'; go_simp <;> exact rfl); go_frame) | (apply Free.cw_steady rfl rfl rfl; (intro w' hS; have q0 := Free.sx_cell hS cw (fun _ _ hT => hT); have q1 := Free.sx_cell hS x1 (fun _ _ hT => hT); go_simp <;> exact rfl); go_frame) | (refine Free.cw_skip rfl ?_; go_frame)))
    refine Free.cw_nil ?_
    have hD := Lib.hid ((Keeps.refl [] (w.alloc (.cells #[.int .u8 k, .int .u8 n, .slice ad LL cd] 58))).drew.drew)
    go_wp2
    all_goals (
      refine Free.wp_region_chain (fun i => i == 8) (fun i => true) (fun j b => b = bck ∨ (V.vk k).ownBlock = some b) (by kernel_rfl) (by kernel_rfl) (by kernel_rfl) ?_
      (repeat (first | (apply Free.cw_pure rfl rfl; (intro w'; go_simp <;> exact rfl); go_frame) | (apply Free.cw_steady rfl rfl rfl; (intro w' hS; have q0 := Free.sx_cell hS ce (fun _ _ hT => hT.elim n1 n3); have q1 := Free.sx_cell hS x2 (fun _ _ hT => hT.elim n2 n4); go_simp <;> exact rfl); go_frame) | (refine Free.cw_skip rfl ?_; go_frame)))
      refine Free.cw_loud rfl rfl (fun K hK => ?_)
      go_wp2_with fail
      have hAd := hA.out.keeps hD.out
      have hCh := hAd.pm.ch k hk
      rw [hbck.out] at hCh
      refine (send_c _ B bck _ _ _ _ (X.C k) l hCh (hdA.out.keeps hD.out) (by omega) (by omega) (by omega) (by have := hD.out.size; simp at this ⊢; omega) hcb).mono ?_
      rintro e w1 ⟨vk', vd', rfl, hC1, hS1, hk1, hkb1, hcb1, how1⟩
      refine hK _ _ rfl (Free.KeepsP.of hk1 (fun b hb => by simpa using hb)) ?_
      clear hK K
      have hP1 := hAd.pm.turnEnd hk (n' := V.n k) (by rw [hbck.out]; exact hk1.mono (fun b hb => by simp at hb ⊢; exact hb.elim .inl (fun h => .inr (.inr h)))) hkb1 (by rw [hbck.out]; exact hC1) (how1.imp id (fun ⟨j, e, hj⟩ => fun b hb => by rw [e] at hb; cases hb; exact hj))
      have hk01 := hD.out.of_nil.trans hk1
      obtain ⟨av', cvd, rfl⟩ := hS1.form
      obtain ⟨DL, hDL⟩ : ∃ n, (dataB ((X.C k).sent + 1) l).length = n := ⟨_, rfl⟩
      have y2 := (hk01.cell w.heap.size 2 (by simp) (by simp; exact ⟨n2, n4⟩)).trans x2
      obtain ⟨_, cs1, _⟩ := hP1.cellE hk
      obtain ⟨_, _, cw1, _, _, _, _, fz1, hb1⟩ := hP1.cells
      simp only at cs1 cw1
      rw [hDL] at hS1 ⊢
      obtain ⟨aS, cS, hvS⟩ := (hP1.sent k hk).form
      obtain ⟨NS, hNS⟩ : ∃ n, (X.S k).length = n := ⟨_, rfl⟩
      simp only at hvS
      rw [hNS] at hvS
      rw [hvS] at cs1
      have hNSb : NS ≤ 1000 := by have := h.out.len k hk; omega
      have oS : (Value.slice aS NS cS).ownBlock ≠ some bp := fun e => hP1.sep.ne 0 (7 + k) bp (by omega) rfl ((PV.own_bc _ bp hk).2.2.2.1.trans (by show (V.vS k).ownBlock = _; rw [hvS]; exact e))
      have oS2 : (Value.slice aS NS cS).ownBlock ≠ some w.heap.size := fun e => by have := h.out.pm.sep.lt (7 + k) w.heap.size ((V.own_bc bp hk).2.2.2.1.trans (by rw [hvS]; exact e)); omega
      have hdk1 : SlB w1 (.slice ad LL cd) l := ((hdA.out.keeps hD.out).kb hkb1)
      have hxb : w.heap.size ≠ bp := by omega
      have hsz1 : w.heap.size < w1.heap.size := by have := hk01.size; simp at this; omega
      replace hP1 := Lib.hid hP1
      replace hS1 := Lib.hid hS1
      replace hk01 := Lib.hid hk01
      replace hDL := Lib.hid hDL
      replace hvS := Lib.hid hvS
      replace hNS := Lib.hid hNS
      replace hdk1 := Lib.hid hdk1
      clear hAd hCh hC1 hk1 hkb1 hcb1 how1 ce cs cw x0 x1 x2
      (repeat (first | (apply Free.cw_pure rfl rfl; (intro w'; go_simp <;> exact rfl); go_frame) | (apply Free.cw_steady rfl rfl rfl; (intro w' hS; have q0 := Free.sx_cell hS cs1 (fun _ _ hT => hT.elim n1 n3); go_simp <;> exact rfl); go_frame) | (refine Free.cw_skip rfl ?_; go_frame)))
      refine Free.cw_nil ?_
      go_wp2
      refine Free.wp_region_chain (fun i => i == 10 || i == 11 || i == 15) (fun i => true) (fun j b => (j = 11 ∧ (Value.slice aS NS cS).ownBlock = some b) ∨ (j = 15 ∧ b = bp)) (by kernel_rfl) (by kernel_rfl) (by kernel_rfl) ?_
      (repeat (first | (apply Free.cw_pure rfl rfl; (intro w'; go_simp <;> exact rfl); go_frame) | (apply Free.cw_steady rfl rfl rfl; (intro w' hS; have q0 := Free.sx_cell hS cs1 (fun j' hp hT => hT.elim (fun h => oS h.2) (fun h => by obtain ⟨rfl, _⟩ := h; exact absurd hp (by decide +kernel))); have q1 := Free.sx_cell hS y2 (fun j' hp hT => hT.elim (fun h => oS2 h.2) (fun h => hxb h.2)); go_simp <;> exact rfl); go_frame) | (refine Free.cw_skip rfl ?_; go_frame)))
      refine Free.cw_loud rfl rfl (fun K hK => ?_)
      go_wp2
      refine hK _ _ rfl (Free.KeepsP.alloc _ _ _) ?_
      clear hK K
      refine Free.cw_loud rfl rfl (fun K hK => ?_)
      have hkd : Keeps [] w1 ((w1.drew).alloc (.cells #[.slice ad LL cd] 23)) := (Keeps.refl [] w1).drew.alloc _
      have hLS := (hP1.out.sent k hk).keepN ((Keeps.refl [] w1).drew)
      simp only at hLS
      rw [hvS.out] at hLS
      refine wp_pushL w1.drew B (.slice aS NS cS) _ (X.S k) l _ _ rfl rfl rfl hLS (hdk1.out.keeps (Keeps.refl _ _).drew) (by rw [hNS.out]; omega) (by simp; omega) ?_
      intro v2 w2 hO2 hG2 hkb2
      refine hK _ _ rfl (Free.KeepsP.of hG2.keepsO (fun b hb => .inl ⟨rfl, by simpa using hb⟩)) ?_
      clear hK K
      have hkdd : Keeps [] w1 w1.drew := (Keeps.refl [] w1).drew
      have hG2' : Grw w1.drew w2 ((({ V with n := putF V.n k (V.n k), vk := putF V.vk k vk' } : PV)).vS k) v2 := by
        show Grw _ w2 (V.vS k) v2
        rw [hvS.out]; exact hG2.alloc_left
      obtain ⟨hP2, hk2, hkb3⟩ := hP1.out.sent_fin hk hkdd hG2' hkb2 hO2
      have hb2 := hP1.out.sent_cell hk hkdd hG2'
      have fz2 : w2.frozen? ⟨bp, 3 + k, none⟩ = false := by simp [World.frozen?, hb2]
      have c2 : w2.cell? ⟨bp, 3 + k, none⟩ = some (.slice aS NS cS) := by
        rw [← hvS.out]
        rcases (show k = 0 ∨ k = 1 by omega) with rfl | rfl <;> simp [World.cell?, hb2, PV.cs]
      simp only at hk2
      obtain ⟨a2, cp2, rfl⟩ : ∃ a c, v2 = .slice a (NS + 1) c := by
        have := hO2.form
        simpa [hNS.out] using this
      have hsz2 : w1.heap.size ≤ w2.heap.size := by have := hk2.size; simpa using this
      have hS2 := hS1.out.kb hkb3
      replace hP2 := Lib.hid hP2
      replace hk2 := Lib.hid hk2
      replace hS2 := Lib.hid hS2
      clear hb2 hkd hkdd hG2 hG2' hkb2 hkb3 hO2 hLS cs1 y2 fz1 cw1
      (repeat (apply Free.cw_pure rfl rfl; (intro w'; go_simp <;> exact rfl); go_frame))
      refine Free.cw_loud rfl rfl (fun K hK => ?_)
      go_wp2
      refine hK _ _ rfl (Free.KeepsP.setCell _ (.inr ⟨trivial, rfl⟩) _) ?_
      clear hK K
      refine Free.cw_nil ?_
      have cw2 := hP2.out.cells.2.2.1
      have fz2 := hP2.out.cells.2.2.2.2.2.2.2.1 2
      have hb2 := hP2.out.cells.2.2.2.2.2.2.2.2
      simp only at cw2
      rw [hvw.out] at cw2
      generalize hw3 : w2.setCell ⟨bp, 3 + k, none⟩ (.slice a2 (NS + 1) cp2) = w3 at *
      replace hw3 := Lib.hid hw3
      have hsz3 : w2.heap.size ≤ w3.heap.size := by rw [← hw3.out]; simp [World.setCell]
      have hk3 : Keeps [] w3 (w3.alloc (.cells #[.int .i64 (1 - (k : Int)), .slice av' DL cvd] 92)) := (Keeps.refl [] w3).alloc _
      have hOW := hP2.out.way.keep hk3 (by simp) hk3.kb0
      simp only at hOW
      rw [hvw.out] at hOW
      have hLn : X.L.length + 1 < 1099511627776 := by rw [hWL.out, hNW.out]; omega
      replace hk2 := hk2.out
      rw [show (({ V with n := putF V.n k (V.n k), vk := putF V.vk k vk' } : PV)).vS k = .slice aS NS cS from hvS.out] at hk2
      replace hk2 := Lib.hid hk2
      go_wp2_with (
        at_builtin
        refine wpl_appE 92 52 Try.underlying52 infoPk _ B (.slice av NW cv) _ X.L [(1 - (k : Int), dataB ((X.C k).sent + 1) l)] rfl _ _ rfl rfl rfl hOW (SE.one w3 92 (1 - (k : Int)) (.slice av' DL cvd) _ hS2.out) (by simpa using hLn) (by simp; omega) ?_
        intro v4 w4 hO4 hG4 hkb4
        have hG4' : Grw (w3.alloc (.cells #[.int .i64 (1 - (k : Int)), .slice av' DL cvd] 92)) w4 V.vw v4 := by rw [hvw.out]; exact hG4
        have hfin := hP2.out.push_fin hk3 hG4' hkb4 hO4
        have hb4 := hP2.out.way_cell hk3 hG4'
        have fz4 : w4.frozen? ⟨bp, 2, none⟩ = false := by simp [World.frozen?, hb4]
        have c4 : w4.cell? ⟨bp, 2, none⟩ = some (.slice av NW cv) := by simp [World.cell?, hb4, PV.cs, hvw.out]
        obtain ⟨a4, cp4, rfl⟩ : ∃ a c, v4 = .slice a (NW + 1) c := by
          have := hO4.se.form
          simpa [hWL.out, hNW.out] using this
        replace hfin := Lib.hid hfin
        clear hb4 hO4 hG4 hG4' hkb4)
      go_ret
      obtain ⟨hP4, hk4, _, _⟩ := hfin.out
      have e1 : (1 : Int) - k = ((1 - k : Nat) : Int) := by omega
      rw [e1] at hP4
      refine ⟨_, _, rfl, h.out.sendP (V' := { V with n := putF V.n k (V.n k), vk := putF V.vk k vk', vS := putF V.vS k (.slice a2 (NS + 1) cp2), vw := .slice a4 (NW + 1) cp4 }) hk hl (fun j hj => ?_) rfl rfl hP4, bck :: bp :: (V.vk k).ownBlock.toList ++ (V.vS k).ownBlock.toList ++ V.vw.ownBlock.toList, ?_, ?_⟩
      · show putF V.n k (V.n k) j ≤ _
        unfold putF; split
        · rename_i e; rw [e]; exact Nat.le_refl _
        · exact Nat.le_refl _
      · refine hka.out.of_nil.trans ?_
        refine (hk01.out.mono ?_).trans ((hk2.out.mono ?_).trans (hk4.mono ?_))
        · intro b hb; simp at hb ⊢; grind
        · intro b hb; rw [← hvS.out] at hb; simp at hb ⊢; grind
        · intro b hb; simp at hb ⊢; grind
      · intro b hb
        obtain ⟨o1, o3, o5, o7, _⟩ := V.own_bc bp hk
        have hg := h.out.geO
        simp at hb
        rcases hb with rfl | rfl | hb | hb | hb
        · exact hg (1 + k) _ (o1.trans (by rw [hbck.out]))
        · exact hg 0 _ rfl
        · exact hg (5 + k) _ (o5.trans hb)
        · exact hg (7 + k) _ (o7.trans hb)
        · exact hg 11 _ hb)
  · go_enter Try.func22, Try.ntmps22
    have hD := Lib.hid ((Keeps.refl [] (w.alloc (.cells #[.int .u8 k, .int .u8 n, .slice ad LL cd] 58))).drew)
    go_wp2
    all_goals (
      refine Free.wp_region_chain (fun i => i == 8) (fun i => true) (fun j b => b = bck ∨ (V.vk k).ownBlock = some b) (by kernel_rfl) (by kernel_rfl) (by kernel_rfl) ?_
      (repeat (first | (apply Free.cw_pure rfl rfl; (intro w'; go_simp <;> exact rfl); go_frame) | (apply Free.cw_steady rfl rfl rfl; (intro w' hS; have q0 := Free.sx_cell hS ce (fun _ _ hT => hT.elim n1 n3); have q1 := Free.sx_cell hS x2 (fun _ _ hT => hT.elim n2 n4); go_simp <;> exact rfl); go_frame) | (refine Free.cw_skip rfl ?_; go_frame)))
      refine Free.cw_loud rfl rfl (fun K hK => ?_)
      go_wp2_with fail
      have hAd := hA.out.keeps hD.out
      have hCh := hAd.pm.ch k hk
      rw [hbck.out] at hCh
      refine (send_c _ B bck _ _ _ _ (X.C k) l hCh (hdA.out.keeps hD.out) (by omega) (by omega) (by omega) (by have := hD.out.size; simp at this ⊢; omega) hcb).mono ?_
      rintro e w1 ⟨vk', vd', rfl, hC1, hS1, hk1, hkb1, hcb1, how1⟩
      refine hK _ _ rfl (Free.KeepsP.of hk1 (fun b hb => by simpa using hb)) ?_
      clear hK K
      have hP1 := hAd.pm.turnEnd hk (n' := V.n k) (by rw [hbck.out]; exact hk1.mono (fun b hb => by simp at hb ⊢; exact hb.elim .inl (fun h => .inr (.inr h)))) hkb1 (by rw [hbck.out]; exact hC1) (how1.imp id (fun ⟨j, e, hj⟩ => fun b hb => by rw [e] at hb; cases hb; exact hj))
      have hk01 := hD.out.of_nil.trans hk1
      obtain ⟨av', cvd, rfl⟩ := hS1.form
      obtain ⟨DL, hDL⟩ : ∃ n, (dataB ((X.C k).sent + 1) l).length = n := ⟨_, rfl⟩
      have y2 := (hk01.cell w.heap.size 2 (by simp) (by simp; exact ⟨n2, n4⟩)).trans x2
      obtain ⟨_, cs1, _⟩ := hP1.cellE hk
      obtain ⟨_, _, cw1, _, _, _, _, fz1, hb1⟩ := hP1.cells
      simp only at cs1 cw1
      rw [hDL] at hS1 ⊢
      obtain ⟨aS, cS, hvS⟩ := (hP1.sent k hk).form
      obtain ⟨NS, hNS⟩ : ∃ n, (X.S k).length = n := ⟨_, rfl⟩
      simp only at hvS
      rw [hNS] at hvS
      rw [hvS] at cs1
      have hNSb : NS ≤ 1000 := by have := h.out.len k hk; omega
      have oS : (Value.slice aS NS cS).ownBlock ≠ some bp := fun e => hP1.sep.ne 0 (7 + k) bp (by omega) rfl ((PV.own_bc _ bp hk).2.2.2.1.trans (by show (V.vS k).ownBlock = _; rw [hvS]; exact e))
      have oS2 : (Value.slice aS NS cS).ownBlock ≠ some w.heap.size := fun e => by have := h.out.pm.sep.lt (7 + k) w.heap.size ((V.own_bc bp hk).2.2.2.1.trans (by rw [hvS]; exact e)); omega
      have hdk1 : SlB w1 (.slice ad LL cd) l := ((hdA.out.keeps hD.out).kb hkb1)
      have hxb : w.heap.size ≠ bp := by omega
      have hsz1 : w.heap.size < w1.heap.size := by have := hk01.size; simp at this; omega
      replace hP1 := Lib.hid hP1
      replace hS1 := Lib.hid hS1
      replace hk01 := Lib.hid hk01
      replace hDL := Lib.hid hDL
      replace hvS := Lib.hid hvS
      replace hNS := Lib.hid hNS
      replace hdk1 := Lib.hid hdk1
      clear hAd hCh hC1 hk1 hkb1 hcb1 how1 ce cs cw x0 x1 x2
      (repeat (first | (apply Free.cw_pure rfl rfl; (intro w'; go_simp <;> exact rfl); go_frame) | (apply Free.cw_steady rfl rfl rfl; (intro w' hS; have q0 := Free.sx_cell hS cs1 (fun _ _ hT => hT.elim n1 n3); go_simp <;> exact rfl); go_frame) | (refine Free.cw_skip rfl ?_; go_frame)))
      refine Free.cw_nil ?_
      go_wp2
      refine Free.wp_region_chain (fun i => i == 10 || i == 11 || i == 15) (fun i => true) (fun j b => (j = 11 ∧ (Value.slice aS NS cS).ownBlock = some b) ∨ (j = 15 ∧ b = bp)) (by kernel_rfl) (by kernel_rfl) (by kernel_rfl) ?_
      (repeat (first | (apply Free.cw_pure rfl rfl; (intro w'; go_simp <;> exact rfl); go_frame) | (apply Free.cw_steady rfl rfl rfl; (intro w' hS; have q0 := Free.sx_cell hS cs1 (fun j' hp hT => hT.elim (fun h => oS h.2) (fun h => by obtain ⟨rfl, _⟩ := h; exact absurd hp (by decide +kernel))); have q1 := Free.sx_cell hS y2 (fun j' hp hT => hT.elim (fun h => oS2 h.2) (fun h => hxb h.2)); go_simp <;> exact rfl); go_frame) | (refine Free.cw_skip rfl ?_; go_frame)))
      refine Free.cw_loud rfl rfl (fun K hK => ?_)
      go_wp2
      refine hK _ _ rfl (Free.KeepsP.alloc _ _ _) ?_
      clear hK K
      refine Free.cw_loud rfl rfl (fun K hK => ?_)
      have hkd : Keeps [] w1 ((w1.drew).alloc (.cells #[.slice ad LL cd] 23)) := (Keeps.refl [] w1).drew.alloc _
      have hLS := (hP1.out.sent k hk).keepN ((Keeps.refl [] w1).drew)
      simp only at hLS
      rw [hvS.out] at hLS
      refine wp_pushL w1.drew B (.slice aS NS cS) _ (X.S k) l _ _ rfl rfl rfl hLS (hdk1.out.keeps (Keeps.refl _ _).drew) (by rw [hNS.out]; omega) (by simp; omega) ?_
      intro v2 w2 hO2 hG2 hkb2
      refine hK _ _ rfl (Free.KeepsP.of hG2.keepsO (fun b hb => .inl ⟨rfl, by simpa using hb⟩)) ?_
      clear hK K
      have hkdd : Keeps [] w1 w1.drew := (Keeps.refl [] w1).drew
      have hG2' : Grw w1.drew w2 ((({ V with n := putF V.n k (V.n k), vk := putF V.vk k vk' } : PV)).vS k) v2 := by
        show Grw _ w2 (V.vS k) v2
        rw [hvS.out]; exact hG2.alloc_left
      obtain ⟨hP2, hk2, hkb3⟩ := hP1.out.sent_fin hk hkdd hG2' hkb2 hO2
      have hb2 := hP1.out.sent_cell hk hkdd hG2'
      have fz2 : w2.frozen? ⟨bp, 3 + k, none⟩ = false := by simp [World.frozen?, hb2]
      have c2 : w2.cell? ⟨bp, 3 + k, none⟩ = some (.slice aS NS cS) := by
        rw [← hvS.out]
        rcases (show k = 0 ∨ k = 1 by omega) with rfl | rfl <;> simp [World.cell?, hb2, PV.cs]
      simp only at hk2
      obtain ⟨a2, cp2, rfl⟩ : ∃ a c, v2 = .slice a (NS + 1) c := by
        have := hO2.form
        simpa [hNS.out] using this
      have hsz2 : w1.heap.size ≤ w2.heap.size := by have := hk2.size; simpa using this
      have hS2 := hS1.out.kb hkb3
      replace hP2 := Lib.hid hP2
      replace hk2 := Lib.hid hk2
      replace hS2 := Lib.hid hS2
      clear hb2 hkd hkdd hG2 hG2' hkb2 hkb3 hO2 hLS cs1 y2 fz1 cw1
      (repeat (apply Free.cw_pure rfl rfl; (intro w'; go_simp <;> exact rfl); go_frame))
      refine Free.cw_loud rfl rfl (fun K hK => ?_)
      go_wp2
      refine hK _ _ rfl (Free.KeepsP.setCell _ (.inr ⟨trivial, rfl⟩) _) ?_
      clear hK K
      refine Free.cw_nil ?_
      have cw2 := hP2.out.cells.2.2.1
      have fz2 := hP2.out.cells.2.2.2.2.2.2.2.1 2
      have hb2 := hP2.out.cells.2.2.2.2.2.2.2.2
      simp only at cw2
      rw [hvw.out] at cw2
      generalize hw3 : w2.setCell ⟨bp, 3 + k, none⟩ (.slice a2 (NS + 1) cp2) = w3 at *
      replace hw3 := Lib.hid hw3
      have hsz3 : w2.heap.size ≤ w3.heap.size := by rw [← hw3.out]; simp [World.setCell]
      have hk3 : Keeps [] w3 (w3.alloc (.cells #[.int .i64 (1 - (k : Int)), .slice av' DL cvd] 92)) := (Keeps.refl [] w3).alloc _
      have hOW := hP2.out.way.keep hk3 (by simp) hk3.kb0
      simp only at hOW
      rw [hvw.out] at hOW
      have hLn : X.L.length + 1 < 1099511627776 := by rw [hWL.out, hNW.out]; omega
      replace hk2 := hk2.out
      rw [show (({ V with n := putF V.n k (V.n k), vk := putF V.vk k vk' } : PV)).vS k = .slice aS NS cS from hvS.out] at hk2
      replace hk2 := Lib.hid hk2
      go_wp2_with (
        at_builtin
        refine wpl_appE 92 52 Try.underlying52 infoPk _ B (.slice av NW cv) _ X.L [(1 - (k : Int), dataB ((X.C k).sent + 1) l)] rfl _ _ rfl rfl rfl hOW (SE.one w3 92 (1 - (k : Int)) (.slice av' DL cvd) _ hS2.out) (by simpa using hLn) (by simp; omega) ?_
        intro v4 w4 hO4 hG4 hkb4
        have hG4' : Grw (w3.alloc (.cells #[.int .i64 (1 - (k : Int)), .slice av' DL cvd] 92)) w4 V.vw v4 := by rw [hvw.out]; exact hG4
        have hfin := hP2.out.push_fin hk3 hG4' hkb4 hO4
        have hb4 := hP2.out.way_cell hk3 hG4'
        have fz4 : w4.frozen? ⟨bp, 2, none⟩ = false := by simp [World.frozen?, hb4]
        have c4 : w4.cell? ⟨bp, 2, none⟩ = some (.slice av NW cv) := by simp [World.cell?, hb4, PV.cs, hvw.out]
        obtain ⟨a4, cp4, rfl⟩ : ∃ a c, v4 = .slice a (NW + 1) c := by
          have := hO4.se.form
          simpa [hWL.out, hNW.out] using this
        replace hfin := Lib.hid hfin
        clear hb4 hO4 hG4 hG4' hkb4)
      go_ret
      obtain ⟨hP4, hk4, _, _⟩ := hfin.out
      have e1 : (1 : Int) - k = ((1 - k : Nat) : Int) := by omega
      rw [e1] at hP4
      refine ⟨_, _, rfl, h.out.sendP (V' := { V with n := putF V.n k (V.n k), vk := putF V.vk k vk', vS := putF V.vS k (.slice a2 (NS + 1) cp2), vw := .slice a4 (NW + 1) cp4 }) hk hl (fun j hj => ?_) rfl rfl hP4, bck :: bp :: (V.vk k).ownBlock.toList ++ (V.vS k).ownBlock.toList ++ V.vw.ownBlock.toList, ?_, ?_⟩
      · show putF V.n k (V.n k) j ≤ _
        unfold putF; split
        · rename_i e; rw [e]; exact Nat.le_refl _
        · exact Nat.le_refl _
      · refine hka.out.of_nil.trans ?_
        refine (hk01.out.mono ?_).trans ((hk2.out.mono ?_).trans (hk4.mono ?_))
        · intro b hb; simp at hb ⊢; grind
        · intro b hb; rw [← hvS.out] at hb; simp at hb ⊢; grind
        · intro b hb; simp at hb ⊢; grind
      · intro b hb
        obtain ⟨o1, o3, o5, o7, _⟩ := V.own_bc bp hk
        have hg := h.out.geO
        simp at hb
        rcases hb with rfl | rfl | hb | hb | hb
        · exact hg (1 + k) _ (o1.trans (by rw [hbck.out]))
        · exact hg 0 _ rfl
        · exact hg (5 + k) _ (o5.trans hb)
        · exact hg (7 + k) _ (o7.trans hb)
        · exact hg 11 _ hb)
end Go.Proofs.Ytilmcdieihmiaaa

namespace Go.Proofs.Ytilmcdieihmiaaa
open Go.RowKit

variable {w : World} {B bp : Nat} {V : PV} {X : PC} {W : Wy} {t m : Nat}
theorem wyL_erase (W : Wy) (i : Nat) : wyL (W.eraseIdx i) = (wyL W).eraseIdx i := by
  unfold wyL
  induction W generalizing i with
  | nil => simp
  | cons a r ih => cases i with
    | zero => simp
    | succ i => simp [ih]
theorem PktDone.grows {C C' : Chan} {outs : List Bytes} {p : Pkt} (h : PktDone C C' outs p) : C.received ≤ C'.received := by
  cases p with
  | data q l => have := (Got.same (show Got C (q + 1) l C' outs from h)).2.2.2; omega
  | ack a => obtain ⟨rfl, _⟩ := (show C' = C.ackd a ∧ outs = [] from h); rw [(ackd_same a).2.1]; exact Nat.le_refl _
theorem St.deliverP {w' : World} {V' : PV} {k i : Nat} {p : Pkt} {C' : Chan} {outs : List Bytes} (h : St w B bp V X W t m) (hi : W[i]? = some (k, p)) (hn : ∀ j, V'.n j ≤ V.n j + 1) (hb : V'.bc = V.bc) (hm : V'.bm = V.bm)
    (hd : PktDone (X.C k) C' outs p) (hp : PairM w' B bp V' { X with C := putF X.C k C', G := putF X.G k (X.G k ++ outs), L := wyL (W.eraseIdx i) }) :
    St w' B bp V' { X with C := putF X.C k C', G := putF X.G k (X.G k ++ outs), L := wyL (W.eraseIdx i) } (W.eraseIdx i) t (m + 1) := by
  obtain ⟨hk, hok⟩ := h.ok _ (List.mem_of_getElem? hi)
  have hd1 := h.dir k hk
  have hd2 := h.dir (1 - k) (by omega)
  have hkk : 1 - (1 - k) = k := by omega
  have hne : 1 - k ≠ k := by omega
  rw [hkk] at hd2
  simp only at hok hk
  refine ⟨hp, rfl, fun j hj => ?_, fun q hq => ?_, h.len, h.pay, fun j hj => by have := hn j; have := h.num j hj; omega, by rw [hb, hm]; exact h.ge⟩
  · by_cases e : j = k
    · subst e
      simp only [putF_same, putF_other _ _ hne]
      cases p with
      | data q l =>
        obtain ⟨e1, e2, e3, _⟩ := Got.same (show Got (X.C j) (q + 1) l C' outs from hd)
        exact hd1.ofA e1 e2 e3
      | ack a =>
        obtain ⟨rfl, _⟩ := (show C' = (X.C j).ackd a ∧ outs = [] from hd)
        exact hd1.ack hok
    · have e2 : j = 1 - k := by omega
      subst e2
      simp only [hkk, putF_same, putF_other _ _ hne]
      cases p with
      | data q l => exact hd2.recv (show (X.S (1 - k))[q]? = some l from hok) hd
      | ack a =>
        obtain ⟨rfl, rfl⟩ := (show C' = (X.C k).ackd a ∧ outs = [] from hd)
        rw [List.append_nil]
        exact hd2.ofB (ackd_same a).2.1 (ackd_same a).2.2
  · obtain ⟨q1, q2⟩ := h.ok q (List.mem_of_mem_eraseIdx hq)
    refine ⟨q1, ?_⟩
    by_cases e : 1 - q.1 = k
    · rw [e] at q2 ⊢
      simp only [putF_same]
      exact q2.grow hd.grows
    · simp only [putF_other _ _ e]
      exact q2
/-- The way gives one up, doubles one, or an end sends again. -/
theorem St.wayP {w' : World} {V' : PV} {W' : Wy} (h : St w B bp V X W t m) (hn : V'.n = V.n) (hb : V'.bc = V.bc) (hm : V'.bm = V.bm) (hW : ∀ q ∈ W', q ∈ W ∨ (q.1 < 2 ∧ q.2.ok (X.S (1 - q.1)) (X.C (1 - q.1)))) (hp : PairM w' B bp V' { X with L := wyL W' }) :
    St w' B bp V' { X with L := wyL W' } W' t m :=
  ⟨hp, rfl, h.dir, fun q hq => (hW q hq).elim (h.ok q) id, h.len, h.pay, by rw [hn]; exact h.num, by rw [hb, hm]; exact h.ge⟩
/-- What an end sends again. -/
def agW (X : PC) (k : Nat) : Wy := ((X.C k).kept.mapIdx fun j l => (1 - k, Pkt.data ((X.C k).acked + j) l)) ++ [(1 - k, .ack (X.C k).received)]
theorem agW_L (X : PC) (k : Nat) : wyL (agW X k) = toK k (dgF (X.C k).acked (X.C k).kept ++ [ackB (X.C k).received]) := by
  have e : ∀ j : Nat, (X.C k).acked + j + 1 = (X.C k).acked + 1 + j := fun j => by omega
  simp only [agW, wyL, toK, dgF, List.map_append, List.map_cons, List.map_nil, Pkt.bytes]
  congr 1
  apply List.ext_getElem?
  intro j
  simp only [List.getElem?_map, List.getElem?_mapIdx]
  cases (X.C k).kept[j]? with
  | none => rfl
  | some l => simp [Pkt.bytes, e]
theorem St.agOk (h : St w B bp V X W t m) {k : Nat} (hk : k < 2) : ∀ q ∈ agW X k, q.1 < 2 ∧ q.2.ok (X.S (1 - q.1)) (X.C (1 - q.1)) := fun q hq => by
  have hkk : 1 - (1 - k) = k := by omega
  rcases List.mem_append.1 hq with hq | hq
  · obtain ⟨j, hj, rfl⟩ := List.mem_mapIdx.1 hq
    refine ⟨by show 1 - k < 2; omega, ?_⟩
    simp only [hkk]
    show (X.S k)[(X.C k).acked + j]? = some _
    have := (h.dir k hk).kept
    rw [show (X.S k)[(X.C k).acked + j]? = ((X.S k).drop (X.C k).acked)[j]? by rw [List.getElem?_drop], ← this]
    exact List.getElem?_eq_getElem hj
  · simp at hq
    subst hq
    refine ⟨by show 1 - k < 2; omega, ?_⟩
    simp only [hkk]
    exact Nat.le_refl _
theorem agW_len (X : PC) (k : Nat) : (agW X k).length = (X.C k).kept.length + 1 := by simp [agW]
end Go.Proofs.Ytilmcdieihmiaaa
