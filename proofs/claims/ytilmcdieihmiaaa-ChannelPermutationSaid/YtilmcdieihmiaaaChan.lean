/- One end of a channel in memory, and what its small functions do. -/
import Derived.Test.YtilmcdieihmiaaaData
import Derived.Test.YtilmcdieihmiaaaRead
import Derived.Test.YtilmcdieihmiaaaChain
import Derived.Maps.OwnOps
import Derived.Maps.Ext
namespace Go.Proofs.Ytilmcdieihmiaaa
open Go.RowKit

/-- How a map's element reads when it is only handed on: as itself. -/
def rawR (v : Value) : Option (DataW Value × List MemPlace) := some (.held v, [])
theorem infoL : (Try.prog.info? 23).map (fun i => (i.zero, i.size, i.bytes)) = some (some (.slice none 0 0), 1, 24) := by kernel_rfl

abbrev Bytes := List UInt8
structure Chan where
  sent : Nat
  acked : Nat
  received : Nat
  kept : List Bytes
  early : Int → Option Bytes

def noB (u : Value) : Prop := ∀ x, u ≠ .int .u8 x
/-- A list of byte strings in memory of the call's own. -/
def KL (w : World) (B : Nat) (v : Value) (ls : List Bytes) : Prop :=
  ∃ cs : List Value, w.ownsRow B 23 1 v ls.length cs ∧ (∀ (k : Nat) (c : Value) (l : Bytes), cs[k]? = some c → ls[k]? = some l → SlB w c l) ∧ AllC w v noB
/-- The map of what has come too early. -/
def ME (w : World) (bm n : Nat) (early : Int → Option Bytes) : Prop :=
  ∃ D, w.ownsMap Try.prog 3 rawR bm n D ∧ ∀ s : Int, (Lit.int .i64 s).wf = true →
    (early s = none → Maps.has D (.int .i64 s) = false) ∧ ∀ l, early s = some l → Maps.has D (.int .i64 s) = true ∧ ∃ v, (∀ z, D.atKey (.int .i64 s) z = .held v) ∧ SlB w v l
theorem KL.form {w : World} {B : Nat} {v : Value} {ls : List Bytes} (h : KL w B v ls) : ∃ a c, v = .slice a ls.length c := by
  obtain ⟨cs, hown, _⟩ := h
  rcases hown.2 with ⟨rfl, h0⟩ | ⟨g, cap, cur, rfl, _⟩
  · rw [h0]; exact ⟨_, _, rfl⟩
  · exact ⟨_, _, rfl⟩
theorem KL.keep {w w' : World} {B : Nat} {v : Value} {ls : List Bytes} {S : List Nat} (h : KL w B v ls) (hk : Keeps S w w') (hS : ∀ b ∈ S, v.ownBlock ≠ some b) (hb : KB w w') : KL w' B v ls := by
  obtain ⟨cs, hown, hel, hall⟩ := h
  refine ⟨cs, ?_, fun k c l h1 h2 => (hel k c l h1 h2).kb hb, fun g hg o u hu => ?_⟩
  · refine ⟨hown.1, ?_⟩
    rcases hown.2 with hn | ⟨g, cap, cur, rfl, hb, hg, rest⟩
    · exact .inl hn
    · exact .inr ⟨g, cap, cur, rfl, hb, (hk.block g (Array.getElem?_eq_some_iff.1 hg).1 (fun hm => hS g hm rfl)).trans hg, rest⟩
  · rcases hown.2 with ⟨rfl, _⟩ | ⟨g', cap, cur, rfl, _, hgb, _⟩
    · simp [Value.ownBlock] at hg
    · have e : g' = g := by simpa [Value.ownBlock] using hg
      subst e
      rw [hk.cell g' o (Array.getElem?_eq_some_iff.1 hgb).1 (fun hm => hS g' hm rfl)] at hu
      exact hall g' rfl o u hu
/-- One byte string more. -/
theorem wp_pushL {o : Oper} {a : Act} {K : Act → World → Prop} {Q : Exit → Act → World → Prop} (w : World) (B : Nat) (v c : Value) (ls : List Bytes) (l : Bytes) (s t : Operand)
    (ho : o.op = .call { callee := .builtin .append, args := #[s, t], argTypes := #[22, 22] }) (hs : a.eval s = v) (ht : a.eval t = .slice (some ⟨w.heap.size, 0, none⟩) 1 1)
    (h : KL w B v ls) (hc : SlB w c l) (hl : ls.length < 1099511627776) (hB : B ≤ w.heap.size)
    (hK : ∀ v' w', KL w' B v' (ls ++ [l]) → Grw (w.alloc (.cells #[c] 23)) w' v v' → KB w w' → K (a.put o.dst v') w') : o.wp Try.prog a (w.alloc (.cells #[c] 23)) K Q := by
  obtain ⟨i0, hi, hz0, hz1, hz2⟩ := info_parts infoL
  obtain ⟨cs, hown, hel, hall⟩ := h
  obtain ⟨ac, cc, rfl⟩ := hc.form
  refine wp_append_x s t _ ho B 23 i0 (.slice none 0 0) 1 24 Try.underlying22 hi hz0 hz1 hz2 rfl (by decide) v ls.length cs hs (hown.alloc _) _ 1 [.slice ac l.length cc] ht (Sl.one w _ _) (by simp [Value.oneCell']) (by unfold maxLen; omega) (by omega) (by simp; omega) ?_
  intro v' w' h1 h2 h3
  have hall' : AllC (w.alloc (.cells #[.slice ac l.length cc] 23)) v noB := fun g hg o u hu => by
    have hlt := (hown.lt g hg).2
    rw [((Keeps.refl [] w).alloc _).cell g o hlt (by simp)] at hu
    exact hall g hg o u hu
  have hkb : KB w w' := (KB.alloc w _).trans (h2.kb hall')
  refine hK v' w' ⟨cs ++ [.slice ac l.length cc], by simpa using h1, fun k c' l' e1 e2 => ?_, h3 noB (by simp [noB]) (by simp [Value.cells, noB]) hall'⟩ h2 hkb
  have hlen : cs.length = ls.length := by have := hown.1; omega
  rcases Nat.lt_or_ge k cs.length with hk | hk
  · rw [List.getElem?_append_left hk] at e1
    rw [List.getElem?_append_left (by omega)] at e2
    exact (hel k c' l' e1 e2).kb hkb
  · rw [List.getElem?_append_right hk] at e1
    rw [List.getElem?_append_right (by omega)] at e2
    have : k - cs.length = 0 := by
      have := (List.getElem?_eq_some_iff.1 e1).1
      simp at this; omega
    rw [this] at e1
    rw [show k - ls.length = 0 by omega] at e2
    simp at e1 e2
    subst e1 e2
    exact hc.kb hkb
/-- .. at the operation. -/
theorem wpl_pushL {ops : Array Oper} {rest : List Oper} {o : Oper} {a : Act} {Q : Exit → Act → World → Prop} (w : World) (B : Nat) (v c : Value) (ls : List Bytes) (l : Bytes) (hg : o.guard = none) (s t : Operand)
    (ho : o.op = .call { callee := .builtin .append, args := #[s, t], argTypes := #[22, 22] }) (hs : a.eval s = v) (ht : a.eval t = .slice (some ⟨w.heap.size, 0, none⟩) 1 1)
    (h : KL w B v ls) (hc : SlB w c l) (hl : ls.length < 1099511627776) (hB : B ≤ w.heap.size)
    (hK : ∀ v' w', KL w' B v' (ls ++ [l]) → Grw (w.alloc (.cells #[c] 23)) w' v v' → KB w w' → wpList Try.prog ops Q rest (a.put o.dst v') w') : wpList Try.prog ops Q (o :: rest) a (w.alloc (.cells #[c] 23)) :=
  wpList_plain hg fun _ hK' => wp_pushL w B v c ls l s t ho hs ht h hc hl hB fun v' w' h1 h2 h3 => hK' _ _ (hK v' w' h1 h2 h3)
structure Ch (w : World) (B bc bm n : Nat) (vk : Value) (C : Chan) : Prop where
  blk : w.heap[bc]? = some (.cells #[.int .i64 C.sent, .int .i64 C.acked, .int .i64 C.received, vk, .map (some bm)] 79 (0, 0))
  kept : KL w B vk C.kept
  early : ME w bm n C.early

theorem Ch.cells {w : World} {B bc bm n : Nat} {vk : Value} {C : Chan} (h : Ch w B bc bm n vk C) :
    w.cell? ⟨bc, 0, none⟩ = some (.int .i64 C.sent) ∧ w.cell? ⟨bc, 1, none⟩ = some (.int .i64 C.acked) ∧ w.cell? ⟨bc, 2, none⟩ = some (.int .i64 C.received) ∧ w.cell? ⟨bc, 3, none⟩ = some vk ∧ w.cell? ⟨bc, 4, none⟩ = some (.map (some bm)) ∧
    (∀ o, w.frozen? ⟨bc, o, none⟩ = false) ∧ bc < w.heap.size := by
  have h1 := h.blk
  refine ⟨by simp [World.cell?, h1], by simp [World.cell?, h1], by simp [World.cell?, h1], by simp [World.cell?, h1], by simp [World.cell?, h1], fun o => by simp [World.frozen?, h1], (Array.getElem?_eq_some_iff.1 h1).1⟩

set_option maxRecDepth 100000 in
set_option maxHeartbeats 2000000 in
theorem new_c (w : World) : Calls Try.prog 11 #[] w fun e w' => ∃ bc bm, e = .returned (.pointer (some ⟨bc, 0, none⟩)) ∧ w.heap.size ≤ bc ∧ w.heap.size ≤ bm ∧ bc ≠ bm ∧ Ch w' w'.heap.size bc bm 0 (.slice none 0 0) ⟨0, 0, 0, [], fun _ => none⟩ ∧ Keeps [] w w' := by
  have hmm := @run_makeMap Try.prog
  go_enter Try.func11, Try.ntmps11
  go_wp2
  go_ret
  refine ⟨w.heap.size + 1, w.heap.size, rfl, by omega, by omega, by omega, ⟨by simpa using heap_alloc_new (w.alloc (.map #[] 0)) _, ?_, ?_⟩, ((Keeps.refl _ w).alloc _).alloc _⟩
  · exact ⟨[], World.ownsRow_nil _ _ _ _, by simp, fun g hg => by simp [Value.ownBlock] at hg⟩
  · exact ⟨.map [], (World.ownsMap_made w _ _ _).alloc _, fun s _ => ⟨fun _ => rfl, by simp⟩⟩

set_option maxRecDepth 100000 in
set_option maxHeartbeats 2000000 in
theorem sent_c (w : World) (B bc bm n : Nat) (vk : Value) (C : Chan) (h : Ch w B bc bm n vk C) : Calls Try.prog 26 #[.pointer (some ⟨bc, 0, none⟩)] w fun e w' => e = .returned (.int .i64 C.sent) ∧ w = w' := by
  obtain ⟨c0, c1, c2, c3, c4, cf, hlt⟩ := h.cells
  clear h c1 c2 c3 c4 cf
  go_enter Try.func26, Try.ntmps26
  go_wp2
  go_ret
  exact ⟨rfl, rfl⟩
set_option maxRecDepth 100000 in
set_option maxHeartbeats 2000000 in
theorem acked_c (w : World) (B bc bm n : Nat) (vk : Value) (C : Chan) (h : Ch w B bc bm n vk C) : Calls Try.prog 25 #[.pointer (some ⟨bc, 0, none⟩)] w fun e w' => e = .returned (.int .i64 C.acked) ∧ w = w' := by
  obtain ⟨c0, c1, c2, c3, c4, cf, hlt⟩ := h.cells
  clear h c0 c2 c3 c4 cf
  go_enter Try.func25, Try.ntmps25
  go_wp2
  go_ret
  exact ⟨rfl, rfl⟩
set_option maxRecDepth 100000 in
set_option maxHeartbeats 2000000 in
theorem received_c (w : World) (B bc bm n : Nat) (vk : Value) (C : Chan) (h : Ch w B bc bm n vk C) : Calls Try.prog 15 #[.pointer (some ⟨bc, 0, none⟩)] w fun e w' => e = .returned (.int .i64 C.received) ∧ w = w' := by
  obtain ⟨c0, c1, c2, c3, c4, cf, hlt⟩ := h.cells
  clear h c0 c1 c3 c4 cf
  go_enter Try.func15, Try.ntmps15
  go_wp2
  go_ret
  exact ⟨rfl, rfl⟩
end Go.Proofs.Ytilmcdieihmiaaa
