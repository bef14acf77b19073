/- Byte slices, and lists of byte slices, among a law's arguments, opened. -/
import Derived.Test.YtilmcdieihmiaaaTexts
import Derived.Deep.Matrix
namespace Go.Proofs.Ytilmcdieihmiaaa
open Go.ChangeShapes Go.WideShapes Go.ChangeAt Go.RowKit

def u8 (z : Int) : UInt8 := UInt8.ofNat z.toNat
theorem u8_back {z : Int} (h : (Lit.int .u8 z).wf = true) : ((u8 z).toNat : Int) = z := by
  have hb : 0 ≤ z ∧ z ≤ 255 := by simpa [Lit.wf, IntKind.min, IntKind.max, IntKind.signed, IntKind.bits] using h
  simp [u8]; omega
theorem slB_of {W : World} {A : Option Addr} {L C : Nat} {Z : List Int} (hl : L ≤ C) (hc : C ≤ maxLen) (hz : Z.length = C) (hw : ∀ n ∈ Z, (Lit.int .u8 n).wf = true) (hA : A = none → C = 0)
    (hcell : ∀ a', A = some a' → ∀ c, c < C → W.cell? (a'.add c) = some (.int .u8 (Z.getD c 0))) : SlB W (.slice A L C) ((Z.take L).map u8) ∧ ((Z.take L).map u8).length = L := by
  have hlen : ((Z.take L).map u8).length = L := by simp; omega
  refine ⟨⟨by simp [bys], A, C, by rw [hlen], by omega, hc, hA, fun hp => ?_⟩, hlen⟩
  have hp' : 0 < L := by simp [bys] at hp; omega
  cases A with
  | none => have := hA rfl; omega
  | some a =>
    obtain ⟨b, off, spot⟩ := a
    have h0 := hcell _ rfl 0 (by omega)
    have hspot : spot = none := by simpa [Addr.add] using World.cell?_spot h0
    subst hspot
    refine ⟨b, off, rfl, fun j u hj => ?_⟩
    have hjl : j < L := by
      have := (List.getElem?_eq_some_iff.1 hj).1
      simp [bys] at this; omega
    have hjz : j < Z.length := by omega
    have e : u = .int .u8 (Z[j]) := by
      have hw' := u8_back (hw Z[j] (List.getElem_mem _))
      simp [bys, List.getElem?_take, hjl, hjz] at hj
      rw [← hj, hw']
    subst e
    have := hcell _ rfl j (by omega)
    rw [add_plain] at this
    rw [this]
    simp [List.getD, hjz]

theorem ceB : Try.prog.cellsOf 5 = 1 := by kernel_rfl
theorem ceL : Try.prog.cellsOf 23 = 1 := by kernel_rfl
set_option maxRecDepth 100000 in
set_option maxHeartbeats 1000000 in
theorem open_bytesT {H : Type} {t e : TypeId} (ht : Try.prog.underlying t = some (.slice e)) (he : Try.prog.underlying e = some (.int .u8)) (hce : Try.prog.cellsOf e = 1) {enc : TypeId × Value → H} {W : World} {base : Nat} {r : Reach} {v : Value} {d : DataW H} {ps : List MemPlace} (hv : Value.okWide Try.prog W r base t v)
    (h : DataW.Trod enc Try.prog W 0 (fun _ => true) true t v d ps) : ∃ l : List UInt8, SlB W v l := by
  obtain ⟨a0, n0, c0, rfl⟩ := okWide_slice ht hv
  obtain ⟨fuel, hf⟩ := h
  rcases open_ints ht he hce hf with ⟨hcs, _⟩ | ⟨a', len', cap', zs, hcs, hb', hl', hm', hz, hy, hcell, hwz⟩
  · simp [Value.cells] at hcs
    obtain ⟨rfl, rfl, rfl⟩ := hcs
    exact ⟨[], SlB.nil _⟩
  · simp [Value.cells] at hcs
    obtain ⟨rfl, rfl, rfl⟩ := hcs
    simp only [if_true] at hz
    exact ⟨_, (slB_of hl' hm' hz hwz (fun e => by cases e) (fun a'' e c hc => by cases e; exact hcell c (by rw [hz]; exact hc))).1⟩

set_option maxRecDepth 100000 in
set_option maxHeartbeats 1000000 in
theorem open_textsT {H : Type} {t e q : TypeId} (ht : Try.prog.underlying t = some (.slice e)) (he : Try.prog.underlying e = some (.slice q)) (hq : Try.prog.underlying q = some (.int .u8)) (hce : Try.prog.cellsOf e = 1) (hcq : Try.prog.cellsOf q = 1) {enc : TypeId × Value → H} {W : World} {base : Nat} {r : Reach} {v : Value} {d : DataW H} {ps : List MemPlace} (hv : Value.okWide Try.prog W r base t v)
    (h : DataW.Trod enc Try.prog W 0 (fun _ => true) true t v d ps) : ∃ ls : List (List UInt8), SLs W v ls := by
  obtain ⟨a0, n0, c0, rfl⟩ := okWide_slice ht hv
  obtain ⟨fuel, hf⟩ := h
  rcases Go.Deep.open_int_rows ht he hq hce hcq hf with ⟨hcs, _⟩ | ⟨a, len, cap, A, L, C, Z, hcs, _, hl, hm, _, hx⟩
  · simp [Value.cells] at hcs
    obtain ⟨rfl, rfl, rfl⟩ := hcs
    exact ⟨[], SLs.nil _⟩
  · simp [Value.cells] at hcs
    obtain ⟨rfl, rfl, rfl⟩ := hcs
    refine ⟨(List.range n0).map fun r => ((Z r).take (L r)).map u8, (List.range n0).map fun r => .slice (A r) (L r) (C r), ⟨by simp, some a, c0, by simp, by simpa using hl, hm, by simp, fun hp => ?_⟩, fun k c l h1 h2 => ?_⟩
    · have hn : 0 < n0 := by simpa using hp
      obtain ⟨b, off, spot⟩ := a
      have hspot : spot = none := by simpa [Addr.add] using World.cell?_spot (hx 0 (by omega)).1
      subst hspot
      refine ⟨b, off, rfl, fun j u hj => ?_⟩
      have hjl : j < n0 := by have := (List.getElem?_eq_some_iff.1 hj).1; simpa using this
      simp [hjl] at hj
      subst hj
      have := (hx j (by omega)).1
      rwa [add_plain] at this
    · have hk : k < n0 := by have := (List.getElem?_eq_some_iff.1 h1).1; simpa using this
      simp [hk] at h1 h2
      subst h1; subst h2
      obtain ⟨_, r1, r2, r3, r4, r5, r6⟩ := hx k (by omega)
      simpa using (slB_of r1 r2 r3 r4 r5 (fun a' e => (r6 a' e).2)).1
set_option maxRecDepth 100000 in
set_option maxHeartbeats 1000000 in
theorem open_bytes {H : Type} {enc : TypeId × Value → H} {W : World} {base : Nat} {r : Reach} {v : Value} {d : DataW H} {ps : List MemPlace} (hv : Value.okWide Try.prog W r base 23 v)
    (h : DataW.Trod enc Try.prog W 0 (fun _ => true) true 23 v d ps) : ∃ l : List UInt8, SlB W v l :=
  open_bytesT Try.underlying23 Try.underlying5 ceB hv h
set_option maxRecDepth 100000 in
set_option maxHeartbeats 1000000 in
theorem open_texts {H : Type} {enc : TypeId × Value → H} {W : World} {base : Nat} {r : Reach} {v : Value} {d : DataW H} {ps : List MemPlace} (hv : Value.okWide Try.prog W r base 22 v)
    (h : DataW.Trod enc Try.prog W 0 (fun _ => true) true 22 v d ps) : ∃ ls : List (List UInt8), SLs W v ls :=
  open_textsT Try.underlying22 Try.underlying23 Try.underlying5 ceL ceB hv h
end Go.Proofs.Ytilmcdieihmiaaa
